/- What same and the sanity check of layer 2 return: true. For every input. -/
import Derived.Test.YtbfnckjnpbgmaaaPuv
import Derived.Test.YtbfnckjnpbgmaaaRefB
import Derived.Lib.Bytes
namespace Go.Proofs.Ytbfnckjnpbgmaaa
open Go.RowKit Go.Proofs.YtbfnckjnpbgmaaaW.PrintWords Go.Proofs.YtbfnckjnpbgmaaaW.PrintLast
set_option linter.unusedVariables false

theorem ofNat_inj {a b : Nat} (ha : a < 256) (hb : b < 256) (h : UInt8.ofNat a = UInt8.ofNat b) : a = b := by
  have := congrArg UInt8.toNat h
  simp only [UInt8.toNat_ofNat'] at this
  omega
theorem bytes_map_inj : ∀ (B C : List Int), IsBytes B → IsBytes C → (B.map fun n => UInt8.ofNat n.toNat) = (C.map fun n => UInt8.ofNat n.toNat) → B = C
  | [], [], _, _, _ => rfl
  | [], _ :: _, _, _, h => by simp at h
  | _ :: _, [], _, _, h => by simp at h
  | b :: B, c :: C, hB, hC, h => by
    simp only [List.map_cons, List.cons.injEq] at h
    have h1 := hB b (by simp)
    have h2 := hC c (by simp)
    have := ofNat_inj (by omega) (by omega) h.1
    rw [bytes_map_inj B C (fun x hx => hB x (by simp [hx])) (fun x hx => hC x (by simp [hx])) h.2]
    congr 1
    omega
theorem str_toList (B : List Int) : (strOfNums B).toList = B.map fun n => UInt8.ofNat n.toNat := by
  rw [Lib.strOfNums_toList]; rfl
theorem str_eq (B C : List Int) (hB : IsBytes B) (hC : IsBytes C) : ((strOfNums B).toList == (strOfNums C).toList) = decide (B = C) := by
  rw [str_toList, str_toList]
  by_cases h : B = C
  · subst h; simp
  · simp only [h, decide_false]
    exact beq_eq_false_iff_ne.mpr (fun e => h (bytes_map_inj B C hB hC e))
theorem same_any (A0 : Option Addr) (c0 : Nat) (B : List Int) (A1 : Option Addr) (c1 : Nat) (C : List Int) (w : World) (hr0 : Kd.C (Kd.int .u8) w A0 B.length B) (hc0 : B.length ≤ c0) (hr1 : Kd.C (Kd.int .u8) w A1 C.length C) (hc1 : C.length ≤ c1) (hB : IsBytes B) (hC : IsBytes C) :
    Calls Try.prog 20 #[.slice A0 B.length c0, .slice A1 C.length c1] w fun e w' => e = .returned (.bool (decide (B = C))) ∧ Drawn0 w w' :=
  Refs.corporalaw02_same.calls A0 c0 B A1 c1 C (decide (B = C)) w hr0 hc0 hr1 hc1 (by unfold Refs.corporalaw02_same.f; rw [str_eq B C hB hC])

theorem uv300 : uvL 300 = [172, 2] := by rw [uvL_ge (by decide), uvL_lt (by decide)]; rfl
theorem awakeBits : packL ([] ++ gammaL 5 ++ deltaL 5) = [43, 64] ∧ ([] ++ gammaL 5 ++ deltaL 5).length = 10 := by decide +kernel

set_option maxHeartbeats 1000000 in
set_option maxRecDepth 100000 in
theorem awake_any (w : World) : Calls Try.prog 23 #[] w fun e w' => e = .returned (.bool true) ∧ Below w.heap.size w w' := by
  go_enter Try.func23, Try.ntmps23
  go_wp2_with fail
  refine (newWriter_any _).mono ?_
  rintro e w1 ⟨rfl, hw1⟩
  have HW := Aside0.mk (show Wr w1 w.heap.size w.heap.size none [] from hw1 ▸ Wr_new w w.heap.size (Nat.le_refl _))
  have HB := Aside0.mk (show Below w.heap.size w w1 from hw1 ▸ below_alloc (Below.refl _ _) _)
  clear hw1
  go_wp2_with fail
  refine (putUvarint_any none 0 [] _ 300 _ (Kd.C_nil _ _) (Nat.le_refl _) rfl (by simp) (by decide)).mono ?_
  rintro e w2 ⟨v2, rfl, hr2, hb2⟩
  rw [List.nil_append, uv300] at hr2
  obtain ⟨A2, c2, hv2, hl2, hC2⟩ := Kd.R_reads hr2
  simp only [List.length_cons, List.length_nil, Nat.zero_add, Nat.reduceAdd] at hv2
  subst hv2
  have hcv2 : (Go.convert 22 9 (.slice A2 2 c2)).run Try.prog w2 = .ok (.string ⟨#[172, 2]⟩) w2 := Kd.C_string (P := Try.prog) (A := A2) (c := c2) Try.underlying22 Try.underlying5 Try.underlying9 hC2
  have HW2 := Aside0.mk (Half.below HW.out hb2)
  have HB2 := Aside0.mk (below_step HB.out hb2)
  clear hr2 hb2 hl2 hC2 HW HB
  go_wp2_with fail
  refine (gamma_ok w.heap.size w.heap.size none [] _ 5 _ HW2.out rfl (by simp) (by decide) (by decide)).mono ?_
  rintro e w3 ⟨rfl, row3, hw3, hwr3⟩
  have HW3 := Aside0.mk hw3
  have HB3 := Aside0.mk (hwr3.below HB2.out HB2.out.size (Nat.le_refl _) (fun k hk => by cases hk))
  clear hw3 hwr3 hcv2 HW2 HB2
  go_wp2_with fail
  refine (delta_ok w.heap.size w.heap.size row3 _ _ 5 _ HW3.out rfl (by decide +kernel) (by decide) (by decide)).mono ?_
  rintro e w4 ⟨rfl, row4, hw4, hwr4⟩
  have HW4 := Aside0.mk hw4
  have HB4 := Aside0.mk (hwr4.below HB3.out HB3.out.size (Nat.le_refl _) (Half.row_base HW3.out))
  clear hw4 hwr4 HW3 HB3
  go_wp2_with fail
  refine (len_any w.heap.size w.heap.size row4 _ _ HW4.out).mono ?_
  rintro e w5 ⟨rfl, rfl⟩
  rw [awakeBits.2]
  go_wp2_with fail
  refine (bytes_any w.heap.size w.heap.size row4 _ _ HW4.out (by rw [awakeBits.2]; decide)).mono ?_
  rintro e w6 ⟨v6, rfl, hr6, hb6⟩
  rw [awakeBits.1] at hr6
  obtain ⟨A6, c6, hv6, hl6, hC6⟩ := Kd.R_reads hr6
  simp only [List.length_cons, List.length_nil, Nat.zero_add, Nat.reduceAdd] at hv6
  subst hv6
  have hcv6 : (Go.convert 22 9 (.slice A6 2 c6)).run Try.prog w6 = .ok (.string ⟨#[43, 64]⟩) w6 := Kd.C_string (P := Try.prog) (A := A6) (c := c6) Try.underlying22 Try.underlying5 Try.underlying9 hC6
  have HB6 := Aside0.mk (below_step HB4.out hb6)
  clear hr6 hb6 hl6 hC6 HW4 HB4
  go_wp2_with fail
  go_ret
  exact ⟨rfl, HB6.out⟩
end Go.Proofs.Ytbfnckjnpbgmaaa
