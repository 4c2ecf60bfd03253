/- The reference's Top, and the walk of BitioSizes: how many bits the gamma code and the delta code of a number have. For every uint64. -/
import Derived.Test.YtbfnckjnpbgmaaaPts
import Derived.Test.YtbfnckjnpbgmaaaRefE
namespace Go.Proofs.Ytbfnckjnpbgmaaa
open Go.RowKit Go.Proofs.YtbfnckjnpbgmaaaW.PrintWords Go.Proofs.YtbfnckjnpbgmaaaW.PrintLast
set_option linter.unusedVariables false

theorem bitLen_zero : Lib.bitLen 0 = 0 := by decide
theorem bitLen_one : Lib.bitLen 1 = 1 := by decide
theorem topRef_l (k : Nat) : ∀ (v n : Nat), v ≠ 0 → v < 18446744073709551616 → Lib.bitLen v ≤ k → n + k < 1000 → Refs.corporaref02_Top.l0 k v n = some ((n + (Lib.bitLen v - 1) : Nat) : Int) := by
  induction k with
  | zero => intro v n h0 h1 hk _; have := bitLen_pos h0 h1; omega
  | succ k ih =>
    intro v n h0 h1 hk hn
    have hb := Lib.bitLen_half v h0 (by simpa using h1)
    simp only [Refs.corporaref02_Top.l0]
    by_cases h : v = 1
    · subst h
      rw [if_neg (by omega), bitLen_one]
      rfl
    · rw [if_pos (by omega)]
      have e1 : IntKind.u64.wrap (Int.tdiv (v : Int) 2) = ((v / 2 : Nat) : Int) := by
        rw [Int.tdiv_eq_ediv_of_nonneg (by omega), show (v : Int) / 2 = ((v / 2 : Nat) : Int) by omega]
        exact wrap_u64_nat _ (by omega)
      have e2 : wrap64 ((n : Int) + 1) = ((n + 1 : Nat) : Int) := by unfold wrap64; omega
      have hp := bitLen_pos (v := v / 2) (by omega) (by omega)
      rw [e1, e2, ih (v / 2) (n + 1) (by omega) (by omega) (by omega) (by omega), hb]
      congr 2
      omega
theorem top_any (x : Int) (v : Nat) (w : World) (hx : x = v) (h0 : v ≠ 0) (h : v < 18446744073709551616) :
    Calls Try.prog 27 #[.int .u64 x] w fun e w' => e = .returned (.int .i64 ((Lib.bitLen v - 1 : Nat) : Int)) ∧ Drawn0 w w' := by
  subst hx
  refine Refs.corporaref02_Top.calls 65 v _ w ?_
  unfold Refs.corporaref02_Top.f
  have := topRef_l 65 v 0 h0 h (by have := bitLen_le v h; omega) (by omega)
  simpa using this
theorem Half.row_ne {w : World} {b b' g g' n n' : Nat} {r r' : Option Nat} {B B' : List Int} (h : Half w b g r n B) (h2 : Half w b' g' r' n' B') : r ≠ some g' := by
  obtain ⟨v, _, _, ho, rfl⟩ := h
  obtain ⟨v', hb, _⟩ := h2
  exact fun e => own_ne ho hb (by decide) e.symm
theorem gammaL_length (v : Nat) : (gammaL v).length = 2 * Lib.bitLen v - 1 := by
  simp only [gammaL, List.length_append, List.length_replicate, lowL_length]; omega
theorem deltaL_length (v : Nat) : (deltaL v).length = 2 * Lib.bitLen (Lib.bitLen v) - 1 + (Lib.bitLen v - 1) := by
  simp only [deltaL, List.length_append, gammaL_length, lowL_length]

set_option maxHeartbeats 1000000 in
set_option maxRecDepth 100000 in
theorem sizes_walk (a0 : Int) (w0 : (Lit.int .u64 a0).wf = true) (w : World) :
    Calls Try.prog 5 #[.int .u64 a0] w fun e w' => e = .returned (.bool true) ∧ Below w.heap.size w w' := by
  obtain ⟨v, rfl, hv⟩ := u64_nat w0
  clear w0
  by_cases h0 : v = 0
  · subst h0
    go_enter Try.func5, Try.ntmps5
    go_wp2_with fail
    refine (newWriter_any _).mono ?_
    rintro e w1 ⟨rfl, hw1⟩
    have HB1 := Aside0.mk (show Below w.heap.size w w1 from hw1 ▸ below_alloc (Below.refl _ _) _)
    clear hw1
    go_wp2_with fail
    refine (newWriter_any _).mono ?_
    rintro e w2 ⟨rfl, hw2⟩
    have HB2 := Aside0.mk (show Below w.heap.size w w2 from hw2 ▸ below_alloc HB1.out _)
    clear hw2 HB1
    go_wp2_with fail
    go_ret
    exact ⟨rfl, HB2.out⟩
  · have e0 : ((v : Int) == 0) = false := by simpa using h0
    have hp := bitLen_pos h0 hv
    have hl64 := bitLen_le v hv
    have hp2 := bitLen_pos (v := Lib.bitLen v) (by omega) (by omega)
    have hl2 := bitLen_le (Lib.bitLen v) (by omega)
    obtain ⟨m, hm⟩ : ∃ m, m = Lib.bitLen v - 1 := ⟨_, rfl⟩
    obtain ⟨k, hk⟩ : ∃ k, k = Lib.bitLen (Lib.bitLen v) - 1 := ⟨_, rfl⟩
    have HG : Aside0 (((([] : List Bool) ++ gammaL v).length : Int) = 2 * (m : Int) + 1) := ⟨by rw [List.nil_append, gammaL_length]; omega⟩
    have HD : Aside0 (((([] : List Bool) ++ deltaL v).length : Int) = (m : Int) + 2 * (k : Int) + 1) := ⟨by rw [List.nil_append, deltaL_length]; omega⟩
    have HM := Aside0.mk hm
    have HK := Aside0.mk hk
    have HMB : Aside0 (m + 1 = Lib.bitLen v) := ⟨by omega⟩
    have hm63 : m ≤ 63 := by omega
    have hk63 : k ≤ 63 := by omega
    have H0 := Aside0.mk h0
    have HN0 := Aside0.mk (show Lib.bitLen v ≠ 0 by omega)
    clear h0 hm hk hp hl64 hp2 hl2
    go_enter Try.func5, Try.ntmps5
    go_wp2_with fail
    refine (newWriter_any _).mono ?_
    rintro e w1 ⟨rfl, hw1⟩
    have HB1 := Aside0.mk (show Below w.heap.size w w1 from hw1 ▸ below_alloc (Below.refl _ _) _)
    have HW1 := Aside0.mk (show Wr w1 w.heap.size w.heap.size none [] from hw1 ▸ Wr_new w w.heap.size (Nat.le_refl _))
    have hz1 : w1.heap.size = w.heap.size + 1 := by rw [← hw1]; simp
    have HZ1 := Aside0.mk hz1
    clear hw1 hz1
    go_wp2_with fail
    refine (newWriter_any _).mono ?_
    rintro e w2 ⟨rfl, hw2⟩
    have HB2 := Aside0.mk (show Below w.heap.size w w2 from hw2 ▸ below_alloc HB1.out _)
    have HW2 := Aside0.mk (show Wr w2 w.heap.size w1.heap.size none [] from hw2 ▸ Wr_new w1 w.heap.size HB1.out.size)
    have HV2 := Aside0.mk (show Wr w2 w.heap.size w.heap.size none [] from hw2 ▸ Half.below HW1.out (below_alloc (Below.refl _ _) _))
    clear hw2 HB1 HW1
    go_wp2_with fail
    refine (gamma_ok w.heap.size w.heap.size none [] _ v _ HV2.out rfl (by simp) H0.out hv).mono ?_
    rintro e w3 ⟨rfl, row3, hw3, hwr3⟩
    have HV3 := Aside0.mk hw3
    have HB3 := Aside0.mk (hwr3.below HB2.out HB2.out.size (Nat.le_refl _) (fun k hk => by cases hk))
    have HW3 := Aside0.mk (Half.other HW2.out hwr3 (by have := HZ1.out; omega) (by simp) (by simp) (.inl rfl))
    clear hw3 hwr3 HB2 HW2 HV2
    go_wp2_with fail
    refine (delta_ok w.heap.size w1.heap.size none [] _ v _ HW3.out rfl (by simp) H0.out hv).mono ?_
    rintro e w4 ⟨rfl, row4, hw4, hwr4⟩
    have HW4 := Aside0.mk hw4
    have HB4 := Aside0.mk (hwr4.below HB3.out HB3.out.size (by have := HZ1.out; omega) (fun k hk => by cases hk))
    have HV4 := Aside0.mk (Half.other HV3.out hwr4 (by have := HZ1.out; omega) (Half.row_ne HV3.out HW3.out) (by simp) (by cases row3 <;> simp))
    clear hw4 hwr4 HV3 HW3 HB3
    go_wp2_with fail
    refine (top_any _ v _ rfl H0.out hv).mono ?_
    rintro e w5 ⟨rfl, ⟨n5, rfl⟩⟩
    rw [← HM.out]
    go_wp2_with fail
    refine (len_any w.heap.size w.heap.size row3 _ _ (Half.drewN HV4.out n5)).mono ?_
    rintro e w6 ⟨rfl, rfl⟩
    rw [HG.out]
    go_wp2_with fail
    refine (len_any w.heap.size w1.heap.size row4 _ _ (Half.drewN HW4.out n5)).mono ?_
    rintro e w6 ⟨rfl, rfl⟩
    rw [HD.out]
    go_wp2_with fail
    refine (top_any _ (Lib.bitLen v) _ (by have := HMB.out; omega) HN0.out (by have := HMB.out; omega)).mono ?_
    rintro e w7 ⟨rfl, ⟨n7, rfl⟩⟩
    rw [← HK.out]
    go_wp2_with fail
    refine (awake_any _).mono ?_
    rintro e w8 ⟨rfl, hb8⟩
    have HB8 := Aside0.mk (below_step (pw_below_drewN HB4.out _) hb8)
    clear hb8
    go_wp2_with fail
    go_ret
    exact ⟨rfl, HB8.out⟩
end Go.Proofs.Ytbfnckjnpbgmaaa
