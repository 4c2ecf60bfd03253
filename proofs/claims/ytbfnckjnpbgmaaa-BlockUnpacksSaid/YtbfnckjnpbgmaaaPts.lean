/- The reference's Uvarint, and the walk of BitioPuts: PutUvarint returns the bytes and the reference's encoding behind them, and the bytes stay. For at most 100 bytes and every uint64. -/
import Derived.Test.YtbfnckjnpbgmaaaKeep
import Derived.Test.YtbfnckjnpbgmaaaGro
import Derived.Test.YtbfnckjnpbgmaaaRefD
namespace Go.Proofs.Ytbfnckjnpbgmaaa
open Go.RowKit Go.Proofs.YtbfnckjnpbgmaaaW.PrintWords Go.Proofs.YtbfnckjnpbgmaaaW.PrintLast
set_option linter.unusedVariables false

theorem wrap_u64_nat (n : Nat) (h : n < 18446744073709551616) : IntKind.u64.wrap (n : Int) = n := by rw [IntKind.wrap_u64]; omega
theorem uvRef_l (k : Nat) : ∀ (v : Nat) (acc : List Int), v < 18446744073709551616 → (uvL v).length ≤ k → acc.length + k < 140737488355328 → Refs.corporaref02_Uvarint.l0 k v acc = some (acc ++ uvL v) := by
  induction k with
  | zero => intro v acc _ h _; have := uvL_pos v; omega
  | succ k ih =>
    intro v acc hv hl ha
    simp only [Refs.corporaref02_Uvarint.l0]
    by_cases h : 128 ≤ v
    · rw [if_pos (by omega), if_pos (by omega)]
      have e1 : IntKind.u64.wrap (Int.tdiv (v : Int) 128) = ((v / 128 : Nat) : Int) := by
        rw [Int.tdiv_eq_ediv_of_nonneg (by omega), show (v : Int) / 128 = ((v / 128 : Nat) : Int) by omega]
        exact wrap_u64_nat _ (by omega)
      have e2 : (Int.tmod (v : Int) 128 + 128) % 256 = ((v % 128 + 128 : Nat) : Int) := by
        rw [Int.tmod_eq_emod_of_nonneg (by omega)]; omega
      rw [uvL_ge h] at hl
      simp only [List.length_cons] at hl
      rw [e1, e2, ih (v / 128) _ (by omega) (by omega) (by simp only [List.length_append, List.length_singleton]; omega), uvL_ge h, List.append_assoc]
      rfl
    · rw [if_neg (by omega), if_pos (by omega), uvL_lt h]
      have : (v : Int) % 256 = v := by omega
      rw [this]
theorem uvRef_f (v : Nat) (h : v < 18446744073709551616) : Refs.corporaref02_Uvarint.f 10 v = some (uvL v) := by
  unfold Refs.corporaref02_Uvarint.f
  rw [uvRef_l 10 v [] h (uvL_len v h) (by simp), List.nil_append]
theorem uvRef_any (x : Int) (v : Nat) (w : World) (hx : x = v) (h : v < 18446744073709551616) :
    Calls Try.prog 22 #[.int .u64 x] w fun e w' => MadeBytes w (uvL v) e w' := by
  subst hx
  refine (Refs.corporaref02_Uvarint.calls 10 v (uvL v) w (uvRef_f v h)).mono ?_
  rintro e w' ⟨v0, he, hr, hb⟩
  exact ⟨v0, he, hr, hb⟩

/-- A row of the call's own beside an elder row that is written. -/
theorem R_apart {α : Type} {d : Kd α} {e base : Nat} {ok : Nat → Prop} {W W1 : World} {v : Value} {xs : List α} {row : Option Nat} (h : d.R e W base ok v xs) (hg : W.grownBy W1 row) (hr : ∀ k, row = some k → k < base) : d.R e W1 base ok v xs :=
  Kd.R_mono (Kd.R_grown (Kd.R_bound h) hg (fun k hk e => by have := hr k e.symm; have := hk.2.1; omega)) (fun _ hk => hk.1)

theorem own_C {w : World} {base c : Nat} {A : Option Addr} {B : List Int} (h : w.ownsRow base 5 1 (.slice A B.length c) B.length (nums .u8 B)) : B.length ≤ c ∧ Kd.C (Kd.int .u8) w A B.length B := by
  have h1 : Kd.R (Kd.int .u8) 5 w base (fun _ => True) (.slice A B.length c) B := Kd.R_of_own h (fun _ _ => trivial)
  exact (Kd.R_reads' h1).2

/-- Bytes that came in. -/
def InBytes (w : World) (A : Option Addr) (n c : Nat) (B : List Int) : Prop := B.length = n ∧ n ≤ c ∧ IsBytes B ∧ Kd.C (Kd.int .u8) w A B.length B

set_option maxHeartbeats 1000000 in
set_option maxRecDepth 100000 in
theorem puts_walk (A : Option Addr) (n c : Nat) (B : List Int) (a1 : Int) (w : World) (hin : InBytes w A n c B) (w1 : (Lit.int .u64 a1).wf = true) :
    Calls Try.prog 3 #[.slice A n c, .int .u64 a1] w fun e w' => e = .returned (.bool true) ∧ Below w.heap.size w w' := by
  obtain ⟨v, rfl, hv⟩ := u64_nat w1
  obtain ⟨rfl, hc, hB, hr⟩ := hin
  have HB0 := Aside0.mk hB
  have HR0 := Aside0.mk hr
  clear hB hr w1
  by_cases h100 : 100 < B.length
  · go_enter Try.func3, Try.ntmps3
    go_wp2_with fail
    go_ret
    exact ⟨rfl, Below.refl _ _⟩
  · have HREADS := Aside0.mk (Kd.reads_of_C (d := (0 : Int)) HR0.out)
    have HNIL := Aside0.mk (own_nil w w.heap.size 5 1)
    have hul := uvL_len v hv
    have hlb : (B ++ uvL v).length ≤ 110 := by rw [List.length_append]; omega
    obtain ⟨BV, hBV⟩ : ∃ BV, BV = B ++ uvL v := ⟨_, rfl⟩
    rw [← hBV] at hlb
    have HIB : Aside0 (IsBytes BV) := ⟨by rw [hBV]; exact HB0.out.append (uvL_bytes v)⟩
    have HBV := Aside0.mk hBV
    clear hBV
    go_enter Try.func3, Try.ntmps3
    go_wp2_with (first | (at_builtin; refine print_append_row (w0 := w) w.heap.size rfl (.const (.slice none 0 0)) (.tmp 9) 22 5 .u8 1 rfl Try.underlying22 Refs.info5 (by omega) (.slice none 0 0) [] B A _ c rfl rfl HNIL.out HREADS.out ?aB ?aS ?aL ?_; (case aB => exact Below.refl _ _); (case aS => omega); (case aL => simp; omega); intro v1 w1 hown hB1 hg1 hat1; simp only [List.nil_append] at hown; have HO1 := Aside0.mk hown; have HB1 := Aside0.mk hB1; obtain ⟨A1, c1, hv1⟩ := own_slice hown; subst hv1; clear hown hB1 hg1 hat1))
    refine (putUvarint_any A c B _ v _ (Kd.C_below HR0.out HB1.out) hc rfl (by omega) hv).mono ?_
    rintro e w2 ⟨v2, rfl, hr2, hb2⟩
    rw [← HBV.out] at hr2
    obtain ⟨A2, c2, hv2, hl2, hC2⟩ := Kd.R_reads hr2
    subst hv2
    have HR2 := Aside0.mk hr2
    have HL2 := Aside0.mk hl2
    have HB2 := Aside0.mk (below_step HB1.out hb2)
    have HO2 := Aside0.mk (pw_own_below HO1.out hb2)
    have HLT := Aside0.mk (own_lt HO1.out)
    clear hr2 hb2 hl2 hC2 HO1 HB1
    go_wp2_with fail
    refine (uvRef_any _ v _ rfl hv).mono ?_
    rintro e w3 ⟨v3, rfl, hr3, hb3⟩
    obtain ⟨A3, c3, hv3, hl3, hC3⟩ := Kd.R_reads hr3
    subst hv3
    have HREADS3 := Aside0.mk (Kd.reads_of_C (d := (0 : Int)) hC3)
    have HB3 := Aside0.mk (below_step HB2.out hb3)
    have HO3 := Aside0.mk (pw_own_below HO2.out hb3)
    have HR3 := Aside0.mk (Kd.R_below HR2.out hb3)
    have hz3 := HB3.out.size
    clear hr3 hb3 hl3 hC3 HO2 HB2 HR2
    go_wp2_with (first | (at_builtin; refine append_keep (w0 := w) w.heap.size rfl (.tmp 14) (.tmp 16) 22 5 .u8 1 rfl Try.underlying22 Refs.info5 (by omega) (.slice A1 B.length c1) B (uvL v) A3 _ c3 rfl rfl HO3.out HREADS3.out ?aB ?aS ?aL ?_; (case aB => exact HB3.out); (case aS => omega); (case aL => omega); intro v4 w4 hown hold hB4 hg4; rw [← HBV.out] at hown; have HO4 := Aside0.mk hown; have HOLD := Aside0.mk hold; have HB4 := Aside0.mk hB4; have HR4 := Aside0.mk (R_apart HR3.out hg4 HLT.out); obtain ⟨A4, c4, hv4⟩ := own_slice hown; subst hv4; clear hown hold hB4 hg4))
    have HC4 := Aside0.mk (own_C HO4.out)
    have HCO := Aside0.mk (own_C HOLD.out)
    have HC2 := Aside0.mk (Kd.R_reads' HR4.out).2
    refine (same_any A2 c2 BV A4 c4 BV _ HC2.out.2 HC2.out.1 HC4.out.2 HC4.out.1 HIB.out HIB.out).mono ?_
    rintro e w5 ⟨rfl, ⟨n5, rfl⟩⟩
    have hcut := (print_take_of (P := Try.prog) (Value.int .u8) (0 : Int) 22 5 .i64 Try.underlying22 (info_parts Refs.info5).choose_spec.1 (info_parts Refs.info5).choose_spec.2.2.1 A1 c1 B (B.length : Int) (by omega) (by omega) HCO.out.1).1
    rw [Int.toNat_natCast, List.take_length] at hcut
    rw [decide_eq_true (rfl : BV = BV)]
    go_wp2_with fail
    refine (same_any A c B A1 c1 B _ (Kd.C_drewN (Kd.C_below HR0.out HB4.out) n5) hc (Kd.C_drewN HCO.out.2 n5) HCO.out.1 HB0.out HB0.out).mono ?_
    rintro e w6 ⟨rfl, ⟨n6, rfl⟩⟩
    rw [decide_eq_true (rfl : B = B)]
    go_wp2_with fail
    refine (awake_any _).mono ?_
    rintro e w7 ⟨rfl, hb7⟩
    have HB7 := Aside0.mk (below_step (pw_below_drewN HB4.out _) hb7)
    clear hb7
    go_wp2_with fail
    go_ret
    exact ⟨rfl, HB7.out⟩

/-- A slice as the row's step hands it over. -/
theorem InBytes.of {w : World} {a : Option Addr} {len cap : Nat} {zs : List Int}
    (h : (a = none ∧ len = 0 ∧ cap = 0 ∧ zs = []) ∨ ∃ x, a = some x ∧ len ≤ cap ∧ cap ≤ maxLen ∧ zs.length = cap ∧ (∀ i, i < zs.length → w.cell? (x.add i) = some (.int .u8 (zs.getD i 0))) ∧ ∀ n ∈ zs, (Lit.int .u8 n).wf = true) :
    InBytes w a len cap (zs.take len) := by
  rcases h with ⟨rfl, rfl, rfl, rfl⟩ | ⟨x, rfl, hl, hm, hz, hc, hw⟩
  · exact ⟨rfl, Nat.le_refl _, fun x hx => by simp at hx, Kd.C_nil _ _⟩
  · have hlen : (zs.take len).length = len := by rw [List.length_take, hz]; omega
    refine ⟨hlen, hl, fun n hn => ?_, ?_⟩
    · have := bounds_u8 (hw n (List.mem_of_mem_take hn))
      omega
    · rw [hlen]
      refine Kd.C_of_reads (d := (0 : Int)) (h1 := fun _ => rfl) ⟨hlen, by simp only [maxLen] at hm; omega, fun _ => ⟨x, rfl, fun j hj => ?_⟩⟩
      rw [hc j (by omega), List.getD_eq_getElem?_getD, List.getD_eq_getElem?_getD, List.getElem?_take_of_lt hj]
end Go.Proofs.Ytbfnckjnpbgmaaa
