/- The walk of BitioGrows: greater numbers have no shorter encodings, and only equal numbers have equal ones. For every two uint64. -/
import Derived.Test.YtbfnckjnpbgmaaaAwa
import Derived.OpenShut
namespace Go.Proofs.Ytbfnckjnpbgmaaa
open Go.RowKit Go.Proofs.YtbfnckjnpbgmaaaW.PrintWords Go.Proofs.YtbfnckjnpbgmaaaW.PrintLast
set_option linter.unusedVariables false

theorem uvL_inj (v : Nat) : ∀ w, uvL v = uvL w → v = w := by
  induction v using Nat.strongRecOn with
  | _ v ih =>
    intro w h
    by_cases hv : 128 ≤ v
    · by_cases hw : 128 ≤ w
      · rw [uvL_ge hv, uvL_ge hw] at h
        injection h with h1 h2
        have := ih (v / 128) (by omega) _ h2
        omega
      · rw [uvL_ge hv, uvL_lt hw] at h
        injection h with h1 h2
        have := uvL_pos (v / 128)
        rw [h2] at this
        simp at this
    · by_cases hw : 128 ≤ w
      · rw [uvL_lt hv, uvL_ge hw] at h
        injection h with h1 h2
        have := uvL_pos (w / 128)
        rw [← h2] at this
        simp at this
      · rw [uvL_lt hv, uvL_lt hw] at h
        injection h with h1 h2
        omega
theorem uvL_mono (v : Nat) : ∀ w, v ≤ w → (uvL v).length ≤ (uvL w).length := by
  induction v using Nat.strongRecOn with
  | _ v ih =>
    intro w h
    by_cases hv : 128 ≤ v
    · rw [uvL_ge hv, uvL_ge (show 128 ≤ w by omega)]
      simp only [List.length_cons]
      have := ih (v / 128) (by omega) (w / 128) (by omega)
      omega
    · rw [uvL_lt hv]
      have := uvL_pos w
      simpa using this
theorem uvL_dec (v w : Nat) : decide (uvL v = uvL w) = ((v : Int) == (w : Int)) := by
  by_cases h : v = w
  · subst h; simp
  · have h1 : uvL v ≠ uvL w := fun e => h (uvL_inj v w e)
    have h2 : (v : Int) ≠ w := by omega
    simp [h1, h2]

theorem u64_nat {x : Int} (h : (Lit.int .u64 x).wf = true) : ∃ v : Nat, x = v ∧ v < 18446744073709551616 := by
  have h2 : 0 ≤ x ∧ x ≤ 18446744073709551615 := bounds_u64 h
  exact ⟨x.toNat, by omega, by omega⟩

set_option maxHeartbeats 1000000 in
set_option maxRecDepth 100000 in
theorem grows_walk (a0 a1 : Int) (w0 : (Lit.int .u64 a0).wf = true) (w1 : (Lit.int .u64 a1).wf = true) (w : World) :
    Calls Try.prog 4 #[.int .u64 a0, .int .u64 a1] w fun e w' => e = .returned (.bool true) ∧ Below w.heap.size w w' := by
  obtain ⟨v, rfl, hv⟩ := u64_nat w0
  obtain ⟨u, rfl, hu⟩ := u64_nat w1
  clear w0 w1
  have H1 := uvL_pos v
  have H2 := uvL_len v hv
  have HD := Aside0.mk (uvL_dec v u)
  have HM := Aside0.mk (uvL_mono v u)
  go_enter Try.func4, Try.ntmps4
  go_wp2_with fail
  refine (putUvarint_any none 0 [] _ v _ (Kd.C_nil _ _) (Nat.le_refl _) rfl (by simp) hv).mono ?_
  rintro e w2 ⟨v2, rfl, hr2, hb2⟩
  rw [List.nil_append] at hr2
  obtain ⟨A2, c2, hv2, hl2, hC2⟩ := Kd.R_reads hr2
  subst hv2
  have HC2 := Aside0.mk hC2
  have HL2 := Aside0.mk hl2
  have HB2 := Aside0.mk hb2
  clear hr2 hb2 hl2 hC2
  go_wp2_with fail
  refine (putUvarint_any none 0 [] _ u _ (Kd.C_nil _ _) (Nat.le_refl _) rfl (by simp) hu).mono ?_
  rintro e w3 ⟨v3, rfl, hr3, hb3⟩
  rw [List.nil_append] at hr3
  obtain ⟨A3, c3, hv3, hl3, hC3⟩ := Kd.R_reads hr3
  subst hv3
  have HC3 := Aside0.mk hC3
  have HL3 := Aside0.mk hl3
  have HB3 := Aside0.mk (below_step HB2.out hb3)
  have HC2' := Aside0.mk (Kd.C_below HC2.out hb3)
  clear hr3 hb3 hl3 hC3 HB2 HC2
  by_cases hlt : u < v
  · have d1 : decide ((u : Int) < v) = true := by simpa using hlt
    have d1' : decide (u < v) = true := by simpa using hlt
    clear hlt HM
    go_wp2_with fail
    refine (same_any A2 c2 (uvL v) A3 c3 (uvL u) _ HC2'.out HL2.out HC3.out HL3.out (uvL_bytes v) (uvL_bytes u)).mono ?_
    rintro e w4 ⟨rfl, ⟨n4, rfl⟩⟩
    rw [HD.out]
    go_wp2_with fail
    refine (awake_any _).mono ?_
    rintro e w5 ⟨rfl, hb5⟩
    have HB5 := Aside0.mk (below_step (pw_below_drewN HB3.out n4) hb5)
    clear hb5
    go_wp2_with fail
    go_ret
    exact ⟨rfl, HB5.out⟩
  · have hle := HM.out (by omega)
    have d1 : decide ((u : Int) < v) = false := by simp; omega
    have d1' : decide (u < v) = false := by simp; omega
    have d2 : decide ((uvL v).length ≤ (uvL u).length) = true := by simpa using hle
    clear hlt HM
    go_wp2_with fail
    refine (same_any A2 c2 (uvL v) A3 c3 (uvL u) _ HC2'.out HL2.out HC3.out HL3.out (uvL_bytes v) (uvL_bytes u)).mono ?_
    rintro e w4 ⟨rfl, ⟨n4, rfl⟩⟩
    rw [HD.out]
    go_wp2_with fail
    refine (awake_any _).mono ?_
    rintro e w5 ⟨rfl, hb5⟩
    have HB5 := Aside0.mk (below_step (pw_below_drewN HB3.out n4) hb5)
    clear hb5
    go_wp2_with fail
    go_ret
    exact ⟨rfl, HB5.out⟩
end Go.Proofs.Ytbfnckjnpbgmaaa
