/- The walk of BlockRoundTrips: numbers are unpacked from their block, and one by one. For every list of numbers. -/
import Derived.Test.YtbfnckjnpbgmaaaMun
namespace Go.Proofs.Ytbfnckjnpbgmaaa
open Go.RowKit Go.Proofs.YtbfnckjnpbgmaaaW.PrintWords Go.Proofs.YtbfnckjnpbgmaaaW.PrintLast Go.Proofs.YtbfnckjnpbgmaaaW.PrintMore
set_option linter.unusedVariables false

theorem InInts.cell {w : World} {A : Option Addr} {n c : Nat} {vs : List Nat} (h : InInts w A n c (ints vs)) (k : Nat) (hk : k < n) : ∃ ad, A = some ad ∧ w.cell? (ad.add k) = some (.int .i64 ((vs.getD k 0 : Nat) : Int)) := by
  obtain ⟨hn, hc, hC⟩ := h
  subst hn
  obtain ⟨ad, hA, hcell⟩ := (Kd.reads_of_C (d := (0 : Int)) hC).2.2 (by omega)
  refine ⟨ad, hA, ?_⟩
  have := hcell k hk
  rw [this]
  congr 2
  rw [← ints_getD]
theorem trips15_walk (A : Option Addr) (n c : Nat) (l : List Int) (i : Int) (w : World) (h : InInts w A n c l) :
    Calls Try.prog 7 #[.slice A n c, .int .i64 i] w fun e w' => e = .returned (.bool true) ∧ Below w.heap.size w w' := by
  have H := Aside0.mk h
  have hn := h.1
  clear h
  by_cases hc : checkV l = 0
  · obtain ⟨vs, rfl, hok⟩ := checkV_ok hc
    rw [ints_length] at hn
    have hn128 : vs.length ≤ 128 := hok.1
    have HCH := Aside0.mk hc
    have hel := encL_len vs (bestL vs) hok (bestL_le vs)
    obtain ⟨E, hE⟩ : ∃ E, E = encL vs (bestL vs) := ⟨_, rfl⟩
    have HPV : Aside0 (packV (ints vs) = E) := ⟨by rw [packV_ints hok, hE]⟩
    have HEB : Aside0 (IsBytes E) := ⟨hE ▸ encL_bytes vs _⟩
    have HUX : Aside0 (unpackX limP E = some vs) := ⟨by rw [hE]; exact unpackX_enc limP limP_ok vs hok⟩
    rw [← hE] at hel
    clear hE hc hok
    subst hn
    go_enter Try.func7, Try.ntmps7
    go_wp2_with fail
    refine (checkRef_any A _ c _ w H.out).mono ?_
    rintro e w1 ⟨rfl, hb1⟩
    rw [HCH.out]
    have HB1 := Aside0.mk hb1
    have HI1 := Aside0.mk (H.out.below hb1)
    clear hb1
    go_wp2_with fail
    refine (pack_any A _ c _ w1 HI1.out).mono ?_
    rintro e w2 ⟨v2, rfl, hr2, hb2⟩
    rw [HPV.out] at hr2
    rw [HCH.out]
    obtain ⟨A2, c2, hv2, hl2, hC2⟩ := Kd.R_reads hr2
    subst hv2
    have HE2 := Aside0.mk (show InBytes w2 A2 E.length c2 E from ⟨rfl, hl2, HEB.out, hC2⟩)
    have HB2 := Aside0.mk (below_step HB1.out hb2)
    have HI2 := Aside0.mk (HI1.out.below hb2)
    clear hr2 hb2 hl2 hC2 HI1 HB1
    go_wp2_with fail
    refine (unpack_any A2 E.length c2 E w2 HE2.out (by omega)).mono ?_
    rintro e w3 hu3
    rw [HUX.out] at hu3
    obtain ⟨hb3, gv, rfl, hv3⟩ := hu3
    have HV3 := Aside0.mk hv3
    have HE3 := Aside0.mk (HE2.out.below hb3)
    have HB3 := Aside0.mk (below_step HB2.out hb3)
    have HI3 := Aside0.mk (HI2.out.below hb3)
    clear hb3 hv3 HB2 HI2 HE2
    go_wp2_with fail
    refine (sameInts_any _ _ _ (ints vs) A _ c (ints vs) w3 HV3.out.asInts HI3.out (by omega)).mono ?_
    rintro e w4 ⟨rfl, ⟨n4, rfl⟩⟩
    rw [decide_eq_true (rfl : ints vs = ints vs)]
    have HE4 := Aside0.mk (show InBytes (w3.drewN n4) A2 E.length c2 E from ⟨HE3.out.1, HE3.out.2.1, HE3.out.2.2.1, Kd.C_drewN HE3.out.2.2.2 n4⟩)
    have HB4 := Aside0.mk (pw_below_drewN HB3.out n4)
    have HI4 := Aside0.mk (HI3.out.drewN n4)
    clear HV3 HE3 HB3 HI3
    go_wp2_with fail
    refine (get_any A2 E.length c2 E i _ HE4.out (by omega)).mono ?_
    rintro e w5 ⟨rfl, hb5⟩
    rw [HUX.out]
    have HB5 := Aside0.mk (below_step HB4.out hb5)
    have HI5 := Aside0.mk (HI4.out.below hb5)
    clear hb5 HE4 HB4 HI4
    by_cases h0 : i < 0
    · have hg : getV (some vs) i = (0, 8) := by simp [getV, h0]
      rw [hg]
      clear hg
      go_wp2_with fail
      refine (awakeB_any _).mono ?_
      rintro e w6 ⟨rfl, hb6⟩
      have HB6 := Aside0.mk (below_step HB5.out hb6)
      clear hb6
      go_wp2_with fail
      go_ret
      exact ⟨rfl, HB6.out⟩
    by_cases h1 : (vs.length : Int) ≤ i
    · have hg : getV (some vs) i = (0, 8) := by simp [getV, h1]
      rw [hg]
      clear hg
      go_wp2_with fail
      refine (awakeB_any _).mono ?_
      rintro e w6 ⟨rfl, hb6⟩
      have HB6 := Aside0.mk (below_step HB5.out hb6)
      clear hb6
      go_wp2_with fail
      go_ret
      exact ⟨rfl, HB6.out⟩
    · obtain ⟨k, rfl⟩ : ∃ k : Nat, i = k := ⟨i.toNat, by omega⟩
      have hk : k < vs.length := by omega
      have hg : getV (some vs) (k : Int) = (((vs.getD k 0 : Nat) : Int), 0) := by simp only [getV]; rw [if_neg (by omega), Int.toNat_natCast]
      rw [hg]
      obtain ⟨ad, hA, hcell⟩ := HI5.out.cell k hk
      subst hA
      obtain ⟨x, hx⟩ : ∃ x, x = vs.getD k 0 := ⟨_, rfl⟩
      rw [← hx] at hcell ⊢
      clear hg h0 h1 hx
      go_wp2_with fail
      refine (awakeB_any _).mono ?_
      rintro e w6 ⟨rfl, hb6⟩
      have HB6 := Aside0.mk (below_step HB5.out hb6)
      clear hb6
      go_wp2_with fail
      go_ret
      exact ⟨rfl, HB6.out⟩
  · have HCH := Aside0.mk hc
    go_enter Try.func7, Try.ntmps7
    go_wp2_with fail
    refine (checkRef_any A _ c _ w H.out).mono ?_
    rintro e w1 ⟨rfl, hb1⟩
    have HB1 := Aside0.mk hb1
    clear hb1
    go_wp2_with fail
    go_ret
    exact ⟨rfl, HB1.out⟩
end Go.Proofs.Ytbfnckjnpbgmaaa
