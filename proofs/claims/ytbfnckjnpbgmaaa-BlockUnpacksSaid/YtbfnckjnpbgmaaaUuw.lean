/- The walk of BlockUnpacks: which bytes are a block, and its numbers. For at most 300 bytes. -/
import Derived.Test.YtbfnckjnpbgmaaaUnw
namespace Go.Proofs.Ytbfnckjnpbgmaaa
open Go.RowKit Go.Proofs.YtbfnckjnpbgmaaaW.PrintWords Go.Proofs.YtbfnckjnpbgmaaaW.PrintLast Go.Proofs.YtbfnckjnpbgmaaaW.PrintMore
set_option linter.unusedVariables false

set_option maxHeartbeats 2000000 in
set_option maxRecDepth 100000 in
theorem unpacks_walk (A : Option Addr) (n c : Nat) (B : List Int) (w : World) (h : InBytes w A n c B) :
    Calls Try.prog 19 #[.slice A n c] w fun e w' => e = .returned (.bool true) ∧ Below w.heap.size w w' := by
  by_cases h300 : 300 < n
  · clear h
    go_enter Try.func19, Try.ntmps19
    go_wp2_with fail
    go_ret
    exact ⟨rfl, Below.refl _ _⟩
  have hn : n ≤ 300 := by omega
  have hn6 : n ≤ 1000000 := by omega
  have hnl : ¬ (300 : Int) < (n : Int) := by omega
  have HU := Aside0.mk (unpack_any A n c B w h hn6)
  have HIN := Aside0.mk h
  have HSAME := Aside0.mk (unpackX_same limP limR limP_ok limR_ok B)
  clear h h300
  obtain ⟨r, hr⟩ : ∃ r, r = unpackX limR B := ⟨_, rfl⟩
  rw [HSAME.out, ← hr] at HU
  have HR := Aside0.mk hr
  clear hr HSAME
  cases r with
  | none =>
    go_enter Try.func19, Try.ntmps19
    go_wp2_with fail
    refine HU.out.mono ?_
    rintro e w1 ⟨hb1, he⟩
    simp only at he
    subst he
    have HB1 := Aside0.mk hb1
    clear hb1
    go_wp2_with fail
    refine (unpackRef15_any A n c B w1 (HIN.out.below HB1.out) hn6).mono ?_
    rintro e w2 hu2
    rw [← HR.out] at hu2
    obtain ⟨hb2, rfl⟩ := hu2
    have HB2 := Aside0.mk (below_step HB1.out hb2)
    clear hb2
    go_wp2_with fail
    refine (awakeB_any _).mono ?_
    rintro e w3 ⟨rfl, hb3⟩
    have HB3 := Aside0.mk (below_step HB2.out hb3)
    clear hb3
    go_wp2_with fail
    go_ret
    exact ⟨rfl, HB3.out⟩
  | some vs =>
    have HOKL : Aside0 (vs.length ≤ 128) := ⟨(unpackX_sound HR.out.symm).1.1⟩
    have hvl := HOKL.out
    go_enter Try.func19, Try.ntmps19
    go_wp2_with fail
    refine HU.out.mono ?_
    rintro e w1 ⟨hb1, gv1, rfl, hv1⟩
    have HB1 := Aside0.mk hb1
    have HV1 := Aside0.mk hv1
    clear hb1 hv1
    go_wp2_with fail
    refine (unpackRef15_any A n c B w1 (HIN.out.below HB1.out) hn6).mono ?_
    rintro e w2 hu2
    rw [← HR.out] at hu2
    obtain ⟨hb2, gv2, rfl, hv2⟩ := hu2
    have HB2 := Aside0.mk (below_step HB1.out hb2)
    have HV2 := Aside0.mk hv2
    have HV12 := Aside0.mk (HV1.out.below hb2)
    clear hb2 hv2
    go_wp2_with fail
    refine (sameInts_any _ _ _ (ints vs) _ _ _ (ints vs) w2 HV12.out.asInts HV2.out.asInts (by omega)).mono ?_
    rintro e w3 ⟨rfl, ⟨n3, rfl⟩⟩
    rw [decide_eq_true (rfl : ints vs = ints vs)]
    have HB3 := Aside0.mk (pw_below_drewN HB2.out n3)
    go_wp2_with fail
    refine (awakeB_any _).mono ?_
    rintro e w4 ⟨rfl, hb4⟩
    have HB4 := Aside0.mk (below_step HB3.out hb4)
    clear hb4
    go_wp2_with fail
    go_ret
    exact ⟨rfl, HB4.out⟩
end Go.Proofs.Ytbfnckjnpbgmaaa
