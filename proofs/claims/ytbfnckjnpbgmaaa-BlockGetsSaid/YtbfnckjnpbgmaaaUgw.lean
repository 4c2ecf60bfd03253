/- The walk of BlockGets: what Get returns for any bytes and any index. For at most 300 bytes. -/
import Derived.Test.YtbfnckjnpbgmaaaUnw
namespace Go.Proofs.Ytbfnckjnpbgmaaa
open Go.RowKit Go.Proofs.YtbfnckjnpbgmaaaW.PrintWords Go.Proofs.YtbfnckjnpbgmaaaW.PrintLast Go.Proofs.YtbfnckjnpbgmaaaW.PrintMore
set_option linter.unusedVariables false

set_option maxHeartbeats 2000000 in
set_option maxRecDepth 100000 in
theorem gets_walk (A : Option Addr) (n c : Nat) (B : List Int) (i : Int) (w : World) (h : InBytes w A n c B) :
    Calls Try.prog 9 #[.slice A n c, .int .i64 i] w fun e w' => e = .returned (.bool true) ∧ Below w.heap.size w w' := by
  by_cases h300 : 300 < n
  · clear h
    go_enter Try.func9, Try.ntmps9
    go_wp2_with fail
    go_ret
    exact ⟨rfl, Below.refl _ _⟩
  have hn : n ≤ 300 := by omega
  have hn6 : n ≤ 1000000 := by omega
  have hnl : ¬ (300 : Int) < (n : Int) := by omega
  have HG := Aside0.mk (get_any A n c B i w h hn6)
  have HIN := Aside0.mk h
  have HSAME := Aside0.mk (unpackX_same limP limR limP_ok limR_ok B)
  clear h h300
  obtain ⟨r, hr⟩ : ∃ r, r = unpackX limR B := ⟨_, rfl⟩
  rw [HSAME.out, ← hr] at HG
  have HR := Aside0.mk hr
  clear hr HSAME
  cases r with
  | none =>
    have hg : getV none i = (0, 9) := rfl
    rw [hg] at HG
    go_enter Try.func9, Try.ntmps9
    go_wp2_with fail
    refine HG.out.mono ?_
    rintro e w1 ⟨rfl, hb1⟩
    have HB1 := Aside0.mk hb1
    clear hb1
    go_wp2_with fail
    refine (unpackRef15_any A n c B w1 (HIN.out.below HB1.out) hn6).mono ?_
    rintro e w2 hu2
    rw [← HR.out] at hu2
    obtain ⟨hb2, rfl⟩ := hu2
    have HB2 := Aside0.mk (below_step HB1.out hb2)
    clear hb2
    go_wp2_with fail
    refine (awakeB_any _).mono ?_
    rintro e w3 ⟨rfl, hb3⟩
    have HB3 := Aside0.mk (below_step HB2.out hb3)
    clear hb3
    go_wp2_with fail
    go_ret
    exact ⟨rfl, HB3.out⟩
  | some vs =>
    by_cases h0 : i < 0
    · have hg : getV (some vs) i = (0, 8) := by simp [getV, h0]
      rw [hg] at HG
      go_enter Try.func9, Try.ntmps9
      go_wp2_with fail
      refine HG.out.mono ?_
      rintro e w1 ⟨rfl, hb1⟩
      have HB1 := Aside0.mk hb1
      clear hb1
      go_wp2_with fail
      refine (unpackRef15_any A n c B w1 (HIN.out.below HB1.out) hn6).mono ?_
      rintro e w2 hu2
      rw [← HR.out] at hu2
      obtain ⟨hb2, gv, rfl, hv2⟩ := hu2
      have HB2 := Aside0.mk (below_step HB1.out hb2)
      clear hb2 hv2
      go_wp2_with fail
      refine (awakeB_any _).mono ?_
      rintro e w3 ⟨rfl, hb3⟩
      have HB3 := Aside0.mk (below_step HB2.out hb3)
      clear hb3
      go_wp2_with fail
      go_ret
      exact ⟨rfl, HB3.out⟩
    by_cases h1 : (vs.length : Int) ≤ i
    · have hg : getV (some vs) i = (0, 8) := by simp [getV, h1]
      rw [hg] at HG
      go_enter Try.func9, Try.ntmps9
      go_wp2_with fail
      refine HG.out.mono ?_
      rintro e w1 ⟨rfl, hb1⟩
      have HB1 := Aside0.mk hb1
      clear hb1
      go_wp2_with fail
      refine (unpackRef15_any A n c B w1 (HIN.out.below HB1.out) hn6).mono ?_
      rintro e w2 hu2
      rw [← HR.out] at hu2
      obtain ⟨hb2, gv, rfl, hv2⟩ := hu2
      have HB2 := Aside0.mk (below_step HB1.out hb2)
      clear hb2 hv2
      go_wp2_with fail
      refine (awakeB_any _).mono ?_
      rintro e w3 ⟨rfl, hb3⟩
      have HB3 := Aside0.mk (below_step HB2.out hb3)
      clear hb3
      go_wp2_with fail
      go_ret
      exact ⟨rfl, HB3.out⟩
    · obtain ⟨k, rfl⟩ : ∃ k : Nat, i = k := ⟨i.toNat, by omega⟩
      have hk : k < vs.length := by omega
      have hg : getV (some vs) (k : Int) = (((vs.getD k 0 : Nat) : Int), 0) := by simp only [getV]; rw [if_neg (by omega), Int.toNat_natCast]
      rw [hg] at HG
      obtain ⟨x, hx⟩ : ∃ x, x = vs.getD k 0 := ⟨_, rfl⟩
      rw [← hx] at HG
      have HX := Aside0.mk hx
      clear hg h0 h1 hx
      go_enter Try.func9, Try.ntmps9
      go_wp2_with fail
      refine HG.out.mono ?_
      rintro e w1 ⟨rfl, hb1⟩
      have HB1 := Aside0.mk hb1
      clear hb1
      go_wp2_with fail
      refine (unpackRef15_any A n c B w1 (HIN.out.below HB1.out) hn6).mono ?_
      rintro e w2 hu2
      rw [← HR.out] at hu2
      obtain ⟨hb2, gv, rfl, hv2⟩ := hu2
      have HB2 := Aside0.mk (below_step HB1.out hb2)
      obtain ⟨hcell, hfroz⟩ := hv2.cell k hk
      rw [← HX.out] at hcell
      clear hb2 hv2
      go_wp2_with fail
      refine (awakeB_any _).mono ?_
      rintro e w3 ⟨rfl, hb3⟩
      have HB3 := Aside0.mk (below_step HB2.out hb3)
      clear hb3
      go_wp2_with fail
      go_ret
      exact ⟨rfl, HB3.out⟩
end Go.Proofs.Ytbfnckjnpbgmaaa
