/- The walk of BitioTakes: Uvarint returns what the reference returns. For at most 100 bytes. -/
import Derived.Test.YtbfnckjnpbgmaaaTak
namespace Go.Proofs.Ytbfnckjnpbgmaaa
open Go.RowKit Go.Proofs.YtbfnckjnpbgmaaaW.PrintWords Go.Proofs.YtbfnckjnpbgmaaaW.PrintLast
set_option linter.unusedVariables false

set_option maxHeartbeats 1000000 in
set_option maxRecDepth 100000 in
theorem takes_walk (A : Option Addr) (n c : Nat) (B : List Int) (w : World) (hin : InBytes w A n c B) :
    Calls Try.prog 6 #[.slice A n c] w fun e w' => e = .returned (.bool true) ∧ Below w.heap.size w w' := by
  obtain ⟨rfl, hc, hB, hr⟩ := hin
  have HB0 := Aside0.mk hB
  have HR0 := Aside0.mk hr
  clear hB hr
  by_cases h100 : 100 < B.length
  · go_enter Try.func6, Try.ntmps6
    go_wp2_with fail
    go_ret
    exact ⟨rfl, Below.refl _ _⟩
  · have hm : B.length ≤ 100 := by omega
    clear h100
    obtain ⟨⟨a, b, er⟩, ht⟩ : ∃ t, t = takeL B := ⟨_, rfl⟩
    have HT := Aside0.mk ht
    clear ht
    go_enter Try.func6, Try.ntmps6
    go_wp2_with fail
    refine (uvarint_any A c B _ HR0.out hc HB0.out (by omega)).mono ?_
    rintro e w1 ⟨rfl, ⟨n1, rfl⟩⟩
    rw [← HT.out]
    unfold Triple
    go_wp2_with fail
    refine (take_any A c B _ (Kd.C_drewN HR0.out n1) hc HB0.out (by omega)).mono ?_
    rintro e w2 ⟨rfl, ⟨n2, rfl⟩⟩
    rw [← HT.out]
    unfold Triple
    go_wp2_with fail
    refine (awake_any _).mono ?_
    rintro e w3 ⟨rfl, hb3⟩
    have HB3 := Aside0.mk (below_step (pw_below_drewN (Below.refl _ _) _) hb3)
    clear hb3
    go_wp2_with fail
    go_ret
    exact ⟨rfl, HB3.out⟩
end Go.Proofs.Ytbfnckjnpbgmaaa
