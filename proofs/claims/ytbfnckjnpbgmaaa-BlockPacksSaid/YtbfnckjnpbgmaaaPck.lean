/- The walk of BlockPacks: the encoding of any numbers, or the error. For every list of numbers. -/
import Derived.Test.YtbfnckjnpbgmaaaLst
namespace Go.Proofs.Ytbfnckjnpbgmaaa
open Go.RowKit Go.Proofs.YtbfnckjnpbgmaaaW.PrintWords Go.Proofs.YtbfnckjnpbgmaaaW.PrintLast Go.Proofs.YtbfnckjnpbgmaaaW.PrintMore
set_option linter.unusedVariables false

set_option maxHeartbeats 4000000 in
set_option maxRecDepth 100000 in
theorem packs_walk (A : Option Addr) (n c : Nat) (l : List Int) (w : World) (h : InInts w A n c l) :
    Calls Try.prog 13 #[.slice A n c] w fun e w' => e = .returned (.bool true) ∧ Below w.heap.size w w' := by
  have H := Aside0.mk h
  clear h
  by_cases h130 : 130 < n
  · clear H
    go_enter Try.func13, Try.ntmps13
    go_wp2_with fail
    go_ret
    exact ⟨rfl, Below.refl _ _⟩
  by_cases hc : checkV l = 0
  · obtain ⟨vs, rfl, hok⟩ := checkV_ok hc
    have HOK := Aside0.mk hok
    have HCH := Aside0.mk hc
    have hbl := bestL_le vs
    obtain ⟨b, hb⟩ : ∃ b, b = bestL vs := ⟨_, rfl⟩
    have HW : Aside0 (widthV (ints vs) = (b : Int)) := ⟨by rw [widthV_ints hok, hb]⟩
    have HPV : Aside0 (packV (ints vs) = encL vs b) := ⟨by rw [packV_ints hok, hb]⟩
    have HBE := Aside0.mk hb
    rw [← hb] at hbl
    obtain ⟨E, hE⟩ : ∃ E, E = encL vs b := ⟨_, rfl⟩
    have HEE := Aside0.mk hE
    rw [← hE] at HPV
    clear hE hb hc hok
    go_enter Try.func13, Try.ntmps13
    go_wp2_with fail
    refine (pack_any A n c _ w H.out).mono ?_
    rintro e w1 ⟨v1, rfl, hr1, hb1⟩
    rw [HPV.out] at hr1
    rw [HCH.out]
    obtain ⟨A1, c1, hv1, hl1, hC1⟩ := Kd.R_reads hr1
    subst hv1
    have HC1 := Aside0.mk hC1
    have HB1 := Aside0.mk hb1
    have H1 := Aside0.mk (H.out.below hb1)
    clear hr1 hb1 hC1
    go_wp2_with fail
    refine (checkRef_any A n c _ w1 H1.out).mono ?_
    rintro e w2 ⟨rfl, hb2⟩
    rw [HCH.out]
    have HB := Aside0.mk (below_drew (below_step HB1.out hb2))
    have HI := Aside0.mk ((H1.out.below hb2).below (below_drew (Below.refl _ _)))
    have HC := Aside0.mk (Kd.C_drew (Kd.C_below HC1.out hb2))
    clear hb2 HB1 H1 HC1
    obtain ⟨S, hS⟩ : ∃ S, S = strOfNums E := ⟨_, rfl⟩
    have hs0 : (Go.convert 22 9 (.slice A1 E.length c1)).run Try.prog w2.drew = .ok (.string S) w2.drew := hS ▸ Kd.C_string (P := Try.prog) (A := A1) (c := c1) Try.underlying22 Try.underlying5 Try.underlying9 HC.out
    have HS := Aside0.mk hS
    clear hS
    go_wp2_with fail
    go_region_with
      (first
        | (go_at_call 44; (with_reducible refine (packRef15_any A n c vs _ HI.out HOK.out).mono ?_); rintro e w5 hm5; rw [← HBE.out, ← HEE.out] at hm5; obtain ⟨A5, c5, rfl, hc5, ho5, hC5, hb5⟩ := made_own hm5; have hs5 : (Go.convert 22 9 (.slice A5 E.length c5)).run Try.prog w5 = .ok (.string S) w5 := HS.out ▸ Kd.C_string (P := Try.prog) (A := A5) (c := c5) Try.underlying22 Try.underlying5 Try.underlying9 hC5; have hs6 : (Go.convert 22 9 (.slice A1 E.length c1)).run Try.prog w5 = .ok (.string S) w5 := HS.out ▸ Kd.C_string (P := Try.prog) (A := A1) (c := c1) Try.underlying22 Try.underlying5 Try.underlying9 (Kd.C_below HC.out hb5); have hc := Kd.C_below HC.out hb5; have hi := HI.out.below hb5; have hbb := below_step HB.out hb5; clear HC HI HB hm5 ho5 hC5 hb5; have HC := Aside0.mk hc; have HI := Aside0.mk hi; have HB := Aside0.mk hbb; clear hc hi hbb)
        | (go_at_call 43; (with_reducible refine (width_any A n c _ _ HI.out).mono ?_); rintro e w5 ⟨rfl, hb5⟩; have hs6 : (Go.convert 22 9 (.slice A1 E.length c1)).run Try.prog w5 = .ok (.string S) w5 := HS.out ▸ Kd.C_string (P := Try.prog) (A := A1) (c := c1) Try.underlying22 Try.underlying5 Try.underlying9 (Kd.C_below HC.out hb5); have hc := Kd.C_below HC.out hb5; have hi := HI.out.below hb5; have hbb := below_step HB.out hb5; clear HC HI HB hb5; have HC := Aside0.mk hc; have HI := Aside0.mk hi; have HB := Aside0.mk hbb; clear hc hi hbb)
        | (go_at_call 45; (with_reducible refine (widthRef_any A n c _ _ HI.out).mono ?_); rintro e w5 ⟨rfl, hb5⟩; have hs6 : (Go.convert 22 9 (.slice A1 E.length c1)).run Try.prog w5 = .ok (.string S) w5 := HS.out ▸ Kd.C_string (P := Try.prog) (A := A1) (c := c1) Try.underlying22 Try.underlying5 Try.underlying9 (Kd.C_below HC.out hb5); have hc := Kd.C_below HC.out hb5; have hi := HI.out.below hb5; have hbb := below_step HB.out hb5; clear HC HI HB hb5; have HC := Aside0.mk hc; have HI := Aside0.mk hi; have HB := Aside0.mk hbb; clear hc hi hbb)
        | (go_at_call 36; (with_reducible refine (awakeB_any _).mono ?_); rintro e w5 ⟨rfl, hb5⟩; have hs6 : (Go.convert 22 9 (.slice A1 E.length c1)).run Try.prog w5 = .ok (.string S) w5 := HS.out ▸ Kd.C_string (P := Try.prog) (A := A1) (c := c1) Try.underlying22 Try.underlying5 Try.underlying9 (Kd.C_below HC.out hb5); have hc := Kd.C_below HC.out hb5; have hi := HI.out.below hb5; have hbb := below_step HB.out hb5; clear HC HI HB hb5; have HC := Aside0.mk hc; have HI := Aside0.mk hi; have HB := Aside0.mk hbb; clear hc hi hbb))
    all_goals (go_wp2_with fail; go_ret; exact ⟨rfl, HB.out⟩)
  · obtain ⟨q, hq⟩ : ∃ q, q = checkV l := ⟨_, rfl⟩
    have HQ := Aside0.mk hq
    have HPV : Aside0 (packV l = []) := ⟨by unfold packV; rw [if_neg hc]⟩
    have HWV : Aside0 (widthV l = 0) := ⟨by unfold widthV; rw [if_neg hc]⟩
    rw [← hq] at hc
    clear hq
    go_enter Try.func13, Try.ntmps13
    go_wp2_with fail
    refine (pack_any A n c _ w H.out).mono ?_
    rintro e w1 ⟨v1, rfl, hr1, hb1⟩
    rw [HPV.out] at hr1
    rw [← HQ.out]
    obtain ⟨A1, c1, hv1, hl1, hC1⟩ := Kd.R_reads hr1
    simp only [List.length_nil] at hv1
    subst hv1
    have HB1 := Aside0.mk hb1
    have H1 := Aside0.mk (H.out.below hb1)
    clear hr1 hb1 hC1 hl1
    go_wp2_with fail
    refine (checkRef_any A n c _ w1 H1.out).mono ?_
    rintro e w2 ⟨rfl, hb2⟩
    rw [← HQ.out]
    have HB2 := Aside0.mk (below_step HB1.out hb2)
    have H2 := Aside0.mk (H1.out.below hb2)
    clear hb2
    go_wp2_with fail
    refine (width_any A n c _ w2 H2.out).mono ?_
    rintro e w3 ⟨rfl, hb3⟩
    rw [HWV.out]
    have HB3 := Aside0.mk (below_step HB2.out hb3)
    clear hb3
    go_wp2_with fail
    refine (awakeB_any w3).mono ?_
    rintro e w4 ⟨rfl, hb4⟩
    have HB4 := Aside0.mk (below_step HB3.out hb4)
    clear hb4
    go_wp2_with fail
    go_ret
    exact ⟨rfl, HB4.out⟩
end Go.Proofs.Ytbfnckjnpbgmaaa
