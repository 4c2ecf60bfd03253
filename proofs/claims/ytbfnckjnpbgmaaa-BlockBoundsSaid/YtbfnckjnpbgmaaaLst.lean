/- The walk of BlockLeast: the width of a block is the least one with the least cost, and that is the number of its bytes. For every list of numbers. -/
import Derived.Test.YtbfnckjnpbgmaaaCst
namespace Go.Proofs.Ytbfnckjnpbgmaaa
open Go.RowKit Go.Proofs.YtbfnckjnpbgmaaaW.PrintWords Go.Proofs.YtbfnckjnpbgmaaaW.PrintLast Go.Proofs.YtbfnckjnpbgmaaaW.PrintMore
set_option linter.unusedVariables false

theorem costV_ints {vs : List Nat} (h : BlockOk vs) (k : Nat) (hk : k ≤ 31) : costV (ints vs) k = (((encL vs k).length : Int), 0) := by
  unfold costV
  rw [if_pos (checkV_ints h), if_neg (by omega), if_neg (by omega), ints_toNat, Int.toNat_natCast]
theorem widthV_ints {vs : List Nat} (h : BlockOk vs) : widthV (ints vs) = (bestL vs : Int) := by
  unfold widthV
  rw [if_pos (checkV_ints h), ints_toNat]
theorem packV_ints {vs : List Nat} (h : BlockOk vs) : packV (ints vs) = encL vs (bestL vs) := by
  unfold packV
  rw [if_pos (checkV_ints h), ints_toNat]

def LRel (w : World) (k : Value) (w' : World) : Prop := ∃ j : Nat, j ≤ 32 ∧ k = .int .i64 (j : Int) ∧ Below w.heap.size w w'

set_option maxHeartbeats 2000000 in
set_option maxRecDepth 100000 in
theorem least_walk (A : Option Addr) (n c : Nat) (l : List Int) (w : World) (h : InInts w A n c l) :
    Calls Try.prog 15 #[.slice A n c] w fun e w' => e = .returned (.bool true) ∧ Below w.heap.size w w' := by
  have H := Aside0.mk h
  clear h
  by_cases hc : checkV l = 0
  · obtain ⟨vs, rfl, hok⟩ := checkV_ok hc
    have HOK := Aside0.mk hok
    have HCH := Aside0.mk hc
    have hbl := bestL_le vs
    obtain ⟨b, hb⟩ : ∃ b, b = bestL vs := ⟨_, rfl⟩
    have HW : Aside0 (widthV (ints vs) = (b : Int)) := ⟨by rw [widthV_ints hok, hb]⟩
    have HPV : Aside0 (packV (ints vs) = encL vs b) := ⟨by rw [packV_ints hok, hb]⟩
    have HBT : Aside0 (∀ j, j ≤ 31 → (encL vs b).length ≤ (encL vs j).length ∧ ((encL vs j).length = (encL vs b).length → b ≤ j)) := ⟨by rw [hb]; exact bestTo_least vs 31⟩
    rw [← hb] at hbl
    have hlen := encL_len vs b hok hbl
    obtain ⟨E, hE⟩ : ∃ E, E = encL vs b := ⟨_, rfl⟩
    have HCV : Aside0 (costV (ints vs) b = ((E.length : Int), 0)) := ⟨by rw [costV_ints hok b hbl, hE]⟩
    rw [← hE] at HPV HBT hlen
    clear hE hb hc hok
    go_enter Try.func15, Try.ntmps15
    go_wp2_with fail
    refine (checkRef_any A n c _ w H.out).mono ?_
    rintro e w1 ⟨rfl, hb1⟩
    rw [HCH.out]
    have HB1 := Aside0.mk hb1
    have H1 := Aside0.mk (H.out.below hb1)
    clear hb1
    go_wp2_with fail
    refine (width_any A n c _ w1 H1.out).mono ?_
    rintro e w2 ⟨rfl, hb2⟩
    rw [HW.out]
    have HB2 := Aside0.mk (below_step HB1.out hb2)
    have H2 := Aside0.mk (H1.out.below hb2)
    clear hb2
    go_wp2_with fail
    refine (cost_any A n c _ _ w2 H2.out).mono ?_
    rintro e w3 ⟨rfl, hb3⟩
    rw [HCV.out]
    have HB3 := Aside0.mk (below_step HB2.out hb3)
    have H3 := Aside0.mk (H2.out.below hb3)
    clear hb3
    go_wp2_with fail
    refine (pack_any A n c _ w3 H3.out).mono ?_
    rintro e w4 ⟨v4, rfl, hr4, hb4⟩
    rw [HPV.out] at hr4
    rw [HCH.out]
    obtain ⟨A4, c4, hv4, hl4, hC4⟩ := Kd.R_reads hr4
    subst hv4
    have HB4 := Aside0.mk (below_step HB3.out hb4)
    clear hr4 hb4 hC4
    go_wp2_with fail
    go_loopw [8, 9, 10] (fun k _ _ w' => LRel w k w') (fun k _ _ _ => 32 - (intOf k).toNat)
    case atStart => exact ⟨0, by omega, rfl, HB4.out⟩
    case round =>
      obtain ⟨j, hj, rfl, hb⟩ := hrel
      have HB := Aside0.mk hb
      have HI := Aside0.mk (H.out.below hb)
      clear hb
      by_cases h31 : j ≤ 31
      · have hBT := HBT.out j h31
        have HCJ := Aside0.mk (costV_ints HOK.out j h31)
        have hlj := encL_len vs j HOK.out h31
        obtain ⟨M, hM⟩ : ∃ M, M = (encL vs j).length := ⟨_, rfl⟩
        rw [← hM] at hBT HCJ hlj
        clear hM
        obtain ⟨hle, heq⟩ := hBT
        go_wp2_with fail
        refine (cost_any A n c _ _ _ HI.out).mono ?_
        rintro e w5 ⟨rfl, hb5⟩
        rw [HCJ.out]
        have HB5 := Aside0.mk (below_step HB.out hb5)
        clear hb5
        by_cases he : M = E.length
        · have hbj := heq he
          clear heq
          go_wp2_with fail
          go_roundw
          case rel => exact ⟨j + 1, by omega, by go_num, HB5.out⟩
          case measure => simp [intOf]; omega
        · clear heq
          go_wp2_with fail
          go_roundw
          case rel => exact ⟨j + 1, by omega, by go_num, HB5.out⟩
          case measure => simp [intOf]; omega
      · have hj32 : j = 32 := by omega
        subst hj32
        go_wp2_with fail
        refine (awakeB_any _).mono ?_
        rintro e w6 ⟨rfl, hb6⟩
        have HB6 := Aside0.mk (below_step HB.out hb6)
        clear hb6
        go_wp2_with fail
        go_ret
        exact ⟨rfl, HB6.out⟩
  · obtain ⟨q, hq⟩ : ∃ q, q = checkV l := ⟨_, rfl⟩
    have HQ := Aside0.mk hq
    rw [← hq] at hc
    clear hq
    go_enter Try.func15, Try.ntmps15
    go_wp2_with fail
    refine (checkRef_any A n c _ w H.out).mono ?_
    rintro e w1 ⟨rfl, hb1⟩
    rw [← HQ.out]
    have HB1 := Aside0.mk hb1
    clear hb1
    go_wp2_with fail
    go_ret
    exact ⟨rfl, HB1.out⟩
end Go.Proofs.Ytbfnckjnpbgmaaa
