/- What block.best returns: the best width. For every block of numbers. -/
import Derived.Test.YtbfnckjnpbgmaaaBlc
import Derived.BigQuiet
import Derived.Deep.QuietTactic
namespace Go.Proofs.Ytbfnckjnpbgmaaa
open Go.RowKit Go.Proofs.YtbfnckjnpbgmaaaW.PrintWords Go.Proofs.YtbfnckjnpbgmaaaW.PrintLast Go.Proofs.YtbfnckjnpbgmaaaW.PrintMore
set_option linter.unusedVariables false

/-- Numbers of a block that are read. -/
def InVals (w : World) (A : Option Addr) (n c : Nat) (vs : List Nat) : Prop := vs.length = n ∧ n ≤ c ∧ Kd.C (Kd.int .i64) w A (ints vs).length (ints vs)
theorem InVals.below {w w1 : World} {A : Option Addr} {n c : Nat} {vs : List Nat} (h : InVals w A n c vs) (hb : Below w.heap.size w w1) : InVals w1 A n c vs := ⟨h.1, h.2.1, Kd.C_below h.2.2 hb⟩
theorem InVals.drewN {w : World} {A : Option Addr} {n c : Nat} {vs : List Nat} (h : InVals w A n c vs) (m : Nat) : InVals (w.drewN m) A n c vs := ⟨h.1, h.2.1, Kd.C_drewN h.2.2 m⟩
theorem cost_call (A : Option Addr) (n c : Nat) (vs : List Nat) (x : Int) (k : Nat) (w : World) (h : InVals w A n c vs) (hb : BlockOk vs) (hx : x = k) (hk : k ≤ 31) :
    Calls Try.prog 66 #[.slice A n c, .int .i64 x] w fun e w' => e = .returned (.int .i64 ((encL vs k).length : Int)) ∧ Below w.heap.size w w' := by
  subst hx
  obtain ⟨rfl, hc, hr⟩ := h
  rw [← ints_length]
  exact Refs.block_cost.calls 200 A c (ints vs) k _ w hr (by rw [ints_length]; exact hc) (cost_f vs k 200 hb hk (by omega))

def BRel (w : World) (vs : List Nat) (width wv i : Value) (w' : World) : Prop :=
  ∃ (k : Nat) (arr : Array Value), k ≤ 32 ∧ i = .int .i64 (k : Int) ∧ width = .int .i64 ((bestTo vs (k - 1) : Nat) : Int) ∧ w'.heap[w.heap.size]? = some (.cells arr 108 (0, 0)) ∧ arr.size = 32 ∧
    (∀ j, j < k → arr[j]? = some (.int .i64 ((encL vs j).length : Int))) ∧ Below w.heap.size w w'

set_option maxHeartbeats 2000000 in
set_option maxRecDepth 100000 in
theorem best_any (A : Option Addr) (n c : Nat) (vs : List Nat) (w : World) (h : InVals w A n c vs) (hok : BlockOk vs) :
    Calls Try.prog 59 #[.slice A n c] w fun e w' => e = .returned (.int .i64 (bestL vs : Int)) ∧ Below w.heap.size w w' := by
  have H := Aside0.mk h
  have HOK := Aside0.mk hok
  clear h hok
  go_enter Try.func59, Try.ntmps59
  go_wp2_with fail
  go_loopw [4, 5, 6] (fun wi wv i w' => BRel w vs wi wv i w') (fun _ _ i _ => 32 - (intOf i).toNat)
  case atStart => exact ⟨0, _, by omega, rfl, rfl, blk_new _ _, rfl, fun j hj => absurd hj (by omega), below_alloc (Below.refl _ _) _⟩
  case round =>
    obtain ⟨k, arr, hk, rfl, rfl, hblk, hsz, hcells, hb⟩ := hrel
    have HBLK := Aside0.mk hblk
    have HS := Aside0.mk hsz
    have HC := Aside0.mk hcells
    have HB := Aside0.mk hb
    have HI := Aside0.mk (H.out.below hb)
    clear hblk hsz hcells hb
    by_cases hlt : k < 32
    · have HLE := Aside0.mk (bestTo_le vs (k - 1))
      obtain ⟨b, hbb⟩ : ∃ b, b = bestTo vs (k - 1) := ⟨_, rfl⟩
      rw [← hbb] at HLE ⊢
      obtain ⟨ck, hck⟩ : ∃ ck, ck = (encL vs k).length := ⟨_, rfl⟩
      obtain ⟨cb, hcb⟩ : ∃ cb, cb = (encL vs b).length := ⟨_, rfl⟩
      have hbk : b ≤ k := by have := HLE.out; omega
      have HBEST0 : Aside0 ((if ck < cb then k else b) = bestTo vs (k + 1 - 1)) := ⟨by
        cases k with
        | zero => have : b = 0 := by omega
                  subst this; simp [bestTo]
        | succ k => rw [hck, hcb, hbb]; simp [bestTo, better]⟩
      have HCK := Aside0.mk hck
      have HCB := Aside0.mk hcb
      clear hbb hck hcb
      go_wp2_with fail
      refine (cost_call A n c vs _ k _ HI.out HOK.out rfl (by omega)).mono ?_
      rintro e w1 ⟨rfl, hb1⟩
      rw [← HCK.out]
      have hK1 := blk_below HBLK.out hb1
      have HK1 := Aside0.mk hK1
      have hold : ∃ v, w1.cell? ⟨w.heap.size, k, none⟩ = some v := ⟨_, (blk_cell hK1 k).trans (Array.getElem?_eq_getElem (by rw [HS.out]; omega))⟩
      obtain ⟨vold, hold⟩ := hold
      have hfr := blk_frozen hK1 k
      have HB1 := Aside0.mk (below_step HB.out hb1)
      clear hb1 hK1
      have HK2 := Aside0.mk (blk_set HK1.out k (.int .i64 ck))
      have HS2 : Aside0 ((arr.setIfInBounds k (.int .i64 ck)).size = 32) := ⟨by rw [Array.size_setIfInBounds]; exact HS.out⟩
      have HC2 : Aside0 (∀ j, j < k + 1 → (arr.setIfInBounds k (.int .i64 ck))[j]? = some (.int .i64 ((encL vs j).length : Int))) := ⟨fun j hj => by
        rw [Array.getElem?_setIfInBounds]
        by_cases hjk : k = j
        · subst hjk
          rw [if_pos rfl, if_pos (by rw [HS.out]; omega), HCK.out]
        · rw [if_neg hjk]
          exact HC.out j (by omega)⟩
      have HB2 := Aside0.mk (HB1.out.setCell (p := ⟨w.heap.size, k, none⟩) (Nat.le_refl _) (.int .i64 ck))
      have hr1 := (blk_cell HK2.out k).trans ((HC2.out k (by omega)).trans (by rw [← HCK.out]))
      have hr2 := (blk_cell HK2.out b).trans ((HC2.out b (by omega)).trans (by rw [← HCB.out]))
      have hi1 : (0 : Int) ≤ (k : Int) := by omega
      have hi2 : (k : Int) < 32 := by omega
      have hi3 : (0 : Int) ≤ (b : Int) := by omega
      have hi4 : (b : Int) < 32 := by omega
      by_cases hcmp : ck < cb
      · have d1 : decide (ck < cb) = true := by simpa using hcmp
        have d2 : decide ((ck : Int) < (cb : Int)) = true := by simpa using hcmp
        have HBEST : Aside0 (Value.int .i64 (k : Int) = .int .i64 ((bestTo vs (k + 1 - 1) : Nat) : Int)) := ⟨by rw [← HBEST0.out, if_pos hcmp]⟩
        clear hcmp
        go_wp2_with fail
        generalize w1.setCell ⟨w.heap.size, k, none⟩ (.int .i64 ck) = W2 at HK2 HB2 hr1 hr2 ⊢
        clear hold hfr HK1 HB1
        go_quiet (fail)
        go_wp2_with fail
        go_roundw
        case rel => exact ⟨k + 1, _, by omega, by go_num, HBEST.out, HK2.out, HS2.out, HC2.out, pw_below_drewN HB2.out _⟩
        case measure => simp [intOf]; omega
      · have d1 : decide (ck < cb) = false := by simpa using hcmp
        have d2 : decide ((ck : Int) < (cb : Int)) = false := by simpa using hcmp
        have HBEST : Aside0 (Value.int .i64 (b : Int) = .int .i64 ((bestTo vs (k + 1 - 1) : Nat) : Int)) := ⟨by rw [← HBEST0.out, if_neg hcmp]⟩
        clear hcmp
        go_wp2_with fail
        generalize w1.setCell ⟨w.heap.size, k, none⟩ (.int .i64 ck) = W2 at HK2 HB2 hr1 hr2 ⊢
        clear hold hfr HK1 HB1
        go_quiet (fail)
        go_wp2_with fail
        go_roundw
        case rel => exact ⟨k + 1, _, by omega, by go_num, HBEST.out, HK2.out, HS2.out, HC2.out, pw_below_drewN HB2.out _⟩
        case measure => simp [intOf]; omega
    · have hk32 : k = 32 := by omega
      subst hk32
      go_wp2_with fail
      go_ret
      exact ⟨rfl, HB.out⟩
end Go.Proofs.Ytbfnckjnpbgmaaa
