/- What (*stream).put and (*Writer).lowest append. For every Writer with fewer than 2^40 bits. -/
import Derived.Test.YtbfnckjnpbgmaaaPut
import Derived.StillTailTactics
namespace Go.Proofs.Ytbfnckjnpbgmaaa
open Go.RowKit Go.Proofs.YtbfnckjnpbgmaaaW.PrintWords Go.Proofs.YtbfnckjnpbgmaaaW.PrintLast
set_option linter.unusedVariables false

theorem put_any (base g : Nat) (row : Option Nat) (l : List Bool) (x : Int) (w : World) (h : Wr w base g row l) (hl : l.length < 1099511627776) (h0 : 0 ≤ x) (h1 : x < 18446744073709551616) :
    Calls Try.prog 73 #[.pointer (some ⟨g, 0, none⟩), .int .u64 x] w fun e w' => e = .returned (.tuple #[]) ∧ Puts w base g row l [x % 2 == 1] w' := by
  by_cases h8 : l.length % 8 = 0
  · exact put_new base g row l x _ w h hl h8 (by rw [and1_u64 x h0 h1])
  · exact put_old base g row l x _ w h hl h8 (by rw [and1_u64 x h0 h1])

/-- The n lowest bits of v, the most significant one first. -/
def lowL (v : Nat) : Nat → List Bool
  | 0 => []
  | n + 1 => v.testBit n :: lowL v n
theorem lowL_length (v n : Nat) : (lowL v n).length = n := by induction n <;> simp [lowL, *]

theorem shr_bounds (v k : Nat) (h : v < 18446744073709551616) : 0 ≤ (v : Int) / 2 ^ k ∧ (v : Int) / 2 ^ k < 18446744073709551616 := by
  have e : (v : Int) / 2 ^ k = ((v / 2 ^ k : Nat) : Int) := by simp
  rw [e]
  have := Nat.div_le_self v (2 ^ k)
  generalize v / 2 ^ k = q at this
  omega
theorem shr_bit (v k : Nat) : ((v : Int) / 2 ^ k % 2 == 1) = v.testBit k := by
  have e : (v : Int) / 2 ^ k % 2 = ((v / 2 ^ k % 2 : Nat) : Int) := by simp
  rw [e, Nat.testBit_eq_decide_div_mod_eq]
  by_cases h : v / 2 ^ k % 2 = 1
  · rw [h]; rfl
  · have : ((v / 2 ^ k % 2 : Nat) : Int) ≠ 1 := by omega
    simp only [h, decide_false]
    exact beq_eq_false_iff_ne.mpr this

def LowRel (w : World) (base g : Nat) (row : Option Nat) (l : List Bool) (v n : Nat) (i : Value) (w' : World) : Prop :=
  ∃ (j : Nat) (done : List Bool) (row' : Option Nat), j ≤ n ∧ i = .int .i64 ((j : Int) - 1) ∧ done ++ lowL v j = lowL v n ∧ Wr w' base g row' (l ++ done) ∧ Wrote w w' g row row'

set_option maxHeartbeats 1000000 in
set_option maxRecDepth 100000 in
theorem lowest_any (base g : Nat) (row : Option Nat) (l : List Bool) (v n : Nat) (w : World) (h : Wr w base g row l) (hn : n ≤ 64) (hl : l.length + n < 1099511627776) (h1 : v < 18446744073709551616) :
    Calls Try.prog 55 #[.pointer (some ⟨g, 0, none⟩), .int .u64 v, .int .i64 n] w fun e w' => e = .returned (.tuple #[]) ∧ Puts w base g row l (lowL v n) w' := by
  have HW := Aside0.mk h
  clear h
  go_enter Try.func55, Try.ntmps55
  go_wp2_with fail
  go_loopw [6] (fun i w' => LowRel w base g row l v n i w') (fun i _ => (intOf i + 1).toNat)
  case atStart => exact ⟨n, [], row, Nat.le_refl _, rfl, rfl, by simpa using HW.out, Wrote.refl _ _ _⟩
  case round =>
    obtain ⟨j, done, row', hj, rfl, hd, hw, hwr⟩ := hrel
    have HD := Aside0.mk hd
    have HWr := Aside0.mk hw
    have HWo := Aside0.mk hwr
    clear hd hw hwr
    cases j with
    | zero =>
      go_wp2_with fail
      go_end0
      refine ⟨rfl, row', ?_, HWo.out⟩
      have e : done = lowL v n := by simpa [lowL] using HD.out
      rw [← e]
      exact HWr.out
    | succ k =>
      rw [show ((k + 1 : Nat) : Int) - 1 = (k : Int) by omega]
      have hk : k ≤ 63 := by omega
      have HLen : Aside0 ((l ++ done).length < 1099511627776) := ⟨by
        have := congrArg List.length HD.out
        simp only [List.length_append, lowL_length] at this
        rw [List.length_append]
        omega⟩
      have HX := Aside0.mk (shr_bounds v k h1)
      have HB := Aside0.mk (shr_bit v k)
      go_wp2_with fail
      go_still_tail 6, (by kernel_rfl)
      go_wp2_with fail
      refine (put_any base g row' (l ++ done) _ _ HWr.out.drew HLen.out HX.out.1 HX.out.2).mono ?_
      rintro e w1 ⟨rfl, hp⟩
      rw [HB.out] at hp
      have HP := Aside0.mk hp
      clear hp
      go_wp2_with fail
      go_roundw
      case rel =>
        obtain ⟨row1, hw1, hwr1⟩ := HP.out
        refine ⟨k, done ++ [v.testBit k], row1, by omega, rfl, ?_, by rw [← List.append_assoc]; exact hw1, HWo.out.drew.trans ?_⟩
        · rw [← HD.out]; simp [lowL]
        · exact hwr1
      case measure => simp [intOf]
end Go.Proofs.Ytbfnckjnpbgmaaa
