/- What NewWriter, (*Writer).Len, Bytes and Unary do. For every Writer with fewer than 10^12 bits. -/
import Derived.Test.YtbfnckjnpbgmaaaGam
namespace Go.Proofs.Ytbfnckjnpbgmaaa
open Go.RowKit Go.Proofs.YtbfnckjnpbgmaaaW.PrintWords Go.Proofs.YtbfnckjnpbgmaaaW.PrintLast
set_option linter.unusedVariables false

theorem newWriter_any (w : World) :
    Calls Try.prog 24 #[] w fun e w' => e = .returned (.pointer (some ⟨w.heap.size, 0, none⟩)) ∧ w.alloc (.cells #[.slice none 0 0, .int .i64 0] 88) = w' := by
  go_enter Try.func24, Try.ntmps24
  go_wp2_with fail
  go_ret
  exact ⟨rfl, rfl⟩
theorem Wr_new (w : World) (base : Nat) (hb : base ≤ w.heap.size) : Wr (w.alloc (.cells #[.slice none 0 0, .int .i64 0] 88)) base w.heap.size none [] :=
  ⟨.slice none 0 0, blk_new _ _, hb, own_nil _ _ _ _, rfl⟩

theorem size_any (g : Nat) (n : Int) (w : World) (h : w.cell? ⟨g, 1, none⟩ = some (.int .i64 n)) :
    Calls Try.prog 56 #[.pointer (some ⟨g, 0, none⟩)] w fun e w' => e = .returned (.int .i64 n) ∧ w = w' := by
  go_enter Try.func56, Try.ntmps56
  go_wp2_with fail
  go_ret
  exact ⟨rfl, rfl⟩
theorem Half.cell1 {w : World} {base g n : Nat} {row : Option Nat} {B : List Int} (h : Half w base g row n B) : w.cell? ⟨g, 1, none⟩ = some (.int .i64 n) := by
  obtain ⟨v, hb, _⟩ := h
  exact (blk_cell hb 1).trans rfl
theorem len_any (base g : Nat) (row : Option Nat) (l : List Bool) (w : World) (h : Wr w base g row l) :
    Calls Try.prog 28 #[.pointer (some ⟨g, 0, none⟩)] w fun e w' => e = .returned (.int .i64 l.length) ∧ w = w' := by
  have hc := Half.cell1 h
  clear h
  go_enter Try.func28, Try.ntmps28
  go_wp2_with fail
  refine (size_any g _ _ hc).mono ?_
  rintro e w' ⟨rfl, rfl⟩
  go_wp2_with fail
  go_ret
  exact ⟨rfl, rfl⟩

/-- Bytes that a call has made. -/
abbrev Made (w0 w' : World) (v : Value) (B : List Int) : Prop := Kd.R (Kd.int .u8) 5 w' w0.heap.size (fun _ => True) v B ∧ Below w0.heap.size w0 w'
def MadeBytes (w0 : World) (B : List Int) (e : Ending) (w' : World) : Prop := ∃ v, e = .returned v ∧ Made w0 w' v B

theorem bytes_any (base g : Nat) (row : Option Nat) (l : List Bool) (w : World) (h : Wr w base g row l) (hl : l.length < 1000000000000) :
    Calls Try.prog 40 #[.pointer (some ⟨g, 0, none⟩)] w fun e w' => MadeBytes w (packL l) e w' := by
  obtain ⟨v, hb, hg, HO, hrow⟩ := h
  have hlen := packL_length l
  have hle : (packL l).length ≤ 1000000000000 := by omega
  obtain ⟨A, c, hv, hr⟩ := own_reads HO
  subst hv
  have h0 := blk_cell hb 0
  have HR := Aside0.mk (hr.below (below_alloc (Below.refl _ _) (.cells #[] 5)))
  simp at h0
  clear hrow hlen HO hr
  have hlt := blk_lt hb
  have HE := Aside0.mk (own_lit w w.heap.size 5 .u8 [] (Nat.le_refl _) (by simp))
  clear hb
  go_enter Try.func40, Try.ntmps40
  go_wp2_with (at_builtin; refine print_append_row (w0 := w) w.heap.size rfl (.tmp 3) (.tmp 8) 22 5 .u8 1 rfl Try.underlying22 Refs.info5 (by omega) (.slice (some ⟨w.heap.size, 0, none⟩) 0 0) [] (packL l) A _ c rfl rfl HE.out HR.out ?aB ?aS ?aL ?_; (case aB => exact below_alloc (Below.refl _ _) _); (case aS => simp); (case aL => simp; omega); intro v1 w1 hown hB1 hg1 hat1; have HO1 := Aside0.mk hown; have HB1 := Aside0.mk hB1; clear hown hB1 hg1 hat1)
  go_ret
  exact ⟨v1, rfl, Kd.R_of_own HO1.out (fun _ _ => trivial), HB1.out⟩

def unaryL (n : Nat) : List Bool := List.replicate n false ++ [true]
def UnaRel (w : World) (base g : Nat) (row : Option Nat) (l : List Bool) (n : Nat) (i : Value) (w' : World) : Prop :=
  ∃ (k : Nat) (row' : Option Nat), k ≤ n ∧ i = .int .i64 (k : Int) ∧ Wr w' base g row' (l ++ List.replicate k false) ∧ Wrote w w' g row row'

set_option maxHeartbeats 1000000 in
theorem unary_ok (base g : Nat) (row : Option Nat) (l : List Bool) (n : Nat) (w : World) (h : Wr w base g row l) (hn : n ≤ 4096) (hl : l.length < 1000000000000) :
    Calls Try.prog 65 #[.pointer (some ⟨g, 0, none⟩), .int .i64 n] w fun e w' => e = .returned (.int .i64 0) ∧ Puts w base g row l (unaryL n) w' := by
  have HW := Aside0.mk h
  clear h
  have e1 : decide ((n : Int) < 0) = false := by simp
  have e2 : decide (4096 < (n : Int)) = false := by simp; omega
  go_enter Try.func65, Try.ntmps65
  go_wp2_with fail
  go_loopw [12] (fun i w' => UnaRel w base g row l n i w') (fun i _ => n - (intOf i).toNat)
  case atStart => exact ⟨0, row, Nat.zero_le _, rfl, by simpa using HW.out, Wrote.refl _ _ _⟩
  case round =>
    obtain ⟨k, row', hk, rfl, hw, hwr⟩ := hrel
    have HWr := Aside0.mk hw
    have HWo := Aside0.mk hwr
    have HLen : Aside0 ((l ++ List.replicate k false).length < 1099511627776) := ⟨by simp; omega⟩
    clear hw hwr
    by_cases hlt : k < n
    · go_wp2_with fail
      refine (put_any base g row' _ _ _ HWr.out HLen.out (by omega) (by omega)).mono ?_
      rintro e w1 ⟨rfl, hp⟩
      have HP := Aside0.mk hp
      clear hp
      go_wp2_with fail
      go_roundw
      case rel =>
        obtain ⟨row1, hw1, hwr1⟩ := HP.out
        refine ⟨k + 1, row1, by omega, by go_num, ?_, HWo.out.trans hwr1⟩
        rw [List.replicate_succ', ← List.append_assoc]
        exact hw1
      case measure => simp [intOf]; omega
    · have hkn : k = n := by omega
      subst hkn
      go_wp2_with fail
      refine (put_any base g row' _ _ _ HWr.out HLen.out (by omega) (by omega)).mono ?_
      rintro e w1 ⟨rfl, hp⟩
      have HP := Aside0.mk hp
      clear hp
      go_wp2_with fail
      go_ret
      obtain ⟨row1, hw1, hwr1⟩ := HP.out
      refine ⟨rfl, row1, ?_, HWo.out.trans hwr1⟩
      rw [unaryL, ← List.append_assoc]
      exact hw1
theorem unary_err (base g : Nat) (row : Option Nat) (l : List Bool) (n : Int) (w : World) (h : Wr w base g row l) (hn : n < 0 ∨ 4096 < n) :
    Calls Try.prog 65 #[.pointer (some ⟨g, 0, none⟩), .int .i64 n] w fun e w' => e = .returned (.int .i64 1) ∧ Same w base g row l w' := by
  have HW := Aside0.mk h
  clear h
  by_cases c1 : n < 0
  · have e1 : decide (n < 0) = true := by simpa using c1
    clear hn c1
    go_enter Try.func65, Try.ntmps65
    go_wp2_with fail
    go_ret
    exact ⟨rfl, HW.out, Wrote.refl _ _ _⟩
  · have e1 : decide (n < 0) = false := by simpa using c1
    have e2 : decide (4096 < n) = true := by simp; omega
    clear hn c1
    go_enter Try.func65, Try.ntmps65
    go_wp2_with fail
    go_ret
    exact ⟨rfl, HW.out, Wrote.refl _ _ _⟩
end Go.Proofs.Ytbfnckjnpbgmaaa
