/- What bitio.PutUvarint returns: the bytes, and the encoding of the number behind them. For every list of at most 2^40 bytes and every uint64. -/
import Derived.Test.YtbfnckjnpbgmaaaUna
import Derived.Test.YtbfnckjnpbgmaaaUvp
import Derived.Laws.CopyOwn
namespace Go.Proofs.Ytbfnckjnpbgmaaa
open Go.RowKit Go.Proofs.YtbfnckjnpbgmaaaW.PrintWords Go.Proofs.YtbfnckjnpbgmaaaW.PrintLast
set_option linter.unusedVariables false

theorem make_any (m : Nat) (hm : m ≤ 70368744177664) (W : World) :
    (Instr.makeSlice 22 (.int .i64 (m : Int)) (.int .i64 ((m : Int) + 10))).run Try.prog W = .ok (.slice (some ⟨W.heap.size, 0, none⟩) m (m + 10)) (W.alloc (.cells (madeCells #[.int .u8 0] (m + 10)) 5)) := by
  obtain ⟨i0, hi, hz0, hz1, hz2⟩ := info_parts Refs.info5
  have h := run_make (P := Try.prog) W 22 5 i0 (.int .u8 0) Try.underlying22 hi hz0 .i64 .i64 m (m + 10) (by omega) (by omega) (by rw [hz2]; omega) (by omega)
  rw [h, hz1]
  have e1 : ((m : Int) + 10).toNat = m + 10 := by omega
  rw [e1, Int.toNat_natCast, Nat.mul_one]
  rfl

theorem copied (w w2 : World) (B : List Int) (C : Array Value) (hC : C = madeCells #[.int .u8 0] (B.length + 10)) (hB : B.length ≤ 1099511627776)
    (h : w2.heap[w.heap.size]? = some (.cells (splice C.toList 0 (nums .u8 B)).toArray 5 (0, 0))) :
    w2.ownsRow w.heap.size 5 1 (.slice (some ⟨w.heap.size, 0, none⟩) B.length (B.length + 10)) B.length (nums .u8 B) := by
  have hs : C.toList.length = B.length + 10 := by rw [hC]; simp [madeCells]
  refine ⟨by simp [nums], .inr ⟨w.heap.size, B.length + 10, _, rfl, Nat.le_refl _, h, by omega, by simp only [maxLen]; omega, ?_, ?_⟩⟩
  · have := length_splice C.toList 0 (nums .u8 B) (by rw [nums_length, hs]; omega)
    simp only [List.size_toArray, Nat.mul_one]
    rw [this, hs]
  · simp only [splice, List.take_zero, List.nil_append, Nat.mul_one, nums_length]
    rw [List.take_append_of_le_length (by rw [nums_length]; exact Nat.le_refl _), List.take_of_length_le (by rw [nums_length]; exact Nat.le_refl _)]
theorem row_src {w w1 : World} {A : Option Addr} {B : List Int} (hr : Kd.C (Kd.int .u8) w A B.length B) (hb : Below w.heap.size w w1) (h : 0 < (nums .u8 B).length) :
    ∃ ad, A = some ad ∧ ∀ j v, (nums .u8 B)[j]? = some v → w1.cell? (ad.add j) = some v := by
  obtain ⟨_, _, h3⟩ := Kd.reads_of_C (d := (0 : Int)) hr
  obtain ⟨ad, e, hc⟩ := h3 (by simpa [nums] using h)
  refine ⟨ad, e, fun j v hv => ?_⟩
  have hj : j < B.length := by
    rcases Nat.lt_or_ge j B.length with h | h
    · exact h
    · simp [nums, List.getElem?_eq_none h] at hv
  refine pw_cell_below hb ((hc j hj).trans ?_)
  rw [← hv]
  simp [nums, List.getElem?_eq_getElem hj, List.getD_eq_getElem?_getD]

def UvRel (w : World) (B : List Int) (v : Nat) (x o : Value) (w' : World) : Prop :=
  ∃ (q : Nat) (done : List Int), x = .int .u64 (q : Int) ∧ q < 18446744073709551616 ∧ done ++ uvL q = uvL v ∧ w'.ownsRow w.heap.size 5 1 o (B ++ done).length (nums .u8 (B ++ done)) ∧ Below w.heap.size w w'

set_option maxHeartbeats 1000000 in
set_option maxRecDepth 100000 in
theorem putUvarint_any (A : Option Addr) (c : Nat) (B : List Int) (x : Int) (v : Nat) (w : World) (hr : Kd.C (Kd.int .u8) w A B.length B) (hc : B.length ≤ c) (hx : x = v) (hB : B.length ≤ 1099511627776) (h1 : v < 18446744073709551616) :
    Calls Try.prog 21 #[.slice A B.length c, .int .u64 x] w fun e w' => MadeBytes w (B ++ uvL v) e w' := by
  subst hx
  have HR := Aside0.mk hr
  have hmk := make_any B.length (by omega)
  obtain ⟨C, hC⟩ : ∃ C, C = madeCells #[.int .u8 0] (B.length + 10) := ⟨_, rfl⟩
  rw [← hC] at hmk
  have HC := Aside0.mk hC
  clear hr hC
  have HSRC := Aside0.mk (fun h => row_src HR.out (below_alloc (Below.refl _ _) (.cells C 5)) h)
  have HCL : Aside0 (C.toList.length = B.length + 10) := ⟨by rw [HC.out]; simp [madeCells]⟩
  have HNEW := Aside0.mk (blk_new w (.cells C 5))
  go_enter Try.func21, Try.ntmps21
  go_wp2_with ((with_reducible refine wpList_copy_splice rfl (.tmp 12) (.tmp 13) 22 22 rfl 5 Try.underlying22 rfl (some ⟨w.heap.size, 0, none⟩) A B.length (B.length + 10) B.length c rfl rfl w.heap.size 0 C.toList 5 ?hg (nums .u8 B) ?hn ?hpos ?hfit ?h1 w.heap.size w ?hb (Nat.le_refl _) ?_); (case hg => exact HNEW.out); (case hn => rw [nums_length]; exact (Nat.min_self _).symm); (case hpos => exact fun h => ⟨rfl, HSRC.out h⟩); (case hfit => rw [HCL.out, nums_length]; omega); (case h1 => intro u hu; simp only [nums, List.mem_map] at hu; obtain ⟨q, _, rfl⟩ := hu; rfl); (case hb => exact below_alloc (Below.refl _ _) _); intro w2 HG2 hB2; have HO := Aside0.mk (copied w w2 B C HC.out hB HG2.out); have HB2 := Aside0.mk hB2; clear HG2 hB2)
  go_simp
  go_loopw [1, 5] (fun x o w' => UvRel w B v x o w') (fun x _ _ => (intOf x).toNat)
  case atStart => exact ⟨v, [], rfl, h1, rfl, by simpa using HO.out, HB2.out⟩
  case round =>
    obtain ⟨q, done, rfl, hq, hd, ho, hb⟩ := hrel
    have HD := Aside0.mk hd
    have HO1 := Aside0.mk ho
    have HB1 := Aside0.mk hb
    have hlen : done.length ≤ 10 := by
      have := congrArg List.length hd
      have := uvL_len v h1
      simp only [List.length_append] at *
      omega
    obtain ⟨A1, c1, ho1⟩ := own_slice ho
    subst ho1
    have hsz := hb.size
    have hl2 : (B ++ done).length = B.length + done.length := List.length_append
    have hl3 : (B ++ done).length ≤ 1099511627796 := by omega
    have HY := Aside0.mk (or128 q)
    clear hd ho hb hl2 hlen
    by_cases hge : 128 ≤ q
    · go_wp2_with (at_builtin; refine print_append_num (w0 := w) w.heap.size rfl (.tmp 17) (.tmp 21) 22 5 .u8 1 rfl Try.underlying22 Refs.info5 (by omega) (.slice A1 (B ++ done).length c1) (B ++ done) (bits .or .u8 ((q : Int) % 256) 128) rfl rfl HO1.out ?aB ?aS ?aL ?_; (case aB => exact HB1.out); (case aS => omega); (case aL => omega); intro v1 w1 hown hB1 hg1 hat1; have HO2 := Aside0.mk hown; have HB2 := Aside0.mk hB1; clear hown hB1 hg1 hat1)
      go_roundw
      case rel =>
        refine ⟨q / 128, done ++ [((q % 128 + 128 : Nat) : Int)], by go_num, by omega, ?_, ?_, HB2.out⟩
        · rw [← HD.out, uvL_ge hge, List.append_assoc]; rfl
        · rw [← List.append_assoc, ← HY.out]; exact HO2.out
      case measure => simp [intOf]; omega
    · go_wp2_with (at_builtin; refine print_append_num (w0 := w) w.heap.size rfl (.tmp 25) (.tmp 28) 22 5 .u8 1 rfl Try.underlying22 Refs.info5 (by omega) (.slice A1 (B ++ done).length c1) (B ++ done) (q : Int) rfl rfl HO1.out ?aB ?aS ?aL ?_; (case aB => exact HB1.out); (case aS => omega); (case aL => omega); intro v1 w1 hown hB1 hg1 hat1; have HO2 := Aside0.mk hown; have HB2 := Aside0.mk hB1; clear hown hB1 hg1 hat1)
      go_ret
      refine ⟨v1, rfl, ?_, HB2.out⟩
      rw [← HD.out, uvL_lt hge, ← List.append_assoc]
      exact Kd.R_of_own HO2.out (fun _ _ => trivial)
end Go.Proofs.Ytbfnckjnpbgmaaa
