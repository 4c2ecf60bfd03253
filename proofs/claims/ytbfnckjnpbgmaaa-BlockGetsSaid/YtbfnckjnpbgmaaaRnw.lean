/- NewReader. For at most a million bytes. -/
import Derived.Test.YtbfnckjnpbgmaaaRmt
import Derived.Test.YtbfnckjnpbgmaaaBck
namespace Go.Proofs.Ytbfnckjnpbgmaaa
open Go.RowKit Go.Proofs.YtbfnckjnpbgmaaaW.PrintWords Go.Proofs.YtbfnckjnpbgmaaaW.PrintLast Go.Proofs.YtbfnckjnpbgmaaaW.PrintMore
set_option linter.unusedVariables false

theorem bitAt_take (B : List Int) (k i : Nat) (h : i / 8 < k) : bitAt (B.take k) i = bitAt B i := by
  unfold bitAt
  rw [List.getD_eq_getElem?_getD, List.getD_eq_getElem?_getD, List.getElem?_take_of_lt h]
theorem unpackL_take (B : List Int) (k m : Nat) (h : m ≤ 8 * k) : unpackL (B.take k) m = unpackL B m := by
  unfold unpackL
  apply List.map_congr_left
  intro i hi
  rw [List.mem_range] at hi
  exact bitAt_take B k i (by omega)
theorem IsBytes.take {B : List Int} (h : IsBytes B) (k : Nat) : IsBytes (B.take k) := fun x hx => h x (List.mem_of_mem_take hx)
theorem newReader_err (A : Option Addr) (n c : Nat) (x : Int) (w : World) (hx : x < 0 ∨ 8 * (n : Int) < x) (hn : n ≤ 1000000) :
    Calls Try.prog 48 #[.slice A n c, .int .i64 x] w fun e w' => e = .returned (.tuple #[.pointer none, .int .i64 1]) ∧ w = w' := by
  by_cases h0 : x < 0
  · clear hx
    go_enter Try.func48, Try.ntmps48
    go_wp2_with fail
    go_ret2
    exact ⟨rfl, rfl⟩
  · have h1 : 8 * (n : Int) < x := by omega
    clear hx
    go_enter Try.func48, Try.ntmps48
    go_wp2_with fail
    go_ret2
    exact ⟨rfl, rfl⟩
set_option maxHeartbeats 1000000 in
theorem newReader_any (A : Option Addr) (n c : Nat) (B : List Int) (x : Int) (m : Nat) (w : World) (h : InBytes w A n c B) (hx : x = m) (hm : m ≤ 8 * n) (hn : n ≤ 1000000) :
    Calls Try.prog 48 #[.slice A n c, .int .i64 x] w fun e w' => ∃ g, e = .returned (.tuple #[.pointer (some ⟨g, 0, none⟩), .int .i64 0]) ∧ Rd w' w.heap.size g 0 (unpackL B m) ∧ Below w.heap.size w w' := by
  subst hx
  obtain ⟨rfl, hc, hB, hC⟩ := h
  obtain ⟨k, hk⟩ : ∃ k, k = (m + 7) / 8 := ⟨_, rfl⟩
  have hkn : k ≤ B.length := by omega
  have HC := Aside0.mk (cut_reads k hkn hC)
  have HBY := Aside0.mk (hB.take k)
  have HU : Aside0 (unpackL (B.take k) m = unpackL B m) := ⟨unpackL_take B k m (by omega)⟩
  have hcut := cut_run A c B k hkn hc
  have hmk : m ≤ 8 * k := by omega
  have hk8 : ((m : Int) + 7) / 8 = (k : Int) := by omega
  have hkl : (B.take k).length = k := by rw [List.length_take]; omega
  obtain ⟨T, hT⟩ : ∃ T, T = B.take k := ⟨_, rfl⟩
  rw [← hT] at HC HBY HU hkl
  have HL := Aside0.mk hkl
  have HE := Aside0.mk (own_lit w w.heap.size 5 .u8 [] (Nat.le_refl _) (by simp))
  have HR : Aside0 (ReadsInt (w.alloc (.cells #[] 5)) .u8 A k T) := ⟨Kd.reads_of_C (d := (0 : Int)) (Kd.C_below HC.out (below_alloc (Below.refl _ _) _))⟩
  clear hC hB hT hk hkl
  go_enter Try.func48, Try.ntmps48
  go_wp2_with (at_builtin; refine print_append_row (w0 := w) w.heap.size rfl (.tmp 15) (.tmp 20) 22 5 .u8 1 rfl Try.underlying22 Refs.info5 (by omega) (.slice (some ⟨w.heap.size, 0, none⟩) 0 0) [] T A k c rfl rfl HE.out HR.out ?aB ?aS ?aL ?_; (case aB => exact below_alloc (Below.refl _ _) _); (case aS => simp); (case aL => simp; omega); intro v1 w1 hown hB1 hg1 hat1; rw [List.nil_append] at hown; have HO1 := Aside0.mk hown; have HB1 := Aside0.mk hB1; have hz1 := hB1.size; obtain ⟨A1, c1, hv1⟩ := own_slice hown; subst hv1; clear hown hB1 hg1 hat1)
  go_ret2
  refine ⟨w1.heap.size, rfl, ⟨A1, c1, T, ?_, hz1, own_alloc HO1.out _, HBY.out, ?_, ?_, ?_⟩, below_alloc HB1.out _⟩
  · rw [unpackL_length]
    exact blk_new _ _
  · rw [unpackL_length, HU.out]
  · rw [unpackL_length, HL.out]; exact hmk
  · rw [unpackL_length]; omega
end Go.Proofs.Ytbfnckjnpbgmaaa
