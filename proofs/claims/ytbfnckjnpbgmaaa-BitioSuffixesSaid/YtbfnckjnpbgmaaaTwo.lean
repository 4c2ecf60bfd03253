/- Two Writers side by side. For every two Writers of a call's own. -/
import Derived.Test.YtbfnckjnpbgmaaaUpr
namespace Go.Proofs.Ytbfnckjnpbgmaaa
open Go.RowKit Go.Proofs.YtbfnckjnpbgmaaaW.PrintWords Go.Proofs.YtbfnckjnpbgmaaaW.PrintLast
set_option linter.unusedVariables false

/-- Writers at blocks g1 and g2 that hold L1 and L2, apart from each other. -/
structure Two (w : World) (base g1 g2 : Nat) (r1 r2 : Option Nat) (L1 L2 : List Bool) : Prop where
  one : Wr w base g1 r1 L1
  two : Wr w base g2 r2 L2
  ne : g1 ≠ g2
  apart : ∀ k, r1 = some k → r2 ≠ some k
section
variable {w w1 : World} {base g1 g2 : Nat} {r1 r2 r : Option Nat} {L1 L2 M : List Bool}
theorem apart_or (h : ∀ k, r1 = some k → r2 ≠ some k) : r2 = none ∨ r2 ≠ r1 := by
  cases r2 with
  | none => exact .inl rfl
  | some k => exact .inr (fun e => h k e.symm rfl)
theorem apart_or' (h : ∀ k, r1 = some k → r2 ≠ some k) : r1 = none ∨ r1 ≠ r2 := by
  cases r1 with
  | none => exact .inl rfl
  | some k => exact .inr (fun e => h k rfl e.symm)
theorem Two.first (h : Two w base g1 g2 r1 r2 L1 L2) (hw : Wrote w w1 g1 r1 r) (hr : Wr w1 base g1 r M) : Two w1 base g1 g2 r r2 M L2 :=
  ⟨hr, Half.other h.two hw (Ne.symm h.ne) (Half.row_ne h.two h.one) (fun e => Half.row_ne h.one h.two e.symm) (apart_or h.apart), h.ne, fun k hk => by
    rcases hw.new with e | ⟨b, e, hb⟩
    · exact h.apart k (e ▸ hk)
    · intro e2
      have := Half.row_lt h.two k e2
      rw [e] at hk
      injection hk with hk
      omega⟩
theorem Two.second (h : Two w base g1 g2 r1 r2 L1 L2) (hw : Wrote w w1 g2 r2 r) (hr : Wr w1 base g2 r M) : Two w1 base g1 g2 r1 r L1 M :=
  ⟨Half.other h.one hw h.ne (Half.row_ne h.one h.two) (fun e => Half.row_ne h.two h.one e.symm) (apart_or' h.apart), hr, h.ne, fun k hk => by
    rcases hw.new with e | ⟨b, e, hb⟩
    · rw [e]; exact h.apart k hk
    · have := Half.row_lt h.one k hk
      rw [e]
      intro e2
      injection e2 with e2
      omega⟩
theorem Two.below (h : Two w base g1 g2 r1 r2 L1 L2) (hb : Below w.heap.size w w1) : Two w1 base g1 g2 r1 r2 L1 L2 := ⟨Half.below h.one hb, Half.below h.two hb, h.ne, h.apart⟩
theorem Two.drewN (h : Two w base g1 g2 r1 r2 L1 L2) (n : Nat) : Two (w.drewN n) base g1 g2 r1 r2 L1 L2 := ⟨Half.drewN h.one n, Half.drewN h.two n, h.ne, h.apart⟩
theorem Two.drew (h : Two w base g1 g2 r1 r2 L1 L2) : Two w.drew base g1 g2 r1 r2 L1 L2 := ⟨Half.drew h.one, Half.drew h.two, h.ne, h.apart⟩
end
/-- Another block of the call's own (a struct that is boxed) beside a Writer. -/
theorem blk_wrote {w w1 : World} {base g g' n : Nat} {r0 r1 : Option Nat} {B : List Int} {cs : Array Value} {t : TypeId} (h : Half w base g r0 n B) (hw : Wrote w w1 g r0 r1) (hb : w.heap[g']? = some (.cells cs t (0, 0))) (ht : t ≠ 88) (ht5 : t ≠ 5) : w1.heap[g']? = some (.cells cs t (0, 0)) := by
  obtain ⟨v, hc, _, ho, rfl⟩ := h
  refine hw.blk hb (blk_ne hb hc ht) (own_ne ho hb (Ne.symm ht5))
theorem unpack_pre (L M : List Bool) (i : Nat) (hi : i < M.length) : (L ++ M).getD (L.length + i) false = M.getD i false := by
  rw [List.getD_eq_getElem?_getD, List.getD_eq_getElem?_getD, List.getElem?_append_right (by omega)]
  congr 2
  omega
end Go.Proofs.Ytbfnckjnpbgmaaa
