/- A slice of calls that came in, opened to its cells. For every reading. The first theorem is the kit's own, out of its page on structs. -/
import Derived.Test.YtbfnckjnpbgmaaaCal
import Derived.Deep.Slices
import Derived.Deep.Fields
import Derived.ChangeSame
import Derived.OpenShut
namespace Go.Proofs.Ytbfnckjnpbgmaaa
open Go.ChangeShapes Go.WideShapes Go.Deep Go.RowKit Go.Proofs.YtbfnckjnpbgmaaaW.PrintWords
set_option linter.unusedVariables false
section
variable {H : Type} {enc : TypeId × Value → H} {P : Program} {w : World} {base : Nat} {spare : Nat → Bool} {held : Bool}
theorem open_slice_fields {t e : TypeId} {fs : Array Field} {fuel : Nat} {cs : List Value} {x : DataW H × List MemPlace} (ht : P.underlying t = some (.slice e)) (he : P.underlying e = some (.struct fs))
    (hone : oneCellFields P fs = true) (hC : P.cellsOf e = fs.size) (h : DataW.trod enc P w base spare held fuel t cs = some x) :
    (cs = [.slice none 0 0] ∧ x = (.nil, [])) ∨
    ∃ (a : Addr) (len cap m : Nat) (D : Nat → DataW H) (Pl : Nat → List MemPlace), cs = [.slice (some a) len cap] ∧ base ≤ a.block ∧ len ≤ cap ∧ cap ≤ maxLen ∧ m = (if spare a.block then cap else len) ∧
      x = (.slice ((List.range len).map D) ((List.range (m - len)).map fun j => D (len + j)), MemPlace.row a (m * fs.size) ++ (List.range m).flatMap Pl) ∧
      ∀ i, i < m → ∃ (ys : List (DataW H × List MemPlace)) (n : Nat), D i = .agg (ys.map (·.1)) ∧ Pl i = ys.flatMap (·.2) ∧ ys.length = fs.size ∧
        ∀ (j : Nat) (f : Field), fs[j]? = some f → ∃ (v : Value) (y : DataW H × List MemPlace), w.cell? (a.add (i * fs.size + j)) = some v ∧ ys[j]? = some y ∧ DataW.trod enc P w base spare held n f.type [v] = some y := by
  rcases open_slice ht h with h0 | ⟨a, len, cap, m, n, D, Pl, hcs, hb, hl, hm, hmm, hx, hi⟩
  · exact .inl h0
  · refine .inr ⟨a, len, cap, m, D, Pl, hcs, hb, hl, hm, hmm, by rw [hC] at hx; exact hx, fun i him => ?_⟩
    obtain ⟨cs', hc, ht'⟩ := hi i him
    rw [hC] at hc
    obtain ⟨ys, n', hn', hy, hlen, hyl, hf⟩ := DataW.trod_struct he ht'
    obtain ⟨_, hcl, hat⟩ := World.cells?_some hc
    simp only [Prod.mk.injEq] at hy
    refine ⟨ys, n', hy.1, hy.2, hyl, fun j f hj => ?_⟩
    obtain ⟨ho, hk⟩ := hone_of hone j f hj
    have hjl : j < fs.size := (Array.getElem?_eq_some_iff.1 hj).1
    have hcell := hat j hjl
    have hv : cs'[j]? = some (cs'[j]'(by omega)) := List.getElem?_eq_getElem (by omega)
    have h1 := hf j f hj
    rw [ho, hk] at h1
    have hone' : (cs'.drop j).take 1 = [cs'[j]'(by omega)] := by
      rw [List.drop_eq_getElem_cons (by omega)]
      rfl
    rw [hone'] at h1
    have hys : ys[j]? = some (ys[j]'(by omega)) := List.getElem?_eq_getElem (by omega)
    refine ⟨_, _, ?_, hys, h1.trans hys⟩
    rw [← Go.Deep.add_add, hcell, hv]
end

theorem list_of {α : Type} {P : Nat → α → Prop} (n : Nat) (h : ∀ i, i < n → ∃ q, P i q) : ∃ l : List α, l.length = n ∧ ∀ k q, l[k]? = some q → P k q := by
  induction n with
  | zero => exact ⟨[], rfl, fun k q hq => by simp at hq⟩
  | succ n ih =>
    obtain ⟨l, hl, hp⟩ := ih (fun i hi => h i (by omega))
    obtain ⟨q, hq⟩ := h n (by omega)
    refine ⟨l ++ [q], by simp [hl], fun k r hr => ?_⟩
    rcases Nat.lt_or_ge k n with hk | hk
    · rw [List.getElem?_append_left (by omega)] at hr
      exact hp k r hr
    · have hkn : k = n := by
        have := (List.getElem?_eq_some_iff.1 hr).1
        rw [List.length_append, List.length_singleton] at this
        omega
      subst hkn
      rw [← hl, List.getElem?_concat_length] at hr
      injection hr with hr
      subst hr
      exact hq
theorem cells57 : Try.prog.cellsOf 57 = 3 := by kernel_rfl
theorem add_mid (a : Addr) (m j : Nat) (hj : j ≠ 0) : a.add (m + j) = ⟨(a.add m).block, (a.add m).off + j, none⟩ := by
  unfold Addr.add
  by_cases h : m = 0
  · subst h
    simp [hj]
  · simp [h, Nat.add_assoc]
theorem open_calls {H : Type} {enc : TypeId × Value → H} {w : World} {base : Nat} {spare : Nat → Bool} {held : Bool} {fuel : Nat} {vs : List Value} {x : DataW H × List MemPlace}
    (h : DataW.trod enc Try.prog w base spare held fuel 54 vs = some x) : ∃ A n c cs, vs = [.slice A n c] ∧ InCalls w A n c cs := by
  rcases open_slice_fields Try.underlying54 Try.underlying57 (by kernel_rfl) cells57 h with ⟨hcs, _⟩ | ⟨a, len, cap, m, D, Pl, hcs, _, hl, hm, hmm, _, hi⟩
  · exact ⟨none, 0, 0, [], hcs, rfl, Nat.le_refl _, fun q hq => by simp at hq, fun h0 => absurd h0 (by omega)⟩
  · have hlm : len ≤ m := by rw [hmm]; split <;> omega
    obtain ⟨cs, hlen, hp⟩ := list_of (P := fun i (q : CallT) => CallOk q ∧ CallAt w (a.add (i * 3)) q) len (fun i hil => by
      obtain ⟨ys, n, _, _, _, hf⟩ := hi i (by omega)
      obtain ⟨v0, y0, hc0, _, ht0⟩ := hf 0 _ rfl
      obtain ⟨v1, y1, hc1, _, ht1⟩ := hf 1 _ rfl
      obtain ⟨v2, y2, hc2, _, ht2⟩ := hf 2 _ rfl
      obtain ⟨k0, e0, _, w0⟩ := DataW.trod_int Try.underlying3 ht0
      obtain ⟨k1, e1, _, w1⟩ := DataW.trod_int Try.underlying23 ht1
      obtain ⟨k2, e2, _, w2⟩ := DataW.trod_int Try.underlying3 ht2
      simp only [List.cons.injEq, and_true] at e0 e1 e2
      subst e0 e1 e2
      have b1 := bounds_u64 w1
      have b2 := bounds_i64 w2
      refine ⟨(k0, k1.toNat, k2), ⟨by simp only; omega, b2.1, b2.2⟩, hc0, ?_, ?_⟩
      · rw [← add_mid a (i * 3) 1 (by omega), show ((k1.toNat : Nat) : Int) = k1 by omega]
        exact hc1
      · rw [← add_mid a (i * 3) 2 (by omega)]
        exact hc2)
    exact ⟨some a, len, cap, cs, hcs, hlen, hl, fun q hq => by
      obtain ⟨k, hk⟩ := List.getElem?_of_mem hq
      exact (hp k q hk).1, fun _ => ⟨a, rfl, fun k q hq => (hp k q hq).2⟩⟩
end Go.Proofs.Ytbfnckjnpbgmaaa
