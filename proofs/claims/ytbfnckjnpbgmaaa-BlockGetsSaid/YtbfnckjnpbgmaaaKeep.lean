/- A law for append: what was appended to still reads as it read. For every row of the call's own, and every slice that is read. -/
import Derived.Test.YtbfnckjnpbgmaaaPuv
import Derived.ArgAppend
namespace Go.Proofs.Ytbfnckjnpbgmaaa
open Go.RowKit Go.Proofs.YtbfnckjnpbgmaaaW.PrintWords Go.Proofs.YtbfnckjnpbgmaaaW.PrintLast
set_option linter.unusedVariables false

/-- A shorter slice over the same row. -/
theorem own_shorter {w : World} {base g n m cap : Nat} {e : TypeId} {xs ys : List Value} (h : w.ownsRow base e 1 (.slice (some ⟨g, 0, none⟩) m cap) m ys) (hx : xs.length = n) (hp : ys.take n = xs) (hn : n ≤ m) :
    w.ownsRow base e 1 (.slice (some ⟨g, 0, none⟩) n cap) n xs := by
  refine ⟨by simpa using hx, ?_⟩
  rcases h.2 with ⟨h1, _⟩ | ⟨g', cap', cur, he, hb, hh, hc, hm, hs, ht⟩
  · cases h1
  · injection he with e1 e2 e3
    injection e1 with e1
    injection e1 with e1
    subst e1 e3
    refine .inr ⟨g, cap, cur, rfl, hb, hh, by omega, hm, hs, ?_⟩
    rw [← hp, ← ht, List.take_take, Nat.mul_one, Nat.mul_one, Nat.min_eq_left hn]

section
variable {P : Program} {ops : Array Oper} {rest : List Oper} {o : Oper} {a : Act} {Q : Exit → Act → World → Prop}
theorem append_keep {w0 W : World} (base : Nat) (hgd : o.guard = none) (s x : Operand) (t e : TypeId) (k : IntKind) (bytes : Nat)
    (ho : o.op = .call { callee := .builtin .append, args := #[s, x], argTypes := #[t, t] })
    (ht : P.underlying t = some (.slice e)) (hinfo : (P.info? e).map (fun i => (i.zero, i.size, i.bytes)) = some (some (.int k 0), 1, bytes)) (hb0 : 0 < bytes)
    (v : Value) (xs ys : List Int) (A : Option Addr) (m c : Nat) (hs : a.eval s = v) (hx : a.eval x = .slice A m c)
    (HO : W.ownsRow base e 1 v xs.length (nums k xs)) (HR : ReadsInt W k A m ys) (HB : Below base w0 W) (hbase : base ≤ W.heap.size) (hl : (xs.length + m) * bytes ≤ 140737488355328)
    (h : ∀ v1 w1, w1.ownsRow base e 1 v1 (xs ++ ys).length (nums k (xs ++ ys)) → w1.ownsRow base e 1 v xs.length (nums k xs) → Below base w0 w1 → W.grownBy w1 v.ownBlock → wpList P ops Q rest (a.put o.dst v1) w1) :
    wpList P ops Q (o :: rest) a W := by
  obtain ⟨i0, hi, hzz⟩ := Option.map_eq_some_iff.1 hinfo
  simp only [Prod.mk.injEq] at hzz
  obtain ⟨hz0, hz1, hz2⟩ := hzz
  have hm : ys.length = m := HR.1
  have hlen : xs.length + m ≤ 140737488355328 := Nat.le_trans (Nat.le_mul_of_pos_right _ hb0) hl
  have hrun : ∃ v1 w1, (Builtin.append_ #[t, t] o.type #[v, .slice A m c]).run P W = .ok v1 w1 ∧ w1.ownsRow base e 1 v1 (xs ++ ys).length (nums k (xs ++ ys)) ∧ w1.ownsRow base e 1 v xs.length (nums k xs) ∧ W.grownBy w1 v.ownBlock := by
    have h1c : ∀ u ∈ nums k ys, u.oneCell' = true := by intro u hu; simp only [nums, List.mem_map] at hu; obtain ⟨q, _, rfl⟩ := hu; rfl
    rcases A with _ | ad
    · have h0 : m = 0 := by
        rcases Nat.eq_zero_or_pos m with h0 | h0
        · exact h0
        · obtain ⟨ad, h, _⟩ := HR.2.2 h0
          cases h
      subst h0
      obtain rfl : ys = [] := List.eq_nil_of_length_eq_zero hm
      refine ⟨v, W, ?_, by simpa using HO, HO, World.grownBy.refl W _⟩
      rcases HO.2 with ⟨rfl, hn⟩ | ⟨g, cap, cur, rfl, _, _, hnc, _⟩
      · simp [Builtin.append_, run_underlying ht, sizeOf, typeInfo, hi, Builtin.lenOf, Builtin.firstCells]
      · simp [Builtin.append_, run_underlying ht, sizeOf, typeInfo, hi, Builtin.lenOf, Builtin.firstCells, hnc, storeCells]
    · have hcells : ∀ j u, (nums k ys)[j]? = some u → W.cell? (ad.add j) = some u := by
        intro j u hu
        have hj : j < ys.length := by
          rcases Nat.lt_or_ge j ys.length with h | h
          · exact h
          · simp [nums, List.getElem?_eq_none h] at hu
        obtain ⟨ad', h', hc⟩ := HR.2.2 (by omega)
        injection h' with h'
        subst h'
        have := hc j (by omega)
        simp [nums, List.getElem?_eq_getElem hj] at hu
        subst hu
        rw [this]
        simp [List.getD_eq_getElem?_getD, List.getElem?_eq_getElem hj]
      rcases HO.2 with ⟨hv, hn⟩ | ⟨g, cap, cur, hv, hgb, hh, hnc, hcm, _⟩
      · obtain ⟨v1, w1, hr, h2, h3, _, h5⟩ := run_append_own_at (P := P) W base t o.type e i0 (.int k 0) 1 bytes ht hi hz0 hz1 hz2 rfl (by omega) v xs.length (nums k xs) HO ad m c (nums k ys) (by simp [nums, hm]) hcells h1c (by simp only [maxLen]; omega) hl hbase
        refine ⟨v1, w1, hr, by simpa [nums, hm] using h2, ⟨by simp [nums], .inl ⟨hv, hn⟩⟩, h3⟩
      · subst hv
        by_cases hfit : xs.length + m ≤ cap
        · obtain ⟨w1, hr, h2, h3⟩ := run_append_fits (P := P) W base t o.type e i0 1 ht hi hz1 g xs.length cap (nums k xs) HO ad m c (nums k ys) (by simp [nums, hm]) hcells h1c hfit
          refine ⟨_, w1, hr, by simpa [nums, hm] using h2, own_shorter h2 (nums_length _ _) ?_ (by omega), h3⟩
          rw [List.take_append_of_le_length (by rw [nums_length]; exact Nat.le_refl _), List.take_of_length_le (by rw [nums_length]; exact Nat.le_refl _)]
        · have holds : ∀ j u, (nums k xs)[j]? = some u → W.cell? ((⟨g, 0, none⟩ : Addr).add j) = some u := fun j u hu => HO.cells (g := g) rfl j u hu
          obtain ⟨v1, w1, hr, h2, h3⟩ := run_append_arg_grows (P := P) W t o.type e i0 (.int k 0) 1 bytes ht hi hz0 hz1 hz2 rfl (by omega) ⟨g, 0, none⟩ xs.length cap (nums k xs) (by simp [nums]) holds ad m c (nums k ys) (by simp [nums, hm]) hcells (by omega) (by simp only [maxLen]; omega) hl
          refine ⟨v1, w1, hr, ?_, HO.kept h3 (by simp [Value.ownBlock]), ⟨h3.os, h3.tape, h3.output, h3.size, fun i hi _ => h3.block i hi (by simp)⟩⟩
          have := own_weaken h2 hbase
          simpa [nums, hm] using this
  obtain ⟨v1, w1, hr, hown, hold, hg⟩ := hrun
  refine wpList_plain hgd fun K hK => ?_
  unfold Oper.wp execOp
  simp only [ho, resolve, invoke, builtin, Sem.run_bind, Sem.run_pure, Result.andThen_ok, List.map_toArray, List.map_cons, List.map_nil, hs, hx, hr]
  exact hK _ _ (h v1 w1 hown hold (HB.grown hg hbase (own_base HO)) hg)
end
end Go.Proofs.Ytbfnckjnpbgmaaa
