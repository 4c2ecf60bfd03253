/- append of one call (a struct of three cells) to a row of the call's own. -/
import Derived.Test.YtbfnckjnpbgmaaaCal
import Derived.Maps.AppendAt
namespace Go.Proofs.Ytbfnckjnpbgmaaa
open Go.RowKit Go.Proofs.YtbfnckjnpbgmaaaW.PrintWords Go.Proofs.YtbfnckjnpbgmaaaW.PrintLast Go.Proofs.YtbfnckjnpbgmaaaW.PrintMore
set_option linter.unusedVariables false

/-- A call's three cells. -/
def cellsC (c : CallT) : List Value := [.int .i64 c.1, .int .u64 (c.2.1 : Int), .int .i64 c.2.2]
def rowsC (cs : List CallT) : List Value := cs.flatMap cellsC
theorem rowsC_snoc (cs : List CallT) (c : CallT) : rowsC (cs ++ [c]) = rowsC cs ++ cellsC c := by simp [rowsC]
theorem rowsC_length (cs : List CallT) : (rowsC cs).length = cs.length * 3 := by
  induction cs with
  | nil => rfl
  | cons c cs ih =>
    have e : rowsC (c :: cs) = cellsC c ++ rowsC cs := rfl
    have e3 : (cellsC c).length = 3 := rfl
    rw [e, List.length_append, ih, e3, List.length_cons]
    omega
theorem info57 : (Try.prog.info? 57).map (fun i => (i.zero, i.size, i.bytes)) = some (some (.agg #[.int .i64 0, .int .u64 0, .int .i64 0]), 3, 24) := by kernel_rfl
section
variable {ops : Array Oper} {rest : List Oper} {o : Oper} {a : Act} {Q : Exit → Act → World → Prop}
theorem append_call {w0 W : World} (base : Nat) (hgd : o.guard = none) (s x : Operand)
    (ho : o.op = .call { callee := .builtin .append, args := #[s, x], argTypes := #[54, 54] })
    (v : Value) (cs : List CallT) (q : CallT) (ad : Addr) (c : Nat) (hs : a.eval s = v) (hx : a.eval x = .slice (some ad) 1 c)
    (HO : W.ownsRow base 57 3 v cs.length (rowsC cs)) (hnews : ∀ j u, (cellsC q)[j]? = some u → W.cell? (ad.add j) = some u) (HB : Below base w0 W) (hbase : base ≤ W.heap.size) (hl : cs.length ≤ 1000)
    (h : ∀ v1 w1, w1.ownsRow base 57 3 v1 (cs ++ [q]).length (rowsC (cs ++ [q])) → Below base w0 w1 → W.grownBy w1 v.ownBlock → (v1.ownBlock = v.ownBlock ∨ v1.ownBlock = some W.heap.size) → wpList Try.prog ops Q rest (a.put o.dst v1) w1) :
    wpList Try.prog ops Q (o :: rest) a W := by
  obtain ⟨i0, hi, hzz⟩ := Option.map_eq_some_iff.1 info57
  simp only [Prod.mk.injEq] at hzz
  obtain ⟨hz0, hz1, hz2⟩ := hzz
  have h1c : ∀ u ∈ cellsC q, u.oneCell' = true := by intro u hu; simp only [cellsC, List.mem_cons, List.not_mem_nil, or_false] at hu; rcases hu with rfl | rfl | rfl <;> rfl
  obtain ⟨v1, w1, hr, hown, hg, _, hat⟩ := run_append_own_at (P := Try.prog) W base 54 o.type 57 i0 _ 3 24 (by kernel_rfl) hi hz0 hz1 hz2 rfl (by omega) v cs.length (rowsC cs) HO ad 1 c (cellsC q) (by simp [cellsC]) hnews h1c (by simp only [maxLen]; omega) (by omega) hbase
  refine wpList_plain hgd fun K hK => ?_
  unfold Oper.wp execOp
  simp only [ho, resolve, invoke, builtin, Sem.run_bind, Sem.run_pure, Result.andThen_ok, List.map_toArray, List.map_cons, List.map_nil, hs, hx, hr]
  exact hK _ _ (h v1 w1 (by rw [List.length_append, List.length_singleton, rowsC_snoc]; exact hown) (HB.grown hg hbase (own_base HO)) hg hat)
end
end Go.Proofs.Ytbfnckjnpbgmaaa
