/- BitioRoundTrips: the calls that are written, as a list and as a row. For every list of calls. -/
import Derived.Test.YtbfnckjnpbgmaaaRtp
import Derived.Test.YtbfnckjnpbgmaaaApc
import Derived.Test.YtbfnckjnpbgmaaaRnw
namespace Go.Proofs.Ytbfnckjnpbgmaaa
open Go.RowKit Go.Proofs.YtbfnckjnpbgmaaaW.PrintWords Go.Proofs.YtbfnckjnpbgmaaaW.PrintLast Go.Proofs.YtbfnckjnpbgmaaaW.PrintMore
set_option linter.unusedVariables false

/-- The calls that are written. -/
def okC (cs : List CallT) : List CallT := cs.filter fun c => (writeL c.1 c.2.1 c.2.2).isSome
theorem okC_succ (cs : List CallT) (k : Nat) (q : CallT) (h : cs[k]? = some q) : okC (cs.take (k + 1)) = if (writeL q.1 q.2.1 q.2.2).isSome = true then okC (cs.take k) ++ [q] else okC (cs.take k) := by
  obtain ⟨hk, hq⟩ := List.getElem?_eq_some_iff.1 h
  rw [List.take_succ_eq_append_getElem hk, hq, okC, List.filter_append]
  split
  · rename_i hs; rw [List.filter_cons_of_pos (by exact hs)]; rfl
  · rename_i hs; rw [List.filter_cons_of_neg (by exact hs), List.filter_nil, List.append_nil]; rfl
theorem bitsOf_okC (cs : List CallT) : bitsOf (okC cs) = bitsOf cs := by
  induction cs with
  | nil => rfl
  | cons c cs ih =>
    unfold okC at ih ⊢
    by_cases hs : (writeL c.1 c.2.1 c.2.2).isSome = true
    · rw [List.filter_cons_of_pos (by exact hs)]
      simp only [bitsOf, List.flatMap_cons] at ih ⊢
      rw [ih]
    · rw [List.filter_cons_of_neg (by exact hs), ih]
      have e : callBits c = [] := by
        unfold callBits
        cases hw : writeL c.1 c.2.1 c.2.2 with
        | none => rfl
        | some M => rw [hw] at hs; exact absurd rfl hs
      simp only [bitsOf, List.flatMap_cons, e, List.nil_append]
theorem okC_mem {cs : List CallT} {q : CallT} (h : q ∈ okC cs) : q ∈ cs ∧ ∃ M, writeL q.1 q.2.1 q.2.2 = some M := by
  obtain ⟨h1, h2⟩ := List.mem_filter.1 h
  exact ⟨h1, Option.isSome_iff_exists.1 h2⟩
theorem okC_length (cs : List CallT) : (okC cs).length ≤ cs.length := List.length_filter_le _ _
/-- Each call that was written is read back. -/
theorem read_done (D : List CallT) (k : Nat) (q : CallT) (hq : D[k]? = some q) (hv : q.2.1 < 18446744073709551616) (hw : ∃ M, writeL q.1 q.2.1 q.2.2 = some M) :
    readL (bitsOf D) (bitsOf (D.take k)).length q.1 q.2.2 = (if q.1 = 1 then q.2.2.toNat else q.2.1, (bitsOf (D.take (k + 1))).length, 0) := by
  obtain ⟨M, hM⟩ := hw
  obtain ⟨hk, hqe⟩ := List.getElem?_eq_some_iff.1 hq
  have hcb : callBits q = M := by unfold callBits; rw [hM]; rfl
  have e : bitsOf D = bitsOf (D.take k) ++ M ++ bitsOf (D.drop (k + 1)) := by
    have h1 : D = D.take k ++ (q :: D.drop (k + 1)) := by
      rw [← hqe, ← List.drop_eq_getElem_cons hk, List.take_append_drop]
    have h2 : bitsOf (D.take k ++ (q :: D.drop (k + 1))) = bitsOf (D.take k) ++ M ++ bitsOf (D.drop (k + 1)) := by
      simp [bitsOf, hcb]
    rw [← h2, ← h1]
  rw [e, back_any _ _ q.1 q.2.1 q.2.2 M hv hM, bitsOf_succ D k q hq, hcb, List.length_append]
theorem bitsOf_take_le (D : List CallT) (k : Nat) : (bitsOf (D.take k)).length ≤ (bitsOf D).length := by
  have h : bitsOf D = bitsOf (D.take k) ++ bitsOf (D.drop k) := by
    unfold bitsOf
    rw [← List.flatMap_append, List.take_append_drop]
  rw [h, List.length_append]
  omega
theorem writeL_unary {v : Nat} {n : Int} {M : List Bool} (h : writeL 1 v n = some M) : 0 ≤ n ∧ n ≤ 4096 := by
  unfold writeL at h
  rw [if_neg (by decide), if_pos rfl] at h
  split at h
  · cases h
  · omega
theorem read_end (L : List Bool) : readL L L.length 0 1 = (0, L.length, 10) := by
  unfold readL
  rw [if_pos rfl, if_neg (by decide), if_pos (by rw [Nat.sub_self]; decide)]
theorem rowsC_get (D : List CallT) : ∀ (k j : Nat) (q : CallT), D[k]? = some q → j < 3 → (rowsC D)[k * 3 + j]? = (cellsC q)[j]? := by
  induction D with
  | nil => intro k j q h; simp at h
  | cons c D ih =>
    intro k j q h hj
    have e : rowsC (c :: D) = cellsC c ++ rowsC D := rfl
    have e3 : (cellsC c).length = 3 := rfl
    cases k with
    | zero =>
      rw [List.getElem?_cons_zero] at h
      obtain rfl := Option.some.inj h
      rw [e, Nat.zero_mul, Nat.zero_add, List.getElem?_append_left (by omega)]
    | succ k =>
      rw [List.getElem?_cons_succ] at h
      rw [e, List.getElem?_append_right (by omega), e3, show (k + 1) * 3 + j - 3 = k * 3 + j by omega]
      exact ih k j q h hj
theorem own_calls {w : World} {base n c : Nat} {A : Option Addr} {D : List CallT} (hn : D.length = n) (h : w.ownsRow base 57 3 (.slice A n c) n (rowsC D)) (hok : ∀ q ∈ D, CallOk q) : InCalls w A n c D := by
  subst hn
  have hc : D.length ≤ c := by
    rcases h.2 with ⟨e, e0⟩ | ⟨g, cap, cur, e, _, _, hle, _⟩
    · rw [e0]; omega
    · injection e with e1 e2 e3
      omega
  refine ⟨rfl, hc, hok, fun hpos => ?_⟩
  rcases h.2 with ⟨e, e0⟩ | ⟨g, cap, cur, e, _⟩
  · omega
  · injection e with e1 e2 e3
    subst e1
    refine ⟨_, rfl, fun k q hq => ?_⟩
    have hcell := fun j (hj : j < 3) u (hu : (cellsC q)[j]? = some u) => h.cells (g := g) rfl (k * 3 + j) u (by rw [rowsC_get D k j q hq hj]; exact hu)
    have h0 := hcell 0 (by omega) _ rfl
    have h1 := hcell 1 (by omega) _ rfl
    have h2 := hcell 2 (by omega) _ rfl
    have hadd : ∀ j, (⟨g, 0, none⟩ : Addr).add j = ⟨g, j, none⟩ := fun j => by unfold Addr.add; split <;> simp_all
    rw [hadd] at h0 h1 h2
    rw [hadd]
    exact ⟨h0, h1, h2⟩
theorem Rd.less {w : World} {base b g p : Nat} {L : List Bool} (h : Rd w base g p L) (hb : b ≤ base) : Rd w b g p L := by
  obtain ⟨A, c, B, h1, h2, h3, h4⟩ := h
  exact ⟨A, c, B, h1, by omega, own_less h3 hb, h4⟩
/-- A Writer beside a Reader that is moved. -/
theorem half_beside {w w1 : World} {base base' g gr p n : Nat} {row : Option Nat} {L : List Bool} {B : List Int} (h : Half w base g row n B) (hr : Rd w base' gr p L) (hw : Wrote w w1 gr none none) : Half w1 base g row n B := by
  obtain ⟨A, c, B', h1, _⟩ := hr
  have hne : g ≠ gr := by
    obtain ⟨v, hb, _⟩ := h
    rintro rfl
    rw [h1] at hb
    injection hb with hb
    injection hb with _ hb
    cases hb
  have hrow : row ≠ some gr := by
    obtain ⟨v, _, _, ho, rfl⟩ := h
    exact fun e => own_ne ho h1 (by decide) e.symm
  exact h.other hw hne hrow (by simp) (Classical.em _)
/-- A row of calls beside a Reader that is moved. -/
theorem calls_beside {w w1 : World} {base base' g p n : Nat} {L : List Bool} {v : Value} {xs : List Value} (h : w.ownsRow base 57 3 v n xs) (hr : Rd w base' g p L) (hw : Wrote w w1 g none none) : w1.ownsRow base 57 3 v n xs := by
  obtain ⟨A, c, B, h1, _⟩ := hr
  exact hw.own h (fun e => own_ne h h1 (by decide) e.symm) (Classical.em _)
/-- A row of calls beside a Writer. -/
theorem Half.row_ne57 {w : World} {b b' g n m : Nat} {r : Option Nat} {B : List Int} {v : Value} {xs : List Value} (h : Half w b g r n B) (ho : w.ownsRow b' 57 3 v m xs) : v.ownBlock ≠ some g ∧ (v.ownBlock = none ∨ v.ownBlock ≠ r) ∧ (r = none ∨ r ≠ v.ownBlock) := by
  obtain ⟨v', hc, _, ho', rfl⟩ := h
  exact ⟨fun e => own_ne ho hc (by decide) e.symm, own_type_ne ho ho' (by decide), own_type_ne ho' ho (by decide)⟩
end Go.Proofs.Ytbfnckjnpbgmaaa
