/- BlockBounds: plain laws: how many bytes a block needs at most. For every block of numbers. -/
import Derived.Test.YtbfnckjnpbgmaaaBlc
namespace Go.Proofs.Ytbfnckjnpbgmaaa
open Go
set_option linter.unusedVariables false

theorem uvL_le1 (v : Nat) (h : v < 128) : (uvL v).length ≤ 1 := uvL_len_le 0 v (by omega)
theorem uvL_le2 (v : Nat) (h : v < 16384) : (uvL v).length ≤ 2 := uvL_len_le 1 v (by omega)
theorem uvL_le5 (v : Nat) (h : v < 2147483648) : (uvL v).length ≤ 5 := uvL_len_le 4 v (by omega)
/-- The numbers lie below 2^w. -/
def Small (w : Nat) (l : List Nat) : Prop := ∀ v ∈ l, v / 2 ^ w = 0
theorem exc_small (w : Nat) (l : List Nat) : Small w l → ∀ g, excL w g l = [] := by
  induction l with
  | nil => intro _ g; rfl
  | cons v l ih =>
    intro h g
    rw [excL, if_pos (h v (by simp)), ih (fun x hx => h x (by simp [hx]))]
theorem cnt_small (w : Nat) (l : List Nat) : Small w l → cntL w l = 0 := by
  induction l with
  | nil => intro _; rfl
  | cons v l ih =>
    intro h
    rw [cntL, if_pos (h v (by simp)), ih (fun x hx => h x (by simp [hx]))]
theorem exc_one (w x : Nat) (hx : x < 2147483648) (l : List Nat) : Small w l → ∀ i g, g + i ≤ 128 → (excL w g (l.set i x)).length ≤ 7 := by
  induction l with
  | nil => intro _ i g _; simp [excL]
  | cons v l ih =>
    intro h i g hg
    have hl : Small w l := fun y hy => h y (by simp [hy])
    cases i with
    | zero =>
      rw [List.set_cons_zero, excL]
      by_cases h0 : x / 2 ^ w = 0
      · rw [if_pos h0, exc_small w l hl]; simp
      · rw [if_neg h0, exc_small w l hl, List.append_nil, List.length_append]
        have h1 := uvL_le2 g (by omega)
        have h2 := uvL_le5 (x / 2 ^ w) (Nat.lt_of_le_of_lt (Nat.div_le_self _ _) hx)
        omega
    | succ i =>
      rw [List.set_cons_succ, excL, if_pos (h v (by simp))]
      exact ih hl i (g + 1) (by omega)
theorem cnt_one (w x : Nat) (l : List Nat) : Small w l → ∀ i, cntL w (l.set i x) ≤ 1 := by
  induction l with
  | nil => intro _ i; simp [cntL]
  | cons v l ih =>
    intro h i
    have hl : Small w l := fun y hy => h y (by simp [hy])
    cases i with
    | zero =>
      rw [List.set_cons_zero, cntL, cnt_small w l hl]
      split <;> omega
    | succ i =>
      rw [List.set_cons_succ, cntL, if_pos (h v (by simp)), Nat.zero_add]
      exact ih hl i
/-- The bound. -/
def boundL (n w : Nat) : Nat := 3 + (n * w + 7) / 8 + (if n = 128 then 1 else 0)
theorem head_le (n w : Nat) (hn : n ≤ 128) (hw : w ≤ 31) : (uvL n).length + (uvL w).length + 1 + (n * w + 7) / 8 ≤ boundL n w := by
  unfold boundL
  have h1 := uvL_le1 w (by omega)
  by_cases h : n = 128
  · rw [if_pos h]
    have := uvL_le2 n (by omega)
    omega
  · rw [if_neg h]
    have := uvL_le1 n (by omega)
    omega
theorem enc_small (vs : List Nat) (w : Nat) (h : BlockOk vs) (hw : w ≤ 31) (hs : Small w vs) : (encL vs (bestL vs)).length ≤ boundL vs.length w := by
  refine Nat.le_trans (bestTo_least vs 31 w hw).1 ?_
  refine Nat.le_trans ?_ (head_le vs.length w h.1 hw)
  have h0 := uvL_le1 0 (by omega)
  simp only [encL, List.length_append, exc_small w vs hs, cnt_small w vs hs, packL_length, lowsL_length, List.length_nil]
  omega
theorem enc_one (vs : List Nat) (w x i : Nat) (h : BlockOk vs) (hw : w ≤ 31) (hs : Small w vs) (hx : x < 2147483648) (hi : i < vs.length) : (encL (vs.set i x) (bestL (vs.set i x))).length ≤ boundL vs.length w + 7 := by
  refine Nat.le_trans (bestTo_least (vs.set i x) 31 w hw).1 ?_
  have h2 := head_le vs.length w h.1 hw
  have h3 := exc_one w x hx vs hs i 1 (by have := h.1; omega)
  have h4 := uvL_le1 (cntL w (vs.set i x)) (by have := cnt_one w x vs hs i; omega)
  simp only [encL, List.length_append, packL_length, lowsL_length, List.length_set] at *
  omega
theorem ok_set (vs : List Nat) (x i : Nat) (h : BlockOk vs) (hx : x < 2147483648) : BlockOk (vs.set i x) := by
  refine ⟨by rw [List.length_set]; exact h.1, fun v hv => ?_⟩
  rcases List.mem_or_eq_of_mem_set hv with h1 | h1
  · exact h.2 v h1
  · exact h1 ▸ hx
theorem ints_set (vs : List Nat) (x i : Nat) : (ints vs).set i (x : Int) = ints (vs.set i x) := by
  simp [ints, List.map_set]
theorem small_take {w : Nat} {vs : List Nat} (h : ∀ j, j < vs.length → vs.getD j 0 / 2 ^ w = 0) : Small w vs := by
  intro v hv
  obtain ⟨j, hj, e⟩ := List.getElem_of_mem hv
  have := h j hj
  rw [List.getD_eq_getElem?_getD, List.getElem?_eq_getElem hj, Option.getD_some, e] at this
  exact this
end Go.Proofs.Ytbfnckjnpbgmaaa
