/- The reference Unpack: plain laws. For every list of bytes. -/
import Derived.Test.YtbfnckjnpbgmaaaMun
namespace Go.Proofs.Ytbfnckjnpbgmaaa
open Go.RowKit Go.Proofs.YtbfnckjnpbgmaaaW.PrintWords Go.Proofs.YtbfnckjnpbgmaaaW.PrintLast Go.Proofs.YtbfnckjnpbgmaaaW.PrintMore
set_option linter.unusedVariables false

theorem take_call (A : Option Addr) (n c : Nat) (B : List Int) (w : World) (h : InBytes w A n c B) (hn : n ≤ 1000000) :
    Calls Try.prog 30 #[.slice A n c] w fun e w' => e = .returned (Triple (takeL B)) ∧ Drawn0 w w' := by
  obtain ⟨rfl, hc, hB, hr⟩ := h
  exact take_any A c B w hr hc hB (by omega)
/-- The first k numbers, none greater than 128. -/
def takesX : Nat → List Int → Option (List Nat × List Int)
  | 0, B => some ([], B)
  | k + 1, B =>
    match takesX k B with
    | none => none
    | some (vs, B1) =>
      match numP 128 B1 with
      | none => none
      | some (v, B2) => some (vs ++ [v], B2)
theorem takesX_length (k : Nat) : ∀ (B : List Int) (vs : List Nat) (B1 : List Int), takesX k B = some (vs, B1) → vs.length = k ∧ (∀ v ∈ vs, v ≤ 128) := by
  induction k with
  | zero =>
    intro B vs B1 h
    rw [takesX] at h
    simp only [Option.some.injEq, Prod.mk.injEq] at h
    obtain ⟨rfl, rfl⟩ := h
    exact ⟨rfl, by simp⟩
  | succ k ih =>
    intro B vs B1 h
    rw [takesX] at h
    split at h
    · cases h
    · rename_i us C hk
      split at h
      · cases h
      · rename_i v C2 hp
        simp only [Option.some.injEq, Prod.mk.injEq] at h
        obtain ⟨rfl, rfl⟩ := h
        obtain ⟨h1, h2⟩ := ih B us C hk
        refine ⟨by rw [List.length_append, List.length_singleton, h1], fun u hu => ?_⟩
        rcases List.mem_append.1 hu with hu | hu
        · exact h2 u hu
        · rw [List.mem_singleton] at hu
          subst hu
          unfold numP at hp
          split at hp
          · rename_i hc
            obtain ⟨rfl, _⟩ := Prod.mk.inj (Option.some.inj hp)
            exact hc.2
          · cases hp
theorem takesX_stop {k : Nat} {B : List Int} (h : takesX k B = none) : ∀ j, takesX (k + j) B = none := by
  intro j
  induction j with
  | zero => exact h
  | succ j ih => rw [← Nat.add_assoc, takesX, ih]
theorem numP_narrow {lim lim' : Nat} (hl : lim ≤ lim') (B : List Int) : numP lim B = match numP lim' B with | none => none | some (v, C) => if v ≤ lim then some (v, C) else none := by
  unfold numP
  by_cases h0 : (takeL B).2.2 = 0
  · by_cases h1 : (takeL B).1 ≤ lim
    · rw [if_pos ⟨h0, h1⟩, if_pos ⟨h0, by omega⟩]
      simp only
      rw [if_pos h1]
    · rw [if_neg (fun h => h1 h.2)]
      by_cases h2 : (takeL B).1 ≤ lim'
      · rw [if_pos ⟨h0, h2⟩]
        simp only
        rw [if_neg h1]
      · rw [if_neg (fun h => h2 h.2)]
  · rw [if_neg (fun h => h0 h.1), if_neg (fun h => h0 h.1)]
theorem headX_takes_none {B : List Int} (h : takesX 3 B = none) : headX B = none := by
  unfold headX
  simp only [takesX] at h
  cases hp : numP 128 B with
  | none => rfl
  | some q =>
    obtain ⟨v, C⟩ := q
    rw [hp] at h
    simp only at h ⊢
    rw [numP_narrow (show 31 ≤ 128 by omega) C]
    cases hp2 : numP 128 C with
    | none => rfl
    | some q2 =>
      obtain ⟨v2, C2⟩ := q2
      rw [hp2] at h
      simp only at h ⊢
      by_cases h31 : v2 ≤ 31
      · rw [if_pos h31]
        simp only
        cases hp3 : numP 128 C2 with
        | none => rfl
        | some q3 =>
          obtain ⟨v3, C3⟩ := q3
          rw [hp3] at h
          simp at h
      · rw [if_neg h31]
theorem headX_takes {B B3 : List Int} {a b c : Nat} (h : takesX 3 B = some ([a, b, c], B3)) : headX B = if b ≤ 31 then some (a, b, c, B3) else none := by
  unfold headX
  simp only [takesX] at h
  cases hp : numP 128 B with
  | none => rw [hp] at h; cases h
  | some q =>
    obtain ⟨v, C⟩ := q
    rw [hp] at h
    simp only at h ⊢
    rw [numP_narrow (show 31 ≤ 128 by omega) C]
    cases hp2 : numP 128 C with
    | none => rw [hp2] at h; cases h
    | some q2 =>
      obtain ⟨v2, C2⟩ := q2
      rw [hp2] at h
      simp only at h ⊢
      cases hp3 : numP 128 C2 with
      | none => rw [hp3] at h; cases h
      | some q3 =>
        obtain ⟨v3, C3⟩ := q3
        rw [hp3] at h
        simp only [List.nil_append, List.cons_append, Option.some.injEq, Prod.mk.injEq, List.cons.injEq, and_true] at h
        obtain ⟨⟨rfl, rfl, rfl⟩, rfl⟩ := h
        by_cases h31 : v2 ≤ 31
        · rw [if_pos h31, if_pos h31]
          simp only
          rw [hp3]
        · rw [if_neg h31, if_neg h31]
theorem takesX_step {k : Nat} {B B1 : List Int} {vs : List Nat} (h : takesX k B = some (vs, B1)) :
    takesX (k + 1) B = if (takeL B1).2.2 = 0 ∧ (takeL B1).1 ≤ 128 then some (vs ++ [(takeL B1).1], B1.drop (takeL B1).2.1) else none := by
  rw [takesX, h]
  simp only
  unfold numP
  by_cases hc : (takeL B1).2.2 = 0 ∧ (takeL B1).1 ≤ 128
  · rw [if_pos hc, if_pos hc]
  · rw [if_neg hc, if_neg hc]
/-- One exception, as the reference reads it. -/
theorem excX_ref (lim w k a : Nat) (B : List Int) (vals : List Nat) {g i h j : Nat} {z1 z2 : Int} (h1 : takeL B = (g, i, z1)) (h2 : takeL (B.drop i) = (h, j, z2)) :
    excX lim w (k + 1) B a vals = if z1 = 0 ∧ z2 = 0 ∧ g ≤ 128 ∧ h ≤ lim ∧ 1 ≤ a + g ∧ a + g ≤ vals.length then excX lim w k (B.drop (i + j)) (a + g) (vals.set (a + g - 1) (vals.getD (a + g - 1) 0 ||| h * 2 ^ w)) else none := by
  rw [excX]
  unfold numP
  rw [h1]
  simp only
  by_cases c1 : z1 = 0 ∧ g ≤ 128
  · rw [if_pos c1]
    simp only
    rw [h2]
    simp only
    by_cases c2 : z2 = 0 ∧ h ≤ lim
    · rw [if_pos c2]
      simp only
      by_cases c3 : 1 ≤ a + g ∧ a + g ≤ vals.length
      · rw [if_pos c3, if_pos ⟨c1.1, c2.1, c1.2, c2.2, c3⟩, List.drop_drop]
      · rw [if_neg c3, if_neg (fun hh => c3 hh.2.2.2.2)]
    · rw [if_neg c2, if_neg (fun hh => c2 ⟨hh.2.1, hh.2.2.2.1⟩)]
  · rw [if_neg c1, if_neg (fun hh => c1 ⟨hh.1, hh.2.2.1⟩)]
/-- l[q : q + k] of bits that are read. -/
theorem mid_bitsU (A : Option Addr) (c n : Nat) (L : List Bool) (q k : Nat) (hn : L.length = n) (hq : q + k ≤ n) (hc : n ≤ c) : ∃ A' c', k ≤ c' ∧
    (∀ (x y : Int) (W : World), x = q → y = ((q + k : Nat) : Int) → (Instr.slice 55 (.slice A n c) (some (.int .i64 x)) (some (.int .i64 y)) none).run Try.prog W = .ok (.slice A' k c') W) ∧
    ∀ w : World, Kd.C Kd.bool w A n L → Kd.C Kd.bool w A' k ((L.drop q).take k) := by
  subst hn
  have h := print_mid_of (P := Try.prog) Value.bool false 55 4 .i64 .i64 Try.underlying55 (info_parts Refs.info4).choose_spec.1 (info_parts Refs.info4).choose_spec.2.2.1 A c L (q : Int) ((q + k : Nat) : Int) (by omega) (by omega) (by omega) hc
  rw [Int.toNat_natCast, Int.toNat_natCast, List.drop_take, Nat.add_sub_cancel_left] at h
  obtain ⟨A', h1, h2, h3⟩ := h
  have hk : ((L.drop q).take k).length = k := by rw [List.length_take, List.length_drop]; omega
  rw [hk] at h1 h2 h3
  exact ⟨A', c - q, h3, fun x y W hx hy => by subst hx hy; exact h1 W, fun w h => Kd.C_of_reads (h1 := fun _ => rfl) (h2 w (Kd.reads_of_C (d := false) h))⟩
theorem take_snocU (l : List Bool) (i : Nat) (h : i < l.length) : l.take (i + 1) = l.take i ++ [l.getD i false] := by
  have := take_more l 0 i (by simpa using h)
  simpa using this
/-- What the reference's Unpack leaves. -/
def UnrOut (w : World) (r : Option (List Nat)) (e : Ending) (w' : World) : Prop :=
  Below w.heap.size w w' ∧ match r with
    | none => e = .returned (.tuple #[.slice none 0 0, .bool false])
    | some vs => ∃ gv, e = .returned (.tuple #[.slice (some ⟨gv, 0, none⟩) vs.length vs.length, .bool true]) ∧ Vr w' w.heap.size gv vs.length vs
end Go.Proofs.Ytbfnckjnpbgmaaa
