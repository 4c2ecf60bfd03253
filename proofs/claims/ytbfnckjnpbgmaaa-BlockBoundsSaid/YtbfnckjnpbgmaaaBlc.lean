/- The cost of a block's encoding is its length; the checks; the best width. For at most 128 numbers below 2^31. -/
import Derived.Test.YtbfnckjnpbgmaaaBlk
namespace Go.Proofs.Ytbfnckjnpbgmaaa
open Go.RowKit Go.Proofs.YtbfnckjnpbgmaaaW.PrintWords Go.Proofs.YtbfnckjnpbgmaaaW.PrintLast Go.Proofs.YtbfnckjnpbgmaaaW.PrintMore
set_option linter.unusedVariables false
set_option linter.unusedSimpArgs false

theorem uvL_bitLen (v : Nat) (hv : v < 18446744073709551616) : (uvL v).length = (max (Lib.bitLen v) 1 + 6) / 7 := by
  induction v using Nat.strongRecOn with
  | _ v ih =>
    by_cases h : 128 ≤ v
    · have h1 := ih (v / 128) (by omega) (by omega)
      have h2 := Lib.bitLen_shift 7 v (by simpa using h) (by simpa using hv)
      have h3 := bitLen_pos (v := v / 128) (by omega) (by omega)
      rw [uvL_ge h, List.length_cons, h1]
      simp only [Nat.reducePow] at h2
      omega
    · have h1 : Lib.bitLen v ≤ 7 := (bitLen_le_iff v 7 hv).2 (by omega)
      rw [uvL_lt h]
      simp only [List.length_singleton]
      omega
theorem sizeOf_f (k v : Nat) (hv : v < 9223372036854775808) : Refs.block_sizeOf.f k (v : Int) = some ((uvL v).length : Int) := by
  have hl := bitLen_le v (by omega)
  have hu := uvL_bitLen v (by omega)
  unfold Refs.block_sizeOf.f Refs.bits_Len64.f
  rw [wrap_u64_nat v (by omega), if_pos (by omega), Option.bind_some, Int.toNat_natCast]
  congr 1
  have e1 : mx (Lib.bitLen v : Int) 1 = ((max (Lib.bitLen v) 1 : Nat) : Int) := by unfold mx; split <;> omega
  have e2 : wrap64 (mx (Lib.bitLen v : Int) 1 + 6) = ((max (Lib.bitLen v) 1 + 6 : Nat) : Int) := by rw [e1]; unfold wrap64; omega
  rw [e2, Int.tdiv_eq_ediv_of_nonneg (by omega), hu]
  unfold wrap64
  omega
theorem excL_length_snoc (w : Nat) (l : List Nat) (v : Nat) : (excL w 1 (l ++ [v])).length = (excL w 1 l).length + (if v / 2 ^ w = 0 then 0 else (uvL (gapL w 1 l)).length + (uvL (v / 2 ^ w)).length) := by
  rw [excL_snoc]
  split <;> simp
theorem ceil8 (q : Nat) (h : q ≤ 128 * 31) : wrap64 (Int.tdiv (wrap64 (wrap64 (q : Int) + 7)) 8) = (((q + 7) / 8 : Nat) : Int) := by
  have a1 : wrap64 (q : Int) = q := by unfold wrap64; omega
  have a2 : wrap64 ((q : Int) + 7) = ((q + 7 : Nat) : Int) := by unfold wrap64; omega
  rw [a1, a2, Int.tdiv_eq_ediv_of_nonneg (by omega)]
  unfold wrap64
  omega
theorem ceil_le (q : Nat) (h : q ≤ 128 * 31) : (q + 7) / 8 ≤ 500 := by omega
theorem sum5 (a b c d e : Nat) (ha : a ≤ 2560) (hb : b ≤ 10) (hc : c ≤ 10) (hd : d ≤ 10) (he : e ≤ 500) :
    wrap64 (wrap64 (wrap64 (wrap64 ((a : Int) + (b : Int)) + (c : Int)) + (d : Int)) + (e : Int)) = ((a + b + c + d + e : Nat) : Int) := by
  have b1 : wrap64 ((a : Int) + (b : Int)) = ((a + b : Nat) : Int) := by unfold wrap64; omega
  rw [b1]
  have b2 : wrap64 (((a + b : Nat) : Int) + (c : Int)) = ((a + b + c : Nat) : Int) := by unfold wrap64; omega
  rw [b2]
  have b3 : wrap64 (((a + b + c : Nat) : Int) + (d : Int)) = ((a + b + c + d : Nat) : Int) := by unfold wrap64; omega
  rw [b3]
  unfold wrap64
  omega
theorem add3 (a b c : Nat) (ha : a ≤ 2560) (hb : b ≤ 10) (hc : c ≤ 10) : wrap64 ((a : Int) + wrap64 ((b : Int) + (c : Int))) = ((a + (b + c) : Nat) : Int) := by
  have a1 : wrap64 ((b : Int) + (c : Int)) = ((b + c : Nat) : Int) := by unfold wrap64; omega
  rw [a1]
  unfold wrap64
  omega
theorem add1_w (a : Nat) (ha : a ≤ 1000) : wrap64 ((a : Int) + 1) = ((a + 1 : Nat) : Int) := by unfold wrap64; omega
theorem sub_w (i g : Nat) (hi : i ≤ 1000) (hg : g ≤ 1000) : wrap64 ((i : Int) - ((i : Int) - (g : Int))) = (g : Int) := by unfold wrap64; omega
theorem sum5_eq (a b c d e : Nat) : a + b + c + d + e = b + c + d + e + a := by omega
theorem cost_l (vs : List Nat) (w : Nat) (h : BlockOk vs) (hw : w ≤ 31) (d : Nat) : ∀ (k i : Nat), vs.length - i = d → d < k → i ≤ vs.length →
    Refs.block_cost.l0 k (ints vs) w ((excL w 1 (vs.take i)).length : Int) (cntL w (vs.take i)) ((i : Int) - gapL w 1 (vs.take i)) (ints vs) (vs.length : Int) i = some ((encL vs w).length : Int) := by
  have hn := h.1
  have hexc : ∀ i, (excL w 1 (vs.take i)).length ≤ 2560 := by
    intro i
    have := excL_len w (vs.take i) (fun v hv => by have := h.2 v (List.mem_of_mem_take hv); omega) 1 (by rw [List.length_take]; omega)
    rw [List.length_take] at this
    omega
  induction d with
  | zero =>
    intro k i hd hk hi
    obtain ⟨k, rfl⟩ : ∃ m, k = m + 1 := ⟨k - 1, by omega⟩
    have : i = vs.length := by omega
    subst this
    have hc := cntL_le w vs
    have g2 := hexc vs.length
    rw [List.take_length] at g2 ⊢
    have l1 := uvL_len vs.length (by omega)
    have l2 := uvL_len w (by omega)
    have l3 := uvL_len (cntL w vs) (by omega)
    have l4 := packL_length (lowsL w vs)
    rw [lowsL_length] at l4
    have l5 : vs.length * w ≤ 128 * 31 := Nat.mul_le_mul hn hw
    rw [Refs.block_cost.l0, if_neg (by omega), ints_length, sizeOf_f k _ (by omega), Option.bind_some, sizeOf_f k w (by omega), Option.bind_some, sizeOf_f k _ (by omega), Option.bind_some]
    have em : (vs.length : Int) * (w : Int) = ((vs.length * w : Nat) : Int) := by rw [Int.natCast_mul]
    rw [em, ceil8 _ l5, sum5 _ _ _ _ _ g2 l1 l2 l3 (ceil_le _ l5)]
    congr 1
    simp only [encL, List.length_append, l4]
    rw [sum5_eq]
  | succ d ih =>
    intro k i hd hk hi
    obtain ⟨k, rfl⟩ : ∃ m, k = m + 1 := ⟨k - 1, by omega⟩
    have hlt : i < vs.length := by omega
    obtain ⟨v, hv⟩ : ∃ v, v = vs.getD i 0 := ⟨_, rfl⟩
    have hvlt : v < 2147483648 := hv ▸ getD_lt h i
    have hts := take_snoc vs i 0 hlt
    rw [← hv] at hts
    have e1 := add1_w i (by omega)
    have hg := gapL_le w (vs.take i) 1 (Nat.le_refl _)
    rw [List.length_take] at hg
    have eg := sub_w i (gapL w 1 (vs.take i)) (by omega) (by omega)
    have hq : v / 2 ^ w < 2147483648 := Nat.lt_of_le_of_lt (Nat.div_le_self _ _) hvlt
    have hnext := ih k (i + 1) (by omega) (by omega) (by omega)
    have g2 := hexc i
    rw [hts, excL_length_snoc, cntL_snoc, gapL_snoc] at hnext
    rw [Refs.block_cost.l0, ints_length, if_pos (by omega), if_pos (by omega), if_pos (by omega), rd_ints, ← hv, if_pos (by omega), shr_i64_nat v w (by omega), e1]
    generalize v / 2 ^ w = q at hq hnext ⊢
    by_cases hz : q = 0
    · rw [if_neg (by omega)]
      rw [if_pos hz, if_pos hz, if_pos hz, Nat.add_zero, Nat.add_zero] at hnext
      have e2 : (((i + 1 : Nat) : Int) - ((gapL w 1 (vs.take i) + 1 : Nat) : Int)) = (i : Int) - (gapL w 1 (vs.take i) : Int) := by omega
      rw [e2] at hnext
      exact hnext
    · have l1 := uvL_len (gapL w 1 (vs.take i)) (by omega)
      have l2 := uvL_len q (by omega)
      have hcl := cntL_le w (vs.take i)
      rw [List.length_take] at hcl
      have hcw := add1_w (cntL w (vs.take i)) (by omega)
      rw [if_neg hz, if_neg hz, if_neg hz] at hnext
      have e2 : (((i + 1 : Nat) : Int) - ((1 : Nat) : Int)) = (i : Int) := by omega
      rw [e2] at hnext
      have e3 := add3 _ _ _ g2 l1 l2
      rw [if_pos (by omega), eg, sizeOf_f k _ (by omega), Option.bind_some, sizeOf_f k q (by omega), Option.bind_some, hcw, e3]
      exact hnext
theorem cost_f (vs : List Nat) (w k : Nat) (h : BlockOk vs) (hw : w ≤ 31) (hk : 128 < k) : Refs.block_cost.f k (ints vs) w = some ((encL vs w).length : Int) := by
  unfold Refs.block_cost.f
  have := cost_l vs w h hw vs.length k 0 (by omega) (by have := h.1; omega) (by omega)
  simpa [excL, cntL, gapL, ints_length] using this

/-! ### the checks -/
def checkV (l : List Int) : Int := if 128 < l.length then 2 else if ∀ v ∈ l, 0 ≤ v ∧ v ≤ 2147483647 then 0 else 8
theorem checkV_ok {l : List Int} (h : checkV l = 0) : ∃ vs, l = ints vs ∧ BlockOk vs := by
  unfold checkV at h
  split at h
  · exact absurd h (by decide)
  · rename_i hlen
    split at h
    · rename_i hr
      refine ⟨l.map Int.toNat, ?_, by simpa using hlen, fun v hv => ?_⟩
      · rw [ints, List.map_map]
        conv => lhs; rw [← List.map_id l]
        apply List.map_congr_left
        intro v hv
        have := hr v hv
        simp only [Function.comp, id_eq]
        omega
      · obtain ⟨x, hx, rfl⟩ := List.mem_map.1 hv
        have := hr x hx
        omega
    · exact absurd h (by decide)
theorem checkV_ints {vs : List Nat} (h : BlockOk vs) : checkV (ints vs) = 0 := by
  unfold checkV
  rw [if_neg (by rw [ints_length]; have := h.1; omega), if_pos]
  intro v hv
  obtain ⟨x, hx, rfl⟩ := List.mem_map.1 hv
  have := h.2 x hx
  omega
theorem checkV_cases (l : List Int) : checkV l = 0 ∨ checkV l = 2 ∨ checkV l = 8 := by
  unfold checkV
  split
  · exact .inr (.inl rfl)
  · split
    · exact .inl rfl
    · exact .inr (.inr rfl)
/-- What the loop of a check comes to from place i on. -/
theorem check_l {f : Nat → List Int → Int → Int → Option Int} (hf : ∀ k x8 x9 x10, f (k + 1) x8 x9 x10 = if x10 < x9 then (if 0 ≤ x10 then (if x10 < (x8.length : Int) then (if (rd x8 x10) < 0 then (some 8) else (if (rd x8 x10) > 2147483647 then (some 8) else (f k x8 x9 (wrap64 (x10 + 1))))) else (none)) else (none)) else (some 0))
    (l : List Int) (hl : l.length ≤ 128) (d : Nat) : ∀ (k i : Nat), l.length - i = d → d < k → i ≤ l.length → f k l (l.length : Int) i = some (if ∀ v ∈ l.drop i, 0 ≤ v ∧ v ≤ 2147483647 then 0 else 8) := by
  induction d with
  | zero =>
    intro k i hd hk hi
    obtain ⟨k, rfl⟩ : ∃ m, k = m + 1 := ⟨k - 1, by omega⟩
    rw [hf, if_neg (by omega), List.drop_eq_nil_of_le (by omega), if_pos (by simp)]
  | succ d ih =>
    intro k i hd hk hi
    obtain ⟨k, rfl⟩ : ∃ m, k = m + 1 := ⟨k - 1, by omega⟩
    have e1 : wrap64 ((i : Int) + 1) = ((i + 1 : Nat) : Int) := by unfold wrap64; omega
    have hlt : i < l.length := by omega
    rw [hf, if_pos (by omega), if_pos (by omega), if_pos (by omega), rd_nat, drop_cons hlt, e1]
    generalize l.getD i 0 = x
    by_cases h0 : x < 0
    · rw [if_pos h0, if_neg (fun h => by have := h x (by simp); omega)]
    · rw [if_neg h0]
      by_cases h1 : x > 2147483647
      · rw [if_pos h1, if_neg (fun h => by have := h x (by simp); omega)]
      · rw [if_neg h1, ih k (i + 1) (by omega) (by omega) (by omega)]
        congr 1
        have : (∀ v ∈ x :: l.drop (i + 1), 0 ≤ v ∧ v ≤ 2147483647) ↔ (∀ v ∈ l.drop (i + 1), 0 ≤ v ∧ v ≤ 2147483647) := by
          constructor
          · intro h v hv; exact h v (by simp [hv])
          · intro h v hv
            rcases List.mem_cons.1 hv with rfl | hv
            · omega
            · exact h v hv
        simp only [this]
theorem check_f (l : List Int) (k : Nat) (hk : 128 < k) : Refs.block_check.f k l = some (checkV l) := by
  unfold Refs.block_check.f checkV
  by_cases h : 128 < l.length
  · rw [if_pos (by omega), if_pos h]
  · rw [if_neg (by omega), if_neg h]
    have := check_l (f := Refs.block_check.l0) (fun _ _ _ _ => by rw [Refs.block_check.l0]) l (by omega) l.length k 0 (by omega) (by omega) (by omega)
    simpa using this
theorem checkRef_f (l : List Int) (k : Nat) (hk : 128 < k) : Refs.corporaref15_Check.f k l = some (checkV l) := by
  unfold Refs.corporaref15_Check.f checkV
  by_cases h : 128 < l.length
  · rw [if_pos (by omega), if_pos h]
  · rw [if_neg (by omega), if_neg h]
    have := check_l (f := Refs.corporaref15_Check.l0) (fun _ _ _ _ => by rw [Refs.corporaref15_Check.l0]) l (by omega) l.length k 0 (by omega) (by omega) (by omega)
    simpa using this

/-! ### the best width -/
/-- The better of a best width so far and a further one. -/
def better (vs : List Nat) (b w : Nat) : Nat := if (encL vs w).length < (encL vs b).length then w else b
/-- The best width among 0 .. w. -/
def bestTo (vs : List Nat) : Nat → Nat
  | 0 => 0
  | w + 1 => better vs (bestTo vs w) (w + 1)
def bestL (vs : List Nat) : Nat := bestTo vs 31
theorem bestTo_le (vs : List Nat) (w : Nat) : bestTo vs w ≤ w := by
  induction w with
  | zero => simp [bestTo]
  | succ w ih => simp only [bestTo, better]; split <;> omega
theorem bestTo_least (vs : List Nat) (w : Nat) : ∀ j, j ≤ w → (encL vs (bestTo vs w)).length ≤ (encL vs j).length ∧ ((encL vs j).length = (encL vs (bestTo vs w)).length → bestTo vs w ≤ j) := by
  induction w with
  | zero => intro j hj; have : j = 0 := by omega
            subst this; simp [bestTo]
  | succ w ih =>
    intro j hj
    have hle := bestTo_le vs w
    simp only [bestTo, better]
    rcases Nat.lt_or_ge j (w + 1) with h | h
    · obtain ⟨h1, h2⟩ := ih j (by omega)
      split
      · exact ⟨by omega, fun h3 => by omega⟩
      · exact ⟨h1, h2⟩
    · have : j = w + 1 := by omega
      subst this
      split
      · exact ⟨Nat.le_refl _, fun _ => Nat.le_refl _⟩
      · exact ⟨by omega, fun h3 => by omega⟩
theorem bestL_le (vs : List Nat) : bestL vs ≤ 31 := bestTo_le vs 31
theorem widthRef_l (vs : List Nat) (h : BlockOk vs) (d : Nat) : ∀ (k w : Nat), 31 - w = d → d + 7000 < k → k < 1000000 → w ≤ 31 →
    Refs.corporaref15_Width.l0 k (ints vs) (bestTo vs w) ((w + 1 : Nat) : Int) = some (bestL vs : Int) := by
  induction d with
  | zero =>
    intro k w hd hk hk2 hw
    obtain ⟨k, rfl⟩ : ∃ m, k = m + 1 := ⟨k - 1, by omega⟩
    have : w = 31 := by omega
    subst this
    rw [Refs.corporaref15_Width.l0, if_neg (by omega)]
    rfl
  | succ d ih =>
    intro k w hd hk hk2 hw
    obtain ⟨k, rfl⟩ : ∃ m, k = m + 1 := ⟨k - 1, by omega⟩
    have hle := bestTo_le vs w
    have e1 : wrap64 (((w + 1 : Nat) : Int) + 1) = ((w + 1 + 1 : Nat) : Int) := by unfold wrap64; omega
    have hnext := ih k (w + 1) (by omega) (by omega) (by omega) (by omega)
    rw [Refs.corporaref15_Width.l0, if_pos (by omega), bytesRef_f vs (w + 1) k h (by omega) (by omega) (by omega), Option.bind_some, bytesRef_f vs (bestTo vs w) k h (by omega) (by omega) (by omega), Option.bind_some, e1]
    simp only [bestTo, better] at hnext
    by_cases hb : (encL vs (w + 1)).length < (encL vs (bestTo vs w)).length
    · rw [if_pos (by omega)]
      rw [if_pos hb] at hnext
      exact hnext
    · rw [if_neg (by omega)]
      rw [if_neg hb] at hnext
      exact hnext
theorem widthRef_f (l : List Int) (k : Nat) (hk : 8000 < k) (hk2 : k < 1000000) : Refs.corporaref15_Width.f k l = some (if checkV l = 0 then (bestL (l.map Int.toNat) : Int) else 0) := by
  unfold Refs.corporaref15_Width.f
  rw [checkRef_f l k (by omega), Option.bind_some]
  by_cases h : checkV l = 0
  · rw [if_pos h, if_pos h]
    obtain ⟨vs, rfl, hv⟩ := checkV_ok h
    have e : (ints vs).map Int.toNat = vs := by
      rw [ints, List.map_map]
      conv => rhs; rw [← List.map_id vs]
      apply List.map_congr_left
      intro v _
      simp
    rw [e]
    exact widthRef_l vs hv 31 k 0 (by omega) (by omega) hk2 (by omega)
  · rw [if_neg h, if_neg h]
theorem ints_toNat (vs : List Nat) : (ints vs).map Int.toNat = vs := by
  rw [ints, List.map_map]
  conv => rhs; rw [← List.map_id vs]
  apply List.map_congr_left
  intro v _
  simp
theorem packRef15_f (vs : List Nat) (h : BlockOk vs) (k : Nat) (hk : 8000 < k) (hk2 : k < 1000000) : Refs.corporaref15_Pack.f k (ints vs) = some (encL vs (bestL vs)) := by
  unfold Refs.corporaref15_Pack.f
  rw [widthRef_f _ k hk hk2, if_pos (checkV_ints h), ints_toNat, Option.bind_some, bytesRef_f vs (bestL vs) k h (bestL_le vs) (by omega) hk2, Option.bind_some]
end Go.Proofs.Ytbfnckjnpbgmaaa
