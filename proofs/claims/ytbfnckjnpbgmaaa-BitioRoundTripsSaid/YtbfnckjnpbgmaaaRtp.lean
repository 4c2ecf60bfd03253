/- BitioRoundTrips: plain laws: what was written is read back. For every call that is written. -/
import Derived.Test.YtbfnckjnpbgmaaaRmt
import Derived.Test.YtbfnckjnpbgmaaaWrf
namespace Go.Proofs.Ytbfnckjnpbgmaaa
open Go
set_option linter.unusedVariables false

theorem numL_cons (b : Bool) (l : List Bool) : numL (b :: l) = 2 ^ l.length * b.toNat + numL l := by
  induction l using snoc_ind with
  | nil => simp [numL]
  | append_singleton l c ih =>
    rw [show b :: (l ++ [c]) = (b :: l) ++ [c] from rfl, numL_snoc, numL_snoc, ih, List.length_append, List.length_singleton, Nat.pow_succ]
    have : 2 ^ l.length * 2 * b.toNat = 2 * (2 ^ l.length * b.toNat) := by rw [Nat.mul_comm (2 ^ l.length) 2, Nat.mul_assoc]
    omega
theorem numL_lowL (v n : Nat) : numL (lowL v n) = v % 2 ^ n := by
  induction n with
  | zero => simp [lowL, numL, Nat.mod_one]
  | succ n ih =>
    rw [lowL, numL_cons, ih, lowL_length, Nat.mod_pow_succ, Nat.testBit_eq_decide_div_mod_eq]
    rcases Nat.mod_two_eq_zero_or_one (v / 2 ^ n) with h | h <;> simp [h] <;> omega
theorem zL_zeros (most z : Nat) (rest : List Bool) : ∀ n, n + z ≤ most → zL most (List.replicate z false ++ true :: rest) n = (n + z, 0) := by
  induction z with
  | zero => intro n _; rfl
  | succ z ih =>
    intro n h
    rw [List.replicate_succ, List.cons_append, zL, if_pos (by omega), ih (n + 1) (by omega)]
    congr 1
    omega
theorem drop_pre (pre M rest : List Bool) : (pre ++ M ++ rest).drop pre.length = M ++ rest := by
  rw [List.append_assoc, List.drop_left]
theorem back_bits (pre rest : List Bool) (v : Nat) (n : Int) (M : List Bool) (hv : v < 18446744073709551616) (h : writeL 0 v n = some M) : readL (pre ++ M ++ rest) pre.length 0 n = (v, pre.length + M.length, 0) := by
  unfold writeL at h
  rw [if_pos rfl] at h
  split at h
  · rename_i hc
    obtain rfl := Option.some.inj h
    obtain ⟨k, rfl⟩ : ∃ k : Nat, n = k := ⟨n.toNat, by omega⟩
    have hlt := (bitLen_le_iff v k hv).1 (by omega)
    rw [readL, if_pos rfl, if_neg (by omega), Int.toNat_natCast, if_neg (by simp only [List.length_append, lowL_length]; omega), drop_pre, lowL_length]
    have e : (lowL v k ++ rest).take k = lowL v k := by
      have := List.take_left (l₁ := lowL v k) (l₂ := rest)
      rwa [lowL_length] at this
    rw [e, numL_lowL, Nat.mod_eq_of_lt hlt]
  · cases h
theorem back_unary (pre rest : List Bool) (v : Nat) (n : Int) (M : List Bool) (h : writeL 1 v n = some M) : readL (pre ++ M ++ rest) pre.length 1 n = (n.toNat, pre.length + M.length, 0) := by
  unfold writeL at h
  rw [if_neg (by decide), if_pos rfl] at h
  split at h
  · cases h
  · rename_i hc
    obtain rfl := Option.some.inj h
    obtain ⟨k, rfl⟩ : ∃ k : Nat, n = k := ⟨n.toNat, by omega⟩
    rw [Int.toNat_natCast, readL, if_neg (by decide), if_pos rfl, drop_pre]
    have e : unaryL k ++ rest = List.replicate k false ++ true :: rest := by simp [unaryL]
    rw [e, zL_zeros 4096 k rest 0 (by omega), if_pos rfl, Nat.zero_add]
    simp [unaryL, Nat.add_assoc]
theorem lowL_top (v : Nat) (hv : v < 18446744073709551616) (h0 : v ≠ 0) : lowL v (Lib.bitLen v) = true :: lowL v (Lib.bitLen v - 1) ∧ 1 ≤ Lib.bitLen v := by
  have h1 : ¬ Lib.bitLen v ≤ 0 := fun h => h0 (by have := (bitLen_le_iff v 0 hv).1 h; simpa using this)
  obtain ⟨k, hk⟩ : ∃ k, Lib.bitLen v = k + 1 := ⟨Lib.bitLen v - 1, by omega⟩
  have hlt := (bitLen_le_iff v (k + 1) hv).1 (by omega)
  have hge : ¬ v < 2 ^ k := fun h => by have := (bitLen_le_iff v k hv).2 h; omega
  rw [hk, lowL, Nat.add_sub_cancel]
  refine ⟨?_, by omega⟩
  congr 1
  rw [Nat.testBit_eq_decide_div_mod_eq]
  have hd : v / 2 ^ k = 1 := by
    rw [Nat.pow_succ] at hlt
    have hpos := Nat.two_pow_pos k
    generalize 2 ^ k = y at hlt hge hpos ⊢
    have h1 : 1 ≤ v / y := (Nat.le_div_iff_mul_le hpos).2 (by omega)
    have h2 : v / y < 2 := (Nat.div_lt_iff_lt_mul hpos).2 (by omega)
    omega
  rw [hd]; rfl
theorem gam_back (pre rest : List Bool) (v : Nat) (hv : v < 18446744073709551616) (h0 : v ≠ 0) : gamR (pre ++ gammaL v ++ rest) pre.length = (v, pre.length + (gammaL v).length, 0) := by
  obtain ⟨ht, hk1⟩ := lowL_top v hv h0
  have hle := bitLen_le v hv
  have hlt := (bitLen_le_iff v (Lib.bitLen v) hv).1 (Nat.le_refl _)
  have hgl : gammaL v = List.replicate (Lib.bitLen v - 1) false ++ lowL v (Lib.bitLen v) := rfl
  obtain ⟨k, hk⟩ : ∃ k, Lib.bitLen v = k + 1 := ⟨Lib.bitLen v - 1, by omega⟩
  rw [hk] at ht hgl hlt hle
  rw [Nat.add_sub_cancel] at ht hgl
  have hlen : (gammaL v).length = 2 * k + 1 := by rw [hgl, List.length_append, List.length_replicate, lowL_length]; omega
  have hz : zL 63 ((pre ++ gammaL v ++ rest).drop pre.length) 0 = (k, 0) := by
    rw [drop_pre, hgl, ht, List.append_assoc, List.cons_append, zL_zeros 63 k _ 0 (by omega), Nat.zero_add]
  unfold gamR
  rw [hz, if_pos rfl, if_neg (by simp only [List.length_append, hlen]; omega)]
  have hd : (pre ++ gammaL v ++ rest).drop (pre.length + k) = lowL v (k + 1) ++ rest := by
    rw [← List.drop_drop, drop_pre, hgl, List.append_assoc]
    have := List.drop_left (l₁ := List.replicate k false) (l₂ := lowL v (k + 1) ++ rest)
    rwa [List.length_replicate] at this
  have e : (lowL v (k + 1) ++ rest).take (k + 1) = lowL v (k + 1) := by
    have := List.take_left (l₁ := lowL v (k + 1)) (l₂ := rest)
    rwa [lowL_length] at this
  simp only
  rw [hd, e, numL_lowL, Nat.mod_eq_of_lt hlt, hlen]
  congr 2
theorem back_gamma (pre rest : List Bool) (v : Nat) (n : Int) (M : List Bool) (hv : v < 18446744073709551616) (h : writeL 2 v n = some M) : readL (pre ++ M ++ rest) pre.length 2 n = (v, pre.length + M.length, 0) := by
  unfold writeL at h
  rw [if_neg (by decide), if_neg (by decide)] at h
  split at h
  · cases h
  · rename_i h0
    rw [if_pos rfl] at h
    obtain rfl := Option.some.inj h
    rw [readL_gamma, gam_back pre rest v hv h0, if_pos rfl]
theorem top_sum (v k : Nat) (hlt : v < 2 ^ (k + 1)) (hge : ¬ v < 2 ^ k) : 2 ^ k ||| v % 2 ^ k = v := by
  have hpos := Nat.two_pow_pos k
  have h1 := Nat.two_pow_add_eq_or_of_lt (i := k) (b := v % 2 ^ k) (Nat.mod_lt _ hpos) 1
  rw [Nat.mul_one] at h1
  rw [← h1]
  have hm : v % 2 ^ k = v - 2 ^ k := by
    rw [Nat.pow_succ] at hlt
    generalize 2 ^ k = y at hlt hge hpos
    rw [Nat.mod_eq_sub_mod (by omega), Nat.mod_eq_of_lt (by omega)]
  rw [hm]
  omega
theorem back_delta (pre rest : List Bool) (kind : Int) (v : Nat) (n : Int) (M : List Bool) (hv : v < 18446744073709551616) (hk0 : kind ≠ 0) (hk1 : kind ≠ 1) (hk2 : kind ≠ 2) (h : writeL kind v n = some M) : readL (pre ++ M ++ rest) pre.length kind n = (v, pre.length + M.length, 0) := by
  unfold writeL at h
  rw [if_neg hk0, if_neg hk1] at h
  by_cases h0 : v = 0
  · rw [if_pos h0] at h; cases h
  · rw [if_neg h0, if_neg hk2] at h
    obtain rfl := Option.some.inj h
    obtain ⟨ht, hb1⟩ := lowL_top v hv h0
    have hle := bitLen_le v hv
    have hlt := (bitLen_le_iff v (Lib.bitLen v) hv).1 (Nat.le_refl _)
    have hge : ¬ v < 2 ^ (Lib.bitLen v - 1) := fun h => by have := (bitLen_le_iff v (Lib.bitLen v - 1) hv).2 h; omega
    have hdl : deltaL v = gammaL (Lib.bitLen v) ++ lowL v (Lib.bitLen v - 1) := rfl
    obtain ⟨k, hk⟩ : ∃ k, Lib.bitLen v = k + 1 := ⟨Lib.bitLen v - 1, by omega⟩
    rw [hk] at hdl hlt hge hle
    rw [Nat.add_sub_cancel] at hdl hge
    have hg := gam_back pre (lowL v k ++ rest) (k + 1) (by omega) (by omega)
    have hL : pre ++ deltaL v ++ rest = pre ++ gammaL (k + 1) ++ (lowL v k ++ rest) := by rw [hdl]; simp only [List.append_assoc]
    rw [readL_delta _ _ kind n hk0 hk1 hk2, hL, hg, if_pos rfl, deltaR_eq, if_neg (by omega), Nat.add_sub_cancel, if_neg (by simp only [List.length_append, lowL_length]; omega)]
    have hd : (pre ++ gammaL (k + 1) ++ (lowL v k ++ rest)).drop (pre.length + (gammaL (k + 1)).length) = lowL v k ++ rest := by
      rw [← List.length_append, List.drop_left]
    have e : (lowL v k ++ rest).take k = lowL v k := by
      have := List.take_left (l₁ := lowL v k) (l₂ := rest)
      rwa [lowL_length] at this
    simp only
    rw [hd, e, numL_lowL, top_sum v k hlt hge, hdl, List.length_append, lowL_length, Nat.add_assoc]
/-- What was written is read back. -/
theorem back_any (pre rest : List Bool) (kind : Int) (v : Nat) (n : Int) (M : List Bool) (hv : v < 18446744073709551616) (h : writeL kind v n = some M) :
    readL (pre ++ M ++ rest) pre.length kind n = (if kind = 1 then n.toNat else v, pre.length + M.length, 0) := by
  by_cases h0 : kind = 0
  · subst h0; rw [if_neg (by decide)]; exact back_bits pre rest v n M hv h
  by_cases h1 : kind = 1
  · subst h1; rw [if_pos rfl]; exact back_unary pre rest v n M h
  rw [if_neg h1]
  by_cases h2 : kind = 2
  · subst h2; exact back_gamma pre rest v n M hv h
  exact back_delta pre rest kind v n M hv h0 h1 h2 h
end Go.Proofs.Ytbfnckjnpbgmaaa
