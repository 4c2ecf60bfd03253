/- The reference's Low and Write compute the bits that a call of a Writer appends. For every call. -/
import Derived.Test.YtbfnckjnpbgmaaaSiz
import Derived.Test.YtbfnckjnpbgmaaaWri
namespace Go.Proofs.Ytbfnckjnpbgmaaa
open Go.RowKit Go.Proofs.YtbfnckjnpbgmaaaW.PrintWords Go.Proofs.YtbfnckjnpbgmaaaW.PrintLast Go.Proofs.YtbfnckjnpbgmaaaW.PrintMore
set_option linter.unusedVariables false

theorem bitLen_lt (v : Nat) (h : v < 18446744073709551616) : v < 2 ^ Lib.bitLen v := by
  induction v using Nat.strongRecOn with
  | _ v ih =>
    by_cases h0 : v = 0
    · subst h0; decide
    · rw [Lib.bitLen_half v h0 (by simpa using h), Nat.add_comm, Nat.pow_succ]
      have := ih (v / 2) (by omega) (by omega)
      omega
theorem bitLen_le_iff (v n : Nat) (h : v < 18446744073709551616) : Lib.bitLen v ≤ n ↔ v < 2 ^ n := by
  constructor
  · intro hn
    exact Nat.lt_of_lt_of_le (bitLen_lt v h) (Nat.pow_le_pow_right (by decide) hn)
  · intro hn
    exact Lib.bitLenAux_le 64 v n hn
theorem shr_nat (v n : Nat) (hn : n ≤ 64) : shr .u64 (v : Int) (n : Int) = ((v / 2 ^ n : Nat) : Int) := by
  unfold shr
  have e : min ((n : Int)).toNat IntKind.u64.bits = n := by
    have : IntKind.u64.bits = 64 := rfl
    omega
  rw [e]
  simp
theorem lowRef_l (v : Nat) (hv : v < 18446744073709551616) (n : Nat) : ∀ (k : Nat) (acc : List Bool), n ≤ 64 → n < k → acc.length + n < 140737488355328 → Refs.corporaref02_Low.l0 k v acc ((n : Int) - 1) = some (acc ++ lowL v n) := by
  induction n with
  | zero =>
    intro k acc _ hk _
    obtain ⟨k, rfl⟩ : ∃ m, k = m + 1 := ⟨k - 1, by omega⟩
    simp only [Refs.corporaref02_Low.l0]
    rw [if_neg (by omega), lowL, List.append_nil]
  | succ n ih =>
    intro k acc hn hk ha
    obtain ⟨k, rfl⟩ : ∃ m, k = m + 1 := ⟨k - 1, by omega⟩
    have e0 : ((n + 1 : Nat) : Int) - 1 = (n : Int) := by omega
    have e1 : IntKind.u64.wrap (n : Int) = n := wrap_u64_nat n (by omega)
    have e2 : wrap64 ((n : Int) - 1) = (n : Int) - 1 := by unfold wrap64; omega
    have hdl : v / 2 ^ n < 18446744073709551616 := Nat.lt_of_le_of_lt (Nat.div_le_self _ _) hv
    have e3 : (Go.bits .and .u64 (shr .u64 (v : Int) (n : Int)) 1 == 1) = v.testBit n := by
      rw [shr_nat v n (by omega), and1_u64_nat _ hdl, Nat.testBit_eq_decide_div_mod_eq]
      by_cases h : v / 2 ^ n % 2 = 1
      · rw [h]; rfl
      · have : ((v / 2 ^ n % 2 : Nat) : Int) ≠ 1 := by omega
        simp only [h, decide_false]
        exact beq_eq_false_iff_ne.mpr this
    rw [e0]
    simp only [Refs.corporaref02_Low.l0]
    rw [if_pos (by omega), e1, if_pos (by omega), if_pos (by omega), e2, e3, ih k _ (by omega) (by omega) (by simp only [List.length_append, List.length_singleton]; omega), lowL, List.append_assoc]
    rfl
theorem lowRef_f (v : Nat) (hv : v < 18446744073709551616) (n : Nat) (k : Nat) (hn : n ≤ 64) (hk : n < k) : Refs.corporaref02_Low.f k v n = some (lowL v n) := by
  unfold Refs.corporaref02_Low.f
  have e2 : wrap64 ((n : Int) - 1) = (n : Int) - 1 := by unfold wrap64; omega
  rw [e2, lowRef_l v hv n k [] hn hk (by simp; omega), List.nil_append]
theorem topRef_f (v : Nat) (h0 : v ≠ 0) (hv : v < 18446744073709551616) (k : Nat) (hk : 65 ≤ k) (hk2 : k < 1000) : Refs.corporaref02_Top.f k v = some ((Lib.bitLen v - 1 : Nat) : Int) := by
  unfold Refs.corporaref02_Top.f
  have := topRef_l k v 0 h0 hv (by have := bitLen_le v hv; omega) (by omega)
  simpa using this
theorem gammaRef_f (v : Nat) (h0 : v ≠ 0) (hv : v < 18446744073709551616) (k : Nat) (n : Int) (hk : 70 ≤ k) (hk2 : k < 900) : Refs.corporaref02_Write.f k 2 v n = some (gammaL v, true) := by
  obtain ⟨k, rfl⟩ : ∃ m, k = m + 1 := ⟨k - 1, by omega⟩
  have hp := bitLen_pos h0 hv
  have hl := bitLen_le v hv
  have e1 : wrap64 (((Lib.bitLen v - 1 : Nat) : Int) + 1) = (Lib.bitLen v : Int) := by unfold wrap64; omega
  rw [Refs.corporaref02_Write.f]
  rw [if_neg (by decide), if_neg (by decide), if_neg (by omega), topRef_f v h0 hv k (by omega) (by omega)]
  simp only [Option.bind_some, if_true]
  rw [if_pos (by omega), if_pos (by omega), e1, lowRef_f v hv _ k (by omega) (by omega)]
  simp only [Option.bind_some, List.length_replicate, lowL_length, Int.toNat_natCast]
  rw [if_pos (by omega)]
  rfl
theorem writeRef_0 (n : Int) (v : Nat) (hv : v < 18446744073709551616) :
    Refs.corporaref02_Write.f 100 0 v n = some ((writeL 0 v n).getD [], (writeL 0 v n).isSome) := by
  rw [show (100 : Nat) = 99 + 1 from rfl, Refs.corporaref02_Write.f, writeL, if_pos rfl, if_pos rfl]
  by_cases h1 : n < 0
  · rw [if_pos h1, if_neg (fun h => by omega)]; rfl
  · rw [if_neg h1]
    by_cases h2 : n > 64
    · rw [if_pos h2, if_neg (fun h => by omega)]; rfl
    · rw [if_neg h2]
      obtain ⟨m, rfl⟩ := Int.eq_ofNat_of_zero_le (show 0 ≤ n by omega)
      have hm : m ≤ 64 := by omega
      have hlow := lowRef_f v hv m 99 hm (by omega)
      rw [Int.toNat_natCast]
      by_cases h3 : (m : Int) < 64
      · rw [if_pos h3, wrap_u64_nat m (by omega), if_pos (by omega), shr_nat v m hm]
        by_cases h4 : Lib.bitLen v ≤ m
        · have h5 := (bitLen_le_iff v m hv).1 h4
          rw [if_pos (by rw [Nat.div_eq_of_lt h5]; rfl), if_pos (by omega), hlow, Option.bind_some, Option.getD_some, Option.isSome_some]
        · have h5 : ¬ v < 2 ^ m := fun h => h4 ((bitLen_le_iff v m hv).2 h)
          have h6 : 0 < v / 2 ^ m := Nat.div_pos (Nat.le_of_not_lt h5) (Nat.two_pow_pos m)
          generalize v / 2 ^ m = q at h6 ⊢
          rw [if_neg (by omega), if_neg (by omega), Option.getD_none, Option.isSome_none]
      · have h4 := bitLen_le v hv
        rw [if_neg h3, if_pos (by omega), hlow, Option.bind_some, Option.getD_some, Option.isSome_some]
theorem writeRef_1 (n : Int) (v : Nat) :
    Refs.corporaref02_Write.f 100 1 v n = some ((writeL 1 v n).getD [], (writeL 1 v n).isSome) := by
  have hw : writeL 1 v n = if n < 0 ∨ 4096 < n then none else some (unaryL n.toNat) := by rw [writeL, if_neg (by decide), if_pos rfl]
  rw [hw, show (100 : Nat) = 99 + 1 from rfl, Refs.corporaref02_Write.f, if_neg (by decide), if_pos rfl]
  by_cases h1 : n < 0
  · rw [if_pos h1, if_pos (.inl h1)]; rfl
  · rw [if_neg h1]
    by_cases h2 : n > 4096
    · rw [if_pos h2, if_pos (.inr h2)]; rfl
    · rw [if_neg h2, if_pos (by omega), if_pos (by omega), if_neg (by omega)]
      simp only [Option.bind_some, List.length_replicate]
      rw [if_pos (by omega), unaryL, Option.getD_some, Option.isSome_some]
theorem writeRef_f (kind n : Int) (v : Nat) (hv : v < 18446744073709551616) :
    Refs.corporaref02_Write.f 100 kind v n = some ((writeL kind v n).getD [], (writeL kind v n).isSome) := by
  by_cases c0 : kind = 0
  · subst c0
    exact writeRef_0 n v hv
  · by_cases c1 : kind = 1
    · subst c1
      exact writeRef_1 n v
    · by_cases cv : v = 0
      · subst cv
        rw [show (100 : Nat) = 99 + 1 from rfl, Refs.corporaref02_Write.f, if_neg c0, if_neg c1, if_pos (by rfl), writeL, if_neg c0, if_neg c1, if_pos rfl, Option.getD_none, Option.isSome_none]
      · by_cases c2 : kind = 2
        · subst c2
          rw [gammaRef_f v cv hv 100 n (by omega) (by omega), writeL, if_neg c0, if_neg c1, if_neg cv, if_pos rfl, Option.getD_some, Option.isSome_some]
        · have hp := bitLen_pos cv hv
          have hl := bitLen_le v hv
          have e1 : IntKind.u64.wrap (wrap64 (((Lib.bitLen v - 1 : Nat) : Int) + 1)) = (Lib.bitLen v : Int) := by
            have : wrap64 (((Lib.bitLen v - 1 : Nat) : Int) + 1) = (Lib.bitLen v : Int) := by unfold wrap64; omega
            rw [this, wrap_u64_nat _ (by omega)]
          have hg : (gammaL (Lib.bitLen v)).length < 1000 := by
            have := bitLen_le (Lib.bitLen v) (by omega)
            rw [gammaL_length]
            omega
          rw [show (100 : Nat) = 99 + 1 from rfl, Refs.corporaref02_Write.f, writeL, if_neg c0, if_neg c1, if_neg c0, if_neg c1, if_neg (by omega), if_neg cv, topRef_f v cv hv 99 (by omega) (by omega), Option.bind_some, if_neg c2, if_neg c2, e1, gammaRef_f (Lib.bitLen v) (by omega) (by omega) 99 0 (by omega) (by omega), Option.bind_some, lowRef_f v hv _ 99 (by omega) (by omega), Option.bind_some]
          simp only [lowL_length]
          rw [if_pos (by omega), deltaL, Option.getD_some, Option.isSome_some]
theorem writeRef_any (kind n x : Int) (v : Nat) (w : World) (hx : x = v) (hv : v < 18446744073709551616) :
    Calls Try.prog 38 #[.agg #[.int .i64 kind, .int .u64 x, .int .i64 n]] w fun e w' => ∃ v0 : Value, e = .returned (.tuple #[v0, .bool (writeL kind v n).isSome]) ∧ Kd.R Kd.bool 4 w' w.heap.size (fun _ => True) v0 ((writeL kind v n).getD []) ∧ Below w.heap.size w w' := by
  subst hx
  exact Refs.corporaref02_Write.calls 100 kind v n _ _ w (writeRef_f kind n v hv)
end Go.Proofs.Ytbfnckjnpbgmaaa
