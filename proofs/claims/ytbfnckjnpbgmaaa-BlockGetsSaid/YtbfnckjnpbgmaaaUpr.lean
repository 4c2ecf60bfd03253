/- The reference's Unpack of bits. For fewer than 2^40 bits. -/
import Derived.Test.YtbfnckjnpbgmaaaCal
import Derived.Test.YtbfnckjnpbgmaaaRefC
namespace Go.Proofs.Ytbfnckjnpbgmaaa
open Go.RowKit Go.Proofs.YtbfnckjnpbgmaaaW.PrintWords Go.Proofs.YtbfnckjnpbgmaaaW.PrintLast Go.Proofs.YtbfnckjnpbgmaaaW.PrintMore
set_option linter.unusedVariables false

theorem shr128 (i : Nat) : shr .u8 128 ((i % 8 : Nat) : Int) = ((2 ^ (7 - i % 8) : Nat) : Int) := by
  have hm : min (((i % 8 : Nat) : Int)).toNat IntKind.u8.bits = i % 8 := by
    have : IntKind.u8.bits = 8 := rfl
    omega
  unfold shr
  rw [hm, pow7]
theorem and_bit (x k : Nat) (hx : x < 256) (hk : k ≤ 7) : (bits .and .u8 (x : Int) ((2 ^ k : Nat) : Int) != 0) = x.testBit k := by
  have hp : 2 ^ k < 256 := Nat.pow_lt_pow_right (n := 8) (by decide) (by omega)
  rw [u8_and_nat x _ hx hp, nat_bit, Nat.testBit_eq_decide_div_mod_eq]
  have hpos := Nat.two_pow_pos k
  rcases Nat.mod_two_eq_zero_or_one (x / 2 ^ k) with h | h
  · rw [h]; simp
  · rw [h]
    have : ((1 * 2 ^ k : Nat) : Int) ≠ 0 := by
      rw [Nat.one_mul]
      generalize 2 ^ k = q at hpos
      omega
    simpa using this
theorem unpackRef_bit (B : List Int) (i : Nat) (hB : IsBytes B) : (bits .and .u8 (rd B ((i / 8 : Nat) : Int)) (shr .u8 128 ((i % 8 : Nat) : Int)) != 0) = bitAt B i := by
  have hb := hB.getD (i / 8)
  rw [rd_nat, shr128]
  have e : B.getD (i / 8) 0 = (((B.getD (i / 8) 0).toNat : Nat) : Int) := by omega
  rw [e, and_bit _ _ (by omega) (by omega)]
  rfl
theorem unpackRef_l (B : List Int) (n : Nat) (hB : IsBytes B) (hn : n ≤ 8 * B.length) (hlen : n < 1099511627776) (d : Nat) : ∀ (k i : Nat), n - i = d → d < k → i ≤ n →
    Refs.corporaref02_Unpack.l0 k B n (unpackL B i) i = some (unpackL B n) := by
  induction d with
  | zero =>
    intro k i hd hk hi
    obtain ⟨k, rfl⟩ : ∃ m, k = m + 1 := ⟨k - 1, by omega⟩
    have : i = n := by omega
    subst this
    simp only [Refs.corporaref02_Unpack.l0]
    rw [if_neg (by omega)]
  | succ d ih =>
    intro k i hd hk hi
    obtain ⟨k, rfl⟩ : ∃ m, k = m + 1 := ⟨k - 1, by omega⟩
    have e1 : wrap64 ((i : Int) + 1) = ((i + 1 : Nat) : Int) := by unfold wrap64; omega
    have e8 : wrap64 (Int.tdiv (i : Int) 8) = ((i / 8 : Nat) : Int) := by
      rw [Int.tdiv_eq_ediv_of_nonneg (by omega)]; unfold wrap64; omega
    have em : IntKind.u64.wrap (Int.tmod (i : Int) 8) = ((i % 8 : Nat) : Int) := by
      rw [Int.tmod_eq_emod_of_nonneg (by omega), show (i : Int) % 8 = ((i % 8 : Nat) : Int) by omega]
      exact wrap_u64_nat _ (by omega)
    have hnext := ih k (i + 1) (by omega) (by omega) (by omega)
    rw [unpackL_succ] at hnext
    simp only [Refs.corporaref02_Unpack.l0, unpackL_length]
    rw [e8, em, e1, unpackRef_bit B i hB]
    repeat' (first | rw [if_pos (by omega)])
    exact hnext
theorem unpackRef_f (B : List Int) (n : Nat) (hB : IsBytes B) (hn : n ≤ 8 * B.length) (hlen : n < 1099511627776) : Refs.corporaref02_Unpack.f (n + 1) B n = some (unpackL B n) :=
  unpackRef_l B n hB hn hlen n _ 0 (by omega) (by omega) (by omega)
/-- Bits that a call has made. -/
def MadeBits (w0 : World) (l : List Bool) (e : Ending) (w' : World) : Prop := ∃ v, e = .returned v ∧ Kd.R Kd.bool 4 w' w0.heap.size (fun _ => True) v l ∧ Below w0.heap.size w0 w'
theorem unpackRef_any (A : Option Addr) (c : Nat) (B : List Int) (x : Int) (n : Nat) (w : World) (hr : Kd.C (Kd.int .u8) w A B.length B) (hc : B.length ≤ c) (hx : x = n) (hB : IsBytes B) (hn : n ≤ 8 * B.length) (hlen : n < 1099511627776) :
    Calls Try.prog 42 #[.slice A B.length c, .int .i64 x] w fun e w' => MadeBits w (unpackL B n) e w' := by
  subst hx
  refine (Refs.corporaref02_Unpack.calls _ A c B n _ w hr hc (unpackRef_f B n hB hn hlen)).mono ?_
  rintro e w' ⟨v0, he, hr, hb⟩
  exact ⟨v0, he, hr, hb⟩
end Go.Proofs.Ytbfnckjnpbgmaaa
