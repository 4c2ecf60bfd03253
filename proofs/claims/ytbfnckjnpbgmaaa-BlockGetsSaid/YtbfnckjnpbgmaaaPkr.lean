/- The reference's Pack and Unpack of bits: they compute the bytes of the bits, and the bits of the bytes. For fewer than 2^40 bits. -/
import Derived.Test.YtbfnckjnpbgmaaaWrf
import Derived.Test.YtbfnckjnpbgmaaaTak
namespace Go.Proofs.Ytbfnckjnpbgmaaa
open Go.RowKit Go.Proofs.YtbfnckjnpbgmaaaW.PrintWords Go.Proofs.YtbfnckjnpbgmaaaW.PrintLast Go.Proofs.YtbfnckjnpbgmaaaW.PrintMore
set_option linter.unusedVariables false

/-- The bytes of the first i bits, in T bytes. -/
def padL (l : List Bool) (T i : Nat) : List Int := packL (l.take i) ++ List.replicate (T - (i + 7) / 8) 0
theorem setBit_left (X Y : List Int) (n : Nat) (h : n / 8 < X.length) : setBit (X ++ Y) n = setBit X n ++ Y := by
  unfold setBit
  rw [List.set_append_left _ _ h, List.getD_eq_getElem?_getD, List.getD_eq_getElem?_getD, List.getElem?_append_left h]
theorem padL_succ (l : List Bool) (T i : Nat) (hi : i < l.length) (hT : T = (l.length + 7) / 8) : padL l T (i + 1) = if l.getD i false then setBit (padL l T i) i else padL l T i := by
  have hg : l.getD i false = l[i] := by rw [List.getD_eq_getElem?_getD, List.getElem?_eq_getElem hi]; rfl
  have ht : l.take (i + 1) = l.take i ++ [l.getD i false] := by rw [List.take_succ_eq_append_getElem hi, hg]
  have hl : (l.take i).length = i := by rw [List.length_take]; omega
  have hp := packL_length (l.take i)
  rw [hl] at hp
  have key : padL l T i = (if i % 8 = 0 then packL (l.take i) ++ [0] else packL (l.take i)) ++ List.replicate (T - (i + 1 + 7) / 8) 0 := by
    unfold padL
    by_cases h8 : i % 8 = 0
    · rw [if_pos h8]
      have e : T - (i + 7) / 8 = (T - (i + 1 + 7) / 8) + 1 := by omega
      rw [e, List.replicate_succ, List.append_assoc]
      rfl
    · rw [if_neg h8]
      have e : T - (i + 7) / 8 = T - (i + 1 + 7) / 8 := by omega
      rw [e]
  have hlt : i / 8 < (if i % 8 = 0 then packL (l.take i) ++ [0] else packL (l.take i)).length := by
    by_cases h8 : i % 8 = 0
    · rw [if_pos h8, List.length_append, hp]; simp; omega
    · rw [if_neg h8, hp]; omega
  rw [key]
  unfold padL
  rw [ht, packL_snoc, hl]
  unfold putBit
  cases l.getD i false
  · rfl
  · simp only [if_true]
    rw [setBit_left _ _ _ hlt]
theorem padL_zero (l : List Bool) (T : Nat) : padL l T 0 = List.replicate T 0 := by simp [padL, packL, packAux]
theorem padL_all (l : List Bool) : padL l ((l.length + 7) / 8) l.length = packL l := by simp [padL]
theorem padL_length (l : List Bool) (T i : Nat) (hi : i ≤ l.length) (hT : T = (l.length + 7) / 8) : (padL l T i).length = T := by
  have hl : (l.take i).length = i := by rw [List.length_take]; omega
  unfold padL
  rw [List.length_append, packL_length, hl, List.length_replicate]
  omega
theorem padL_bytes (l : List Bool) (T i : Nat) : IsBytes (padL l T i) := by
  refine (packL_bytes _).append ?_
  intro x hx
  have := List.eq_of_mem_replicate hx
  omega
theorem packRef_l (l : List Bool) (hlen : l.length < 1099511627776) (d : Nat) : ∀ (k i : Nat), l.length - i = d → d < k → i ≤ l.length →
    Refs.corporaref02_Pack.l0 k (padL l ((l.length + 7) / 8) i) l (l.length : Int) i = some (packL l) := by
  induction d with
  | zero =>
    intro k i hd hk hi
    obtain ⟨k, rfl⟩ : ∃ m, k = m + 1 := ⟨k - 1, by omega⟩
    have : i = l.length := by omega
    subst this
    simp only [Refs.corporaref02_Pack.l0]
    rw [if_neg (by omega), padL_all]
  | succ d ih =>
    intro k i hd hk hi
    obtain ⟨k, rfl⟩ : ∃ m, k = m + 1 := ⟨k - 1, by omega⟩
    have hlt : i < l.length := by omega
    have hpl := padL_length l _ i hi rfl
    have e1 : wrap64 ((i : Int) + 1) = ((i + 1 : Nat) : Int) := by unfold wrap64; omega
    have e8 : wrap64 (Int.tdiv (i : Int) 8) = ((i / 8 : Nat) : Int) := by
      rw [Int.tdiv_eq_ediv_of_nonneg (by omega)]; unfold wrap64; omega
    have em : IntKind.u64.wrap (Int.tmod (i : Int) 8) = ((i % 8 : Nat) : Int) := by
      rw [Int.tmod_eq_emod_of_nonneg (by omega), show (i : Int) % 8 = ((i % 8 : Nat) : Int) by omega]
      exact wrap_u64_nat _ (by omega)
    have hb : rdOf false l (i : Int) = l.getD i false := by simp [rdOf]
    have hstep := padL_succ l _ i hlt rfl
    have hnext := ih k (i + 1) (by omega) (by omega) (by omega)
    simp only [Refs.corporaref02_Pack.l0]
    rw [if_pos (by omega), if_pos (by omega), if_pos (by omega), hb, e8, em, e1]
    by_cases hbit : l.getD i false = true
    · rw [if_pos hbit] at hstep ⊢
      have hor := or_step (padL l ((l.length + 7) / 8) i) i (padL_bytes l _ i) ((i : Int) % 8) rfl
      have hsh : shr .u8 128 ((i % 8 : Nat) : Int) = 128 / 2 ^ ((i : Int) % 8).toNat := by
        have hm : min (((i % 8 : Nat) : Int)).toNat IntKind.u8.bits = ((i : Int) % 8).toNat := by
          have : IntKind.u8.bits = 8 := rfl
          omega
        unfold shr
        rw [hm]
      have hlen8 : ((i / 8 : Nat) : Int) < ((padL l ((l.length + 7) / 8) i).length : Int) := by omega
      rw [if_pos (by omega), if_pos hlen8, if_pos (by omega), Int.toNat_natCast, rd_nat, hsh, hor]
      rw [hstep, setBit] at hnext
      exact hnext
    · rw [if_neg hbit] at hstep ⊢
      rw [hstep] at hnext
      exact hnext
theorem packRef_f (l : List Bool) (hlen : l.length < 1099511627776) : Refs.corporaref02_Pack.f (l.length + 1) l = some (packL l) := by
  unfold Refs.corporaref02_Pack.f
  have e8 : wrap64 (Int.tdiv (wrap64 ((l.length : Int) + 7)) 8) = (((l.length + 7) / 8 : Nat) : Int) := by
    have : wrap64 ((l.length : Int) + 7) = ((l.length + 7 : Nat) : Int) := by unfold wrap64; omega
    rw [this, Int.tdiv_eq_ediv_of_nonneg (by omega)]; unfold wrap64; omega
  rw [e8, if_pos (by omega), Int.toNat_natCast, if_pos (by omega), ← padL_zero l]
  exact packRef_l l hlen l.length _ 0 (by omega) (by omega) (by omega)
theorem packRef_any (A : Option Addr) (c : Nat) (l : List Bool) (w : World) (hr : Kd.C Kd.bool w A l.length l) (hc : l.length ≤ c) (hlen : l.length < 1099511627776) :
    Calls Try.prog 41 #[.slice A l.length c] w fun e w' => MadeBytes w (packL l) e w' := by
  refine (Refs.corporaref02_Pack.calls _ A c l _ w hr hc (packRef_f l hlen)).mono ?_
  rintro e w' ⟨v0, he, hr, hb⟩
  exact ⟨v0, he, hr, hb⟩
end Go.Proofs.Ytbfnckjnpbgmaaa
