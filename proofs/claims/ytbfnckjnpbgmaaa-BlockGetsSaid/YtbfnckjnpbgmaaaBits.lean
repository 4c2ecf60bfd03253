/- Plain laws on bits and bytes: how a list of bits is packed into bytes, bit by bit. For all lists. -/
import Derived.Laws.BitsLemmas
import Derived.Laws.BitsAllLaws
import Derived.WalkSmall
namespace Go.Proofs.Ytbfnckjnpbgmaaa
open Go

theorem snoc_ind {α : Type} {motive : List α → Prop} (l : List α) (nil : motive []) (append_singleton : ∀ l a, motive l → motive (l ++ [a])) : motive l := by
  have h : ∀ r : List α, motive r.reverse := by
    intro r
    induction r with
    | nil => exact nil
    | cons a r ih => rw [List.reverse_cons]; exact append_singleton _ _ ih
  have := h l.reverse
  rwa [List.reverse_reverse] at this

/-! ### single operations -/
theorem and7_i64 (n : Int) (h0 : 0 ≤ n) (h1 : n < 4611686018427387904) : bits .and .i64 n 7 = n % 8 :=
  bits_mask .i64 62 (by decide) (fun m h h2 => by rw [IntKind.wrap_i64]; omega) 3 (by decide) n h0 h1
theorem and127_u8 (n : Int) (h0 : 0 ≤ n) (h1 : n < 256) : bits .and .u8 n 127 = n % 128 := bits_mask .u8 8 (by decide) wraps_u8 7 (by decide) n h0 h1
theorem and1_u64 (n : Int) (h0 : 0 ≤ n) (h1 : n < 18446744073709551616) : bits .and .u64 n 1 = n % 2 := and_one_u64 n h0 (by omega)
theorem and1_u64_nat (n : Nat) (h1 : n < 18446744073709551616) : bits .and .u64 (n : Int) 1 = ((n % 2 : Nat) : Int) := by
  rw [and1_u64 n (by omega) (by omega)]; omega
theorem or_u8 (a b : Int) (h1 : 0 ≤ a) (h2 : a < 256) (h3 : 0 ≤ b) (h4 : b < 256) : bits .or .u8 a b = ((a.toNat ||| b.toNat : Nat) : Int) := u8_or a b h1 h2 h3 h4

/-! ### packing -/
/-- The bit at place j of a byte (place 0: 128) is set. -/
def setBit (B : List Int) (n : Nat) : List Int := B.set (n / 8) (((B.getD (n / 8) 0).toNat ||| 2 ^ (7 - n % 8) : Nat) : Int)
/-- One bit more behind n bits in the bytes B. -/
def putBit (B : List Int) (n : Nat) (b : Bool) : List Int :=
  let C := if n % 8 = 0 then B ++ [0] else B
  if b then setBit C n else C
/-- Bits as bytes. -/
def packAux : List Int → Nat → List Bool → List Int
  | B, _, [] => B
  | B, n, b :: l => packAux (putBit B n b) (n + 1) l
def packL (l : List Bool) : List Int := packAux [] 0 l

theorem packAux_append (l m : List Bool) : ∀ B n, packAux B n (l ++ m) = packAux (packAux B n l) (n + l.length) m := by
  induction l with
  | nil => intro B n; simp [packAux]
  | cons b l ih => intro B n; simp only [List.cons_append, packAux, ih, List.length_cons]; congr 1; omega
theorem packL_snoc (l : List Bool) (b : Bool) : packL (l ++ [b]) = putBit (packL l) l.length b := by
  simp [packL, packAux_append, packAux]
theorem setBit_length (B : List Int) (n : Nat) : (setBit B n).length = B.length := by simp [setBit]
theorem packL_length (l : List Bool) : (packL l).length = (l.length + 7) / 8 := by
  induction l using snoc_ind with
  | nil => rfl
  | append_singleton l b ih =>
    rw [packL_snoc]
    unfold putBit
    by_cases h : l.length % 8 = 0
    · cases b <;> simp [h, setBit_length, ih] <;> omega
    · cases b <;> simp [h, setBit_length, ih] <;> omega
/-- Every number is a byte. -/
def IsBytes (B : List Int) : Prop := ∀ x ∈ B, 0 ≤ x ∧ x < 256
theorem IsBytes.getD {B : List Int} (h : IsBytes B) (i : Nat) : 0 ≤ B.getD i 0 ∧ B.getD i 0 < 256 := by
  rw [List.getD_eq_getElem?_getD]
  rcases Nat.lt_or_ge i B.length with hi | hi
  · rw [List.getElem?_eq_getElem hi]; exact h _ (List.getElem_mem hi)
  · rw [List.getElem?_eq_none hi]; simp
theorem or_pow_lt (a k : Nat) (ha : a < 256) (hk : k ≤ 7) : a ||| 2 ^ k < 256 :=
  Nat.or_lt_two_pow (n := 8) ha (Nat.pow_lt_pow_right (by decide) (by omega))
theorem IsBytes.setBit {B : List Int} (h : IsBytes B) (n : Nat) : IsBytes (setBit B n) := by
  intro x hx
  rcases List.mem_or_eq_of_mem_set hx with hx | rfl
  · exact h x hx
  · have := h.getD (n / 8)
    have := or_pow_lt (B.getD (n / 8) 0).toNat (7 - n % 8) (by omega) (by omega)
    omega
theorem IsBytes.append {B C : List Int} (h : IsBytes B) (k : IsBytes C) : IsBytes (B ++ C) := by
  intro x hx
  rcases List.mem_append.1 hx with hx | hx
  · exact h x hx
  · exact k x hx
theorem IsBytes.putBit {B : List Int} (h : IsBytes B) (n : Nat) (b : Bool) : IsBytes (putBit B n b) := by
  have hC : IsBytes (if n % 8 = 0 then B ++ [0] else B) := by
    split
    · exact h.append (by intro x hx; simp at hx; subst hx; omega)
    · exact h
  unfold Ytbfnckjnpbgmaaa.putBit
  cases b
  · exact hC
  · exact hC.setBit n
theorem packL_bytes (l : List Bool) : IsBytes (packL l) := by
  induction l using snoc_ind with
  | nil => intro x hx; simp [packL, packAux] at hx
  | append_singleton l b ih => rw [packL_snoc]; exact ih.putBit _ _

/-! ### reading bits -/
/-- Bit i of bytes. -/
def bitAt (B : List Int) (i : Nat) : Bool := (B.getD (i / 8) 0).toNat.testBit (7 - i % 8)
/-- The first n bits of bytes. -/
def unpackL (B : List Int) (n : Nat) : List Bool := (List.range n).map (bitAt B)
theorem unpackL_length (B : List Int) (n : Nat) : (unpackL B n).length = n := by simp [unpackL]
theorem unpackL_get (B : List Int) (n i : Nat) (h : i < n) : (unpackL B n)[i]? = some (bitAt B i) := by simp [unpackL, h]
theorem unpackL_succ (B : List Int) (n : Nat) : unpackL B (n + 1) = unpackL B n ++ [bitAt B n] := by simp [unpackL, List.range_succ]
theorem bitAt_setBit (B : List Int) (n i : Nat) (hn : n / 8 < B.length) : bitAt (setBit B n) i = (bitAt B i || decide (i = n)) := by
  unfold bitAt setBit
  by_cases h : i / 8 = n / 8
  · rw [h, List.getD_eq_getElem?_getD, List.getElem?_set_self hn]
    simp only [Option.getD_some, Int.toNat_natCast, Nat.testBit_or, Nat.testBit_two_pow]
    congr 1
    by_cases e : i = n
    · subst e; simp
    · have : 7 - n % 8 ≠ 7 - i % 8 := by omega
      simp [e, this]
  · have e : i ≠ n := fun e => h (by rw [e])
    rw [List.getD_eq_getElem?_getD, List.getElem?_set_ne (fun e => h e.symm), ← List.getD_eq_getElem?_getD]
    simp [e]
theorem bitAt_snoc0 (B : List Int) (i : Nat) : bitAt (B ++ [0]) i = bitAt B i := by
  unfold bitAt
  congr 2
  rw [List.getD_eq_getElem?_getD, List.getD_eq_getElem?_getD]
  rcases Nat.lt_trichotomy (i / 8) B.length with h | h | h
  · rw [List.getElem?_append_left h]
  · rw [h]; simp
  · rw [List.getElem?_eq_none (by simp; omega), List.getElem?_eq_none (by omega)]
theorem bitAt_packL (l : List Bool) : ∀ i, bitAt (packL l) i = l.getD i false := by
  induction l using snoc_ind with
  | nil => intro i; simp [packL, packAux, bitAt]
  | append_singleton l b ih =>
    intro i
    have hlen := packL_length l
    have hC : ∀ i, bitAt (if l.length % 8 = 0 then packL l ++ [0] else packL l) i = l.getD i false := by
      intro i
      split
      · rw [bitAt_snoc0, ih]
      · exact ih i
    have hl : l.length / 8 < (if l.length % 8 = 0 then packL l ++ [0] else packL l).length := by
      split
      · simp [hlen]; omega
      · rw [hlen]; omega
    rw [packL_snoc]
    have hg : (l ++ [b]).getD i false = (l.getD i false || (b && decide (i = l.length))) := by
      rw [List.getD_eq_getElem?_getD, List.getD_eq_getElem?_getD]
      rcases Nat.lt_trichotomy i l.length with h | h | h
      · rw [List.getElem?_append_left h]
        have : i ≠ l.length := by omega
        simp [this]
      · subst h; simp
      · rw [List.getElem?_eq_none (by simp; omega), List.getElem?_eq_none (by omega)]
        have : i ≠ l.length := by omega
        simp [this]
    rw [hg]
    unfold putBit
    cases b
    · simpa using hC i
    · simp only [if_true, Bool.true_and]
      rw [bitAt_setBit _ _ _ hl, hC]
theorem unpackL_packL (l : List Bool) : unpackL (packL l) l.length = l := by
  apply List.ext_getElem?
  intro i
  rcases Nat.lt_or_ge i l.length with h | h
  · rw [unpackL_get _ _ _ h, bitAt_packL, List.getD_eq_getElem?_getD, List.getElem?_eq_getElem h]; rfl
  · rw [List.getElem?_eq_none (by simpa [unpackL_length] using h), List.getElem?_eq_none h]

end Go.Proofs.Ytbfnckjnpbgmaaa
