/- The number with whose encoding bytes begin: plain laws, and that bitio.Uvarint and the reference Take both compute it. For all bytes. -/
import Derived.Test.YtbfnckjnpbgmaaaPts
import Derived.Test.YtbfnckjnpbgmaaaRefB
namespace Go.Proofs.Ytbfnckjnpbgmaaa
open Go.RowKit Go.Proofs.YtbfnckjnpbgmaaaW.PrintWords Go.Proofs.YtbfnckjnpbgmaaaW.PrintLast Go.Proofs.YtbfnckjnpbgmaaaW.PrintMore
set_option linter.unusedVariables false

/-- The number, the length of its encoding, and the error (0, 9 or 10), read on from byte i. -/
def takeAux : Nat → Nat → List Int → Nat × Nat × Int
  | _, _, [] => (0, 0, 10)
  | i, acc, c :: l =>
    if i = 9 ∧ c ≠ 1 then (0, 0, 9)
    else if c < 128 then (if c = 0 ∧ 0 < i then (0, 0, 9) else (acc + (c % 128).toNat * 2 ^ (7 * i), i + 1, 0))
    else takeAux (i + 1) (acc + (c % 128).toNat * 2 ^ (7 * i)) l
def takeL (B : List Int) : Nat × Nat × Int := takeAux 0 0 B
def trip (t : Nat × Nat × Int) : Int × Int × Int := ((t.1 : Int), (t.2.1 : Int), t.2.2)
theorem trip_mk (a b : Nat) (e : Int) : trip (a, b, e) = ((a : Int), (b : Int), e) := rfl
theorem trip9 : trip (0, 0, 9) = (0, 0, 9) := rfl

/-- What has been read so far fits below the next group. -/
def AccOk (acc i : Nat) : Prop := acc < 2 ^ (7 * i)
theorem pow_le63 {i : Nat} (h : i ≤ 9) : 2 ^ (7 * i) ≤ 9223372036854775808 := by
  have : 2 ^ (7 * i) ≤ 2 ^ 63 := Nat.pow_le_pow_right (by decide) (by omega)
  simpa using this
theorem or_step64 (acc i : Nat) (x y : Int) (d : Nat) (hi : i ≤ 9) (hacc : AccOk acc i) (hd : d < 128) (h9 : i = 9 → d = 1) (hx : x = d) (hy : y = 7 * (i : Int)) :
    bits .or .u64 (acc : Int) (shl .u64 x y) = ((acc + d * 2 ^ (7 * i) : Nat) : Int) := by
  subst hx hy
  unfold AccOk at hacc
  have hp := pow_le63 hi
  have hpos := Nat.two_pow_pos (7 * i)
  have hprod : d * 2 ^ (7 * i) < 18446744073709551616 := by
    rcases Nat.lt_or_ge i 9 with h | h
    · have h1 : 2 ^ (7 * i) ≤ 2 ^ 56 := Nat.pow_le_pow_right (by decide) (by omega)
      have h2 : d * 2 ^ (7 * i) ≤ 127 * 2 ^ 56 := Nat.mul_le_mul (by omega) h1
      have : 127 * 2 ^ 56 < 18446744073709551616 := by decide
      omega
    · have : i = 9 := by omega
      subst this
      rw [h9 rfl]
      decide
  have e1 : shl .u64 (d : Int) (7 * (i : Int)) = ((d * 2 ^ (7 * i) : Nat) : Int) := by
    have e2 : (7 * (i : Int)).toNat = 7 * i := by omega
    have e3 : min (7 * i) IntKind.u64.bits = 7 * i := by
      have : IntKind.u64.bits = 64 := rfl
      omega
    unfold shl
    rw [e2, e3, show (d : Int) * 2 ^ (7 * i) = ((d * 2 ^ (7 * i) : Nat) : Int) by simp]
    exact wrap_u64_nat _ hprod
  rw [e1, u64_or_nat acc _ (by omega) hprod, Nat.or_comm, Nat.add_comm acc, Nat.mul_comm d, ← Nat.two_pow_add_eq_or_of_lt hacc]
theorem acc_lt (acc i d : Nat) (hacc : AccOk acc i) (hd : d < 128) : AccOk (acc + d * 2 ^ (7 * i)) (i + 1) := by
  unfold AccOk at *
  have e : 2 ^ (7 * (i + 1)) = 128 * 2 ^ (7 * i) := by rw [Nat.mul_add, Nat.pow_add, Nat.mul_comm]
  have : d * 2 ^ (7 * i) ≤ 127 * 2 ^ (7 * i) := Nat.mul_le_mul_right _ (by omega)
  omega
theorem mod128 {c : Int} (h : 0 ≤ c) : (c % 128).toNat < 128 := by omega
theorem mod128_one {c : Int} {i : Nat} (hn : ¬ (i = 9 ∧ c ≠ 1)) (h : i = 9) : (c % 128).toNat = 1 := by
  have : c = 1 := by omega
  subst this
  rfl
theorem rd_nat (B : List Int) (i : Nat) : rd B (i : Int) = B.getD i 0 := by simp [rd]
theorem drop_cons {B : List Int} {i : Nat} (h : i < B.length) : B.drop i = B.getD i 0 :: B.drop (i + 1) := by
  rw [List.drop_eq_getElem_cons h, List.getD_eq_getElem?_getD, List.getElem?_eq_getElem h]; rfl

set_option maxHeartbeats 400000 in
theorem uvarint_l (B : List Int) (hB : IsBytes B) (hlen : B.length < 4611686018427387904) (d : Nat) : ∀ (k i acc : Nat), B.length - i = d → 2 * d < k → i ≤ B.length → i ≤ 9 → AccOk acc i →
    Refs.bitio_Uvarint.l0 k acc B (B.length : Int) i = some (trip (takeAux i acc (B.drop i))) := by
  induction d with
  | zero =>
    intro k i acc hd hk hi h9 hacc
    obtain ⟨k, rfl⟩ : ∃ m, k = m + 1 := ⟨k - 1, by omega⟩
    rw [List.drop_eq_nil_of_le (by omega)]
    simp only [Refs.bitio_Uvarint.l0]
    rw [if_neg (by omega)]
    rfl
  | succ d ih =>
    intro k i acc hd hk hi h9 hacc
    obtain ⟨k, rfl⟩ : ∃ m, k = m + 1 + 1 := ⟨k - 2, by omega⟩
    have hlt : i < B.length := by omega
    have hb := hB.getD i
    rw [drop_cons hlt]
    obtain ⟨c, hc⟩ : ∃ c, c = B.getD i 0 := ⟨_, rfl⟩
    rw [← hc] at hb ⊢
    have e7 : wrap64 (7 * (i : Int)) = 7 * (i : Int) := by unfold wrap64; omega
    have e1 : wrap64 ((i : Int) + 1) = ((i + 1 : Nat) : Int) := by unfold wrap64; omega
    have ec : IntKind.u64.wrap (bits .and .u8 c 127) = ((c % 128).toNat : Int) := by
      rw [and127_u8 c hb.1 hb.2, IntKind.wrap_u64]; omega
    have hj : ∀ b : Bool, (b = true → i = 9 ∧ c ≠ 1) → (b = false → ¬ (i = 9 ∧ c ≠ 1)) →
        Refs.bitio_Uvarint.j1 (k + 1) acc i c B (B.length : Int) i b = some (trip (takeAux i acc (c :: B.drop (i + 1)))) := by
      intro b ht hf
      simp only [Refs.bitio_Uvarint.j1, takeAux]
      cases b with
      | true =>
        rw [if_pos rfl, if_pos (ht rfl), trip9]
      | false =>
        have hn := hf rfl
        have HN := hn
        have hor := or_step64 acc i (IntKind.u64.wrap (bits .and .u8 c 127)) (wrap64 (7 * (i : Int))) (c % 128).toNat h9 hacc (mod128 hb.1) (mod128_one HN) ec e7
        rw [if_neg (by simp), if_neg hn, if_pos (by omega), hor]
        by_cases h128 : c < 128
        · rw [if_pos h128, if_pos h128]
          by_cases h0 : c = 0
          · rw [if_pos h0]
            by_cases hi0 : 0 < i
            · rw [if_pos (by omega), if_pos ⟨h0, hi0⟩, trip9]
            · rw [if_neg (by omega), if_neg (fun h => hi0 h.2), e1, trip_mk]
          · rw [if_neg h0, if_neg (fun h => h0 h.1), e1, trip_mk]
        · rw [if_neg h128, if_neg h128, e1]
          exact ih k (i + 1) _ (by omega) (by omega) (by omega) (by omega) (acc_lt acc i _ hacc (mod128 hb.1))
    simp only [Refs.bitio_Uvarint.l0]
    rw [if_pos (by omega), if_pos (by omega), if_pos (by omega), rd_nat, ← hc]
    by_cases hi9 : i = 9
    · rw [if_pos (by omega)]
      exact hj _ (fun h => ⟨hi9, by simpa using h⟩) (fun h hh => hh.2 (by simpa using h))
    · rw [if_neg (by omega)]
      exact hj false (fun h => by cases h) (fun _ hh => hi9 hh.1)
theorem uvarint_f (B : List Int) (hB : IsBytes B) (hlen : B.length < 4611686018427387904) : Refs.bitio_Uvarint.f (2 * B.length + 1) B = some (trip (takeL B)) :=
  uvarint_l B hB hlen B.length _ 0 0 (by omega) (by omega) (by omega) (by omega) (by simp [AccOk])

set_option maxHeartbeats 400000 in
theorem take_l (B : List Int) (hB : IsBytes B) (hlen : B.length < 4611686018427387904) (d : Nat) : ∀ (k i acc : Nat), B.length - i = d → 2 * d < k → i ≤ B.length → i ≤ 9 → AccOk acc i →
    Refs.corporaref02_Take.l0 k acc B (B.length : Int) i = some (trip (takeAux i acc (B.drop i))) := by
  induction d with
  | zero =>
    intro k i acc hd hk hi h9 hacc
    obtain ⟨k, rfl⟩ : ∃ m, k = m + 1 := ⟨k - 1, by omega⟩
    rw [List.drop_eq_nil_of_le (by omega)]
    simp only [Refs.corporaref02_Take.l0]
    rw [if_neg (by omega)]
    rfl
  | succ d ih =>
    intro k i acc hd hk hi h9 hacc
    obtain ⟨k, rfl⟩ : ∃ m, k = m + 1 + 1 := ⟨k - 2, by omega⟩
    have hlt : i < B.length := by omega
    have hb := hB.getD i
    rw [drop_cons hlt]
    obtain ⟨c, hc⟩ : ∃ c, c = B.getD i 0 := ⟨_, rfl⟩
    rw [← hc] at hb ⊢
    have e7 : IntKind.u64.wrap (wrap64 (7 * (i : Int))) = 7 * (i : Int) := by
      have : wrap64 (7 * (i : Int)) = ((7 * i : Nat) : Int) := by unfold wrap64; omega
      rw [this, wrap_u64_nat _ (by omega)]; omega
    have e1 : wrap64 ((i : Int) + 1) = ((i + 1 : Nat) : Int) := by unfold wrap64; omega
    have ec : IntKind.u64.wrap (Int.tmod c 128) = ((c % 128).toNat : Int) := by
      rw [Int.tmod_eq_emod_of_nonneg hb.1, IntKind.wrap_u64]; omega
    have hj : ∀ b : Bool, (b = true → i = 9 ∧ 1 < c) → (b = false → ¬ (i = 9 ∧ 1 < c)) →
        Refs.corporaref02_Take.j1 (k + 1) acc i c B (B.length : Int) i b = some (trip (takeAux i acc (c :: B.drop (i + 1)))) := by
      intro b ht hf
      simp only [Refs.corporaref02_Take.j1, takeAux]
      cases b with
      | true =>
        have := ht rfl
        rw [if_pos rfl, if_pos ⟨this.1, by omega⟩, trip9]
      | false =>
        have hn := hf rfl
        rw [if_neg (by simp), if_pos (by omega)]
        by_cases h9c : i = 9 ∧ c ≠ 1
        · have hc0 : c = 0 := by omega
          rw [if_pos h9c, if_pos (by omega), if_pos hc0, if_pos (by omega), trip9]
        · have HN := h9c
          have hor := or_step64 acc i (IntKind.u64.wrap (Int.tmod c 128)) (IntKind.u64.wrap (wrap64 (7 * (i : Int)))) (c % 128).toNat h9 hacc (mod128 hb.1) (mod128_one HN) ec e7
          rw [if_neg h9c, hor]
          by_cases h128 : c < 128
          · rw [if_pos h128, if_pos h128]
            by_cases h0 : c = 0
            · rw [if_pos h0]
              by_cases hi0 : 0 < i
              · rw [if_pos (by omega), if_pos ⟨h0, hi0⟩, trip9]
              · rw [if_neg (by omega), if_neg (fun h => hi0 h.2), e1, trip_mk]
            · rw [if_neg h0, if_neg (fun h => h0 h.1), e1, trip_mk]
          · rw [if_neg h128, if_neg h128, e1]
            exact ih k (i + 1) _ (by omega) (by omega) (by omega) (by omega) (acc_lt acc i _ hacc (mod128 hb.1))
    simp only [Refs.corporaref02_Take.l0]
    rw [if_pos (by omega), if_pos (by omega), if_pos (by omega), rd_nat, ← hc]
    by_cases hi9 : i = 9
    · rw [if_pos (by omega)]
      exact hj _ (fun h => ⟨hi9, by simpa using h⟩) (fun h hh => by have := of_decide_eq_false h; omega)
    · rw [if_neg (by omega)]
      exact hj false (fun h => by cases h) (fun _ hh => hi9 hh.1)
theorem take_f (B : List Int) (hB : IsBytes B) (hlen : B.length < 4611686018427387904) : Refs.corporaref02_Take.f (2 * B.length + 1) B = some (trip (takeL B)) :=
  take_l B hB hlen B.length _ 0 0 (by omega) (by omega) (by omega) (by omega) (by simp [AccOk])

def Triple (t : Nat × Nat × Int) : Value := .tuple #[.int .u64 (t.1 : Int), .int .i64 (t.2.1 : Int), .int .i64 t.2.2]
theorem uvarint_any (A : Option Addr) (c : Nat) (B : List Int) (w : World) (hr : Kd.C (Kd.int .u8) w A B.length B) (hc : B.length ≤ c) (hB : IsBytes B) (hlen : B.length < 4611686018427387904) :
    Calls Try.prog 29 #[.slice A B.length c] w fun e w' => e = .returned (Triple (takeL B)) ∧ Drawn0 w w' :=
  Refs.bitio_Uvarint.calls _ A c B _ _ _ w hr hc (uvarint_f B hB hlen)
theorem take_any (A : Option Addr) (c : Nat) (B : List Int) (w : World) (hr : Kd.C (Kd.int .u8) w A B.length B) (hc : B.length ≤ c) (hB : IsBytes B) (hlen : B.length < 4611686018427387904) :
    Calls Try.prog 30 #[.slice A B.length c] w fun e w' => e = .returned (Triple (takeL B)) ∧ Drawn0 w w' :=
  Refs.corporaref02_Take.calls _ A c B _ _ _ w hr hc (take_f B hB hlen)
end Go.Proofs.Ytbfnckjnpbgmaaa
