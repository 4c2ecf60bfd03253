/- What (*Writer).Bits, Gamma and Delta append, or refuse. For every Writer with fewer than 9 * 10^11 bits and every uint64. -/
import Derived.Test.YtbfnckjnpbgmaaaLow
namespace Go.Proofs.Ytbfnckjnpbgmaaa
open Go.RowKit Go.Proofs.YtbfnckjnpbgmaaaW.PrintWords Go.Proofs.YtbfnckjnpbgmaaaW.PrintLast
set_option linter.unusedVariables false

theorem len64_call (x : Int) (v : Nat) (w : World) (hx : x = v) (h1 : v < 18446744073709551616) :
    Calls Try.prog 54 #[.int .u64 x] w fun e w' => e = .returned (.int .i64 (Lib.bitLen v)) ∧ w = w' := by
  subst hx
  refine (len64_any (v : Int) w (by omega) (by omega)).mono ?_
  rintro e w' ⟨rfl, rfl⟩
  exact ⟨by rw [Int.toNat_natCast], rfl⟩
theorem lowest_call (base g : Nat) (row : Option Nat) (l : List Bool) (x y : Int) (v n : Nat) (w : World) (h : Wr w base g row l) (hx : x = v) (hy : y = n) (hn : n ≤ 64) (hl : l.length + n < 1099511627776) (h1 : v < 18446744073709551616) :
    Calls Try.prog 55 #[.pointer (some ⟨g, 0, none⟩), .int .u64 x, .int .i64 y] w fun e w' => e = .returned (.tuple #[]) ∧ Puts w base g row l (lowL v n) w' := by
  subst hx hy
  exact lowest_any base g row l v n w h hn hl h1

/-- What a refused call leaves: nothing is written. -/
def Same (w : World) (base g : Nat) (row : Option Nat) (l : List Bool) (w' : World) : Prop := Wr w' base g row l ∧ Wrote w w' g row row
theorem Puts.same {w w' : World} {base g : Nat} {row : Option Nat} {l : List Bool} (h : Same w base g row l w') : Puts w base g row l [] w' := ⟨row, by simpa using h.1, h.2⟩

theorem bits_ok (base g : Nat) (row : Option Nat) (l : List Bool) (v : Nat) (n : Int) (w : World) (h : Wr w base g row l) (hl : l.length < 1000000000000) (h1 : v < 18446744073709551616)
    (hn0 : 0 ≤ n) (hn : n ≤ 64) (hv : (Lib.bitLen v : Int) ≤ n) :
    Calls Try.prog 64 #[.pointer (some ⟨g, 0, none⟩), .int .u64 v, .int .i64 n] w fun e w' => e = .returned (.int .i64 0) ∧ Puts w base g row l (lowL v n.toNat) w' := by
  obtain ⟨m, rfl⟩ := Int.eq_ofNat_of_zero_le hn0
  simp only [Int.toNat_natCast]
  have HW := Aside0.mk h
  have e1 : decide ((m : Int) < 0) = false := by simp
  have e2 : decide (64 < (m : Int)) = false := by simp; omega
  have e3 : decide ((m : Int) < (Lib.bitLen v : Int)) = false := by simp; omega
  have e3' : decide (m < Lib.bitLen v) = false := by simp; omega
  clear h hv
  go_enter Try.func64, Try.ntmps64
  go_wp2_with fail
  refine (len64_call _ v _ rfl h1).mono ?_
  rintro e w' ⟨rfl, rfl⟩
  go_wp2_with fail
  refine (lowest_call base g row l _ _ v m _ HW.out rfl rfl (by omega) (by omega) h1).mono ?_
  rintro e w1 ⟨rfl, hp⟩
  have HP := Aside0.mk hp
  clear hp
  go_wp2_with fail
  go_ret
  exact ⟨rfl, HP.out⟩

theorem bits_err (base g : Nat) (row : Option Nat) (l : List Bool) (v : Nat) (n : Int) (w : World) (h : Wr w base g row l) (h1 : v < 18446744073709551616)
    (hv : ¬ (0 ≤ n ∧ n ≤ 64 ∧ (Lib.bitLen v : Int) ≤ n)) :
    Calls Try.prog 64 #[.pointer (some ⟨g, 0, none⟩), .int .u64 v, .int .i64 n] w fun e w' => e = .returned (.int .i64 1) ∧ Same w base g row l w' := by
  have HW := Aside0.mk h
  clear h
  by_cases c1 : n < 0
  · have e1 : decide (n < 0) = true := by simpa using c1
    clear hv c1
    go_enter Try.func64, Try.ntmps64
    go_wp2_with fail
    go_ret
    exact ⟨rfl, HW.out, Wrote.refl _ _ _⟩
  · have e1 : decide (n < 0) = false := by simpa using c1
    by_cases c2 : 64 < n
    · have e2 : decide (64 < n) = true := by simpa using c2
      clear hv c1 c2
      go_enter Try.func64, Try.ntmps64
      go_wp2_with fail
      go_ret
      exact ⟨rfl, HW.out, Wrote.refl _ _ _⟩
    · have e2 : decide (64 < n) = false := by simpa using c2
      have e3 : decide (n < (Lib.bitLen v : Int)) = true := by simp; omega
      clear hv c1 c2
      go_enter Try.func64, Try.ntmps64
      go_wp2_with fail
      refine (len64_call _ v _ rfl h1).mono ?_
      rintro e w' ⟨rfl, rfl⟩
      go_wp2_with fail
      go_ret
      exact ⟨rfl, HW.out, Wrote.refl _ _ _⟩

/-! ### gamma and delta -/
def gammaL (v : Nat) : List Bool := List.replicate (Lib.bitLen v - 1) false ++ lowL v (Lib.bitLen v)
def deltaL (v : Nat) : List Bool := gammaL (Lib.bitLen v) ++ lowL v (Lib.bitLen v - 1)
theorem lowL_zero (n : Nat) : lowL 0 n = List.replicate n false := by
  induction n with
  | zero => rfl
  | succ n ih => simp [lowL, ih, List.replicate_succ]
theorem bitLen_pos {v : Nat} (h : v ≠ 0) (h1 : v < 18446744073709551616) : 1 ≤ Lib.bitLen v := by
  rw [Lib.bitLen_half v h (by simpa using h1)]; omega
theorem bitLen_le (v : Nat) (h1 : v < 18446744073709551616) : Lib.bitLen v ≤ 64 := Lib.bitLenAux_le 64 v 64 (by simpa using h1)

theorem gamma_err (base g : Nat) (row : Option Nat) (l : List Bool) (w : World) (h : Wr w base g row l) :
    Calls Try.prog 25 #[.pointer (some ⟨g, 0, none⟩), .int .u64 0] w fun e w' => e = .returned (.int .i64 1) ∧ Same w base g row l w' := by
  have HW := Aside0.mk h
  clear h
  go_enter Try.func25, Try.ntmps25
  go_wp2_with fail
  go_ret
  exact ⟨rfl, HW.out, Wrote.refl _ _ _⟩
theorem gamma_ok (base g : Nat) (row : Option Nat) (l : List Bool) (x : Int) (v : Nat) (w : World) (h : Wr w base g row l) (hx : x = v) (hl : l.length < 1000000000000) (h0 : v ≠ 0) (h1 : v < 18446744073709551616) :
    Calls Try.prog 25 #[.pointer (some ⟨g, 0, none⟩), .int .u64 x] w fun e w' => e = .returned (.int .i64 0) ∧ Puts w base g row l (gammaL v) w' := by
  subst hx
  have HW := Aside0.mk h
  have e1 : ((v : Int) == 0) = false := by simpa using h0
  have hp := bitLen_pos h0 h1
  have hl64 := bitLen_le v h1
  clear h h0
  go_enter Try.func25, Try.ntmps25
  go_wp2_with fail
  refine (len64_call _ v _ rfl h1).mono ?_
  rintro e w' ⟨rfl, rfl⟩
  go_wp2_with fail
  refine (lowest_call base g row l _ _ 0 (Lib.bitLen v - 1) _ HW.out rfl (by omega) (by omega) (by omega) (by omega)).mono ?_
  rintro e w1 ⟨rfl, row1, hw1, hwr1⟩
  have HW1 := Aside0.mk hw1
  have HR1 := Aside0.mk hwr1
  clear hw1 hwr1
  go_wp2_with fail
  refine (lowest_call base g row1 _ _ _ v (Lib.bitLen v) _ HW1.out rfl (by omega) (by omega) (by rw [List.length_append, lowL_length]; omega) (by omega)).mono ?_
  rintro e w2 ⟨rfl, row2, hw2, hwr2⟩
  have HW2 := Aside0.mk hw2
  have HR2 := Aside0.mk hwr2
  clear hw2 hwr2
  go_wp2_with fail
  go_ret
  refine ⟨rfl, row2, ?_, HR1.out.trans HR2.out⟩
  have := HW2.out
  rwa [lowL_zero, List.append_assoc] at this
theorem delta_err (base g : Nat) (row : Option Nat) (l : List Bool) (w : World) (h : Wr w base g row l) :
    Calls Try.prog 26 #[.pointer (some ⟨g, 0, none⟩), .int .u64 0] w fun e w' => e = .returned (.int .i64 1) ∧ Same w base g row l w' := by
  have HW := Aside0.mk h
  clear h
  go_enter Try.func26, Try.ntmps26
  go_wp2_with fail
  go_ret
  exact ⟨rfl, HW.out, Wrote.refl _ _ _⟩
theorem delta_ok (base g : Nat) (row : Option Nat) (l : List Bool) (x : Int) (v : Nat) (w : World) (h : Wr w base g row l) (hx : x = v) (hl : l.length < 900000000000) (h0 : v ≠ 0) (h1 : v < 18446744073709551616) :
    Calls Try.prog 26 #[.pointer (some ⟨g, 0, none⟩), .int .u64 x] w fun e w' => e = .returned (.int .i64 0) ∧ Puts w base g row l (deltaL v) w' := by
  subst hx
  have HW := Aside0.mk h
  have e1 : ((v : Int) == 0) = false := by simpa using h0
  have hp := bitLen_pos h0 h1
  have hl64 := bitLen_le v h1
  clear h h0
  go_enter Try.func26, Try.ntmps26
  go_wp2_with fail
  refine (len64_call _ v _ rfl h1).mono ?_
  rintro e w' ⟨rfl, rfl⟩
  go_wp2_with fail
  refine (gamma_ok base g row l _ (Lib.bitLen v) _ HW.out (by omega) (by omega) (by omega) (by omega)).mono ?_
  rintro e w1 ⟨rfl, row1, hw1, hwr1⟩
  have HW1 := Aside0.mk hw1
  have HR1 := Aside0.mk hwr1
  have HL : (gammaL (Lib.bitLen v)).length ≤ 128 := by
    have := bitLen_le (Lib.bitLen v) (by omega)
    simp only [gammaL, List.length_append, List.length_replicate, lowL_length]
    omega
  clear hw1 hwr1
  go_wp2_with fail
  refine (lowest_call base g row1 _ _ _ v (Lib.bitLen v - 1) _ HW1.out rfl (by omega) (by omega) (by rw [List.length_append]; omega) (by omega)).mono ?_
  rintro e w2 ⟨rfl, row2, hw2, hwr2⟩
  have HW2 := Aside0.mk hw2
  have HR2 := Aside0.mk hwr2
  clear hw2 hwr2
  go_wp2_with fail
  go_ret
  refine ⟨rfl, row2, ?_, HR1.out.trans HR2.out⟩
  have := HW2.out
  rwa [List.append_assoc] at this
end Go.Proofs.Ytbfnckjnpbgmaaa
