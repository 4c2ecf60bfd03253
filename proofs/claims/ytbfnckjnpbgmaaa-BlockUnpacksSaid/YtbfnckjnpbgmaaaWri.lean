/- What a call of a Writer by the statement appends, or that it is refused. For every call and every Writer with fewer than 9 * 10^11 bits. -/
import Derived.Test.YtbfnckjnpbgmaaaUna
namespace Go.Proofs.Ytbfnckjnpbgmaaa
open Go.RowKit Go.Proofs.YtbfnckjnpbgmaaaW.PrintWords Go.Proofs.YtbfnckjnpbgmaaaW.PrintLast
set_option linter.unusedVariables false

/-- The bits that a call appends; none: it is refused. -/
def writeL (kind : Int) (v : Nat) (n : Int) : Option (List Bool) :=
  if kind = 0 then (if 0 ≤ n ∧ n ≤ 64 ∧ (Lib.bitLen v : Int) ≤ n then some (lowL v n.toNat) else none)
  else if kind = 1 then (if n < 0 ∨ 4096 < n then none else some (unaryL n.toNat))
  else if v = 0 then none
  else if kind = 2 then some (gammaL v) else some (deltaL v)
def errnoOf (o : Option (List Bool)) : Int := if o.isSome then 0 else 1

theorem Wrote.alloc (w : World) (g : Nat) (row : Option Nat) (o : Obj) : Wrote w (w.alloc o) g row row :=
  ⟨rfl, rfl, rfl, by simp, fun i hi _ _ => Below.heap_alloc w o i hi, .inl rfl⟩
theorem Wr.alloc {w : World} {base g : Nat} {row : Option Nat} {l : List Bool} (h : Wr w base g row l) (o : Obj) : Wr (w.alloc o) base g row l := Half.below h (below_alloc (Below.refl _ _) o)
theorem Puts.from {w w1 w' : World} {base g : Nat} {row : Option Nat} {l m : List Bool} (h : Wrote w w1 g row row) (hp : Puts w1 base g row l m w') : Puts w base g row l m w' := by
  obtain ⟨row', h1, h2⟩ := hp
  exact ⟨row', h1, h.trans h2⟩

set_option maxHeartbeats 1000000 in
theorem write_any (base g : Nat) (row : Option Nat) (l : List Bool) (kind n x : Int) (v : Nat) (w : World) (h : Wr w base g row l) (hx : x = v) (hl : l.length < 900000000000) (h1 : v < 18446744073709551616) :
    Calls Try.prog 39 #[.pointer (some ⟨g, 0, none⟩), .agg #[.int .i64 kind, .int .u64 x, .int .i64 n]] w fun e w' => e = .returned (.int .i64 (errnoOf (writeL kind v n))) ∧ Puts w base g row l ((writeL kind v n).getD []) w' := by
  subst hx
  have HW := Aside0.mk (h.alloc (.cells #[.int .i64 kind, .int .u64 v, .int .i64 n] 57))
  have HA := Aside0.mk (Wrote.alloc w g row (.cells #[.int .i64 kind, .int .u64 v, .int .i64 n] 57))
  clear h
  by_cases c0 : kind = 0
  · subst c0
    by_cases c : 0 ≤ n ∧ n ≤ 64 ∧ (Lib.bitLen v : Int) ≤ n
    · have HF : Aside0 (writeL 0 v n = some (lowL v n.toNat)) := ⟨by simp [writeL, c]⟩
      have HC := Aside0.mk c
      clear c
      go_enter Try.func39, Try.ntmps39
      go_wp2_with fail
      refine (bits_ok base g row l v n _ HW.out (by omega) h1 HC.out.1 HC.out.2.1 HC.out.2.2).mono ?_
      rintro e w1 ⟨rfl, hp⟩
      have HP := Aside0.mk hp
      clear hp
      go_wp2_with fail
      go_ret
      rw [HF.out]
      exact ⟨rfl, HP.out.from HA.out⟩
    · have HF : Aside0 (writeL 0 v n = none) := ⟨by simp only [writeL, if_neg c]; rfl⟩
      have HC := Aside0.mk c
      clear c
      go_enter Try.func39, Try.ntmps39
      go_wp2_with fail
      refine (bits_err base g row l v n _ HW.out h1 HC.out).mono ?_
      rintro e w1 ⟨rfl, hp⟩
      have HP := Aside0.mk hp
      clear hp
      go_wp2_with fail
      go_ret
      rw [HF.out]
      exact ⟨rfl, (Puts.same HP.out).from HA.out⟩
  · have e0 : (kind == 0) = false := by simpa using c0
    by_cases c1 : kind = 1
    · subst c1
      by_cases c : n < 0 ∨ 4096 < n
      · have HF : Aside0 (writeL 1 v n = none) := ⟨by simp only [writeL, if_pos c]; rfl⟩
        have HC := Aside0.mk c
        clear c e0
        go_enter Try.func39, Try.ntmps39
        go_wp2_with fail
        refine (unary_err base g row l n _ HW.out HC.out).mono ?_
        rintro e w1 ⟨rfl, hp⟩
        have HP := Aside0.mk hp
        clear hp
        go_wp2_with fail
        go_ret
        rw [HF.out]
        exact ⟨rfl, (Puts.same HP.out).from HA.out⟩
      · have HF : Aside0 (writeL 1 v n = some (unaryL n.toNat)) := ⟨by simp only [writeL, if_neg c]; rfl⟩
        obtain ⟨m, rfl⟩ := Int.eq_ofNat_of_zero_le (show 0 ≤ n by omega)
        have hm : m ≤ 4096 := by omega
        clear c e0
        go_enter Try.func39, Try.ntmps39
        go_wp2_with fail
        refine (unary_ok base g row l m _ HW.out hm (by omega)).mono ?_
        rintro e w1 ⟨rfl, hp⟩
        have HP := Aside0.mk hp
        clear hp
        go_wp2_with fail
        go_ret
        rw [HF.out]
        exact ⟨rfl, HP.out.from HA.out⟩
    · have e1 : (kind == 1) = false := by simpa using c1
      by_cases cv : v = 0
      · subst cv
        have HF : Aside0 (writeL kind 0 n = none) := ⟨by simp only [writeL, if_neg c0, if_neg c1]; rfl⟩
        by_cases c2 : kind = 2
        · subst c2
          clear c0 c1 e0 e1
          go_enter Try.func39, Try.ntmps39
          go_wp2_with fail
          refine (gamma_err base g row l _ HW.out).mono ?_
          rintro e w1 ⟨rfl, hp⟩
          have HP := Aside0.mk hp
          clear hp
          go_wp2_with fail
          go_ret
          rw [HF.out]
          exact ⟨rfl, (Puts.same HP.out).from HA.out⟩
        · have e2 : (kind == 2) = false := by simpa using c2
          clear c0 c1 c2
          go_enter Try.func39, Try.ntmps39
          go_wp2_with fail
          refine (delta_err base g row l _ HW.out).mono ?_
          rintro e w1 ⟨rfl, hp⟩
          have HP := Aside0.mk hp
          clear hp
          go_wp2_with fail
          go_ret
          rw [HF.out]
          exact ⟨rfl, (Puts.same HP.out).from HA.out⟩
      · by_cases c2 : kind = 2
        · subst c2
          have HF : Aside0 (writeL 2 v n = some (gammaL v)) := ⟨by simp [writeL, cv]⟩
          clear c0 c1 e0 e1
          go_enter Try.func39, Try.ntmps39
          go_wp2_with fail
          refine (gamma_ok base g row l _ v _ HW.out rfl (by omega) cv h1).mono ?_
          rintro e w1 ⟨rfl, hp⟩
          have HP := Aside0.mk hp
          clear hp
          go_wp2_with fail
          go_ret
          rw [HF.out]
          exact ⟨rfl, HP.out.from HA.out⟩
        · have HF : Aside0 (writeL kind v n = some (deltaL v)) := ⟨by simp only [writeL, if_neg c0, if_neg c1, if_neg cv, if_neg c2]⟩
          have e2 : (kind == 2) = false := by simpa using c2
          clear c0 c1 c2
          go_enter Try.func39, Try.ntmps39
          go_wp2_with fail
          refine (delta_ok base g row l _ v _ HW.out rfl (by omega) cv h1).mono ?_
          rintro e w1 ⟨rfl, hp⟩
          have HP := Aside0.mk hp
          clear hp
          go_wp2_with fail
          go_ret
          rw [HF.out]
          exact ⟨rfl, HP.out.from HA.out⟩
end Go.Proofs.Ytbfnckjnpbgmaaa
