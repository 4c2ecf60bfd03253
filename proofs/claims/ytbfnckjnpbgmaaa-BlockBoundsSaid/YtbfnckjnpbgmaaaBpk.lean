/- What block.Pack, Width, Cost and the reference's Check, Pack, Width, Bytes return. For every list of numbers. -/
import Derived.Test.YtbfnckjnpbgmaaaEnc
import Derived.Test.YtbfnckjnpbgmaaaRefA
import Derived.Test.YtbfnckjnpbgmaaaRefD
namespace Go.Proofs.Ytbfnckjnpbgmaaa
open Go.RowKit Go.Proofs.YtbfnckjnpbgmaaaW.PrintWords Go.Proofs.YtbfnckjnpbgmaaaW.PrintLast Go.Proofs.YtbfnckjnpbgmaaaW.PrintMore
set_option linter.unusedVariables false

/-- Numbers that came in. -/
def InInts (w : World) (A : Option Addr) (n c : Nat) (l : List Int) : Prop := l.length = n ∧ n ≤ c ∧ Kd.C (Kd.int .i64) w A l.length l
theorem InInts.below {w w1 : World} {A : Option Addr} {n c : Nat} {l : List Int} (h : InInts w A n c l) (hb : Below w.heap.size w w1) : InInts w1 A n c l := ⟨h.1, h.2.1, Kd.C_below h.2.2 hb⟩
theorem InInts.drewN {w : World} {A : Option Addr} {n c : Nat} {l : List Int} (h : InInts w A n c l) (m : Nat) : InInts (w.drewN m) A n c l := ⟨h.1, h.2.1, Kd.C_drewN h.2.2 m⟩
theorem InInts.vals {w : World} {A : Option Addr} {n c : Nat} {vs : List Nat} (h : InInts w A n c (ints vs)) : InVals w A n c vs := ⟨by rw [← ints_length]; exact h.1, h.2.1, h.2.2⟩
theorem below_drawn0 {w w1 : World} (h : Drawn0 w w1) : Below w.heap.size w w1 := by
  obtain ⟨m, rfl⟩ := h
  exact pw_below_drewN (Below.refl _ _) m

theorem check_any (A : Option Addr) (n c : Nat) (l : List Int) (w : World) (h : InInts w A n c l) :
    Calls Try.prog 57 #[.slice A n c] w fun e w' => e = .returned (.int .i64 (checkV l)) ∧ Below w.heap.size w w' := by
  obtain ⟨rfl, hc, hr⟩ := h
  refine (Refs.block_check.calls 200 A c l _ w hr hc (check_f l 200 (by omega))).mono ?_
  rintro e w' ⟨he, hd⟩
  exact ⟨he, below_drawn0 hd⟩
theorem checkRef_any (A : Option Addr) (n c : Nat) (l : List Int) (w : World) (h : InInts w A n c l) :
    Calls Try.prog 31 #[.slice A n c] w fun e w' => e = .returned (.int .i64 (checkV l)) ∧ Below w.heap.size w w' := by
  obtain ⟨rfl, hc, hr⟩ := h
  refine (Refs.corporaref15_Check.calls 200 A c l _ w hr hc (checkRef_f l 200 (by omega))).mono ?_
  rintro e w' ⟨he, hd⟩
  exact ⟨he, below_drawn0 hd⟩
def widthV (l : List Int) : Int := if checkV l = 0 then (bestL (l.map Int.toNat) : Int) else 0
theorem widthRef_any (A : Option Addr) (n c : Nat) (l : List Int) (w : World) (h : InInts w A n c l) :
    Calls Try.prog 45 #[.slice A n c] w fun e w' => e = .returned (.int .i64 (widthV l)) ∧ Below w.heap.size w w' := by
  obtain ⟨rfl, hc, hr⟩ := h
  exact Refs.corporaref15_Width.calls 9000 A c l _ w hr hc (widthRef_f l 9000 (by omega) (by omega))
theorem packRef15_any (A : Option Addr) (n c : Nat) (vs : List Nat) (w : World) (h : InInts w A n c (ints vs)) (hok : BlockOk vs) :
    Calls Try.prog 44 #[.slice A n c] w fun e w' => MadeBytes w (encL vs (bestL vs)) e w' := by
  obtain ⟨rfl, hc, hr⟩ := h
  refine (Refs.corporaref15_Pack.calls 9000 A c (ints vs) _ w hr hc (packRef15_f vs hok 9000 (by omega) (by omega))).mono ?_
  rintro e w' ⟨v, he, hr, hb⟩
  exact ⟨v, he, hr, hb⟩
theorem bytesRef_any (A : Option Addr) (n c : Nat) (vs : List Nat) (x : Int) (k : Nat) (w : World) (h : InInts w A n c (ints vs)) (hok : BlockOk vs) (hx : x = k) (hk : k ≤ 31) :
    Calls Try.prog 47 #[.slice A n c, .int .i64 x] w fun e w' => MadeBytes w (encL vs k) e w' := by
  subst hx
  obtain ⟨rfl, hc, hr⟩ := h
  refine (Refs.corporaref15_Bytes.calls 9000 A c (ints vs) k _ w hr hc (bytesRef_f vs k 9000 hok hk (by omega) (by omega))).mono ?_
  rintro e w' ⟨v, he, hr, hb⟩
  exact ⟨v, he, hr, hb⟩

/-- The number of bytes with a width, or the error. -/
def costV (l : List Int) (x : Int) : Int × Int := if checkV l = 0 then (if x < 0 then (0, 1) else if x > 31 then (0, 1) else ((encL (l.map Int.toNat) x.toNat).length, 0)) else (0, checkV l)
theorem cost_any (A : Option Addr) (n c : Nat) (l : List Int) (x : Int) (w : World) (h : InInts w A n c l) :
    Calls Try.prog 46 #[.slice A n c, .int .i64 x] w fun e w' => e = .returned (.tuple #[.int .i64 (costV l x).1, .int .i64 (costV l x).2]) ∧ Below w.heap.size w w' := by
  obtain ⟨rfl, hc, hr⟩ := h
  refine Refs.block_Cost.calls 200 A c l x _ _ w hr hc ?_
  unfold Refs.block_Cost.f costV
  rw [check_f l 200 (by omega), Option.bind_some]
  by_cases h : checkV l = 0
  · rw [if_pos h, if_pos h]
    by_cases h1 : x < 0
    · rw [if_pos h1, if_pos h1]
    · rw [if_neg h1, if_neg h1]
      by_cases h2 : x > 31
      · rw [if_pos h2, if_pos h2]
      · rw [if_neg h2, if_neg h2]
        obtain ⟨vs, rfl, hok⟩ := checkV_ok h
        have e : x = ((x.toNat : Nat) : Int) := by omega
        rw [e, cost_f vs x.toNat 200 hok (by omega) (by omega), Option.bind_some, ints_toNat, Int.toNat_natCast]
  · rw [if_neg h, if_neg h]

set_option maxHeartbeats 1000000 in
set_option maxRecDepth 100000 in
theorem width_any (A : Option Addr) (n c : Nat) (l : List Int) (w : World) (h : InInts w A n c l) :
    Calls Try.prog 43 #[.slice A n c] w fun e w' => e = .returned (.int .i64 (widthV l)) ∧ Below w.heap.size w w' := by
  have H := Aside0.mk h
  clear h
  by_cases hc : checkV l = 0
  · obtain ⟨vs, rfl, hok⟩ := checkV_ok hc
    have HOK := Aside0.mk hok
    have HCH := Aside0.mk hc
    have hw : widthV (ints vs) = (bestL vs : Int) := by unfold widthV; rw [if_pos hc, ints_toNat]
    rw [hw]
    clear hok hw hc
    go_enter Try.func43, Try.ntmps43
    go_wp2_with fail
    refine (check_any A n c _ w H.out).mono ?_
    rintro e w1 ⟨rfl, hb⟩
    have HB := Aside0.mk hb
    have H1 := Aside0.mk (H.out.below hb)
    clear hb
    rw [HCH.out]
    go_wp2_with fail
    refine (best_any A n c vs w1 H1.out.vals HOK.out).mono ?_
    rintro e w2 ⟨rfl, hb2⟩
    have HB2 := Aside0.mk (below_step HB.out hb2)
    clear hb2
    go_wp2_with fail
    go_ret
    exact ⟨rfl, HB2.out⟩
  · have hw : widthV l = 0 := by unfold widthV; rw [if_neg hc]
    rw [hw]
    clear hw
    go_enter Try.func43, Try.ntmps43
    go_wp2_with fail
    refine (check_any A n c _ w H.out).mono ?_
    rintro e w1 ⟨rfl, hb⟩
    have HB := Aside0.mk hb
    clear hb
    obtain ⟨q, hq⟩ : ∃ q, q = checkV l := ⟨_, rfl⟩
    rw [← hq] at hc ⊢
    clear hq
    go_wp2_with fail
    go_ret
    exact ⟨rfl, HB.out⟩

/-- The bytes of a block, or none. -/
def packV (l : List Int) : List Int := if checkV l = 0 then encL (l.map Int.toNat) (bestL (l.map Int.toNat)) else []
set_option maxHeartbeats 1000000 in
set_option maxRecDepth 100000 in
theorem pack_any (A : Option Addr) (n c : Nat) (l : List Int) (w : World) (h : InInts w A n c l) :
    Calls Try.prog 32 #[.slice A n c] w fun e w' => ∃ v, e = .returned (.tuple #[v, .int .i64 (checkV l)]) ∧ Made w w' v (packV l) := by
  have H := Aside0.mk h
  clear h
  by_cases hc : checkV l = 0
  · obtain ⟨vs, rfl, hok⟩ := checkV_ok hc
    have HOK := Aside0.mk hok
    have HCH := Aside0.mk hc
    have hw : packV (ints vs) = encL vs (bestL vs) := by unfold packV; rw [if_pos hc, ints_toNat]
    rw [hw, hc]
    clear hok hw hc
    go_enter Try.func32, Try.ntmps32
    go_wp2_with fail
    refine (check_any A n c _ w H.out).mono ?_
    rintro e w1 ⟨rfl, hb⟩
    have HB := Aside0.mk hb
    have H1 := Aside0.mk (H.out.below hb)
    clear hb
    rw [HCH.out]
    go_wp2_with fail
    refine (best_any A n c vs w1 H1.out.vals HOK.out).mono ?_
    rintro e w2 ⟨rfl, hb2⟩
    have HB2 := Aside0.mk (below_step HB.out hb2)
    have H2 := Aside0.mk (H1.out.below hb2)
    have hz := HB2.out.size
    clear hb2
    go_wp2_with fail
    refine (encode_any A n c vs _ (bestL vs) w2 H2.out.vals HOK.out rfl (bestL_le vs)).mono ?_
    rintro e w3 ⟨v, rfl, hr, hb3⟩
    have HR := Aside0.mk hr
    have HB3 := Aside0.mk (below_step HB2.out hb3)
    clear hr hb3
    go_wp2_with fail
    go_ret2
    exact ⟨v, rfl, Kd.R_lower HR.out hz, HB3.out⟩
  · have hw : packV l = [] := by unfold packV; rw [if_neg hc]
    rw [hw]
    have HNIL := Aside0.mk (fun w1 : World => own_nil w1 w.heap.size 5 1)
    clear hw
    go_enter Try.func32, Try.ntmps32
    go_wp2_with fail
    refine (check_any A n c _ w H.out).mono ?_
    rintro e w1 ⟨rfl, hb⟩
    have HB := Aside0.mk hb
    clear hb
    obtain ⟨q, hq⟩ : ∃ q, q = checkV l := ⟨_, rfl⟩
    have HQ := Aside0.mk hq
    rw [← hq] at hc ⊢
    clear hq
    go_wp2_with fail
    go_ret2
    exact ⟨_, by rw [HQ.out]; rfl, Kd.R_of_own (HNIL.out w1) (fun _ _ => trivial), HB.out⟩
end Go.Proofs.Ytbfnckjnpbgmaaa
