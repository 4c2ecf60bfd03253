/- The walk of BitioBack: a number is read back from its encoding, whatever follows, and every proper prefix is truncated. For every uint64 and at most 30 bytes behind it. -/
import Derived.Test.YtbfnckjnpbgmaaaTak
namespace Go.Proofs.Ytbfnckjnpbgmaaa
open Go.RowKit Go.Proofs.YtbfnckjnpbgmaaaW.PrintWords Go.Proofs.YtbfnckjnpbgmaaaW.PrintLast
set_option linter.unusedVariables false

theorem split128 (v i : Nat) : v % 128 * 2 ^ (7 * i) + v / 128 * 2 ^ (7 * (i + 1)) = v * 2 ^ (7 * i) := by
  have e : 2 ^ (7 * (i + 1)) = 128 * 2 ^ (7 * i) := by rw [Nat.mul_add, Nat.pow_add, Nat.mul_comm]
  rw [e, ← Nat.mul_assoc, ← Nat.add_mul]
  congr 1
  omega
/-- The number still fits, i groups having been read. -/
def VOk (v i : Nat) : Prop := v * 2 ^ (7 * i) < 18446744073709551616
theorem VOk.nine {v : Nat} (h : VOk v 9) : v ≤ 1 := by
  unfold VOk at h
  have : 2 ^ (7 * 9) = 9223372036854775808 := by decide
  rw [this] at h
  omega
theorem VOk.next {v i : Nat} (h : VOk v i) : VOk (v / 128) (i + 1) := by
  have := split128 v i
  unfold VOk at *
  omega
theorem take_uv (v : Nat) : ∀ (i acc : Nat) (rest : List Int), VOk v i → (0 < i → 0 < v) → takeAux i acc (uvL v ++ rest) = (acc + v * 2 ^ (7 * i), i + (uvL v).length, 0) := by
  induction v using Nat.strongRecOn with
  | _ v ih =>
    intro i acc rest hv hi
    by_cases h : 128 ≤ v
    · have h9 : i ≠ 9 := by
        rintro rfl
        have := hv.nine
        omega
      have hs := split128 v i
      rw [uvL_ge h, List.cons_append, takeAux, if_neg (fun hh => h9 hh.1), if_neg (by omega), ih (v / 128) (by omega) (i + 1) _ rest hv.next (by omega)]
      have e1 : ((((v % 128 + 128 : Nat) : Int)) % 128).toNat = v % 128 := by omega
      rw [e1, Nat.add_assoc, hs, List.length_cons]
      congr 2
      omega
    · have h9 : ¬ (i = 9 ∧ (v : Int) ≠ 1) := by
        rintro ⟨rfl, hne⟩
        have := hv.nine
        have := hi (by omega)
        omega
      rw [uvL_lt h, List.singleton_append, takeAux, if_neg h9, if_pos (by omega), if_neg (by omega)]
      have e1 : ((v : Int) % 128).toNat = v := by omega
      rw [e1]
      rfl
theorem takeL_uv (v : Nat) (rest : List Int) (h : v < 18446744073709551616) : takeL (uvL v ++ rest) = (v, (uvL v).length, 0) := by
  unfold takeL
  rw [take_uv v 0 0 rest (by simpa [VOk] using h) (by omega)]
  simp
theorem take_pre (v : Nat) : ∀ (i acc j : Nat), VOk v i → (0 < i → 0 < v) → j < (uvL v).length → takeAux i acc ((uvL v).take j) = (0, 0, 10) := by
  induction v using Nat.strongRecOn with
  | _ v ih =>
    intro i acc j hv hi hj
    cases j with
    | zero => rfl
    | succ j =>
      by_cases h : 128 ≤ v
      · have h9 : i ≠ 9 := by
          rintro rfl
          have := hv.nine
          omega
        rw [uvL_ge h] at hj ⊢
        simp only [List.length_cons] at hj
        rw [List.take_succ_cons, takeAux, if_neg (fun hh => h9 hh.1), if_neg (by omega)]
        exact ih (v / 128) (by omega) (i + 1) _ j hv.next (by omega) (by omega)
      · rw [uvL_lt h] at hj
        simp at hj
theorem takeL_pre (v j : Nat) (h : v < 18446744073709551616) (hj : j < (uvL v).length) : takeL ((uvL v).take j) = (0, 0, 10) :=
  take_pre v 0 0 j (by simpa [VOk] using h) (by omega) hj

theorem uvarint_call (A : Option Addr) (n c : Nat) (B : List Int) (w : World) (hn : B.length = n) (hr : Kd.C (Kd.int .u8) w A n B) (hc : n ≤ c) (hB : IsBytes B) (hlen : n < 4611686018427387904) :
    Calls Try.prog 29 #[.slice A n c] w fun e w' => e = .returned (Triple (takeL B)) ∧ Drawn0 w w' := by
  subst hn
  exact uvarint_any A c B w hr hc hB hlen
/-- b[:j] of bytes that are read. -/
theorem cut_run (A : Option Addr) (c : Nat) (B : List Int) (j : Nat) (hj : j ≤ B.length) (hc : B.length ≤ c) (W : World) :
    (Instr.slice 22 (.slice A B.length c) none (some (.int .i64 (j : Int))) none).run Try.prog W = .ok (.slice A j c) W := by
  have h := (print_take_of (P := Try.prog) (Value.int .u8) (0 : Int) 22 5 .i64 Try.underlying22 (info_parts Refs.info5).choose_spec.1 (info_parts Refs.info5).choose_spec.2.2.1 A c B (j : Int) (by omega) (by omega) hc).1 W
  rw [Int.toNat_natCast, List.length_take, Nat.min_eq_left hj] at h
  exact h
theorem cut_reads {w : World} {A : Option Addr} {B : List Int} (j : Nat) (hj : j ≤ B.length) (h : Kd.C (Kd.int .u8) w A B.length B) : Kd.C (Kd.int .u8) w A j (B.take j) := by
  have h2 := (Kd.reads_of_C (d := (0 : Int)) h).take_ j hj
  exact Kd.C_of_reads (h1 := fun _ => rfl) h2

set_option maxHeartbeats 1000000 in
set_option maxRecDepth 100000 in
theorem back_walk (a0 : Int) (A : Option Addr) (n c : Nat) (B : List Int) (w : World) (w0 : (Lit.int .u64 a0).wf = true) (hin : InBytes w A n c B) :
    Calls Try.prog 8 #[.int .u64 a0, .slice A n c] w fun e w' => e = .returned (.bool true) ∧ Below w.heap.size w w' := by
  obtain ⟨v, rfl, hv⟩ := u64_nat w0
  obtain ⟨rfl, hc, hB, hr⟩ := hin
  have HB0 := Aside0.mk hB
  have HR0 := Aside0.mk hr
  clear hB hr w0
  by_cases h30 : 30 < B.length
  · go_enter Try.func8, Try.ntmps8
    go_wp2_with fail
    go_ret
    exact ⟨rfl, Below.refl _ _⟩
  · have hm : B.length ≤ 30 := by omega
    have hul := uvL_len v hv
    have hup := uvL_pos v
    obtain ⟨U, hU⟩ : ∃ U, U = uvL v := ⟨_, rfl⟩
    rw [← hU] at hul hup
    have HUB : Aside0 (IsBytes U) := ⟨hU ▸ uvL_bytes v⟩
    have HT : Aside0 (takeL (U ++ B) = (v, U.length, 0)) := ⟨hU ▸ takeL_uv v B hv⟩
    have HP : Aside0 (∀ j, j < U.length → takeL (U.take j) = (0, 0, 10)) := ⟨fun j hj => by rw [hU] at hj ⊢; exact takeL_pre v j hv hj⟩
    have HU := Aside0.mk hU
    obtain ⟨UB, hUB⟩ : ∃ UB, UB = U ++ B := ⟨_, rfl⟩
    have hubl : UB.length ≤ 40 := by rw [hUB, List.length_append]; omega
    have HUBB : Aside0 (IsBytes UB) := ⟨hUB ▸ HUB.out.append HB0.out⟩
    rw [← hUB] at HT
    have HUB2 := Aside0.mk hUB
    clear h30 hU hUB
    go_enter Try.func8, Try.ntmps8
    go_wp2_with fail
    refine (putUvarint_any none 0 [] _ v _ (Kd.C_nil _ _) (Nat.le_refl _) rfl (by simp) hv).mono ?_
    rintro e w1 ⟨v1, rfl, hr1, hb1⟩
    rw [List.nil_append, ← HU.out] at hr1
    obtain ⟨A1, c1, hv1, hl1, hC1⟩ := Kd.R_reads hr1
    subst hv1
    have HC1 := Aside0.mk hC1
    have HB1 := Aside0.mk hb1
    have HRD1 := Aside0.mk (Kd.reads_of_C (d := (0 : Int)) hC1)
    have HNIL := Aside0.mk (own_nil w1 w1.heap.size 5 1)
    clear hr1 hb1 hC1
    go_wp2_with (first | (at_builtin; refine print_append_row (w0 := w1) w1.heap.size rfl (.const (.slice none 0 0)) (.tmp 19) 22 5 .u8 1 rfl Try.underlying22 Refs.info5 (by omega) (.slice none 0 0) [] U A1 _ c1 rfl rfl HNIL.out HRD1.out ?aB ?aS ?aL ?_; (case aB => exact Below.refl _ _); (case aS => omega); (case aL => simp; omega); intro v2 w2 hown hB2 hg2 hat2; simp only [List.nil_append] at hown; have HO2 := Aside0.mk hown; have HB2 := Aside0.mk hB2; have HRD2 := Aside0.mk (Kd.reads_of_C (d := (0 : Int)) (Kd.C_below HR0.out (below_step HB1.out hB2))); have hz2 := hB2.size; obtain ⟨A2, c2, hv2⟩ := own_slice hown; subst hv2; clear hown hB2 hg2 hat2) | (at_builtin; refine print_append_row (w0 := w1) w1.heap.size rfl (.tmp 20) (.tmp 21) 22 5 .u8 1 rfl Try.underlying22 Refs.info5 (by omega) (.slice A2 U.length c2) U B A _ c rfl rfl HO2.out HRD2.out ?aB ?aS ?aL ?_; (case aB => exact HB2.out); (case aS => omega); (case aL => omega); intro v3 w3 hown hB3 hg3 hat3; rw [← HUB2.out] at hown; have HO3 := Aside0.mk hown; have HB3 := Aside0.mk hB3; obtain ⟨A3, c3, hv3⟩ := own_slice hown; subst hv3; clear hown hB3 hg3 hat3))
    have HC3 := Aside0.mk (own_C HO3.out)
    refine (uvarint_any A3 c3 UB _ HC3.out.2 HC3.out.1 HUBB.out (by omega)).mono ?_
    rintro e w4 ⟨rfl, ⟨n4, rfl⟩⟩
    rw [HT.out]
    unfold Triple
    have HB4 := Aside0.mk (pw_below_drewN (below_step HB1.out HB3.out) n4)
    have HC4 := Aside0.mk (Kd.C_drewN (Kd.C_below HC1.out HB3.out) n4)
    clear HC3 HO3 HB3 HRD1 HRD2 HO2 HB2
    go_wp2_with fail
    go_loopw [9] (fun i w' => ∃ k : Nat, k ≤ U.length ∧ i = .int .i64 (k : Int) ∧ Aside0 (Below w.heap.size w w') ∧ Aside0 (Kd.C (Kd.int .u8) w' A1 U.length U)) (fun i _ => U.length - (intOf i).toNat)
    case atStart => exact ⟨0, Nat.zero_le _, rfl, HB4, HC4⟩
    case round =>
      obtain ⟨k, hk, rfl, HB5, HC5⟩ := hrel
      clear HB4 HC4
      by_cases hlt : k < U.length
      · have hcut := cut_run A1 c1 U k hk hl1
        go_wp2_with fail
        refine (uvarint_call A1 k c1 (U.take k) _ (by rw [List.length_take, Nat.min_eq_left hk]) (cut_reads k hk HC5.out) (by omega) (fun x hx => HUB.out x (List.mem_of_mem_take hx)) (by omega)).mono ?_
        rintro e w6 ⟨rfl, ⟨n6, rfl⟩⟩
        rw [HP.out k hlt]
        unfold Triple
        go_wp2_with fail
        go_roundw
        case rel => exact ⟨k + 1, by omega, by go_num, ⟨pw_below_drewN HB5.out _⟩, ⟨Kd.C_drewN HC5.out _⟩⟩
        case measure => simp [intOf]; omega
      · go_wp2_with fail
        refine (awake_any _).mono ?_
        rintro e w7 ⟨rfl, hb7⟩
        have HB7 := Aside0.mk (below_step HB5.out hb7)
        clear hb7
        go_wp2_with fail
        go_ret
        exact ⟨rfl, HB7.out⟩
end Go.Proofs.Ytbfnckjnpbgmaaa
