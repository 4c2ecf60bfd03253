/- What block.encode returns: count, width, number of exceptions, low bits packed, exceptions. For every block and every width to 31. -/
import Derived.Test.YtbfnckjnpbgmaaaBst
import Derived.Test.YtbfnckjnpbgmaaaPuv
import Derived.Test.YtbfnckjnpbgmaaaPts
import Derived.Test.YtbfnckjnpbgmaaaCal
namespace Go.Proofs.Ytbfnckjnpbgmaaa
open Go.RowKit Go.Proofs.YtbfnckjnpbgmaaaW.PrintWords Go.Proofs.YtbfnckjnpbgmaaaW.PrintLast Go.Proofs.YtbfnckjnpbgmaaaW.PrintMore
set_option linter.unusedVariables false

theorem testBit_mod (v w i : Nat) (h : i < w) : (v % 2 ^ w).testBit i = v.testBit i := by
  rw [Nat.testBit_mod_two_pow]; simp [h]
theorem lowL_mod (v w : Nat) : ∀ n, n ≤ w → lowL (v % 2 ^ w) n = lowL v n := by
  intro n
  induction n with
  | zero => intro _; rfl
  | succ n ih => intro h; rw [lowL, lowL, ih (by omega), testBit_mod v w n (by omega)]
theorem mask_eq (v w : Nat) (hw : w ≤ 31) (hv : v < 2147483648) : bits .and .u64 (v : Int) ((2 : Int) ^ w - 1) = ((v % 2 ^ w : Nat) : Int) := by
  have h := bits_mask .u64 63 (by decide) (fun m h h2 => by rw [IntKind.wrap_u64]; omega) w (by omega) (v : Int) (by omega) (by omega)
  rw [h]
  simp

/-- The rows are two. -/
def Apart (r1 r2 : Option Nat) : Prop := ∀ q, r1 = some q → r2 ≠ some q
theorem Apart.none (r : Option Nat) : Apart .none r := fun q hq => by cases hq
theorem Apart.or {r1 r2 : Option Nat} (h : Apart r1 r2) : r2 = .none ∨ r2 ≠ r1 := by
  cases r2 with
  | none => exact .inl rfl
  | some k => exact .inr (fun e => h k e.symm rfl)
theorem Apart.wrote {w w1 : World} {g : Nat} {r0 r1 r2 : Option Nat} (h : Apart r0 r2) (hw : Wrote w w1 g r0 r1) (hlt : ∀ k, r2 = some k → k < w.heap.size) : Apart r1 r2 := by
  intro q hq
  rcases hw.new with e | ⟨b, e, hb⟩
  · exact h q (e ▸ hq)
  · intro e2
    have := hlt q e2
    rw [e] at hq
    injection hq with hq
    omega
theorem Apart.fresh {r1 r2 : Option Nat} {N : Nat} (h1 : ∀ k, r1 = some k → k < N) (h2 : ∀ k, r2 = some k → N ≤ k) : Apart r1 r2 := fun q hq e => by
  have := h1 q hq
  have := h2 q e
  omega
theorem mask_walk (v w : Nat) (hw : w ≤ 31) (hv : v < 2147483648) : bits .and .u64 (v : Int) (IntKind.u64.wrap (IntKind.u64.wrap ((2 : Int) ^ w) - 1)) = ((v % 2 ^ w : Nat) : Int) := by
  have hp : 2 ^ w ≤ 2 ^ 31 := Nat.pow_le_pow_right (by decide) hw
  have hpos := Nat.two_pow_pos w
  have e : (2 : Int) ^ w = ((2 ^ w : Nat) : Int) := by simp
  have e1 : IntKind.u64.wrap ((2 : Int) ^ w) = (2 : Int) ^ w := by
    rw [e]
    generalize 2 ^ w = q at hp
    exact wrap_u64_nat _ (by omega)
  have e2 : IntKind.u64.wrap ((2 : Int) ^ w - 1) = (2 : Int) ^ w - 1 := by
    rw [e]
    generalize 2 ^ w = q at hp hpos
    rw [show (q : Int) - 1 = ((q - 1 : Nat) : Int) by omega]
    exact wrap_u64_nat _ (by omega)
  rw [e1, e2, mask_eq v w hw hv]

/-- Bytes that a call has made, as a row of its own. -/
theorem made_own {w w' : World} {B : List Int} {e : Ending} (h : MadeBytes w B e w') : ∃ A c, e = .returned (.slice A B.length c) ∧ B.length ≤ c ∧ w'.ownsRow w.heap.size 5 1 (.slice A B.length c) B.length (nums .u8 B) ∧ Kd.C (Kd.int .u8) w' A B.length B ∧ Below w.heap.size w w' := by
  obtain ⟨v, rfl, hr, hb⟩ := h
  obtain ⟨A, c, hv, hl, hC⟩ := Kd.R_reads hr
  subst hv
  exact ⟨A, c, rfl, hl, Kd.own_of_R hr, hC, hb⟩

/-- The exceptions so far lie apart from the Writer. -/
structure ERel (w : World) (wd : Nat) (vs : List Nat) (x6 x7 x8 i : Value) (w' : World) : Prop where
  out : ∃ (k : Nat) (row : Option Nat), k ≤ vs.length ∧ i = .int .i64 (k : Int) ∧ Wr w' w.heap.size w.heap.size row (lowsL wd (vs.take k)) ∧
    w'.ownsRow w.heap.size 5 1 x6 (excL wd 1 (vs.take k)).length (nums .u8 (excL wd 1 (vs.take k))) ∧ Apart row x6.ownBlock ∧
    x7 = .int .i64 (cntL wd (vs.take k) : Int) ∧ x8 = .int .i64 ((k : Int) - (gapL wd 1 (vs.take k) : Int)) ∧ Below w.heap.size w w'

set_option maxHeartbeats 4000000 in
set_option maxRecDepth 100000 in
theorem encode_any (A : Option Addr) (n c : Nat) (vs : List Nat) (x : Int) (wd : Nat) (w : World) (h : InVals w A n c vs) (hok : BlockOk vs) (hx : x = wd) (hwd : wd ≤ 31) :
    Calls Try.prog 58 #[.slice A n c, .int .i64 x] w fun e w' => MadeBytes w (encL vs wd) e w' := by
  subst hx
  have H := Aside0.mk h
  have HOK := Aside0.mk hok
  have hn : n ≤ 128 := by rw [← h.1]; exact hok.1
  have HN := Aside0.mk h.1
  clear h hok
  go_enter Try.func58, Try.ntmps58
  go_wp2_with fail
  refine (newWriter_any _).mono ?_
  rintro e w1 ⟨rfl, hw1⟩
  have HB1 := Aside0.mk (show Below w.heap.size w w1 from hw1 ▸ below_alloc (Below.refl _ _) _)
  have HW1 := Aside0.mk (show Wr w1 w.heap.size w.heap.size none [] from hw1 ▸ Wr_new w w.heap.size (Nat.le_refl _))
  clear hw1
  go_wp2_with fail
  go_loopw [6, 7, 8, 9, 10, 11, 16] (fun x6 x7 x8 _ _ _ i w' => ERel w wd vs x6 x7 x8 i w') (fun _ _ _ _ _ _ i _ => n - (intOf i).toNat)
  case atStart => exact ⟨⟨0, none, Nat.zero_le _, rfl, HW1.out, own_nil _ _ _ _, Apart.none _, rfl, rfl, HB1.out⟩⟩
  case round =>
    obtain ⟨k, row, hk, rfl, hw, ho, hap, rfl, rfl, hb⟩ := hrel.out
    rw [HN.out] at hk
    have HW := Aside0.mk hw
    have HO := Aside0.mk ho
    have HAP := Aside0.mk hap
    have HB := Aside0.mk hb
    have HI := Aside0.mk (H.out.below hb)
    have hz := hb.size
    obtain ⟨A6, c6, hx6⟩ := own_slice ho
    subst hx6
    clear hw ho hap hb HB1 HW1 hrel
    have HG := Aside0.mk (gapL_le wd (vs.take k) 1 (Nat.le_refl _))
    have HCN := Aside0.mk (cntL_le wd (vs.take k))
    have hexl : (excL wd 1 (vs.take k)).length ≤ 2560 := by
      have := excL_len wd (vs.take k) (fun v hv => by have := HOK.out.2 v (List.mem_of_mem_take hv); omega) 1 (by rw [List.length_take]; omega)
      rw [List.length_take] at this
      omega
    have hlol : (lowsL wd (vs.take k)).length ≤ 3968 := by
      rw [lowsL_length, List.length_take]
      have : min k vs.length * wd ≤ 128 * 31 := Nat.mul_le_mul (by omega) hwd
      omega
    obtain ⟨g, hg⟩ : ∃ g, g = gapL wd 1 (vs.take k) := ⟨_, rfl⟩
    obtain ⟨cn, hcn⟩ : ∃ cn, cn = cntL wd (vs.take k) := ⟨_, rfl⟩
    obtain ⟨E, hE⟩ : ∃ E, E = excL wd 1 (vs.take k) := ⟨_, rfl⟩
    obtain ⟨L, hL⟩ : ∃ L, L = lowsL wd (vs.take k) := ⟨_, rfl⟩
    rw [← hg] at HG ⊢
    rw [← hcn] at HCN ⊢
    rw [← hE] at HO hexl
    try rw [← hE] at HAP
    try rw [← hE]
    rw [← hL] at HW hlol
    have HGe := Aside0.mk hg
    have HCe := Aside0.mk hcn
    have HEe := Aside0.mk hE
    have HLe := Aside0.mk hL
    have hg1 : 1 ≤ g := HG.out.1
    have hg2 : g ≤ 129 := by have := HG.out.2; rw [List.length_take] at this; omega
    have hcn2 : cn ≤ 128 := by have := HCN.out; rw [List.length_take] at this; omega
    clear hg hcn hE hL
    by_cases hlt : k < n
    · obtain ⟨ad, hA, hcell⟩ := (Kd.reads_of_C (d := (0 : Int)) HI.out.2.2).2.2 (by rw [ints_length, HN.out]; omega)
      subst hA
      have hck := hcell k (by rw [ints_length, HN.out]; omega)
      rw [ints_getD] at hck
      obtain ⟨v, hv⟩ : ∃ v, v = vs.getD k 0 := ⟨_, rfl⟩
      have hvlt : v < 2147483648 := hv ▸ getD_lt HOK.out k
      rw [← hv] at hck
      have HTS := Aside0.mk (hv ▸ take_snoc vs k 0 (by rw [HN.out]; exact hlt) : vs.take (k + 1) = vs.take k ++ [v])
      clear hcell hv
      go_wp2_with fail
      rw [mask_walk v wd hwd hvlt]
      have hml : v % 2 ^ wd < 2 ^ wd := Nat.mod_lt _ (Nat.two_pow_pos _)
      have hmv : v % 2 ^ wd < 18446744073709551616 := Nat.lt_of_le_of_lt (Nat.mod_le _ _) (by omega)
      have hmb : Lib.bitLen (v % 2 ^ wd) ≤ wd := (bitLen_le_iff _ _ hmv).2 hml
      have HLOW := Aside0.mk (lowL_mod v wd wd (Nat.le_refl _))
      obtain ⟨m, hm⟩ : ∃ m, m = v % 2 ^ wd := ⟨_, rfl⟩
      rw [← hm] at hmv hmb HLOW ⊢
      clear hm hml
      refine (bits_ok w.heap.size w.heap.size row L m wd _ HW.out (by omega) hmv (by omega) (by omega) (by omega)).mono ?_
      rintro e w2 ⟨rfl, row2, hw2, hwr2⟩
      rw [Int.toNat_natCast, HLOW.out] at hw2
      have HW2 := Aside0.mk hw2
      have HB2 := Aside0.mk (hwr2.below HB.out HB.out.size (Nat.le_refl _) (Half.row_base HW.out))
      have HO2 := Aside0.mk (hwr2.own HO.out (fun e => own_ne HO.out HW.out.choose_spec.1 (by decide) e.symm) HAP.out.or)
      have HAP2 := Aside0.mk (HAP.out.wrote hwr2 (own_lt HO.out))
      have hz2 := HB2.out.size
      clear hw2 hwr2 hmb hmv HW HO HAP
      obtain ⟨q, hq⟩ : ∃ q, q = v / 2 ^ wd := ⟨_, rfl⟩
      have hqlt : q < 2147483648 := hq ▸ Nat.lt_of_le_of_lt (Nat.div_le_self _ _) hvlt
      have hqv : (v : Int) / 2 ^ wd = (q : Int) := by rw [hq]; simp
      have HL2 : Aside0 (L ++ lowL v wd = lowsL wd (vs.take (k + 1))) := ⟨by rw [HTS.out, lowsL_snoc, HLe.out]⟩
      have HE2 : Aside0 ((E ++ if q = 0 then [] else uvL g ++ uvL q) = excL wd 1 (vs.take (k + 1))) := ⟨by rw [HTS.out, excL_snoc, HEe.out, HGe.out, hq]⟩
      have HG2 : Aside0 ((if q = 0 then g + 1 else 1) = gapL wd 1 (vs.take (k + 1))) := ⟨by rw [HTS.out, gapL_snoc, HGe.out, hq]⟩
      have HC2 : Aside0 (cn + (if q = 0 then 0 else 1) = cntL wd (vs.take (k + 1))) := ⟨by rw [HTS.out, cntL_snoc, HCe.out, hq]⟩
      rw [HL2.out] at HW2
      have hk1 : k + 1 ≤ vs.length := by rw [HN.out]; omega
      have HK1 := Aside0.mk hk1
      clear hq hk1
      by_cases hq0 : q = 0
      · subst hq0
        rw [if_pos rfl, List.append_nil] at HE2
        rw [if_pos rfl] at HG2
        rw [if_pos rfl, Nat.add_zero] at HC2
        go_wp2_with fail
        go_roundw
        case rel => exact ⟨⟨k + 1, row2, HK1.out, by go_num, HW2.out, by rw [← HE2.out]; exact HO2.out, HAP2.out, by rw [← HC2.out], by rw [← HG2.out]; exact congrArg (Value.int .i64) (by omega), HB2.out⟩⟩
        case measure => simp [intOf]; omega
      · rw [if_neg hq0, ← List.append_assoc] at HE2
        rw [if_neg hq0] at HG2
        rw [if_neg hq0] at HC2
        have hqpos : 0 < q := by omega
        clear hq0
        go_wp2_with fail
        refine (putUvarint_any A6 c6 E _ g w2 (own_C HO2.out).2 (own_C HO2.out).1 (by omega) (by omega) (by omega)).mono ?_
        rintro e w3 hm3
        obtain ⟨A3, c3, rfl, hc3, ho3, hC3, hb3⟩ := made_own hm3
        obtain ⟨E3, hE3⟩ : ∃ E3, E3 = E ++ uvL g := ⟨_, rfl⟩
        have hlen3 : E3.length ≤ 2570 := by
          have := uvL_len g (by omega)
          rw [hE3, List.length_append]; omega
        rw [← hE3] at ho3 hC3 hc3 HE2 ⊢
        have HO3 := Aside0.mk ho3
        have HC3 := Aside0.mk hC3
        have HB3 := Aside0.mk (below_step HB2.out hb3)
        have HW3 := Aside0.mk (Half.below HW2.out hb3)
        have hz3 := HB3.out.size
        clear hm3 ho3 hC3 hb3 hE3 HO2 HAP2 HB2 HW2
        go_wp2_with fail
        refine (putUvarint_any A3 c3 E3 _ q w3 HC3.out hc3 rfl (by omega) (by omega)).mono ?_
        rintro e w4 hm4
        obtain ⟨A4, c4, rfl, hc4, ho4, hC4, hb4⟩ := made_own hm4
        rw [HE2.out] at ho4 ⊢
        have HAP4 := Aside0.mk (Apart.fresh (Half.row_lt HW3.out) (own_base ho4))
        have HO4 := Aside0.mk (own_less ho4 hz3)
        have HB4 := Aside0.mk (below_step HB3.out hb4)
        have HW4 := Aside0.mk (Half.below HW3.out hb4)
        have hz4 := HB4.out.size
        clear hm4 ho4 hC4 hb4 HO3 HC3 HB3 HW3 hc3 hc4
        go_wp2_with fail
        go_roundw
        case rel => exact ⟨⟨k + 1, row2, HK1.out, by go_num, HW4.out, HO4.out, HAP4.out, by rw [← HC2.out]; exact congrArg (Value.int .i64) (by omega), by rw [← HG2.out]; exact congrArg (Value.int .i64) (by omega), HB4.out⟩⟩
        case measure => simp [intOf]; omega
    · have hkn : k = n := by omega
      subst hkn
      rw [List.take_of_length_le (by rw [HN.out]; exact Nat.le_refl _)] at HGe HCe HEe HLe
      clear HI HG HCN HGe H hk
      go_wp2_with fail
      refine (putUvarint_any none 0 [] _ k wr (own_C (own_nil wr wr.heap.size 5 1)).2 (Nat.le_refl _) rfl (by simp) (by omega)).mono ?_
      rintro e w1 hm1
      obtain ⟨A1, c1, rfl, hc1, ho1, hC1, hb1⟩ := made_own hm1
      rw [List.nil_append] at hc1 hC1 ⊢
      have hl1 := uvL_len k (by omega)
      obtain ⟨U1, hU1⟩ : ∃ U, U = uvL k := ⟨_, rfl⟩
      rw [← hU1] at hc1 hC1 hl1 ⊢
      have HU1 := Aside0.mk hU1
      have HC1 := Aside0.mk hC1
      have HB1 := Aside0.mk (below_step HB.out hb1)
      have HW1 := Aside0.mk (Half.below HW.out hb1)
      have HO1 := Aside0.mk (pw_own_below HO.out hb1)
      have hz1 := HB1.out.size
      clear hm1 ho1 hC1 hb1 hU1
      go_wp2_with fail
      refine (putUvarint_any A1 c1 U1 _ wd w1 HC1.out hc1 rfl (by omega) (by omega)).mono ?_
      rintro e w2 hm2
      obtain ⟨A2, c2, rfl, hc2, ho2, hC2, hb2⟩ := made_own hm2
      have hl2 : (U1 ++ uvL wd).length ≤ 20 := by
        have := uvL_len wd (by omega)
        rw [List.length_append]; omega
      obtain ⟨U2, hU2⟩ : ∃ U, U = U1 ++ uvL wd := ⟨_, rfl⟩
      rw [← hU2] at hc2 hC2 hl2 ⊢
      have HU2 := Aside0.mk hU2
      have HC2 := Aside0.mk hC2
      have HB2 := Aside0.mk (below_step HB1.out hb2)
      have HW2 := Aside0.mk (Half.below HW1.out hb2)
      have HO2 := Aside0.mk (pw_own_below HO1.out hb2)
      have hz2 := HB2.out.size
      clear hm2 ho2 hC2 hb2 hU2 HC1 HB1 HW1 HO1
      go_wp2_with fail
      refine (putUvarint_any A2 c2 U2 _ cn w2 HC2.out hc2 rfl (by omega) (by omega)).mono ?_
      rintro e w3 hm3
      obtain ⟨A3, c3, rfl, hc3, ho3, hC3, hb3⟩ := made_own hm3
      have hl3 : (U2 ++ uvL cn).length ≤ 30 := by
        have := uvL_len cn (by omega)
        rw [List.length_append]; omega
      obtain ⟨U3, hU3⟩ : ∃ U, U = U2 ++ uvL cn := ⟨_, rfl⟩
      rw [← hU3] at hc3 hl3 ho3 ⊢
      have HU3 := Aside0.mk hU3
      have HO3 := Aside0.mk ho3
      have HB3 := Aside0.mk hb3
      have HW3 := Aside0.mk (Half.below HW2.out hb3)
      have hz3 := hb3.size
      clear hm3 ho3 hC3 hb3 hU3 HW2
      go_wp2_with fail
      refine (bytes_any w.heap.size w.heap.size row L w3 HW3.out (by omega)).mono ?_
      rintro e w4 hm4
      obtain ⟨A4, c4, rfl, hc4, ho4, hC4, hb4⟩ := made_own hm4
      have hl4 : (packL L).length ≤ 4000 := by
        rw [packL_length]; omega
      obtain ⟨PL, hPL⟩ : ∃ U, U = packL L := ⟨_, rfl⟩
      rw [← hPL] at hc4 hl4 ho4 hC4 ⊢
      have HPL := Aside0.mk hPL
      have HR4 := Aside0.mk (Kd.reads_of_C (d := (0 : Int)) hC4)
      have HB4 := Aside0.mk (below_step HB3.out hb4)
      have HO4 := Aside0.mk (pw_own_below HO3.out hb4)
      have hz4 := HB4.out.size
      have hll : (U3 ++ PL).length ≤ 4030 := by rw [List.length_append]; omega
      obtain ⟨V, hV⟩ : ∃ U, U = U3 ++ PL := ⟨_, rfl⟩
      rw [← hV] at hll
      have HV := Aside0.mk hV
      obtain ⟨VE, hVE⟩ : ∃ U, U = V ++ E := ⟨_, rfl⟩
      have HVE := Aside0.mk hVE
      clear hm4 ho4 hC4 hb4 hPL hV hVE HW3 HO3 HB3
      go_wp2_with (first | (at_builtin; refine print_append_row (w0 := w2) w2.heap.size rfl (.tmp 61) (.tmp 63) 22 5 .u8 1 rfl Try.underlying22 Refs.info5 (by omega) (.slice A3 U3.length c3) U3 PL A4 _ c4 rfl rfl HO4.out HR4.out ?aB ?aS ?aL ?_; (case aB => exact HB4.out); (case aS => omega); (case aL => omega); intro v5 w5 hown hB5 hg5 hat5; rw [← HV.out] at hown; have HO5 := Aside0.mk hown; have HB5 := Aside0.mk hB5; obtain ⟨A5, c5, hv5⟩ := own_slice hown; subst hv5; have hz5 := hB5.size; have HR5 := Aside0.mk (Kd.reads_of_C (d := (0 : Int)) (Kd.C_below (own_C HO2.out).2 hB5)); clear hown hB5 hg5 hat5) | (at_builtin; refine print_append_row (w0 := w2) w2.heap.size rfl (.tmp 64) (.tmp 65) 22 5 .u8 1 rfl Try.underlying22 Refs.info5 (by omega) (.slice A5 V.length c5) V E A6 _ c6 rfl rfl HO5.out HR5.out ?aB ?aS ?aL ?_; (case aB => exact HB5.out); (case aS => omega); (case aL => omega); intro v6 w6 hown hB6 hg6 hat6; rw [← HVE.out] at hown; have HO6 := Aside0.mk hown; have HB6 := Aside0.mk hB6; obtain ⟨A6, c6, hv6⟩ := own_slice hown; subst hv6; have hz6 := hB6.size; clear hown hB6 hg6 hat6))
      go_ret
      refine ⟨_, rfl, ?_, below_step HB2.out HB6.out⟩
      have hfin : VE = encL vs wd := by
        rw [HVE.out, HV.out, HU3.out, HU2.out, HU1.out, HPL.out, HLe.out, HCe.out, HEe.out, ← HN.out]
        rfl
      rw [← hfin]
      exact Kd.R_lower (Kd.R_of_own HO6.out (fun _ _ => trivial)) hz2
end Go.Proofs.Ytbfnckjnpbgmaaa
