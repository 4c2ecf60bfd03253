/- The walk of BlockBounds: how many bytes a block of numbers below 2^w needs at most, and with one greater number among them. For every list of numbers. -/
import Derived.Test.YtbfnckjnpbgmaaaLst
import Derived.Test.YtbfnckjnpbgmaaaBnl
import Derived.BigQuiet
import Derived.IntWalk
import Derived.Deep.QuietTactic
namespace Go.Proofs.Ytbfnckjnpbgmaaa
open Go.RowKit Go.Proofs.YtbfnckjnpbgmaaaW.PrintWords Go.Proofs.YtbfnckjnpbgmaaaW.PrintLast Go.Proofs.YtbfnckjnpbgmaaaW.PrintMore
set_option linter.unusedVariables false

/-- A row of the call's own as numbers that are read. -/
theorem own_ints {w : World} {base n m c : Nat} {A : Option Addr} {l : List Int} (h : w.ownsRow base 3 1 (.slice A m c) m (nums .i64 l)) (hl : l.length = m) (hm : m = n) : InInts w A n c l := by
  subst hm hl
  have h1 : Kd.R (Kd.int .i64) 3 w base (fun _ => True) (.slice A l.length c) l := Kd.R_of_own h (fun _ _ => trivial)
  obtain ⟨h2, h3⟩ := (Kd.R_reads' h1).2
  exact ⟨rfl, h2, h3⟩

def DRel (w : World) (vs : List Nat) (x : Nat) (i : Value) (w' : World) : Prop := ∃ k : Nat, k ≤ vs.length ∧ i = .int .i64 (k : Int) ∧ (∀ j, j < k → vs.getD j 0 / 2 ^ x = 0) ∧ Below w.heap.size w w'

set_option maxHeartbeats 4000000 in
set_option maxRecDepth 100000 in
theorem bounds_walk (A : Option Addr) (n c : Nat) (l : List Int) (x p gr : Int) (w : World) (h : InInts w A n c l) (hp1 : -9223372036854775808 ≤ p) (hp2 : p ≤ 9223372036854775807) :
    Calls Try.prog 12 #[.slice A n c, .int .i64 x, .agg #[.int .i64 p, .int .i64 gr]] w fun e w' => e = .returned (.bool true) ∧ Below w.heap.size w w' := by
  have H := Aside0.mk h
  clear h
  have hB0 := below_alloc (Below.refl w.heap.size w) (.cells #[.int .i64 p, .int .i64 gr] 67)
  have hK0 := blk_new w (.cells #[.int .i64 p, .int .i64 gr] 67)
  go_enter Try.func12, Try.ntmps12
  go_wp2_with fail
  obtain ⟨W0, hW0⟩ : ∃ W0, W0 = w.alloc (.cells #[.int .i64 p, .int .i64 gr] 67) := ⟨_, rfl⟩
  rw [← hW0] at hB0 hK0 ⊢
  clear hW0
  have HB0 := Aside0.mk hB0
  have hc0 := blk_cell hK0 0
  have hc1 := blk_cell hK0 1
  simp at hc0 hc1
  clear hB0 hK0
  go_quiet (fail)
  go_wp2_with fail
  have HI0 := Aside0.mk (H.out.below (pw_below_drewN HB0.out nq))
  have HBD := Aside0.mk (pw_below_drewN HB0.out nq)
  generalize W0.drewN nq = WD at HI0 HBD ⊢
  clear HB0 hc0 hc1
  refine (checkRef_any A n c _ WD HI0.out).mono ?_
  rintro e w1 ⟨rfl, hb1⟩
  have HB1 := Aside0.mk (below_step HBD.out hb1)
  have HI1 := Aside0.mk (HI0.out.below hb1)
  clear hb1 HI0 HBD
  by_cases hc : checkV l = 0
  · obtain ⟨vs, rfl, hok⟩ := checkV_ok hc
    have HOK := Aside0.mk hok
    rw [hc]
    have HCH := Aside0.mk hc
    clear hc hok
    by_cases h1 : x < 0
    · go_wp2_with fail
      go_ret
      exact ⟨rfl, HB1.out⟩
    by_cases h2 : 31 < x
    · go_wp2_with fail
      go_ret
      exact ⟨rfl, HB1.out⟩
    by_cases h3 : gr < 0
    · go_wp2_with fail
      go_ret
      exact ⟨rfl, HB1.out⟩
    by_cases h4 : 2147483647 < gr
    · go_wp2_with fail
      go_ret
      exact ⟨rfl, HB1.out⟩
    obtain ⟨X, rfl⟩ : ∃ X : Nat, x = X := ⟨x.toNat, by omega⟩
    obtain ⟨G, rfl⟩ : ∃ G : Nat, gr = G := ⟨gr.toNat, by omega⟩
    have hX : X ≤ 31 := by omega
    have hG : G < 2147483648 := by omega
    have HN := Aside0.mk (HI1.out.vals.1)
    have hn : n ≤ 128 := by rw [← HN.out]; exact HOK.out.1
    clear h1 h2 h3 h4
    go_wp2_with fail
    go_loopw [10, 43] (fun _ i w' => DRel w vs X i w') (fun _ i _ => n - (intOf i).toNat)
    case atStart => exact ⟨0, by omega, rfl, fun j hj => absurd hj (by omega), HB1.out⟩
    case round =>
      obtain ⟨k, hk, rfl, hall, hb⟩ := hrel
      rw [HN.out] at hk
      have HALL := Aside0.mk hall
      have HB := Aside0.mk hb
      clear hall hb
      have HI := Aside0.mk (H.out.below HB.out)
      by_cases hlt : k < n
      · obtain ⟨ad, hA, hcell⟩ := (Kd.reads_of_C (d := (0 : Int)) HI.out.2.2).2.2 (by rw [ints_length, HN.out]; omega)
        subst hA
        have hck := hcell k (by rw [ints_length, HN.out]; omega)
        rw [ints_getD] at hck
        obtain ⟨v, hv⟩ : ∃ v, v = vs.getD k 0 := ⟨_, rfl⟩
        have HV := Aside0.mk hv
        have hvlt : v < 2147483648 := hv ▸ getD_lt HOK.out k
        rw [← hv] at hck
        clear hcell hv
        obtain ⟨q, hq⟩ : ∃ q, q = v / 2 ^ X := ⟨_, rfl⟩
        have hqv : (v : Int) / 2 ^ X = (q : Int) := by rw [hq]; simp
        have HQ := Aside0.mk hq
        clear hq
        by_cases hq0 : q = 0
        · go_wp2_with fail
          go_roundw
          case rel =>
            refine ⟨k + 1, by rw [HN.out]; omega, by go_num, fun j hj => ?_, HB.out⟩
            rcases Nat.lt_or_ge j k with h | h
            · exact HALL.out j h
            · have : j = k := by omega
              subst this
              rw [← HV.out, ← HQ.out, hq0]
          case measure => simp [intOf]; omega
        · go_wp2_with fail
          go_ret
          exact ⟨rfl, HB.out⟩
      · have hkn : k = n := by omega
        have HS : Aside0 (Small X vs) := ⟨small_take (by rw [HN.out, ← hkn]; exact HALL.out)⟩
        clear hkn
        have hpl : n * X ≤ 128 * 31 := Nat.mul_le_mul hn hX
        obtain ⟨P, hP⟩ : ∃ P, P = n * X := ⟨_, rfl⟩
        obtain ⟨Q, hQ⟩ : ∃ Q, Q = (P + 7) / 8 := ⟨_, rfl⟩
        obtain ⟨E, hE⟩ : ∃ E, E = encL vs (bestL vs) := ⟨_, rfl⟩
        have HPV : Aside0 (packV (ints vs) = E) := ⟨by rw [packV_ints HOK.out, hE]⟩
        have HBD : Aside0 (boundL n X = 3 + Q + (if n = 128 then 1 else 0)) := ⟨by unfold boundL; rw [hQ, hP]⟩
        have hEl : E.length ≤ 3 + Q + (if n = 128 then 1 else 0) := by rw [← HBD.out, hE, ← HN.out]; exact enc_small vs X HOK.out hX HS.out
        have hQ3 : Q ≤ 500 := by rw [← hP] at hpl; omega
        have hP3 : P ≤ 3968 := by rw [← hP] at hpl; exact hpl
        have hm1 : IntKind.i64.wrap ((n : Int) * (X : Int)) = (P : Int) := by rw [hP, IntKind.wrap_i64]; rw [← hP] at hpl; rw [← Int.natCast_mul, ← hP]; omega
        have hm2 : Int.tdiv ((P : Int) + 7) 8 = (Q : Int) := by rw [Int.tdiv_eq_ediv_of_nonneg (by omega), hQ]; omega
        clear hE hQ hP hpl
        by_cases h128 : n = 128
        · rw [if_pos h128] at hEl HBD
          subst h128
          obtain ⟨M, hM⟩ : ∃ M, M = 3 + Q + 1 := ⟨_, rfl⟩
          rw [← hM] at hEl HBD
          have hm1' : IntKind.i64.wrap (128 * (X : Int)) = (P : Int) := by simpa using hm1
          clear hm1
          have hm1 := hm1'
          clear hm1'
          have hm0 : IntKind.i64.wrap ((P : Int) + 7) = (P : Int) + 7 := IntWalk.i64_in _ (by omega)
          have hm3 : IntKind.i64.wrap (Q : Int) = (Q : Int) := IntWalk.i64_in _ (by omega)
          have hm4 : IntKind.i64.wrap (3 + (Q : Int)) = 3 + (Q : Int) := IntWalk.i64_in _ (by omega)
          have hm5 : IntKind.i64.wrap (3 + (Q : Int) + 1) = (M : Int) := by rw [IntWalk.i64_in _ (by omega)]; omega
          have hM5 : M ≤ 504 := by omega
          clear hM
          go_wp2_with fail
          refine (pack_any A 128 c _ _ HI.out).mono ?_
          rintro e w2 ⟨v2, rfl, hr2, hb2⟩
          rw [HPV.out] at hr2
          rw [HCH.out]
          obtain ⟨A2, c2, hv2, hl2, hC2⟩ := Kd.R_reads hr2
          subst hv2
          have HB2 := Aside0.mk (below_step HB.out hb2)
          have HI2 := Aside0.mk (HI.out.below hb2)
          clear hr2 hb2 hC2 hlt
          by_cases hp0 : p < 0
          · go_wp2_with fail
            refine (awakeB_any w2).mono ?_
            rintro e w3 ⟨rfl, hb3⟩
            have HB3 := Aside0.mk (below_step HB2.out hb3)
            clear hb3
            go_wp2_with fail
            go_ret
            exact ⟨rfl, HB3.out⟩
          by_cases hpn : (128 : Int) ≤ p
          · go_wp2_with fail
            refine (awakeB_any w2).mono ?_
            rintro e w3 ⟨rfl, hb3⟩
            have HB3 := Aside0.mk (below_step HB2.out hb3)
            clear hb3
            go_wp2_with fail
            go_ret
            exact ⟨rfl, HB3.out⟩
          obtain ⟨a, rfl⟩ : ∃ a : Nat, p = a := ⟨p.toNat, by omega⟩
          have han : a < 128 := by omega
          clear hp0 hpn hp1 hp2
          have hln : (ints vs).length = 128 := HI2.out.1
          have HR2 : Aside0 (ReadsInt w2 .i64 A 128 (ints vs)) := ⟨by have h := Kd.reads_of_C (d := (0 : Int)) HI2.out.2.2; rw [hln] at h; exact h⟩
          have HNIL := Aside0.mk (own_nil w2 w2.heap.size 3 1)
          go_wp2_with (at_builtin; refine print_append_row (w0 := w2) w2.heap.size rfl (.const (.slice none 0 0)) (.tmp 86) 40 3 .i64 8 rfl Try.underlying40 Refs.info3 (by omega) (.slice none 0 0) [] (ints vs) A 128 c rfl rfl HNIL.out HR2.out ?aB ?aS ?aL ?_; (case aB => exact Below.refl _ _); (case aS => omega); (case aL => simp <;> omega); intro v3 w3 hown hB3 hg3 hat3; rw [List.nil_append] at hown; have HO3 := Aside0.mk hown; have HB3 := Aside0.mk hB3; obtain ⟨g3, c3, hv3, hgb3, hgl3⟩ := hown.form (by rw [hln]; omega); subst hv3; have hat := own_at hown (a : Int) (by omega) (by rw [hln]; omega); rw [Int.toNat_natCast] at hat; obtain ⟨hcl3, hfr3⟩ := hat; have hln3 := hln; clear hown hB3 hg3 hat3)
          have hst := (own_store HO3.out (a : Int) (G : Int)).1
          rw [Int.toNat_natCast, ints_set] at hst
          have HB4 := Aside0.mk (HB3.out.setCell (p := ⟨g3, a, none⟩) hgb3 (.int .i64 G))
          have hi4 : InInts (w3.setCell ⟨g3, a, none⟩ (.int .i64 G)) (some ⟨g3, 0, none⟩) 128 c3 (ints (vs.set a G)) := own_ints hst (by rw [ints_length, List.length_set, ← ints_length]) hln3
          obtain ⟨F, hF⟩ : ∃ F, F = encL (vs.set a G) (bestL (vs.set a G)) := ⟨_, rfl⟩
          have HPF : Aside0 (packV (ints (vs.set a G)) = F) := ⟨by rw [packV_ints (ok_set vs G a HOK.out hG), hF]⟩
          have HCF := Aside0.mk (checkV_ints (ok_set vs G a HOK.out hG))
          have hFl : F.length ≤ M + 7 := by rw [← HBD.out, hF, ← HN.out]; exact enc_one vs X G a HOK.out hX HS.out hG (by rw [HN.out]; exact han)
          have HI4 := Aside0.mk hi4
          clear hst hi4 hF hcl3 hfr3 hgb3 hgl3 hln3
          generalize w3.setCell ⟨g3, a, none⟩ (.int .i64 G) = W4 at HI4 HB4 ⊢
          refine (pack_any _ 128 c3 _ W4 HI4.out).mono ?_
          rintro e w5 ⟨v5, rfl, hr5, hb5⟩
          rw [HPF.out] at hr5
          rw [HCF.out]
          obtain ⟨A5, c5, hv5, hl5, hC5⟩ := Kd.R_reads hr5
          subst hv5
          have HB5 := Aside0.mk (below_step HB2.out (below_step HB4.out hb5))
          clear hr5 hb5 hC5
          go_wp2_with fail
          refine (awakeB_any w5).mono ?_
          rintro e w6 ⟨rfl, hb6⟩
          have HB6 := Aside0.mk (below_step HB5.out hb6)
          clear hb6
          go_wp2_with fail
          go_ret
          exact ⟨rfl, HB6.out⟩
        · rw [if_neg h128] at hEl HBD
          obtain ⟨M, hM⟩ : ∃ M, M = 3 + Q + 0 := ⟨_, rfl⟩
          rw [← hM] at hEl HBD
          have hm0 : IntKind.i64.wrap ((P : Int) + 7) = (P : Int) + 7 := IntWalk.i64_in _ (by omega)
          have hm3 : IntKind.i64.wrap (Q : Int) = (Q : Int) := IntWalk.i64_in _ (by omega)
          have hm4 : IntKind.i64.wrap (3 + (Q : Int)) = (M : Int) := by rw [IntWalk.i64_in _ (by omega)]; omega
          have hM5 : M ≤ 504 := by omega
          clear hM
          go_wp2_with fail
          refine (pack_any A n c _ _ HI.out).mono ?_
          rintro e w2 ⟨v2, rfl, hr2, hb2⟩
          rw [HPV.out] at hr2
          rw [HCH.out]
          obtain ⟨A2, c2, hv2, hl2, hC2⟩ := Kd.R_reads hr2
          subst hv2
          have HB2 := Aside0.mk (below_step HB.out hb2)
          have HI2 := Aside0.mk (HI.out.below hb2)
          clear hr2 hb2 hC2 hlt
          by_cases hp0 : p < 0
          · go_wp2_with fail
            refine (awakeB_any w2).mono ?_
            rintro e w3 ⟨rfl, hb3⟩
            have HB3 := Aside0.mk (below_step HB2.out hb3)
            clear hb3
            go_wp2_with fail
            go_ret
            exact ⟨rfl, HB3.out⟩
          by_cases hpn : (n : Int) ≤ p
          · go_wp2_with fail
            refine (awakeB_any w2).mono ?_
            rintro e w3 ⟨rfl, hb3⟩
            have HB3 := Aside0.mk (below_step HB2.out hb3)
            clear hb3
            go_wp2_with fail
            go_ret
            exact ⟨rfl, HB3.out⟩
          obtain ⟨a, rfl⟩ : ∃ a : Nat, p = a := ⟨p.toNat, by omega⟩
          have han : a < n := by omega
          clear hp0 hpn hp1 hp2
          have hln : (ints vs).length = n := HI2.out.1
          have HR2 : Aside0 (ReadsInt w2 .i64 A n (ints vs)) := ⟨by have h := Kd.reads_of_C (d := (0 : Int)) HI2.out.2.2; rw [hln] at h; exact h⟩
          have HNIL := Aside0.mk (own_nil w2 w2.heap.size 3 1)
          go_wp2_with (at_builtin; refine print_append_row (w0 := w2) w2.heap.size rfl (.const (.slice none 0 0)) (.tmp 86) 40 3 .i64 8 rfl Try.underlying40 Refs.info3 (by omega) (.slice none 0 0) [] (ints vs) A n c rfl rfl HNIL.out HR2.out ?aB ?aS ?aL ?_; (case aB => exact Below.refl _ _); (case aS => omega); (case aL => simp <;> omega); intro v3 w3 hown hB3 hg3 hat3; rw [List.nil_append] at hown; have HO3 := Aside0.mk hown; have HB3 := Aside0.mk hB3; obtain ⟨g3, c3, hv3, hgb3, hgl3⟩ := hown.form (by rw [hln]; omega); subst hv3; have hat := own_at hown (a : Int) (by omega) (by rw [hln]; omega); rw [Int.toNat_natCast] at hat; obtain ⟨hcl3, hfr3⟩ := hat; have hln3 := hln; clear hown hB3 hg3 hat3)
          have hst := (own_store HO3.out (a : Int) (G : Int)).1
          rw [Int.toNat_natCast, ints_set] at hst
          have HB4 := Aside0.mk (HB3.out.setCell (p := ⟨g3, a, none⟩) hgb3 (.int .i64 G))
          have hi4 : InInts (w3.setCell ⟨g3, a, none⟩ (.int .i64 G)) (some ⟨g3, 0, none⟩) n c3 (ints (vs.set a G)) := own_ints hst (by rw [ints_length, List.length_set, ← ints_length]) hln3
          obtain ⟨F, hF⟩ : ∃ F, F = encL (vs.set a G) (bestL (vs.set a G)) := ⟨_, rfl⟩
          have HPF : Aside0 (packV (ints (vs.set a G)) = F) := ⟨by rw [packV_ints (ok_set vs G a HOK.out hG), hF]⟩
          have HCF := Aside0.mk (checkV_ints (ok_set vs G a HOK.out hG))
          have hFl : F.length ≤ M + 7 := by rw [← HBD.out, hF, ← HN.out]; exact enc_one vs X G a HOK.out hX HS.out hG (by rw [HN.out]; exact han)
          have HI4 := Aside0.mk hi4
          clear hst hi4 hF hcl3 hfr3 hgb3 hgl3 hln3
          generalize w3.setCell ⟨g3, a, none⟩ (.int .i64 G) = W4 at HI4 HB4 ⊢
          refine (pack_any _ n c3 _ W4 HI4.out).mono ?_
          rintro e w5 ⟨v5, rfl, hr5, hb5⟩
          rw [HPF.out] at hr5
          rw [HCF.out]
          obtain ⟨A5, c5, hv5, hl5, hC5⟩ := Kd.R_reads hr5
          subst hv5
          have HB5 := Aside0.mk (below_step HB2.out (below_step HB4.out hb5))
          clear hr5 hb5 hC5
          go_wp2_with fail
          refine (awakeB_any w5).mono ?_
          rintro e w6 ⟨rfl, hb6⟩
          have HB6 := Aside0.mk (below_step HB5.out hb6)
          clear hb6
          go_wp2_with fail
          go_ret
          exact ⟨rfl, HB6.out⟩
  · obtain ⟨q, hq⟩ : ∃ q, q = checkV l := ⟨_, rfl⟩
    rw [← hq] at hc ⊢
    clear hq
    go_wp2_with fail
    go_ret
    exact ⟨rfl, HB1.out⟩
end Go.Proofs.Ytbfnckjnpbgmaaa
