/- The walk of BitioSuffixes: the bits of calls do not depend on the bits before them. For at most 8 calls each. -/
import Derived.Test.YtbfnckjnpbgmaaaTwo
import Derived.Deep.RegionHeld3
namespace Go.Proofs.Ytbfnckjnpbgmaaa
open Go.RowKit Go.Proofs.YtbfnckjnpbgmaaaW.PrintWords Go.Proofs.YtbfnckjnpbgmaaaW.PrintLast Go.Proofs.YtbfnckjnpbgmaaaW.PrintMore
set_option linter.unusedVariables false

def SRel1 (w : World) (n : Nat) (cs : List CallT) (i : Value) (w' : World) : Prop :=
  ∃ (k : Nat) (r1 r2 : Option Nat), k ≤ n ∧ i = .int .i64 (k : Int) ∧ Two w' w.heap.size w.heap.size (w.heap.size + 1) r1 r2 (bitsOf (cs.take k)) [] ∧ Below w.heap.size w w'
def SRel2 (w : World) (n : Nat) (L : List Bool) (cs : List CallT) (i : Value) (w' : World) : Prop :=
  ∃ (k : Nat) (r1 r2 : Option Nat), k ≤ n ∧ i = .int .i64 (k : Int) ∧ Two w' w.heap.size w.heap.size (w.heap.size + 1) r1 r2 (L ++ bitsOf (cs.take k)) (bitsOf (cs.take k)) ∧ Below w.heap.size w w'

set_option maxHeartbeats 4000000 in
set_option maxRecDepth 100000 in
theorem suffixes_walk (A : Option Addr) (n c : Nat) (cs : List CallT) (A' : Option Addr) (n' c' : Nat) (cs' : List CallT) (w : World) (hin : InCalls w A n c cs) (hin' : InCalls w A' n' c' cs') :
    Calls Try.prog 11 #[.slice A n c, .slice A' n' c'] w fun e w' => e = .returned (.bool true) ∧ Below w.heap.size w w' := by
  have HIN := Aside0.mk hin
  have HIN' := Aside0.mk hin'
  clear hin hin'
  by_cases h8 : 8 < n
  · have d8 : decide (8 < (n : Int)) = true := by simp; omega
    clear h8
    go_enter Try.func11, Try.ntmps11
    go_wp2_with fail
    refine (newWriter_any _).mono ?_
    rintro e w1 ⟨rfl, hw1⟩
    have HB1 := Aside0.mk (show Below w.heap.size w w1 from hw1 ▸ below_alloc (Below.refl _ _) _)
    clear hw1
    go_wp2_with fail
    refine (newWriter_any _).mono ?_
    rintro e w2 ⟨rfl, hw2⟩
    have HB2 := Aside0.mk (show Below w.heap.size w w2 from hw2 ▸ below_alloc HB1.out _)
    clear hw2 HB1
    go_wp2_with fail
    go_ret
    exact ⟨rfl, HB2.out⟩
  · have d8 : decide (8 < (n : Int)) = false := by simp; omega
    by_cases h8' : 8 < n'
    · have d8' : decide (8 < (n' : Int)) = true := by simp; omega
      clear h8 h8'
      go_enter Try.func11, Try.ntmps11
      go_wp2_with fail
      refine (newWriter_any _).mono ?_
      rintro e w1 ⟨rfl, hw1⟩
      have HB1 := Aside0.mk (show Below w.heap.size w w1 from hw1 ▸ below_alloc (Below.refl _ _) _)
      clear hw1
      go_wp2_with fail
      refine (newWriter_any _).mono ?_
      rintro e w2 ⟨rfl, hw2⟩
      have HB2 := Aside0.mk (show Below w.heap.size w w2 from hw2 ▸ below_alloc HB1.out _)
      clear hw2 HB1
      go_wp2_with fail
      go_ret
      exact ⟨rfl, HB2.out⟩
    · have d8' : decide (8 < (n' : Int)) = false := by simp; omega
      have hn : n ≤ 8 := by omega
      have hn' : n' ≤ 8 := by omega
      clear h8 h8'
      obtain ⟨g2, hg2⟩ : ∃ g2, g2 = w.heap.size + 1 := ⟨_, rfl⟩
      go_enter Try.func11, Try.ntmps11
      go_wp2_with fail
      refine (newWriter_any _).mono ?_
      rintro e w1 ⟨rfl, hw1⟩
      have HB1 := Aside0.mk (show Below w.heap.size w w1 from hw1 ▸ below_alloc (Below.refl _ _) _)
      have HW1 := Aside0.mk (show Wr w1 w.heap.size w.heap.size none [] from hw1 ▸ Wr_new w w.heap.size (Nat.le_refl _))
      have HZ1 := Aside0.mk (show w1.heap.size = w.heap.size + 1 by rw [← hw1]; simp)
      clear hw1 hg2
      go_wp2_with fail
      refine (newWriter_any _).mono ?_
      rw [HZ1.out]
      rintro e w2 ⟨rfl, hw2⟩
      have HB2 := Aside0.mk (show Below w.heap.size w w2 from hw2 ▸ below_alloc HB1.out _)
      have HT2 : Aside0 (Two w2 w.heap.size w.heap.size (w.heap.size + 1) none none [] []) := ⟨by
        rw [← hw2]
        exact ⟨Half.below HW1.out (below_alloc (Below.refl _ _) _), HZ1.out ▸ Wr_new w1 w.heap.size HB1.out.size, by omega, fun k hk => by cases hk⟩⟩
      clear hw2 HB1 HW1 HZ1
      go_wp2_with fail
      go_loopw [8, 35] (fun cc i w' => SRel1 w n cs i w') (fun _ i _ => n - (intOf i).toNat)
      case atStart => exact ⟨0, none, none, Nat.zero_le _, rfl, HT2.out, HB2.out⟩
      case round =>
        obtain ⟨k, r1, r2, hk, rfl, ht, hb⟩ := hrel
        have HT := Aside0.mk ht
        have HB := Aside0.mk hb
        have HC := Aside0.mk (HIN.out.below hb)
        have hz := hb.size
        clear ht hb HB2 HT2
        by_cases hlt : k < n
        · obtain ⟨x, ⟨q0, q1, q2⟩, hA, hq, hqok, hat⟩ := HC.out.at_ hlt
          subst hA
          obtain ⟨hc0, hc1, hc2⟩ := hat
          have HQ := Aside0.mk hq
          obtain ⟨hq1, hq2⟩ := hqok
          clear hq hq2
          simp only at hc0 hc1 hc2 hq1
          have hlen : (bitsOf (cs.take k)).length ≤ 32776 := by
            have := bitsOf_take_len cs HIN.out.2.2.1 k
            rw [HIN.out.1] at this
            omega
          have HNEXT := Aside0.mk (bitsOf_succ cs k _ HQ.out)
          go_wp2_with fail
          refine (write_any w.heap.size w.heap.size r1 _ q0 q2 _ q1 _ (Half.below HT.out.one (below_alloc (Below.refl _ _) _)) rfl (by omega) hq1).mono ?_
          rintro e w3 ⟨rfl, r3, hw3, hwr3⟩
          have HT3 := Aside0.mk ((HT.out.below (below_alloc (Below.refl _ _) _)).first hwr3 hw3)
          have HB3 := Aside0.mk (hwr3.below (below_alloc HB.out _) (by simp; omega) (Nat.le_refl _) (Half.row_base HT.out.one))
          clear hw3 hwr3
          go_wp2_with fail
          go_roundw
          case rel => exact ⟨k + 1, r3, r2, by omega, by go_num, by rw [HNEXT.out]; exact HT3.out, HB3.out⟩
          case measure => simp [intOf]; omega
        · have hkn : k = n := by omega
          subst hkn
          have hlen : (bitsOf cs).length ≤ 32776 := by
            have := bitsOf_len cs HIN.out.2.2.1
            rw [HIN.out.1] at this
            omega
          rw [List.take_of_length_le (by rw [HIN.out.1]; exact Nat.le_refl _)] at HT
          obtain ⟨L, hL⟩ : ∃ L, L = bitsOf cs := ⟨_, rfl⟩
          rw [← hL] at HT hlen
          clear HC hL
          go_wp2_with fail
          refine (len_any w.heap.size w.heap.size r1 _ _ HT.out.one).mono ?_
          rintro e w4 ⟨rfl, rfl⟩
          go_wp2_with fail
          obtain ⟨wo, rfl⟩ : ∃ wo : World, wo = wr := ⟨_, rfl⟩
          go_loopw [11, 47] (fun cc i w' => SRel2 w n' L cs' i w') (fun _ i _ => n' - (intOf i).toNat)
          case atStart => exact ⟨0, r1, r2, Nat.zero_le _, rfl, by simpa [bitsOf] using HT.out, HB.out⟩
          case round =>
            obtain ⟨j, s1, s2, hj, rfl, ht, hb⟩ := hrel
            have HT4 := Aside0.mk ht
            have HB4 := Aside0.mk hb
            have HC := Aside0.mk (HIN'.out.below hb)
            have hz := hb.size
            clear ht hb HT HB
            by_cases hlt : j < n'
            · obtain ⟨x, ⟨q0, q1, q2⟩, hA, hq, hqok, hat⟩ := HC.out.at_ hlt
              subst hA
              obtain ⟨hc0, hc1, hc2⟩ := hat
              have HQ := Aside0.mk hq
              obtain ⟨hq1, hq2⟩ := hqok
              clear hq hq2
              simp only at hc0 hc1 hc2 hq1
              have hlenb : (bitsOf (cs'.take j)).length ≤ 32776 := by
                have := bitsOf_take_len cs' HIN'.out.2.2.1 j
                rw [HIN'.out.1] at this
                omega
              have hlen1 : (L ++ bitsOf (cs'.take j)).length ≤ 65552 := by rw [List.length_append]; omega
              have HNEXT := Aside0.mk (bitsOf_succ cs' j _ HQ.out)
              go_wp2_with fail
              have hT5 := HT4.out.below (below_alloc (Below.refl _ _) (.cells #[.int .i64 q0, .int .u64 q1, .int .i64 q2] 57))
              have hB5 := below_alloc HB4.out (.cells #[.int .i64 q0, .int .u64 q1, .int .i64 q2] 57)
              have hK5 := blk_new wr (.cells #[.int .i64 q0, .int .u64 q1, .int .i64 q2] 57)
              clear hc0 hc1 hc2
              generalize wr.alloc (.cells #[.int .i64 q0, .int .u64 q1, .int .i64 q2] 57) = W0 at hT5 hB5 hK5 ⊢
              generalize wr.heap.size = gc at hK5 hz ⊢
              have HT5 := Aside0.mk hT5
              have HB5 := Aside0.mk hB5
              have HK5 := Aside0.mk hK5
              have hd0 := blk_cell hK5 0
              have hd1 := blk_cell hK5 1
              have hd2 := blk_cell hK5 2
              simp at hd0 hd1 hd2
              clear hT5 hB5 hK5
              go_region_held3 (fun w' => w'.cell? ⟨gc, 0, none⟩ = some (.int .i64 q0) ∧ w'.cell? ⟨gc, 1, none⟩ = some (.int .u64 q1) ∧ w'.cell? ⟨gc, 2, none⟩ = some (.int .i64 q2))
                (first | go_keep | exact ⟨by assumption, by assumption, by assumption⟩)
                (first
                  | (go_at_call 39; (with_reducible refine (write_any w.heap.size w.heap.size s1 (L ++ bitsOf (cs'.take j)) q0 q2 _ q1 _ (HT5.out.drew).one rfl (by omega) hq1).mono ?_); rintro e w5 ⟨rfl, s3, hw5, hwr5⟩; have HT6 := Aside0.mk ((HT5.out.drew).first hwr5 hw5); have HB6 := Aside0.mk (hwr5.below HB5.out.drew HB5.out.size (Nat.le_refl _) (Half.row_base HT5.out.one)); have hK6 := blk_wrote HT5.out.drew.one hwr5 HK5.out (by decide) (by decide); have HK6 := Aside0.mk hK6; have he0 := blk_cell hK6 0; have he1 := blk_cell hK6 1; have he2 := blk_cell hK6 2; simp at he0 he1 he2; clear hK6 hw5 hwr5)
                  | (go_at_call 39; (with_reducible refine (write_any w.heap.size (w.heap.size + 1) s2 (bitsOf (cs'.take j)) q0 q2 _ q1 _ HT6.out.two rfl (by omega) hq1).mono ?_); rintro e w6 ⟨rfl, s4, hw6, hwr6⟩; have HT7 := Aside0.mk (HT6.out.second hwr6 hw6); have HB7 := Aside0.mk (hwr6.below HB6.out HB6.out.size (Nat.le_succ _) (Half.row_base HT6.out.two)); have hK7 := blk_wrote HT6.out.two hwr6 HK6.out (by decide) (by decide); have hf0 := blk_cell hK7 0; have hf1 := blk_cell hK7 1; have hf2 := blk_cell hK7 2; simp at hf0 hf1 hf2; clear hK7 hw6 hwr6))
              go_wp2_with fail
              go_roundw
              case rel => exact ⟨j + 1, s3, s4, by omega, by go_num, by rw [HNEXT.out, ← List.append_assoc]; exact HT7.out, HB7.out⟩
              case measure => simp [intOf]; omega
            · have hjn : j = n' := by omega
              subst hjn
              rw [List.take_of_length_le (by rw [HIN'.out.1]; exact Nat.le_refl _)] at HT4
              obtain ⟨M, hM⟩ : ∃ M, M = bitsOf cs' := ⟨_, rfl⟩
              have hlenM : M.length ≤ 32776 := by
                have := bitsOf_len cs' HIN'.out.2.2.1
                rw [HIN'.out.1, ← hM] at this
                omega
              obtain ⟨LM, hLM⟩ : ∃ LM, LM = L ++ M := ⟨_, rfl⟩
              rw [← hM, ← hLM] at HT4
              have hLMl : LM.length = L.length + M.length := by rw [hLM, List.length_append]
              have hlenLM : LM.length ≤ 70000 := by omega
              have HE1 : Aside0 ((LM.length : Int) = (L.length : Int) + (M.length : Int)) := ⟨by omega⟩
              have HP1 := Aside0.mk (packL_length LM)
              have HP2 := Aside0.mk (packL_length M)
              have HLM := Aside0.mk hLM
              have HLMl := Aside0.mk hLMl
              clear HC hM hLM hLMl
              go_wp2_with fail
              refine (bytes_any w.heap.size w.heap.size s1 _ _ HT4.out.one (by omega)).mono ?_
              rintro e w5 ⟨v5, rfl, hr5, hb5⟩
              obtain ⟨A5, c5, hv5, hl5, hC5⟩ := Kd.R_reads hr5
              subst hv5
              have HC5 := Aside0.mk hC5
              have HL5 := Aside0.mk hl5
              have HB5 := Aside0.mk (below_step HB4.out hb5)
              have HT5 := Aside0.mk (HT4.out.below hb5)
              clear hr5 hb5 hl5 hC5 HT4 HB4
              go_wp2_with fail
              refine (bytes_any w.heap.size (w.heap.size + 1) s2 _ _ HT5.out.two (by omega)).mono ?_
              rintro e w6 ⟨v6, rfl, hr6, hb6⟩
              obtain ⟨A6, c6, hv6, hl6, hC6⟩ := Kd.R_reads hr6
              subst hv6
              have HC6 := Aside0.mk hC6
              have HL6 := Aside0.mk hl6
              have HC56 := Aside0.mk (Kd.C_below HC5.out hb6)
              have HB6 := Aside0.mk (below_step HB5.out hb6)
              have HT6 := Aside0.mk (HT5.out.below hb6)
              clear hr6 hb6 hl6 hC6 HT5 HB5 HC5
              obtain ⟨P1, hP1⟩ : ∃ P1, P1 = packL LM := ⟨_, rfl⟩
              obtain ⟨P2, hP2⟩ : ∃ P2, P2 = packL M := ⟨_, rfl⟩
              have HP1' := Aside0.mk hP1
              have HP2' := Aside0.mk hP2
              have HPB1 : Aside0 (IsBytes P1) := ⟨hP1 ▸ packL_bytes LM⟩
              have HPB2 : Aside0 (IsBytes P2) := ⟨hP2 ▸ packL_bytes M⟩
              rw [← hP1] at HC56 HL5 HP1 ⊢
              rw [← hP2] at HC6 HL6 HP2 ⊢
              have f1 : ((P1.length : Int) != ((LM.length : Int) + 7) / 8) = false := by have := HP1.out; rw [bne_eq_false_iff_eq]; omega
              have f2 : ((P2.length : Int) != ((M.length : Int) + 7) / 8) = false := by have := HP2.out; rw [bne_eq_false_iff_eq]; omega
              have f3 : ((LM.length : Int) != (L.length : Int) + (M.length : Int)) = false := by rw [bne_eq_false_iff_eq]; exact HE1.out
              clear hP1 hP2
              go_wp2_with fail
              refine (len_any w.heap.size w.heap.size s1 _ _ HT6.out.one).mono ?_
              rintro e w7 ⟨rfl, rfl⟩
              go_wp2_with fail
              refine (len_any w.heap.size (w.heap.size + 1) s2 _ _ HT6.out.two).mono ?_
              rintro e w8 ⟨rfl, rfl⟩
              go_wp2_with fail
              refine (len_any w.heap.size w.heap.size s1 _ _ HT6.out.one).mono ?_
              rintro e w9 ⟨rfl, rfl⟩
              go_wp2_with fail
              refine (len_any w.heap.size (w.heap.size + 1) s2 _ _ HT6.out.two).mono ?_
              rintro e w8 ⟨rfl, rfl⟩
              go_wp2_with fail
              refine (len_any w.heap.size w.heap.size s1 _ _ HT6.out.one).mono ?_
              rintro e w9 ⟨rfl, rfl⟩
              go_wp2_with fail
              refine (unpackRef_any A5 c5 P1 _ LM.length _ HC56.out HL5.out rfl HPB1.out (by have := HP1.out; omega) (by omega)).mono ?_
              rintro e w10 ⟨v10, rfl, hr10, hb10⟩
              rw [HP1'.out, unpackL_packL] at hr10
              obtain ⟨A10, c10, hv10, hl10, hC10⟩ := Kd.R_reads hr10
              subst hv10
              have HC10 := Aside0.mk hC10
              have HL10 := Aside0.mk hl10
              have HC610 := Aside0.mk (Kd.C_below HC6.out hb10)
              have HB10 := Aside0.mk (below_step HB6.out hb10)
              have HT10 := Aside0.mk (HT6.out.below hb10)
              clear hr10 hb10 hl10 hC10 HT6 HB6 HC6
              go_wp2_with fail
              refine (len_any w.heap.size (w.heap.size + 1) s2 _ _ HT10.out.two).mono ?_
              rintro e w8 ⟨rfl, rfl⟩
              go_wp2_with fail
              refine (unpackRef_any A6 c6 P2 _ M.length _ HC610.out HL6.out rfl HPB2.out (by have := HP2.out; omega) (by omega)).mono ?_
              rintro e w11 ⟨v11, rfl, hr11, hb11⟩
              rw [HP2'.out, unpackL_packL] at hr11
              obtain ⟨A11, c11, hv11, hl11, hC11⟩ := Kd.R_reads hr11
              subst hv11
              have HC11 := Aside0.mk hC11
              have HC1011 := Aside0.mk (Kd.C_below HC10.out hb11)
              have HB11 := Aside0.mk (below_step HB10.out hb11)
              clear hr11 hb11 hl11 hC11 HT10 HB10 HC10 f1 f2 f3
              go_wp2_with fail
              go_loopw [16, 98] (fun _ i w' => ∃ k : Nat, k ≤ M.length ∧ i = .int .i64 (k : Int) ∧ Aside0 (Below w.heap.size w w') ∧ Aside0 (Kd.C Kd.bool w' A10 LM.length LM) ∧ Aside0 (Kd.C Kd.bool w' A11 M.length M)) (fun _ i _ => M.length - (intOf i).toNat)
              case atStart => exact ⟨0, Nat.zero_le _, rfl, HB11, HC1011, HC11⟩
              case round =>
                obtain ⟨i, hi, rfl, HB12, HC12, HC13⟩ := hrel
                clear HB11 HC1011 HC11
                by_cases hlt : i < M.length
                · have hlt2 : L.length + i < LM.length := by rw [HLMl.out]; omega
                  obtain ⟨a1, hA1, hg1⟩ := (Kd.reads_of_C (d := false) HC12.out).2.2 (by omega)
                  obtain ⟨a2, hA2, hg2⟩ := (Kd.reads_of_C (d := false) HC13.out).2.2 (by omega)
                  subst hA1 hA2
                  have hh1 := hg1 (L.length + i) hlt2
                  have hh2 := hg2 i hlt
                  have HV : Aside0 (LM.getD (L.length + i) false = M.getD i false) := ⟨by rw [HLM.out]; exact unpack_pre L M i hlt⟩
                  rw [HV.out] at hh1
                  have hx1 : (0 : Int) ≤ (L.length : Int) + (i : Int) := by omega
                  have hx2 : (L.length : Int) + (i : Int) < (LM.length : Int) := by omega
                  have hx3 : (i : Int) < (M.length : Int) := by omega
                  have hx4 : ((L.length : Int) + (i : Int)).toNat = L.length + i := by omega
                  generalize M.getD i false = bv at hh1 hh2
                  clear hg1 hg2 HE1
                  go_wp2_with fail
                  go_quiet (fail)
                  go_wp2_with fail
                  go_roundw
                  case rel => exact ⟨i + 1, by omega, by go_num, ⟨pw_below_drewN HB12.out _⟩, ⟨Kd.C_drewN HC12.out _⟩, ⟨Kd.C_drewN HC13.out _⟩⟩
                  case measure => simp [intOf]; omega
                · go_wp2_with fail
                  refine (awake_any _).mono ?_
                  rintro e w14 ⟨rfl, hb14⟩
                  have HB14 := Aside0.mk (below_step HB12.out hb14)
                  clear hb14
                  go_wp2_with fail
                  go_ret
                  exact ⟨rfl, HB14.out⟩
end Go.Proofs.Ytbfnckjnpbgmaaa
