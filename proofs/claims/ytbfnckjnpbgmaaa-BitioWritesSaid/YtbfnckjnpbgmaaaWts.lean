/- The walk of BitioWrites: the error of each call, the number of bits, and the bytes are those of the reference. For at most 12 calls. -/
import Derived.Test.YtbfnckjnpbgmaaaCal
namespace Go.Proofs.Ytbfnckjnpbgmaaa
open Go.RowKit Go.Proofs.YtbfnckjnpbgmaaaW.PrintWords Go.Proofs.YtbfnckjnpbgmaaaW.PrintLast Go.Proofs.YtbfnckjnpbgmaaaW.PrintMore
set_option linter.unusedVariables false

def WRel (w : World) (A : Option Addr) (n c : Nat) (cs : List CallT) (vl i : Value) (w' : World) : Prop :=
  ∃ (k : Nat) (row : Option Nat), k ≤ n ∧ i = .int .i64 (k : Int) ∧ Wr w' w.heap.size w.heap.size row (bitsOf (cs.take k)) ∧
    w'.ownsRow w.heap.size 4 1 vl (bitsOf (cs.take k)).length (encs Value.bool (bitsOf (cs.take k))) ∧ Below w.heap.size w w'

set_option maxHeartbeats 2000000 in
set_option maxRecDepth 100000 in
theorem writes_walk (A : Option Addr) (n c : Nat) (cs : List CallT) (w : World) (hin : InCalls w A n c cs) :
    Calls Try.prog 10 #[.slice A n c] w fun e w' => e = .returned (.bool true) ∧ Below w.heap.size w w' := by
  have HIN := Aside0.mk hin
  clear hin
  by_cases h12 : 12 < n
  · go_enter Try.func10, Try.ntmps10
    go_wp2_with fail
    refine (newWriter_any _).mono ?_
    rintro e w1 ⟨rfl, hw1⟩
    have HB1 := Aside0.mk (show Below w.heap.size w w1 from hw1 ▸ below_alloc (Below.refl _ _) _)
    clear hw1
    go_wp2_with fail
    go_ret
    exact ⟨rfl, HB1.out⟩
  · have hn : n ≤ 12 := by omega
    clear h12
    go_enter Try.func10, Try.ntmps10
    go_wp2_with fail
    refine (newWriter_any _).mono ?_
    rintro e w1 ⟨rfl, hw1⟩
    have HB1 := Aside0.mk (show Below w.heap.size w w1 from hw1 ▸ below_alloc (Below.refl _ _) _)
    have HW1 := Aside0.mk (show Wr w1 w.heap.size w.heap.size none [] from hw1 ▸ Wr_new w w.heap.size (Nat.le_refl _))
    clear hw1
    go_wp2_with fail
    go_loopw [4, 6, 18] (fun vl cc i w' => WRel w A n c cs vl i w') (fun _ _ i _ => n - (intOf i).toNat)
    case atStart => exact ⟨0, none, Nat.zero_le _, rfl, HW1.out, own_nil _ _ _ _, HB1.out⟩
    case round =>
      obtain ⟨k, row, hk, rfl, hw, ho, hb⟩ := hrel
      have HW := Aside0.mk hw
      have HO := Aside0.mk ho
      have HB := Aside0.mk hb
      have HC := Aside0.mk (HIN.out.below hb)
      obtain ⟨A0, c0, hv0⟩ := own_slice ho
      subst hv0
      have hz := hb.size
      clear hw ho hb HB1 HW1
      obtain ⟨L, hL⟩ : ∃ L, L = bitsOf (cs.take k) := ⟨_, rfl⟩
      have hLl : L.length ≤ 49164 := by
        have := bitsOf_take_len cs HIN.out.2.2.1 k
        rw [HIN.out.1, ← hL] at this
        omega
      rw [← hL] at HW HO
      have HL := Aside0.mk hL
      rw [← hL]
      clear hL
      by_cases hlt : k < n
      · obtain ⟨x, ⟨q0, q1, q2⟩, hA, hq, hqok, hat⟩ := HC.out.at_ hlt
        subst hA
        obtain ⟨hc0, hc1, hc2⟩ := hat
        have HQ := Aside0.mk hq
        obtain ⟨hq1, hq2⟩ := hqok
        have HQ2 := Aside0.mk hq2
        clear hq hq2
        simp only at hc0 hc1 hc2 hq1
        obtain ⟨M, hM⟩ : ∃ M, M = (writeL q0 q1 q2).getD [] := ⟨_, rfl⟩
        obtain ⟨ok, hok⟩ : ∃ ok, ok = (writeL q0 q1 q2).isSome := ⟨_, rfl⟩
        have HM := Aside0.mk hM
        have HOK := Aside0.mk hok
        have HERR : Aside0 (errnoOf (writeL q0 q1 q2) = if ok = true then 0 else 1) := ⟨by rw [hok]; rfl⟩
        have hMl : M.length ≤ 4097 := by rw [hM]; exact callBits_len (q0, q1, q2) ⟨hq1, HQ2.out⟩
        obtain ⟨LM, hLM⟩ : ∃ LM, LM = L ++ M := ⟨_, rfl⟩
        have hLMl : LM.length ≤ 60000 := by rw [hLM, List.length_append]; omega
        have HLM := Aside0.mk hLM
        have HNEXT : Aside0 (LM = bitsOf (cs.take (k + 1))) := ⟨by rw [hLM, HL.out, hM, bitsOf_succ cs k _ HQ.out]; rfl⟩
        clear hM hok hLM
        cases ok with
        | true =>
          go_wp2_with fail
          refine (writeRef_any q0 q2 _ q1 _ rfl hq1).mono ?_
          rintro e w2 ⟨v2, rfl, hr2, hb2⟩
          rw [← HM.out] at hr2
          rw [← HOK.out]
          obtain ⟨A2, c2, hv2⟩ := Kd.R_slice hr2
          subst hv2
          have hbw := below_step (below_alloc (Below.refl _ _) _) hb2
          have HB2 := Aside0.mk (below_step HB.out hbw)
          have HW2 := Aside0.mk (Half.below HW.out hbw)
          have HO2 := Aside0.mk (pw_own_below HO.out hbw)
          have hblk := blk_below (blk_new wr _) hb2
          have hd0 := blk_cell hblk 0
          have hd1 := blk_cell hblk 1
          have hd2 := blk_cell hblk 2
          have HR2 := Aside0.mk hr2
          simp at hd0 hd1 hd2
          have hz2 := hbw.size
          have HRL := Aside0.mk (Half.row_lt HW.out)
          clear hr2 hb2 hbw hblk
          go_wp2_with fail
          refine (write_any w.heap.size w.heap.size row L q0 q2 _ q1 _ HW2.out rfl (by omega) hq1).mono ?_
          rintro e w3 ⟨rfl, row3, hw3, hwr3⟩
          rw [HERR.out]
          rw [← HM.out, ← HLM.out] at hw3
          have HW3 := Aside0.mk hw3
          have HB3 := Aside0.mk (hwr3.below HB2.out HB2.out.size (Nat.le_refl _) (Half.row_base HW2.out))
          have HO3 := Aside0.mk (hwr3.own HO2.out (Half.row_ne4 HW2.out HO2.out).1 (Half.row_ne4 HW2.out HO2.out).2.1)
          have HR3 := Aside0.mk (R_wrote HR2.out hwr3 (by simp; omega) (fun k hk => by have := HRL.out k hk; simp; omega))
          have HRD3 := Aside0.mk (Kd.reads_of_C (d := false) (Kd.R_reads' HR3.out).2.2)
          have hz3 := HB3.out.size
          clear hw3 hwr3 hd0 hd1 hd2 HW2 HB2 HO2 HR2 hz2
          go_wp2_with (at_builtin; refine print_append_row_of (w0 := w) Value.bool false w.heap.size rfl (.tmp 42) (.tmp 43) 55 4 (.bool false) 1 rfl Try.underlying55 Refs.info4 rfl (by omega) (fun _ => rfl) (.slice A0 L.length c0) L M A2 _ c2 rfl rfl HO3.out HRD3.out ?aB ?aS ?aL ?_; (case aB => exact HB3.out); (case aS => omega); (case aL => omega); intro v4 w4 hown hB4 hg4 hat4; rw [← HLM.out] at hown; have HO4 := Aside0.mk hown; have HB4 := Aside0.mk hB4; have HW4 := Aside0.mk (Half.grown HW3.out hg4 (fun e => (Half.row_ne4 HW3.out HO3.out).1 e.symm) (Half.row_ne4 HW3.out HO3.out).2.2); obtain ⟨A4, c4, hv4⟩ := own_slice hown; subst hv4; clear hown hB4 hg4 hat4)
          refine (len_any w.heap.size w.heap.size row3 _ _ HW4.out).mono ?_
          rintro e w5 ⟨rfl, rfl⟩
          go_wp2_with fail
          refine (bytes_any w.heap.size w.heap.size row3 _ _ HW4.out (by omega)).mono ?_
          rintro e w6 ⟨v6, rfl, hr6, hb6⟩
          obtain ⟨A6, c6, hv6, hl6, hC6⟩ := Kd.R_reads hr6
          subst hv6
          have HC6 := Aside0.mk hC6
          have HL6 := Aside0.mk hl6
          have HB6 := Aside0.mk (below_step HB4.out hb6)
          have HW6 := Aside0.mk (Half.below HW4.out hb6)
          have HO6 := Aside0.mk (pw_own_below HO4.out hb6)
          clear hr6 hb6 hl6 hC6 HW4 HO4 HB4
          go_wp2_with fail
          refine (packRef_any A4 c4 LM _ (own_CB HO6.out).2 (own_CB HO6.out).1 (by omega)).mono ?_
          rintro e w7 ⟨v7, rfl, hr7, hb7⟩
          obtain ⟨A7, c7, hv7, hl7, hC7⟩ := Kd.R_reads hr7
          subst hv7
          have HC7 := Aside0.mk hC7
          have HL7 := Aside0.mk hl7
          have HC67 := Aside0.mk (Kd.C_below HC6.out hb7)
          have HB7 := Aside0.mk (below_step HB6.out hb7)
          have HW7 := Aside0.mk (Half.below HW6.out hb7)
          have HO7 := Aside0.mk (pw_own_below HO6.out hb7)
          clear hr7 hb7 hl7 hC7 HW6 HO6 HB6 HC6
          go_wp2_with fail
          refine (same_any A6 c6 (packL LM) A7 c7 (packL LM) _ HC67.out HL6.out HC7.out HL7.out (packL_bytes LM) (packL_bytes LM)).mono ?_
          rintro e w8 ⟨rfl, ⟨n8, rfl⟩⟩
          rw [decide_eq_true (rfl : packL LM = packL LM)]
          go_wp2_with fail
          go_roundw
          case rel => exact ⟨k + 1, row3, by omega, by go_num, by rw [← HNEXT.out]; exact Half.drewN HW7.out _, by rw [← HNEXT.out]; exact HO7.out, pw_below_drewN HB7.out _⟩
          case measure => simp [intOf]; omega
        | false =>
          go_wp2_with fail
          refine (writeRef_any q0 q2 _ q1 _ rfl hq1).mono ?_
          rintro e w2 ⟨v2, rfl, hr2, hb2⟩
          rw [← HM.out] at hr2
          rw [← HOK.out]
          obtain ⟨A2, c2, hv2⟩ := Kd.R_slice hr2
          subst hv2
          have hbw := below_step (below_alloc (Below.refl _ _) _) hb2
          have HB2 := Aside0.mk (below_step HB.out hbw)
          have HW2 := Aside0.mk (Half.below HW.out hbw)
          have HO2 := Aside0.mk (pw_own_below HO.out hbw)
          have hblk := blk_below (blk_new wr _) hb2
          have hd0 := blk_cell hblk 0
          have hd1 := blk_cell hblk 1
          have hd2 := blk_cell hblk 2
          have HR2 := Aside0.mk hr2
          simp at hd0 hd1 hd2
          have hz2 := hbw.size
          have HRL := Aside0.mk (Half.row_lt HW.out)
          clear hr2 hb2 hbw hblk
          go_wp2_with fail
          refine (write_any w.heap.size w.heap.size row L q0 q2 _ q1 _ HW2.out rfl (by omega) hq1).mono ?_
          rintro e w3 ⟨rfl, row3, hw3, hwr3⟩
          rw [HERR.out]
          rw [← HM.out, ← HLM.out] at hw3
          have HW3 := Aside0.mk hw3
          have HB3 := Aside0.mk (hwr3.below HB2.out HB2.out.size (Nat.le_refl _) (Half.row_base HW2.out))
          have HO3 := Aside0.mk (hwr3.own HO2.out (Half.row_ne4 HW2.out HO2.out).1 (Half.row_ne4 HW2.out HO2.out).2.1)
          have HR3 := Aside0.mk (R_wrote HR2.out hwr3 (by simp; omega) (fun k hk => by have := HRL.out k hk; simp; omega))
          have HRD3 := Aside0.mk (Kd.reads_of_C (d := false) (Kd.R_reads' HR3.out).2.2)
          have hz3 := HB3.out.size
          clear hw3 hwr3 hd0 hd1 hd2 HW2 HB2 HO2 HR2 hz2
          go_wp2_with (at_builtin; refine print_append_row_of (w0 := w) Value.bool false w.heap.size rfl (.tmp 42) (.tmp 43) 55 4 (.bool false) 1 rfl Try.underlying55 Refs.info4 rfl (by omega) (fun _ => rfl) (.slice A0 L.length c0) L M A2 _ c2 rfl rfl HO3.out HRD3.out ?aB ?aS ?aL ?_; (case aB => exact HB3.out); (case aS => omega); (case aL => omega); intro v4 w4 hown hB4 hg4 hat4; rw [← HLM.out] at hown; have HO4 := Aside0.mk hown; have HB4 := Aside0.mk hB4; have HW4 := Aside0.mk (Half.grown HW3.out hg4 (fun e => (Half.row_ne4 HW3.out HO3.out).1 e.symm) (Half.row_ne4 HW3.out HO3.out).2.2); obtain ⟨A4, c4, hv4⟩ := own_slice hown; subst hv4; clear hown hB4 hg4 hat4)
          refine (len_any w.heap.size w.heap.size row3 _ _ HW4.out).mono ?_
          rintro e w5 ⟨rfl, rfl⟩
          go_wp2_with fail
          refine (bytes_any w.heap.size w.heap.size row3 _ _ HW4.out (by omega)).mono ?_
          rintro e w6 ⟨v6, rfl, hr6, hb6⟩
          obtain ⟨A6, c6, hv6, hl6, hC6⟩ := Kd.R_reads hr6
          subst hv6
          have HC6 := Aside0.mk hC6
          have HL6 := Aside0.mk hl6
          have HB6 := Aside0.mk (below_step HB4.out hb6)
          have HW6 := Aside0.mk (Half.below HW4.out hb6)
          have HO6 := Aside0.mk (pw_own_below HO4.out hb6)
          clear hr6 hb6 hl6 hC6 HW4 HO4 HB4
          go_wp2_with fail
          refine (packRef_any A4 c4 LM _ (own_CB HO6.out).2 (own_CB HO6.out).1 (by omega)).mono ?_
          rintro e w7 ⟨v7, rfl, hr7, hb7⟩
          obtain ⟨A7, c7, hv7, hl7, hC7⟩ := Kd.R_reads hr7
          subst hv7
          have HC7 := Aside0.mk hC7
          have HL7 := Aside0.mk hl7
          have HC67 := Aside0.mk (Kd.C_below HC6.out hb7)
          have HB7 := Aside0.mk (below_step HB6.out hb7)
          have HW7 := Aside0.mk (Half.below HW6.out hb7)
          have HO7 := Aside0.mk (pw_own_below HO6.out hb7)
          clear hr7 hb7 hl7 hC7 HW6 HO6 HB6 HC6
          go_wp2_with fail
          refine (same_any A6 c6 (packL LM) A7 c7 (packL LM) _ HC67.out HL6.out HC7.out HL7.out (packL_bytes LM) (packL_bytes LM)).mono ?_
          rintro e w8 ⟨rfl, ⟨n8, rfl⟩⟩
          rw [decide_eq_true (rfl : packL LM = packL LM)]
          go_wp2_with fail
          go_roundw
          case rel => exact ⟨k + 1, row3, by omega, by go_num, by rw [← HNEXT.out]; exact Half.drewN HW7.out _, by rw [← HNEXT.out]; exact HO7.out, pw_below_drewN HB7.out _⟩
          case measure => simp [intOf]; omega
      · clear HC HO HW
        go_wp2_with fail
        refine (awake_any _).mono ?_
        rintro e w9 ⟨rfl, hb9⟩
        have HB9 := Aside0.mk (below_step HB.out hb9)
        clear hb9
        go_wp2_with fail
        go_ret
        exact ⟨rfl, HB9.out⟩
end Go.Proofs.Ytbfnckjnpbgmaaa
