/- The walk of BitioRoundTrips: what a Writer wrote is read back, call by call. For at most 12 calls. -/
import Derived.Test.YtbfnckjnpbgmaaaRtq
import Derived.Test.YtbfnckjnpbgmaaaAwa
namespace Go.Proofs.Ytbfnckjnpbgmaaa
open Go.RowKit Go.Proofs.YtbfnckjnpbgmaaaW.PrintWords Go.Proofs.YtbfnckjnpbgmaaaW.PrintLast Go.Proofs.YtbfnckjnpbgmaaaW.PrintMore
set_option linter.unusedVariables false

structure T1Rel (w : World) (n : Nat) (cs : List CallT) (vd i : Value) (w' : World) : Prop where
  out : ∃ (k : Nat) (row : Option Nat), k ≤ n ∧ i = .int .i64 (k : Int) ∧ Wr w' w.heap.size w.heap.size row (bitsOf (cs.take k)) ∧
    w'.ownsRow w.heap.size 57 3 vd (okC (cs.take k)).length (rowsC (okC (cs.take k))) ∧ Below w.heap.size w w'
structure T2Rel (w : World) (D : List CallT) (g : Nat) (row : Option Nat) (vd i : Value) (w' : World) : Prop where
  out : ∃ k : Nat, k ≤ D.length ∧ i = .int .i64 (k : Int) ∧ Wr w' w.heap.size w.heap.size row (bitsOf D) ∧
    w'.ownsRow w.heap.size 57 3 vd D.length (rowsC D) ∧ Rd w' w.heap.size g (bitsOf (D.take k)).length (bitsOf D) ∧ Below w.heap.size w w'

set_option maxHeartbeats 2000000 in
set_option maxRecDepth 100000 in
theorem trips_walk (A : Option Addr) (n c : Nat) (cs : List CallT) (w : World) (hin : InCalls w A n c cs) :
    Calls Try.prog 18 #[.slice A n c] w fun e w' => e = .returned (.bool true) ∧ Below w.heap.size w w' := by
  have HIN := Aside0.mk hin
  clear hin
  by_cases h12 : 12 < n
  · go_enter Try.func18, Try.ntmps18
    go_wp2_with fail
    refine (newWriter_any _).mono ?_
    rintro e w1 ⟨rfl, hw1⟩
    have HB1 := Aside0.mk (show Below w.heap.size w w1 from hw1 ▸ below_alloc (Below.refl _ _) _)
    clear hw1
    go_wp2_with fail
    go_ret
    exact ⟨rfl, HB1.out⟩
  have hn : n ≤ 12 := by omega
  clear h12
  go_enter Try.func18, Try.ntmps18
  go_wp2_with fail
  refine (newWriter_any _).mono ?_
  rintro e w1 ⟨rfl, hw1⟩
  have HB1 := Aside0.mk (show Below w.heap.size w w1 from hw1 ▸ below_alloc (Below.refl _ _) _)
  have HW1 := Aside0.mk (show Wr w1 w.heap.size w.heap.size none [] from hw1 ▸ Wr_new w w.heap.size (Nat.le_refl _))
  clear hw1
  go_wp2_with fail
  go_loopw [4, 6, 24] (fun vd _ i w' => T1Rel w n cs vd i w') (fun _ _ i _ => n - (intOf i).toNat)
  case atStart => exact ⟨⟨0, none, Nat.zero_le _, rfl, HW1.out, own_nil _ _ _ _, HB1.out⟩⟩
  case round =>
    obtain ⟨k, row, hk, rfl, hw, ho, hb⟩ := hrel.out
    clear hrel
    have HW := Aside0.mk hw
    have HO := Aside0.mk ho
    have HB := Aside0.mk hb
    have HC := Aside0.mk (HIN.out.below hb)
    obtain ⟨A0, c0, hv0⟩ := own_slice ho
    subst hv0
    have hz := hb.size
    clear hw ho hb HB1 HW1
    by_cases hlt : k < n
    · obtain ⟨L, hL⟩ : ∃ L, L = bitsOf (cs.take k) := ⟨_, rfl⟩
      have hLl : L.length ≤ 49164 := by
        have := bitsOf_take_len cs HIN.out.2.2.1 k
        rw [HIN.out.1, ← hL] at this
        omega
      rw [← hL] at HW
      have HL := Aside0.mk hL
      clear hL
      obtain ⟨D, hD⟩ : ∃ D, D = okC (cs.take k) := ⟨_, rfl⟩
      have hDl : D.length ≤ 1000 := by
        have := okC_length (cs.take k)
        rw [List.length_take] at this
        rw [hD]; omega
      have HD := Aside0.mk hD
      rw [← hD] at HO
      rw [← hD]
      clear hD
      obtain ⟨x, ⟨q0, q1, q2⟩, hA, hq, hqok, hat⟩ := HC.out.at_ hlt
      subst hA
      obtain ⟨hc0, hc1, hc2⟩ := hat
      have HQ := Aside0.mk hq
      obtain ⟨hq1, hq2⟩ := hqok
      have HQ2 := Aside0.mk hq2
      clear hq hq2
      simp only at hc0 hc1 hc2 hq1
      obtain ⟨ok, hok⟩ : ∃ ok, ok = (writeL q0 q1 q2).isSome := ⟨_, rfl⟩
      obtain ⟨M, hM⟩ : ∃ M, M = (writeL q0 q1 q2).getD [] := ⟨_, rfl⟩
      have HERR : Aside0 (errnoOf (writeL q0 q1 q2) = if ok = true then 0 else 1) := ⟨by rw [hok]; rfl⟩
      have HM := Aside0.mk hM
      obtain ⟨LM, hLM⟩ : ∃ LM, LM = L ++ M := ⟨_, rfl⟩
      have HLM := Aside0.mk hLM
      have HNEXT : Aside0 (LM = bitsOf (cs.take (k + 1))) := ⟨by rw [hLM, HL.out, hM, bitsOf_succ cs k _ HQ.out]; rfl⟩
      have HDN : Aside0 (okC (cs.take (k + 1)) = if ok = true then D ++ [(q0, q1, q2)] else D) := ⟨by rw [okC_succ cs k _ HQ.out, ← HD.out, hok]⟩
      clear hM hok hLM
      have HRL := Aside0.mk (Half.row_lt HW.out)
      have hgl : w.heap.size < wr.heap.size := by obtain ⟨v, hb, _⟩ := HW.out; exact blk_lt hb
      cases ok with
      | true =>
        go_wp2_with fail
        have hbw := below_alloc (Below.refl wr.heap.size wr) (.cells #[.int .i64 q0, .int .u64 (q1 : Int), .int .i64 q2] 57)
        have hblk := blk_new wr (.cells #[.int .i64 q0, .int .u64 (q1 : Int), .int .i64 q2] 57)
        have HW2 := Aside0.mk (Half.below HW.out hbw)
        have HO2 := Aside0.mk (pw_own_below HO.out hbw)
        have HB2 := Aside0.mk (below_step HB.out hbw)
        have HK2 := Aside0.mk hblk
        clear hbw hblk
        refine (write_any w.heap.size w.heap.size row L q0 q2 _ q1 _ HW2.out rfl (by omega) hq1).mono ?_
        rintro e w3 ⟨rfl, row3, hw3, hwr3⟩
        rw [HERR.out]
        rw [← HM.out, ← HLM.out] at hw3
        have HW3 := Aside0.mk hw3
        have HB3 := Aside0.mk (hwr3.below HB2.out HB2.out.size (Nat.le_refl _) (Half.row_base HW2.out))
        have HO3 := Aside0.mk (hwr3.own HO2.out (Half.row_ne57 HW2.out HO2.out).1 (Half.row_ne57 HW2.out HO2.out).2.1)
        have hblk := hwr3.blk HK2.out (by omega) (fun e => by have := HRL.out _ e.symm; omega)
        have hd0 := blk_cell hblk 0
        have hd1 := blk_cell hblk 1
        have hd2 := blk_cell hblk 2
        simp at hd0 hd1 hd2
        have hz3 := HB3.out.size
        clear hw3 hwr3 hblk HW2 HB2 HO2 HK2
        have HNW : ∀ j u, (cellsC (q0, q1, q2))[j]? = some u → (w3.alloc (.cells #[.int .i64 q0, .int .u64 (q1 : Int), .int .i64 q2] 57)).cell? ((⟨w3.heap.size, 0, none⟩ : Addr).add j) = some u := by
          intro j u hu
          have hj : (⟨w3.heap.size, 0, none⟩ : Addr).add j = ⟨w3.heap.size, j, none⟩ := by unfold Addr.add; split <;> simp_all
          rw [hj]
          have := blk_cell (blk_new w3 (.cells #[.int .i64 q0, .int .u64 (q1 : Int), .int .i64 q2] 57)) j
          rw [this]
          simpa [cellsC] using hu
        have HB3a := Aside0.mk (below_alloc HB3.out (.cells #[.int .i64 q0, .int .u64 (q1 : Int), .int .i64 q2] 57))
        have HO3a := Aside0.mk (own_alloc HO3.out (.cells #[.int .i64 q0, .int .u64 (q1 : Int), .int .i64 q2] 57))
        have HW3a := Aside0.mk (Half.below HW3.out (below_alloc (Below.refl w3.heap.size w3) (.cells #[.int .i64 q0, .int .u64 (q1 : Int), .int .i64 q2] 57)))
        have HNWA := Aside0.mk HNW
        clear HNW
        go_wp2_with (at_builtin; refine append_call (w0 := w) w.heap.size rfl (.tmp 32) (.tmp 34) rfl (.slice A0 D.length c0) D (q0, q1, q2) ⟨w3.heap.size, 0, none⟩ 1 rfl rfl HO3a.out HNWA.out HB3a.out ?aS hDl ?_; (case aS => simp; omega); intro v4 w4 hown hB4 hg4 hat4; have HO4 := Aside0.mk hown; have HB4 := Aside0.mk hB4; have HW4 := Aside0.mk (Half.grown HW3a.out hg4 (fun e => (Half.row_ne57 HW3a.out HO3a.out).1 e.symm) (Half.row_ne57 HW3a.out HO3a.out).2.2); obtain ⟨A4, c4, hv4⟩ := own_slice hown; subst hv4; clear hown hB4 hg4 hat4)
        go_roundw
        case rel => exact ⟨⟨k + 1, row3, by omega, by go_num, by rw [← HNEXT.out]; exact HW4.out, by rw [HDN.out, if_pos trivial]; simpa using HO4.out, HB4.out⟩⟩
        case measure => simp [intOf]; omega
      | false =>
        go_wp2_with fail
        have hbw := below_alloc (Below.refl wr.heap.size wr) (.cells #[.int .i64 q0, .int .u64 (q1 : Int), .int .i64 q2] 57)
        have HW2 := Aside0.mk (Half.below HW.out hbw)
        have HO2 := Aside0.mk (pw_own_below HO.out hbw)
        have HB2 := Aside0.mk (below_step HB.out hbw)
        clear hbw
        refine (write_any w.heap.size w.heap.size row L q0 q2 _ q1 _ HW2.out rfl (by omega) hq1).mono ?_
        rintro e w3 ⟨rfl, row3, hw3, hwr3⟩
        rw [HERR.out]
        rw [← HM.out, ← HLM.out] at hw3
        have HW3 := Aside0.mk hw3
        have HB3 := Aside0.mk (hwr3.below HB2.out HB2.out.size (Nat.le_refl _) (Half.row_base HW2.out))
        have HO3 := Aside0.mk (hwr3.own HO2.out (Half.row_ne57 HW2.out HO2.out).1 (Half.row_ne57 HW2.out HO2.out).2.1)
        clear hw3 hwr3 HW2 HB2 HO2
        go_wp2_with fail
        go_roundw
        case rel => exact ⟨⟨k + 1, row3, by omega, by go_num, by rw [← HNEXT.out]; exact HW3.out, by rw [HDN.out, if_neg (by simp)]; exact HO3.out, HB3.out⟩⟩
        case measure => simp [intOf]; omega
    · have hkn : k = n := by omega
      subst hkn
      have hall : cs.take k = cs := by rw [← HIN.out.1, List.take_length]
      rw [hall] at HW HO
      rw [hall]
      have hqs : ∀ q ∈ cs, CallOk q := HIN.out.2.2.1
      have hbits := bitsOf_okC cs
      have hdl := okC_length cs
      rw [HIN.out.1] at hdl
      have hLl : (bitsOf cs).length ≤ 49164 := by
        have := bitsOf_len cs hqs
        rw [HIN.out.1] at this
        omega
      have HMEM : Aside0 (∀ q ∈ okC cs, CallOk q ∧ ∃ M, writeL q.1 q.2.1 q.2.2 = some M) := ⟨fun q hq => ⟨hqs q (okC_mem hq).1, (okC_mem hq).2⟩⟩
      rw [← hbits] at HW hLl
      clear hqs hbits hall HC HIN
      obtain ⟨D, hD⟩ : ∃ D, D = okC cs := ⟨_, rfl⟩
      rw [← hD] at HW HO HMEM hdl hLl
      rw [← hD]
      clear hD
      obtain ⟨L, hL⟩ : ∃ L, L = bitsOf D := ⟨_, rfl⟩
      rw [← hL] at HW hLl
      have HL := Aside0.mk hL
      clear hL
      have hpl := packL_length L
      have hpb := packL_bytes L
      have hun := unpackL_packL L
      obtain ⟨P, hP⟩ : ∃ P, P = packL L := ⟨_, rfl⟩
      rw [← hP] at hpl hpb hun
      obtain ⟨m, hm⟩ : ∃ m, P.length = m := ⟨_, rfl⟩
      have hm1 : m ≤ 1000000 := by omega
      have hm2 : L.length ≤ 8 * m := by omega
      have HM := Aside0.mk hm
      clear hm hpl
      have HP := Aside0.mk hP
      clear hP
      have HUN := Aside0.mk hun
      have HPB := Aside0.mk hpb
      clear hun hpb
      go_wp2_with fail
      refine (bytes_any w.heap.size w.heap.size row L _ HW.out (by omega)).mono ?_
      rintro e w2 ⟨v2, rfl, hr2, hb2⟩
      rw [← HP.out] at hr2
      obtain ⟨A2, c2, hv2, hl2, hC2⟩ := Kd.R_reads hr2
      rw [HM.out] at hl2 hv2
      subst hv2
      have HIB := Aside0.mk (show InBytes w2 A2 m c2 P from ⟨HM.out, hl2, HPB.out, hC2⟩)
      have HB2 := Aside0.mk (below_step HB.out hb2)
      have HW2 := Aside0.mk (Half.below HW.out hb2)
      have HO2 := Aside0.mk (pw_own_below HO.out hb2)
      clear hr2 hb2 hl2 hC2 HB HW HO
      go_wp2_with fail
      refine (len_any w.heap.size w.heap.size row L _ HW2.out).mono ?_
      rintro e w3 ⟨rfl, rfl⟩
      go_wp2_with fail
      refine (newReader_any A2 m c2 P (L.length : Int) L.length w2 HIB.out rfl hm2 hm1).mono ?_
      rintro e w3 ⟨g, rfl, hrd, hb3⟩
      rw [HUN.out] at hrd
      have HR3 := Aside0.mk (hrd.less HB2.out.size)
      have HB3 := Aside0.mk (below_step HB2.out hb3)
      have HW3 := Aside0.mk (Half.below HW2.out hb3)
      have HO3 := Aside0.mk (pw_own_below HO2.out hb3)
      clear hrd hb3 HB2 HW2 HO2 HIB
      go_wp2_with fail
      go_loopw [10, 11, 12, 13, 53] (fun _ _ _ _ i w' => T2Rel w D g row (.slice A0 D.length c0) i w') (fun _ _ _ _ i _ => D.length - (intOf i).toNat)
      case atStart => exact ⟨⟨0, Nat.zero_le _, rfl, by rw [← HL.out]; exact HW3.out, HO3.out, by rw [← HL.out]; exact HR3.out, HB3.out⟩⟩
      case round =>
        obtain ⟨k, hk, rfl, hw, ho, hr, hb⟩ := hrel.out
        clear hrel
        rw [← HL.out] at hw hr
        have HW := Aside0.mk hw
        have HO := Aside0.mk ho
        have HR := Aside0.mk hr
        have HB := Aside0.mk hb
        have HC := Aside0.mk (own_calls rfl ho (fun q hq => (HMEM.out q hq).1))
        have hz := hb.size
        clear hw ho hr hb
        by_cases hlt : k < D.length
        · obtain ⟨x2, ⟨q0, q1, q2⟩, hA, hq, hqok, hat⟩ := HC.out.at_ hlt
          subst hA
          obtain ⟨hc0, hc1, hc2⟩ := hat
          have hmem := (HMEM.out _ (List.mem_of_getElem? hq)).2
          have hrd := read_done D k _ hq hqok.1 hmem
          obtain ⟨hq1, hq2⟩ := hqok
          have hp := bitsOf_take_le D k
          simp only at hc0 hc1 hc2 hq1 hrd hmem
          rw [← HL.out] at hrd hp
          obtain ⟨p, hpe⟩ : ∃ p, p = (bitsOf (D.take k)).length := ⟨_, rfl⟩
          obtain ⟨p', hpe'⟩ : ∃ p', p' = (bitsOf (D.take (k + 1))).length := ⟨_, rfl⟩
          rw [← hpe] at hrd hp HR
          rw [← hpe'] at hrd
          have HP' := Aside0.mk hpe'
          clear hq hq2 hpe hpe'
          have hgl := HR.out.g_lt
          by_cases h1 : q0 = 1
          · subst h1
            rw [if_pos rfl] at hrd
            obtain ⟨M, hM⟩ := hmem
            obtain ⟨hu1, hu2⟩ := writeL_unary hM
            obtain ⟨N, rfl⟩ : ∃ N : Nat, q2 = N := ⟨q2.toNat, by omega⟩
            rw [Int.toNat_natCast] at hrd
            have hN : N < 18446744073709551616 := by omega
            have hwr := wrap_u64_nat N hN
            have HRD := Aside0.mk hrd
            clear hrd hM
            go_wp2_with fail
            have hbw := below_alloc (Below.refl wr.heap.size wr) (.cells #[.int .i64 1, .int .u64 (q1 : Int), .int .i64 (N : Int)] 57)
            have hblk := blk_new wr (.cells #[.int .i64 1, .int .u64 (q1 : Int), .int .i64 (N : Int)] 57)
            have HW2 := Aside0.mk (Half.below HW.out hbw)
            have HO2 := Aside0.mk (pw_own_below HO.out hbw)
            have HR2 := Aside0.mk (HR.out.below hbw)
            have HB2 := Aside0.mk (below_step HB.out hbw)
            have HK2 := Aside0.mk hblk
            clear hbw hblk
            refine (read_any w.heap.size g p L 1 (N : Int) (q1 : Int) _ HR2.out hp).mono ?_
            rintro e w4 ⟨rfl, hr4, hw4⟩
            rw [HRD.out] at hr4 ⊢
            have hblk := hw4.blk HK2.out (by omega) (by simp)
            have hd0 := blk_cell hblk 0
            have hd1 := blk_cell hblk 1
            have hd2 := blk_cell hblk 2
            simp at hd0 hd1 hd2
            have HR4 := Aside0.mk hr4
            have HW4 := Aside0.mk (half_beside HW2.out HR2.out hw4)
            have HO4 := Aside0.mk (calls_beside HO2.out HR2.out hw4)
            have HB4 := Aside0.mk (hw4.below HB2.out HB2.out.size HR2.out.g_base (fun k hk => by cases hk))
            clear hr4 hw4 hblk HR2 HW2 HO2 HB2 HK2
            go_wp2_with fail
            go_roundw
            case rel => exact ⟨⟨k + 1, by omega, by go_num, by rw [← HL.out]; exact HW4.out, HO4.out, by rw [← HL.out, ← HP'.out]; exact HR4.out, HB4.out⟩⟩
            case measure => simp [intOf]; omega
          · rw [if_neg h1] at hrd
            have HRD := Aside0.mk hrd
            clear hrd hmem
            go_wp2_with fail
            have hbw := below_alloc (Below.refl wr.heap.size wr) (.cells #[.int .i64 q0, .int .u64 (q1 : Int), .int .i64 q2] 57)
            have hblk := blk_new wr (.cells #[.int .i64 q0, .int .u64 (q1 : Int), .int .i64 q2] 57)
            have HW2 := Aside0.mk (Half.below HW.out hbw)
            have HO2 := Aside0.mk (pw_own_below HO.out hbw)
            have HR2 := Aside0.mk (HR.out.below hbw)
            have HB2 := Aside0.mk (below_step HB.out hbw)
            have HK2 := Aside0.mk hblk
            clear hbw hblk
            refine (read_any w.heap.size g p L q0 q2 (q1 : Int) _ HR2.out hp).mono ?_
            rintro e w4 ⟨rfl, hr4, hw4⟩
            rw [HRD.out] at hr4 ⊢
            have hblk := hw4.blk HK2.out (by omega) (by simp)
            have hd0 := blk_cell hblk 0
            have hd1 := blk_cell hblk 1
            have hd2 := blk_cell hblk 2
            simp at hd0 hd1 hd2
            have HR4 := Aside0.mk hr4
            have HW4 := Aside0.mk (half_beside HW2.out HR2.out hw4)
            have HO4 := Aside0.mk (calls_beside HO2.out HR2.out hw4)
            have HB4 := Aside0.mk (hw4.below HB2.out HB2.out.size HR2.out.g_base (fun k hk => by cases hk))
            clear hr4 hw4 hblk HR2 HW2 HO2 HB2 HK2
            go_wp2_with fail
            go_roundw
            case rel => exact ⟨⟨k + 1, by omega, by go_num, by rw [← HL.out]; exact HW4.out, HO4.out, by rw [← HL.out, ← HP'.out]; exact HR4.out, HB4.out⟩⟩
            case measure => simp [intOf]; omega
        · have hkn : k = D.length := by omega
          rw [hkn, List.take_length, ← HL.out] at HR
          clear hkn hk HC
          go_wp2_with fail
          refine (rbits_any w.heap.size g L.length L 1 _ HR.out (Nat.le_refl _)).mono ?_
          rintro e w4 ⟨rfl, hr4, hw4⟩
          rw [read_end L] at hr4 ⊢
          have HR4 := Aside0.mk hr4
          have HW4 := Aside0.mk (half_beside HW.out HR.out hw4)
          have HB4 := Aside0.mk (hw4.below HB.out HB.out.size HR.out.g_base (fun k hk => by cases hk))
          clear hr4 hw4 HR HW HB HO
          go_wp2_with fail
          refine (pos_any w.heap.size g L.length L w4 HR4.out).mono ?_
          rintro e w5 ⟨rfl, rfl⟩
          go_wp2_with fail
          refine (len_any w.heap.size w.heap.size row L _ HW4.out).mono ?_
          rintro e w5 ⟨rfl, rfl⟩
          go_wp2_with fail
          refine (awake_any _).mono ?_
          rintro e w6 ⟨rfl, hb6⟩
          have HB6 := Aside0.mk (below_step HB4.out hb6)
          clear hb6
          go_wp2_with fail
          go_ret
          exact ⟨rfl, HB6.out⟩
end Go.Proofs.Ytbfnckjnpbgmaaa
