/- The walk of the reference Unpack: which bytes are a block, and its numbers. For at most a million bytes. -/
import Derived.Test.YtbfnckjnpbgmaaaUnx
namespace Go.Proofs.Ytbfnckjnpbgmaaa
open Go.RowKit Go.Proofs.YtbfnckjnpbgmaaaW.PrintWords Go.Proofs.YtbfnckjnpbgmaaaW.PrintLast Go.Proofs.YtbfnckjnpbgmaaaW.PrintMore
set_option linter.unusedVariables false

/-- What the second half of the walk keeps: the array, the bits, the numbers. -/
structure XK (w : World) (arr : Array Value) (Ab : Option Addr) (q cb : Nat) (L : List Bool) (gv m : Nat) (xs : List Nat) (w' : World) : Prop where
  arr : w'.heap[w.heap.size]? = some (.cells arr 94 (0, 0))
  bits : w'.ownsRow w.heap.size 4 1 (.slice Ab q cb) q (encs Value.bool L)
  vals : Vr w' w.heap.size gv m xs
  below : Below w.heap.size w w'
theorem XK.drewN {w w' : World} {arr : Array Value} {Ab : Option Addr} {q cb gv m : Nat} {L : List Bool} {xs : List Nat} (h : XK w arr Ab q cb L gv m xs w') (n : Nat) : XK w arr Ab q cb L gv m xs (w'.drewN n) :=
  ⟨h.arr, h.bits, h.vals.drewN n, pw_below_drewN h.below n⟩
theorem XK.drew {w w' : World} {arr : Array Value} {Ab : Option Addr} {q cb gv m : Nat} {L : List Bool} {xs : List Nat} (h : XK w arr Ab q cb L gv m xs w') : XK w arr Ab q cb L gv m xs w'.drew :=
  ⟨h.arr, h.bits, h.vals.drew, below_drew h.below⟩
theorem XK.set {w w' : World} {arr : Array Value} {Ab : Option Addr} {q cb gv m : Nat} {L : List Bool} {xs : List Nat} (h : XK w arr Ab q cb L gv m xs w') (i x : Nat) : XK w arr Ab q cb L gv m (xs.set i x) (w'.setCell ⟨gv, i, none⟩ (.int .i64 (x : Int))) := by
  refine ⟨?_, ?_, h.vals.set i x, Below.setCell h.below h.vals.base_le _⟩
  · exact blk_far h.arr (fun e => own_ne h.vals.2 h.arr (by decide) (by rw [e]; rfl)) _
  · refine own_setCell h.bits (fun e => ?_) _
    rcases own_type_ne h.bits h.vals.2 (by decide) with h0 | h0
    · rw [h0] at e; cases e
    · exact h0 e.symm
theorem unpackRef_call (A : Option Addr) (n c : Nat) (B : List Int) (x : Int) (m : Nat) (w : World) (h : InBytes w A n c B) (hx : x = m) (hm : m ≤ 8 * n) (hn : n ≤ 1000000) :
    Calls Try.prog 42 #[.slice A n c, .int .i64 x] w fun e w' => MadeBits w (unpackL B m) e w' := by
  obtain ⟨rfl, hc, hB, hr⟩ := h
  exact unpackRef_any A c B x m w hr hc hx hB hm (by omega)
structure X2Rel (w : World) (arr : Array Value) (Ab : Option Addr) (q cb : Nat) (L : List Bool) (gv m wd : Nat) (iv : Value) (w' : World) : Prop where
  out : ∃ k : Nat, k ≤ m ∧ iv = .int .i64 (k : Int) ∧ XK w arr Ab q cb L gv m (lowV L k wd ++ List.replicate (m - k) 0) w'
structure X3Rel (w : World) (arr : Array Value) (Ab : Option Addr) (q cb : Nat) (L : List Bool) (gv m wd k : Nat) (xs : List Nat) (M : List Bool) (jv : Value) (w' : World) : Prop where
  out : ∃ j : Nat, j ≤ wd ∧ jv = .int .i64 (j : Int) ∧ XK w arr Ab q cb L gv m (xs.set k (numL (M.take j))) w'
theorem checkRef_q (A : Option Addr) (n c : Nat) (l : List Int) (v : Int) (w : World) (h : InInts w A n c l) (hv : checkV l = v) :
    Calls Try.prog 31 #[.slice A n c] w fun e w' => e = .returned (.int .i64 v) ∧ Drawn0 w w' := by
  obtain ⟨rfl, hc, hr⟩ := h
  rw [← hv]
  exact Refs.corporaref15_Check.calls 200 A c l _ w hr hc (checkRef_f l 200 (by omega))
structure X4Rel (w : World) (arr : Array Value) (Ab : Option Addr) (q cb : Nat) (L : List Bool) (gv m wd cnt : Nat) (R : Option (List Nat)) (restv atv kv : Value) (w' : World) : Prop where
  out : ∃ (k a : Nat) (B' : List Int) (A : Option Addr) (n c : Nat) (xs : List Nat), k ≤ cnt ∧ kv = .int .u64 (k : Int) ∧ restv = .slice A n c ∧ InBytes w A n c B' ∧ n ≤ 1000000 ∧ a ≤ m ∧ atv = .int .i64 ((a : Int) - 1) ∧
    XK w arr Ab q cb L gv m xs w' ∧ (∀ v ∈ xs, v < 2 ^ 63) ∧ R = excX 2147483648 wd (cnt - k) B' a xs
theorem own_CBn {w : World} {base c n : Nat} {A : Option Addr} {B : List Bool} (h : w.ownsRow base 4 1 (.slice A n c) n (encs Value.bool B)) (hn : B.length = n) : n ≤ c ∧ Kd.C Kd.bool w A n B := by
  subst hn
  exact own_CB h
theorem lowV_zero (L : List Bool) (k w m : Nat) (hk : k < m) : (lowV L k w ++ List.replicate (m - k) 0).set k 0 = lowV L k w ++ List.replicate (m - k) 0 := by
  have hl := lowV_length L k w
  rw [List.set_append_right _ _ (by omega), hl, Nat.sub_self, show m - k = (m - (k + 1)) + 1 by omega, List.replicate_succ, List.set_cons_zero]
structure X1Rel (w : World) (B : List Int) (restv iv : Value) (w' : World) : Prop where
  out : ∃ (k : Nat) (vs : List Nat) (B1 : List Int) (A : Option Addr) (n c : Nat) (arr : Array Value), k ≤ 3 ∧ iv = .int .i64 (k : Int) ∧ restv = .slice A n c ∧ InBytes w A n c B1 ∧ n ≤ 1000000 ∧ takesX k B = some (vs, B1) ∧
    w'.heap[w.heap.size]? = some (.cells arr 94 (0, 0)) ∧ arr.size = 3 ∧ (∀ j, j < k → arr[j]? = some (.int .u64 ((vs.getD j 0 : Nat) : Int))) ∧ Below w.heap.size w w'
theorem rawX_takes_none {lim : Nat → Nat} {B : List Int} (h : takesX 3 B = none) : unpackX lim B = none := by
  unfold unpackX rawX
  rw [headX_takes_none h]
set_option maxHeartbeats 4000000 in
set_option maxRecDepth 100000 in
theorem unpackRef15_any (A : Option Addr) (n c : Nat) (B : List Int) (w : World) (h : InBytes w A n c B) (hn : n ≤ 1000000) :
    Calls Try.prog 37 #[.slice A n c] w fun e w' => UnrOut w (unpackX limR B) e w' := by
  have HIN := Aside0.mk h
  have HN := Aside0.mk hn
  clear h hn
  go_enter Try.func37, Try.ntmps37
  go_wp2_with fail
  go_loopw [5, 6, 7, 8, 9, 26] (fun restv _ _ _ _ iv w' => X1Rel w B restv iv w') (fun _ _ _ _ _ iv _ => 3 - (intOf iv).toNat)
  case atStart => exact ⟨⟨0, [], B, A, n, c, _, Nat.zero_le _, rfl, rfl, HIN.out, HN.out, rfl, blk_new _ _, rfl, fun j hj => absurd hj (by omega), below_alloc (Below.refl _ _) _⟩⟩
  case round =>
    obtain ⟨k, vs, B1, A1, n1, c1, arr, hk, rfl, rfl, hin, hn1, htk, hblk, hsz, harr, hb⟩ := hrel.out
    clear hrel
    have HI := Aside0.mk hin
    have HT := Aside0.mk htk
    have HK := Aside0.mk hblk
    have HSZ := Aside0.mk hsz
    have HA := Aside0.mk harr
    have HB := Aside0.mk hb
    have HCALL := Aside0.mk (take_call A1 n1 c1 B1 wr (hin.below hb) hn1)
    clear hin htk hblk hsz harr hb
    by_cases hlt : k < 3
    · have hle := takeL_le B1
      have HST := Aside0.mk (takesX_step HT.out)
      obtain ⟨⟨v, i, z⟩, hT⟩ : ∃ T, takeL B1 = T := ⟨_, rfl⟩
      rw [hT] at hle HCALL HST
      simp only at hle HST
      clear hT
      have hend : ¬ (z = 0 ∧ v ≤ 128) → unpackX limR B = none := fun hbad => by
        have h1 : takesX (k + 1) B = none := by rw [HST.out, if_neg hbad]
        have h2 := takesX_stop h1 (2 - k)
        rw [show k + 1 + (2 - k) = 3 by omega] at h2
        exact rawX_takes_none h2
      have HEND := Aside0.mk hend
      clear hend
      by_cases hz : z = 0
      · subst hz
        by_cases hv : v ≤ 128
        · rw [if_pos ⟨rfl, hv⟩] at HST
          rw [HI.out.1] at hle
          obtain ⟨A2, c2, hrun, hread⟩ := drop_bytes A1 n1 c1 B1 i HI.out.1 hle HI.out.2.1
          have hrun2 := fun W => hrun (i : Int) W rfl
          have HI2 := Aside0.mk (hread w HI.out)
          obtain ⟨vold, hold⟩ : ∃ u, wr.cell? ⟨w.heap.size, k, none⟩ = some u := ⟨_, (blk_cell HK.out k).trans (Array.getElem?_eq_getElem (by rw [HSZ.out]; omega))⟩
          have hfr := blk_frozen HK.out k
          have hi1 : (0 : Int) ≤ (k : Int) := by omega
          have hi2 : (k : Int) < 3 := by omega
          have hvl : ¬ (128 : Int) < (v : Int) := by omega
          have hvl2 := (takesX_length k B vs B1 HT.out).1
          have HA2 : Aside0 (∀ j, j < k + 1 → (arr.setIfInBounds k (.int .u64 (v : Int)))[j]? = some (.int .u64 (((vs ++ [v]).getD j 0 : Nat) : Int))) := ⟨fun j hj => by
            rw [Array.getElem?_setIfInBounds]
            by_cases hjk : k = j
            · subst hjk
              rw [if_pos rfl, if_pos (by rw [HSZ.out]; omega), List.getD_eq_getElem?_getD, List.getElem?_append_right (by omega), hvl2, Nat.sub_self]
              rfl
            · rw [if_neg hjk, HA.out j (by omega), List.getD_eq_getElem?_getD, List.getD_eq_getElem?_getD, List.getElem?_append_left (by omega)]⟩
          have HB2 : Aside0 (∀ m1, Below w.heap.size w (((wr.drewN m1).setCell ⟨w.heap.size, k, none⟩ (.int .u64 (v : Int))).drew)) := ⟨fun m1 => below_drew (Below.setCell (pw_below_drewN HB.out m1) (p := ⟨w.heap.size, k, none⟩) (Nat.le_refl _) _)⟩
          clear hrun hread hvl2
          go_wp2_with fail
          refine HCALL.out.mono ?_
          rintro e w1 ⟨rfl, ⟨m1, rfl⟩⟩
          unfold Triple
          go_wp2_with fail
          go_region
          go_wp2_with fail
          go_roundw
          case rel => exact ⟨⟨k + 1, _, _, A2, n1 - i, c2, _, by omega, by go_num, rfl, HI2.out, by omega, HST.out, blk_set HK.out k (.int .u64 (v : Int)), by rw [Array.size_setIfInBounds]; exact HSZ.out, HA2.out, HB2.out m1⟩⟩
          case measure => simp [intOf]; omega
        · have hvl : (128 : Int) < (v : Int) := by omega
          have hX := HEND.out (fun hh => hv hh.2)
          go_wp2_with fail
          refine HCALL.out.mono ?_
          rintro e w1 ⟨rfl, ⟨m1, rfl⟩⟩
          unfold Triple
          go_wp2_with fail
          go_ret2
          show UnrOut w (unpackX limR B) _ _
          rw [hX]
          exact ⟨pw_below_drewN HB.out _, rfl⟩
      · have hX := HEND.out (fun hh => hz hh.1)
        go_wp2_with fail
        refine HCALL.out.mono ?_
        rintro e w1 ⟨rfl, ⟨m1, rfl⟩⟩
        unfold Triple
        go_wp2_with fail
        go_ret2
        show UnrOut w (unpackX limR B) _ _
        rw [hX]
        exact ⟨pw_below_drewN HB.out _, rfl⟩
    · have hk3 : k = 3 := by omega
      subst hk3
      have hX0 := headX_takes_none (B := B)
      obtain ⟨hl3, hall⟩ := takesX_length 3 B vs B1 HT.out
      obtain ⟨a1, a2, a3, rfl⟩ : ∃ a1 a2 a3, vs = [a1, a2, a3] := by
        match vs, hl3 with
        | [a, b, c], _ => exact ⟨a, b, c, rfl⟩
      have ha1 : a1 ≤ 128 := hall a1 (by simp)
      have ha2 : a2 ≤ 128 := hall a2 (by simp)
      have ha3 : a3 ≤ 128 := hall a3 (by simp)
      have HHEAD := Aside0.mk (headX_takes HT.out)
      have hr0 := (blk_cell HK.out 0).trans (HA.out 0 (by omega))
      have hr1 := (blk_cell HK.out 1).trans (HA.out 1 (by omega))
      have HR2 := Aside0.mk (HA.out 2 (by omega))
      simp only [List.getD_cons_zero, List.getD_cons_succ] at hr0 hr1 HR2
      have hi2 : (0 : Int) < 3 := by omega
      have hi3 : (1 : Int) < 3 := by omega
      clear hX0 hl3 hall HT HCALL hlt hk
      have hq : a1 * a2 ≤ 128 * 128 := Nat.mul_le_mul ha1 ha2
      have hmul := mul_w a1 a2 (by omega)
      obtain ⟨q, hqe⟩ : ∃ q, q = a1 * a2 := ⟨_, rfl⟩
      rw [← hqe] at hmul hq
      obtain ⟨s, hs⟩ : ∃ s, s = sizeX a1 a2 := ⟨_, rfl⟩
      have hs' : s = (q + 7) / 8 := by rw [hs, hqe]; rfl
      have hs8 : ((q : Int) + 7) / 8 = (s : Int) := by omega
      have hsq : q ≤ 8 * s := by omega
      have HS := Aside0.mk hs
      have HQE := Aside0.mk hqe
      clear hs hqe hs'
      go_wp2_with fail
      go_quiet (fail)
      by_cases hw31 : a2 ≤ 31
      · rw [if_pos hw31] at HHEAD
        by_cases hlt2 : n1 < s
        · have hlt3 : (n1 : Int) < (s : Int) := by omega
          have hX : unpackX limR B = none := by
            have : rawX limR B = none := by
              unfold rawX
              rw [HHEAD.out]
              simp only
              rw [if_pos (by rw [HI.out.1, ← HS.out]; exact hlt2)]
            unfold unpackX
            rw [this]
          go_wp2_with fail
          go_ret2
          show UnrOut w (unpackX limR B) _ _
          rw [hX]
          exact ⟨pw_below_drewN HB.out _, rfl⟩
        have hge : ¬ (n1 : Int) < (s : Int) := by omega
        have hle : s ≤ n1 := by omega
        have hqn : q ≤ 8 * n1 := by omega
        have hq31 : q ≤ 128 * 31 := by rw [HQE.out]; exact Nat.mul_le_mul ha1 hw31
        obtain ⟨L, hL⟩ : ∃ L, L = unpackL B1 q := ⟨_, rfl⟩
        have HLL : Aside0 (L.length = q) := ⟨by rw [hL, unpackL_length]⟩
        have HL := Aside0.mk hL
        have HX : Aside0 (rawX limR B = excX 2147483648 a2 a3 (B1.drop s) 0 (lowV L a1 a2)) := ⟨by
          unfold rawX
          rw [HHEAD.out]
          simp only
          rw [if_neg (by rw [HI.out.1, ← HS.out]; omega), ← HS.out, ← HQE.out, ← hL]
          rfl⟩
        clear hL hlt2
        obtain ⟨A2, c2, hrun, hread⟩ := drop_bytes A1 n1 c1 B1 s HI.out.1 hle HI.out.2.1
        have hrun2 := fun W => hrun (s : Int) W rfl
        have HI2 := Aside0.mk (hread w HI.out)
        have hmake := print_make (P := Try.prog) 40 3 .i64 8 Try.underlying40 Refs.info3 (by omega) a1 (by omega)
        clear hrun hread hr0 hr1
        go_wp2_with fail
        refine (unpackRef_call A1 n1 c1 B1 _ q _ (HI.out.below (pw_below_drewN HB.out _)) rfl hqn hn1).mono ?_
        rintro e w2 ⟨v2, rfl, hr2, hb2⟩
        rw [← HL.out] at hr2
        have ho2 := own_less (Kd.own_of_R hr2) (pw_below_drewN HB.out _).size
        rw [HLL.out] at ho2
        obtain ⟨Ab, cb, hv2⟩ := own_slice ho2
        subst hv2
        have hbb := below_step (pw_below_drewN HB.out _) hb2
        have hal := below_alloc (Below.refl w2.heap.size w2) (.cells (madeCells #[.int .i64 0] a1) 3)
        have hal2 := below_step hbb hal
        have HXK : Aside0 (XK w arr Ab q cb L w2.heap.size a1 (List.replicate a1 0) (w2.alloc (.cells (madeCells #[.int .i64 0] a1) 3))) := ⟨⟨blk_below (blk_below (w := wr.drewN nq) HK.out hb2) hal, pw_own_below ho2 hal, Vr.made w2 w.heap.size a1 hbb.size (by omega), hal2⟩⟩
        clear hr2 ho2 hb2 hbb hal hal2
        go_wp2_with fail
        generalize hgv : w2.heap.size = gv at HXK ⊢
        go_loopw [15, 17, 79, 92] (fun _ _ iv _ w' => X2Rel w arr Ab q cb L gv a1 a2 iv w') (fun _ _ iv _ _ => a1 - (intOf iv).toNat)
        case atStart => exact ⟨⟨0, Nat.zero_le _, rfl, HXK.out⟩⟩
        case round =>
          obtain ⟨k, hk, rfl, hxk⟩ := hrel.out
          clear hrel
          have HXK2 := Aside0.mk hxk
          clear hxk HXK
          by_cases hlt : k < a1
          · have hkw : k * a2 + a2 ≤ q := by rw [HQE.out, ← Nat.succ_mul]; exact Nat.mul_le_mul_right _ hlt
            have hm1 := mul_w k a2 (by omega)
            have hm2 := mul_w (k + 1) a2 (by rw [Nat.succ_mul]; omega)
            have HSUC := Aside0.mk (lowV_succ L k a2 a1 hlt)
            obtain ⟨p, hp⟩ : ∃ p, p = k * a2 := ⟨_, rfl⟩
            have HP := Aside0.mk hp
            rw [Nat.succ_mul, ← hp] at hm2
            rw [← hp] at hm1 hkw HSUC
            clear hp
            have hm2' : IntKind.i64.wrap (((k : Int) + 1) * (a2 : Int)) = (p : Int) + (a2 : Int) := by
              have e : ((k : Int) + 1) = ((k + 1 : Nat) : Int) := by omega
              rw [e, hm2]; omega
            obtain ⟨hqc, hbits⟩ := own_CBn HXK2.out.bits HLL.out
            obtain ⟨A', c', hkc, hrun, hread⟩ := mid_bitsU Ab cb q L p a2 HLL.out hkw hqc
            have hrun2 := fun W => hrun (p : Int) ((p : Int) + (a2 : Int)) W rfl (by omega)
            obtain ⟨M, hM⟩ : ∃ M, M = (L.drop p).take a2 := ⟨_, rfl⟩
            have HML : Aside0 (M.length = a2) := ⟨by rw [hM, List.length_take, List.length_drop, HLL.out]; omega⟩
            rw [← hM] at hread HSUC
            have HREAD : Aside0 (∀ W : World, W.ownsRow w.heap.size 4 1 (.slice Ab q cb) q (encs Value.bool L) → Kd.C Kd.bool W A' a2 M) := ⟨fun W h => hread W (own_CBn h HLL.out).2⟩
            have HZ := Aside0.mk (lowV_zero L k a2 a1 hlt)
            obtain ⟨xs, hxs⟩ : ∃ xs, xs = lowV L k a2 ++ List.replicate (a1 - k) 0 := ⟨_, rfl⟩
            rw [← hxs] at HXK2 HZ HSUC
            have HXL : Aside0 (xs.length = a1) := ⟨HXK2.out.vals.1⟩
            clear hxs hM hm2 hrun hread hbits hqc
            go_wp2_with fail
            go_loopw [17, 92] (fun _ jv w' => X3Rel w arr Ab q cb L gv a1 a2 k xs M jv w') (fun _ jv _ => a2 - (intOf jv).toNat)
            case atStart => exact ⟨⟨0, Nat.zero_le _, rfl, by rw [List.take_zero]; exact HZ.out.symm ▸ HXK2.out⟩⟩
            case round =>
              obtain ⟨j, hj, rfl, hxj⟩ := hrel.out
              clear hrel
              have HXJ := Aside0.mk hxj
              clear hxj
              by_cases hjt : j < a2
              · have hreads := (Kd.reads_of_C (d := false) (HREAD.out _ HXJ.out.bits)).2.2 (by omega)
                obtain ⟨ad, hA', hcell⟩ := hreads
                subst hA'
                obtain ⟨bt, hbt⟩ : ∃ bt, bt = M.getD j false := ⟨_, rfl⟩
                have hbit : wr.cell? (ad.add j) = some (.bool bt) := by rw [hcell j hjt, hbt]
                obtain ⟨v, hv⟩ : ∃ v, v = numL (M.take j) := ⟨_, rfl⟩
                have HV : Aside0 (v < 2 ^ 31) := ⟨by
                  rw [hv]
                  refine Nat.lt_of_lt_of_le (numL_lt _) (Nat.pow_le_pow_right (by omega) ?_)
                  rw [List.length_take]; omega⟩
                have HNX : Aside0 (numL (M.take (j + 1)) = 2 * v + bt.toNat) := ⟨by rw [take_snocU M j (by rw [HML.out]; exact hjt), numL_snoc, ← hv, ← hbt]⟩
                rw [← hv] at HXJ
                obtain ⟨hc1, hf1⟩ := HXJ.out.vals.cell k hlt
                have hg1 : ∀ u : Nat, (xs.set k u).getD k 0 = u := fun u => by
                  rw [List.getD_eq_getElem?_getD, List.getElem?_set_self (by rw [HXL.out]; exact hlt)]; rfl
                rw [hg1] at hc1
                obtain ⟨u, hu⟩ : ∃ u, u = 2 * v := ⟨_, rfl⟩
                obtain ⟨u1, hu1⟩ : ∃ u1, u1 = u + 1 := ⟨_, rfl⟩
                have hw1 : IntKind.i64.wrap ((v : Int) * 2) = (u : Int) := by
                  have := HV.out
                  rw [show (v : Int) * 2 = (u : Int) by omega]
                  exact IntWalk.i64_in _ (by omega)
                have hw2 : IntKind.i64.wrap ((u : Int) + 1) = (u1 : Int) := by
                  have := HV.out
                  rw [show (u : Int) + 1 = (u1 : Int) by omega]
                  exact IntWalk.i64_in _ (by omega)
                have HX1 : Aside0 (XK w arr Ab q cb L gv a1 (xs.set k u) (wr.setCell ⟨gv, k, none⟩ (.int .i64 (u : Int)))) := ⟨by
                  have := HXJ.out.set k u
                  rwa [List.set_set] at this⟩
                have HX2 : Aside0 (XK w arr Ab q cb L gv a1 (xs.set k u1) ((wr.setCell ⟨gv, k, none⟩ (.int .i64 (u : Int))).setCell ⟨gv, k, none⟩ (.int .i64 (u1 : Int)))) := ⟨by
                  have := HX1.out.set k u1
                  rwa [List.set_set] at this⟩
                obtain ⟨hc2, hf2⟩ := HX1.out.vals.cell k hlt
                rw [hg1] at hc2
                rw [← hu] at HNX
                have HU1 := Aside0.mk hu1
                clear hu hu1 hv hbt hcell hg1
                cases bt with
                | true =>
                  go_wp2_with fail
                  go_roundw
                  case rel => exact ⟨⟨j + 1, by omega, by go_num, by rw [HNX.out, show u + true.toNat = u1 from HU1.out.symm]; exact HX2.out⟩⟩
                  case measure => simp [intOf]; omega
                | false =>
                  go_wp2_with fail
                  go_roundw
                  case rel => exact ⟨⟨j + 1, by omega, by go_num, by rw [HNX.out]; exact HX1.out⟩⟩
                  case measure => simp [intOf]; omega
              · have hja : j = a2 := by omega
                subst hja
                go_wp2_with fail
                go_roundw
                case rel => exact ⟨⟨k + 1, by omega, by go_num, by rw [← HSUC.out]; have := HXJ.out; rwa [← HML.out, List.take_length] at this⟩⟩
                case measure => simp [intOf]; omega
          · have hka : k = a1 := by omega
            subst hka
            have HX0 : Aside0 (∀ v ∈ lowV L k a2, v < 2 ^ 63) := ⟨fun v hv => Nat.lt_of_lt_of_le (lowV_bound L k a2 hw31 v hv) (Nat.pow_le_pow_right (by omega) (by omega))⟩
            rw [Nat.sub_self, List.replicate_zero, List.append_nil] at HXK2
            go_wp2_with fail
            go_loopw [5, 18, 19, 20, 21, 22, 23, 24] (fun restv atv kv _ _ _ _ _ w' => X4Rel w arr Ab q cb L gv k a2 a3 (rawX limR B) restv atv kv w') (fun _ _ kv _ _ _ _ _ _ => a3 - (intOf kv).toNat)
            case atStart => exact ⟨⟨0, 0, _, A2, n1 - s, c2, _, Nat.zero_le _, rfl, rfl, HI2.out, by omega, Nat.zero_le _, rfl, HXK2.out, HX0.out, HX.out⟩⟩
            case round =>
              obtain ⟨x, a, B4, A4, n4, c4, xs, hx, rfl, rfl, hin4, hn4, ha, hatv, hxk, hxs, hR⟩ := hrel.out
              clear hrel
              have HI4 := Aside0.mk hin4
              have HXK4 := Aside0.mk hxk
              have HXS := Aside0.mk hxs
              have HR := Aside0.mk hR
              have HXL := Aside0.mk hxk.vals.1
              have harr2 := (blk_cell hxk.arr 2).trans HR2.out
              obtain ⟨t0, ht0⟩ : ∃ t0 : Int, t0 = (a : Int) - 1 := ⟨_, rfl⟩
              rw [← ht0] at hatv
              subst hatv
              have HT0 := Aside0.mk ht0
              clear ht0 hin4 hxk hxs hR HXK2 hrun2 hmake
              by_cases hlt4 : x < a3
              · have hle4 := takeL_le B4
                have HC1 := Aside0.mk (take_call A4 n4 c4 B4 wr (HI4.out.below HXK4.out.below) hn4)
                obtain ⟨⟨g, i, z1⟩, hT1⟩ : ∃ T, takeL B4 = T := ⟨_, rfl⟩
                rw [hT1] at hle4 HC1
                simp only at hle4
                rw [HI4.out.1] at hle4
                have hle5 := takeL_le (B4.drop i)
                obtain ⟨⟨h, j, z2⟩, hT2⟩ : ∃ T, takeL (B4.drop i) = T := ⟨_, rfl⟩
                rw [hT2, List.length_drop, HI4.out.1] at hle5
                simp only at hle5
                have HEX : Aside0 (rawX limR B = if z1 = 0 ∧ z2 = 0 ∧ g ≤ 128 ∧ h ≤ 2147483648 ∧ 1 ≤ a + g ∧ a + g ≤ k then excX 2147483648 a2 (a3 - (x + 1)) (B4.drop (i + j)) (a + g) (xs.set (a + g - 1) (xs.getD (a + g - 1) 0 ||| h * 2 ^ a2)) else none) := ⟨by
                  rw [HR.out, show a3 - x = (a3 - (x + 1)) + 1 by omega, ← HXL.out]
                  exact excX_ref _ _ _ _ _ _ hT1 hT2⟩
                have HBAD : Aside0 (¬ (z1 = 0 ∧ z2 = 0 ∧ g ≤ 128 ∧ h ≤ 2147483648 ∧ 1 ≤ a + g ∧ a + g ≤ k) → unpackX limR B = none) := ⟨fun hh => by
                  unfold unpackX
                  rw [HEX.out, if_neg hh]⟩
                obtain ⟨A5, c5, hrun5, hread5⟩ := drop_bytes A4 n4 c4 B4 i HI4.out.1 hle4 HI4.out.2.1
                have hrun5' := fun W => hrun5 (i : Int) W rfl
                have HI5 := Aside0.mk (hread5 w HI4.out)
                have HC2 : Aside0 (∀ m, Calls Try.prog 30 #[.slice A5 (n4 - i) c5] (wr.drewN m) fun e w' => e = .returned (Triple (h, j, z2)) ∧ Drawn0 (wr.drewN m) w') := ⟨fun m => by
                  have := take_call A5 (n4 - i) c5 (B4.drop i) (wr.drewN m) (HI5.out.below (pw_below_drewN HXK4.out.below m)) (by omega)
                  rwa [hT2] at this⟩
                clear hT1 hT2 hrun5 hread5 HIN HN HK HSZ HB HI HI2 HA HX HX0
                by_cases hz1 : z1 = 0
                · subst hz1
                  go_wp2_with fail
                  refine HC1.out.mono ?_
                  rintro e w5 ⟨rfl, ⟨m5, rfl⟩⟩
                  unfold Triple
                  go_wp2_with fail
                  refine (HC2.out m5).mono ?_
                  rintro e w6 ⟨rfl, ⟨m6, rfl⟩⟩
                  unfold Triple
                  by_cases hz2 : z2 = 0
                  · subst hz2
                    by_cases hg : g ≤ 128
                    · have hgl : ¬ (128 : Int) < (g : Int) := by omega
                      have hgw : IntKind.i64.wrap (g : Int) = (g : Int) := IntWalk.i64_in _ (by omega)
                      obtain ⟨t, ht⟩ : ∃ t : Int, t = t0 + (g : Int) := ⟨_, rfl⟩
                      have hadd : IntKind.i64.wrap (t0 + (g : Int)) = t := by rw [ht]; have := HT0.out; exact IntWalk.i64_in _ (by omega)
                      have HT := Aside0.mk ht
                      clear ht
                      by_cases hbig : a + g ≤ k
                      · by_cases hsm : 1 ≤ a + g
                        · obtain ⟨jx, hjx⟩ : ∃ jx, a + g = jx + 1 := ⟨a + g - 1, by omega⟩
                          have htj : t = (jx : Int) := by have := HT0.out; have := HT.out; omega
                          subst htj
                          have hjm : jx < k := by omega
                          have hjn : ¬ (k : Int) ≤ (jx : Int) := by omega
                          by_cases hh : h ≤ 2147483648
                          · obtain ⟨A6, c6, hrun6, hread6⟩ := drop_bytes A4 n4 c4 B4 (i + j) HI4.out.1 (by omega) HI4.out.2.1
                            have hrun6' := fun W => hrun6 ((i : Int) + (j : Int)) W (by omega)
                            have HI6 := Aside0.mk (hread6 w HI4.out)
                            obtain ⟨hcell, hfroz⟩ := HXK4.out.vals.cell jx hjm
                            obtain ⟨xv, hxv⟩ : ∃ xv, xv = xs.getD jx 0 := ⟨_, rfl⟩
                            have hxl : xv < 2 ^ 63 := by
                              rw [hxv, List.getD_eq_getElem?_getD]
                              cases hgg : xs[jx]? with
                              | none => exact Nat.two_pow_pos 63
                              | some u => exact HXS.out u (List.mem_of_getElem? hgg)
                            have hpow : 2 ^ a2 ≤ 2147483648 := Nat.pow_le_pow_right (by omega) hw31
                            have hyl : h * 2 ^ a2 ≤ 2147483648 * 2147483648 := Nat.mul_le_mul hh hpow
                            obtain ⟨y, hy⟩ : ∃ y, y = h * 2 ^ a2 := ⟨_, rfl⟩
                            have HOB := Aside0.mk (or_bound xs jx y 63 HXS.out (by omega))
                            rw [if_pos (by refine ⟨?_, ?_, hg, hh, hsm, hbig⟩ <;> trivial), hjx, Nat.add_sub_cancel, ← hxv, ← hy] at HEX
                            rw [← hxv] at hcell HOB
                            rw [← hy] at hyl
                            have hyi : (h : Int) * 2 ^ a2 = (y : Int) := by rw [hy]; simp
                            have hshl : IntKind.i64.wrap ((h : Int) * 2 ^ a2) = (y : Int) := by rw [hyi]; exact IntWalk.i64_in _ (by omega)
                            have hor := or_i64_nat xv y (by omega) (by omega)
                            have hhl : ¬ (2147483648 : Int) < (h : Int) := by omega
                            have HXK5 := Aside0.mk ((HXK4.out.drewN (m5 + m6)).set jx (xv ||| y))
                            have HHH := Aside0.mk hh
                            clear hy hxv hrun6 hread6 hpow
                            go_wp2_with fail
                            go_roundw
                            case rel => exact ⟨⟨x + 1, jx + 1, _, A6, n4 - (i + j), c6, _, by omega, by go_num, rfl, HI6.out, by omega, by omega, by congr 1; omega, HXK5.out, HOB.out, HEX.out⟩⟩
                            case measure => simp [intOf]; omega
                          · have hhl : (2147483648 : Int) < (h : Int) := by omega
                            have hX := HBAD.out (fun h7 => hh h7.2.2.2.1)
                            go_wp2_with fail
                            go_ret2
                            show UnrOut w (unpackX limR B) _ _
                            rw [hX]
                            exact ⟨pw_below_drewN HXK4.out.below _, rfl⟩
                        · have htn : t < 0 := by have := HT0.out; have := HT.out; omega
                          have htk : ¬ (k : Int) ≤ t := by omega
                          have hX := HBAD.out (fun hh => hsm hh.2.2.2.2.1)
                          go_wp2_with fail
                          go_ret2
                          show UnrOut w (unpackX limR B) _ _
                          rw [hX]
                          exact ⟨pw_below_drewN HXK4.out.below _, rfl⟩
                      · have htk : (k : Int) ≤ t := by have := HT0.out; have := HT.out; omega
                        have hX := HBAD.out (fun hh => hbig hh.2.2.2.2.2)
                        go_wp2_with fail
                        go_ret2
                        show UnrOut w (unpackX limR B) _ _
                        rw [hX]
                        exact ⟨pw_below_drewN HXK4.out.below _, rfl⟩
                    · have hgl : (128 : Int) < (g : Int) := by omega
                      have hX := HBAD.out (fun hh => hg hh.2.2.1)
                      go_wp2_with fail
                      go_ret2
                      show UnrOut w (unpackX limR B) _ _
                      rw [hX]
                      exact ⟨pw_below_drewN HXK4.out.below _, rfl⟩
                  · skip
                    have hX := HBAD.out (fun hh => hz2 hh.2.1)
                    go_wp2_with fail
                    go_ret2
                    show UnrOut w (unpackX limR B) _ _
                    rw [hX]
                    exact ⟨pw_below_drewN HXK4.out.below _, rfl⟩
                · have hX := HBAD.out (fun hh => hz1 hh.1)
                  go_wp2_with fail
                  refine HC1.out.mono ?_
                  rintro e w5 ⟨rfl, ⟨m5, rfl⟩⟩
                  unfold Triple
                  go_wp2_with fail
                  go_ret2
                  show UnrOut w (unpackX limR B) _ _
                  rw [hX]
                  exact ⟨pw_below_drewN HXK4.out.below _, rfl⟩
              · have hxa : x = a3 := by omega
                subst hxa
                have hraw : rawX limR B = some xs := by rw [HR.out, Nat.sub_self, excX]
                have hBn : B.length = n := HIN.out.1
                subst hBn
                have HB9 := Aside0.mk (below_drew HXK4.out.below)
                have HC9 : Aside0 (Kd.C (Kd.int .u8) wr.drew A B.length B) := ⟨Kd.C_drew (HIN.out.below HXK4.out.below).2.2.2⟩
                have HV9 : Aside0 (Vr wr.drew w.heap.size gv k xs) := ⟨HXK4.out.vals.drew⟩
                have HI9 : Aside0 (InInts wr.drew (some ⟨gv, 0, none⟩) k k (ints xs)) := ⟨HV9.out.asInts⟩
                obtain ⟨SB, hSB⟩ : ∃ S, S = strOfNums B := ⟨_, rfl⟩
                have hs0 : (Go.convert 22 9 (.slice A B.length c)).run Try.prog wr.drew = .ok (.string SB) wr.drew := hSB ▸ Kd.C_string (P := Try.prog) (A := A) (c := c) Try.underlying22 Try.underlying5 Try.underlying9 HC9.out
                have HSB := Aside0.mk hSB
                have HBI := Aside0.mk HIN.out.2.2.1
                clear hSB hlt4 hx
                by_cases hck : checkV (ints xs) = 0
                · obtain ⟨us, hus, hok⟩ := checkV_ok hck
                  have hue : xs = us := by rw [← ints_toNat xs, hus, ints_toNat]
                  subst hue
                  have HOK := Aside0.mk hok
                  have HCH := Aside0.mk hck
                  obtain ⟨E, hE⟩ : ∃ E, E = encL xs (bestL xs) := ⟨_, rfl⟩
                  have HUX : Aside0 (unpackX limR B = if E = B then some xs else none) := ⟨by
                    unfold unpackX
                    rw [hraw]
                    simp only
                    rw [packV_ints hok, ← hE]⟩
                  have HEB : Aside0 (IsBytes E) := ⟨hE ▸ encL_bytes xs _⟩
                  have HEE := Aside0.mk hE
                  obtain ⟨SE, hSE⟩ : ∃ S, S = strOfNums E := ⟨_, rfl⟩
                  have HSE := Aside0.mk hSE
                  clear hE hok hck hus hraw hSE
                  by_cases hEB : E = B
                  · have hSS : SE = SB := by rw [HSE.out, HSB.out, hEB]
                    have HEBE := Aside0.mk hEB
                    clear hEB
                    have HSE2 : Aside0 (SE = strOfNums B) := ⟨hSS.trans HSB.out⟩
                    clear HSB
                    have hs0' : (Go.convert 22 9 (.slice A B.length c)).run Try.prog wr.drew = .ok (.string SE) wr.drew := hSS ▸ hs0
                    clear hs0
                    go_wp2_with fail
                    go_region_with (first | (go_at_call 31; (with_reducible refine (checkRef_any (some ⟨gv, 0, none⟩) k k (ints xs) _ HI9.out).mono ?_); rintro e w5 ⟨rfl, hb5⟩; rw [HCH.out]; have hc := Kd.C_below HC9.out hb5; have hs6 : (Go.convert 22 9 (.slice A B.length c)).run Try.prog w5 = .ok (.string SE) w5 := HSE2.out ▸ Kd.C_string (P := Try.prog) (A := A) (c := c) Try.underlying22 Try.underlying5 Try.underlying9 hc; have hi := HI9.out.below hb5; have hv := HV9.out.below hb5; have hbb := below_step HB9.out hb5; clear HC9 HI9 HV9 HB9 hb5; have HC9 := Aside0.mk hc; have HI9 := Aside0.mk hi; have HV9 := Aside0.mk hv; have HB9 := Aside0.mk hbb; clear hc hi hv hbb) | (go_at_call 44; (with_reducible refine (packRef15_any (some ⟨gv, 0, none⟩) k k xs _ HI9.out HOK.out).mono ?_); rintro e w5 hm5; rw [← HEE.out] at hm5; obtain ⟨A7, c7, rfl, hc7, ho7, hC7, hb5⟩ := made_own hm5; have hs7 : (Go.convert 22 9 (.slice A7 E.length c7)).run Try.prog w5 = .ok (.string SE) w5 := HSE.out ▸ Kd.C_string (P := Try.prog) (A := A7) (c := c7) Try.underlying22 Try.underlying5 Try.underlying9 hC7; have hc := Kd.C_below HC9.out hb5; have hs6 : (Go.convert 22 9 (.slice A B.length c)).run Try.prog w5 = .ok (.string SE) w5 := HSE2.out ▸ Kd.C_string (P := Try.prog) (A := A) (c := c) Try.underlying22 Try.underlying5 Try.underlying9 hc; have hi := HI9.out.below hb5; have hv := HV9.out.below hb5; have hbb := below_step HB9.out hb5; clear HC9 HI9 HV9 HB9 hm5 hc7 ho7 hC7 hb5; have HC9 := Aside0.mk hc; have HI9 := Aside0.mk hi; have HV9 := Aside0.mk hv; have HB9 := Aside0.mk hbb; clear hc hi hv hbb))
                    all_goals (go_wp2_with fail; go_ret2; show UnrOut w (unpackX limR B) _ _; rw [HUX.out, if_pos HEBE.out]; exact ⟨HB9.out, gv, by rw [HXL.out]; rfl, by rw [HXL.out]; exact HV9.out⟩)
                  · have hne1 : (SE.toList == SB.toList) = false := by rw [HSE.out, HSB.out, str_eq E B HEB.out HBI.out, decide_eq_false hEB]
                    have hne2 : ¬ SE.toList = SB.toList := by simpa using hne1
                    have hne3 : ¬ SE = SB := fun h => hne2 (by rw [h])
                    go_wp2_with fail
                    go_region_with (first | (go_at_call 31; (with_reducible refine (checkRef_any (some ⟨gv, 0, none⟩) k k (ints xs) _ HI9.out).mono ?_); rintro e w5 ⟨rfl, hb5⟩; rw [HCH.out]; have hc := Kd.C_below HC9.out hb5; have hs6 : (Go.convert 22 9 (.slice A B.length c)).run Try.prog w5 = .ok (.string SB) w5 := HSB.out ▸ Kd.C_string (P := Try.prog) (A := A) (c := c) Try.underlying22 Try.underlying5 Try.underlying9 hc; have hi := HI9.out.below hb5; have hv := HV9.out.below hb5; have hbb := below_step HB9.out hb5; clear HC9 HI9 HV9 HB9 hb5; have HC9 := Aside0.mk hc; have HI9 := Aside0.mk hi; have HV9 := Aside0.mk hv; have HB9 := Aside0.mk hbb; clear hc hi hv hbb) | (go_at_call 44; (with_reducible refine (packRef15_any (some ⟨gv, 0, none⟩) k k xs _ HI9.out HOK.out).mono ?_); rintro e w5 hm5; rw [← HEE.out] at hm5; obtain ⟨A7, c7, rfl, hc7, ho7, hC7, hb5⟩ := made_own hm5; have hs7 : (Go.convert 22 9 (.slice A7 E.length c7)).run Try.prog w5 = .ok (.string SE) w5 := HSE.out ▸ Kd.C_string (P := Try.prog) (A := A7) (c := c7) Try.underlying22 Try.underlying5 Try.underlying9 hC7; have hc := Kd.C_below HC9.out hb5; have hs6 : (Go.convert 22 9 (.slice A B.length c)).run Try.prog w5 = .ok (.string SB) w5 := HSB.out ▸ Kd.C_string (P := Try.prog) (A := A) (c := c) Try.underlying22 Try.underlying5 Try.underlying9 hc; have hi := HI9.out.below hb5; have hv := HV9.out.below hb5; have hbb := below_step HB9.out hb5; clear HC9 HI9 HV9 HB9 hm5 hc7 ho7 hC7 hb5; have HC9 := Aside0.mk hc; have HI9 := Aside0.mk hi; have HV9 := Aside0.mk hv; have HB9 := Aside0.mk hbb; clear hc hi hv hbb))
                    all_goals (go_wp2_with fail; go_ret2; show UnrOut w (unpackX limR B) _ _; rw [HUX.out, if_neg hEB]; exact ⟨HB9.out, rfl⟩)
                · have hX : unpackX limR B = none := by
                    unfold unpackX
                    rw [hraw]
                    simp only
                    rw [if_neg]
                    intro hp
                    unfold packV at hp
                    rw [if_neg hck] at hp
                    have h1 := HHEAD.out
                    rw [← hp, headX_nil] at h1
                    cases h1
                  clear hraw
                  rcases checkV_cases (ints xs) with h0 | h2 | h8
                  · exact absurd h0 hck
                  · have HIQ : Aside0 (InInts wr (some ⟨gv, 0, none⟩) k k (ints xs)) := ⟨HXK4.out.vals.asInts⟩
                    have HCV := Aside0.mk h2
                    clear hck h2 HB9 HC9 HV9 HI9 hs0
                    go_wp2_with fail
                    go_quiet ((go_at_call 31; exact Calls.quiet_of ((checkRef_q (some ⟨gv, 0, none⟩) k k (ints xs) 2 _ (HIQ.out.drewN _) HCV.out).mono (fun _ _ h => ⟨h.1, h.2.out⟩))))
                    go_wp2_with fail
                    go_ret2
                    show UnrOut w (unpackX limR B) _ _
                    rw [hX]
                    exact ⟨pw_below_drewN HXK4.out.below _, rfl⟩
                  · have HIQ : Aside0 (InInts wr (some ⟨gv, 0, none⟩) k k (ints xs)) := ⟨HXK4.out.vals.asInts⟩
                    have HCV := Aside0.mk h8
                    clear hck h8 HB9 HC9 HV9 HI9 hs0
                    go_wp2_with fail
                    go_quiet ((go_at_call 31; exact Calls.quiet_of ((checkRef_q (some ⟨gv, 0, none⟩) k k (ints xs) 8 _ (HIQ.out.drewN _) HCV.out).mono (fun _ _ h => ⟨h.1, h.2.out⟩))))
                    go_wp2_with fail
                    go_ret2
                    show UnrOut w (unpackX limR B) _ _
                    rw [hX]
                    exact ⟨pw_below_drewN HXK4.out.below _, rfl⟩
      · have hgt : (31 : Int) < (a2 : Int) := by omega
        have hX : unpackX limR B = none := by unfold unpackX rawX; rw [HHEAD.out, if_neg hw31]
        go_wp2_with fail
        go_ret2
        show UnrOut w (unpackX limR B) _ _
        rw [hX]
        exact ⟨pw_below_drewN HB.out _, rfl⟩
end Go.Proofs.Ytbfnckjnpbgmaaa
