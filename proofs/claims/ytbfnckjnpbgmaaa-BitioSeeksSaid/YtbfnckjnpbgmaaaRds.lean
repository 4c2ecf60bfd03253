/- The walk of BitioReads: the result, the error and the position of each reading call. For at most 700 bytes and 12 calls. -/
import Derived.Test.YtbfnckjnpbgmaaaRfr
import Derived.Test.YtbfnckjnpbgmaaaRnw
import Derived.Test.YtbfnckjnpbgmaaaAwa
namespace Go.Proofs.Ytbfnckjnpbgmaaa
open Go.RowKit Go.Proofs.YtbfnckjnpbgmaaaW.PrintWords Go.Proofs.YtbfnckjnpbgmaaaW.PrintLast Go.Proofs.YtbfnckjnpbgmaaaW.PrintMore
set_option linter.unusedVariables false

structure RRel (w : World) (n g : Nat) (L : List Bool) (Ab : Option Addr) (cb : Nat) (px i : Value) (w' : World) : Prop where
  out : ∃ k p : Nat, k ≤ n ∧ i = .int .i64 (k : Int) ∧ p ≤ L.length ∧ px = .int .i64 (p : Int) ∧ Rd w' w.heap.size g p L ∧
    w'.ownsRow w.heap.size 4 1 (.slice Ab L.length cb) L.length (encs Value.bool L) ∧ Below w.heap.size w w'
/-- A row of bools beside a Reader that is moved. -/
theorem bools_beside {w w1 : World} {base base' g p n : Nat} {L : List Bool} {v : Value} {xs : List Value} (h : w.ownsRow base 4 1 v n xs) (hr : Rd w base' g p L) (hw : Wrote w w1 g none none) : w1.ownsRow base 4 1 v n xs := by
  obtain ⟨A, c, B, h1, _⟩ := hr
  exact hw.own h (fun e => own_ne h h1 (by decide) e.symm) (Classical.em _)

set_option maxHeartbeats 2000000 in
set_option maxRecDepth 100000 in
theorem reads_walk (A : Option Addr) (n c : Nat) (B : List Int) (x : Int) (A2 : Option Addr) (n2 c2 : Nat) (cs : List CallT) (w : World) (hin : InBytes w A n c B) (hic : InCalls w A2 n2 c2 cs) :
    Calls Try.prog 16 #[.slice A n c, .int .i64 x, .slice A2 n2 c2] w fun e w' => e = .returned (.bool true) ∧ Below w.heap.size w w' := by
  have HINB := Aside0.mk hin
  have HIN := Aside0.mk hic
  clear hin hic
  by_cases h700 : 700 < n
  · go_enter Try.func16, Try.ntmps16
    go_wp2_with fail
    go_ret
    exact ⟨rfl, Below.refl _ _⟩
  by_cases h12 : 12 < n2
  · go_enter Try.func16, Try.ntmps16
    go_wp2_with fail
    go_ret
    exact ⟨rfl, Below.refl _ _⟩
  by_cases hx : x < 0 ∨ 8 * (n : Int) < x
  · have HE := Aside0.mk (newReader_err A n c x w hx (by omega))
    by_cases h0 : x < 0
    · clear hx
      go_enter Try.func16, Try.ntmps16
      go_wp2_with fail
      refine HE.out.mono ?_
      rintro e w1 ⟨rfl, rfl⟩
      go_wp2_with fail
      refine (awake_any _).mono ?_
      rintro e w3 ⟨rfl, hb3⟩
      have HB3 := Aside0.mk hb3
      clear hb3
      go_wp2_with fail
      go_ret
      exact ⟨rfl, HB3.out⟩
    · have h1 : 8 * (n : Int) < x := by omega
      clear hx
      go_enter Try.func16, Try.ntmps16
      go_wp2_with fail
      refine HE.out.mono ?_
      rintro e w1 ⟨rfl, rfl⟩
      go_wp2_with fail
      refine (awake_any _).mono ?_
      rintro e w3 ⟨rfl, hb3⟩
      have HB3 := Aside0.mk hb3
      clear hb3
      go_wp2_with fail
      go_ret
      exact ⟨rfl, HB3.out⟩
  obtain ⟨m, rfl⟩ : ∃ m : Nat, x = m := ⟨x.toNat, by omega⟩
  have hm : m ≤ 8 * n := by omega
  have hn : n ≤ 700 := by omega
  have hn2 : n2 ≤ 12 := by omega
  have hm' : (m : Int) ≤ 8 * (n : Int) := by omega
  clear hx h700 h12
  obtain ⟨L, hL⟩ : ∃ L, L = unpackL B m := ⟨_, rfl⟩
  have hLl : L.length = m := by rw [hL, unpackL_length]
  have HL := Aside0.mk hL
  clear hL
  go_enter Try.func16, Try.ntmps16
  go_wp2_with fail
  refine (newReader_any A n c B _ m w HINB.out rfl hm (by omega)).mono ?_
  rintro e w1 ⟨g, rfl, hrd, hb1⟩
  rw [← HL.out] at hrd
  have HRD := Aside0.mk hrd
  have HB1 := Aside0.mk hb1
  have hz1 := hb1.size
  obtain ⟨hBn, hBc, hBB, hBC⟩ := HINB.out
  subst hBn
  have HU := Aside0.mk (unpackRef_any A c B (m : Int) m w1 (Kd.C_below hBC hb1) hBc rfl hBB hm (by omega))
  clear hrd hb1 hBC hBB hBc
  go_wp2_with fail
  refine HU.out.mono ?_
  rintro e w2 ⟨v2, rfl, hr2, hb2⟩
  rw [← HL.out] at hr2
  have ho2 := Kd.own_of_R hr2
  obtain ⟨Ab, cb, hv2⟩ := own_slice ho2
  subst hv2
  have HO2 := Aside0.mk (own_less ho2 hz1)
  have HR2 := Aside0.mk (HRD.out.below hb2)
  have HB2 := Aside0.mk (below_step HB1.out hb2)
  clear hr2 ho2 hb2 HU HRD HB1 HINB
  go_wp2_with fail
  go_loopw [10, 12, 13, 14, 15, 16, 17, 61] (fun px _ _ _ _ _ _ i w' => RRel w n2 g L Ab cb px i w') (fun _ _ _ _ _ _ _ i _ => n2 - (intOf i).toNat)
  case atStart => exact ⟨⟨0, 0, Nat.zero_le _, rfl, Nat.zero_le _, rfl, HR2.out, HO2.out, HB2.out⟩⟩
  case round =>
    obtain ⟨k, p, hk, rfl, hp, rfl, hr, ho, hb⟩ := hrel.out
    have HR := Aside0.mk hr
    have HO := Aside0.mk ho
    have HB := Aside0.mk hb
    have HC := Aside0.mk (HIN.out.below hb)
    have hz := hb.size
    clear hr ho hb hrel
    by_cases hlt : k < n2
    · obtain ⟨ad, ⟨q0, q1, q2⟩, hA, hq, hqok, hat⟩ := HC.out.at_ hlt
      subst hA
      obtain ⟨hc0, hc1, hc2⟩ := hat
      simp only at hc0 hc1 hc2
      clear hq hqok
      go_wp2_with fail
      obtain ⟨hcb, hCb⟩ := own_CB HO.out
      rw [hLl] at hcb hCb
      have hpos := readL_pos L p q0 q2 hp
      obtain ⟨⟨v, q, ze⟩, hz⟩ : ∃ Z, Z = readL L p q0 q2 := ⟨_, rfl⟩
      have HZ := Aside0.mk hz
      rw [← hz] at hpos
      simp only at hpos
      clear hz
      have hp' : p ≤ m := by omega
      refine (readRef_any Ab m cb L _ p q0 q2 _ _ hLl hcb (Kd.C_below hCb (below_alloc (Below.refl _ _) _)) (by omega) rfl hp').mono ?_
      rintro e w3 ⟨rfl, hb3⟩
      rw [← HZ.out]
      have hbw := below_step (below_alloc (Below.refl _ _) _) hb3
      have HB3 := Aside0.mk (below_step HB.out hbw)
      have HR3 := Aside0.mk (HR.out.below hbw)
      have HO3 := Aside0.mk (pw_own_below HO.out hbw)
      have hblk := blk_below (blk_new wr _) hb3
      have hd0 := blk_cell hblk 0
      have hd1 := blk_cell hblk 1
      have hd2 := blk_cell hblk 2
      simp at hd0 hd1 hd2
      clear hb3 hbw hblk hCb HB HR HO
      go_wp2_with fail
      refine (read_any w.heap.size g p L q0 q2 _ w3 HR3.out hp).mono ?_
      rintro e w4 ⟨rfl, hr4, hw4⟩
      rw [← HZ.out] at hr4 ⊢
      have HR4 := Aside0.mk hr4
      have HO4 := Aside0.mk (bools_beside HO3.out HR3.out hw4)
      have HB4 := Aside0.mk (hw4.below HB3.out HB3.out.size HR3.out.g_base (fun k hk => by cases hk))
      clear hr4 hw4 HR3 HO3 HB3
      go_wp2_with fail
      refine (pos_any w.heap.size g q L w4 HR4.out).mono ?_
      rintro e w5 ⟨rfl, rfl⟩
      go_wp2_with fail
      go_roundw
      case rel => exact ⟨⟨k + 1, q, by omega, by go_num, hpos, rfl, HR4.out, HO4.out, HB4.out⟩⟩
      case measure => simp [intOf]; omega
    · have hkn : k = n2 := by omega
      subst hkn
      go_wp2_with fail
      refine (awake_any _).mono ?_
      rintro e w3 ⟨rfl, hb3⟩
      have HB3 := Aside0.mk (below_step HB.out hb3)
      clear hb3
      go_wp2_with fail
      go_ret
      exact ⟨rfl, HB3.out⟩
end Go.Proofs.Ytbfnckjnpbgmaaa
