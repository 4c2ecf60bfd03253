/- The walk of BitioSeeks: a Reader that is moved to a position reads there; positions out of range are refused. For at most 700 bytes. -/
import Derived.Test.YtbfnckjnpbgmaaaRds
namespace Go.Proofs.Ytbfnckjnpbgmaaa
open Go.RowKit Go.Proofs.YtbfnckjnpbgmaaaW.PrintWords Go.Proofs.YtbfnckjnpbgmaaaW.PrintLast Go.Proofs.YtbfnckjnpbgmaaaW.PrintMore
set_option linter.unusedVariables false

set_option maxHeartbeats 2000000 in
set_option maxRecDepth 100000 in
theorem seeks_walk (A : Option Addr) (n c : Nat) (B : List Int) (x : Int) (q0 : Int) (q1 : Int) (q2 : Int) (w : World) (hin : InBytes w A n c B) :
    Calls Try.prog 17 #[.slice A n c, .int .i64 x, .agg #[.int .i64 q0, .int .u64 q1, .int .i64 q2]] w fun e w' => e = .returned (.bool true) ∧ Below w.heap.size w w' := by
  have HINB := Aside0.mk hin
  have hB0 := below_alloc (Below.refl w.heap.size w) (.cells #[.int .i64 q0, .int .u64 q1, .int .i64 q2] 57)
  have hK0 := blk_new w (.cells #[.int .i64 q0, .int .u64 q1, .int .i64 q2] 57)
  obtain ⟨hBn, hBc, hBB, hBC⟩ := hin
  subst hBn
  have HI1 : Aside0 (InBytes (w.alloc (.cells #[.int .i64 q0, .int .u64 q1, .int .i64 q2] 57)) A B.length c B) := ⟨⟨rfl, hBc, hBB, Kd.C_below hBC hB0⟩⟩
  have HB0 := Aside0.mk hB0
  have HK0 := Aside0.mk hK0
  have HBC0 := Aside0.mk hBC
  have HBB := Aside0.mk hBB
  clear hB0 hK0 hBB hBC
  by_cases h700 : 700 < B.length
  · go_enter Try.func17, Try.ntmps17
    go_wp2_with fail
    go_ret
    exact ⟨rfl, HB0.out⟩
  have hn : B.length ≤ 700 := by omega
  clear h700
  obtain ⟨L, hL⟩ : ∃ L, L = unpackL B (8 * B.length) := ⟨_, rfl⟩
  have hLl : L.length = 8 * B.length := by rw [hL, unpackL_length]
  have HL := Aside0.mk hL
  clear hL
  have HNEW := Aside0.mk (newReader_any A B.length c B (8 * (B.length : Int)) (8 * B.length) _ HI1.out (by omega) (Nat.le_refl _) (by omega))
  rw [← HL.out] at HNEW
  go_enter Try.func17, Try.ntmps17
  go_wp2_with fail
  refine HNEW.out.mono ?_
  rintro e w1 ⟨g, rfl, hrd, hb1⟩
  have HK1 := Aside0.mk (blk_below HK0.out hb1)
  have HB1 := Aside0.mk (below_step HB0.out hb1)
  have HRD : Aside0 (Rd w1 w.heap.size g 0 L) := ⟨by obtain ⟨a, b, d, h1, h2, h3, h4⟩ := hrd; have hz := HB0.out.size; exact ⟨a, b, d, h1, Nat.le_trans hz h2, own_less h3 hz, h4⟩⟩
  have HLT : Aside0 (g ≠ w.heap.size) := ⟨by have := hrd.g_base; simp at this; omega⟩
  clear hrd hb1 HNEW HK0 HB0 HI1
  by_cases hx : x < 0 ∨ 8 * (B.length : Int) < x
  · have HS := Aside0.mk (seek_any w.heap.size g 0 L x w1 HRD.out)
    have hx' : x < 0 ∨ (L.length : Int) < x := by omega
    simp only [hx', if_true] at HS
    go_wp2_with fail
    refine HS.out.mono ?_
    rintro e w2 ⟨rfl, rfl⟩
    by_cases h0 : x < 0
    · clear hx hx'
      go_wp2_with fail
      refine (pos_any w.heap.size g 0 L _ HRD.out).mono ?_
      rintro e w2 ⟨rfl, rfl⟩
      go_wp2_with fail
      refine (awake_any _).mono ?_
      rintro e w3 ⟨rfl, hb3⟩
      have HB3 := Aside0.mk (below_step HB1.out hb3)
      clear hb3
      go_wp2_with fail
      go_ret
      exact ⟨rfl, HB3.out⟩
    · have h1 : 8 * (B.length : Int) < x := by omega
      clear hx hx'
      go_wp2_with fail
      refine (pos_any w.heap.size g 0 L _ HRD.out).mono ?_
      rintro e w2 ⟨rfl, rfl⟩
      go_wp2_with fail
      refine (awake_any _).mono ?_
      rintro e w3 ⟨rfl, hb3⟩
      have HB3 := Aside0.mk (below_step HB1.out hb3)
      clear hb3
      go_wp2_with fail
      go_ret
      exact ⟨rfl, HB3.out⟩
  obtain ⟨p, rfl⟩ : ∃ p : Nat, x = p := ⟨x.toNat, by omega⟩
  have hp : p ≤ 8 * B.length := by omega
  have hp' : ¬ 8 * (B.length : Int) < (p : Int) := by omega
  have HS := Aside0.mk (seek_any w.heap.size g 0 L (p : Int) w1 HRD.out)
  have hx' : ¬ ((p : Int) < 0 ∨ (L.length : Int) < (p : Int)) := by omega
  simp only [hx', if_false] at HS
  clear hx hx'
  go_wp2_with fail
  refine HS.out.mono ?_
  rintro e w2 ⟨rfl, hr2, hw2⟩
  rw [Int.toNat_natCast] at hr2
  have HR2 := Aside0.mk hr2
  have HK2 := Aside0.mk (hw2.blk HK1.out HLT.out.symm (by simp))
  have HB2 := Aside0.mk (hw2.below HB1.out HB1.out.size HRD.out.g_base (fun k hk => by cases hk))
  have hd0 := blk_cell HK2.out 0
  have hd1 := blk_cell HK2.out 1
  have hd2 := blk_cell HK2.out 2
  simp at hd0 hd1 hd2
  have hz2 := HB2.out.size
  have HC2 := Aside0.mk (Kd.C_below HBC0.out HB2.out)
  have hpL : p ≤ L.length := by omega
  have hpos := readL_pos L p q0 q2 hpL
  obtain ⟨⟨v, q, ze⟩, hz⟩ : ∃ Z, Z = readL L p q0 q2 := ⟨_, rfl⟩
  have HZ := Aside0.mk hz
  rw [← hz] at hpos
  simp only at hpos
  have HLE : Aside0 (¬ ((0 : Int) < 0 ∨ (L.length : Int) < 0)) := ⟨by omega⟩
  clear hr2 hw2 HS HRD HK1 HB1 hz
  go_wp2_with fail
  have hw8 : IntKind.i64.wrap (8 * (B.length : Int)) = 8 * (B.length : Int) := IntWalk.i64_in _ (by omega)
  go_region_with (first
    | (go_at_call 42; (with_reducible refine (unpackRef_any A c B _ (8 * B.length) _ (Kd.C_drew HC2.out) hBc (by omega) HBB.out (Nat.le_refl _) (by omega)).mono ?_); rintro e w5 ⟨v5, rfl, hr5, hb5⟩; rw [← HL.out] at hr5; have ho5 := Kd.own_of_R hr5; obtain ⟨Ab, cb, hv5⟩ := own_slice ho5; subst hv5; obtain ⟨hcb, hCb⟩ := own_CB ho5; rw [hLl] at hcb hCb; have HCb := Aside0.mk hCb; have HR5 := Aside0.mk (HR2.out.drew.below hb5); have HB5 := Aside0.mk (below_step (below_drew HB2.out) hb5); have hK5 := blk_below (blk_drew HK2.out) hb5; have HK5 := Aside0.mk hK5; have he0 := blk_cell hK5 0; have he1 := blk_cell hK5 1; have he2 := blk_cell hK5 2; simp at he0 he1 he2; clear hr5 ho5 hCb hb5 hK5)
    | (go_at_call 49; (with_reducible refine (readRef_any Ab (8 * B.length) cb L _ p q0 q2 q1 _ hLl hcb HCb.out (by omega) rfl hp).mono ?_); rintro e w6 ⟨rfl, hb6⟩; rw [← HZ.out]; have HR6 := Aside0.mk (HR5.out.below hb6); have HB6 := Aside0.mk (below_step HB5.out hb6); have hK6 := blk_below HK5.out hb6; have HK6 := Aside0.mk hK6; have hf0 := blk_cell hK6 0; have hf1 := blk_cell hK6 1; have hf2 := blk_cell hK6 2; simp at hf0 hf1 hf2; clear hb6 hK6 HR5 HB5 HK5 HR2 HB2 HK2 HCb))
  all_goals (
    go_wp2_with fail
    refine (pos_any w.heap.size g p L _ HR6.out).mono ?_
    rintro e w7 ⟨rfl, rfl⟩
    go_wp2_with fail
    refine (read_any w.heap.size g p L q0 q2 q1 _ HR6.out hpL).mono ?_
    rintro e w8 ⟨rfl, hr8, hw8⟩
    rw [← HZ.out] at hr8 ⊢
    have HR8 := Aside0.mk hr8
    have HB8 := Aside0.mk (hw8.below HB6.out HB6.out.size HR6.out.g_base (fun k hk => by cases hk))
    clear hr8 hw8 HR6 HB6 HK6
    go_wp2_with fail
    refine (pos_any w.heap.size g q L _ HR8.out).mono ?_
    rintro e w9 ⟨rfl, rfl⟩
    go_wp2_with fail
    have HS2 := Aside0.mk (seek_any w.heap.size g q L 0 w8 HR8.out)
    simp only [HLE.out, if_false] at HS2
    refine HS2.out.mono ?_
    rintro e w10 ⟨rfl, hr10, hw10⟩
    have HR10 := Aside0.mk hr10
    have HB10 := Aside0.mk (hw10.below HB8.out HB8.out.size HR8.out.g_base (fun k hk => by cases hk))
    clear hr10 hw10 HS2
    go_wp2_with fail
    refine (pos_any w.heap.size g _ L _ HR10.out).mono ?_
    rintro e w11 ⟨rfl, rfl⟩
    go_wp2_with fail
    refine (awake_any _).mono ?_
    rintro e w12 ⟨rfl, hb12⟩
    have HB12 := Aside0.mk (below_step HB10.out hb12)
    clear hb12
    go_wp2_with fail
    go_ret
    exact ⟨rfl, HB12.out⟩)
end Go.Proofs.Ytbfnckjnpbgmaaa
