/- The walk of BlockCosts: the number of bytes with any width, or the error. For every list of numbers. -/
import Derived.Test.YtbfnckjnpbgmaaaAwb
namespace Go.Proofs.Ytbfnckjnpbgmaaa
open Go.RowKit Go.Proofs.YtbfnckjnpbgmaaaW.PrintWords Go.Proofs.YtbfnckjnpbgmaaaW.PrintLast Go.Proofs.YtbfnckjnpbgmaaaW.PrintMore
set_option linter.unusedVariables false

/-- A slice of numbers as the row's step hands it over. -/
theorem InInts.of {w : World} {a : Option Addr} {len cap : Nat} {zs : List Int}
    (h : (a = none ∧ len = 0 ∧ cap = 0 ∧ zs = []) ∨ ∃ x, a = some x ∧ len ≤ cap ∧ cap ≤ maxLen ∧ zs.length = cap ∧ (∀ i, i < zs.length → w.cell? (x.add i) = some (.int .i64 (zs.getD i 0))) ∧ ∀ n ∈ zs, (Lit.int .i64 n).wf = true) :
    InInts w a len cap (zs.take len) := by
  rcases h with ⟨rfl, rfl, rfl, rfl⟩ | ⟨x, rfl, hl, hm, hz, hc, hw⟩
  · exact ⟨rfl, Nat.le_refl _, Kd.C_nil _ _⟩
  · have hlen : (zs.take len).length = len := by rw [List.length_take, hz]; omega
    refine ⟨hlen, hl, ?_⟩
    rw [hlen]
    refine Kd.C_of_reads (d := (0 : Int)) (h1 := fun _ => rfl) ⟨hlen, by simp only [maxLen] at hm; omega, fun _ => ⟨x, rfl, fun j hj => ?_⟩⟩
    rw [hc j (by omega), List.getD_eq_getElem?_getD, List.getD_eq_getElem?_getD, List.getElem?_take_of_lt hj]

set_option maxHeartbeats 2000000 in
set_option maxRecDepth 100000 in
theorem costs_walk (A : Option Addr) (n c : Nat) (l : List Int) (x : Int) (w : World) (h : InInts w A n c l) :
    Calls Try.prog 14 #[.slice A n c, .int .i64 x] w fun e w' => e = .returned (.bool true) ∧ Below w.heap.size w w' := by
  have H := Aside0.mk h
  have hn : n = l.length := h.1.symm
  clear h
  by_cases h130 : 130 < n
  · clear H hn
    go_enter Try.func14, Try.ntmps14
    go_wp2_with fail
    go_ret
    exact ⟨rfl, Below.refl _ _⟩
  clear hn
  by_cases hc : checkV l = 0
  · by_cases hx : x < 0 ∨ 31 < x
    · have HCV : Aside0 (costV l x = (0, 1)) := ⟨by
        unfold costV
        rw [if_pos hc]
        rcases hx with h | h
        · rw [if_pos h]
        · rw [if_neg (by omega), if_pos h]⟩
      have HCH := Aside0.mk hc
      clear hc
      go_enter Try.func14, Try.ntmps14
      go_wp2_with fail
      refine (cost_any A n c l x w H.out).mono ?_
      rintro e w1 ⟨rfl, hb1⟩
      rw [HCV.out]
      have HB1 := Aside0.mk hb1
      have H1 := Aside0.mk (H.out.below hb1)
      clear hb1
      go_wp2_with fail
      refine (checkRef_any A n c l w1 H1.out).mono ?_
      rintro e w2 ⟨rfl, hb2⟩
      rw [HCH.out]
      have HB2 := Aside0.mk (below_step HB1.out hb2)
      clear hb2
      by_cases h0 : x < 0
      · go_wp2_with fail
        refine (awakeB_any w2).mono ?_
        rintro e w3 ⟨rfl, hb3⟩
        have HB3 := Aside0.mk (below_step HB2.out hb3)
        clear hb3
        go_wp2_with fail
        go_ret
        exact ⟨rfl, HB3.out⟩
      · have h31 : 31 < x := by omega
        clear hx
        go_wp2_with fail
        refine (awakeB_any w2).mono ?_
        rintro e w3 ⟨rfl, hb3⟩
        have HB3 := Aside0.mk (below_step HB2.out hb3)
        clear hb3
        go_wp2_with fail
        go_ret
        exact ⟨rfl, HB3.out⟩
    · obtain ⟨vs, rfl, hok⟩ := checkV_ok hc
      obtain ⟨k, rfl⟩ : ∃ k : Nat, x = k := ⟨x.toNat, by omega⟩
      have hk : k ≤ 31 := by omega
      have HCV : Aside0 (costV (ints vs) k = (((encL vs k).length : Int), 0)) := ⟨by
        unfold costV
        rw [if_pos hc, if_neg (by omega), if_neg (by omega), ints_toNat, Int.toNat_natCast]⟩
      have HCH := Aside0.mk hc
      have HOK := Aside0.mk hok
      have hlen := encL_len vs k hok hk
      clear hc hok hx
      go_enter Try.func14, Try.ntmps14
      go_wp2_with fail
      refine (cost_any A n c _ _ w H.out).mono ?_
      rintro e w1 ⟨rfl, hb1⟩
      rw [HCV.out]
      have HB1 := Aside0.mk hb1
      have H1 := Aside0.mk (H.out.below hb1)
      clear hb1
      go_wp2_with fail
      refine (checkRef_any A n c _ w1 H1.out).mono ?_
      rintro e w2 ⟨rfl, hb2⟩
      rw [HCH.out]
      have HB2 := Aside0.mk (below_step HB1.out hb2)
      have H2 := Aside0.mk (H1.out.below hb2)
      clear hb2
      go_wp2_with fail
      refine (bytesRef_any A n c vs _ k w2 H2.out HOK.out rfl hk).mono ?_
      rintro e w3 hm3
      obtain ⟨A3, c3, rfl, hc3, ho3, hC3, hb3⟩ := made_own hm3
      have HB3 := Aside0.mk (below_step HB2.out hb3)
      clear hm3 ho3 hC3 hb3
      obtain ⟨E, hE⟩ : ∃ E, E = encL vs k := ⟨_, rfl⟩
      rw [← hE] at hlen hc3 ⊢
      clear hE
      go_wp2_with fail
      refine (awakeB_any w3).mono ?_
      rintro e w4 ⟨rfl, hb4⟩
      have HB4 := Aside0.mk (below_step HB3.out hb4)
      clear hb4
      go_wp2_with fail
      go_ret
      exact ⟨rfl, HB4.out⟩
  · have HCV : Aside0 (costV l x = (0, checkV l)) := ⟨by
      unfold costV
      rw [if_neg hc]⟩
    obtain ⟨q, hq⟩ : ∃ q, q = checkV l := ⟨_, rfl⟩
    have HQ := Aside0.mk hq
    rw [← hq] at hc HCV
    clear hq
    go_enter Try.func14, Try.ntmps14
    go_wp2_with fail
    refine (cost_any A n c _ _ w H.out).mono ?_
    rintro e w1 ⟨rfl, hb1⟩
    rw [HCV.out]
    have HB1 := Aside0.mk hb1
    have H1 := Aside0.mk (H.out.below hb1)
    clear hb1
    go_wp2_with fail
    refine (checkRef_any A n c _ w1 H1.out).mono ?_
    rintro e w2 ⟨rfl, hb2⟩
    rw [← HQ.out]
    have HB2 := Aside0.mk (below_step HB1.out hb2)
    clear hb2
    go_wp2_with fail
    refine (awakeB_any w2).mono ?_
    rintro e w3 ⟨rfl, hb3⟩
    have HB3 := Aside0.mk (below_step HB2.out hb3)
    clear hb3
    go_wp2_with fail
    go_ret
    exact ⟨rfl, HB3.out⟩
end Go.Proofs.Ytbfnckjnpbgmaaa
