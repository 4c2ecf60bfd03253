/- The sanity check of layer 15 returns true. -/
import Derived.Test.YtbfnckjnpbgmaaaBpk
import Derived.Test.YtbfnckjnpbgmaaaAwa
namespace Go.Proofs.Ytbfnckjnpbgmaaa
open Go.RowKit Go.Proofs.YtbfnckjnpbgmaaaW.PrintWords Go.Proofs.YtbfnckjnpbgmaaaW.PrintLast Go.Proofs.YtbfnckjnpbgmaaaW.PrintMore
set_option linter.unusedVariables false

def uvF : Nat → Nat → List Int
  | 0, _ => []
  | k + 1, v => if 128 ≤ v then ((v % 128 + 128 : Nat) : Int) :: uvF k (v / 128) else [(v : Int)]
theorem uvF_eq (k : Nat) : ∀ v, (uvL v).length ≤ k → uvF k v = uvL v := by
  induction k with
  | zero => intro v h; have := uvL_pos v; omega
  | succ k ih =>
    intro v h
    rw [uvF]
    by_cases h1 : 128 ≤ v
    · rw [uvL_ge h1] at h ⊢
      rw [if_pos h1, ih _ (by simpa using h)]
    · rw [uvL_lt h1, if_neg h1]
def excF (w : Nat) : Nat → List Nat → List Int
  | _, [] => []
  | g, v :: l => if v / 2 ^ w = 0 then excF w (g + 1) l else uvF 10 g ++ uvF 10 (v / 2 ^ w) ++ excF w 1 l
theorem excF_eq (w : Nat) (l : List Nat) (hl : ∀ v ∈ l, v < 2147483648) : ∀ g, g + l.length < 18446744073709551616 → excF w g l = excL w g l := by
  induction l with
  | nil => intro g _; rfl
  | cons v l ih =>
    intro g hg
    simp only [List.length_cons] at hg
    have hv := hl v (by simp)
    have hd := Nat.div_le_self v (2 ^ w)
    rw [excF, excL, ih (fun x hx => hl x (by simp [hx])) _ (by omega), ih (fun x hx => hl x (by simp [hx])) _ (by omega), uvF_eq 10 g (uvL_len _ (by omega)), uvF_eq 10 (v / 2 ^ w) (uvL_len _ (by omega))]
def encF (vs : List Nat) (w : Nat) : List Int := uvF 10 vs.length ++ uvF 10 w ++ uvF 10 (cntL w vs) ++ packL (lowsL w vs) ++ excF w 1 vs
theorem encF_eq (vs : List Nat) (w : Nat) (h : BlockOk vs) (hw : w ≤ 31) : encF vs w = encL vs w := by
  have h1 := h.1
  have h2 := cntL_le w vs
  rw [encF, encL, uvF_eq 10 _ (uvL_len _ (by omega)), uvF_eq 10 _ (uvL_len _ (by omega)), uvF_eq 10 _ (uvL_len _ (by omega)), excF_eq w vs h.2 1 (by omega)]
/-- A width that is the least one with the least cost is the best one. -/
theorem best_eq (vs : List Nat) (b : Nat) (hb : b ≤ 31) (h : ∀ j, j ≤ 31 → (encL vs b).length ≤ (encL vs j).length ∧ (j < b → (encL vs b).length < (encL vs j).length)) : bestL vs = b := by
  have h1 := bestTo_least vs 31 b hb
  have h2 := h (bestL vs) (bestL_le vs)
  unfold bestL at *
  by_cases e : bestTo vs 31 < b
  · have := h2.2 e; omega
  · have := h1.2 (by omega); omega
theorem best_by (vs : List Nat) (b : Nat) (hok : BlockOk vs) (hb : b ≤ 31) (h : (List.range 32).all (fun j => decide ((encF vs b).length ≤ (encF vs j).length) && (decide (b ≤ j) || decide ((encF vs b).length < (encF vs j).length))) = true) : bestL vs = b := by
  refine best_eq vs b hb fun j hj => ?_
  have := List.all_eq_true.1 h j (List.mem_range.2 (by omega))
  simp only [Bool.and_eq_true, Bool.or_eq_true, decide_eq_true_eq] at this
  rw [encF_eq vs b hok hb, encF_eq vs j hok hj] at this
  exact ⟨this.1, fun hlt => by rcases this.2 with h | h <;> omega⟩
theorem blk3 : BlockOk [1, 2, 3] := by unfold BlockOk; decide
theorem blk9 : BlockOk [0, 0, 0, 0, 0, 0, 0, 0, 1] := by unfold BlockOk; decide
theorem best3 : bestL [1, 2, 3] = 2 := best_by _ 2 blk3 (by decide) (by decide +kernel)
theorem best9 : bestL [0, 0, 0, 0, 0, 0, 0, 0, 1] = 0 := best_by _ 0 blk9 (by decide) (by decide +kernel)
theorem chk3 : checkV [1, 2, 3] = 0 := by decide
theorem chk9 : checkV [0, 0, 0, 0, 0, 0, 0, 0, 1] = 0 := by decide
theorem pk3 : packV [1, 2, 3] = [3, 2, 0, 108] := by
  have e : ([1, 2, 3] : List Int).map Int.toNat = [1, 2, 3] := rfl
  unfold packV
  rw [if_pos chk3, e, best3, ← encF_eq _ _ blk3 (by decide)]
  decide +kernel
theorem pk9 : packV [0, 0, 0, 0, 0, 0, 0, 0, 1] = [9, 0, 1, 9, 1] := by
  have e : ([0, 0, 0, 0, 0, 0, 0, 0, 1] : List Int).map Int.toNat = [0, 0, 0, 0, 0, 0, 0, 0, 1] := rfl
  unfold packV
  rw [if_pos chk9, e, best9, ← encF_eq _ _ blk9 (by decide)]
  decide +kernel
theorem lit_ints (w W : World) (xs : List Int) (cs : Array Value) (hcs : cs = (nums .i64 xs).toArray) (hm : xs.length ≤ 1000) : InInts (W.alloc (.cells cs 3)) (some ⟨W.heap.size, 0, none⟩) xs.length xs.length xs := by
  subst hcs
  have h := own_lit W W.heap.size 3 .i64 xs (Nat.le_refl _) (by omega)
  have h1 : Kd.R (Kd.int .i64) 3 (W.alloc (.cells (nums .i64 xs).toArray 3)) W.heap.size (fun _ => True) (.slice (some ⟨W.heap.size, 0, none⟩) xs.length xs.length) xs := Kd.R_of_own h (fun _ _ => trivial)
  exact ⟨rfl, Nat.le_refl _, (Kd.R_reads' h1).2.2⟩

set_option maxHeartbeats 1000000 in
set_option maxRecDepth 100000 in
theorem awakeB_any (w : World) : Calls Try.prog 36 #[] w fun e w' => e = .returned (.bool true) ∧ Below w.heap.size w w' := by
  go_enter Try.func36, Try.ntmps36
  go_wp2_with fail
  refine (pack_any _ 3 3 [1, 2, 3] _ (lit_ints w w [1, 2, 3] _ rfl (by decide))).mono ?_
  rintro e w1 ⟨v1, rfl, hr1, hb1⟩
  rw [pk3] at hr1
  rw [chk3]
  obtain ⟨A1, c1, hv1, hl1, hC1⟩ := Kd.R_reads hr1
  simp only [List.length_cons, List.length_nil, Nat.zero_add, Nat.reduceAdd] at hv1
  subst hv1
  have HB1 := Aside0.mk (below_step (below_alloc (Below.refl _ _) _) hb1)
  have HC1 := Aside0.mk hC1
  clear hr1 hb1 hl1 hC1
  go_wp2_with fail
  refine (pack_any _ 9 9 [0, 0, 0, 0, 0, 0, 0, 0, 1] _ (lit_ints w1 w1 [0, 0, 0, 0, 0, 0, 0, 0, 1] _ rfl (by decide))).mono ?_
  rintro e w2 ⟨v2, rfl, hr2, hb2⟩
  rw [pk9] at hr2
  rw [chk9]
  obtain ⟨A2, c2, hv2, hl2, hC2⟩ := Kd.R_reads hr2
  simp only [List.length_cons, List.length_nil, Nat.zero_add, Nat.reduceAdd] at hv2
  subst hv2
  have hC1 := Kd.C_below HC1.out (below_step (below_alloc (Below.refl _ _) _) hb2)
  have hcv1 : (Go.convert 22 9 (.slice A1 4 c1)).run Try.prog w2 = .ok (.string ⟨#[3, 2, 0, 108]⟩) w2 := Kd.C_string (P := Try.prog) (A := A1) (c := c1) Try.underlying22 Try.underlying5 Try.underlying9 hC1
  have hcv2 : (Go.convert 22 9 (.slice A2 5 c2)).run Try.prog w2 = .ok (.string ⟨#[9, 0, 1, 9, 1]⟩) w2 := Kd.C_string (P := Try.prog) (A := A2) (c := c2) Try.underlying22 Try.underlying5 Try.underlying9 hC2
  have HB2 := Aside0.mk (below_step HB1.out (below_step (below_alloc (Below.refl _ _) _) hb2))
  clear hr2 hb2 hl2 hC2 hC1 HC1 HB1
  go_wp2_with fail
  go_ret
  exact ⟨rfl, HB2.out⟩
end Go.Proofs.Ytbfnckjnpbgmaaa
