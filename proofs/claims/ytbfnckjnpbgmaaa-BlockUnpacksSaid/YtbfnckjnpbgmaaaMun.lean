/- Unpack and Get: plain laws and contracts (merged of six texts). -/
import Derived.Test.YtbfnckjnpbgmaaaMbk
import Derived.Test.YtbfnckjnpbgmaaaRnw
import Derived.Test.YtbfnckjnpbgmaaaAwa
import Derived.WalkMore
import Derived.ScopeJumps
namespace Go.Proofs.Ytbfnckjnpbgmaaa
open Go.RowKit Go.Proofs.YtbfnckjnpbgmaaaW.PrintWords Go.Proofs.YtbfnckjnpbgmaaaW.PrintLast Go.Proofs.YtbfnckjnpbgmaaaW.PrintMore
set_option linter.unusedVariables false


theorem numL_consU (b : Bool) (l : List Bool) : numL (b :: l) = 2 ^ l.length * b.toNat + numL l := by
  induction l using snoc_ind with
  | nil => simp [numL]
  | append_singleton l c ih =>
    rw [show b :: (l ++ [c]) = (b :: l) ++ [c] from rfl, numL_snoc, numL_snoc, ih, List.length_append, List.length_singleton, Nat.pow_succ]
    have : 2 ^ l.length * 2 * b.toNat = 2 * (2 ^ l.length * b.toNat) := by rw [Nat.mul_comm (2 ^ l.length) 2, Nat.mul_assoc]
    omega
theorem numL_lowU (v n : Nat) : numL (lowL v n) = v % 2 ^ n := by
  induction n with
  | zero => simp [lowL, numL, Nat.mod_one]
  | succ n ih =>
    rw [lowL, numL_consU, ih, lowL_length, Nat.mod_pow_succ, Nat.testBit_eq_decide_div_mod_eq]
    rcases Nat.mod_two_eq_zero_or_one (v / 2 ^ n) with h | h <;> simp [h] <;> omega
/-- A number that is not greater than a limit, and the bytes behind it. -/
def numP (lim : Nat) (B : List Int) : Option (Nat × List Int) :=
  if (takeL B).2.2 = 0 ∧ (takeL B).1 ≤ lim then some ((takeL B).1, B.drop (takeL B).2.1) else none
/-- The lowest bits of n numbers. -/
def lowV (L : List Bool) (n w : Nat) : List Nat := (List.range n).map fun i => numL ((L.drop (i * w)).take w)
/-- The exceptions: lim is the greatest number that is read, a the index behind the last exception. -/
def excX (lim w : Nat) : Nat → List Int → Nat → List Nat → Option (List Nat)
  | 0, _, _, vals => some vals
  | k + 1, B, a, vals =>
    match numP 128 B with
    | none => none
    | some (g, B1) =>
      match numP lim B1 with
      | none => none
      | some (high, B2) =>
        if 1 ≤ a + g ∧ a + g ≤ vals.length then excX lim w k B2 (a + g) (vals.set (a + g - 1) (vals.getD (a + g - 1) 0 ||| high * 2 ^ w)) else none
/-- The three numbers at the head. -/
def headX (B : List Int) : Option (Nat × Nat × Nat × List Int) :=
  match numP 128 B with
  | none => none
  | some (n, B1) =>
    match numP 31 B1 with
    | none => none
    | some (w, B2) =>
      match numP 128 B2 with
      | none => none
      | some (c, B3) => some (n, w, c, B3)
def sizeX (n w : Nat) : Nat := (n * w + 7) / 8
/-- What is unpacked, before it is packed again. -/
def rawX (lim : Nat → Nat) (B : List Int) : Option (List Nat) :=
  match headX B with
  | none => none
  | some (n, w, c, B3) => if B3.length < sizeX n w then none else excX (lim w) w c (B3.drop (sizeX n w)) 0 (lowV (unpackL B3 (n * w)) n w)
def unpackX (lim : Nat → Nat) (B : List Int) : Option (List Nat) :=
  match rawX lim B with
  | none => none
  | some vs => if packV (ints vs) = B then some vs else none

theorem numP_nil (lim : Nat) : numP lim [] = none := by
  unfold numP
  rw [if_neg]
  intro h
  exact absurd h.1 (by decide)
theorem headX_nil : headX [] = none := by
  unfold headX
  rw [numP_nil]
theorem unpackX_sound {lim : Nat → Nat} {B : List Int} {vs : List Nat} (h : unpackX lim B = some vs) : BlockOk vs ∧ encL vs (bestL vs) = B := by
  unfold unpackX at h
  split at h
  · cases h
  · rename_i us hr
    split at h
    · rename_i hp
      obtain rfl := Option.some.inj h
      by_cases hc : checkV (ints us) = 0
      · obtain ⟨ws, e, hok⟩ := checkV_ok hc
        have e2 : us = ws := by rw [← ints_toNat us, e, ints_toNat]
        subst e2
        exact ⟨hok, by rw [← packV_ints hok]; exact hp⟩
      · exfalso
        unfold packV at hp
        rw [if_neg hc] at hp
        subst hp
        unfold rawX at hr
        rw [headX_nil] at hr
        cases hr
    · cases h
theorem numP_uv (lim v : Nat) (rest : List Int) (h : v < 18446744073709551616) (hl : v ≤ lim) : numP lim (uvL v ++ rest) = some (v, rest) := by
  unfold numP
  rw [takeL_uv v rest h, if_pos ⟨rfl, hl⟩, List.drop_left]
theorem lowV_cons (M L : List Bool) (n w : Nat) (hM : M.length = w) : lowV (M ++ L) (n + 1) w = numL M :: lowV L n w := by
  unfold lowV
  rw [List.range_succ_eq_map, List.map_cons, List.map_map]
  congr 1
  · rw [Nat.zero_mul, List.drop_zero, ← hM, List.take_left]
  · apply List.map_congr_left
    intro i _
    show numL (((M ++ L).drop ((i + 1) * w)).take w) = _
    rw [Nat.succ_mul, Nat.add_comm, ← List.drop_drop, ← hM, List.drop_left]
theorem lowV_lows (w : Nat) (vs : List Nat) : lowV (lowsL w vs) vs.length w = vs.map (· % 2 ^ w) := by
  induction vs with
  | nil => rfl
  | cons v l ih => rw [lowsL, List.length_cons, lowV_cons _ _ _ _ (lowL_length v w), ih, numL_lowU, List.map_cons]
theorem join_eq (v w : Nat) : v % 2 ^ w ||| v / 2 ^ w * 2 ^ w = v := by
  have h1 := Nat.two_pow_add_eq_or_of_lt (i := w) (b := v % 2 ^ w) (Nat.mod_lt _ (Nat.two_pow_pos w)) (v / 2 ^ w)
  rw [Nat.or_comm, Nat.mul_comm (v / 2 ^ w), ← h1]
  exact Nat.div_add_mod v (2 ^ w)
theorem excX_exc (lim w : Nat) (hlim : ∀ v, v < 2147483648 → v / 2 ^ w ≤ lim) (l : List Nat) : ∀ (p : List Nat) (a g : Nat), (∀ v ∈ l, v < 2147483648) → a + g = p.length + 1 → p.length + l.length ≤ 128 → 1 ≤ g →
    excX lim w (cntL w l) (excL w g l) a (p ++ l.map (· % 2 ^ w)) = some (p ++ l) := by
  induction l with
  | nil => intro p a g _ _ _ _; rfl
  | cons v l ih =>
    intro p a g hl hag hlen hg
    have hv := hl v (by simp)
    have hl' : ∀ u ∈ l, u < 2147483648 := fun u hu => hl u (by simp [hu])
    rw [List.length_cons] at hlen
    by_cases h0 : v / 2 ^ w = 0
    · have e : v % 2 ^ w = v := by
        have := Nat.div_add_mod v (2 ^ w)
        rw [h0, Nat.mul_zero, Nat.zero_add] at this
        exact this
      have := ih (p ++ [v]) a (g + 1) hl' (by rw [List.length_append, List.length_singleton]; omega) (by rw [List.length_append, List.length_singleton]; omega) (by omega)
      rw [List.append_assoc, List.append_assoc, List.singleton_append, List.singleton_append] at this
      rw [cntL, if_pos h0, Nat.zero_add, excL, if_pos h0, List.map_cons, e]
      exact this
    · have := ih (p ++ [v]) (a + g) 1 hl' (by rw [List.length_append, List.length_singleton]; omega) (by rw [List.length_append, List.length_singleton]; omega) (by omega)
      rw [List.append_assoc, List.append_assoc, List.singleton_append, List.singleton_append] at this
      have hd : v / 2 ^ w < 18446744073709551616 := Nat.lt_of_le_of_lt (Nat.div_le_self _ _) (by omega)
      rw [cntL, if_neg h0, Nat.add_comm 1, excL, if_neg h0, excX, List.append_assoc, numP_uv 128 g _ (by omega) (by omega)]
      simp only
      rw [numP_uv lim _ _ hd (hlim v hv)]
      simp only
      rw [if_pos (by simp only [List.length_append, List.length_map, List.length_cons]; omega)]
      have hidx : a + g - 1 = p.length := by omega
      rw [hidx, List.map_cons]
      have hget : (p ++ v % 2 ^ w :: List.map (· % 2 ^ w) l).getD p.length 0 = v % 2 ^ w := by
        rw [List.getD_eq_getElem?_getD, List.getElem?_append_right (Nat.le_refl _), Nat.sub_self]; rfl
      rw [hget, join_eq, List.set_append_right _ _ (Nat.le_refl _), Nat.sub_self, List.set_cons_zero]
      exact this
theorem headX_enc (n w c : Nat) (R : List Int) (hn : n ≤ 128) (hw : w ≤ 31) (hc : c ≤ 128) : headX (uvL n ++ (uvL w ++ (uvL c ++ R))) = some (n, w, c, R) := by
  unfold headX
  rw [numP_uv 128 n _ (by omega) hn]
  simp only
  rw [numP_uv 31 w _ (by omega) hw]
  simp only
  rw [numP_uv 128 c _ (by omega) hc]
theorem rawX_enc (lim : Nat → Nat) (hlim : ∀ w v, w ≤ 31 → v < 2147483648 → v / 2 ^ w ≤ lim w) (vs : List Nat) (h : BlockOk vs) (w : Nat) (hw : w ≤ 31) : rawX lim (encL vs w) = some vs := by
  have hn := h.1
  have hc := cntL_le w vs
  have e : encL vs w = uvL vs.length ++ (uvL w ++ (uvL (cntL w vs) ++ (packL (lowsL w vs) ++ excL w 1 vs))) := by
    unfold encL; simp only [List.append_assoc]
  have hL := lowsL_length w vs
  have hs : (packL (lowsL w vs)).length = sizeX vs.length w := by rw [packL_length, hL]; rfl
  unfold rawX
  rw [e, headX_enc _ _ _ _ hn hw (by omega)]
  simp only
  rw [if_neg (by rw [List.length_append, hs]; omega)]
  have hdrop : (packL (lowsL w vs) ++ excL w 1 vs).drop (sizeX vs.length w) = excL w 1 vs := by rw [← hs, List.drop_left]
  have hun : unpackL (packL (lowsL w vs) ++ excL w 1 vs) (vs.length * w) = lowsL w vs := by
    rw [← unpackL_take _ (sizeX vs.length w) _ (by unfold sizeX; omega), ← hs, List.take_left, ← hL, unpackL_packL]
  rw [hdrop, hun, lowV_lows]
  exact excX_exc (lim w) w (fun v hv => hlim w v hw hv) vs [] 0 1 h.2 rfl (by simpa using hn) (Nat.le_refl _)
/-- A block is unpacked. -/
theorem unpackX_enc (lim : Nat → Nat) (hlim : ∀ w v, w ≤ 31 → v < 2147483648 → v / 2 ^ w ≤ lim w) (vs : List Nat) (h : BlockOk vs) : unpackX lim (encL vs (bestL vs)) = some vs := by
  unfold unpackX
  rw [rawX_enc lim hlim vs h (bestL vs) (bestL_le vs)]
  simp only
  rw [if_pos (packV_ints h)]
/-- Two limits unpack the same. -/
theorem unpackX_same (lim lim' : Nat → Nat) (h : ∀ w v, w ≤ 31 → v < 2147483648 → v / 2 ^ w ≤ lim w) (h' : ∀ w v, w ≤ 31 → v < 2147483648 → v / 2 ^ w ≤ lim' w) (B : List Int) : unpackX lim B = unpackX lim' B := by
  cases hu : unpackX lim B with
  | some vs =>
    obtain ⟨hok, rfl⟩ := unpackX_sound hu
    rw [unpackX_enc lim' h' vs hok]
  | none =>
    cases hu' : unpackX lim' B with
    | none => rfl
    | some vs =>
      obtain ⟨hok, rfl⟩ := unpackX_sound hu'
      rw [unpackX_enc lim h vs hok] at hu
      cases hu
/-- The greatest number that the program reads as an exception. -/
def limP (w : Nat) : Nat := 2147483647 / 2 ^ w
def limR (_ : Nat) : Nat := 2147483648
theorem limP_ok : ∀ w v, w ≤ 31 → v < 2147483648 → v / 2 ^ w ≤ limP w := fun w v _ hv => Nat.div_le_div_right (by omega)
theorem limR_ok : ∀ w v, w ≤ 31 → v < 2147483648 → v / 2 ^ w ≤ limR w := fun w v _ hv => Nat.le_trans (Nat.div_le_self _ _) (by unfold limR; omega)


theorem takeAux_le (B : List Int) : ∀ i acc, (takeAux i acc B).2.1 ≤ i + B.length := by
  induction B with
  | nil => intro i acc; simp [takeAux]
  | cons b B ih =>
    intro i acc
    have := ih (i + 1) (acc + (b % 128).toNat * 2 ^ (7 * i))
    rw [takeAux, List.length_cons]
    split
    · simp
    · split
      · split
        · simp
        · simp only; omega
      · omega
theorem takeL_le (B : List Int) : (takeL B).2.1 ≤ B.length := by
  have := takeAux_le B 0 0
  rw [Nat.zero_add] at this
  exact this
/-- b[k:] of bytes that are read. -/
theorem drop_bytes (A : Option Addr) (n c : Nat) (B : List Int) (k : Nat) (hn : B.length = n) (hk : k ≤ n) (hc : n ≤ c) : ∃ A' c',
    (∀ (x : Int) (W : World), x = k → (Instr.slice 22 (.slice A n c) (some (.int .i64 x)) none none).run Try.prog W = .ok (.slice A' (n - k) c') W) ∧
    (∀ w : World, InBytes w A n c B → InBytes w A' (n - k) c' (B.drop k)) := by
  subst hn
  have h := print_drop_of (P := Try.prog) (Value.int .u8) (0 : Int) 22 5 .i64 Try.underlying22 (info_parts Refs.info5).choose_spec.1 (info_parts Refs.info5).choose_spec.2.2.1 A c B (k : Int) (by omega) (by omega) hc
  rw [Int.toNat_natCast] at h
  obtain ⟨A', h1, h2, h3⟩ := h
  have hl : (B.drop k).length = B.length - k := List.length_drop
  rw [hl] at h1 h3
  refine ⟨A', c - k, fun x W hx => by subst hx; exact h1 W, fun w hin => ⟨hl, h3, fun x hx => hin.2.2.1 x (List.mem_of_mem_drop hx), ?_⟩⟩
  exact Kd.C_of_reads (h1 := fun _ => rfl) (h2 w (Kd.reads_of_C (d := (0 : Int)) hin.2.2.2))
/-- The reader at block g: the bytes B that are left, and whether all was read so far. w0: the world in which the bytes came in. -/
def Nr (w0 w : World) (g : Nat) (B : List Int) (ok : Bool) : Prop :=
  w0.heap.size ≤ g ∧ Below w0.heap.size w0 w ∧ B.length ≤ 1000000 ∧ ∃ A n c, w.heap[g]? = some (.cells #[.slice A n c, .bool ok] 91 (0, 0)) ∧ InBytes w0 A n c B
/-- What number leaves: the number, the bytes, whether all was read. -/
def numS (ok : Bool) (lim : Nat) (B : List Int) : Nat × List Int × Bool :=
  if ok = true ∧ (takeL B).2.2 = 0 ∧ (takeL B).1 ≤ lim then ((takeL B).1, B.drop (takeL B).2.1, true) else (0, B, false)
theorem numS_some {lim : Nat} {B B1 : List Int} {v : Nat} (h : numP lim B = some (v, B1)) : numS true lim B = (v, B1, true) := by
  unfold numP at h
  split at h
  · rename_i hc
    obtain ⟨rfl, rfl⟩ := Prod.mk.inj (Option.some.inj h)
    rw [numS, if_pos ⟨rfl, hc⟩]
  · cases h
theorem numS_none {lim : Nat} {B : List Int} (h : numP lim B = none) : numS true lim B = (0, B, false) := by
  unfold numP at h
  split at h
  · cases h
  · rename_i hc
    rw [numS, if_neg (fun hh => hc hh.2)]
theorem numS_false (lim : Nat) (B : List Int) : numS false lim B = (0, B, false) := by
  rw [numS, if_neg (fun h => by cases h.1)]
theorem numS_le (ok : Bool) (lim : Nat) (B : List Int) : (numS ok lim B).1 ≤ lim := by
  unfold numS
  split
  · rename_i h; exact h.2.2
  · exact Nat.zero_le _
def NumOut (w0 w : World) (g : Nat) (r : Nat × List Int × Bool) (e : Ending) (w' : World) : Prop :=
  e = .returned (.int .i64 (r.1 : Int)) ∧ Nr w0 w' g r.2.1 r.2.2 ∧ Wrote w w' g none none
set_option maxHeartbeats 1000000 in
set_option maxRecDepth 100000 in
theorem numberB_any (w0 w : World) (g : Nat) (B : List Int) (ok : Bool) (lim : Nat) (x : Int) (h : Nr w0 w g B ok) (hx : x = lim) (hlim : lim ≤ 2147483648) :
    Calls Try.prog 60 #[.pointer (some ⟨g, 0, none⟩), .int .i64 x] w fun e w' => NumOut w0 w g (numS ok lim B) e w' := by
  subst hx
  obtain ⟨hg, hb, hl, A, n, c, hblk, hin⟩ := h
  have HB := Aside0.mk hb
  have HIN := Aside0.mk hin
  have HK := Aside0.mk hblk
  have HU := Aside0.mk (uvarint_call A n c B w hin.1 (hin.1 ▸ Kd.C_below hin.2.2.2 hb) hin.2.1 hin.2.2.1 (by have := hin.1; omega))
  have hd0 := blk_cell hblk 0
  have hd1 := blk_cell hblk 1
  have hf1 := blk_frozen hblk 1
  have hf0 := blk_frozen hblk 0
  simp at hd0 hd1
  have hle := takeL_le B
  obtain ⟨⟨v, k, z⟩, hT⟩ : ∃ T, T = takeL B := ⟨_, rfl⟩
  have hns : numS ok lim B = if ok = true ∧ z = 0 ∧ v ≤ lim then (v, B.drop k, true) else (0, B, false) := by rw [numS, ← hT]
  rw [← hT] at hle HU
  simp only at hle
  have hwl := wrap_u64_nat lim (by omega)
  clear hT hb hin hblk
  have hfail : ∀ m, Nr w0 ((w.drewN m).setCell ⟨g, 1, none⟩ (.bool false)) g B false ∧ Wrote w ((w.drewN m).setCell ⟨g, 1, none⟩ (.bool false)) g none none := fun m =>
    ⟨⟨hg, Below.setCell (pw_below_drewN HB.out m) hg _, hl, A, n, c, blk_put (w := w.drewN m) HK.out 1 _ (by simp), HIN.out⟩, ((Wrote.refl _ _ _).drewN m).setG _ _⟩
  have HF := Aside0.mk hfail
  clear hfail
  cases ok with
  | false =>
    rw [hns, if_neg (by simp)]
    clear hns
    go_enter Try.func60, Try.ntmps60
    go_wp2_with fail
    refine HU.out.mono ?_
    rintro e w1 ⟨rfl, ⟨m, rfl⟩⟩
    unfold Triple
    go_wp2_with fail
    go_ret
    exact ⟨rfl, HF.out m⟩
  | true =>
    by_cases hz : z = 0
    · subst hz
      by_cases hv : v ≤ lim
      · rw [hns, if_pos ⟨rfl, rfl, hv⟩]
        clear hns HF
        obtain ⟨A', c', hrun, hread⟩ := drop_bytes A n c B k HIN.out.1 (by rw [← HIN.out.1]; exact hle) HIN.out.2.1
        have hrun2 := fun W => hrun (k : Int) W rfl
        have HIN2 := Aside0.mk (hread w0 HIN.out)
        clear hrun hread
        have hvl : ¬ (lim : Int) < (v : Int) := by omega
        have hwv : IntKind.i64.wrap (v : Int) = (v : Int) := IntWalk.i64_in _ (by omega)
        have HOK : Aside0 (∀ m, Nr w0 ((w.drewN m).setCell ⟨g, 0, none⟩ (.slice A' (n - k) c')) g (B.drop k) true ∧ Wrote w ((w.drewN m).setCell ⟨g, 0, none⟩ (.slice A' (n - k) c')) g none none) := ⟨fun m =>
          ⟨⟨hg, Below.setCell (pw_below_drewN HB.out m) hg _, by rw [List.length_drop]; omega, A', n - k, c', blk_put (w := w.drewN m) HK.out 0 _ (by simp), HIN2.out⟩, ((Wrote.refl _ _ _).drewN m).setG _ _⟩⟩
        clear hle
        go_enter Try.func60, Try.ntmps60
        go_wp2_with fail
        refine HU.out.mono ?_
        rintro e w1 ⟨rfl, ⟨m, rfl⟩⟩
        unfold Triple
        go_wp2_with fail
        go_ret
        exact ⟨rfl, HOK.out m⟩
      · rw [hns, if_neg (fun h => hv h.2.2)]
        clear hns
        have hvl : (lim : Int) < (v : Int) := by omega
        go_enter Try.func60, Try.ntmps60
        go_wp2_with fail
        refine HU.out.mono ?_
        rintro e w1 ⟨rfl, ⟨m, rfl⟩⟩
        unfold Triple
        go_wp2_with fail
        go_ret
        exact ⟨rfl, HF.out m⟩
    · rw [hns, if_neg (fun h => hz h.2.1)]
      clear hns
      go_enter Try.func60, Try.ntmps60
      go_wp2_with fail
      refine HU.out.mono ?_
      rintro e w1 ⟨rfl, ⟨m, rfl⟩⟩
      unfold Triple
      go_wp2_with fail
      go_ret
      exact ⟨rfl, HF.out m⟩


theorem own_intsU {w : World} {base n m c : Nat} {A : Option Addr} {l : List Int} (h : w.ownsRow base 3 1 (.slice A m c) m (nums .i64 l)) (hl : l.length = m) (hm : m = n) : InInts w A n c l := by
  subst hm hl
  have h1 : Kd.R (Kd.int .i64) 3 w base (fun _ => True) (.slice A l.length c) l := Kd.R_of_own h (fun _ _ => trivial)
  obtain ⟨h2, h3⟩ := (Kd.R_reads' h1).2
  exact ⟨rfl, h2, h3⟩
/-- The numbers xs in the block gv. -/
def Vr (w : World) (base gv m : Nat) (xs : List Nat) : Prop := xs.length = m ∧ w.ownsRow base 3 1 (.slice (some ⟨gv, 0, none⟩) m m) m (nums .i64 (ints xs))
theorem Vr.below {w w1 : World} {base gv m : Nat} {xs : List Nat} (h : Vr w base gv m xs) (hb : Below w.heap.size w w1) : Vr w1 base gv m xs := ⟨h.1, pw_own_below h.2 hb⟩
theorem Vr.drew {w : World} {base gv m : Nat} {xs : List Nat} (h : Vr w base gv m xs) : Vr w.drew base gv m xs := h
theorem Vr.drewN {w : World} {base gv m : Nat} {xs : List Nat} (h : Vr w base gv m xs) (n : Nat) : Vr (w.drewN n) base gv m xs := h
theorem Vr.cell {w : World} {base gv m : Nat} {xs : List Nat} (h : Vr w base gv m xs) (i : Nat) (hi : i < m) : w.cell? ⟨gv, i, none⟩ = some (.int .i64 ((xs.getD i 0 : Nat) : Int)) ∧ w.frozen? ⟨gv, i, none⟩ = false := by
  have h1 := own_at h.2 (i : Int) (by omega) (by omega)
  rw [Int.toNat_natCast] at h1
  refine ⟨h1.1.trans ?_, h1.2⟩
  rw [← ints_getD]
  simp [rd]
theorem Vr.set {w : World} {base gv m : Nat} {xs : List Nat} (h : Vr w base gv m xs) (i x : Nat) : Vr (w.setCell ⟨gv, i, none⟩ (.int .i64 (x : Int))) base gv m (xs.set i x) := by
  have hs := (own_store h.2 (i : Int) (x : Int)).1
  rw [Int.toNat_natCast] at hs
  have e : (ints xs).set i (x : Int) = ints (xs.set i x) := by simp [ints, List.map_set]
  rw [e] at hs
  exact ⟨by rw [List.length_set]; exact h.1, hs⟩
theorem Vr.base_le {w : World} {base gv m : Nat} {xs : List Nat} (h : Vr w base gv m xs) : base ≤ gv := own_base h.2 gv rfl
theorem Vr.asInts {w : World} {base gv m : Nat} {xs : List Nat} (h : Vr w base gv m xs) : InInts w (some ⟨gv, 0, none⟩) m m (ints xs) := own_intsU h.2 (by rw [ints_length]; exact h.1) rfl
theorem Vr.less {w : World} {base b gv m : Nat} {xs : List Nat} (h : Vr w base gv m xs) (hb : b ≤ base) : Vr w b gv m xs := ⟨h.1, own_less h.2 hb⟩
theorem Vr.made (W : World) (base m : Nat) (hb : base ≤ W.heap.size) (hm : m ≤ 1000) : Vr (W.alloc (.cells (madeCells #[.int .i64 0] m) 3)) base W.heap.size m (List.replicate m 0) := by
  refine ⟨by simp, ?_⟩
  have h := own_made W base 3 .i64 m hb (by omega)
  have e : ints (List.replicate m 0) = List.replicate m 0 := by simp [ints]
  rw [e]
  exact h
/-- A Reader beside the numbers. -/
theorem Rd.vals {w : World} {base b g p gv m : Nat} {L : List Bool} {xs : List Nat} (h : Rd w base g p L) (hv : Vr w b gv m xs) (i : Nat) (u : Value) : Rd (w.setCell ⟨gv, i, none⟩ u) base g p L := by
  obtain ⟨A, c, B, h1, h2, h3, h4⟩ := h
  have hne : g ≠ gv := fun e => own_ne hv.2 h1 (by decide) (by rw [e]; rfl)
  refine ⟨A, c, B, blk_far h1 hne u, h2, own_setCell h3 (fun e => ?_) u, h4⟩
  rcases own_type_ne h3 hv.2 (by decide) with h0 | h0
  · rw [h0] at e; cases e
  · exact h0 e.symm
/-- The numbers beside a Reader that is moved. -/
theorem Vr.beside {w w1 : World} {base base' g p gv m : Nat} {L : List Bool} {xs : List Nat} (h : Vr w base gv m xs) (hr : Rd w base' g p L) (hw : Wrote w w1 g none none) : Vr w1 base gv m xs := by
  obtain ⟨A, c, B, h1, _⟩ := hr
  exact ⟨h.1, hw.own h.2 (fun e => own_ne h.2 h1 (by decide) e.symm) (Classical.em _)⟩
theorem mul_w (a b : Nat) (h : a * b ≤ 1000000) : IntKind.i64.wrap ((a : Int) * (b : Int)) = ((a * b : Nat) : Int) := by
  have e : (a : Int) * (b : Int) = ((a * b : Nat) : Int) := by simp
  rw [e]
  exact IntWalk.i64_in _ (by omega)
theorem lowV_length (L : List Bool) (n w : Nat) : (lowV L n w).length = n := by simp [lowV]
theorem lowV_succ (L : List Bool) (k w m : Nat) (hk : k < m) : (lowV L k w ++ List.replicate (m - k) 0).set k (numL ((L.drop (k * w)).take w)) = lowV L (k + 1) w ++ List.replicate (m - (k + 1)) 0 := by
  have hl := lowV_length L k w
  rw [List.set_append_right _ _ (by omega), hl, Nat.sub_self, show m - k = (m - (k + 1)) + 1 by omega, List.replicate_succ, List.set_cons_zero]
  have e : lowV L (k + 1) w = lowV L k w ++ [numL ((L.drop (k * w)).take w)] := by simp [lowV, List.range_succ]
  rw [e, List.append_assoc, List.singleton_append]
structure LoRel (w : World) (g gv m wd : Nat) (L : List Bool) (i : Value) (w' : World) : Prop where
  out : ∃ k : Nat, k ≤ m ∧ i = .int .i64 (k : Int) ∧ Rd w' w.heap.size g (k * wd) L ∧ Vr w' w.heap.size gv m (lowV L k wd ++ List.replicate (m - k) 0) ∧ Below w.heap.size w w'
set_option maxHeartbeats 2000000 in
set_option maxRecDepth 100000 in
theorem low15_any (A : Option Addr) (n c : Nat) (B : List Int) (x y : Int) (m wd : Nat) (w : World) (h : InBytes w A n c B) (hx : x = m) (hy : y = wd) (hm : m ≤ 128) (hwd : wd ≤ 31) (hle : m * wd ≤ 8 * n) (hn : n ≤ 1000000) :
    Calls Try.prog 61 #[.slice A n c, .int .i64 x, .int .i64 y] w fun e w' => ∃ gv, e = .returned (.slice (some ⟨gv, 0, none⟩) m m) ∧ Vr w' w.heap.size gv m (lowV (unpackL B (m * wd)) m wd) ∧ Below w.heap.size w w' := by
  subst hx hy
  have hmw : m * wd ≤ 128 * 31 := Nat.mul_le_mul hm hwd
  have hmul := mul_w m wd (by omega)
  have HNR := Aside0.mk (newReader_any A n c B ((m * wd : Nat) : Int) (m * wd) w h rfl hle hn)
  obtain ⟨L, hL⟩ : ∃ L, L = unpackL B (m * wd) := ⟨_, rfl⟩
  have hLl : L.length = m * wd := by rw [hL, unpackL_length]
  rw [← hL] at HNR ⊢
  have hmake := print_make (P := Try.prog) 40 3 .i64 8 Try.underlying40 Refs.info3 (by omega) m (by omega)
  have HLL := Aside0.mk hLl
  clear h hL hLl hle
  go_enter Try.func61, Try.ntmps61
  go_wp2_with fail
  refine HNR.out.mono ?_
  rintro e w1 ⟨g, rfl, hr1, hb1⟩
  have HR1 := Aside0.mk hr1
  have HB1 := Aside0.mk hb1
  have hz1 := hb1.size
  have HV1 := Aside0.mk (Vr.made w1 w.heap.size m hz1 (by omega))
  have hal := below_alloc (Below.refl w1.heap.size w1) (.cells (madeCells #[.int .i64 0] m) 3)
  have HR2 := Aside0.mk (hr1.below hal)
  have HB2 := Aside0.mk (below_step hb1 hal)
  clear hr1 hb1 hal HNR
  go_wp2_with fail
  go_loopw [10, 11, 12, 25] (fun _ _ _ i w' => LoRel w g w1.heap.size m wd L i w') (fun _ _ _ i _ => m - (intOf i).toNat)
  case atStart => exact ⟨⟨0, Nat.zero_le _, rfl, by rw [Nat.zero_mul]; exact HR2.out, HV1.out, HB2.out⟩⟩
  case round =>
    obtain ⟨k, hk, rfl, hr, hv, hb⟩ := hrel.out
    clear hrel
    have HR := Aside0.mk hr
    have HV := Aside0.mk hv
    have HB := Aside0.mk hb
    clear hr hv hb
    by_cases hlt : k < m
    · have hkw : k * wd + wd ≤ m * wd := by rw [← Nat.succ_mul]; exact Nat.mul_le_mul_right _ hlt
      have hp : k * wd ≤ L.length := by rw [HLL.out]; omega
      have hrd : readL L (k * wd) 0 (wd : Int) = (numL ((L.drop (k * wd)).take wd), k * wd + wd, 0) := by
        rw [readL, if_pos rfl, if_neg (by omega), Int.toNat_natCast, if_neg (by rw [HLL.out]; omega)]
      have HRD := Aside0.mk hrd
      have HS := Aside0.mk (lowV_succ L k wd m hlt)
      obtain ⟨v, hv⟩ : ∃ v, v = numL ((L.drop (k * wd)).take wd) := ⟨_, rfl⟩
      have hvl : v < 2 ^ 31 := by
        have h1 := numL_lt ((L.drop (k * wd)).take wd)
        rw [← hv] at h1
        refine Nat.lt_of_lt_of_le h1 (Nat.pow_le_pow_right (by omega) ?_)
        rw [List.length_take]; omega
      have hvw : IntKind.i64.wrap (v : Int) = (v : Int) := IntWalk.i64_in _ (by omega)
      rw [← hv] at HRD HS
      obtain ⟨xs, hxs⟩ : ∃ xs, xs = lowV L k wd ++ List.replicate (m - k) 0 := ⟨_, rfl⟩
      rw [← hxs] at HV HS
      clear hv hxs hrd
      go_wp2_with fail
      refine (rbits_any w.heap.size g (k * wd) L (wd : Int) _ HR.out hp).mono ?_
      rintro e w4 ⟨rfl, hr4, hw4⟩
      rw [HRD.out] at hr4 ⊢
      have HR4 := Aside0.mk hr4
      have HV4 := Aside0.mk (HV.out.beside HR.out hw4)
      have HB4 := Aside0.mk (hw4.below HB.out HB.out.size HR.out.g_base (fun k hk => by cases hk))
      obtain ⟨hcell, hfroz⟩ := HV4.out.cell k hlt
      have HV5 := Aside0.mk (HV4.out.set k v)
      have HR5 := Aside0.mk (HR4.out.vals HV4.out k (.int .i64 (v : Int)))
      have HB5 := Aside0.mk (Below.setCell HB4.out (p := ⟨w1.heap.size, k, none⟩) hz1 (.int .i64 (v : Int)))
      clear hr4 hw4
      go_wp2_with fail
      go_roundw
      case rel => exact ⟨⟨k + 1, by omega, by go_num, by rw [Nat.succ_mul]; exact HR5.out, by rw [← HS.out]; exact HV5.out, HB5.out⟩⟩
      case measure => simp [intOf]; omega
    · have hkm : k = m := by omega
      subst hkm
      go_wp2_with fail
      go_ret
      refine ⟨_, rfl, ?_, HB.out⟩
      have := HV.out
      rw [Nat.sub_self, List.replicate_zero, List.append_nil] at this
      exact this


theorem equal_any (A0 : Option Addr) (n0 c0 : Nat) (B : List Int) (A1 : Option Addr) (n1 c1 : Nat) (C : List Int) (w : World) (h0 : InBytes w A0 n0 c0 B) (h1 : InBytes w A1 n1 c1 C) :
    Calls Try.prog 62 #[.slice A0 n0 c0, .slice A1 n1 c1] w fun e w' => e = .returned (.bool (decide (B = C))) ∧ Drawn0 w w' := by
  obtain ⟨rfl, hc0, hB, hC0⟩ := h0
  obtain ⟨rfl, hc1, hC, hC1⟩ := h1
  exact Refs.bytes_Equal.calls A0 c0 B A1 c1 C (decide (B = C)) w hC0 hc0 hC1 hc1 (by unfold Refs.bytes_Equal.f; rw [str_eq B C hB hC])
theorem sameInts_l (l m : List Int) (hlm : l.length = m.length) (hs : l.length < 4611686018427387904) (d : Nat) : ∀ k i : Nat, l.length - i = d → d < k → i ≤ l.length → l.take i = m.take i →
    Refs.corporaref12_SameInts.l0 k l m (l.length : Int) (i : Int) = some (decide (l = m)) := by
  induction d with
  | zero =>
    intro k i hd hk hi ht
    obtain ⟨k, rfl⟩ : ∃ j, k = j + 1 := ⟨k - 1, by omega⟩
    have hil : i = l.length := by omega
    have e : l = m := by
      have h1 : l.take i = l := by rw [hil, List.take_length]
      have h2 : m.take i = m := by rw [hil, hlm, List.take_length]
      rw [h1, h2] at ht
      exact ht
    rw [Refs.corporaref12_SameInts.l0, if_neg (by omega), decide_eq_true e]
  | succ d ih =>
    intro k i hd hk hi ht
    obtain ⟨k, rfl⟩ : ∃ j, k = j + 1 := ⟨k - 1, by omega⟩
    rw [Refs.corporaref12_SameInts.l0, if_pos (by omega), if_pos (by omega), if_pos (by omega), if_pos (by omega), rd_nat, rd_nat]
    by_cases hx : l.getD i 0 = m.getD i 0
    · rw [if_pos hx]
      have e : wrap64 ((i : Int) + 1) = ((i + 1 : Nat) : Int) := by unfold wrap64; omega
      rw [e]
      exact ih k (i + 1) (by omega) (by omega) (by omega) (by rw [take_snoc l i 0 (by omega), take_snoc m i 0 (by omega), ht, hx])
    · rw [if_neg hx, decide_eq_false (fun h => hx (by rw [h]))]
theorem sameInts_f (l m : List Int) (hs : l.length < 4611686018427387904) : Refs.corporaref12_SameInts.f (l.length + 1) l m = some (decide (l = m)) := by
  unfold Refs.corporaref12_SameInts.f
  by_cases h : (l.length : Int) = (m.length : Int)
  · rw [if_pos h]
    exact sameInts_l l m (by omega) hs l.length (l.length + 1) 0 (by omega) (by omega) (by omega) rfl
  · rw [if_neg h, decide_eq_false (fun e => h (by rw [e]))]
theorem sameInts_any (A0 : Option Addr) (n0 c0 : Nat) (l : List Int) (A1 : Option Addr) (n1 c1 : Nat) (m : List Int) (w : World) (h0 : InInts w A0 n0 c0 l) (h1 : InInts w A1 n1 c1 m) (hs : n0 < 4611686018427387904) :
    Calls Try.prog 34 #[.slice A0 n0 c0, .slice A1 n1 c1] w fun e w' => e = .returned (.bool (decide (l = m))) ∧ Drawn0 w w' := by
  obtain ⟨rfl, hc0, hC0⟩ := h0
  obtain ⟨rfl, hc1, hC1⟩ := h1
  exact Refs.corporaref12_SameInts.calls (l.length + 1) A0 c0 l A1 c1 m (decide (l = m)) w hC0 hc0 hC1 hc1 (sameInts_f l m hs)
theorem or_i64_nat (a b : Nat) (ha : a < 9223372036854775808) (hb : b < 9223372036854775808) : bits .or .i64 (a : Int) (b : Int) = ((a ||| b : Nat) : Int) := by
  have hx : a ||| b < 2 ^ 63 := Nat.or_lt_two_pow (by omega) (by omega)
  have h1 : ∀ x : Nat, x < 9223372036854775808 → (BitVec.ofInt 64 (x : Int)).toNat = x := fun x hx => by
    rw [BitVec.ofInt_natCast, BitVec.toNat_ofNat]; exact Nat.mod_eq_of_lt (by omega)
  show IntKind.i64.wrap ((BitVec.ofInt 64 (a : Int) ||| BitVec.ofInt 64 (b : Int)).toNat : Int) = _
  rw [BitVec.toNat_or, h1 a ha, h1 b hb]
  exact IntWalk.i64_in _ (by omega)
theorem headX_eq {B B1 B2 B3 : List Int} {a1 a2 a3 : Nat} {o1 o2 o3 : Bool} (h1 : numS true 128 B = (a1, B1, o1)) (h2 : numS o1 31 B1 = (a2, B2, o2)) (h3 : numS o2 128 B2 = (a3, B3, o3)) :
    headX B = if o3 = true then some (a1, a2, a3, B3) else none := by
  unfold headX
  cases hp : numP 128 B with
  | none =>
    rw [numS_none hp] at h1
    simp only [Prod.mk.injEq] at h1
    obtain ⟨_, _, rfl⟩ := h1
    rw [numS_false] at h2
    simp only [Prod.mk.injEq] at h2
    obtain ⟨_, _, rfl⟩ := h2
    rw [numS_false] at h3
    simp only [Prod.mk.injEq] at h3
    obtain ⟨_, _, rfl⟩ := h3
    rfl
  | some q =>
    obtain ⟨v, C⟩ := q
    rw [numS_some hp] at h1
    simp only [Prod.mk.injEq] at h1
    obtain ⟨rfl, rfl, rfl⟩ := h1
    simp only
    cases hp2 : numP 31 C with
    | none =>
      rw [numS_none hp2] at h2
      simp only [Prod.mk.injEq] at h2
      obtain ⟨_, _, rfl⟩ := h2
      rw [numS_false] at h3
      simp only [Prod.mk.injEq] at h3
      obtain ⟨_, _, rfl⟩ := h3
      rfl
    | some q2 =>
      obtain ⟨v2, C2⟩ := q2
      rw [numS_some hp2] at h2
      simp only [Prod.mk.injEq] at h2
      obtain ⟨rfl, rfl, rfl⟩ := h2
      simp only
      cases hp3 : numP 128 C2 with
      | none =>
        rw [numS_none hp3] at h3
        simp only [Prod.mk.injEq] at h3
        obtain ⟨_, _, rfl⟩ := h3
        rfl
      | some q3 =>
        obtain ⟨v3, C3⟩ := q3
        rw [numS_some hp3] at h3
        simp only [Prod.mk.injEq] at h3
        obtain ⟨rfl, rfl, rfl⟩ := h3
        rfl
/-- One exception. -/
theorem excX_step {B B1 B2 : List Int} {g high lim w k a : Nat} {o1 o2 : Bool} {vals : List Nat} (h1 : numS true 128 B = (g, B1, o1)) (h2 : numS o1 lim B1 = (high, B2, o2)) :
    excX lim w (k + 1) B a vals = if o2 = true ∧ 1 ≤ a + g ∧ a + g ≤ vals.length then excX lim w k B2 (a + g) (vals.set (a + g - 1) (vals.getD (a + g - 1) 0 ||| high * 2 ^ w)) else none := by
  rw [excX]
  cases hp : numP 128 B with
  | none =>
    rw [numS_none hp] at h1
    simp only [Prod.mk.injEq] at h1
    obtain ⟨_, _, rfl⟩ := h1
    rw [numS_false] at h2
    simp only [Prod.mk.injEq] at h2
    obtain ⟨_, _, rfl⟩ := h2
    rw [if_neg (fun h => by cases h.1)]
  | some q =>
    obtain ⟨v, C⟩ := q
    rw [numS_some hp] at h1
    simp only [Prod.mk.injEq] at h1
    obtain ⟨rfl, rfl, rfl⟩ := h1
    simp only
    cases hp2 : numP lim C with
    | none =>
      rw [numS_none hp2] at h2
      simp only [Prod.mk.injEq] at h2
      obtain ⟨_, _, rfl⟩ := h2
      rw [if_neg (fun h => by cases h.1)]
    | some q2 =>
      obtain ⟨v2, C2⟩ := q2
      rw [numS_some hp2] at h2
      simp only [Prod.mk.injEq] at h2
      obtain ⟨rfl, rfl, rfl⟩ := h2
      simp only [true_and]
theorem or_bound (xs : List Nat) (i y b : Nat) (h : ∀ v ∈ xs, v < 2 ^ b) (hy : y < 2 ^ b) : ∀ v ∈ xs.set i (xs.getD i 0 ||| y), v < 2 ^ b := by
  intro v hv
  rcases List.mem_or_eq_of_mem_set hv with h1 | h1
  · exact h v h1
  · subst h1
    refine Nat.or_lt_two_pow ?_ hy
    rw [List.getD_eq_getElem?_getD]
    cases hg : xs[i]? with
    | none => exact Nat.two_pow_pos b
    | some u => exact h u (List.mem_of_getElem? hg)
theorem lowV_bound (L : List Bool) (n w : Nat) (hw : w ≤ 31) : ∀ v ∈ lowV L n w, v < 2 ^ 31 := by
  intro v hv
  obtain ⟨i, _, rfl⟩ := List.mem_map.1 hv
  refine Nat.lt_of_lt_of_le (numL_lt _) (Nat.pow_le_pow_right (by omega) ?_)
  rw [List.length_take]; omega
theorem excX_length {lim w : Nat} (k : Nat) : ∀ (B : List Int) (a : Nat) (vals vs : List Nat), excX lim w k B a vals = some vs → vs.length = vals.length := by
  induction k with
  | zero => intro B a vals vs h; rw [excX] at h; rw [Option.some.inj h]
  | succ k ih =>
    intro B a vals vs h
    rw [excX] at h
    split at h
    · cases h
    · split at h
      · cases h
      · split at h
        · have := ih _ _ _ _ h
          rw [this, List.length_set]
        · cases h


/-- What Unpack leaves: an error, or the numbers. -/
def UnpOut (w : World) (r : Option (List Nat)) (e : Ending) (w' : World) : Prop :=
  Below w.heap.size w w' ∧ match r with
    | none => e = .returned (.tuple #[.slice none 0 0, .int .i64 9])
    | some vs => ∃ gv, e = .returned (.tuple #[.slice (some ⟨gv, 0, none⟩) vs.length vs.length, .int .i64 0]) ∧ Vr w' w.heap.size gv vs.length vs
theorem packV_bytes (l : List Int) : IsBytes (packV l) := by
  unfold packV
  split
  · exact encL_bytes _ _
  · intro x hx; simp at hx
theorem Nr.below {w0 w w1 : World} {g : Nat} {B : List Int} {ok : Bool} (h : Nr w0 w g B ok) (hb : Below w.heap.size w w1) : Nr w0 w1 g B ok := by
  obtain ⟨h1, h2, h3, A, n, c, h4, h5⟩ := h
  exact ⟨h1, below_step h2 hb, h3, A, n, c, blk_below h4 hb, h5⟩
theorem Nr.drew {w0 w : World} {g : Nat} {B : List Int} {ok : Bool} (h : Nr w0 w g B ok) : Nr w0 w.drew g B ok := by
  obtain ⟨h1, h2, h3, A, n, c, h4, h5⟩ := h
  exact ⟨h1, below_drew h2, h3, A, n, c, h4, h5⟩
theorem Nr.vals {w0 w : World} {g b gv m : Nat} {B : List Int} {ok : Bool} {xs : List Nat} (h : Nr w0 w g B ok) (hv : Vr w b gv m xs) (hb : w0.heap.size ≤ gv) (i : Nat) (u : Value) : Nr w0 (w.setCell ⟨gv, i, none⟩ u) g B ok := by
  obtain ⟨h1, h2, h3, A, n, c, h4, h5⟩ := h
  have hne : g ≠ gv := fun e => own_ne hv.2 h4 (by decide) (by rw [e]; rfl)
  exact ⟨h1, Below.setCell h2 hb _, h3, A, n, c, blk_far h4 hne u, h5⟩
theorem Vr.reader {w0 w w1 : World} {base g gv m : Nat} {B : List Int} {ok : Bool} {xs : List Nat} (h : Vr w base gv m xs) (hr : Nr w0 w g B ok) (hw : Wrote w w1 g none none) : Vr w1 base gv m xs := by
  obtain ⟨_, _, _, A, n, c, h1, _⟩ := hr
  exact ⟨h.1, hw.own h.2 (fun e => own_ne h.2 h1 (by decide) e.symm) (Classical.em _)⟩
theorem Nr.cell1 {w0 w : World} {g : Nat} {B : List Int} {ok : Bool} (h : Nr w0 w g B ok) : w.cell? ⟨g, 1, none⟩ = some (.bool ok) ∧ w.frozen? ⟨g, 0, none⟩ = false := by
  obtain ⟨_, _, _, A, n, c, h1, _⟩ := h
  exact ⟨(blk_cell h1 1).trans rfl, blk_frozen h1 0⟩
theorem Nr.cell0 {w0 w : World} {g : Nat} {B : List Int} {ok : Bool} (h : Nr w0 w g B ok) : ∃ A n c, w.cell? ⟨g, 0, none⟩ = some (.slice A n c) ∧ InBytes w0 A n c B := by
  obtain ⟨_, _, _, A, n, c, h1, h2⟩ := h
  exact ⟨A, n, c, (blk_cell h1 0).trans rfl, h2⟩
theorem Nr.put {w0 w : World} {g : Nat} {B B' : List Int} {ok : Bool} {A : Option Addr} {n c : Nat} (h : Nr w0 w g B ok) (hl : B'.length ≤ 1000000) (hin : InBytes w0 A n c B') : Nr w0 (w.setCell ⟨g, 0, none⟩ (.slice A n c)) g B' ok := by
  obtain ⟨h1, h2, h3, A0, n0, c0, h4, h5⟩ := h
  exact ⟨h1, Below.setCell h2 h1 _, hl, A, n, c, blk_put h4 0 _ (by simp), hin⟩
theorem InBytes.below {w w1 : World} {A : Option Addr} {n c : Nat} {B : List Int} (h : InBytes w A n c B) (hb : Below w.heap.size w w1) : InBytes w1 A n c B := ⟨h.1, h.2.1, h.2.2.1, Kd.C_below h.2.2.2 hb⟩
theorem Vr.putR {w0 w : World} {base g gv m : Nat} {B : List Int} {ok : Bool} {xs : List Nat} (h : Vr w base gv m xs) (hr : Nr w0 w g B ok) (i : Nat) (u : Value) : Vr (w.setCell ⟨g, i, none⟩ u) base gv m xs := by
  obtain ⟨_, _, _, A, n, c, h1, _⟩ := hr
  exact ⟨h.1, own_setCell h.2 (fun e => own_ne h.2 h1 (by decide) e) u⟩
/-- A scope whose label is jumped to only forward. -/
theorem wp_scope_tail {P : Program} {a : Act} {w : World} {Q : Exit → Act → World → Prop} {c rest : Code} (l : Nat) (hf : findLabel c l = some rest)
    (first : c.wp P (Exit.jump l (fun a w => rest.wp P (Exit.jump l (fun _ _ => False) Q) a w) Q) a w) : (Code.scope c).wp P Q a w :=
  wp_scope_jumps l (fun a w => rest.wp P (Exit.jump l (fun _ _ => False) Q) a w) (fun _ _ => 0) hf first (fun a w h b k cs => by
    obtain ⟨e, a', w', hq, harr⟩ := h b k cs
    refine ⟨e, a', w', ?_, harr⟩
    cases e with
    | goto l' => exact absurd hq.2 (fun h => h)
    | _ => exact hq)
structure URel (w : World) (g gv m wd : Nat) (R : Option (List Nat)) (atv cnt : Value) (w' : World) : Prop where
  out : ∃ (k a : Nat) (B' : List Int) (xs : List Nat), k ≤ 128 ∧ a ≤ m ∧ cnt = .int .i64 (k : Int) ∧ atv = .int .i64 ((a : Int) - 1) ∧ Nr w w' g B' true ∧ Vr w' w.heap.size gv m xs ∧ (∀ v ∈ xs, v < 2 ^ 31) ∧
    R = excX (limP wd) wd k B' a xs
set_option maxHeartbeats 4000000 in
set_option maxRecDepth 100000 in
theorem unpack_any (A : Option Addr) (n c : Nat) (B : List Int) (w : World) (h : InBytes w A n c B) (hn : n ≤ 1000000) :
    Calls Try.prog 33 #[.slice A n c] w fun e w' => UnpOut w (unpackX limP B) e w' := by
  have HIN := Aside0.mk h
  have hBn := h.1
  have HN0 : Aside0 (Nr w (w.alloc (.cells #[.slice A n c, .bool true] 91)) w.heap.size B true) := ⟨⟨Nat.le_refl _, below_alloc (Below.refl _ _) _, by omega, A, n, c, blk_new w _, h⟩⟩
  clear h
  obtain ⟨⟨a1, B1, o1⟩, h1⟩ : ∃ T, numS true 128 B = T := ⟨_, rfl⟩
  obtain ⟨⟨a2, B2, o2⟩, h2⟩ : ∃ T, numS o1 31 B1 = T := ⟨_, rfl⟩
  obtain ⟨⟨a3, B3, o3⟩, h3⟩ : ∃ T, numS o2 128 B2 = T := ⟨_, rfl⟩
  have ha1 := numS_le true 128 B
  have ha2 := numS_le o1 31 B1
  have ha3 := numS_le o2 128 B2
  rw [h1] at ha1
  rw [h2] at ha2
  rw [h3] at ha3
  simp only at ha1 ha2 ha3
  have HHEAD := Aside0.mk (headX_eq h1 h2 h3)
  have H1 := Aside0.mk h1
  have H2 := Aside0.mk h2
  have H3 := Aside0.mk h3
  clear h1 h2 h3
  have hq : a1 * a2 ≤ 128 * 31 := Nat.mul_le_mul ha1 ha2
  have hmul := mul_w a1 a2 (by omega)
  have HSZ : Aside0 (sizeX a1 a2 = (a1 * a2 + 7) / 8) := ⟨rfl⟩
  have HQ : Aside0 (∃ q, q = a1 * a2) := ⟨⟨_, rfl⟩⟩
  obtain ⟨q, hqe⟩ := HQ.out
  rw [← hqe] at hmul hq HSZ
  obtain ⟨s, hs⟩ : ∃ s, s = sizeX a1 a2 := ⟨_, rfl⟩
  have hs8 : ((q : Int) + 7) / 8 = (s : Int) := by rw [hs, HSZ.out]; omega
  have hsq : q ≤ 8 * s := by rw [hs, HSZ.out]; omega
  have HS := Aside0.mk hs
  have HQE := Aside0.mk hqe
  clear hs hqe HSZ HQ
  go_enter Try.func33, Try.ntmps33
  go_wp2_with fail
  refine wp_scope_tail 0 rfl ?_
  go_wp2_with fail
  refine (numberB_any w _ w.heap.size B true 128 _ HN0.out rfl (by omega)).mono ?_
  rintro e w1 ⟨rfl, hn1, hw1⟩
  rw [H1.out] at hn1 ⊢
  have HN1 := Aside0.mk hn1
  clear hn1 hw1 HN0
  go_wp2_with fail
  refine (numberB_any w _ w.heap.size B1 o1 31 _ HN1.out rfl (by omega)).mono ?_
  rintro e w2 ⟨rfl, hn2, hw2⟩
  rw [H2.out] at hn2 ⊢
  have HN2 := Aside0.mk hn2
  clear hn2 hw2 HN1
  go_wp2_with fail
  refine (numberB_any w _ w.heap.size B2 o2 128 _ HN2.out rfl (by omega)).mono ?_
  rintro e w3 ⟨rfl, hn3, hw3⟩
  rw [H3.out] at hn3 ⊢
  have HN3 := Aside0.mk hn3
  clear hn3 hw3 HN2
  obtain ⟨hok, hfz⟩ := HN3.out.cell1
  obtain ⟨A3, n3, c3, hc0, hin3⟩ := HN3.out.cell0
  simp only at hok hc0 hin3
  have HIN3 := Aside0.mk hin3
  have hn3 := hin3.1
  clear hin3
  cases o3 with
  | false =>
    have hX : unpackX limP B = none := by unfold unpackX rawX; rw [HHEAD.out]; rfl
    go_wp2_with fail
    go_step3
    refine ⟨rfl, ?_⟩
    go_wp2_with fail
    simp only [Exit.jump]
    go_ret2
    show UnpOut w (unpackX limP B) _ _
    rw [hX]
    exact ⟨HN3.out.2.1, rfl⟩
  | true =>
    rw [if_pos rfl] at HHEAD
    by_cases hlt : n3 < s
    · have hX : unpackX limP B = none := by
        have : rawX limP B = none := by
          unfold rawX
          rw [HHEAD.out]
          simp only
          rw [if_pos (by rw [hn3, ← HS.out]; exact hlt)]
        unfold unpackX
        rw [this]
      have hlt' : (n3 : Int) < (s : Int) := by omega
      go_wp2_with fail
      go_step3
      refine ⟨rfl, ?_⟩
      go_wp2_with fail
      simp only [Exit.jump]
      go_ret2
      show UnpOut w (unpackX limP B) _ _
      rw [hX]
      exact ⟨HN3.out.2.1, rfl⟩
    have hle : s ≤ n3 := by omega
    have hge : ¬ (n3 : Int) < (s : Int) := by omega
    obtain ⟨L, hL⟩ : ∃ L, L = unpackL B3 q := ⟨_, rfl⟩
    have HX : Aside0 (rawX limP B = excX (limP a2) a2 a3 (B3.drop s) 0 (lowV L a1 a2)) := ⟨by
      unfold rawX
      rw [HHEAD.out]
      simp only
      rw [if_neg (by rw [hn3, ← HS.out]; omega), ← HS.out, ← HQE.out, ← hL]⟩
    have HL : Aside0 (unpackL (B3.take s) (a1 * a2) = L) := ⟨by rw [hL, HQE.out, unpackL_take _ _ _ (by rw [← HQE.out]; omega)]⟩
    clear hL hlt
    have hcut := cut_run A3 c3 B3 s (by omega) (by rw [hn3]; exact HIN3.out.2.1)
    rw [hn3] at hcut
    have HCUT : Aside0 (InBytes w A3 s c3 (B3.take s)) := ⟨⟨by rw [List.length_take]; omega, Nat.le_trans hle HIN3.out.2.1, fun x hx => HIN3.out.2.2.1 x (List.mem_of_mem_take hx), by
      have := cut_reads s (by omega : s ≤ B3.length) HIN3.out.2.2.2
      rw [List.length_take, Nat.min_eq_left (by omega)]
      exact this⟩⟩
    obtain ⟨A4, c4, hrun, hread⟩ := drop_bytes A3 n3 c3 B3 s hn3 hle HIN3.out.2.1
    have hrun2 := fun W => hrun (s : Int) W rfl
    have HIN4 := Aside0.mk (hread w HIN3.out)
    clear hrun hread
    have hsn : s ≤ 1000000 := by have := HN3.out.2.2.1; omega
    have hmle : a1 * a2 ≤ 8 * s := by rw [← HQE.out]; exact hsq
    go_wp2_with fail
    refine (low15_any A3 s c3 (B3.take s) _ _ a1 a2 w3 (HCUT.out.below HN3.out.2.1) rfl rfl ha1 ha2 hmle hsn).mono ?_
    rintro e w4 ⟨gv, rfl, hv4, hb4⟩
    rw [HL.out] at hv4
    have HN4 := Aside0.mk (HN3.out.below hb4)
    have HV4 := Aside0.mk (hv4.less HN3.out.2.1.size)
    obtain ⟨hok4, hfz4⟩ := HN4.out.cell1
    have hc4 : w4.cell? ⟨w.heap.size, 0, none⟩ = some (.slice A3 n3 c3) := pw_cell_below hb4 hc0
    have HN5 := Aside0.mk (HN4.out.put (B' := B3.drop s) (by have := HN3.out.2.2.1; rw [List.length_drop]; omega) HIN4.out)
    have HV5 := Aside0.mk (HV4.out.putR HN4.out 0 (.slice A4 (n3 - s) c4))
    have HX0 : Aside0 (∀ v ∈ lowV L a1 a2, v < 2 ^ 31) := ⟨lowV_bound L a1 a2 ha2⟩
    have HLL := Aside0.mk (lowV_length L a1 a2)
    clear hv4 hb4
    go_wp2_with fail
    go_loopw [6, 10, 12] (fun at_ cnt _ w' => URel w w.heap.size gv a1 a2 (rawX limP B) at_ cnt w') (fun _ cnt _ _ => (intOf cnt).toNat)
    case atStart => exact ⟨⟨a3, 0, _, _, ha3, Nat.zero_le _, rfl, rfl, HN5.out, HV5.out, HX0.out, HX.out⟩⟩
    case round =>
      obtain ⟨k, a, B', xs, hk, ha, rfl, hatv, hnr, hvr, hxs, hR⟩ := hrel.out
      clear hrel
      obtain ⟨t0, ht0⟩ : ∃ t0 : Int, t0 = (a : Int) - 1 := ⟨_, rfl⟩
      rw [← ht0] at hatv
      subst hatv
      have HT0 := Aside0.mk ht0
      clear ht0
      have HN := Aside0.mk hnr
      have HV := Aside0.mk hvr
      have HXS := Aside0.mk hxs
      have HR := Aside0.mk hR
      clear hnr hvr hxs hR hok hfz hc0 hok4 hfz4 hc4 hrun2 hcut
      by_cases hk0 : k = 0
      · subst hk0
        have hraw : rawX limP B = some xs := by rw [HR.out, excX]
        have hxl := HV.out.1
        obtain ⟨P, hP⟩ : ∃ P, P = packV (ints xs) := ⟨_, rfl⟩
        have HPB : Aside0 (IsBytes P) := ⟨hP ▸ packV_bytes _⟩
        have HX2 : Aside0 (unpackX limP B = if P = B then some xs else none) := ⟨by unfold unpackX; rw [hraw, hP]⟩
        have HPE := Aside0.mk hP
        clear hP hraw
        subst hxl
        go_wp2_with fail
        refine (pack_any (some ⟨gv, 0, none⟩) xs.length xs.length (ints xs) _ HV.out.asInts).mono ?_
        rintro e w6 ⟨v6, rfl, hr6, hb6⟩
        rw [← HPE.out] at hr6
        obtain ⟨A6, c6, hv6, hl6, hC6⟩ := Kd.R_reads hr6
        subst hv6
        have HIN6 : Aside0 (InBytes w6 A6 P.length c6 P) := ⟨⟨rfl, hl6, HPB.out, hC6⟩⟩
        have HB6 := Aside0.mk (below_step HN.out.2.1 hb6)
        have HV6 := Aside0.mk (HV.out.below hb6)
        have HINB := Aside0.mk (HIN.out.below HB6.out)
        clear hr6 hb6 hl6 hC6
        go_wp2_with fail
        refine (equal_any A6 P.length c6 P A n c B _ HIN6.out HINB.out).mono ?_
        rintro e w7 ⟨rfl, ⟨n7, rfl⟩⟩
        have HB7 := Aside0.mk (pw_below_drewN HB6.out n7)
        have HV7 := Aside0.mk (HV6.out.drewN n7)
        by_cases hPB : P = B
        · rw [decide_eq_true hPB]
          go_wp2_with fail
          simp only [Exit.jump]
          go_ret2
          show UnpOut w (unpackX limP B) _ _
          rw [HX2.out, if_pos hPB]
          exact ⟨HB7.out, gv, rfl, HV7.out⟩
        · rw [decide_eq_false hPB]
          go_wp2_with fail
          go_step3
          refine ⟨rfl, ?_⟩
          go_wp2_with fail
          simp only [Exit.jump]
          go_ret2
          show UnpOut w (unpackX limP B) _ _
          rw [HX2.out, if_neg hPB]
          exact ⟨HB7.out, rfl⟩
      · obtain ⟨k, rfl⟩ : ∃ j, k = j + 1 := ⟨k - 1, by omega⟩
        obtain ⟨⟨g1, C1, p1⟩, e1⟩ : ∃ T, numS true 128 B' = T := ⟨_, rfl⟩
        obtain ⟨⟨hi, C2, p2⟩, e2⟩ : ∃ T, numS p1 (limP a2) C1 = T := ⟨_, rfl⟩
        have hg1 := numS_le true 128 B'
        have hhi := numS_le p1 (limP a2) C1
        rw [e1] at hg1
        rw [e2] at hhi
        simp only at hg1 hhi
        have hlim : limP a2 ≤ 2147483647 := Nat.div_le_self _ _
        have hshr : (2147483647 : Int) / 2 ^ a2 = (limP a2 : Int) := by unfold limP; simp
        have hmulle : hi * 2 ^ a2 ≤ 2147483647 := Nat.le_trans (Nat.mul_le_mul_right _ hhi) (Nat.div_mul_le_self _ _)
        have HSTEP := Aside0.mk (excX_step (w := a2) (k := k) (a := a) (vals := xs) e1 e2)
        obtain ⟨t, ht⟩ : ∃ t : Int, t = t0 + (g1 : Int) := ⟨_, rfl⟩
        have hadd : IntKind.i64.wrap (t0 + (g1 : Int)) = t := by rw [ht]; have := HT0.out; exact IntWalk.i64_in _ (by omega)
        have HT := Aside0.mk ht
        clear ht
        have E1 := Aside0.mk e1
        have E2 := Aside0.mk e2
        have HXL := Aside0.mk HV.out.1
        clear e1 e2
        go_wp2_with fail
        refine (numberB_any w _ w.heap.size B' true 128 _ HN.out rfl (by omega)).mono ?_
        rintro e w6 ⟨rfl, hn6, hw6⟩
        rw [E1.out] at hn6 ⊢
        have HN6 := Aside0.mk hn6
        have HV6 := Aside0.mk (HV.out.reader HN.out hw6)
        clear hn6 hw6
        go_wp2_with fail
        refine (numberB_any w _ w.heap.size C1 p1 (limP a2) _ HN6.out hshr (by omega)).mono ?_
        rintro e w7 ⟨rfl, hn7, hw7⟩
        rw [E2.out] at hn7 ⊢
        have HN7 := Aside0.mk hn7
        have HV7 := Aside0.mk (HV6.out.reader HN6.out hw7)
        obtain ⟨hok7, hfz7⟩ := HN7.out.cell1
        simp only at hok7
        clear hn7 hw7
        by_cases hgood : p2 = true ∧ 1 ≤ a + g1 ∧ a + g1 ≤ a1
        · obtain ⟨rfl, hj1, hj2⟩ := hgood
          obtain ⟨j, hj⟩ : ∃ j, a + g1 = j + 1 := ⟨a + g1 - 1, by omega⟩
          have htj : t = (j : Int) := by have := HT0.out; have := HT.out; omega
          subst htj
          have hjm : j < a1 := by omega
          obtain ⟨hcell, hfroz⟩ := HV7.out.cell j hjm
          have HOB := Aside0.mk (or_bound xs j (hi * 2 ^ a2) 31 HXS.out (by omega))
          rw [if_pos ⟨rfl, hj1, by rw [HXL.out]; exact hj2⟩, show a + g1 - 1 = j by omega] at HSTEP
          obtain ⟨x, hx⟩ : ∃ x, x = xs.getD j 0 := ⟨_, rfl⟩
          have hxl : x < 2 ^ 31 := by
            rw [hx, List.getD_eq_getElem?_getD]
            cases hg : xs[j]? with
            | none => exact Nat.two_pow_pos 31
            | some u => exact HXS.out u (List.mem_of_getElem? hg)
          rw [← hx] at hcell HOB HSTEP
          clear hx
          obtain ⟨y, hy⟩ : ∃ y, y = hi * 2 ^ a2 := ⟨_, rfl⟩
          rw [← hy] at hmulle HOB HSTEP
          have hyi : (hi : Int) * 2 ^ a2 = (y : Int) := by rw [hy]; simp
          have hshl : IntKind.i64.wrap ((hi : Int) * 2 ^ a2) = (y : Int) := by rw [hyi]; exact IntWalk.i64_in _ (by omega)
          have hor := or_i64_nat x y (by omega) (by omega)
          have HN8 := Aside0.mk ((HN7.out.vals HV7.out HV7.out.base_le j (.int .i64 ((x ||| y : Nat) : Int))).drew)
          have HV8 := Aside0.mk ((HV7.out.set j (x ||| y)).drew)
          clear hy
          go_wp2_with fail
          go_region
          go_wp2_with fail
          go_roundw
          case rel => exact ⟨⟨k, j + 1, C2, _, by omega, by omega, by go_num, by congr 1; omega, HN8.out, HV8.out, HOB.out, by rw [HR.out, HSTEP.out, hj]⟩⟩
          case measure => simp [intOf] <;> omega
        · have hX : unpackX limP B = none := by
            unfold unpackX
            rw [HR.out, HSTEP.out, if_neg (by rw [HXL.out]; exact hgood)]
          have HGO := Aside0.mk hgood
          clear hgood
          cases p2 with
          | false =>
            go_wp2_with fail
            go_step3
            refine ⟨rfl, ?_⟩
            go_wp2_with fail
            simp only [Exit.jump]
            go_ret2
            show UnpOut w (unpackX limP B) _ _
            rw [hX]
            exact ⟨HN7.out.2.1, rfl⟩
          | true =>
            have ht0 : t < 0 ∨ (¬ t < 0 ∧ (a1 : Int) ≤ t) := by
              have h1 := HT0.out
              have h2 := HT.out
              by_cases hz : a + g1 = 0
              · exact .inl (by omega)
              · by_cases hm : a + g1 ≤ a1
                · exact absurd ⟨rfl, by omega, hm⟩ HGO.out
                · exact .inr (by omega)
            rcases ht0 with hneg | ⟨hpos, hge2⟩
            · skip
              go_wp2_with fail
              go_step3
              refine ⟨rfl, ?_⟩
              go_wp2_with fail
              simp only [Exit.jump]
              go_ret2
              show UnpOut w (unpackX limP B) _ _
              rw [hX]
              exact ⟨HN7.out.2.1, rfl⟩
            · skip
              go_wp2_with fail
              go_step3
              refine ⟨rfl, ?_⟩
              go_wp2_with fail
              simp only [Exit.jump]
              go_ret2
              show UnpOut w (unpackX limP B) _ _
              rw [hX]
              exact ⟨HN7.out.2.1, rfl⟩


/-- What Get answers: the number and the error. -/
def getV (r : Option (List Nat)) (i : Int) : Int × Int :=
  match r with
  | none => (0, 9)
  | some vs => if i < 0 ∨ (vs.length : Int) ≤ i then (0, 8) else ((vs.getD i.toNat 0 : Nat), 0)
set_option maxHeartbeats 1000000 in
set_option maxRecDepth 100000 in
theorem get_any (A : Option Addr) (n c : Nat) (B : List Int) (i : Int) (w : World) (h : InBytes w A n c B) (hn : n ≤ 1000000) :
    Calls Try.prog 35 #[.slice A n c, .int .i64 i] w fun e w' => e = .returned (.tuple #[.int .i64 (getV (unpackX limP B) i).1, .int .i64 (getV (unpackX limP B) i).2]) ∧ Below w.heap.size w w' := by
  have HU := Aside0.mk (unpack_any A n c B w h hn)
  clear h
  generalize unpackX limP B = r at HU ⊢
  cases r with
  | none =>
    go_enter Try.func35, Try.ntmps35
    go_wp2_with fail
    refine HU.out.mono ?_
    rintro e w1 ⟨hb1, he⟩
    simp only at he
    subst he
    have HB1 := Aside0.mk hb1
    clear hb1
    go_wp2_with fail
    go_ret2
    exact ⟨rfl, HB1.out⟩
  | some vs =>
    by_cases h0 : i < 0
    · have hg : getV (some vs) i = (0, 8) := by simp [getV, h0]
      rw [hg]
      clear hg
      go_enter Try.func35, Try.ntmps35
      go_wp2_with fail
      refine HU.out.mono ?_
      rintro e w1 ⟨hb1, gv, rfl, hv1⟩
      have HB1 := Aside0.mk hb1
      clear hb1 hv1
      go_wp2_with fail
      go_ret2
      exact ⟨rfl, HB1.out⟩
    by_cases h1 : (vs.length : Int) ≤ i
    · have hg : getV (some vs) i = (0, 8) := by simp [getV, h1]
      rw [hg]
      clear hg
      go_enter Try.func35, Try.ntmps35
      go_wp2_with fail
      refine HU.out.mono ?_
      rintro e w1 ⟨hb1, gv, rfl, hv1⟩
      have HB1 := Aside0.mk hb1
      clear hb1 hv1
      go_wp2_with fail
      go_ret2
      exact ⟨rfl, HB1.out⟩
    · obtain ⟨k, rfl⟩ : ∃ k : Nat, i = k := ⟨i.toNat, by omega⟩
      have hk : k < vs.length := by omega
      have hg : getV (some vs) (k : Int) = (((vs.getD k 0 : Nat) : Int), 0) := by simp only [getV]; rw [if_neg (by omega), Int.toNat_natCast]
      rw [hg]
      obtain ⟨x, hx⟩ : ∃ x, x = vs.getD k 0 := ⟨_, rfl⟩
      rw [← hx]
      have HX := Aside0.mk hx
      clear hg h0 h1 hx
      go_enter Try.func35, Try.ntmps35
      go_wp2_with fail
      refine HU.out.mono ?_
      rintro e w1 ⟨hb1, gv, rfl, hv1⟩
      have HB1 := Aside0.mk hb1
      obtain ⟨hcell, hfroz⟩ := hv1.cell k hk
      rw [← HX.out] at hcell
      clear hb1 hv1
      go_wp2_with fail
      go_ret2
      exact ⟨rfl, HB1.out⟩
end Go.Proofs.Ytbfnckjnpbgmaaa
