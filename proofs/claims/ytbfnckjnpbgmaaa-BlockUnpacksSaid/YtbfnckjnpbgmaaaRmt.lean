/- A Reader: its bits, its methods, and what the law reads by it. For every Reader of fewer than 2^40 bits. -/
import Derived.Test.YtbfnckjnpbgmaaaBits
import Derived.Test.YtbfnckjnpbgmaaaSiz
import Derived.Test.YtbfnckjnpbgmaaaTak
import Derived.Test.YtbfnckjnpbgmaaaUpr
import Derived.OwnWalk
namespace Go.Proofs.Ytbfnckjnpbgmaaa
open Go.RowKit Go.Proofs.YtbfnckjnpbgmaaaW.PrintWords Go.Proofs.YtbfnckjnpbgmaaaW.PrintLast Go.Proofs.YtbfnckjnpbgmaaaW.PrintMore
set_option linter.unusedVariables false


/-- The number that bits stand for. -/
def numL (l : List Bool) : Nat := l.foldl (fun v b => 2 * v + b.toNat) 0
theorem numL_snoc (l : List Bool) (b : Bool) : numL (l ++ [b]) = 2 * numL l + b.toNat := by simp [numL]
theorem numL_lt (l : List Bool) : numL l < 2 ^ l.length := by
  induction l using snoc_ind with
  | nil => simp [numL]
  | append_singleton l b ih =>
    rw [numL_snoc, List.length_append, List.length_singleton, Nat.pow_succ]
    have : b.toNat ≤ 1 := by cases b <;> simp
    omega
theorem numL_lt64 (l : List Bool) (h : l.length ≤ 64) : numL l < 18446744073709551616 :=
  Nat.lt_of_lt_of_le (numL_lt l) (Nat.pow_le_pow_right (n := 2) (by decide) h)
/-- How many bits 0 stand ahead of a bit 1, n of them counted already; 9: more than 'most'; 10: the bits end. -/
def zL (most : Nat) : List Bool → Nat → Nat × Int
  | [], _ => (0, 10)
  | true :: _, n => (n, 0)
  | false :: l, n => if n < most then zL most l (n + 1) else (0, 9)
theorem zL_bound (most : Nat) (l : List Bool) : ∀ n, n ≤ most → (zL most l n).1 ≤ most ∧ ((zL most l n).2 = 0 → n ≤ (zL most l n).1 ∧ (zL most l n).1 < n + l.length) := by
  induction l with
  | nil => intro n _; simp [zL]
  | cons b l ih =>
    intro n hn
    cases b
    · by_cases h : n < most
      · rw [zL, if_pos h]
        obtain ⟨h1, h2⟩ := ih (n + 1) h
        refine ⟨h1, fun h3 => ?_⟩
        have := h2 h3
        simp only [List.length_cons]
        omega
      · rw [zL, if_neg h]; simp
    · rw [zL]
      exact ⟨hn, fun _ => ⟨Nat.le_refl _, by simp⟩⟩
theorem zL_cases (most : Nat) (l : List Bool) : ∀ n, ((zL most l n).2 = 0) ∨ (zL most l n = (0, 9)) ∨ (zL most l n = (0, 10)) := by
  induction l with
  | nil => intro n; simp [zL]
  | cons b l ih =>
    intro n
    cases b
    · by_cases h : n < most
      · rw [zL, if_pos h]; exact ih (n + 1)
      · rw [zL, if_neg h]; simp
    · rw [zL]; simp
/-- What stands behind the zeros: a bit 1. -/
theorem zL_one (most : Nat) (l : List Bool) : ∀ n, (zL most l n).2 = 0 → l[(zL most l n).1 - n]? = some true := by
  induction l with
  | nil => intro n h; simp [zL] at h
  | cons b l ih =>
    intro n h
    cases b
    · by_cases hn : n < most
      · rw [zL, if_pos hn] at h ⊢
        have h1 := ih (n + 1) h
        have h2 := (zL_bound most l (n + 1) hn).2 h
        rw [show (zL most l (n + 1)).1 - n = ((zL most l (n + 1)).1 - (n + 1)) + 1 by omega, List.getElem?_cons_succ]
        exact h1
      · rw [zL, if_neg hn] at h; simp at h
    · rw [zL]; simp
/-- What a call reads at a position: the number, the position behind it, the error. -/
def readL (L : List Bool) (p : Nat) (kind n : Int) : Nat × Nat × Int :=
  if kind = 0 then
    if n < 0 ∨ 64 < n then (0, p, 1)
    else if L.length - p < n.toNat then (0, p, 10)
    else (numL ((L.drop p).take n.toNat), p + n.toNat, 0)
  else if kind = 1 then
    if (zL 4096 (L.drop p) 0).2 = 0 then ((zL 4096 (L.drop p) 0).1, p + (zL 4096 (L.drop p) 0).1 + 1, 0) else (0, p, (zL 4096 (L.drop p) 0).2)
  else if (zL 63 (L.drop p) 0).2 = 0 then
    if L.length - p < 2 * (zL 63 (L.drop p) 0).1 + 1 then (0, p, 10)
    else if kind = 2 then (numL ((L.drop (p + (zL 63 (L.drop p) 0).1)).take ((zL 63 (L.drop p) 0).1 + 1)), p + 2 * (zL 63 (L.drop p) 0).1 + 1, 0)
    else deltaR L p (p + 2 * (zL 63 (L.drop p) 0).1 + 1) (numL ((L.drop (p + (zL 63 (L.drop p) 0).1)).take ((zL 63 (L.drop p) 0).1 + 1)))
  else (0, p, (zL 63 (L.drop p) 0).2)
where
  /-- The second half of a delta code: v was read, q is the position behind it. -/
  deltaR (L : List Bool) (p q v : Nat) : Nat × Nat × Int :=
    if 64 < v then (0, p, 9)
    else if L.length - q < v - 1 then (0, p, 10)
    else ((2 ^ (v - 1)) ||| numL ((L.drop q).take (v - 1)), q + (v - 1), 0)
/-- A gamma code: the number is at least 1. -/
theorem numL_true (l : List Bool) : 1 ≤ numL (true :: l) := by
  induction l using snoc_ind with
  | nil => decide
  | append_singleton l b ih =>
    rw [show true :: (l ++ [b]) = (true :: l) ++ [b] from rfl, numL_snoc]
    omega
theorem numL_pos (L : List Bool) (p most : Nat) (h : (zL most (L.drop p) 0).2 = 0) : 1 ≤ numL ((L.drop (p + (zL most (L.drop p) 0).1)).take ((zL most (L.drop p) 0).1 + 1)) := by
  have h1 := zL_one most (L.drop p) 0 h
  rw [Nat.sub_zero] at h1
  generalize (zL most (L.drop p) 0).1 = z at h1
  rw [← List.drop_drop]
  generalize L.drop p = M at h1
  have h2 : M.drop z = true :: M.drop (z + 1) := by
    obtain ⟨hz, e⟩ := List.getElem?_eq_some_iff.1 h1
    rw [List.drop_eq_getElem_cons hz, e]
  rw [h2, List.take_succ_cons]
  exact numL_true _
theorem readL_pos (L : List Bool) (p : Nat) (kind n : Int) (hp : p ≤ L.length) : (readL L p kind n).2.1 ≤ L.length := by
  have hz1 := (zL_bound 4096 (L.drop p) 0 (by omega)).2
  have hz2 := (zL_bound 63 (L.drop p) 0 (by omega)).2
  rw [List.length_drop] at hz1 hz2
  unfold readL
  split
  · split
    · exact hp
    · split
      · exact hp
      · simp only; omega
  · split
    · split
      · simp only; have := hz1 (by assumption); omega
      · exact hp
    · split
      · split
        · exact hp
        · split
          · simp only; omega
          · unfold readL.deltaR
            split
            · exact hp
            · split
              · exact hp
              · simp only; omega
      · exact hp


/-- A Reader at block g: the bits L, the position p. -/
def Rd (w : World) (base g p : Nat) (L : List Bool) : Prop :=
  ∃ A c B, w.heap[g]? = some (.cells #[.slice A B.length c, .int .i64 (L.length : Int), .int .i64 (p : Int)] 99 (0, 0)) ∧ base ≤ g ∧ w.ownsRow base 5 1 (.slice A B.length c) B.length (nums .u8 B) ∧
    IsBytes B ∧ L = unpackL B L.length ∧ L.length ≤ 8 * B.length ∧ L.length < 1099511627776
theorem Rd.drewN {w : World} {base g p : Nat} {L : List Bool} (h : Rd w base g p L) (n : Nat) : Rd (w.drewN n) base g p L := h
theorem Rd.drew {w : World} {base g p : Nat} {L : List Bool} (h : Rd w base g p L) : Rd w.drew base g p L := h
theorem Rd.below {w w1 : World} {base g p : Nat} {L : List Bool} (h : Rd w base g p L) (hb : Below w.heap.size w w1) : Rd w1 base g p L := by
  obtain ⟨A, c, B, h1, h2, h3, h4⟩ := h
  exact ⟨A, c, B, blk_below h1 hb, h2, pw_own_below h3 hb, h4⟩
theorem Rd.seek {w : World} {base g p : Nat} {L : List Bool} (h : Rd w base g p L) (q : Nat) : Rd (w.setCell ⟨g, 2, none⟩ (.int .i64 (q : Int))) base g q L := by
  obtain ⟨A, c, B, h1, h2, h3, h4⟩ := h
  exact ⟨A, c, B, blk_put h1 2 _ (by simp), h2, own_setCell h3 (own_ne h3 h1 (by decide)) _, h4⟩
theorem Rd.cell1 {w : World} {base g p : Nat} {L : List Bool} (h : Rd w base g p L) : w.cell? ⟨g, 1, none⟩ = some (.int .i64 L.length) := by
  obtain ⟨A, c, B, h1, _⟩ := h
  exact (blk_cell h1 1).trans rfl
theorem Rd.cell2 {w : World} {base g p : Nat} {L : List Bool} (h : Rd w base g p L) : w.cell? ⟨g, 2, none⟩ = some (.int .i64 p) := by
  obtain ⟨A, c, B, h1, _⟩ := h
  exact (blk_cell h1 2).trans rfl
theorem Rd.frozen {w : World} {base g p : Nat} {L : List Bool} (h : Rd w base g p L) (i : Nat) : w.frozen? ⟨g, i, none⟩ = false := by
  obtain ⟨A, c, B, h1, _⟩ := h
  exact blk_frozen h1 i
theorem Rd.g_lt {w : World} {base g p : Nat} {L : List Bool} (h : Rd w base g p L) : g < w.heap.size := by
  obtain ⟨A, c, B, h1, _⟩ := h
  exact blk_lt h1
theorem Rd.g_base {w : World} {base g p : Nat} {L : List Bool} (h : Rd w base g p L) : base ≤ g := by
  obtain ⟨A, c, B, h1, h2, _⟩ := h
  exact h2
theorem Rd.len {w : World} {base g p : Nat} {L : List Bool} (h : Rd w base g p L) : L.length < 1099511627776 := by
  obtain ⟨A, c, B, h1, h2, h3, h4, h5, h6, h7⟩ := h
  exact h7
theorem bitAt_num (B : List Int) (i : Nat) (hB : IsBytes B) : bits .and .u64 ((B.getD (i / 8) 0) / 2 ^ (7 - i % 8)) 1 = (((bitAt B i).toNat : Nat) : Int) := by
  have hb := hB.getD (i / 8)
  unfold bitAt
  generalize B.getD (i / 8) 0 = x at hb
  obtain ⟨y, rfl⟩ : ∃ y : Nat, x = y := ⟨x.toNat, by omega⟩
  have e : (y : Int) / 2 ^ (7 - i % 8) = ((y / 2 ^ (7 - i % 8) : Nat) : Int) := by simp
  have hle := Nat.div_le_self y (2 ^ (7 - i % 8))
  rw [e, and1_u64_nat _ (by omega), Int.toNat_natCast, Nat.testBit_eq_decide_div_mod_eq]
  generalize y / 2 ^ (7 - i % 8) = z
  rcases Nat.mod_two_eq_zero_or_one z with h | h <;> simp [h]
set_option maxHeartbeats 1000000 in
set_option maxRecDepth 100000 in
theorem bit_any (base g p : Nat) (L : List Bool) (x : Int) (i : Nat) (w : World) (h : Rd w base g p L) (hx : x = i) (hi : i < L.length) :
    Calls Try.prog 77 #[.pointer (some ⟨g, 0, none⟩), .int .i64 x] w fun e w' => e = .returned (.int .u64 (((L.getD i false).toNat : Nat) : Int)) ∧ w = w' := by
  subst hx
  obtain ⟨A, c, B, h1, h2, h3, h4, h5, h6, h7⟩ := h
  obtain ⟨hc, hC⟩ := own_C h3
  have hbit : L.getD i false = bitAt B i := by
    rw [h5, List.getD_eq_getElem?_getD, unpackL_get B _ i hi, Option.getD_some]
  rw [hbit]
  have hnum := bitAt_num B i h4
  have hi8 : i / 8 < B.length := by omega
  obtain ⟨ad, hA, hcell⟩ := (Kd.reads_of_C (d := (0 : Int)) hC).2.2 (by omega)
  subst hA
  have hck := hcell (i / 8) hi8
  have hb := h4.getD (i / 8)
  have hc0 : w.cell? ⟨g, 0, none⟩ = some (.slice (some ad) B.length c) := (blk_cell h1 0).trans rfl
  have ha7 : bits .and .i64 (i : Int) 7 = (i : Int) % 8 := and7_i64 _ (by omega) (by omega)
  have hi0 : (0 : Int) ≤ (i : Int) / 8 := by omega
  have hi1 : (i : Int) / 8 < (B.length : Nat) := by omega
  obtain ⟨y, hy⟩ : ∃ y, y = B.getD (i / 8) 0 := ⟨_, rfl⟩
  rw [← hy] at hck hb hnum
  obtain ⟨r, hr⟩ : ∃ r, r = (((bitAt B i).toNat : Nat) : Int) := ⟨_, rfl⟩
  rw [← hr] at hnum ⊢
  clear hcell h1 h2 h3 h4 h5 hC hbit hy hr
  have HW : Aside0 (IntKind.u64.wrap (y / 2 ^ (7 - i % 8)) = y / 2 ^ (7 - i % 8)) := ⟨by
    obtain ⟨z, rfl⟩ : ∃ z : Nat, y = z := ⟨y.toNat, by omega⟩
    have e : (z : Int) / 2 ^ (7 - i % 8) = ((z / 2 ^ (7 - i % 8) : Nat) : Int) := by simp
    have hle := Nat.div_le_self z (2 ^ (7 - i % 8))
    rw [e]
    exact wrap_u64_nat _ (by omega)⟩
  have HN : Aside0 (bits .and .u64 (IntKind.u64.wrap (y / 2 ^ (7 - i % 8))) 1 = r) := ⟨by rw [HW.out]; exact hnum⟩
  clear hnum
  go_enter Try.func77, Try.ntmps77
  go_wp2_with fail
  go_ret
  exact ⟨by rw [← HN.out]; rfl, rfl⟩

/-- What take answers: the next k bits as a number, or that they are too few. -/
def takeR (L : List Bool) (q k : Nat) : Value := if L.length - q < k then .tuple #[.int .u64 0, .bool false] else .tuple #[.int .u64 (numL ((L.drop q).take k) : Int), .bool true]
theorem take_more (L : List Bool) (q j : Nat) (h : q + j < L.length) : (L.drop q).take (j + 1) = (L.drop q).take j ++ [L.getD (q + j) false] := by
  have hlt : j < (L.drop q).length := by rw [List.length_drop]; omega
  rw [List.take_succ_eq_append_getElem hlt, List.getElem_drop]
  rw [List.getD_eq_getElem?_getD, List.getElem?_eq_getElem h, Option.getD_some]
theorem or_low (v : Nat) (b : Bool) (h : 2 * v + 1 < 18446744073709551616) : bits .or .u64 ((2 * v : Nat) : Int) ((b.toNat : Nat) : Int) = ((2 * v + b.toNat : Nat) : Int) := by
  have hb : b.toNat < 2 := by cases b <;> simp
  rw [u64_or_nat _ _ (by omega) (by omega), ← Nat.two_pow_add_eq_or_of_lt (i := 1) hb v]
def TkRel (w : World) (L : List Bool) (q k : Nat) (v i : Value) (w' : World) : Prop :=
  ∃ j : Nat, j ≤ k ∧ i = .int .i64 (j : Int) ∧ v = .int .u64 (numL ((L.drop q).take j) : Int) ∧ w' = w
set_option maxHeartbeats 1000000 in
set_option maxRecDepth 100000 in
theorem rtake_any (base g p : Nat) (L : List Bool) (x m : Int) (q k : Nat) (w : World) (h : Rd w base g p L) (hx : x = q) (hm : m = k) (hq : q ≤ L.length) (hk : k ≤ 64) :
    Calls Try.prog 72 #[.pointer (some ⟨g, 0, none⟩), .int .i64 x, .int .i64 m] w fun e w' => e = .returned (takeR L q k) ∧ w = w' := by
  subst hx hm
  have HR := Aside0.mk h
  have hl := h.len
  have hc1 := h.cell1
  clear h
  unfold takeR
  by_cases hlt : L.length - q < k
  · rw [if_pos hlt]
    have hlt' : (L.length : Int) - (q : Int) < (k : Int) := by omega
    go_enter Try.func72, Try.ntmps72
    go_wp2_with fail
    refine (size_any g _ _ hc1).mono ?_
    rintro e w1 ⟨rfl, rfl⟩
    go_wp2_with fail
    go_ret2
    exact ⟨rfl, rfl⟩
  · rw [if_neg hlt]
    have hlt' : ¬ (L.length : Int) - (q : Int) < (k : Int) := by omega
    go_enter Try.func72, Try.ntmps72
    go_wp2_with fail
    refine (size_any g _ _ hc1).mono ?_
    rintro e w1 ⟨rfl, rfl⟩
    go_wp2_with fail
    go_loopw [8, 9, 19] (fun v _ i w' => TkRel w L q k v i w') (fun _ _ i _ => k - (intOf i).toNat)
    case atStart => exact ⟨0, Nat.zero_le _, rfl, rfl, rfl⟩
    case round =>
      obtain ⟨j, hj, rfl, rfl, rfl⟩ := hrel
      by_cases hjk : j < k
      · have hqj : q + j < L.length := by omega
        have HT := Aside0.mk (take_more L q j hqj)
        obtain ⟨b, hb⟩ : ∃ b, b = L.getD (q + j) false := ⟨_, rfl⟩
        have HBT := Aside0.mk hb
        have hlen : ((L.drop q).take j).length = j := by rw [List.length_take, List.length_drop]; omega
        have hv : 2 * numL ((L.drop q).take j) + 1 < 18446744073709551616 := by
          have h1 := numL_lt ((L.drop q).take j)
          rw [hlen] at h1
          have h2 : 2 ^ (j + 1) ≤ 2 ^ 64 := Nat.pow_le_pow_right (n := 2) (by decide) (by omega)
          rw [Nat.pow_succ] at h2
          omega
        obtain ⟨v, hvv⟩ : ∃ v, v = numL ((L.drop q).take j) := ⟨_, rfl⟩
        have HV := Aside0.mk hvv
        rw [← hvv] at hv ⊢
        have HOR := Aside0.mk (or_low v b hv)
        clear hvv hlen hb
        go_wp2_with fail
        refine (bit_any base g p L _ (q + j) _ HR.out (by omega) hqj).mono ?_
        rintro e w2 ⟨rfl, rfl⟩
        rw [← HBT.out]
        go_wp2_with fail
        go_roundw
        case rel =>
          refine ⟨j + 1, by omega, by go_num, ?_, rfl⟩
          rw [HT.out, numL_snoc, ← HV.out, ← HBT.out, ← HOR.out, show (v : Int) * 2 = ((2 * v : Nat) : Int) by omega]
        case measure => simp [intOf]; omega
      · have : j = k := by omega
        subst this
        go_wp2_with fail
        go_ret2
        exact ⟨rfl, rfl⟩

/-- One bit further. -/
theorem zL_step (most : Nat) (L : List Bool) (q j : Nat) (h : q + j < L.length) (hf : L.getD (q + j) false = false) (hj : j < most) : zL most (L.drop (q + j)) j = zL most (L.drop (q + (j + 1))) (j + 1) := by
  rw [List.drop_eq_getElem_cons h]
  rw [List.getD_eq_getElem?_getD, List.getElem?_eq_getElem h, Option.getD_some] at hf
  rw [hf, zL, if_pos hj]
  rfl
theorem zL_stop (most : Nat) (L : List Bool) (q j : Nat) (h : q + j < L.length) (hf : L.getD (q + j) false = true) : zL most (L.drop (q + j)) j = (j, 0) := by
  rw [List.drop_eq_getElem_cons h]
  rw [List.getD_eq_getElem?_getD, List.getElem?_eq_getElem h, Option.getD_some] at hf
  rw [hf, zL]
theorem zL_most (most : Nat) (L : List Bool) (q : Nat) (h : q + most < L.length) (hf : L.getD (q + most) false = false) : zL most (L.drop (q + most)) most = (0, 9) := by
  rw [List.drop_eq_getElem_cons h]
  rw [List.getD_eq_getElem?_getD, List.getElem?_eq_getElem h, Option.getD_some] at hf
  rw [hf, zL, if_neg (by omega)]
theorem zL_end (most : Nat) (L : List Bool) (q j : Nat) (h : L.length ≤ q + j) : zL most (L.drop (q + j)) j = (0, 10) := by
  rw [List.drop_eq_nil_of_le h, zL]
def ZRel (w : World) (L : List Bool) (q most : Nat) (i : Value) (w' : World) : Prop :=
  ∃ j : Nat, j ≤ most ∧ q + j ≤ L.length ∧ i = .int .i64 (j : Int) ∧ zL most (L.drop q) 0 = zL most (L.drop (q + j)) j ∧ w' = w
set_option maxHeartbeats 1000000 in
set_option maxRecDepth 100000 in
theorem rzeros_any (base g p : Nat) (L : List Bool) (x m : Int) (q most : Nat) (w : World) (h : Rd w base g p L) (hx : x = q) (hm : m = most) (hq : q ≤ L.length) (hmost : most ≤ 4096) :
    Calls Try.prog 75 #[.pointer (some ⟨g, 0, none⟩), .int .i64 x, .int .i64 m] w fun e w' => e = .returned (.tuple #[.int .i64 ((zL most (L.drop q) 0).1 : Int), .int .i64 (zL most (L.drop q) 0).2]) ∧ w = w' := by
  subst hx hm
  have HR := Aside0.mk h
  have hl := h.len
  have hc1 := h.cell1
  clear h
  obtain ⟨Z, hZ⟩ : ∃ Z, Z = zL most (L.drop q) 0 := ⟨_, rfl⟩
  rw [← hZ]
  have HZ := Aside0.mk hZ
  clear hZ
  go_enter Try.func75, Try.ntmps75
  go_wp2_with fail
  go_loopw [8] (fun i w' => ZRel w L q most i w') (fun i _ => most + 1 - (intOf i).toNat)
  case atStart => exact ⟨0, Nat.zero_le _, hq, rfl, rfl, rfl⟩
  case round =>
    obtain ⟨j, hj, hqj, rfl, hzz, rfl⟩ := hrel
    rw [← HZ.out] at hzz
    by_cases hend : L.length ≤ q + j
    · rw [zL_end most L q j hend] at hzz
      subst hzz
      go_wp2_with fail
      refine (size_any g _ _ hc1).mono ?_
      rintro e w1 ⟨rfl, rfl⟩
      go_wp2_with fail
      go_ret2
      exact ⟨rfl, rfl⟩
    have hlt : q + j < L.length := by omega
    clear hend hqj
    have HZZ := Aside0.mk hzz
    clear hzz
    go_wp2_with fail
    refine (size_any g _ _ hc1).mono ?_
    rintro e w1 ⟨rfl, rfl⟩
    go_wp2_with fail
    refine (bit_any base g p L _ (q + j) _ HR.out (by omega) hlt).mono ?_
    rintro e w2 ⟨rfl, rfl⟩
    cases hb : L.getD (q + j) false with
    | true =>
      have hzz := HZZ.out
      rw [zL_stop most L q j hlt hb] at hzz
      subst hzz
      clear hb HZZ HZ
      simp only [Bool.toNat_true]
      go_wp2_with fail
      go_ret2
      exact ⟨rfl, rfl⟩
    | false =>
      have HBT := Aside0.mk hb
      clear hb
      simp only [Bool.toNat_false]
      by_cases hjm : j = most
      · subst hjm
        have hzz := HZZ.out
        rw [zL_most j L q hlt HBT.out] at hzz
        subst hzz
        clear HZZ HZ
        go_wp2_with fail
        go_ret2
        exact ⟨rfl, rfl⟩
      · go_wp2_with fail
        go_roundw
        case rel => exact ⟨j + 1, by omega, by omega, by go_num, by rw [← HZ.out, HZZ.out]; exact zL_step most L q j hlt HBT.out (by omega), rfl⟩
        case measure => simp [intOf]; omega


/-- What a reading call leaves: the number, the error, the Reader behind it. -/
def RdOut (w : World) (base g : Nat) (L : List Bool) (r : Nat × Nat × Int) (e : Ending) (w' : World) : Prop :=
  e = .returned (.tuple #[.int .u64 (r.1 : Int), .int .i64 r.2.2]) ∧ Rd w' base g r.2.1 L ∧ Wrote w w' g none none
theorem Rd.same {w : World} {base g p : Nat} {L : List Bool} (h : Rd w base g p L) : Rd w base g p L ∧ Wrote w w g none none := ⟨h, Wrote.refl _ _ _⟩
theorem Rd.moved {w : World} {base g p : Nat} {L : List Bool} (h : Rd w base g p L) (q : Nat) : Rd (w.setCell ⟨g, 2, none⟩ (.int .i64 (q : Int))) base g q L ∧ Wrote w (w.setCell ⟨g, 2, none⟩ (.int .i64 (q : Int))) g none none := ⟨h.seek q, (Wrote.refl _ _ _).setG _ _⟩

theorem pos_any (base g p : Nat) (L : List Bool) (w : World) (h : Rd w base g p L) :
    Calls Try.prog 51 #[.pointer (some ⟨g, 0, none⟩)] w fun e w' => e = .returned (.int .i64 (p : Int)) ∧ w = w' := by
  have hc := h.cell2
  clear h
  go_enter Try.func51, Try.ntmps51
  go_wp2_with fail
  go_ret
  exact ⟨rfl, rfl⟩
/-- Seek. -/
theorem seek_any (base g p : Nat) (L : List Bool) (x : Int) (w : World) (h : Rd w base g p L) :
    Calls Try.prog 52 #[.pointer (some ⟨g, 0, none⟩), .int .i64 x] w fun e w' =>
      if x < 0 ∨ (L.length : Int) < x then e = .returned (.int .i64 1) ∧ w = w' else e = .returned (.int .i64 0) ∧ Rd w' base g x.toNat L ∧ Wrote w w' g none none := by
  have HR := Aside0.mk h
  have hl := h.len
  have hc1 := h.cell1
  have hc2 := h.cell2
  have hf := h.frozen 2
  clear h
  by_cases h0 : x < 0
  · simp only [h0, true_or, if_true]
    go_enter Try.func52, Try.ntmps52
    go_wp2_with fail
    go_ret
    exact ⟨rfl, rfl⟩
  by_cases h1 : (L.length : Int) < x
  · simp only [h1, or_true, if_true]
    go_enter Try.func52, Try.ntmps52
    go_wp2_with fail
    refine (size_any g _ _ hc1).mono ?_
    rintro e w1 ⟨rfl, rfl⟩
    go_wp2_with fail
    go_ret
    exact ⟨rfl, rfl⟩
  · simp only [h0, h1, or_self, if_false]
    obtain ⟨q, rfl⟩ : ∃ q : Nat, x = q := ⟨x.toNat, by omega⟩
    rw [Int.toNat_natCast]
    go_enter Try.func52, Try.ntmps52
    go_wp2_with fail
    refine (size_any g _ _ hc1).mono ?_
    rintro e w1 ⟨rfl, rfl⟩
    go_wp2_with fail
    go_ret
    exact ⟨rfl, HR.out.moved q⟩

set_option maxHeartbeats 1000000 in
theorem rbits_any (base g p : Nat) (L : List Bool) (n : Int) (w : World) (h : Rd w base g p L) (hp : p ≤ L.length) :
    Calls Try.prog 53 #[.pointer (some ⟨g, 0, none⟩), .int .i64 n] w fun e w' => RdOut w base g L (readL L p 0 n) e w' := by
  have HR := Aside0.mk h
  have hl := h.len
  have hc2 := h.cell2
  have hf := h.frozen 2
  clear h
  by_cases h0 : n < 0
  · have hr : readL L p 0 n = (0, p, 1) := by simp [readL, h0]
    rw [hr]
    clear hr
    go_enter Try.func53, Try.ntmps53
    go_wp2_with fail
    go_ret2
    exact ⟨rfl, HR.out.same⟩
  by_cases h1 : 64 < n
  · have hr : readL L p 0 n = (0, p, 1) := by simp [readL, h1]
    rw [hr]
    clear hr
    go_enter Try.func53, Try.ntmps53
    go_wp2_with fail
    go_ret2
    exact ⟨rfl, HR.out.same⟩
  obtain ⟨k, rfl⟩ : ∃ k : Nat, n = k := ⟨n.toNat, by omega⟩
  have hk : k ≤ 64 := by omega
  by_cases h2 : L.length - p < k
  · have hr : readL L p 0 (k : Int) = (0, p, 10) := by
      rw [readL, if_pos rfl, if_neg (by omega), Int.toNat_natCast, if_pos h2]
    have HT : Aside0 (takeR L p k = .tuple #[.int .u64 0, .bool false]) := ⟨by rw [takeR, if_pos h2]⟩
    rw [hr]
    clear hr h0 h1
    go_enter Try.func53, Try.ntmps53
    go_wp2_with fail
    refine (rtake_any base g p L _ _ p k _ HR.out rfl rfl hp hk).mono ?_
    rintro e w1 ⟨rfl, rfl⟩
    rw [HT.out]
    go_wp2_with fail
    go_ret2
    exact ⟨rfl, HR.out.same⟩
  · have hr : readL L p 0 (k : Int) = (numL ((L.drop p).take k), p + k, 0) := by
      rw [readL, if_pos rfl, if_neg (by omega), Int.toNat_natCast, if_neg h2]
    have HT : Aside0 (takeR L p k = .tuple #[.int .u64 (numL ((L.drop p).take k) : Int), .bool true]) := ⟨by rw [takeR, if_neg h2]⟩
    rw [hr]
    obtain ⟨v, hv⟩ : ∃ v, v = numL ((L.drop p).take k) := ⟨_, rfl⟩
    rw [← hv] at HT ⊢
    clear hr h0 h1 hv
    go_enter Try.func53, Try.ntmps53
    go_wp2_with fail
    refine (rtake_any base g p L _ _ p k _ HR.out rfl rfl hp hk).mono ?_
    rintro e w1 ⟨rfl, rfl⟩
    rw [HT.out]
    go_wp2_with fail
    go_ret2
    have e : (p : Int) + (k : Int) = ((p + k : Nat) : Int) := by omega
    exact ⟨rfl, e ▸ HR.out.moved (p + k)⟩

set_option maxHeartbeats 1000000 in
/-- Unary: the number as an int. -/
theorem runary_any (base g p : Nat) (L : List Bool) (n : Int) (w : World) (h : Rd w base g p L) (hp : p ≤ L.length) :
    Calls Try.prog 69 #[.pointer (some ⟨g, 0, none⟩)] w fun e w' => e = .returned (.tuple #[.int .i64 ((readL L p 1 n).1 : Int), .int .i64 (readL L p 1 n).2.2]) ∧ Rd w' base g (readL L p 1 n).2.1 L ∧ Wrote w w' g none none := by
  have HR := Aside0.mk h
  have hl := h.len
  have hc2 := h.cell2
  have hf := h.frozen 2
  clear h
  have HZ := Aside0.mk (rzeros_any base g p L (p : Int) 4096 p 4096 w HR.out rfl rfl hp (by omega))
  have hzb := zL_bound 4096 (L.drop p) 0 (by omega)
  have hrd : readL L p 1 n = if (zL 4096 (L.drop p) 0).2 = 0 then ((zL 4096 (L.drop p) 0).1, p + (zL 4096 (L.drop p) 0).1 + 1, 0) else (0, p, (zL 4096 (L.drop p) 0).2) := by
    rw [readL, if_neg (by decide), if_pos rfl]
  obtain ⟨⟨z, ze⟩, hz⟩ : ∃ Z, Z = zL 4096 (L.drop p) 0 := ⟨_, rfl⟩
  rw [← hz] at HZ hrd hzb
  rw [hrd]
  rw [List.length_drop] at hzb
  obtain ⟨hzm, hzl⟩ := hzb
  clear hrd hz
  simp only at HZ hzm hzl ⊢
  by_cases h0 : ze = 0
  · subst h0
    have hzl2 := (hzl rfl).2
    clear hzl
    rw [if_pos rfl]
    go_enter Try.func69, Try.ntmps69
    go_wp2_with fail
    refine HZ.out.mono ?_
    rintro e w1 ⟨rfl, rfl⟩
    go_wp2_with fail
    go_ret2
    have e : (p : Int) + ((z : Int) + 1) = ((p + z + 1 : Nat) : Int) := by omega
    exact ⟨rfl, e ▸ HR.out.moved (p + z + 1)⟩
  · rw [if_neg h0]
    go_enter Try.func69, Try.ntmps69
    go_wp2_with fail
    refine HZ.out.mono ?_
    rintro e w1 ⟨rfl, rfl⟩
    go_wp2_with fail
    go_ret2
    exact ⟨rfl, HR.out.same⟩


/-- A gamma code at a position: the number, the position behind it, the error. -/
def gamR (L : List Bool) (p : Nat) : Nat × Nat × Int :=
  if (zL 63 (L.drop p) 0).2 = 0 then
    if L.length - p < 2 * (zL 63 (L.drop p) 0).1 + 1 then (0, 0, 10)
    else (numL ((L.drop (p + (zL 63 (L.drop p) 0).1)).take ((zL 63 (L.drop p) 0).1 + 1)), p + 2 * (zL 63 (L.drop p) 0).1 + 1, 0)
  else (0, 0, (zL 63 (L.drop p) 0).2)
theorem gamR_bound (L : List Bool) (p : Nat) (hp : p ≤ L.length) : (gamR L p).1 < 18446744073709551616 ∧ ((gamR L p).2.2 = 0 → 1 ≤ (gamR L p).1 ∧ (gamR L p).2.1 ≤ L.length) := by
  have hz := zL_bound 63 (L.drop p) 0 (by omega)
  unfold gamR
  split
  · split
    · simp
    · refine ⟨numL_lt64 _ (by rw [List.length_take]; omega), fun _ => ⟨numL_pos L p 63 (by assumption), by simp only; omega⟩⟩
  · simp only; exact ⟨by omega, fun h => absurd h (by assumption)⟩
theorem readL_gamma (L : List Bool) (p : Nat) (n : Int) : readL L p 2 n = if (gamR L p).2.2 = 0 then gamR L p else (0, p, (gamR L p).2.2) := by
  unfold readL gamR
  rw [if_neg (by decide), if_neg (by decide)]
  by_cases h : (zL 63 (L.drop p) 0).2 = 0
  · rw [if_pos h, if_pos h]
    by_cases h1 : L.length - p < 2 * (zL 63 (L.drop p) 0).1 + 1
    · rw [if_pos h1, if_pos h1, if_neg (by simp)]
    · rw [if_neg h1, if_neg h1, if_pos rfl, if_pos rfl]
  · rw [if_neg h, if_neg h, if_neg h]
theorem readL_delta (L : List Bool) (p : Nat) (kind n : Int) (h0 : kind ≠ 0) (h1 : kind ≠ 1) (h2 : kind ≠ 2) : readL L p kind n = if (gamR L p).2.2 = 0 then readL.deltaR L p (gamR L p).2.1 (gamR L p).1 else (0, p, (gamR L p).2.2) := by
  unfold readL gamR
  rw [if_neg h0, if_neg h1]
  by_cases h : (zL 63 (L.drop p) 0).2 = 0
  · rw [if_pos h, if_pos h]
    by_cases h1 : L.length - p < 2 * (zL 63 (L.drop p) 0).1 + 1
    · rw [if_pos h1, if_pos h1, if_neg (by simp)]
    · rw [if_neg h1, if_neg h1, if_neg h2, if_pos rfl]
  · rw [if_neg h, if_neg h, if_neg h]

set_option maxHeartbeats 1000000 in
theorem rgam_any (base g p : Nat) (L : List Bool) (x : Int) (q : Nat) (w : World) (h : Rd w base g p L) (hx : x = q) (hq : q ≤ L.length) :
    Calls Try.prog 76 #[.pointer (some ⟨g, 0, none⟩), .int .i64 x] w fun e w' => e = .returned (.tuple #[.int .u64 ((gamR L q).1 : Int), .int .i64 ((gamR L q).2.1 : Int), .int .i64 (gamR L q).2.2]) ∧ w = w' := by
  subst hx
  have HR := Aside0.mk h
  have hl := h.len
  clear h
  have HZ := Aside0.mk (rzeros_any base g p L (q : Int) 63 q 63 w HR.out rfl rfl hq (by omega))
  have hzb := zL_bound 63 (L.drop q) 0 (by omega)
  have hg : gamR L q = if (zL 63 (L.drop q) 0).2 = 0 then
    if L.length - q < 2 * (zL 63 (L.drop q) 0).1 + 1 then (0, 0, 10)
    else (numL ((L.drop (q + (zL 63 (L.drop q) 0).1)).take ((zL 63 (L.drop q) 0).1 + 1)), q + 2 * (zL 63 (L.drop q) 0).1 + 1, 0)
  else (0, 0, (zL 63 (L.drop q) 0).2) := rfl
  obtain ⟨⟨z, ze⟩, hz⟩ : ∃ Z, Z = zL 63 (L.drop q) 0 := ⟨_, rfl⟩
  rw [← hz] at HZ hg hzb
  rw [hg]
  rw [List.length_drop] at hzb
  obtain ⟨hzm, hzl⟩ := hzb
  clear hg hz
  simp only at HZ hzm hzl ⊢
  by_cases h0 : ze = 0
  · subst h0
    have hzl2 := (hzl rfl).2
    clear hzl
    rw [if_pos rfl]
    by_cases h1 : L.length - q < 2 * z + 1
    · rw [if_pos h1]
      have HT : Aside0 (takeR L (q + z) (z + 1) = .tuple #[.int .u64 0, .bool false]) := ⟨by rw [takeR, if_pos (by omega)]⟩
      go_enter Try.func76, Try.ntmps76
      go_wp2_with fail
      refine HZ.out.mono ?_
      rintro e w1 ⟨rfl, rfl⟩
      go_wp2_with fail
      refine (rtake_any base g p L _ _ (q + z) (z + 1) _ HR.out (by omega) (by omega) (by omega) (by omega)).mono ?_
      rintro e w1 ⟨rfl, rfl⟩
      rw [HT.out]
      go_wp2_with fail
      go_ret3
      exact ⟨rfl, rfl⟩
    · rw [if_neg h1]
      have HT : Aside0 (takeR L (q + z) (z + 1) = .tuple #[.int .u64 (numL ((L.drop (q + z)).take (z + 1)) : Int), .bool true]) := ⟨by rw [takeR, if_neg (by omega)]⟩
      obtain ⟨v, hv⟩ : ∃ v, v = numL ((L.drop (q + z)).take (z + 1)) := ⟨_, rfl⟩
      rw [← hv] at HT ⊢
      clear hv
      go_enter Try.func76, Try.ntmps76
      go_wp2_with fail
      refine HZ.out.mono ?_
      rintro e w1 ⟨rfl, rfl⟩
      go_wp2_with fail
      refine (rtake_any base g p L _ _ (q + z) (z + 1) _ HR.out (by omega) (by omega) (by omega) (by omega)).mono ?_
      rintro e w1 ⟨rfl, rfl⟩
      rw [HT.out]
      go_wp2_with fail
      go_ret3
      have e : (q : Int) + 2 * (z : Int) + 1 = ((q + 2 * z + 1 : Nat) : Int) := by omega
      exact ⟨by rw [← e]; rfl, rfl⟩
  · rw [if_neg h0]
    go_enter Try.func76, Try.ntmps76
    go_wp2_with fail
    refine HZ.out.mono ?_
    rintro e w1 ⟨rfl, rfl⟩
    go_wp2_with fail
    go_ret3
    exact ⟨rfl, rfl⟩

set_option maxHeartbeats 1000000 in
theorem rgamma_any (base g p : Nat) (L : List Bool) (n : Int) (w : World) (h : Rd w base g p L) (hp : p ≤ L.length) :
    Calls Try.prog 70 #[.pointer (some ⟨g, 0, none⟩)] w fun e w' => RdOut w base g L (readL L p 2 n) e w' := by
  have HR := Aside0.mk h
  have hc2 := h.cell2
  have hf := h.frozen 2
  clear h
  have HG := Aside0.mk (rgam_any base g p L (p : Int) p w HR.out rfl hp)
  rw [readL_gamma]
  obtain ⟨⟨v, q, ze⟩, hz⟩ : ∃ Z, Z = gamR L p := ⟨_, rfl⟩
  rw [← hz] at HG ⊢
  clear hz
  simp only at HG ⊢
  by_cases h0 : ze = 0
  · subst h0
    rw [if_pos rfl]
    go_enter Try.func70, Try.ntmps70
    go_wp2_with fail
    refine HG.out.mono ?_
    rintro e w1 ⟨rfl, rfl⟩
    go_wp2_with fail
    go_ret2
    exact ⟨rfl, HR.out.moved q⟩
  · rw [if_neg h0]
    go_enter Try.func70, Try.ntmps70
    go_wp2_with fail
    refine HG.out.mono ?_
    rintro e w1 ⟨rfl, rfl⟩
    go_wp2_with fail
    go_ret2
    exact ⟨rfl, HR.out.same⟩

theorem or_pow (k z : Nat) (hk : k ≤ 63) (hz : z < 18446744073709551616) : bits .or .u64 (IntKind.u64.wrap ((2 : Int) ^ k)) (z : Int) = ((2 ^ k ||| z : Nat) : Int) := by
  have hp : 2 ^ k ≤ 2 ^ 63 := Nat.pow_le_pow_right (by decide) hk
  have e : (2 : Int) ^ k = ((2 ^ k : Nat) : Int) := by simp
  rw [e]
  generalize 2 ^ k = y at hp
  rw [wrap_u64_nat _ (by omega), u64_or_nat _ _ (by omega) hz]
theorem deltaR_eq (L : List Bool) (p q v : Nat) : readL.deltaR L p q v = if 64 < v then (0, p, 9) else if L.length - q < v - 1 then (0, p, 10) else ((2 ^ (v - 1)) ||| numL ((L.drop q).take (v - 1)), q + (v - 1), 0) := rfl
set_option maxHeartbeats 1000000 in
theorem rdelta_any (base g p : Nat) (L : List Bool) (kind n : Int) (w : World) (h : Rd w base g p L) (hp : p ≤ L.length) (hk0 : kind ≠ 0) (hk1 : kind ≠ 1) (hk2 : kind ≠ 2) :
    Calls Try.prog 71 #[.pointer (some ⟨g, 0, none⟩)] w fun e w' => RdOut w base g L (readL L p kind n) e w' := by
  have HR := Aside0.mk h
  have hl := h.len
  have hc2 := h.cell2
  have hf := h.frozen 2
  clear h
  have HG := Aside0.mk (rgam_any base g p L (p : Int) p w HR.out rfl hp)
  have hgb := gamR_bound L p hp
  rw [readL_delta L p kind n hk0 hk1 hk2]
  obtain ⟨⟨v, q, ze⟩, hz⟩ : ∃ Z, Z = gamR L p := ⟨_, rfl⟩
  rw [← hz] at HG hgb ⊢
  clear hz hk0 hk1 hk2
  simp only at HG hgb ⊢
  obtain ⟨hv64, hgb⟩ := hgb
  by_cases h0 : ze = 0
  · subst h0
    obtain ⟨hv1, hq⟩ := hgb rfl
    clear hgb
    rw [if_pos rfl, deltaR_eq]
    by_cases h1 : 64 < v
    · rw [if_pos h1]
      go_enter Try.func71, Try.ntmps71
      go_wp2_with fail
      refine HG.out.mono ?_
      rintro e w1 ⟨rfl, rfl⟩
      go_wp2_with fail
      go_ret2
      exact ⟨rfl, HR.out.same⟩
    rw [if_neg h1]
    obtain ⟨k, rfl⟩ : ∃ k, v = k + 1 := ⟨v - 1, by omega⟩
    rw [Nat.add_sub_cancel]
    have hk : k ≤ 63 := by omega
    by_cases h2 : L.length - q < k
    · rw [if_pos h2]
      have HT : Aside0 (takeR L q k = .tuple #[.int .u64 0, .bool false]) := ⟨by rw [takeR, if_pos h2]⟩
      go_enter Try.func71, Try.ntmps71
      go_wp2_with fail
      refine HG.out.mono ?_
      rintro e w1 ⟨rfl, rfl⟩
      go_wp2_with fail
      refine (rtake_any base g p L _ _ q k _ HR.out rfl rfl hq (by omega)).mono ?_
      rintro e w1 ⟨rfl, rfl⟩
      rw [HT.out]
      go_wp2_with fail
      go_ret2
      exact ⟨rfl, HR.out.same⟩
    · rw [if_neg h2]
      have HT : Aside0 (takeR L q k = .tuple #[.int .u64 (numL ((L.drop q).take k) : Int), .bool true]) := ⟨by rw [takeR, if_neg h2]⟩
      obtain ⟨z, hz⟩ : ∃ z, z = numL ((L.drop q).take k) := ⟨_, rfl⟩
      have hz64 : z < 18446744073709551616 := hz ▸ numL_lt64 _ (by rw [List.length_take]; omega)
      rw [← hz] at HT ⊢
      have HO := Aside0.mk (or_pow k z hk hz64)
      clear hz
      go_enter Try.func71, Try.ntmps71
      go_wp2_with fail
      refine HG.out.mono ?_
      rintro e w1 ⟨rfl, rfl⟩
      go_wp2_with fail
      refine (rtake_any base g p L _ _ q k _ HR.out rfl rfl hq (by omega)).mono ?_
      rintro e w1 ⟨rfl, rfl⟩
      rw [HT.out]
      go_wp2_with fail
      go_ret2
      have e : (q : Int) + (k : Int) = ((q + k : Nat) : Int) := by omega
      exact ⟨by rw [← HO.out]; rfl, e ▸ HR.out.moved (q + k)⟩
  · rw [if_neg h0]
    go_enter Try.func71, Try.ntmps71
    go_wp2_with fail
    refine HG.out.mono ?_
    rintro e w1 ⟨rfl, rfl⟩
    go_wp2_with fail
    go_ret2
    exact ⟨rfl, HR.out.same⟩


theorem RdOut.after {w w1 : World} {base g : Nat} {L : List Bool} {r : Nat × Nat × Int} {e : Ending} {w' : World} (h : RdOut w1 base g L r e w') (hw : Wrote w w1 g none none) : RdOut w base g L r e w' := ⟨h.1, h.2.1, hw.trans h.2.2⟩
theorem readL_unary_le (L : List Bool) (p : Nat) (n : Int) : (readL L p 1 n).1 ≤ 4096 := by
  have h := (zL_bound 4096 (L.drop p) 0 (by omega)).1
  rw [readL, if_neg (by decide), if_pos rfl]
  split
  · exact h
  · simp
set_option maxHeartbeats 1000000 in
theorem read_any (base g p : Nat) (L : List Bool) (kind n : Int) (v : Int) (w : World) (h : Rd w base g p L) (hp : p ≤ L.length) :
    Calls Try.prog 50 #[.pointer (some ⟨g, 0, none⟩), .agg #[.int .i64 kind, .int .u64 v, .int .i64 n]] w fun e w' => RdOut w base g L (readL L p kind n) e w' := by
  have hB0 := below_alloc (Below.refl w.heap.size w) (.cells #[.int .i64 kind, .int .u64 v, .int .i64 n] 57)
  have hK0 := blk_new w (.cells #[.int .i64 kind, .int .u64 v, .int .i64 n] 57)
  have hR0 := h.below hB0
  have hW0 : Wrote w (w.alloc (.cells #[.int .i64 kind, .int .u64 v, .int .i64 n] 57)) g none none := Wrote.grown (World.grownBy_alloc w _ none) (.inl rfl)
  clear h
  have HR0 := Aside0.mk hR0
  have HW0 := Aside0.mk hW0
  clear hR0 hW0 hB0
  by_cases h0 : kind = 0
  · subst h0
    go_enter Try.func50, Try.ntmps50
    go_wp2_with fail
    refine (rbits_any base g p L n _ HR0.out hp).mono ?_
    rintro e w1 ⟨rfl, hr, hw⟩
    have HO := Aside0.mk (RdOut.after (w' := w1) ⟨rfl, hr, hw⟩ HW0.out)
    clear hr hw
    go_wp2_with fail
    go_ret2
    exact HO.out
  by_cases h1 : kind = 1
  · subst h1
    have HU := Aside0.mk (runary_any base g p L n _ HR0.out hp)
    have hle := readL_unary_le L p n
    obtain ⟨⟨z, q, ze⟩, hz⟩ : ∃ Z, Z = readL L p 1 n := ⟨_, rfl⟩
    rw [← hz] at HU hle ⊢
    clear hz h0
    simp only at HU hle
    go_enter Try.func50, Try.ntmps50
    go_wp2_with fail
    refine HU.out.mono ?_
    rintro e w1 ⟨rfl, hr, hw⟩
    have HO : Aside0 (RdOut w base g L (z, q, ze) (.returned (.tuple #[.int .u64 (z : Int), .int .i64 ze])) w1) := ⟨RdOut.after ⟨rfl, hr, hw⟩ HW0.out⟩
    clear hr hw HU
    go_wp2_with fail
    go_ret2
    exact HO.out
  by_cases h2 : kind = 2
  · subst h2
    go_enter Try.func50, Try.ntmps50
    go_wp2_with fail
    refine (rgamma_any base g p L n _ HR0.out hp).mono ?_
    rintro e w1 ⟨rfl, hr, hw⟩
    have HO := Aside0.mk (RdOut.after (w' := w1) ⟨rfl, hr, hw⟩ HW0.out)
    clear hr hw
    go_wp2_with fail
    go_ret2
    exact HO.out
  · have HD := Aside0.mk (rdelta_any base g p L kind n _ HR0.out hp h0 h1 h2)
    go_enter Try.func50, Try.ntmps50
    go_wp2_with fail
    refine (HD.out).mono ?_
    rintro e w1 ⟨rfl, hr, hw⟩
    have HO := Aside0.mk (RdOut.after (w' := w1) ⟨rfl, hr, hw⟩ HW0.out)
    clear hr hw
    go_wp2_with fail
    go_ret2
    exact HO.out
end Go.Proofs.Ytbfnckjnpbgmaaa
