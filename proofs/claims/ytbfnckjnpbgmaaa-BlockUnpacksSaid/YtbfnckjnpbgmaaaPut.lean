/- A Writer in memory, and what (*stream).put does to it: one bit more. For every Writer with fewer than 2^40 bits. -/
import Derived.Test.YtbfnckjnpbgmaaaRefA
import Derived.Test.YtbfnckjnpbgmaaaBits
import Derived.Outline
import Derived.BigRegion
import Derived.BigQuiet
namespace Go.Proofs.Ytbfnckjnpbgmaaa
open Go.RowKit Go.Proofs.YtbfnckjnpbgmaaaW.PrintWords Go.Proofs.YtbfnckjnpbgmaaaW.PrintLast
set_option linter.unusedVariables false

/-- What a call on the state at block g (its row: row, behind it row') has turned. -/
structure Wrote (w w' : World) (g : Nat) (row row' : Option Nat) : Prop where
  os : w'.os = w.os
  tape : w'.tape = w.tape
  output : w'.output = w.output
  size : w.heap.size ≤ w'.heap.size
  block : ∀ i, i < w.heap.size → i ≠ g → some i ≠ row → w'.heap[i]? = w.heap[i]?
  new : row' = row ∨ ∃ b, row' = some b ∧ w.heap.size ≤ b

theorem Wrote.refl (w : World) (g : Nat) (row : Option Nat) : Wrote w w g row row := ⟨rfl, rfl, rfl, Nat.le_refl _, fun _ _ _ _ => rfl, .inl rfl⟩
theorem Wrote.trans {w w1 w2 : World} {g : Nat} {r0 r1 r2 : Option Nat} (h : Wrote w w1 g r0 r1) (k : Wrote w1 w2 g r1 r2) : Wrote w w2 g r0 r2 :=
  ⟨k.os.trans h.os, k.tape.trans h.tape, k.output.trans h.output, Nat.le_trans h.size k.size, fun i hi hg hr => by
    refine (k.block i (Nat.lt_of_lt_of_le hi h.size) hg ?_).trans (h.block i hi hg hr)
    rcases h.new with e | ⟨b, e, hb⟩
    · rw [e]; exact hr
    · rw [e]; intro e'; injection e' with e'; omega, by
    rcases k.new with e | ⟨b, e, hb⟩
    · rw [e]; exact h.new
    · exact .inr ⟨b, e, Nat.le_trans h.size hb⟩⟩
theorem Wrote.drew {w w1 : World} {g : Nat} {r0 r1 : Option Nat} (h : Wrote w w1 g r0 r1) : Wrote w w1.drew g r0 r1 := ⟨h.os, h.tape, h.output, h.size, h.block, h.new⟩
theorem Wrote.drewN {w w1 : World} {g : Nat} {r0 r1 : Option Nat} (h : Wrote w w1 g r0 r1) (n : Nat) : Wrote w (w1.drewN n) g r0 r1 := ⟨h.os, h.tape, h.output, h.size, h.block, h.new⟩
theorem Wrote.setG {w w1 : World} {g : Nat} {r0 r1 : Option Nat} (h : Wrote w w1 g r0 r1) (j : Nat) (u : Value) : Wrote w (w1.setCell ⟨g, j, none⟩ u) g r0 r1 :=
  ⟨h.os, h.tape, h.output, by simpa [World.setCell] using h.size, fun i hi hg hr => (Below.heap_setCell w1 ⟨g, j, none⟩ u i hg).trans (h.block i hi hg hr), h.new⟩
theorem Wrote.setR {w w1 : World} {g g1 : Nat} {r0 : Option Nat} (h : Wrote w w1 g r0 (some g1)) (j : Nat) (u : Value) : Wrote w (w1.setCell ⟨g1, j, none⟩ u) g r0 (some g1) :=
  ⟨h.os, h.tape, h.output, by simpa [World.setCell] using h.size, fun i hi hg hr => by
    refine (Below.heap_setCell w1 ⟨g1, j, none⟩ u i ?_).trans (h.block i hi hg hr)
    rcases h.new with e | ⟨b, e, hb⟩
    · intro e'; exact hr (by rw [e']; exact e)
    · injection e with e
      show i ≠ g1
      omega, h.new⟩
theorem Wrote.grown {w w1 : World} {g : Nat} {row row' : Option Nat} (hg : w.grownBy w1 row) (hn : row' = row ∨ ∃ b, row' = some b ∧ w.heap.size ≤ b) : Wrote w w1 g row row' :=
  ⟨hg.os, hg.tape, hg.output, hg.size, fun i hi _ hr => hg.block i hi hr, hn⟩
/-- What was made since is ours to write. -/
theorem Wrote.below {w0 w w1 : World} {g base : Nat} {r0 r1 : Option Nat} (h : Wrote w w1 g r0 r1) (hB : Below base w0 w) (hw : base ≤ w.heap.size) (hg : base ≤ g) (hr : ∀ k, r0 = some k → base ≤ k) : Below base w0 w1 :=
  hB.trans ⟨h.os, h.tape, h.output, h.size, fun k hk => h.block k (by omega) (by omega) (fun e => by have := hr k e.symm; omega)⟩
theorem Wrote.blk {w w1 : World} {g g' : Nat} {r0 r1 : Option Nat} {o : Obj} (h : Wrote w w1 g r0 r1) (hb : w.heap[g']? = some o) (hg : g' ≠ g) (hr : some g' ≠ r0) : w1.heap[g']? = some o :=
  (h.block g' (blk_lt hb) hg hr).trans hb
theorem Wrote.own {w w1 : World} {g base e size n : Nat} {r0 r1 : Option Nat} {v : Value} {xs : List Value} (h : Wrote w w1 g r0 r1) (ho : w.ownsRow base e size v n xs) (hg : v.ownBlock ≠ some g) (hr : v.ownBlock = none ∨ v.ownBlock ≠ r0) : w1.ownsRow base e size v n xs := by
  refine own_move ho fun k hk => h.block k (own_lt ho k hk) (fun e => hg (by rw [hk, e])) ?_
  rcases hr with hr | hr
  · rw [hr] at hk; cases hk
  · rw [← hk]; exact hr

/-- A Writer's state at block g: n, and the bytes B in the row 'row'. -/
def Half (w : World) (base g : Nat) (row : Option Nat) (n : Nat) (B : List Int) : Prop :=
  ∃ v, w.heap[g]? = some (.cells #[v, .int .i64 (n : Int)] 88 (0, 0)) ∧ base ≤ g ∧ w.ownsRow base 5 1 v B.length (nums .u8 B) ∧ v.ownBlock = row
/-- A Writer at block g that holds the bits l. -/
def Wr (w : World) (base g : Nat) (row : Option Nat) (l : List Bool) : Prop := Half w base g row l.length (packL l)

theorem Half.row_base {w : World} {base g n : Nat} {row : Option Nat} {B : List Int} (h : Half w base g row n B) : ∀ k, row = some k → base ≤ k := by
  obtain ⟨v, _, _, ho, rfl⟩ := h
  exact own_base ho
theorem Half.row_lt {w : World} {base g n : Nat} {row : Option Nat} {B : List Int} (h : Half w base g row n B) : ∀ k, row = some k → k < w.heap.size := by
  obtain ⟨v, _, _, ho, rfl⟩ := h
  exact own_lt ho
theorem Half.g_lt {w : World} {base g n : Nat} {row : Option Nat} {B : List Int} (h : Half w base g row n B) : g < w.heap.size := by
  obtain ⟨v, hb, _⟩ := h
  exact blk_lt hb
theorem Half.g_base {w : World} {base g n : Nat} {row : Option Nat} {B : List Int} (h : Half w base g row n B) : base ≤ g := by
  obtain ⟨v, _, hg, _⟩ := h
  exact hg
theorem Half.g_ne {w : World} {base g n : Nat} {row : Option Nat} {B : List Int} (h : Half w base g row n B) : some g ≠ row := by
  obtain ⟨v, hb, _, ho, rfl⟩ := h
  exact own_ne ho hb (by decide)
theorem Half.drew {w : World} {base g n : Nat} {row : Option Nat} {B : List Int} (h : Half w base g row n B) : Half w.drew base g row n B := h
theorem Half.drewN {w : World} {base g n : Nat} {row : Option Nat} {B : List Int} (h : Half w base g row n B) (m : Nat) : Half (w.drewN m) base g row n B := h
theorem Half.lower {w : World} {base base' g n : Nat} {row : Option Nat} {B : List Int} (h : Half w base g row n B) (hb : base' ≤ base) : Half w base' g row n B := by
  obtain ⟨v, hc, hg, ho, hr⟩ := h
  exact ⟨v, hc, Nat.le_trans hb hg, own_weaken ho hb, hr⟩
theorem Half.below {w w1 : World} {base g n : Nat} {row : Option Nat} {B : List Int} (h : Half w base g row n B) (hb : Below w.heap.size w w1) : Half w1 base g row n B := by
  obtain ⟨v, hc, hg, ho, hr⟩ := h
  exact ⟨v, blk_below hc hb, hg, pw_own_below ho hb, hr⟩
/-- Another Writer is written. -/
theorem Half.other {w w1 : World} {base g g2 n : Nat} {row r0 r1 : Option Nat} {B : List Int} (h : Half w base g row n B) (hw : Wrote w w1 g2 r0 r1) (hg : g ≠ g2) (hg2 : row ≠ some g2) (hr0 : some g ≠ r0) (hr : row = none ∨ row ≠ r0) : Half w1 base g row n B := by
  obtain ⟨v, hc, hgb, ho, rfl⟩ := h
  exact ⟨v, hw.blk hc hg hr0, hgb, hw.own ho hg2 hr, rfl⟩

theorem Half.inc {w : World} {base g n : Nat} {row : Option Nat} {B : List Int} (h : Half w base g row n B) (z : Int) (hz : z = ((n + 1 : Nat) : Int)) : Half (w.setCell ⟨g, 1, none⟩ (.int .i64 z)) base g row (n + 1) B := by
  obtain ⟨v, hc, hg, ho, hr⟩ := h
  subst hz
  refine ⟨v, blk_put hc 1 _ (by simp), hg, own_setCell ho (own_ne ho hc (by decide)) _, hr⟩
theorem Half.set {w : World} {base g g1 n : Nat} {B : List Int} (h : Half w base g (some g1) n B) (i : Nat) (x : Int) : Half (w.setCell ⟨g1, i, none⟩ (.int .u8 x)) base g (some g1) n (B.set i x) := by
  obtain ⟨v, hc, hg, ho, hr⟩ := h
  have hne := own_ne ho hc (by decide)
  rw [hr] at hne
  have hform : ∃ m c, v = .slice (some ⟨g1, 0, none⟩) m c := by
    rcases ho.2 with ⟨rfl, _⟩ | ⟨g', cap, cur, rfl, _⟩
    · simp [Value.ownBlock] at hr
    · simp [Value.ownBlock] at hr
      subst hr
      exact ⟨_, _, rfl⟩
  obtain ⟨m, c, rfl⟩ := hform
  have hm : m = B.length := by
    obtain ⟨A', c', e⟩ := own_slice ho
    injection e
  subst hm
  have hs := (own_store ho (i : Int) x).1
  rw [Int.toNat_natCast] at hs
  exact ⟨_, blk_far hc (fun e => hne (by rw [e])) _, hg, by rw [List.length_set]; exact hs, hr⟩
theorem Half.app {w w1 : World} {base g n : Nat} {v v1 : Value} {C : List Int} (hc : w.heap[g]? = some (.cells #[v, .int .i64 (n : Int)] 88 (0, 0))) (hg : base ≤ g) (hne : some g ≠ v.ownBlock) (ho : w1.ownsRow base 5 1 v1 C.length (nums .u8 C)) (hgr : w.grownBy w1 v.ownBlock) :
    Half (w1.setCell ⟨g, 0, none⟩ v1) base g v1.ownBlock n C := by
  have hc1 := blk_grown hc hgr hne
  exact ⟨v1, blk_put hc1 0 _ (by simp), hg, own_setCell ho (own_ne ho hc1 (by decide)) _, rfl⟩


/-- What a call that appends the bits m leaves. -/
def Puts (w : World) (base g : Nat) (row : Option Nat) (l m : List Bool) (w' : World) : Prop := ∃ row', Wr w' base g row' (l ++ m) ∧ Wrote w w' g row row'

theorem pow7 (n : Nat) : (128 : Int) / 2 ^ (n % 8) = ((2 ^ (7 - n % 8) : Nat) : Int) := by
  have h : n % 8 < 8 := Nat.mod_lt _ (by decide)
  generalize n % 8 = k at h
  obtain rfl | rfl | rfl | rfl | rfl | rfl | rfl | rfl : k = 0 ∨ k = 1 ∨ k = 2 ∨ k = 3 ∨ k = 4 ∨ k = 5 ∨ k = 6 ∨ k = 7 := by omega
  all_goals decide
theorem or_step (B : List Int) (n : Nat) (hB : IsBytes B) (k : Int) (hk : k = (n : Int) % 8) : bits BinOp.or IntKind.u8 (B.getD (n / 8) 0) (128 / 2 ^ k.toNat) = (((B.getD (n / 8) 0).toNat ||| 2 ^ (7 - n % 8) : Nat) : Int) := by
  have hb := hB.getD (n / 8)
  have e : k.toNat = n % 8 := by omega
  have hp : 2 ^ (7 - n % 8) < 2 ^ 8 := Nat.pow_lt_pow_right (by decide) (by omega)
  rw [e, pow7]
  generalize 2 ^ (7 - n % 8) = q at hp
  rw [or_u8 _ _ hb.1 hb.2 (by omega) (by omega), Int.toNat_natCast]
theorem row_cell {w : World} {base g1 m c : Nat} {B : List Int} (ho : w.ownsRow base 5 1 (.slice (some ⟨g1, 0, none⟩) m c) m (nums .u8 B)) (i : Nat) (hi : i < m) :
    w.cell? ⟨g1, i, none⟩ = some (.int .u8 (B.getD i 0)) ∧ w.frozen? ⟨g1, i, none⟩ = false := by
  have h := own_at ho (i : Int) (by omega) (by omega)
  simpa [rd] using h

set_option maxHeartbeats 1000000 in
/-- A bit 0 or 1 into a byte that is there. -/
theorem put_old (base g : Nat) (row : Option Nat) (l : List Bool) (x : Int) (b : Bool) (w : World) (h : Wr w base g row l) (hl : l.length < 1099511627776) (h8 : l.length % 8 ≠ 0)
    (hx : (bits BinOp.and IntKind.u64 x 1 == 1) = b) :
    Calls Try.prog 73 #[.pointer (some ⟨g, 0, none⟩), .int .u64 x] w fun e w' => e = .returned (.tuple #[]) ∧ Puts w base g row l [b] w' := by
  obtain ⟨v, hb, hg, HO, hrow⟩ := h
  have hlen := packL_length l
  obtain ⟨A, c, hv⟩ := own_slice HO
  obtain ⟨g1, c', hv', hg1, hg1l⟩ := HO.form (by omega)
  subst hv'
  have HW0 : Half w base g row l.length (packL l) := ⟨_, hb, hg, HO, hrow⟩
  have HW := Aside0.mk HW0
  clear HW0
  have hne : g1 ≠ g := fun e => own_ne HO hb (by decide) (by rw [e]; rfl)
  obtain ⟨hc, hf⟩ := row_cell HO (l.length / 8) (by omega)
  have HY := Aside0.mk (or_step (packL l) l.length (packL_bytes l) _ (and7_i64 l.length (by omega) (by omega)))
  have e1 : (bits BinOp.and IntKind.i64 l.length 7 == 0) = false := by
    rw [and7_i64 _ (by omega) (by omega)]; simp; omega
  have s0 : 0 ≤ bits BinOp.and IntKind.i64 l.length 7 := by rw [and7_i64 _ (by omega) (by omega)]; omega
  have s1 : bits BinOp.and IntKind.i64 l.length 7 ≤ 8 := by rw [and7_i64 _ (by omega) (by omega)]; omega
  have hi0 : (0 : Int) ≤ (l.length : Int) / 8 := by omega
  have hi : (l.length : Int) / 8 < ((packL l).length : Nat) := by omega
  have h0 := blk_cell hb 0
  have h1 := blk_cell hb 1
  have f0 := blk_frozen hb 0
  have f1 := blk_frozen hb 1
  simp at h0 h1
  have hrow' : row = some g1 := hrow.symm
  subst hrow'
  have HP : Aside0 (packL (l ++ [b]) = if b then setBit (packL l) l.length else packL l) := ⟨by rw [packL_snoc]; unfold putBit; rw [if_neg h8]⟩
  have HL : Aside0 ((l ++ [b]).length = l.length + 1) := ⟨by simp⟩
  clear hv hb HO hlen h8 hrow
  obtain ⟨y, hy⟩ : ∃ y, y = (packL l).getD (l.length / 8) 0 := ⟨_, rfl⟩
  rw [← hy] at hc HY
  have Hy := Aside0.mk hy
  clear hy
  cases b with
  | false =>
    clear hc hf
    go_enter Try.func73, Try.ntmps73
    go_wp2_with fail
    go_end0
    refine ⟨rfl, some g1, ?_, (Wrote.refl _ _ _).setG _ _⟩
    have := HW.out.inc ((l.length : Int) + 1) (by omega)
    unfold Wr
    rw [HP.out, HL.out]
    exact this
  | true =>
    go_enter Try.func73, Try.ntmps73
    go_wp2_with fail
    go_region
    go_wp2
    go_end0
    refine ⟨rfl, some g1, ?_, (((Wrote.refl _ _ _).setR _ _).setG _ _).drew⟩
    have := (HW.out.set (l.length / 8) (((y.toNat ||| 2 ^ (7 - l.length % 8) : Nat) : Int))).inc ((l.length : Int) + 1) (by omega)
    unfold Wr
    rw [HP.out, HL.out, HY.out, if_pos trivial, setBit, ← Hy.out]
    exact this.drew

set_option maxHeartbeats 1000000 in
/-- A bit 0 or 1 behind whole bytes: a byte more. -/
theorem put_new (base g : Nat) (row : Option Nat) (l : List Bool) (x : Int) (b : Bool) (w : World) (h : Wr w base g row l) (hl : l.length < 1099511627776) (h8 : l.length % 8 = 0)
    (hx : (bits BinOp.and IntKind.u64 x 1 == 1) = b) :
    Calls Try.prog 73 #[.pointer (some ⟨g, 0, none⟩), .int .u64 x] w fun e w' => e = .returned (.tuple #[]) ∧ Puts w base g row l [b] w' := by
  obtain ⟨v, hb, hg, HO, hrow⟩ := h
  have hlen := packL_length l
  obtain ⟨A, c, hv⟩ := own_slice HO
  subst hv
  have hle : (packL l).length ≤ 1099511627776 := by omega
  have hIb : IsBytes (packL l ++ [0]) := (packL_bytes l).append (by intro x hx; simp at hx; subst hx; omega)
  have HYc := Aside0.mk (or_step (packL l ++ [0]) l.length hIb _ (and7_i64 l.length (by omega) (by omega)))
  have e1 : (bits BinOp.and IntKind.i64 l.length 7 == 0) = true := by
    rw [and7_i64 _ (by omega) (by omega)]; simp; omega
  have s0 : 0 ≤ bits BinOp.and IntKind.i64 l.length 7 := by rw [and7_i64 _ (by omega) (by omega)]; omega
  have s1 : bits BinOp.and IntKind.i64 l.length 7 ≤ 8 := by rw [and7_i64 _ (by omega) (by omega)]; omega
  have hi0 : (0 : Int) ≤ (l.length : Int) / 8 := by omega
  have hi : (l.length : Int) / 8 < ((packL l).length + 1 : Nat) := by omega
  have HI := Aside0.mk (show l.length / 8 < (packL l).length + 1 by omega)
  have h0 := blk_cell hb 0
  have h1 := blk_cell hb 1
  have f0 := blk_frozen hb 0
  have f1 := blk_frozen hb 1
  simp at h0 h1
  have hrow' : row = (Value.slice A (packL l).length c).ownBlock := hrow.symm
  have HR := Aside0.mk hrow'
  have HP : Aside0 (packL (l ++ [b]) = if b then setBit (packL l ++ [0]) l.length else packL l ++ [0]) := ⟨by rw [packL_snoc]; unfold putBit; rw [if_pos h8]⟩
  have HL : Aside0 ((l ++ [b]).length = l.length + 1) := ⟨by simp⟩
  have HB := Aside0.mk hb
  have HO' := Aside0.mk HO
  have HNE := Aside0.mk (own_ne HO hb (by decide))
  clear hb HO hlen h8 hrow hrow' hIb
  cases b with
  | false =>
    go_enter Try.func73, Try.ntmps73
    go_wp2_with (at_builtin; refine print_append_num (w0 := w) base rfl (.tmp 14) (.tmp 15) 22 5 .u8 1 rfl Try.underlying22 Refs.info5 (by omega) (.slice A (packL l).length c) (packL l) 0 rfl rfl HO'.out ?aB ?aS ?aL ?_; (case aB => exact Below.refl _ _); (case aS => have := blk_lt HB.out; omega); (case aL => omega); intro v1 w1 hown hB1 hg1 hat1; have hb1 := blk_grown HB.out hg1 HNE.out; obtain ⟨A1, c1, hv1⟩ := own_slice hown; subst hv1; have h0' := blk_cell hb1 0; have h1' := blk_cell hb1 1; have f0' := blk_frozen hb1 0; have f1' := blk_frozen hb1 1; simp at h0' h1'; have HO1 := Aside0.mk hown; have HG1 := Aside0.mk hg1; have HAT1 := Aside0.mk hat1; clear hb1 hown hg1 hat1 hB1)
    go_end0
    refine ⟨rfl, (Value.slice A1 (packL l ++ [0]).length c1).ownBlock, ?_, ?_⟩
    · have := (Half.app HB.out hg HNE.out HO1.out HG1.out).inc ((l.length : Int) + 1) (by omega)
      unfold Wr
      rw [HP.out, HL.out, if_neg (by simp)]
      simpa using this
    · rw [HR.out]
      simpa using ((Wrote.grown HG1.out HAT1.out).setG 0 _).setG 1 _
  | true =>
    go_enter Try.func73, Try.ntmps73
    go_wp2_with (at_builtin; refine print_append_num (w0 := w) base rfl (.tmp 14) (.tmp 15) 22 5 .u8 1 rfl Try.underlying22 Refs.info5 (by omega) (.slice A (packL l).length c) (packL l) 0 rfl rfl HO'.out ?aB ?aS ?aL ?_; (case aB => exact Below.refl _ _); (case aS => have := blk_lt HB.out; omega); (case aL => omega); intro v1 w1 hown hB1 hg1 hat1; have hb1 := blk_grown HB.out hg1 HNE.out; have HNE1 := Aside0.mk (own_ne hown hb1 (by decide)); obtain ⟨gr, cr, hv1, hgr, hgrl⟩ := hown.form (by simp); subst hv1; have hne1 : gr ≠ g := (fun e => HNE1.out (by rw [e]; rfl)); obtain ⟨hcr, hfr⟩ := row_cell hown (l.length / 8) (by have := HI.out; simp; omega); have h0' := blk_cell hb1 0; have h1' := blk_cell hb1 1; have f0' := blk_frozen hb1 0; have f1' := blk_frozen hb1 1; simp at h0' h1'; have HO1 := Aside0.mk hown; have HG1 := Aside0.mk hg1; have HAT1 := Aside0.mk hat1; obtain ⟨y, hy⟩ : ∃ y, y = (packL l ++ [0]).getD (l.length / 8) 0 := (⟨_, rfl⟩); rw [← hy] at hcr HYc; have Hy := Aside0.mk hy; clear hb1 hown hg1 hat1 hB1 hy)
    go_region
    go_wp2
    go_end0
    refine ⟨rfl, some gr, ?_, ?_⟩
    · have := ((Half.app HB.out hg HNE.out HO1.out HG1.out).set (l.length / 8) (((y.toNat ||| 2 ^ (7 - l.length % 8) : Nat) : Int))).inc ((l.length : Int) + 1) (by omega)
      unfold Wr
      rw [HP.out, HL.out, HYc.out, if_pos trivial, setBit, ← Hy.out]
      simpa using this.drew
    · rw [HR.out]
      simpa using ((((Wrote.grown HG1.out HAT1.out).setG 0 _).setR _ _).setG 1 _).drew
end Go.Proofs.Ytbfnckjnpbgmaaa
