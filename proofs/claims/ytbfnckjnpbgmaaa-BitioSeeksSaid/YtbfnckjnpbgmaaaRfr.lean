/- The reference's number, zeros and Read. For fewer than 2^40 bits. -/
import Derived.Test.YtbfnckjnpbgmaaaRmt
import Derived.Test.YtbfnckjnpbgmaaaRefC
import Derived.Deep.QuietTactic
import Derived.BigQuiet
import Derived.IntWalk
namespace Go.Proofs.Ytbfnckjnpbgmaaa
open Go.RowKit Go.Proofs.YtbfnckjnpbgmaaaW.PrintWords Go.Proofs.YtbfnckjnpbgmaaaW.PrintLast Go.Proofs.YtbfnckjnpbgmaaaW.PrintMore
set_option linter.unusedVariables false


theorem rdOf_nat (l : List Bool) (i : Nat) : rdOf false l (i : Int) = l.getD i false := by simp [rdOf]
theorem take_snocB (l : List Bool) (i : Nat) (h : i < l.length) : l.take (i + 1) = l.take i ++ [l.getD i false] := by
  have := take_more l 0 i (by simpa using h)
  simpa using this
theorem number_l (l : List Bool) (h64 : l.length ≤ 64) (d : Nat) : ∀ (k i : Nat), l.length - i = d → d < k → i ≤ l.length →
    Refs.corporaref02_number.l0 k (numL (l.take i) : Int) l (l.length : Int) (i : Int) = some (numL l : Int) := by
  induction d with
  | zero =>
    intro k i hd hk hi
    obtain ⟨k, rfl⟩ : ∃ m, k = m + 1 := ⟨k - 1, by omega⟩
    have : i = l.length := by omega
    subst this
    rw [Refs.corporaref02_number.l0, if_neg (by omega), List.take_length]
  | succ d ih =>
    intro k i hd hk hi
    obtain ⟨k, rfl⟩ : ∃ m, k = m + 1 := ⟨k - 1, by omega⟩
    have hnext := ih k (i + 1) (by omega) (by omega) (by omega)
    have hlt := numL_lt (l.take i)
    rw [List.length_take, Nat.min_eq_left (by omega)] at hlt
    have hp : 2 ^ i ≤ 2 ^ 63 := Nat.pow_le_pow_right (n := 2) (by decide) (by omega)
    rw [take_snocB l i (by omega), numL_snoc] at hnext
    generalize numL (l.take i) = v at hlt hnext ⊢
    have hv : v < 9223372036854775808 := Nat.lt_of_lt_of_le hlt hp
    clear hlt hp
    have e1 : IntKind.u64.wrap ((v : Int) * 2) = ((2 * v : Nat) : Int) := by
      rw [show (v : Int) * 2 = ((2 * v : Nat) : Int) by omega]; exact wrap_u64_nat _ (by omega)
    have e2 : IntKind.u64.wrap (((2 * v : Nat) : Int) + 1) = ((2 * v + 1 : Nat) : Int) := by
      rw [show ((2 * v : Nat) : Int) + 1 = ((2 * v + 1 : Nat) : Int) by omega]; exact wrap_u64_nat _ (by omega)
    have e3 : wrap64 ((i : Int) + 1) = ((i + 1 : Nat) : Int) := by unfold wrap64; omega
    rw [Refs.corporaref02_number.l0, if_pos (by omega), if_pos (by omega), if_pos (by omega), e1, e2, e3, rdOf_nat]
    cases hb : l.getD i false
    · rw [hb] at hnext
      simp only [Bool.toNat_false, Nat.add_zero] at hnext
      rw [if_neg (by decide)]
      exact hnext
    · rw [hb] at hnext
      simp only [Bool.toNat_true] at hnext
      rw [if_pos rfl]
      exact hnext
theorem number_f (l : List Bool) (h64 : l.length ≤ 64) : Refs.corporaref02_number.f 65 l = some (numL l : Int) := by
  have := number_l l h64 l.length 65 0 (by omega) (by omega) (by omega)
  simpa [numL, Refs.corporaref02_number.f] using this
theorem number_any (A : Option Addr) (n c : Nat) (l : List Bool) (w : World) (hn : l.length = n) (hr : Kd.C Kd.bool w A n l) (hc : n ≤ c) (h64 : n ≤ 64) :
    Calls Try.prog 67 #[.slice A n c] w fun e w' => e = .returned (.int .u64 (numL l : Int)) ∧ Drawn0 w w' := by
  subst hn
  exact Refs.corporaref02_number.calls 65 A c l _ w hr hc (number_f l h64)

theorem zeros_l (L : List Bool) (p most : Nat) (hL : L.length < 1099511627776) (hp : p ≤ L.length) (hm : most ≤ 4096) (d : Nat) : ∀ (k j : Nat), most - j = d → 2 * d + 2 < k → j ≤ most → p + j ≤ L.length →
    Refs.corporaref02_zeros.l0 k L (p : Int) (most : Int) (j : Int) = some (((zL most (L.drop (p + j)) j).1 : Int), (zL most (L.drop (p + j)) j).2) := by
  induction d with
  | zero =>
    intro k j hd hk hj hpj
    obtain ⟨k, rfl⟩ : ∃ m, k = m + 1 + 1 := ⟨k - 2, by omega⟩
    have hjm : j = most := by omega
    subst hjm
    have e1 : wrap64 ((p : Int) + (j : Int)) = ((p + j : Nat) : Int) := by unfold wrap64; omega
    have e2 : wrap64 ((j : Int) + 1) = ((j + 1 : Nat) : Int) := by unfold wrap64; omega
    rw [Refs.corporaref02_zeros.l0, e1]
    by_cases hend : L.length ≤ p + j
    · rw [if_neg (by omega), Refs.corporaref02_zeros.j1, if_neg (by decide), e1, if_pos (by omega), zL_end j L p j hend]
      rfl
    · rw [if_pos (by omega), if_pos (by omega), rdOf_nat, Refs.corporaref02_zeros.j1]
      cases hb : L.getD (p + j) false
      · rw [if_pos (by decide), e2, if_pos (by omega), zL_most j L p (by omega) hb]; rfl
      · rw [if_neg (by decide), e1, if_neg (by omega), zL_stop j L p j (by omega) hb]
  | succ d ih =>
    intro k j hd hk hj hpj
    obtain ⟨k, rfl⟩ : ∃ m, k = m + 1 + 1 := ⟨k - 2, by omega⟩
    have e1 : wrap64 ((p : Int) + (j : Int)) = ((p + j : Nat) : Int) := by unfold wrap64; omega
    have e2 : wrap64 ((j : Int) + 1) = ((j + 1 : Nat) : Int) := by unfold wrap64; omega
    rw [Refs.corporaref02_zeros.l0, e1]
    by_cases hend : L.length ≤ p + j
    · rw [if_neg (by omega), Refs.corporaref02_zeros.j1, if_neg (by decide), e1, if_pos (by omega), zL_end most L p j hend]
      rfl
    · rw [if_pos (by omega), if_pos (by omega), rdOf_nat, Refs.corporaref02_zeros.j1]
      cases hb : L.getD (p + j) false
      · rw [if_pos (by decide), e2, if_neg (by omega), ih k (j + 1) (by omega) (by omega) (by omega) (by omega), zL_step most L p j (by omega) hb (by omega)]
      · rw [if_neg (by decide), e1, if_neg (by omega), zL_stop most L p j (by omega) hb]
theorem zeros_any (A : Option Addr) (n c : Nat) (L : List Bool) (x m : Int) (p most : Nat) (w : World) (hn : L.length = n) (hr : Kd.C Kd.bool w A n L) (hc : n ≤ c) (hL : n < 1099511627776) (hx : x = p) (hm : m = most) (hp : p ≤ n) (hmost : most ≤ 4096) :
    Calls Try.prog 68 #[.slice A n c, .int .i64 x, .int .i64 m] w fun e w' => e = .returned (.tuple #[.int .i64 ((zL most (L.drop p) 0).1 : Int), .int .i64 (zL most (L.drop p) 0).2]) ∧ Drawn0 w w' := by
  subst hn hx hm
  exact Refs.corporaref02_zeros.calls 10000 A c L p most _ _ w hr hc (by
    have := zeros_l L p most hL hp hmost most 10000 0 (by omega) (by omega) (by omega) (by omega)
    simpa [Refs.corporaref02_zeros.f] using this)


/-- l[q : q + k] of bits that are read. -/
theorem mid_bits (A : Option Addr) (c n : Nat) (L : List Bool) (q k : Nat) (hn : L.length = n) (hq : q + k ≤ n) (hc : n ≤ c) : ∃ A' c', k ≤ c' ∧
    (∀ (x y : Int) (W : World), x = q → y = ((q + k : Nat) : Int) → (Instr.slice 55 (.slice A n c) (some (.int .i64 x)) (some (.int .i64 y)) none).run Try.prog W = .ok (.slice A' k c') W) ∧
    ∀ w : World, Kd.C Kd.bool w A n L → Kd.C Kd.bool w A' k ((L.drop q).take k) := by
  subst hn
  have h := print_mid_of (P := Try.prog) Value.bool false 55 4 .i64 .i64 Try.underlying55 (info_parts Refs.info4).choose_spec.1 (info_parts Refs.info4).choose_spec.2.2.1 A c L (q : Int) ((q + k : Nat) : Int) (by omega) (by omega) (by omega) hc
  rw [Int.toNat_natCast, Int.toNat_natCast, List.drop_take, Nat.add_sub_cancel_left] at h
  obtain ⟨A', h1, h2, h3⟩ := h
  have hk : ((L.drop q).take k).length = k := by rw [List.length_take, List.length_drop]; omega
  rw [hk] at h1 h2 h3
  exact ⟨A', c - q, h3, fun x y W hx hy => by subst hx hy; exact h1 W, fun w h => Kd.C_of_reads (h1 := fun _ => rfl) (h2 w (Kd.reads_of_C (d := false) h))⟩

/-- What the reference's Read answers. -/
def RefOut (w : World) (r : Nat × Nat × Int) (e : Ending) (w' : World) : Prop := e = .returned (.tuple #[.int .u64 (r.1 : Int), .int .i64 (r.2.1 : Int), .int .i64 r.2.2]) ∧ Below w.heap.size w w'
set_option maxHeartbeats 2000000 in
set_option maxRecDepth 100000 in
/-- Read: bits. -/
theorem refBits_any (A : Option Addr) (n c : Nat) (L : List Bool) (x : Int) (p : Nat) (N : Int) (v : Int) (w : World) (hn : L.length = n) (hc : n ≤ c) (hr : Kd.C Kd.bool w A n L) (hL : n < 1099511627776) (hx : x = p) (hp : p ≤ n) :
    Calls Try.prog 49 #[.slice A n c, .int .i64 x, .agg #[.int .i64 0, .int .u64 v, .int .i64 N]] w fun e w' => RefOut w (readL L p 0 N) e w' := by
  subst hx
  have hB0 := below_alloc (Below.refl w.heap.size w) (.cells #[.int .i64 0, .int .u64 v, .int .i64 N] 57)
  have hK0 := blk_new w (.cells #[.int .i64 0, .int .u64 v, .int .i64 N] 57)
  have HR := Aside0.mk (Kd.C_below hr hB0)
  have HB := Aside0.mk hB0
  clear hr hB0
  by_cases h0 : N < 0
  · have hrr : readL L p 0 N = (0, p, 1) := by simp [readL, h0]
    rw [hrr]
    clear hrr
    go_enter Try.func49, Try.ntmps49
    go_wp2_with fail
    go_ret3
    exact ⟨rfl, HB.out⟩
  by_cases h1 : 64 < N
  · have hrr : readL L p 0 N = (0, p, 1) := by simp [readL, h1]
    rw [hrr]
    clear hrr
    go_enter Try.func49, Try.ntmps49
    go_wp2_with fail
    go_ret3
    exact ⟨rfl, HB.out⟩
  obtain ⟨k, rfl⟩ : ∃ k : Nat, N = k := ⟨N.toNat, by omega⟩
  have hk : k ≤ 64 := by omega
  clear h0 h1
  by_cases h2 : n - p < k
  · have hrr : readL L p 0 (k : Int) = (0, p, 10) := by
      rw [readL, if_pos rfl, if_neg (by omega), Int.toNat_natCast, if_pos (by rw [hn]; exact h2)]
    rw [hrr]
    clear hrr
    have hlt : (n : Int) - (p : Int) < (k : Int) := by omega
    go_enter Try.func49, Try.ntmps49
    go_wp2_with fail
    go_ret3
    exact ⟨rfl, HB.out⟩
  · have hrr : readL L p 0 (k : Int) = (numL ((L.drop p).take k), p + k, 0) := by
      rw [readL, if_pos rfl, if_neg (by omega), Int.toNat_natCast, if_neg (by rw [hn]; exact h2)]
    rw [hrr]
    clear hrr
    obtain ⟨A', c', hkc, hrun, hread⟩ := mid_bits A c n L p k hn (by omega) hc
    have hlen : ((L.drop p).take k).length = k := by rw [List.length_take, List.length_drop]; omega
    have HM := Aside0.mk (hread _ HR.out)
    obtain ⟨M, hM⟩ : ∃ M, M = (L.drop p).take k := ⟨_, rfl⟩
    rw [← hM] at HM hlen ⊢
    clear hM hread hn
    have hs1 : IntKind.i64.wrap ((p : Int) + (k : Int)) = (p : Int) + (k : Int) := IntWalk.i64_in _ (by omega)
    have hrun2 := fun W => hrun (p : Int) ((p : Int) + (k : Int)) W rfl (by omega)
    have hlt : ¬ (n : Int) - (p : Int) < (k : Int) := by omega
    clear hrun
    go_enter Try.func49, Try.ntmps49
    go_wp2_with fail
    generalize w.alloc (.cells #[.int .i64 0, .int .u64 v, .int .i64 (k : Int)] 57) = W0 at HR HB HM hK0 ⊢
    have hc2 := blk_cell hK0 2
    simp at hc2
    clear hK0
    go_quiet ((go_at_call 67; exact Calls.quiet_of ((number_any A' k c' M _ hlen (Kd.C_drewN HM.out _) hkc hk).mono (fun _ _ h => ⟨h.1, h.2.out⟩))))
    go_wp2_with fail
    go_ret3
    exact ⟨by rw [show ((p + k : Nat) : Int) = (p : Int) + (k : Int) by omega]; rfl, pw_below_drewN HB.out _⟩

set_option maxHeartbeats 2000000 in
set_option maxRecDepth 100000 in
/-- Read: unary. -/
theorem refUnary_any (A : Option Addr) (n c : Nat) (L : List Bool) (x : Int) (p : Nat) (N : Int) (v : Int) (w : World) (hn : L.length = n) (hc : n ≤ c) (hr : Kd.C Kd.bool w A n L) (hL : n < 1099511627776) (hx : x = p) (hp : p ≤ n) :
    Calls Try.prog 49 #[.slice A n c, .int .i64 x, .agg #[.int .i64 1, .int .u64 v, .int .i64 N]] w fun e w' => RefOut w (readL L p 1 N) e w' := by
  subst hx
  have hB0 := below_alloc (Below.refl w.heap.size w) (.cells #[.int .i64 1, .int .u64 v, .int .i64 N] 57)
  have hK0 := blk_new w (.cells #[.int .i64 1, .int .u64 v, .int .i64 N] 57)
  have HR := Aside0.mk (Kd.C_below hr hB0)
  have HB := Aside0.mk hB0
  clear hr hB0
  have hrr : readL L p 1 N = if (zL 4096 (L.drop p) 0).2 = 0 then ((zL 4096 (L.drop p) 0).1, p + (zL 4096 (L.drop p) 0).1 + 1, 0) else (0, p, (zL 4096 (L.drop p) 0).2) := by
    rw [readL, if_neg (by decide), if_pos rfl]
  have hzb := zL_bound 4096 (L.drop p) 0 (by omega)
  have HZ := Aside0.mk (zeros_any A n c L (p : Int) 4096 p 4096 _ hn HR.out hc hL rfl rfl hp (by omega))
  obtain ⟨⟨z, ze⟩, hz⟩ : ∃ Z, Z = zL 4096 (L.drop p) 0 := ⟨_, rfl⟩
  rw [← hz] at hrr hzb HZ
  rw [hrr]
  rw [List.length_drop, hn] at hzb
  obtain ⟨hzm, hzl⟩ := hzb
  clear hrr hz hn HR
  simp only at HZ hzm hzl ⊢
  by_cases h0 : ze = 0
  · subst h0
    have hzl2 := (hzl rfl).2
    clear hzl
    rw [if_pos rfl]
    go_enter Try.func49, Try.ntmps49
    go_wp2_with fail
    refine HZ.out.mono ?_
    rintro e w2 ⟨rfl, hd⟩
    obtain ⟨m, rfl⟩ := hd.out
    clear hd
    go_wp2_with fail
    go_ret3
    exact ⟨by rw [show ((p + z + 1 : Nat) : Int) = (p : Int) + (z : Int) + 1 by omega]; rfl, pw_below_drewN HB.out _⟩
  · rw [if_neg h0]
    go_enter Try.func49, Try.ntmps49
    go_wp2_with fail
    refine HZ.out.mono ?_
    rintro e w2 ⟨rfl, hd⟩
    obtain ⟨m, rfl⟩ := hd.out
    clear hd
    go_wp2_with fail
    go_ret3
    exact ⟨rfl, pw_below_drewN HB.out _⟩

set_option maxHeartbeats 4000000 in
set_option maxRecDepth 100000 in
/-- Read: gamma and delta. -/
theorem refGam_any (A : Option Addr) (n c : Nat) (L : List Bool) (x : Int) (p : Nat) (kind N : Int) (v : Int) (w : World) (hn : L.length = n) (hc : n ≤ c) (hr : Kd.C Kd.bool w A n L) (hL : n < 1099511627776) (hx : x = p) (hp : p ≤ n) (hk0 : kind ≠ 0) (hk1 : kind ≠ 1) :
    Calls Try.prog 49 #[.slice A n c, .int .i64 x, .agg #[.int .i64 kind, .int .u64 v, .int .i64 N]] w fun e w' => RefOut w (readL L p kind N) e w' := by
  subst hx
  have hB0 := below_alloc (Below.refl w.heap.size w) (.cells #[.int .i64 kind, .int .u64 v, .int .i64 N] 57)
  have hK0 := blk_new w (.cells #[.int .i64 kind, .int .u64 v, .int .i64 N] 57)
  have HR := Aside0.mk (Kd.C_below hr hB0)
  have HB := Aside0.mk hB0
  clear hr hB0
  have HGA := Aside0.mk (readL_gamma L p N)
  have HDA := Aside0.mk (readL_delta L p kind N hk0 hk1)
  have hgb := gamR_bound L p (by rw [hn]; exact hp)
  have hg : gamR L p = if (zL 63 (L.drop p) 0).2 = 0 then
    if L.length - p < 2 * (zL 63 (L.drop p) 0).1 + 1 then (0, 0, 10)
    else (numL ((L.drop (p + (zL 63 (L.drop p) 0).1)).take ((zL 63 (L.drop p) 0).1 + 1)), p + 2 * (zL 63 (L.drop p) 0).1 + 1, 0)
  else (0, 0, (zL 63 (L.drop p) 0).2) := rfl
  have hzb := zL_bound 63 (L.drop p) 0 (by omega)
  have HZ := Aside0.mk (zeros_any A n c L (p : Int) 63 p 63 _ hn HR.out hc hL rfl rfl hp (by omega))
  obtain ⟨⟨z, ze⟩, hz⟩ : ∃ Z, Z = zL 63 (L.drop p) 0 := ⟨_, rfl⟩
  rw [← hz] at hg hzb HZ
  rw [List.length_drop, hn] at hzb
  rw [hn] at hg
  obtain ⟨hzm, hzl⟩ := hzb
  clear hz
  simp only at HZ hzm hzl hg
  have HALL : Aside0 (readL L p kind N = if (gamR L p).2.2 = 0 then (if kind = 2 then gamR L p else readL.deltaR L p (gamR L p).2.1 (gamR L p).1) else (0, p, (gamR L p).2.2)) := ⟨by
    by_cases h2 : kind = 2
    · subst h2; rw [HGA.out, if_pos rfl]
    · rw [HDA.out h2, if_neg h2]⟩
  clear HGA HDA
  by_cases h0 : ze = 0
  · subst h0
    have hzl2 := (hzl rfl).2
    clear hzl
    rw [if_pos rfl] at hg
    by_cases h1 : n - p < 2 * z + 1
    · rw [if_pos h1] at hg
      have hres : readL L p kind N = (0, p, 10) := by rw [HALL.out, hg, if_neg (by simp)]
      rw [hres]
      have hlt : (n : Int) - (p : Int) < 2 * (z : Int) + 1 := by omega
      clear hres HALL hg hn HR
      go_enter Try.func49, Try.ntmps49
      go_wp2_with fail
      refine HZ.out.mono ?_
      rintro e w2 ⟨rfl, hd⟩
      obtain ⟨m, rfl⟩ := hd.out
      clear hd
      go_wp2_with fail
      go_ret3
      exact ⟨rfl, pw_below_drewN HB.out _⟩
    · rw [if_neg h1] at hg
      have hlt : ¬ (n : Int) - (p : Int) < 2 * (z : Int) + 1 := by omega
      obtain ⟨A', c', hkc, hrun, hread⟩ := mid_bits A c n L (p + z) (z + 1) hn (by omega) hc
      have hlen : ((L.drop (p + z)).take (z + 1)).length = z + 1 := by rw [List.length_take, List.length_drop]; omega
      have HM := Aside0.mk (hread _ HR.out)
      rw [hg] at hgb
      simp only at hgb
      obtain ⟨M, hM⟩ : ∃ M, M = (L.drop (p + z)).take (z + 1) := ⟨_, rfl⟩
      rw [← hM] at HM hlen hg hgb
      obtain ⟨hgb1, hgb2⟩ := hgb
      have hgb3 := (hgb2 trivial).1
      clear hM hread hgb2
      have hrun2 := fun W => hrun ((p : Int) + (z : Int)) ((p : Int) + 2 * (z : Int) + 1) W (by omega) (by omega)
      have HNUM := Aside0.mk (fun W hW => number_any A' (z + 1) c' M W hlen hW hkc (by omega))
      clear hrun
      obtain ⟨u, hu⟩ : ∃ u, u = numL M := ⟨_, rfl⟩
      rw [← hu] at hg hgb1 hgb3 HNUM
      clear hu
      by_cases hk2 : kind = 2
      · have hres : readL L p kind N = (u, p + 2 * z + 1, 0) := by rw [HALL.out, hg, if_pos rfl, if_pos hk2]
        rw [hres]
        clear hres HALL hg hn HR
        subst hk2
        go_enter Try.func49, Try.ntmps49
        go_wp2_with fail
        refine HZ.out.mono ?_
        rintro e w2 ⟨rfl, hd⟩
        obtain ⟨m, rfl⟩ := hd.out
        clear hd
        go_wp2_with fail
        refine (HNUM.out _ (Kd.C_drewN HM.out m)).mono ?_
        rintro e w2 ⟨rfl, hd⟩
        obtain ⟨m', rfl⟩ := hd.out
        clear hd
        go_wp2_with fail
        go_ret3
        exact ⟨by rw [show ((p + 2 * z + 1 : Nat) : Int) = (p : Int) + 2 * (z : Int) + 1 by omega]; rfl, by first | exact pw_below_drewN HB.out _ | exact pw_below_drewN (pw_below_drewN HB.out _) _ | exact pw_below_drewN (pw_below_drewN (pw_below_drewN HB.out _) _) _⟩
      have hres0 : readL L p kind N = readL.deltaR L p (p + 2 * z + 1) u := by rw [HALL.out, hg, if_pos rfl, if_neg hk2]
      rw [deltaR_eq, hn] at hres0
      by_cases h64 : 64 < u
      · rw [if_pos h64] at hres0
        rw [hres0]
        clear hres0 HALL hg hn HR
        go_enter Try.func49, Try.ntmps49
        go_wp2_with fail
        refine HZ.out.mono ?_
        rintro e w2 ⟨rfl, hd⟩
        obtain ⟨m, rfl⟩ := hd.out
        clear hd
        go_wp2_with fail
        refine (HNUM.out _ (Kd.C_drewN HM.out m)).mono ?_
        rintro e w2 ⟨rfl, hd⟩
        obtain ⟨m', rfl⟩ := hd.out
        clear hd
        go_wp2_with fail
        go_ret3
        exact ⟨by rfl, by first | exact pw_below_drewN HB.out _ | exact pw_below_drewN (pw_below_drewN HB.out _) _ | exact pw_below_drewN (pw_below_drewN (pw_below_drewN HB.out _) _) _⟩
      rw [if_neg h64] at hres0
      obtain ⟨k, rfl⟩ : ∃ k, u = k + 1 := ⟨u - 1, by omega⟩
      rw [Nat.add_sub_cancel] at hres0
      have hk : k ≤ 63 := by omega
      by_cases hsh : n - (p + 2 * z + 1) < k
      · rw [if_pos hsh] at hres0
        rw [hres0]
        have hlt2 : (n : Int) - ((p : Int) + 2 * (z : Int) + 1) < (k : Int) := by omega
        clear hres0 HALL hg hn HR
        go_enter Try.func49, Try.ntmps49
        go_wp2_with fail
        refine HZ.out.mono ?_
        rintro e w2 ⟨rfl, hd⟩
        obtain ⟨m, rfl⟩ := hd.out
        clear hd
        go_wp2_with fail
        refine (HNUM.out _ (Kd.C_drewN HM.out m)).mono ?_
        rintro e w2 ⟨rfl, hd⟩
        obtain ⟨m', rfl⟩ := hd.out
        clear hd
        go_wp2_with fail
        go_ret3
        exact ⟨by rfl, by first | exact pw_below_drewN HB.out _ | exact pw_below_drewN (pw_below_drewN HB.out _) _ | exact pw_below_drewN (pw_below_drewN (pw_below_drewN HB.out _) _) _⟩
      · rw [if_neg hsh] at hres0
        rw [hres0]
        have hlt2 : ¬ (n : Int) - ((p : Int) + 2 * (z : Int) + 1) < (k : Int) := by omega
        obtain ⟨A2, c2, hkc2, hrun3, hread2⟩ := mid_bits A c n L (p + 2 * z + 1) k hn (by omega) hc
        have hlen2 : ((L.drop (p + 2 * z + 1)).take k).length = k := by rw [List.length_take, List.length_drop]; omega
        have HM2 := Aside0.mk (hread2 _ HR.out)
        obtain ⟨M2, hM2⟩ : ∃ M2, M2 = (L.drop (p + 2 * z + 1)).take k := ⟨_, rfl⟩
        rw [← hM2] at HM2 hlen2 ⊢
        have hrun4 := fun W => hrun3 ((p : Int) + 2 * (z : Int) + 1) ((p : Int) + 2 * (z : Int) + 1 + (k : Int)) W (by omega) (by omega)
        have HNUM2 := Aside0.mk (fun W hW => number_any A2 k c2 M2 W hlen2 hW hkc2 (by omega))
        have hy64 := numL_lt64 M2 (by omega)
        obtain ⟨y, hy⟩ : ∃ y, y = numL M2 := ⟨_, rfl⟩
        rw [← hy] at HNUM2 hy64 ⊢
        have HO := Aside0.mk (or_pow k y hk hy64)
        clear hrun3 hy hM2 hread2 hlen2 hres0 HALL hg hn HR
        go_enter Try.func49, Try.ntmps49
        go_wp2_with fail
        refine HZ.out.mono ?_
        rintro e w2 ⟨rfl, hd⟩
        obtain ⟨m, rfl⟩ := hd.out
        clear hd
        go_wp2_with fail
        refine (HNUM.out _ (Kd.C_drewN HM.out m)).mono ?_
        rintro e w2 ⟨rfl, hd⟩
        obtain ⟨m', rfl⟩ := hd.out
        clear hd
        go_wp2_with fail
        refine (HNUM2.out _ (by first | exact Kd.C_drewN HM2.out _ | exact Kd.C_drewN (Kd.C_drewN HM2.out _) _)).mono ?_
        rintro e w2 ⟨rfl, hd⟩
        obtain ⟨m2, rfl⟩ := hd.out
        clear hd
        go_wp2_with fail
        go_ret3
        exact ⟨by rw [show ((p + 2 * z + 1 + k : Nat) : Int) = (p : Int) + 2 * (z : Int) + 1 + (k : Int) by omega, ← HO.out]; rfl, by first | exact pw_below_drewN HB.out _ | exact pw_below_drewN (pw_below_drewN HB.out _) _ | exact pw_below_drewN (pw_below_drewN (pw_below_drewN HB.out _) _) _⟩
  · rw [if_neg h0] at hg
    have hres : readL L p kind N = (0, p, ze) := by rw [HALL.out, hg, if_neg h0]
    rw [hres]
    clear hres HALL hg hn HR
    go_enter Try.func49, Try.ntmps49
    go_wp2_with fail
    refine HZ.out.mono ?_
    rintro e w2 ⟨rfl, hd⟩
    obtain ⟨m, rfl⟩ := hd.out
    clear hd
    go_wp2_with fail
    go_ret3
    exact ⟨rfl, pw_below_drewN HB.out _⟩

/-- Read, whatever the kind. -/
theorem readRef_any (A : Option Addr) (n c : Nat) (L : List Bool) (x : Int) (p : Nat) (kind N : Int) (v : Int) (w : World) (hn : L.length = n) (hc : n ≤ c) (hr : Kd.C Kd.bool w A n L) (hL : n < 1099511627776) (hx : x = p) (hp : p ≤ n) :
    Calls Try.prog 49 #[.slice A n c, .int .i64 x, .agg #[.int .i64 kind, .int .u64 v, .int .i64 N]] w fun e w' => RefOut w (readL L p kind N) e w' := by
  by_cases h0 : kind = 0
  · subst h0; exact refBits_any A n c L x p N v w hn hc hr hL hx hp
  by_cases h1 : kind = 1
  · subst h1; exact refUnary_any A n c L x p N v w hn hc hr hL hx hp
  exact refGam_any A n c L x p kind N v w hn hc hr hL hx hp h0 h1
end Go.Proofs.Ytbfnckjnpbgmaaa
