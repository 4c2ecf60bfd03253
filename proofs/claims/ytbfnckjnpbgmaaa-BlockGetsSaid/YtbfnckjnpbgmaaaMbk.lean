/- The encoding of a block: plain laws and contracts (merged of eight texts). -/
import Derived.Test.YtbfnckjnpbgmaaaPkr
import Derived.BigQuiet
import Derived.Deep.QuietTactic
import Derived.Test.YtbfnckjnpbgmaaaPuv
import Derived.Test.YtbfnckjnpbgmaaaPts
import Derived.Test.YtbfnckjnpbgmaaaCal
import Derived.Test.YtbfnckjnpbgmaaaRefA
import Derived.Test.YtbfnckjnpbgmaaaRefD
import Derived.Test.YtbfnckjnpbgmaaaAwa
namespace Go.Proofs.Ytbfnckjnpbgmaaa
open Go.RowKit Go.Proofs.YtbfnckjnpbgmaaaW.PrintWords Go.Proofs.YtbfnckjnpbgmaaaW.PrintLast Go.Proofs.YtbfnckjnpbgmaaaW.PrintMore
set_option linter.unusedVariables false

set_option linter.unusedSimpArgs false

def ints (vs : List Nat) : List Int := List.map (fun (v : Nat) => (v : Int)) vs
theorem ints_length (vs : List Nat) : (ints vs).length = vs.length := by simp [ints]
theorem ints_getD (vs : List Nat) (i : Nat) : (ints vs).getD i 0 = ((vs.getD i 0 : Nat) : Int) := by
  rw [List.getD_eq_getElem?_getD, List.getD_eq_getElem?_getD, ints, List.getElem?_map]
  cases vs[i]? <;> simp

/-- The lowest w bits of each number. -/
def lowsL (w : Nat) : List Nat → List Bool
  | [] => []
  | v :: l => lowL v w ++ lowsL w l
/-- The exceptions' bytes; g: the difference of the next index and that of the last exception. -/
def excL (w : Nat) : Nat → List Nat → List Int
  | _, [] => []
  | g, v :: l => if v / 2 ^ w = 0 then excL w (g + 1) l else uvL g ++ uvL (v / 2 ^ w) ++ excL w 1 l
def gapL (w : Nat) : Nat → List Nat → Nat
  | g, [] => g
  | g, v :: l => if v / 2 ^ w = 0 then gapL w (g + 1) l else gapL w 1 l
def cntL (w : Nat) : List Nat → Nat
  | [] => 0
  | v :: l => (if v / 2 ^ w = 0 then 0 else 1) + cntL w l
def encL (vs : List Nat) (w : Nat) : List Int := uvL vs.length ++ uvL w ++ uvL (cntL w vs) ++ packL (lowsL w vs) ++ excL w 1 vs

theorem lowsL_snoc (w : Nat) (l : List Nat) (v : Nat) : lowsL w (l ++ [v]) = lowsL w l ++ lowL v w := by
  induction l with
  | nil => simp [lowsL]
  | cons a l ih => simp [lowsL, ih]
theorem excL_snoc (w : Nat) (l : List Nat) (v : Nat) : ∀ g, excL w g (l ++ [v]) = excL w g l ++ (if v / 2 ^ w = 0 then [] else uvL (gapL w g l) ++ uvL (v / 2 ^ w)) := by
  induction l with
  | nil => intro g; simp only [List.nil_append, excL, gapL]; split <;> simp
  | cons a l ih =>
    intro g
    simp only [List.cons_append, excL, gapL]
    split
    · rw [ih]
    · rw [ih, List.append_assoc, List.append_assoc, List.append_assoc]
theorem gapL_snoc (w : Nat) (l : List Nat) (v : Nat) : ∀ g, gapL w g (l ++ [v]) = if v / 2 ^ w = 0 then gapL w g l + 1 else 1 := by
  induction l with
  | nil => intro g; simp only [List.nil_append, gapL]
  | cons a l ih =>
    intro g
    simp only [List.cons_append, gapL]
    split <;> rw [ih]
theorem cntL_snoc (w : Nat) (l : List Nat) (v : Nat) : cntL w (l ++ [v]) = cntL w l + (if v / 2 ^ w = 0 then 0 else 1) := by
  induction l with
  | nil => simp [cntL]
  | cons a l ih => simp only [List.cons_append, cntL, ih]; omega
theorem lowsL_length (w : Nat) (l : List Nat) : (lowsL w l).length = l.length * w := by
  induction l with
  | nil => simp [lowsL]
  | cons a l ih => simp only [lowsL, List.length_append, lowL_length, ih, List.length_cons, Nat.succ_mul]; omega
theorem gapL_le (w : Nat) (l : List Nat) : ∀ g, 1 ≤ g → 1 ≤ gapL w g l ∧ gapL w g l ≤ g + l.length := by
  induction l with
  | nil => intro g hg; simp [gapL, hg]
  | cons a l ih =>
    intro g hg
    simp only [gapL, List.length_cons]
    split
    · have := ih (g + 1) (by omega); omega
    · have := ih 1 (by omega); omega
theorem cntL_le (w : Nat) (l : List Nat) : cntL w l ≤ l.length := by
  induction l with
  | nil => simp [cntL]
  | cons a l ih => simp only [cntL, List.length_cons]; split <;> omega
theorem excL_len (w : Nat) (l : List Nat) (hl : ∀ v ∈ l, v < 18446744073709551616) : ∀ g, g + l.length < 18446744073709551616 → (excL w g l).length ≤ 20 * l.length := by
  induction l with
  | nil => intro g _; simp [excL]
  | cons a l ih =>
    intro g hg
    have ha := hl a (by simp)
    have ih' := ih (fun v hv => hl v (by simp [hv]))
    simp only [excL, List.length_cons] at *
    split
    · have := ih' (g + 1) (by omega); omega
    · have h1 := uvL_len g (by omega)
      have h2 := uvL_len (a / 2 ^ w) (Nat.lt_of_le_of_lt (Nat.div_le_self _ _) ha)
      have := ih' 1 (by omega)
      simp only [List.length_append]
      omega
theorem excL_bytes (w : Nat) (l : List Nat) : ∀ g, IsBytes (excL w g l) := by
  induction l with
  | nil => intro g x hx; simp [excL] at hx
  | cons a l ih =>
    intro g
    simp only [excL]
    split
    · exact ih _
    · exact ((uvL_bytes _).append (uvL_bytes _)).append (ih _)
theorem encL_bytes (vs : List Nat) (w : Nat) : IsBytes (encL vs w) :=
  ((((uvL_bytes _).append (uvL_bytes _)).append (uvL_bytes _)).append (packL_bytes _)).append (excL_bytes _ _ _)
/-- A block's numbers. -/
def BlockOk (vs : List Nat) : Prop := vs.length ≤ 128 ∧ ∀ v ∈ vs, v < 2147483648
theorem encL_len (vs : List Nat) (w : Nat) (h : BlockOk vs) (hw : w ≤ 31) : (encL vs w).length ≤ 4000 := by
  have h1 := uvL_len vs.length (by have := h.1; omega)
  have h2 := uvL_len w (by omega)
  have h3 := uvL_len (cntL w vs) (by have := cntL_le w vs; have := h.1; omega)
  have h4 := packL_length (lowsL w vs)
  rw [lowsL_length] at h4
  have h5 := excL_len w vs (fun v hv => by have := h.2 v hv; omega) 1 (by have := h.1; omega)
  have h6 : vs.length * w ≤ 128 * 31 := Nat.mul_le_mul h.1 hw
  have := h.1
  simp only [encL, List.length_append]
  omega

/-! ### the reference's Bytes -/
theorem take_snoc {α : Type} (l : List α) (i : Nat) (z : α) (h : i < l.length) : l.take (i + 1) = l.take i ++ [l.getD i z] := by
  rw [List.take_succ_eq_append_getElem h, List.getD_eq_getElem?_getD, List.getElem?_eq_getElem h]; rfl
theorem shr_i64_nat (v w : Nat) (hw : w ≤ 64) : shr .i64 (v : Int) (w : Int) = ((v / 2 ^ w : Nat) : Int) := by
  unfold shr
  have e : min ((w : Int)).toNat IntKind.i64.bits = w := by
    have : IntKind.i64.bits = 64 := rfl
    omega
  rw [e]
  simp
theorem uvRef_k (k v : Nat) (hv : v < 18446744073709551616) (hk : 10 ≤ k) (hk2 : k < 140737488355328) : Refs.corporaref02_Uvarint.f k v = some (uvL v) := by
  unfold Refs.corporaref02_Uvarint.f
  rw [uvRef_l k v [] hv (by have := uvL_len v hv; omega) (by simpa using hk2), List.nil_append]
theorem packRef_k (k : Nat) (l : List Bool) (hlen : l.length < 1099511627776) (hk : l.length < k) : Refs.corporaref02_Pack.f k l = some (packL l) := by
  unfold Refs.corporaref02_Pack.f
  have e8 : wrap64 (Int.tdiv (wrap64 ((l.length : Int) + 7)) 8) = (((l.length + 7) / 8 : Nat) : Int) := by
    have : wrap64 ((l.length : Int) + 7) = ((l.length + 7 : Nat) : Int) := by unfold wrap64; omega
    rw [this, Int.tdiv_eq_ediv_of_nonneg (by omega)]; unfold wrap64; omega
  rw [e8, if_pos (by omega), Int.toNat_natCast, if_pos (by omega), ← padL_zero l]
  exact packRef_l l hlen l.length _ 0 (by omega) (by omega) (by omega)
theorem rd_ints (vs : List Nat) (i : Nat) : rd (ints vs) (i : Int) = ((vs.getD i 0 : Nat) : Int) := by rw [rd_nat, ints_getD]
theorem getD_lt {vs : List Nat} (h : BlockOk vs) (i : Nat) : vs.getD i 0 < 2147483648 := by
  rw [List.getD_eq_getElem?_getD]
  rcases Nat.lt_or_ge i vs.length with hi | hi
  · rw [List.getElem?_eq_getElem hi]; exact h.2 _ (List.getElem_mem hi)
  · rw [List.getElem?_eq_none hi]; simp

theorem bytesRef_l (vs : List Nat) (w : Nat) (h : BlockOk vs) (hw : w ≤ 31) (d : Nat) : ∀ (k i : Nat), vs.length - i = d → d + 5000 < k → k < 1000000 → i ≤ vs.length →
    Refs.corporaref15_Bytes.l0 k (ints vs) w (lowsL w (vs.take i)) (excL w 1 (vs.take i)) (cntL w (vs.take i)) ((i : Int) - gapL w 1 (vs.take i)) (ints vs) (vs.length : Int) i = some (encL vs w) := by
  have hn := h.1
  have hlows : ∀ i, (lowsL w (vs.take i)).length ≤ 3968 := by
    intro i
    rw [lowsL_length, List.length_take]
    have : min i vs.length * w ≤ 128 * 31 := Nat.mul_le_mul (by omega) hw
    omega
  have hexc : ∀ i, (excL w 1 (vs.take i)).length ≤ 2560 := by
    intro i
    have := excL_len w (vs.take i) (fun v hv => by have := h.2 v (List.mem_of_mem_take hv); omega) 1 (by rw [List.length_take]; omega)
    rw [List.length_take] at this
    omega
  induction d with
  | zero =>
    intro k i hd hk hk2 hi
    obtain ⟨k, rfl⟩ : ∃ m, k = m + 1 := ⟨k - 1, by omega⟩
    have : i = vs.length := by omega
    subst this
    have hc := cntL_le w vs
    have g1 := hlows vs.length
    have g2 := hexc vs.length
    rw [List.take_length] at g1 g2 ⊢
    have l1 := uvL_len vs.length (by omega)
    have l2 := uvL_len w (by omega)
    have l3 := uvL_len (cntL w vs) (by omega)
    have l4 := packL_length (lowsL w vs)
    rw [Refs.corporaref15_Bytes.l0, ints_length]
    rw [if_neg (by omega), wrap_u64_nat vs.length (by omega), wrap_u64_nat w (by omega), wrap_u64_nat (cntL w vs) (by omega),
      uvRef_k k _ (by omega) (by omega) (by omega), Option.bind_some, uvRef_k k w (by omega) (by omega) (by omega), Option.bind_some,
      if_pos (by omega), Option.bind_some, uvRef_k k (cntL w vs) (by omega) (by omega) (by omega), Option.bind_some,
      if_pos (by rw [List.length_append]; omega), Option.bind_some, packRef_k k _ (by omega) (by omega), Option.bind_some,
      if_pos (by rw [List.length_append, List.length_append]; omega), Option.bind_some,
      if_pos (by rw [List.length_append, List.length_append, List.length_append]; omega), encL]
  | succ d ih =>
    intro k i hd hk hk2 hi
    obtain ⟨k, rfl⟩ : ∃ m, k = m + 1 := ⟨k - 1, by omega⟩
    have hlt : i < vs.length := by omega
    obtain ⟨v, hv⟩ : ∃ v, v = vs.getD i 0 := ⟨_, rfl⟩
    have hvlt : v < 2147483648 := hv ▸ getD_lt h i
    have hts := take_snoc vs i 0 hlt
    rw [← hv] at hts
    have e1 : wrap64 ((i : Int) + 1) = ((i + 1 : Nat) : Int) := by unfold wrap64; omega
    have hg := gapL_le w (vs.take i) 1 (Nat.le_refl _)
    rw [List.length_take] at hg
    have eg : IntKind.u64.wrap (wrap64 ((i : Int) - ((i : Int) - (gapL w 1 (vs.take i) : Int)))) = ((gapL w 1 (vs.take i) : Nat) : Int) := by
      have : wrap64 ((i : Int) - ((i : Int) - (gapL w 1 (vs.take i) : Int))) = ((gapL w 1 (vs.take i) : Nat) : Int) := by unfold wrap64; omega
      rw [this, wrap_u64_nat _ (by omega)]
    have hq : v / 2 ^ w < 2147483648 := Nat.lt_of_le_of_lt (Nat.div_le_self _ _) hvlt
    have hnext := ih k (i + 1) (by omega) (by omega) (by omega) (by omega)
    have g1 := hlows i
    have g2 := hexc i
    have hll : (lowL v w).length = w := lowL_length v w
    rw [hts, lowsL_snoc, excL_snoc, cntL_snoc, gapL_snoc] at hnext
    rw [Refs.corporaref15_Bytes.l0, ints_length]
    rw [if_pos (by omega), if_pos (by omega), if_pos (by omega), rd_ints, ← hv, wrap_u64_nat v (by omega), lowRef_f v (by omega) w k (by omega) (by omega), Option.bind_some,
      if_pos (by omega), Option.bind_some, wrap_u64_nat w (by omega), if_pos (by omega), shr_i64_nat v w (by omega), e1]
    generalize v / 2 ^ w = q at hq hnext ⊢
    by_cases hz : q = 0
    · rw [if_pos (by rw [hz]; rfl)]
      rw [if_pos hz, if_pos hz, if_pos hz, List.append_nil, Nat.add_zero] at hnext
      have e2 : (((i + 1 : Nat) : Int) - ((gapL w 1 (vs.take i) + 1 : Nat) : Int)) = (i : Int) - (gapL w 1 (vs.take i) : Int) := by omega
      rw [e2] at hnext
      exact hnext
    · have l1 := uvL_len (gapL w 1 (vs.take i)) (by omega)
      have l2 := uvL_len q (by omega)
      have hz2 : ¬ ((q : Int) = 0) := by omega
      have hcw : wrap64 ((cntL w (vs.take i) : Int) + 1) = ((cntL w (vs.take i) + 1 : Nat) : Int) := by
        have := cntL_le w (vs.take i)
        rw [List.length_take] at this
        unfold wrap64; omega
      rw [if_neg hz, if_neg hz, if_neg hz] at hnext
      have e2 : (((i + 1 : Nat) : Int) - ((1 : Nat) : Int)) = (i : Int) := by omega
      rw [e2, ← List.append_assoc] at hnext
      rw [if_neg hz2, eg, uvRef_k k _ (by omega) (by omega) (by omega), Option.bind_some, if_pos (by omega), Option.bind_some, wrap_u64_nat q (by omega), uvRef_k k q (by omega) (by omega) (by omega), Option.bind_some,
        if_pos (by rw [List.length_append]; omega), hcw]
      exact hnext
theorem bytesRef_f (vs : List Nat) (w k : Nat) (h : BlockOk vs) (hw : w ≤ 31) (hk : 6000 < k) (hk2 : k < 1000000) : Refs.corporaref15_Bytes.f k (ints vs) w = some (encL vs w) := by
  unfold Refs.corporaref15_Bytes.f
  have := bytesRef_l vs w h hw vs.length k 0 (by omega) (by have := h.1; omega) hk2 (by omega)
  simpa [lowsL, excL, cntL, gapL, ints_length] using this

set_option linter.unusedSimpArgs false

theorem uvL_bitLen (v : Nat) (hv : v < 18446744073709551616) : (uvL v).length = (max (Lib.bitLen v) 1 + 6) / 7 := by
  induction v using Nat.strongRecOn with
  | _ v ih =>
    by_cases h : 128 ≤ v
    · have h1 := ih (v / 128) (by omega) (by omega)
      have h2 := Lib.bitLen_shift 7 v (by simpa using h) (by simpa using hv)
      have h3 := bitLen_pos (v := v / 128) (by omega) (by omega)
      rw [uvL_ge h, List.length_cons, h1]
      simp only [Nat.reducePow] at h2
      omega
    · have h1 : Lib.bitLen v ≤ 7 := (bitLen_le_iff v 7 hv).2 (by omega)
      rw [uvL_lt h]
      simp only [List.length_singleton]
      omega
theorem sizeOf_f (k v : Nat) (hv : v < 9223372036854775808) : Refs.block_sizeOf.f k (v : Int) = some ((uvL v).length : Int) := by
  have hl := bitLen_le v (by omega)
  have hu := uvL_bitLen v (by omega)
  unfold Refs.block_sizeOf.f Refs.bits_Len64.f
  rw [wrap_u64_nat v (by omega), if_pos (by omega), Option.bind_some, Int.toNat_natCast]
  congr 1
  have e1 : mx (Lib.bitLen v : Int) 1 = ((max (Lib.bitLen v) 1 : Nat) : Int) := by unfold mx; split <;> omega
  have e2 : wrap64 (mx (Lib.bitLen v : Int) 1 + 6) = ((max (Lib.bitLen v) 1 + 6 : Nat) : Int) := by rw [e1]; unfold wrap64; omega
  rw [e2, Int.tdiv_eq_ediv_of_nonneg (by omega), hu]
  unfold wrap64
  omega
theorem excL_length_snoc (w : Nat) (l : List Nat) (v : Nat) : (excL w 1 (l ++ [v])).length = (excL w 1 l).length + (if v / 2 ^ w = 0 then 0 else (uvL (gapL w 1 l)).length + (uvL (v / 2 ^ w)).length) := by
  rw [excL_snoc]
  split <;> simp
theorem ceil8 (q : Nat) (h : q ≤ 128 * 31) : wrap64 (Int.tdiv (wrap64 (wrap64 (q : Int) + 7)) 8) = (((q + 7) / 8 : Nat) : Int) := by
  have a1 : wrap64 (q : Int) = q := by unfold wrap64; omega
  have a2 : wrap64 ((q : Int) + 7) = ((q + 7 : Nat) : Int) := by unfold wrap64; omega
  rw [a1, a2, Int.tdiv_eq_ediv_of_nonneg (by omega)]
  unfold wrap64
  omega
theorem ceil_le (q : Nat) (h : q ≤ 128 * 31) : (q + 7) / 8 ≤ 500 := by omega
theorem sum5 (a b c d e : Nat) (ha : a ≤ 2560) (hb : b ≤ 10) (hc : c ≤ 10) (hd : d ≤ 10) (he : e ≤ 500) :
    wrap64 (wrap64 (wrap64 (wrap64 ((a : Int) + (b : Int)) + (c : Int)) + (d : Int)) + (e : Int)) = ((a + b + c + d + e : Nat) : Int) := by
  have b1 : wrap64 ((a : Int) + (b : Int)) = ((a + b : Nat) : Int) := by unfold wrap64; omega
  rw [b1]
  have b2 : wrap64 (((a + b : Nat) : Int) + (c : Int)) = ((a + b + c : Nat) : Int) := by unfold wrap64; omega
  rw [b2]
  have b3 : wrap64 (((a + b + c : Nat) : Int) + (d : Int)) = ((a + b + c + d : Nat) : Int) := by unfold wrap64; omega
  rw [b3]
  unfold wrap64
  omega
theorem add3 (a b c : Nat) (ha : a ≤ 2560) (hb : b ≤ 10) (hc : c ≤ 10) : wrap64 ((a : Int) + wrap64 ((b : Int) + (c : Int))) = ((a + (b + c) : Nat) : Int) := by
  have a1 : wrap64 ((b : Int) + (c : Int)) = ((b + c : Nat) : Int) := by unfold wrap64; omega
  rw [a1]
  unfold wrap64
  omega
theorem add1_w (a : Nat) (ha : a ≤ 1000) : wrap64 ((a : Int) + 1) = ((a + 1 : Nat) : Int) := by unfold wrap64; omega
theorem sub_w (i g : Nat) (hi : i ≤ 1000) (hg : g ≤ 1000) : wrap64 ((i : Int) - ((i : Int) - (g : Int))) = (g : Int) := by unfold wrap64; omega
theorem sum5_eq (a b c d e : Nat) : a + b + c + d + e = b + c + d + e + a := by omega
theorem cost_l (vs : List Nat) (w : Nat) (h : BlockOk vs) (hw : w ≤ 31) (d : Nat) : ∀ (k i : Nat), vs.length - i = d → d < k → i ≤ vs.length →
    Refs.block_cost.l0 k (ints vs) w ((excL w 1 (vs.take i)).length : Int) (cntL w (vs.take i)) ((i : Int) - gapL w 1 (vs.take i)) (ints vs) (vs.length : Int) i = some ((encL vs w).length : Int) := by
  have hn := h.1
  have hexc : ∀ i, (excL w 1 (vs.take i)).length ≤ 2560 := by
    intro i
    have := excL_len w (vs.take i) (fun v hv => by have := h.2 v (List.mem_of_mem_take hv); omega) 1 (by rw [List.length_take]; omega)
    rw [List.length_take] at this
    omega
  induction d with
  | zero =>
    intro k i hd hk hi
    obtain ⟨k, rfl⟩ : ∃ m, k = m + 1 := ⟨k - 1, by omega⟩
    have : i = vs.length := by omega
    subst this
    have hc := cntL_le w vs
    have g2 := hexc vs.length
    rw [List.take_length] at g2 ⊢
    have l1 := uvL_len vs.length (by omega)
    have l2 := uvL_len w (by omega)
    have l3 := uvL_len (cntL w vs) (by omega)
    have l4 := packL_length (lowsL w vs)
    rw [lowsL_length] at l4
    have l5 : vs.length * w ≤ 128 * 31 := Nat.mul_le_mul hn hw
    rw [Refs.block_cost.l0, if_neg (by omega), ints_length, sizeOf_f k _ (by omega), Option.bind_some, sizeOf_f k w (by omega), Option.bind_some, sizeOf_f k _ (by omega), Option.bind_some]
    have em : (vs.length : Int) * (w : Int) = ((vs.length * w : Nat) : Int) := by rw [Int.natCast_mul]
    rw [em, ceil8 _ l5, sum5 _ _ _ _ _ g2 l1 l2 l3 (ceil_le _ l5)]
    congr 1
    simp only [encL, List.length_append, l4]
    rw [sum5_eq]
  | succ d ih =>
    intro k i hd hk hi
    obtain ⟨k, rfl⟩ : ∃ m, k = m + 1 := ⟨k - 1, by omega⟩
    have hlt : i < vs.length := by omega
    obtain ⟨v, hv⟩ : ∃ v, v = vs.getD i 0 := ⟨_, rfl⟩
    have hvlt : v < 2147483648 := hv ▸ getD_lt h i
    have hts := take_snoc vs i 0 hlt
    rw [← hv] at hts
    have e1 := add1_w i (by omega)
    have hg := gapL_le w (vs.take i) 1 (Nat.le_refl _)
    rw [List.length_take] at hg
    have eg := sub_w i (gapL w 1 (vs.take i)) (by omega) (by omega)
    have hq : v / 2 ^ w < 2147483648 := Nat.lt_of_le_of_lt (Nat.div_le_self _ _) hvlt
    have hnext := ih k (i + 1) (by omega) (by omega) (by omega)
    have g2 := hexc i
    rw [hts, excL_length_snoc, cntL_snoc, gapL_snoc] at hnext
    rw [Refs.block_cost.l0, ints_length, if_pos (by omega), if_pos (by omega), if_pos (by omega), rd_ints, ← hv, if_pos (by omega), shr_i64_nat v w (by omega), e1]
    generalize v / 2 ^ w = q at hq hnext ⊢
    by_cases hz : q = 0
    · rw [if_neg (by omega)]
      rw [if_pos hz, if_pos hz, if_pos hz, Nat.add_zero, Nat.add_zero] at hnext
      have e2 : (((i + 1 : Nat) : Int) - ((gapL w 1 (vs.take i) + 1 : Nat) : Int)) = (i : Int) - (gapL w 1 (vs.take i) : Int) := by omega
      rw [e2] at hnext
      exact hnext
    · have l1 := uvL_len (gapL w 1 (vs.take i)) (by omega)
      have l2 := uvL_len q (by omega)
      have hcl := cntL_le w (vs.take i)
      rw [List.length_take] at hcl
      have hcw := add1_w (cntL w (vs.take i)) (by omega)
      rw [if_neg hz, if_neg hz, if_neg hz] at hnext
      have e2 : (((i + 1 : Nat) : Int) - ((1 : Nat) : Int)) = (i : Int) := by omega
      rw [e2] at hnext
      have e3 := add3 _ _ _ g2 l1 l2
      rw [if_pos (by omega), eg, sizeOf_f k _ (by omega), Option.bind_some, sizeOf_f k q (by omega), Option.bind_some, hcw, e3]
      exact hnext
theorem cost_f (vs : List Nat) (w k : Nat) (h : BlockOk vs) (hw : w ≤ 31) (hk : 128 < k) : Refs.block_cost.f k (ints vs) w = some ((encL vs w).length : Int) := by
  unfold Refs.block_cost.f
  have := cost_l vs w h hw vs.length k 0 (by omega) (by have := h.1; omega) (by omega)
  simpa [excL, cntL, gapL, ints_length] using this

/-! ### the checks -/
def checkV (l : List Int) : Int := if 128 < l.length then 2 else if ∀ v ∈ l, 0 ≤ v ∧ v ≤ 2147483647 then 0 else 8
theorem checkV_ok {l : List Int} (h : checkV l = 0) : ∃ vs, l = ints vs ∧ BlockOk vs := by
  unfold checkV at h
  split at h
  · exact absurd h (by decide)
  · rename_i hlen
    split at h
    · rename_i hr
      refine ⟨l.map Int.toNat, ?_, by simpa using hlen, fun v hv => ?_⟩
      · rw [ints, List.map_map]
        conv => lhs; rw [← List.map_id l]
        apply List.map_congr_left
        intro v hv
        have := hr v hv
        simp only [Function.comp, id_eq]
        omega
      · obtain ⟨x, hx, rfl⟩ := List.mem_map.1 hv
        have := hr x hx
        omega
    · exact absurd h (by decide)
theorem checkV_ints {vs : List Nat} (h : BlockOk vs) : checkV (ints vs) = 0 := by
  unfold checkV
  rw [if_neg (by rw [ints_length]; have := h.1; omega), if_pos]
  intro v hv
  obtain ⟨x, hx, rfl⟩ := List.mem_map.1 hv
  have := h.2 x hx
  omega
theorem checkV_cases (l : List Int) : checkV l = 0 ∨ checkV l = 2 ∨ checkV l = 8 := by
  unfold checkV
  split
  · exact .inr (.inl rfl)
  · split
    · exact .inl rfl
    · exact .inr (.inr rfl)
/-- What the loop of a check comes to from place i on. -/
theorem check_l {f : Nat → List Int → Int → Int → Option Int} (hf : ∀ k x8 x9 x10, f (k + 1) x8 x9 x10 = if x10 < x9 then (if 0 ≤ x10 then (if x10 < (x8.length : Int) then (if (rd x8 x10) < 0 then (some 8) else (if (rd x8 x10) > 2147483647 then (some 8) else (f k x8 x9 (wrap64 (x10 + 1))))) else (none)) else (none)) else (some 0))
    (l : List Int) (hl : l.length ≤ 128) (d : Nat) : ∀ (k i : Nat), l.length - i = d → d < k → i ≤ l.length → f k l (l.length : Int) i = some (if ∀ v ∈ l.drop i, 0 ≤ v ∧ v ≤ 2147483647 then 0 else 8) := by
  induction d with
  | zero =>
    intro k i hd hk hi
    obtain ⟨k, rfl⟩ : ∃ m, k = m + 1 := ⟨k - 1, by omega⟩
    rw [hf, if_neg (by omega), List.drop_eq_nil_of_le (by omega), if_pos (by simp)]
  | succ d ih =>
    intro k i hd hk hi
    obtain ⟨k, rfl⟩ : ∃ m, k = m + 1 := ⟨k - 1, by omega⟩
    have e1 : wrap64 ((i : Int) + 1) = ((i + 1 : Nat) : Int) := by unfold wrap64; omega
    have hlt : i < l.length := by omega
    rw [hf, if_pos (by omega), if_pos (by omega), if_pos (by omega), rd_nat, drop_cons hlt, e1]
    generalize l.getD i 0 = x
    by_cases h0 : x < 0
    · rw [if_pos h0, if_neg (fun h => by have := h x (by simp); omega)]
    · rw [if_neg h0]
      by_cases h1 : x > 2147483647
      · rw [if_pos h1, if_neg (fun h => by have := h x (by simp); omega)]
      · rw [if_neg h1, ih k (i + 1) (by omega) (by omega) (by omega)]
        congr 1
        have : (∀ v ∈ x :: l.drop (i + 1), 0 ≤ v ∧ v ≤ 2147483647) ↔ (∀ v ∈ l.drop (i + 1), 0 ≤ v ∧ v ≤ 2147483647) := by
          constructor
          · intro h v hv; exact h v (by simp [hv])
          · intro h v hv
            rcases List.mem_cons.1 hv with rfl | hv
            · omega
            · exact h v hv
        simp only [this]
theorem check_f (l : List Int) (k : Nat) (hk : 128 < k) : Refs.block_check.f k l = some (checkV l) := by
  unfold Refs.block_check.f checkV
  by_cases h : 128 < l.length
  · rw [if_pos (by omega), if_pos h]
  · rw [if_neg (by omega), if_neg h]
    have := check_l (f := Refs.block_check.l0) (fun _ _ _ _ => by rw [Refs.block_check.l0]) l (by omega) l.length k 0 (by omega) (by omega) (by omega)
    simpa using this
theorem checkRef_f (l : List Int) (k : Nat) (hk : 128 < k) : Refs.corporaref15_Check.f k l = some (checkV l) := by
  unfold Refs.corporaref15_Check.f checkV
  by_cases h : 128 < l.length
  · rw [if_pos (by omega), if_pos h]
  · rw [if_neg (by omega), if_neg h]
    have := check_l (f := Refs.corporaref15_Check.l0) (fun _ _ _ _ => by rw [Refs.corporaref15_Check.l0]) l (by omega) l.length k 0 (by omega) (by omega) (by omega)
    simpa using this

/-! ### the best width -/
/-- The better of a best width so far and a further one. -/
def better (vs : List Nat) (b w : Nat) : Nat := if (encL vs w).length < (encL vs b).length then w else b
/-- The best width among 0 .. w. -/
def bestTo (vs : List Nat) : Nat → Nat
  | 0 => 0
  | w + 1 => better vs (bestTo vs w) (w + 1)
def bestL (vs : List Nat) : Nat := bestTo vs 31
theorem bestTo_le (vs : List Nat) (w : Nat) : bestTo vs w ≤ w := by
  induction w with
  | zero => simp [bestTo]
  | succ w ih => simp only [bestTo, better]; split <;> omega
theorem bestTo_least (vs : List Nat) (w : Nat) : ∀ j, j ≤ w → (encL vs (bestTo vs w)).length ≤ (encL vs j).length ∧ ((encL vs j).length = (encL vs (bestTo vs w)).length → bestTo vs w ≤ j) := by
  induction w with
  | zero => intro j hj; have : j = 0 := by omega
            subst this; simp [bestTo]
  | succ w ih =>
    intro j hj
    have hle := bestTo_le vs w
    simp only [bestTo, better]
    rcases Nat.lt_or_ge j (w + 1) with h | h
    · obtain ⟨h1, h2⟩ := ih j (by omega)
      split
      · exact ⟨by omega, fun h3 => by omega⟩
      · exact ⟨h1, h2⟩
    · have : j = w + 1 := by omega
      subst this
      split
      · exact ⟨Nat.le_refl _, fun _ => Nat.le_refl _⟩
      · exact ⟨by omega, fun h3 => by omega⟩
theorem bestL_le (vs : List Nat) : bestL vs ≤ 31 := bestTo_le vs 31
theorem widthRef_l (vs : List Nat) (h : BlockOk vs) (d : Nat) : ∀ (k w : Nat), 31 - w = d → d + 7000 < k → k < 1000000 → w ≤ 31 →
    Refs.corporaref15_Width.l0 k (ints vs) (bestTo vs w) ((w + 1 : Nat) : Int) = some (bestL vs : Int) := by
  induction d with
  | zero =>
    intro k w hd hk hk2 hw
    obtain ⟨k, rfl⟩ : ∃ m, k = m + 1 := ⟨k - 1, by omega⟩
    have : w = 31 := by omega
    subst this
    rw [Refs.corporaref15_Width.l0, if_neg (by omega)]
    rfl
  | succ d ih =>
    intro k w hd hk hk2 hw
    obtain ⟨k, rfl⟩ : ∃ m, k = m + 1 := ⟨k - 1, by omega⟩
    have hle := bestTo_le vs w
    have e1 : wrap64 (((w + 1 : Nat) : Int) + 1) = ((w + 1 + 1 : Nat) : Int) := by unfold wrap64; omega
    have hnext := ih k (w + 1) (by omega) (by omega) (by omega) (by omega)
    rw [Refs.corporaref15_Width.l0, if_pos (by omega), bytesRef_f vs (w + 1) k h (by omega) (by omega) (by omega), Option.bind_some, bytesRef_f vs (bestTo vs w) k h (by omega) (by omega) (by omega), Option.bind_some, e1]
    simp only [bestTo, better] at hnext
    by_cases hb : (encL vs (w + 1)).length < (encL vs (bestTo vs w)).length
    · rw [if_pos (by omega)]
      rw [if_pos hb] at hnext
      exact hnext
    · rw [if_neg (by omega)]
      rw [if_neg hb] at hnext
      exact hnext
theorem widthRef_f (l : List Int) (k : Nat) (hk : 8000 < k) (hk2 : k < 1000000) : Refs.corporaref15_Width.f k l = some (if checkV l = 0 then (bestL (l.map Int.toNat) : Int) else 0) := by
  unfold Refs.corporaref15_Width.f
  rw [checkRef_f l k (by omega), Option.bind_some]
  by_cases h : checkV l = 0
  · rw [if_pos h, if_pos h]
    obtain ⟨vs, rfl, hv⟩ := checkV_ok h
    have e : (ints vs).map Int.toNat = vs := by
      rw [ints, List.map_map]
      conv => rhs; rw [← List.map_id vs]
      apply List.map_congr_left
      intro v _
      simp
    rw [e]
    exact widthRef_l vs hv 31 k 0 (by omega) (by omega) hk2 (by omega)
  · rw [if_neg h, if_neg h]
theorem ints_toNat (vs : List Nat) : (ints vs).map Int.toNat = vs := by
  rw [ints, List.map_map]
  conv => rhs; rw [← List.map_id vs]
  apply List.map_congr_left
  intro v _
  simp
theorem packRef15_f (vs : List Nat) (h : BlockOk vs) (k : Nat) (hk : 8000 < k) (hk2 : k < 1000000) : Refs.corporaref15_Pack.f k (ints vs) = some (encL vs (bestL vs)) := by
  unfold Refs.corporaref15_Pack.f
  rw [widthRef_f _ k hk hk2, if_pos (checkV_ints h), ints_toNat, Option.bind_some, bytesRef_f vs (bestL vs) k h (bestL_le vs) (by omega) hk2, Option.bind_some]


/-- Numbers of a block that are read. -/
def InVals (w : World) (A : Option Addr) (n c : Nat) (vs : List Nat) : Prop := vs.length = n ∧ n ≤ c ∧ Kd.C (Kd.int .i64) w A (ints vs).length (ints vs)
theorem InVals.below {w w1 : World} {A : Option Addr} {n c : Nat} {vs : List Nat} (h : InVals w A n c vs) (hb : Below w.heap.size w w1) : InVals w1 A n c vs := ⟨h.1, h.2.1, Kd.C_below h.2.2 hb⟩
theorem InVals.drewN {w : World} {A : Option Addr} {n c : Nat} {vs : List Nat} (h : InVals w A n c vs) (m : Nat) : InVals (w.drewN m) A n c vs := ⟨h.1, h.2.1, Kd.C_drewN h.2.2 m⟩
theorem cost_call (A : Option Addr) (n c : Nat) (vs : List Nat) (x : Int) (k : Nat) (w : World) (h : InVals w A n c vs) (hb : BlockOk vs) (hx : x = k) (hk : k ≤ 31) :
    Calls Try.prog 66 #[.slice A n c, .int .i64 x] w fun e w' => e = .returned (.int .i64 ((encL vs k).length : Int)) ∧ Below w.heap.size w w' := by
  subst hx
  obtain ⟨rfl, hc, hr⟩ := h
  rw [← ints_length]
  exact Refs.block_cost.calls 200 A c (ints vs) k _ w hr (by rw [ints_length]; exact hc) (cost_f vs k 200 hb hk (by omega))

def BRel (w : World) (vs : List Nat) (width wv i : Value) (w' : World) : Prop :=
  ∃ (k : Nat) (arr : Array Value), k ≤ 32 ∧ i = .int .i64 (k : Int) ∧ width = .int .i64 ((bestTo vs (k - 1) : Nat) : Int) ∧ w'.heap[w.heap.size]? = some (.cells arr 108 (0, 0)) ∧ arr.size = 32 ∧
    (∀ j, j < k → arr[j]? = some (.int .i64 ((encL vs j).length : Int))) ∧ Below w.heap.size w w'

set_option maxHeartbeats 2000000 in
set_option maxRecDepth 100000 in
theorem best_any (A : Option Addr) (n c : Nat) (vs : List Nat) (w : World) (h : InVals w A n c vs) (hok : BlockOk vs) :
    Calls Try.prog 59 #[.slice A n c] w fun e w' => e = .returned (.int .i64 (bestL vs : Int)) ∧ Below w.heap.size w w' := by
  have H := Aside0.mk h
  have HOK := Aside0.mk hok
  clear h hok
  go_enter Try.func59, Try.ntmps59
  go_wp2_with fail
  go_loopw [4, 5, 6] (fun wi wv i w' => BRel w vs wi wv i w') (fun _ _ i _ => 32 - (intOf i).toNat)
  case atStart => exact ⟨0, _, by omega, rfl, rfl, blk_new _ _, rfl, fun j hj => absurd hj (by omega), below_alloc (Below.refl _ _) _⟩
  case round =>
    obtain ⟨k, arr, hk, rfl, rfl, hblk, hsz, hcells, hb⟩ := hrel
    have HBLK := Aside0.mk hblk
    have HS := Aside0.mk hsz
    have HC := Aside0.mk hcells
    have HB := Aside0.mk hb
    have HI := Aside0.mk (H.out.below hb)
    clear hblk hsz hcells hb
    by_cases hlt : k < 32
    · have HLE := Aside0.mk (bestTo_le vs (k - 1))
      obtain ⟨b, hbb⟩ : ∃ b, b = bestTo vs (k - 1) := ⟨_, rfl⟩
      rw [← hbb] at HLE ⊢
      obtain ⟨ck, hck⟩ : ∃ ck, ck = (encL vs k).length := ⟨_, rfl⟩
      obtain ⟨cb, hcb⟩ : ∃ cb, cb = (encL vs b).length := ⟨_, rfl⟩
      have hbk : b ≤ k := by have := HLE.out; omega
      have HBEST0 : Aside0 ((if ck < cb then k else b) = bestTo vs (k + 1 - 1)) := ⟨by
        cases k with
        | zero => have : b = 0 := by omega
                  subst this; simp [bestTo]
        | succ k => rw [hck, hcb, hbb]; simp [bestTo, better]⟩
      have HCK := Aside0.mk hck
      have HCB := Aside0.mk hcb
      clear hbb hck hcb
      go_wp2_with fail
      refine (cost_call A n c vs _ k _ HI.out HOK.out rfl (by omega)).mono ?_
      rintro e w1 ⟨rfl, hb1⟩
      rw [← HCK.out]
      have hK1 := blk_below HBLK.out hb1
      have HK1 := Aside0.mk hK1
      have hold : ∃ v, w1.cell? ⟨w.heap.size, k, none⟩ = some v := ⟨_, (blk_cell hK1 k).trans (Array.getElem?_eq_getElem (by rw [HS.out]; omega))⟩
      obtain ⟨vold, hold⟩ := hold
      have hfr := blk_frozen hK1 k
      have HB1 := Aside0.mk (below_step HB.out hb1)
      clear hb1 hK1
      have HK2 := Aside0.mk (blk_set HK1.out k (.int .i64 ck))
      have HS2 : Aside0 ((arr.setIfInBounds k (.int .i64 ck)).size = 32) := ⟨by rw [Array.size_setIfInBounds]; exact HS.out⟩
      have HC2 : Aside0 (∀ j, j < k + 1 → (arr.setIfInBounds k (.int .i64 ck))[j]? = some (.int .i64 ((encL vs j).length : Int))) := ⟨fun j hj => by
        rw [Array.getElem?_setIfInBounds]
        by_cases hjk : k = j
        · subst hjk
          rw [if_pos rfl, if_pos (by rw [HS.out]; omega), HCK.out]
        · rw [if_neg hjk]
          exact HC.out j (by omega)⟩
      have HB2 := Aside0.mk (HB1.out.setCell (p := ⟨w.heap.size, k, none⟩) (Nat.le_refl _) (.int .i64 ck))
      have hr1 := (blk_cell HK2.out k).trans ((HC2.out k (by omega)).trans (by rw [← HCK.out]))
      have hr2 := (blk_cell HK2.out b).trans ((HC2.out b (by omega)).trans (by rw [← HCB.out]))
      have hi1 : (0 : Int) ≤ (k : Int) := by omega
      have hi2 : (k : Int) < 32 := by omega
      have hi3 : (0 : Int) ≤ (b : Int) := by omega
      have hi4 : (b : Int) < 32 := by omega
      by_cases hcmp : ck < cb
      · have d1 : decide (ck < cb) = true := by simpa using hcmp
        have d2 : decide ((ck : Int) < (cb : Int)) = true := by simpa using hcmp
        have HBEST : Aside0 (Value.int .i64 (k : Int) = .int .i64 ((bestTo vs (k + 1 - 1) : Nat) : Int)) := ⟨by rw [← HBEST0.out, if_pos hcmp]⟩
        clear hcmp
        go_wp2_with fail
        generalize w1.setCell ⟨w.heap.size, k, none⟩ (.int .i64 ck) = W2 at HK2 HB2 hr1 hr2 ⊢
        clear hold hfr HK1 HB1
        go_quiet (fail)
        go_wp2_with fail
        go_roundw
        case rel => exact ⟨k + 1, _, by omega, by go_num, HBEST.out, HK2.out, HS2.out, HC2.out, pw_below_drewN HB2.out _⟩
        case measure => simp [intOf]; omega
      · have d1 : decide (ck < cb) = false := by simpa using hcmp
        have d2 : decide ((ck : Int) < (cb : Int)) = false := by simpa using hcmp
        have HBEST : Aside0 (Value.int .i64 (b : Int) = .int .i64 ((bestTo vs (k + 1 - 1) : Nat) : Int)) := ⟨by rw [← HBEST0.out, if_neg hcmp]⟩
        clear hcmp
        go_wp2_with fail
        generalize w1.setCell ⟨w.heap.size, k, none⟩ (.int .i64 ck) = W2 at HK2 HB2 hr1 hr2 ⊢
        clear hold hfr HK1 HB1
        go_quiet (fail)
        go_wp2_with fail
        go_roundw
        case rel => exact ⟨k + 1, _, by omega, by go_num, HBEST.out, HK2.out, HS2.out, HC2.out, pw_below_drewN HB2.out _⟩
        case measure => simp [intOf]; omega
    · have hk32 : k = 32 := by omega
      subst hk32
      go_wp2_with fail
      go_ret
      exact ⟨rfl, HB.out⟩


theorem testBit_mod (v w i : Nat) (h : i < w) : (v % 2 ^ w).testBit i = v.testBit i := by
  rw [Nat.testBit_mod_two_pow]; simp [h]
theorem lowL_mod (v w : Nat) : ∀ n, n ≤ w → lowL (v % 2 ^ w) n = lowL v n := by
  intro n
  induction n with
  | zero => intro _; rfl
  | succ n ih => intro h; rw [lowL, lowL, ih (by omega), testBit_mod v w n (by omega)]
theorem mask_eq (v w : Nat) (hw : w ≤ 31) (hv : v < 2147483648) : bits .and .u64 (v : Int) ((2 : Int) ^ w - 1) = ((v % 2 ^ w : Nat) : Int) := by
  have h := bits_mask .u64 63 (by decide) (fun m h h2 => by rw [IntKind.wrap_u64]; omega) w (by omega) (v : Int) (by omega) (by omega)
  rw [h]
  simp

/-- The rows are two. -/
def Apart (r1 r2 : Option Nat) : Prop := ∀ q, r1 = some q → r2 ≠ some q
theorem Apart.none (r : Option Nat) : Apart .none r := fun q hq => by cases hq
theorem Apart.or {r1 r2 : Option Nat} (h : Apart r1 r2) : r2 = .none ∨ r2 ≠ r1 := by
  cases r2 with
  | none => exact .inl rfl
  | some k => exact .inr (fun e => h k e.symm rfl)
theorem Apart.wrote {w w1 : World} {g : Nat} {r0 r1 r2 : Option Nat} (h : Apart r0 r2) (hw : Wrote w w1 g r0 r1) (hlt : ∀ k, r2 = some k → k < w.heap.size) : Apart r1 r2 := by
  intro q hq
  rcases hw.new with e | ⟨b, e, hb⟩
  · exact h q (e ▸ hq)
  · intro e2
    have := hlt q e2
    rw [e] at hq
    injection hq with hq
    omega
theorem Apart.fresh {r1 r2 : Option Nat} {N : Nat} (h1 : ∀ k, r1 = some k → k < N) (h2 : ∀ k, r2 = some k → N ≤ k) : Apart r1 r2 := fun q hq e => by
  have := h1 q hq
  have := h2 q e
  omega
theorem mask_walk (v w : Nat) (hw : w ≤ 31) (hv : v < 2147483648) : bits .and .u64 (v : Int) (IntKind.u64.wrap (IntKind.u64.wrap ((2 : Int) ^ w) - 1)) = ((v % 2 ^ w : Nat) : Int) := by
  have hp : 2 ^ w ≤ 2 ^ 31 := Nat.pow_le_pow_right (by decide) hw
  have hpos := Nat.two_pow_pos w
  have e : (2 : Int) ^ w = ((2 ^ w : Nat) : Int) := by simp
  have e1 : IntKind.u64.wrap ((2 : Int) ^ w) = (2 : Int) ^ w := by
    rw [e]
    generalize 2 ^ w = q at hp
    exact wrap_u64_nat _ (by omega)
  have e2 : IntKind.u64.wrap ((2 : Int) ^ w - 1) = (2 : Int) ^ w - 1 := by
    rw [e]
    generalize 2 ^ w = q at hp hpos
    rw [show (q : Int) - 1 = ((q - 1 : Nat) : Int) by omega]
    exact wrap_u64_nat _ (by omega)
  rw [e1, e2, mask_eq v w hw hv]

/-- Bytes that a call has made, as a row of its own. -/
theorem made_own {w w' : World} {B : List Int} {e : Ending} (h : MadeBytes w B e w') : ∃ A c, e = .returned (.slice A B.length c) ∧ B.length ≤ c ∧ w'.ownsRow w.heap.size 5 1 (.slice A B.length c) B.length (nums .u8 B) ∧ Kd.C (Kd.int .u8) w' A B.length B ∧ Below w.heap.size w w' := by
  obtain ⟨v, rfl, hr, hb⟩ := h
  obtain ⟨A, c, hv, hl, hC⟩ := Kd.R_reads hr
  subst hv
  exact ⟨A, c, rfl, hl, Kd.own_of_R hr, hC, hb⟩

/-- The exceptions so far lie apart from the Writer. -/
structure ERel (w : World) (wd : Nat) (vs : List Nat) (x6 x7 x8 i : Value) (w' : World) : Prop where
  out : ∃ (k : Nat) (row : Option Nat), k ≤ vs.length ∧ i = .int .i64 (k : Int) ∧ Wr w' w.heap.size w.heap.size row (lowsL wd (vs.take k)) ∧
    w'.ownsRow w.heap.size 5 1 x6 (excL wd 1 (vs.take k)).length (nums .u8 (excL wd 1 (vs.take k))) ∧ Apart row x6.ownBlock ∧
    x7 = .int .i64 (cntL wd (vs.take k) : Int) ∧ x8 = .int .i64 ((k : Int) - (gapL wd 1 (vs.take k) : Int)) ∧ Below w.heap.size w w'

set_option maxHeartbeats 4000000 in
set_option maxRecDepth 100000 in
theorem encode_any (A : Option Addr) (n c : Nat) (vs : List Nat) (x : Int) (wd : Nat) (w : World) (h : InVals w A n c vs) (hok : BlockOk vs) (hx : x = wd) (hwd : wd ≤ 31) :
    Calls Try.prog 58 #[.slice A n c, .int .i64 x] w fun e w' => MadeBytes w (encL vs wd) e w' := by
  subst hx
  have H := Aside0.mk h
  have HOK := Aside0.mk hok
  have hn : n ≤ 128 := by rw [← h.1]; exact hok.1
  have HN := Aside0.mk h.1
  clear h hok
  go_enter Try.func58, Try.ntmps58
  go_wp2_with fail
  refine (newWriter_any _).mono ?_
  rintro e w1 ⟨rfl, hw1⟩
  have HB1 := Aside0.mk (show Below w.heap.size w w1 from hw1 ▸ below_alloc (Below.refl _ _) _)
  have HW1 := Aside0.mk (show Wr w1 w.heap.size w.heap.size none [] from hw1 ▸ Wr_new w w.heap.size (Nat.le_refl _))
  clear hw1
  go_wp2_with fail
  go_loopw [6, 7, 8, 9, 10, 11, 16] (fun x6 x7 x8 _ _ _ i w' => ERel w wd vs x6 x7 x8 i w') (fun _ _ _ _ _ _ i _ => n - (intOf i).toNat)
  case atStart => exact ⟨⟨0, none, Nat.zero_le _, rfl, HW1.out, own_nil _ _ _ _, Apart.none _, rfl, rfl, HB1.out⟩⟩
  case round =>
    obtain ⟨k, row, hk, rfl, hw, ho, hap, rfl, rfl, hb⟩ := hrel.out
    rw [HN.out] at hk
    have HW := Aside0.mk hw
    have HO := Aside0.mk ho
    have HAP := Aside0.mk hap
    have HB := Aside0.mk hb
    have HI := Aside0.mk (H.out.below hb)
    have hz := hb.size
    obtain ⟨A6, c6, hx6⟩ := own_slice ho
    subst hx6
    clear hw ho hap hb HB1 HW1 hrel
    have HG := Aside0.mk (gapL_le wd (vs.take k) 1 (Nat.le_refl _))
    have HCN := Aside0.mk (cntL_le wd (vs.take k))
    have hexl : (excL wd 1 (vs.take k)).length ≤ 2560 := by
      have := excL_len wd (vs.take k) (fun v hv => by have := HOK.out.2 v (List.mem_of_mem_take hv); omega) 1 (by rw [List.length_take]; omega)
      rw [List.length_take] at this
      omega
    have hlol : (lowsL wd (vs.take k)).length ≤ 3968 := by
      rw [lowsL_length, List.length_take]
      have : min k vs.length * wd ≤ 128 * 31 := Nat.mul_le_mul (by omega) hwd
      omega
    obtain ⟨g, hg⟩ : ∃ g, g = gapL wd 1 (vs.take k) := ⟨_, rfl⟩
    obtain ⟨cn, hcn⟩ : ∃ cn, cn = cntL wd (vs.take k) := ⟨_, rfl⟩
    obtain ⟨E, hE⟩ : ∃ E, E = excL wd 1 (vs.take k) := ⟨_, rfl⟩
    obtain ⟨L, hL⟩ : ∃ L, L = lowsL wd (vs.take k) := ⟨_, rfl⟩
    rw [← hg] at HG ⊢
    rw [← hcn] at HCN ⊢
    rw [← hE] at HO hexl
    try rw [← hE] at HAP
    try rw [← hE]
    rw [← hL] at HW hlol
    have HGe := Aside0.mk hg
    have HCe := Aside0.mk hcn
    have HEe := Aside0.mk hE
    have HLe := Aside0.mk hL
    have hg1 : 1 ≤ g := HG.out.1
    have hg2 : g ≤ 129 := by have := HG.out.2; rw [List.length_take] at this; omega
    have hcn2 : cn ≤ 128 := by have := HCN.out; rw [List.length_take] at this; omega
    clear hg hcn hE hL
    by_cases hlt : k < n
    · obtain ⟨ad, hA, hcell⟩ := (Kd.reads_of_C (d := (0 : Int)) HI.out.2.2).2.2 (by rw [ints_length, HN.out]; omega)
      subst hA
      have hck := hcell k (by rw [ints_length, HN.out]; omega)
      rw [ints_getD] at hck
      obtain ⟨v, hv⟩ : ∃ v, v = vs.getD k 0 := ⟨_, rfl⟩
      have hvlt : v < 2147483648 := hv ▸ getD_lt HOK.out k
      rw [← hv] at hck
      have HTS := Aside0.mk (hv ▸ take_snoc vs k 0 (by rw [HN.out]; exact hlt) : vs.take (k + 1) = vs.take k ++ [v])
      clear hcell hv
      go_wp2_with fail
      rw [mask_walk v wd hwd hvlt]
      have hml : v % 2 ^ wd < 2 ^ wd := Nat.mod_lt _ (Nat.two_pow_pos _)
      have hmv : v % 2 ^ wd < 18446744073709551616 := Nat.lt_of_le_of_lt (Nat.mod_le _ _) (by omega)
      have hmb : Lib.bitLen (v % 2 ^ wd) ≤ wd := (bitLen_le_iff _ _ hmv).2 hml
      have HLOW := Aside0.mk (lowL_mod v wd wd (Nat.le_refl _))
      obtain ⟨m, hm⟩ : ∃ m, m = v % 2 ^ wd := ⟨_, rfl⟩
      rw [← hm] at hmv hmb HLOW ⊢
      clear hm hml
      refine (bits_ok w.heap.size w.heap.size row L m wd _ HW.out (by omega) hmv (by omega) (by omega) (by omega)).mono ?_
      rintro e w2 ⟨rfl, row2, hw2, hwr2⟩
      rw [Int.toNat_natCast, HLOW.out] at hw2
      have HW2 := Aside0.mk hw2
      have HB2 := Aside0.mk (hwr2.below HB.out HB.out.size (Nat.le_refl _) (Half.row_base HW.out))
      have HO2 := Aside0.mk (hwr2.own HO.out (fun e => own_ne HO.out HW.out.choose_spec.1 (by decide) e.symm) HAP.out.or)
      have HAP2 := Aside0.mk (HAP.out.wrote hwr2 (own_lt HO.out))
      have hz2 := HB2.out.size
      clear hw2 hwr2 hmb hmv HW HO HAP
      obtain ⟨q, hq⟩ : ∃ q, q = v / 2 ^ wd := ⟨_, rfl⟩
      have hqlt : q < 2147483648 := hq ▸ Nat.lt_of_le_of_lt (Nat.div_le_self _ _) hvlt
      have hqv : (v : Int) / 2 ^ wd = (q : Int) := by rw [hq]; simp
      have HL2 : Aside0 (L ++ lowL v wd = lowsL wd (vs.take (k + 1))) := ⟨by rw [HTS.out, lowsL_snoc, HLe.out]⟩
      have HE2 : Aside0 ((E ++ if q = 0 then [] else uvL g ++ uvL q) = excL wd 1 (vs.take (k + 1))) := ⟨by rw [HTS.out, excL_snoc, HEe.out, HGe.out, hq]⟩
      have HG2 : Aside0 ((if q = 0 then g + 1 else 1) = gapL wd 1 (vs.take (k + 1))) := ⟨by rw [HTS.out, gapL_snoc, HGe.out, hq]⟩
      have HC2 : Aside0 (cn + (if q = 0 then 0 else 1) = cntL wd (vs.take (k + 1))) := ⟨by rw [HTS.out, cntL_snoc, HCe.out, hq]⟩
      rw [HL2.out] at HW2
      have hk1 : k + 1 ≤ vs.length := by rw [HN.out]; omega
      have HK1 := Aside0.mk hk1
      clear hq hk1
      by_cases hq0 : q = 0
      · subst hq0
        rw [if_pos rfl, List.append_nil] at HE2
        rw [if_pos rfl] at HG2
        rw [if_pos rfl, Nat.add_zero] at HC2
        go_wp2_with fail
        go_roundw
        case rel => exact ⟨⟨k + 1, row2, HK1.out, by go_num, HW2.out, by rw [← HE2.out]; exact HO2.out, HAP2.out, by rw [← HC2.out], by rw [← HG2.out]; exact congrArg (Value.int .i64) (by omega), HB2.out⟩⟩
        case measure => simp [intOf]; omega
      · rw [if_neg hq0, ← List.append_assoc] at HE2
        rw [if_neg hq0] at HG2
        rw [if_neg hq0] at HC2
        have hqpos : 0 < q := by omega
        clear hq0
        go_wp2_with fail
        refine (putUvarint_any A6 c6 E _ g w2 (own_C HO2.out).2 (own_C HO2.out).1 (by omega) (by omega) (by omega)).mono ?_
        rintro e w3 hm3
        obtain ⟨A3, c3, rfl, hc3, ho3, hC3, hb3⟩ := made_own hm3
        obtain ⟨E3, hE3⟩ : ∃ E3, E3 = E ++ uvL g := ⟨_, rfl⟩
        have hlen3 : E3.length ≤ 2570 := by
          have := uvL_len g (by omega)
          rw [hE3, List.length_append]; omega
        rw [← hE3] at ho3 hC3 hc3 HE2 ⊢
        have HO3 := Aside0.mk ho3
        have HC3 := Aside0.mk hC3
        have HB3 := Aside0.mk (below_step HB2.out hb3)
        have HW3 := Aside0.mk (Half.below HW2.out hb3)
        have hz3 := HB3.out.size
        clear hm3 ho3 hC3 hb3 hE3 HO2 HAP2 HB2 HW2
        go_wp2_with fail
        refine (putUvarint_any A3 c3 E3 _ q w3 HC3.out hc3 rfl (by omega) (by omega)).mono ?_
        rintro e w4 hm4
        obtain ⟨A4, c4, rfl, hc4, ho4, hC4, hb4⟩ := made_own hm4
        rw [HE2.out] at ho4 ⊢
        have HAP4 := Aside0.mk (Apart.fresh (Half.row_lt HW3.out) (own_base ho4))
        have HO4 := Aside0.mk (own_less ho4 hz3)
        have HB4 := Aside0.mk (below_step HB3.out hb4)
        have HW4 := Aside0.mk (Half.below HW3.out hb4)
        have hz4 := HB4.out.size
        clear hm4 ho4 hC4 hb4 HO3 HC3 HB3 HW3 hc3 hc4
        go_wp2_with fail
        go_roundw
        case rel => exact ⟨⟨k + 1, row2, HK1.out, by go_num, HW4.out, HO4.out, HAP4.out, by rw [← HC2.out]; exact congrArg (Value.int .i64) (by omega), by rw [← HG2.out]; exact congrArg (Value.int .i64) (by omega), HB4.out⟩⟩
        case measure => simp [intOf]; omega
    · have hkn : k = n := by omega
      subst hkn
      rw [List.take_of_length_le (by rw [HN.out]; exact Nat.le_refl _)] at HGe HCe HEe HLe
      clear HI HG HCN HGe H hk
      go_wp2_with fail
      refine (putUvarint_any none 0 [] _ k wr (own_C (own_nil wr wr.heap.size 5 1)).2 (Nat.le_refl _) rfl (by simp) (by omega)).mono ?_
      rintro e w1 hm1
      obtain ⟨A1, c1, rfl, hc1, ho1, hC1, hb1⟩ := made_own hm1
      rw [List.nil_append] at hc1 hC1 ⊢
      have hl1 := uvL_len k (by omega)
      obtain ⟨U1, hU1⟩ : ∃ U, U = uvL k := ⟨_, rfl⟩
      rw [← hU1] at hc1 hC1 hl1 ⊢
      have HU1 := Aside0.mk hU1
      have HC1 := Aside0.mk hC1
      have HB1 := Aside0.mk (below_step HB.out hb1)
      have HW1 := Aside0.mk (Half.below HW.out hb1)
      have HO1 := Aside0.mk (pw_own_below HO.out hb1)
      have hz1 := HB1.out.size
      clear hm1 ho1 hC1 hb1 hU1
      go_wp2_with fail
      refine (putUvarint_any A1 c1 U1 _ wd w1 HC1.out hc1 rfl (by omega) (by omega)).mono ?_
      rintro e w2 hm2
      obtain ⟨A2, c2, rfl, hc2, ho2, hC2, hb2⟩ := made_own hm2
      have hl2 : (U1 ++ uvL wd).length ≤ 20 := by
        have := uvL_len wd (by omega)
        rw [List.length_append]; omega
      obtain ⟨U2, hU2⟩ : ∃ U, U = U1 ++ uvL wd := ⟨_, rfl⟩
      rw [← hU2] at hc2 hC2 hl2 ⊢
      have HU2 := Aside0.mk hU2
      have HC2 := Aside0.mk hC2
      have HB2 := Aside0.mk (below_step HB1.out hb2)
      have HW2 := Aside0.mk (Half.below HW1.out hb2)
      have HO2 := Aside0.mk (pw_own_below HO1.out hb2)
      have hz2 := HB2.out.size
      clear hm2 ho2 hC2 hb2 hU2 HC1 HB1 HW1 HO1
      go_wp2_with fail
      refine (putUvarint_any A2 c2 U2 _ cn w2 HC2.out hc2 rfl (by omega) (by omega)).mono ?_
      rintro e w3 hm3
      obtain ⟨A3, c3, rfl, hc3, ho3, hC3, hb3⟩ := made_own hm3
      have hl3 : (U2 ++ uvL cn).length ≤ 30 := by
        have := uvL_len cn (by omega)
        rw [List.length_append]; omega
      obtain ⟨U3, hU3⟩ : ∃ U, U = U2 ++ uvL cn := ⟨_, rfl⟩
      rw [← hU3] at hc3 hl3 ho3 ⊢
      have HU3 := Aside0.mk hU3
      have HO3 := Aside0.mk ho3
      have HB3 := Aside0.mk hb3
      have HW3 := Aside0.mk (Half.below HW2.out hb3)
      have hz3 := hb3.size
      clear hm3 ho3 hC3 hb3 hU3 HW2
      go_wp2_with fail
      refine (bytes_any w.heap.size w.heap.size row L w3 HW3.out (by omega)).mono ?_
      rintro e w4 hm4
      obtain ⟨A4, c4, rfl, hc4, ho4, hC4, hb4⟩ := made_own hm4
      have hl4 : (packL L).length ≤ 4000 := by
        rw [packL_length]; omega
      obtain ⟨PL, hPL⟩ : ∃ U, U = packL L := ⟨_, rfl⟩
      rw [← hPL] at hc4 hl4 ho4 hC4 ⊢
      have HPL := Aside0.mk hPL
      have HR4 := Aside0.mk (Kd.reads_of_C (d := (0 : Int)) hC4)
      have HB4 := Aside0.mk (below_step HB3.out hb4)
      have HO4 := Aside0.mk (pw_own_below HO3.out hb4)
      have hz4 := HB4.out.size
      have hll : (U3 ++ PL).length ≤ 4030 := by rw [List.length_append]; omega
      obtain ⟨V, hV⟩ : ∃ U, U = U3 ++ PL := ⟨_, rfl⟩
      rw [← hV] at hll
      have HV := Aside0.mk hV
      obtain ⟨VE, hVE⟩ : ∃ U, U = V ++ E := ⟨_, rfl⟩
      have HVE := Aside0.mk hVE
      clear hm4 ho4 hC4 hb4 hPL hV hVE HW3 HO3 HB3
      go_wp2_with (first | (at_builtin; refine print_append_row (w0 := w2) w2.heap.size rfl (.tmp 61) (.tmp 63) 22 5 .u8 1 rfl Try.underlying22 Refs.info5 (by omega) (.slice A3 U3.length c3) U3 PL A4 _ c4 rfl rfl HO4.out HR4.out ?aB ?aS ?aL ?_; (case aB => exact HB4.out); (case aS => omega); (case aL => omega); intro v5 w5 hown hB5 hg5 hat5; rw [← HV.out] at hown; have HO5 := Aside0.mk hown; have HB5 := Aside0.mk hB5; obtain ⟨A5, c5, hv5⟩ := own_slice hown; subst hv5; have hz5 := hB5.size; have HR5 := Aside0.mk (Kd.reads_of_C (d := (0 : Int)) (Kd.C_below (own_C HO2.out).2 hB5)); clear hown hB5 hg5 hat5) | (at_builtin; refine print_append_row (w0 := w2) w2.heap.size rfl (.tmp 64) (.tmp 65) 22 5 .u8 1 rfl Try.underlying22 Refs.info5 (by omega) (.slice A5 V.length c5) V E A6 _ c6 rfl rfl HO5.out HR5.out ?aB ?aS ?aL ?_; (case aB => exact HB5.out); (case aS => omega); (case aL => omega); intro v6 w6 hown hB6 hg6 hat6; rw [← HVE.out] at hown; have HO6 := Aside0.mk hown; have HB6 := Aside0.mk hB6; obtain ⟨A6, c6, hv6⟩ := own_slice hown; subst hv6; have hz6 := hB6.size; clear hown hB6 hg6 hat6))
      go_ret
      refine ⟨_, rfl, ?_, below_step HB2.out HB6.out⟩
      have hfin : VE = encL vs wd := by
        rw [HVE.out, HV.out, HU3.out, HU2.out, HU1.out, HPL.out, HLe.out, HCe.out, HEe.out, ← HN.out]
        rfl
      rw [← hfin]
      exact Kd.R_lower (Kd.R_of_own HO6.out (fun _ _ => trivial)) hz2


/-- Numbers that came in. -/
def InInts (w : World) (A : Option Addr) (n c : Nat) (l : List Int) : Prop := l.length = n ∧ n ≤ c ∧ Kd.C (Kd.int .i64) w A l.length l
theorem InInts.below {w w1 : World} {A : Option Addr} {n c : Nat} {l : List Int} (h : InInts w A n c l) (hb : Below w.heap.size w w1) : InInts w1 A n c l := ⟨h.1, h.2.1, Kd.C_below h.2.2 hb⟩
theorem InInts.drewN {w : World} {A : Option Addr} {n c : Nat} {l : List Int} (h : InInts w A n c l) (m : Nat) : InInts (w.drewN m) A n c l := ⟨h.1, h.2.1, Kd.C_drewN h.2.2 m⟩
theorem InInts.vals {w : World} {A : Option Addr} {n c : Nat} {vs : List Nat} (h : InInts w A n c (ints vs)) : InVals w A n c vs := ⟨by rw [← ints_length]; exact h.1, h.2.1, h.2.2⟩
theorem below_drawn0 {w w1 : World} (h : Drawn0 w w1) : Below w.heap.size w w1 := by
  obtain ⟨m, rfl⟩ := h
  exact pw_below_drewN (Below.refl _ _) m

theorem check_any (A : Option Addr) (n c : Nat) (l : List Int) (w : World) (h : InInts w A n c l) :
    Calls Try.prog 57 #[.slice A n c] w fun e w' => e = .returned (.int .i64 (checkV l)) ∧ Below w.heap.size w w' := by
  obtain ⟨rfl, hc, hr⟩ := h
  refine (Refs.block_check.calls 200 A c l _ w hr hc (check_f l 200 (by omega))).mono ?_
  rintro e w' ⟨he, hd⟩
  exact ⟨he, below_drawn0 hd⟩
theorem checkRef_any (A : Option Addr) (n c : Nat) (l : List Int) (w : World) (h : InInts w A n c l) :
    Calls Try.prog 31 #[.slice A n c] w fun e w' => e = .returned (.int .i64 (checkV l)) ∧ Below w.heap.size w w' := by
  obtain ⟨rfl, hc, hr⟩ := h
  refine (Refs.corporaref15_Check.calls 200 A c l _ w hr hc (checkRef_f l 200 (by omega))).mono ?_
  rintro e w' ⟨he, hd⟩
  exact ⟨he, below_drawn0 hd⟩
def widthV (l : List Int) : Int := if checkV l = 0 then (bestL (l.map Int.toNat) : Int) else 0
theorem widthRef_any (A : Option Addr) (n c : Nat) (l : List Int) (w : World) (h : InInts w A n c l) :
    Calls Try.prog 45 #[.slice A n c] w fun e w' => e = .returned (.int .i64 (widthV l)) ∧ Below w.heap.size w w' := by
  obtain ⟨rfl, hc, hr⟩ := h
  exact Refs.corporaref15_Width.calls 9000 A c l _ w hr hc (widthRef_f l 9000 (by omega) (by omega))
theorem packRef15_any (A : Option Addr) (n c : Nat) (vs : List Nat) (w : World) (h : InInts w A n c (ints vs)) (hok : BlockOk vs) :
    Calls Try.prog 44 #[.slice A n c] w fun e w' => MadeBytes w (encL vs (bestL vs)) e w' := by
  obtain ⟨rfl, hc, hr⟩ := h
  refine (Refs.corporaref15_Pack.calls 9000 A c (ints vs) _ w hr hc (packRef15_f vs hok 9000 (by omega) (by omega))).mono ?_
  rintro e w' ⟨v, he, hr, hb⟩
  exact ⟨v, he, hr, hb⟩
theorem bytesRef_any (A : Option Addr) (n c : Nat) (vs : List Nat) (x : Int) (k : Nat) (w : World) (h : InInts w A n c (ints vs)) (hok : BlockOk vs) (hx : x = k) (hk : k ≤ 31) :
    Calls Try.prog 47 #[.slice A n c, .int .i64 x] w fun e w' => MadeBytes w (encL vs k) e w' := by
  subst hx
  obtain ⟨rfl, hc, hr⟩ := h
  refine (Refs.corporaref15_Bytes.calls 9000 A c (ints vs) k _ w hr hc (bytesRef_f vs k 9000 hok hk (by omega) (by omega))).mono ?_
  rintro e w' ⟨v, he, hr, hb⟩
  exact ⟨v, he, hr, hb⟩

/-- The number of bytes with a width, or the error. -/
def costV (l : List Int) (x : Int) : Int × Int := if checkV l = 0 then (if x < 0 then (0, 1) else if x > 31 then (0, 1) else ((encL (l.map Int.toNat) x.toNat).length, 0)) else (0, checkV l)
theorem cost_any (A : Option Addr) (n c : Nat) (l : List Int) (x : Int) (w : World) (h : InInts w A n c l) :
    Calls Try.prog 46 #[.slice A n c, .int .i64 x] w fun e w' => e = .returned (.tuple #[.int .i64 (costV l x).1, .int .i64 (costV l x).2]) ∧ Below w.heap.size w w' := by
  obtain ⟨rfl, hc, hr⟩ := h
  refine Refs.block_Cost.calls 200 A c l x _ _ w hr hc ?_
  unfold Refs.block_Cost.f costV
  rw [check_f l 200 (by omega), Option.bind_some]
  by_cases h : checkV l = 0
  · rw [if_pos h, if_pos h]
    by_cases h1 : x < 0
    · rw [if_pos h1, if_pos h1]
    · rw [if_neg h1, if_neg h1]
      by_cases h2 : x > 31
      · rw [if_pos h2, if_pos h2]
      · rw [if_neg h2, if_neg h2]
        obtain ⟨vs, rfl, hok⟩ := checkV_ok h
        have e : x = ((x.toNat : Nat) : Int) := by omega
        rw [e, cost_f vs x.toNat 200 hok (by omega) (by omega), Option.bind_some, ints_toNat, Int.toNat_natCast]
  · rw [if_neg h, if_neg h]

set_option maxHeartbeats 1000000 in
set_option maxRecDepth 100000 in
theorem width_any (A : Option Addr) (n c : Nat) (l : List Int) (w : World) (h : InInts w A n c l) :
    Calls Try.prog 43 #[.slice A n c] w fun e w' => e = .returned (.int .i64 (widthV l)) ∧ Below w.heap.size w w' := by
  have H := Aside0.mk h
  clear h
  by_cases hc : checkV l = 0
  · obtain ⟨vs, rfl, hok⟩ := checkV_ok hc
    have HOK := Aside0.mk hok
    have HCH := Aside0.mk hc
    have hw : widthV (ints vs) = (bestL vs : Int) := by unfold widthV; rw [if_pos hc, ints_toNat]
    rw [hw]
    clear hok hw hc
    go_enter Try.func43, Try.ntmps43
    go_wp2_with fail
    refine (check_any A n c _ w H.out).mono ?_
    rintro e w1 ⟨rfl, hb⟩
    have HB := Aside0.mk hb
    have H1 := Aside0.mk (H.out.below hb)
    clear hb
    rw [HCH.out]
    go_wp2_with fail
    refine (best_any A n c vs w1 H1.out.vals HOK.out).mono ?_
    rintro e w2 ⟨rfl, hb2⟩
    have HB2 := Aside0.mk (below_step HB.out hb2)
    clear hb2
    go_wp2_with fail
    go_ret
    exact ⟨rfl, HB2.out⟩
  · have hw : widthV l = 0 := by unfold widthV; rw [if_neg hc]
    rw [hw]
    clear hw
    go_enter Try.func43, Try.ntmps43
    go_wp2_with fail
    refine (check_any A n c _ w H.out).mono ?_
    rintro e w1 ⟨rfl, hb⟩
    have HB := Aside0.mk hb
    clear hb
    obtain ⟨q, hq⟩ : ∃ q, q = checkV l := ⟨_, rfl⟩
    rw [← hq] at hc ⊢
    clear hq
    go_wp2_with fail
    go_ret
    exact ⟨rfl, HB.out⟩

/-- The bytes of a block, or none. -/
def packV (l : List Int) : List Int := if checkV l = 0 then encL (l.map Int.toNat) (bestL (l.map Int.toNat)) else []
set_option maxHeartbeats 1000000 in
set_option maxRecDepth 100000 in
theorem pack_any (A : Option Addr) (n c : Nat) (l : List Int) (w : World) (h : InInts w A n c l) :
    Calls Try.prog 32 #[.slice A n c] w fun e w' => ∃ v, e = .returned (.tuple #[v, .int .i64 (checkV l)]) ∧ Made w w' v (packV l) := by
  have H := Aside0.mk h
  clear h
  by_cases hc : checkV l = 0
  · obtain ⟨vs, rfl, hok⟩ := checkV_ok hc
    have HOK := Aside0.mk hok
    have HCH := Aside0.mk hc
    have hw : packV (ints vs) = encL vs (bestL vs) := by unfold packV; rw [if_pos hc, ints_toNat]
    rw [hw, hc]
    clear hok hw hc
    go_enter Try.func32, Try.ntmps32
    go_wp2_with fail
    refine (check_any A n c _ w H.out).mono ?_
    rintro e w1 ⟨rfl, hb⟩
    have HB := Aside0.mk hb
    have H1 := Aside0.mk (H.out.below hb)
    clear hb
    rw [HCH.out]
    go_wp2_with fail
    refine (best_any A n c vs w1 H1.out.vals HOK.out).mono ?_
    rintro e w2 ⟨rfl, hb2⟩
    have HB2 := Aside0.mk (below_step HB.out hb2)
    have H2 := Aside0.mk (H1.out.below hb2)
    have hz := HB2.out.size
    clear hb2
    go_wp2_with fail
    refine (encode_any A n c vs _ (bestL vs) w2 H2.out.vals HOK.out rfl (bestL_le vs)).mono ?_
    rintro e w3 ⟨v, rfl, hr, hb3⟩
    have HR := Aside0.mk hr
    have HB3 := Aside0.mk (below_step HB2.out hb3)
    clear hr hb3
    go_wp2_with fail
    go_ret2
    exact ⟨v, rfl, Kd.R_lower HR.out hz, HB3.out⟩
  · have hw : packV l = [] := by unfold packV; rw [if_neg hc]
    rw [hw]
    have HNIL := Aside0.mk (fun w1 : World => own_nil w1 w.heap.size 5 1)
    clear hw
    go_enter Try.func32, Try.ntmps32
    go_wp2_with fail
    refine (check_any A n c _ w H.out).mono ?_
    rintro e w1 ⟨rfl, hb⟩
    have HB := Aside0.mk hb
    clear hb
    obtain ⟨q, hq⟩ : ∃ q, q = checkV l := ⟨_, rfl⟩
    have HQ := Aside0.mk hq
    rw [← hq] at hc ⊢
    clear hq
    go_wp2_with fail
    go_ret2
    exact ⟨_, by rw [HQ.out]; rfl, Kd.R_of_own (HNIL.out w1) (fun _ _ => trivial), HB.out⟩


def uvF : Nat → Nat → List Int
  | 0, _ => []
  | k + 1, v => if 128 ≤ v then ((v % 128 + 128 : Nat) : Int) :: uvF k (v / 128) else [(v : Int)]
theorem uvF_eq (k : Nat) : ∀ v, (uvL v).length ≤ k → uvF k v = uvL v := by
  induction k with
  | zero => intro v h; have := uvL_pos v; omega
  | succ k ih =>
    intro v h
    rw [uvF]
    by_cases h1 : 128 ≤ v
    · rw [uvL_ge h1] at h ⊢
      rw [if_pos h1, ih _ (by simpa using h)]
    · rw [uvL_lt h1, if_neg h1]
def excF (w : Nat) : Nat → List Nat → List Int
  | _, [] => []
  | g, v :: l => if v / 2 ^ w = 0 then excF w (g + 1) l else uvF 10 g ++ uvF 10 (v / 2 ^ w) ++ excF w 1 l
theorem excF_eq (w : Nat) (l : List Nat) (hl : ∀ v ∈ l, v < 2147483648) : ∀ g, g + l.length < 18446744073709551616 → excF w g l = excL w g l := by
  induction l with
  | nil => intro g _; rfl
  | cons v l ih =>
    intro g hg
    simp only [List.length_cons] at hg
    have hv := hl v (by simp)
    have hd := Nat.div_le_self v (2 ^ w)
    rw [excF, excL, ih (fun x hx => hl x (by simp [hx])) _ (by omega), ih (fun x hx => hl x (by simp [hx])) _ (by omega), uvF_eq 10 g (uvL_len _ (by omega)), uvF_eq 10 (v / 2 ^ w) (uvL_len _ (by omega))]
def encF (vs : List Nat) (w : Nat) : List Int := uvF 10 vs.length ++ uvF 10 w ++ uvF 10 (cntL w vs) ++ packL (lowsL w vs) ++ excF w 1 vs
theorem encF_eq (vs : List Nat) (w : Nat) (h : BlockOk vs) (hw : w ≤ 31) : encF vs w = encL vs w := by
  have h1 := h.1
  have h2 := cntL_le w vs
  rw [encF, encL, uvF_eq 10 _ (uvL_len _ (by omega)), uvF_eq 10 _ (uvL_len _ (by omega)), uvF_eq 10 _ (uvL_len _ (by omega)), excF_eq w vs h.2 1 (by omega)]
/-- A width that is the least one with the least cost is the best one. -/
theorem best_eq (vs : List Nat) (b : Nat) (hb : b ≤ 31) (h : ∀ j, j ≤ 31 → (encL vs b).length ≤ (encL vs j).length ∧ (j < b → (encL vs b).length < (encL vs j).length)) : bestL vs = b := by
  have h1 := bestTo_least vs 31 b hb
  have h2 := h (bestL vs) (bestL_le vs)
  unfold bestL at *
  by_cases e : bestTo vs 31 < b
  · have := h2.2 e; omega
  · have := h1.2 (by omega); omega
theorem best_by (vs : List Nat) (b : Nat) (hok : BlockOk vs) (hb : b ≤ 31) (h : (List.range 32).all (fun j => decide ((encF vs b).length ≤ (encF vs j).length) && (decide (b ≤ j) || decide ((encF vs b).length < (encF vs j).length))) = true) : bestL vs = b := by
  refine best_eq vs b hb fun j hj => ?_
  have := List.all_eq_true.1 h j (List.mem_range.2 (by omega))
  simp only [Bool.and_eq_true, Bool.or_eq_true, decide_eq_true_eq] at this
  rw [encF_eq vs b hok hb, encF_eq vs j hok hj] at this
  exact ⟨this.1, fun hlt => by rcases this.2 with h | h <;> omega⟩
theorem blk3 : BlockOk [1, 2, 3] := by unfold BlockOk; decide
theorem blk9 : BlockOk [0, 0, 0, 0, 0, 0, 0, 0, 1] := by unfold BlockOk; decide
theorem best3 : bestL [1, 2, 3] = 2 := best_by _ 2 blk3 (by decide) (by decide +kernel)
theorem best9 : bestL [0, 0, 0, 0, 0, 0, 0, 0, 1] = 0 := best_by _ 0 blk9 (by decide) (by decide +kernel)
theorem chk3 : checkV [1, 2, 3] = 0 := by decide
theorem chk9 : checkV [0, 0, 0, 0, 0, 0, 0, 0, 1] = 0 := by decide
theorem pk3 : packV [1, 2, 3] = [3, 2, 0, 108] := by
  have e : ([1, 2, 3] : List Int).map Int.toNat = [1, 2, 3] := rfl
  unfold packV
  rw [if_pos chk3, e, best3, ← encF_eq _ _ blk3 (by decide)]
  decide +kernel
theorem pk9 : packV [0, 0, 0, 0, 0, 0, 0, 0, 1] = [9, 0, 1, 9, 1] := by
  have e : ([0, 0, 0, 0, 0, 0, 0, 0, 1] : List Int).map Int.toNat = [0, 0, 0, 0, 0, 0, 0, 0, 1] := rfl
  unfold packV
  rw [if_pos chk9, e, best9, ← encF_eq _ _ blk9 (by decide)]
  decide +kernel
theorem lit_ints (w W : World) (xs : List Int) (cs : Array Value) (hcs : cs = (nums .i64 xs).toArray) (hm : xs.length ≤ 1000) : InInts (W.alloc (.cells cs 3)) (some ⟨W.heap.size, 0, none⟩) xs.length xs.length xs := by
  subst hcs
  have h := own_lit W W.heap.size 3 .i64 xs (Nat.le_refl _) (by omega)
  have h1 : Kd.R (Kd.int .i64) 3 (W.alloc (.cells (nums .i64 xs).toArray 3)) W.heap.size (fun _ => True) (.slice (some ⟨W.heap.size, 0, none⟩) xs.length xs.length) xs := Kd.R_of_own h (fun _ _ => trivial)
  exact ⟨rfl, Nat.le_refl _, (Kd.R_reads' h1).2.2⟩

set_option maxHeartbeats 1000000 in
set_option maxRecDepth 100000 in
theorem awakeB_any (w : World) : Calls Try.prog 36 #[] w fun e w' => e = .returned (.bool true) ∧ Below w.heap.size w w' := by
  go_enter Try.func36, Try.ntmps36
  go_wp2_with fail
  refine (pack_any _ 3 3 [1, 2, 3] _ (lit_ints w w [1, 2, 3] _ rfl (by decide))).mono ?_
  rintro e w1 ⟨v1, rfl, hr1, hb1⟩
  rw [pk3] at hr1
  rw [chk3]
  obtain ⟨A1, c1, hv1, hl1, hC1⟩ := Kd.R_reads hr1
  simp only [List.length_cons, List.length_nil, Nat.zero_add, Nat.reduceAdd] at hv1
  subst hv1
  have HB1 := Aside0.mk (below_step (below_alloc (Below.refl _ _) _) hb1)
  have HC1 := Aside0.mk hC1
  clear hr1 hb1 hl1 hC1
  go_wp2_with fail
  refine (pack_any _ 9 9 [0, 0, 0, 0, 0, 0, 0, 0, 1] _ (lit_ints w1 w1 [0, 0, 0, 0, 0, 0, 0, 0, 1] _ rfl (by decide))).mono ?_
  rintro e w2 ⟨v2, rfl, hr2, hb2⟩
  rw [pk9] at hr2
  rw [chk9]
  obtain ⟨A2, c2, hv2, hl2, hC2⟩ := Kd.R_reads hr2
  simp only [List.length_cons, List.length_nil, Nat.zero_add, Nat.reduceAdd] at hv2
  subst hv2
  have hC1 := Kd.C_below HC1.out (below_step (below_alloc (Below.refl _ _) _) hb2)
  have hcv1 : (Go.convert 22 9 (.slice A1 4 c1)).run Try.prog w2 = .ok (.string ⟨#[3, 2, 0, 108]⟩) w2 := Kd.C_string (P := Try.prog) (A := A1) (c := c1) Try.underlying22 Try.underlying5 Try.underlying9 hC1
  have hcv2 : (Go.convert 22 9 (.slice A2 5 c2)).run Try.prog w2 = .ok (.string ⟨#[9, 0, 1, 9, 1]⟩) w2 := Kd.C_string (P := Try.prog) (A := A2) (c := c2) Try.underlying22 Try.underlying5 Try.underlying9 hC2
  have HB2 := Aside0.mk (below_step HB1.out (below_step (below_alloc (Below.refl _ _) _) hb2))
  clear hr2 hb2 hl2 hC2 hC1 HC1 HB1
  go_wp2_with fail
  go_ret
  exact ⟨rfl, HB2.out⟩


/-- A slice of numbers as the row's step hands it over. -/
theorem InInts.of {w : World} {a : Option Addr} {len cap : Nat} {zs : List Int}
    (h : (a = none ∧ len = 0 ∧ cap = 0 ∧ zs = []) ∨ ∃ x, a = some x ∧ len ≤ cap ∧ cap ≤ maxLen ∧ zs.length = cap ∧ (∀ i, i < zs.length → w.cell? (x.add i) = some (.int .i64 (zs.getD i 0))) ∧ ∀ n ∈ zs, (Lit.int .i64 n).wf = true) :
    InInts w a len cap (zs.take len) := by
  rcases h with ⟨rfl, rfl, rfl, rfl⟩ | ⟨x, rfl, hl, hm, hz, hc, hw⟩
  · exact ⟨rfl, Nat.le_refl _, Kd.C_nil _ _⟩
  · have hlen : (zs.take len).length = len := by rw [List.length_take, hz]; omega
    refine ⟨hlen, hl, ?_⟩
    rw [hlen]
    refine Kd.C_of_reads (d := (0 : Int)) (h1 := fun _ => rfl) ⟨hlen, by simp only [maxLen] at hm; omega, fun _ => ⟨x, rfl, fun j hj => ?_⟩⟩
    rw [hc j (by omega), List.getD_eq_getElem?_getD, List.getD_eq_getElem?_getD, List.getElem?_take_of_lt hj]

set_option maxHeartbeats 2000000 in
set_option maxRecDepth 100000 in
theorem costs_walk (A : Option Addr) (n c : Nat) (l : List Int) (x : Int) (w : World) (h : InInts w A n c l) :
    Calls Try.prog 14 #[.slice A n c, .int .i64 x] w fun e w' => e = .returned (.bool true) ∧ Below w.heap.size w w' := by
  have H := Aside0.mk h
  have hn : n = l.length := h.1.symm
  clear h
  by_cases h130 : 130 < n
  · clear H hn
    go_enter Try.func14, Try.ntmps14
    go_wp2_with fail
    go_ret
    exact ⟨rfl, Below.refl _ _⟩
  clear hn
  by_cases hc : checkV l = 0
  · by_cases hx : x < 0 ∨ 31 < x
    · have HCV : Aside0 (costV l x = (0, 1)) := ⟨by
        unfold costV
        rw [if_pos hc]
        rcases hx with h | h
        · rw [if_pos h]
        · rw [if_neg (by omega), if_pos h]⟩
      have HCH := Aside0.mk hc
      clear hc
      go_enter Try.func14, Try.ntmps14
      go_wp2_with fail
      refine (cost_any A n c l x w H.out).mono ?_
      rintro e w1 ⟨rfl, hb1⟩
      rw [HCV.out]
      have HB1 := Aside0.mk hb1
      have H1 := Aside0.mk (H.out.below hb1)
      clear hb1
      go_wp2_with fail
      refine (checkRef_any A n c l w1 H1.out).mono ?_
      rintro e w2 ⟨rfl, hb2⟩
      rw [HCH.out]
      have HB2 := Aside0.mk (below_step HB1.out hb2)
      clear hb2
      by_cases h0 : x < 0
      · go_wp2_with fail
        refine (awakeB_any w2).mono ?_
        rintro e w3 ⟨rfl, hb3⟩
        have HB3 := Aside0.mk (below_step HB2.out hb3)
        clear hb3
        go_wp2_with fail
        go_ret
        exact ⟨rfl, HB3.out⟩
      · have h31 : 31 < x := by omega
        clear hx
        go_wp2_with fail
        refine (awakeB_any w2).mono ?_
        rintro e w3 ⟨rfl, hb3⟩
        have HB3 := Aside0.mk (below_step HB2.out hb3)
        clear hb3
        go_wp2_with fail
        go_ret
        exact ⟨rfl, HB3.out⟩
    · obtain ⟨vs, rfl, hok⟩ := checkV_ok hc
      obtain ⟨k, rfl⟩ : ∃ k : Nat, x = k := ⟨x.toNat, by omega⟩
      have hk : k ≤ 31 := by omega
      have HCV : Aside0 (costV (ints vs) k = (((encL vs k).length : Int), 0)) := ⟨by
        unfold costV
        rw [if_pos hc, if_neg (by omega), if_neg (by omega), ints_toNat, Int.toNat_natCast]⟩
      have HCH := Aside0.mk hc
      have HOK := Aside0.mk hok
      have hlen := encL_len vs k hok hk
      clear hc hok hx
      go_enter Try.func14, Try.ntmps14
      go_wp2_with fail
      refine (cost_any A n c _ _ w H.out).mono ?_
      rintro e w1 ⟨rfl, hb1⟩
      rw [HCV.out]
      have HB1 := Aside0.mk hb1
      have H1 := Aside0.mk (H.out.below hb1)
      clear hb1
      go_wp2_with fail
      refine (checkRef_any A n c _ w1 H1.out).mono ?_
      rintro e w2 ⟨rfl, hb2⟩
      rw [HCH.out]
      have HB2 := Aside0.mk (below_step HB1.out hb2)
      have H2 := Aside0.mk (H1.out.below hb2)
      clear hb2
      go_wp2_with fail
      refine (bytesRef_any A n c vs _ k w2 H2.out HOK.out rfl hk).mono ?_
      rintro e w3 hm3
      obtain ⟨A3, c3, rfl, hc3, ho3, hC3, hb3⟩ := made_own hm3
      have HB3 := Aside0.mk (below_step HB2.out hb3)
      clear hm3 ho3 hC3 hb3
      obtain ⟨E, hE⟩ : ∃ E, E = encL vs k := ⟨_, rfl⟩
      rw [← hE] at hlen hc3 ⊢
      clear hE
      go_wp2_with fail
      refine (awakeB_any w3).mono ?_
      rintro e w4 ⟨rfl, hb4⟩
      have HB4 := Aside0.mk (below_step HB3.out hb4)
      clear hb4
      go_wp2_with fail
      go_ret
      exact ⟨rfl, HB4.out⟩
  · have HCV : Aside0 (costV l x = (0, checkV l)) := ⟨by
      unfold costV
      rw [if_neg hc]⟩
    obtain ⟨q, hq⟩ : ∃ q, q = checkV l := ⟨_, rfl⟩
    have HQ := Aside0.mk hq
    rw [← hq] at hc HCV
    clear hq
    go_enter Try.func14, Try.ntmps14
    go_wp2_with fail
    refine (cost_any A n c _ _ w H.out).mono ?_
    rintro e w1 ⟨rfl, hb1⟩
    rw [HCV.out]
    have HB1 := Aside0.mk hb1
    have H1 := Aside0.mk (H.out.below hb1)
    clear hb1
    go_wp2_with fail
    refine (checkRef_any A n c _ w1 H1.out).mono ?_
    rintro e w2 ⟨rfl, hb2⟩
    rw [← HQ.out]
    have HB2 := Aside0.mk (below_step HB1.out hb2)
    clear hb2
    go_wp2_with fail
    refine (awakeB_any w2).mono ?_
    rintro e w3 ⟨rfl, hb3⟩
    have HB3 := Aside0.mk (below_step HB2.out hb3)
    clear hb3
    go_wp2_with fail
    go_ret
    exact ⟨rfl, HB3.out⟩


theorem costV_ints {vs : List Nat} (h : BlockOk vs) (k : Nat) (hk : k ≤ 31) : costV (ints vs) k = (((encL vs k).length : Int), 0) := by
  unfold costV
  rw [if_pos (checkV_ints h), if_neg (by omega), if_neg (by omega), ints_toNat, Int.toNat_natCast]
theorem widthV_ints {vs : List Nat} (h : BlockOk vs) : widthV (ints vs) = (bestL vs : Int) := by
  unfold widthV
  rw [if_pos (checkV_ints h), ints_toNat]
theorem packV_ints {vs : List Nat} (h : BlockOk vs) : packV (ints vs) = encL vs (bestL vs) := by
  unfold packV
  rw [if_pos (checkV_ints h), ints_toNat]

def LRel (w : World) (k : Value) (w' : World) : Prop := ∃ j : Nat, j ≤ 32 ∧ k = .int .i64 (j : Int) ∧ Below w.heap.size w w'

set_option maxHeartbeats 2000000 in
set_option maxRecDepth 100000 in
theorem least_walk (A : Option Addr) (n c : Nat) (l : List Int) (w : World) (h : InInts w A n c l) :
    Calls Try.prog 15 #[.slice A n c] w fun e w' => e = .returned (.bool true) ∧ Below w.heap.size w w' := by
  have H := Aside0.mk h
  clear h
  by_cases hc : checkV l = 0
  · obtain ⟨vs, rfl, hok⟩ := checkV_ok hc
    have HOK := Aside0.mk hok
    have HCH := Aside0.mk hc
    have hbl := bestL_le vs
    obtain ⟨b, hb⟩ : ∃ b, b = bestL vs := ⟨_, rfl⟩
    have HW : Aside0 (widthV (ints vs) = (b : Int)) := ⟨by rw [widthV_ints hok, hb]⟩
    have HPV : Aside0 (packV (ints vs) = encL vs b) := ⟨by rw [packV_ints hok, hb]⟩
    have HBT : Aside0 (∀ j, j ≤ 31 → (encL vs b).length ≤ (encL vs j).length ∧ ((encL vs j).length = (encL vs b).length → b ≤ j)) := ⟨by rw [hb]; exact bestTo_least vs 31⟩
    rw [← hb] at hbl
    have hlen := encL_len vs b hok hbl
    obtain ⟨E, hE⟩ : ∃ E, E = encL vs b := ⟨_, rfl⟩
    have HCV : Aside0 (costV (ints vs) b = ((E.length : Int), 0)) := ⟨by rw [costV_ints hok b hbl, hE]⟩
    rw [← hE] at HPV HBT hlen
    clear hE hb hc hok
    go_enter Try.func15, Try.ntmps15
    go_wp2_with fail
    refine (checkRef_any A n c _ w H.out).mono ?_
    rintro e w1 ⟨rfl, hb1⟩
    rw [HCH.out]
    have HB1 := Aside0.mk hb1
    have H1 := Aside0.mk (H.out.below hb1)
    clear hb1
    go_wp2_with fail
    refine (width_any A n c _ w1 H1.out).mono ?_
    rintro e w2 ⟨rfl, hb2⟩
    rw [HW.out]
    have HB2 := Aside0.mk (below_step HB1.out hb2)
    have H2 := Aside0.mk (H1.out.below hb2)
    clear hb2
    go_wp2_with fail
    refine (cost_any A n c _ _ w2 H2.out).mono ?_
    rintro e w3 ⟨rfl, hb3⟩
    rw [HCV.out]
    have HB3 := Aside0.mk (below_step HB2.out hb3)
    have H3 := Aside0.mk (H2.out.below hb3)
    clear hb3
    go_wp2_with fail
    refine (pack_any A n c _ w3 H3.out).mono ?_
    rintro e w4 ⟨v4, rfl, hr4, hb4⟩
    rw [HPV.out] at hr4
    rw [HCH.out]
    obtain ⟨A4, c4, hv4, hl4, hC4⟩ := Kd.R_reads hr4
    subst hv4
    have HB4 := Aside0.mk (below_step HB3.out hb4)
    clear hr4 hb4 hC4
    go_wp2_with fail
    go_loopw [8, 9, 10] (fun k _ _ w' => LRel w k w') (fun k _ _ _ => 32 - (intOf k).toNat)
    case atStart => exact ⟨0, by omega, rfl, HB4.out⟩
    case round =>
      obtain ⟨j, hj, rfl, hb⟩ := hrel
      have HB := Aside0.mk hb
      have HI := Aside0.mk (H.out.below hb)
      clear hb
      by_cases h31 : j ≤ 31
      · have hBT := HBT.out j h31
        have HCJ := Aside0.mk (costV_ints HOK.out j h31)
        have hlj := encL_len vs j HOK.out h31
        obtain ⟨M, hM⟩ : ∃ M, M = (encL vs j).length := ⟨_, rfl⟩
        rw [← hM] at hBT HCJ hlj
        clear hM
        obtain ⟨hle, heq⟩ := hBT
        go_wp2_with fail
        refine (cost_any A n c _ _ _ HI.out).mono ?_
        rintro e w5 ⟨rfl, hb5⟩
        rw [HCJ.out]
        have HB5 := Aside0.mk (below_step HB.out hb5)
        clear hb5
        by_cases he : M = E.length
        · have hbj := heq he
          clear heq
          go_wp2_with fail
          go_roundw
          case rel => exact ⟨j + 1, by omega, by go_num, HB5.out⟩
          case measure => simp [intOf]; omega
        · clear heq
          go_wp2_with fail
          go_roundw
          case rel => exact ⟨j + 1, by omega, by go_num, HB5.out⟩
          case measure => simp [intOf]; omega
      · have hj32 : j = 32 := by omega
        subst hj32
        go_wp2_with fail
        refine (awakeB_any _).mono ?_
        rintro e w6 ⟨rfl, hb6⟩
        have HB6 := Aside0.mk (below_step HB.out hb6)
        clear hb6
        go_wp2_with fail
        go_ret
        exact ⟨rfl, HB6.out⟩
  · obtain ⟨q, hq⟩ : ∃ q, q = checkV l := ⟨_, rfl⟩
    have HQ := Aside0.mk hq
    rw [← hq] at hc
    clear hq
    go_enter Try.func15, Try.ntmps15
    go_wp2_with fail
    refine (checkRef_any A n c _ w H.out).mono ?_
    rintro e w1 ⟨rfl, hb1⟩
    rw [← HQ.out]
    have HB1 := Aside0.mk hb1
    clear hb1
    go_wp2_with fail
    go_ret
    exact ⟨rfl, HB1.out⟩
end Go.Proofs.Ytbfnckjnpbgmaaa
