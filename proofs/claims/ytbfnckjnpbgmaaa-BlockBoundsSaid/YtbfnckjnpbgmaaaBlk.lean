/- The encoding of a block: plain laws, and what the reference's Bytes and the program's cost compute. For at most 128 numbers below 2^31 and widths to 31. -/
import Derived.Test.YtbfnckjnpbgmaaaPkr
namespace Go.Proofs.Ytbfnckjnpbgmaaa
open Go.RowKit Go.Proofs.YtbfnckjnpbgmaaaW.PrintWords Go.Proofs.YtbfnckjnpbgmaaaW.PrintLast Go.Proofs.YtbfnckjnpbgmaaaW.PrintMore
set_option linter.unusedVariables false
set_option linter.unusedSimpArgs false

def ints (vs : List Nat) : List Int := List.map (fun (v : Nat) => (v : Int)) vs
theorem ints_length (vs : List Nat) : (ints vs).length = vs.length := by simp [ints]
theorem ints_getD (vs : List Nat) (i : Nat) : (ints vs).getD i 0 = ((vs.getD i 0 : Nat) : Int) := by
  rw [List.getD_eq_getElem?_getD, List.getD_eq_getElem?_getD, ints, List.getElem?_map]
  cases vs[i]? <;> simp

/-- The lowest w bits of each number. -/
def lowsL (w : Nat) : List Nat → List Bool
  | [] => []
  | v :: l => lowL v w ++ lowsL w l
/-- The exceptions' bytes; g: the difference of the next index and that of the last exception. -/
def excL (w : Nat) : Nat → List Nat → List Int
  | _, [] => []
  | g, v :: l => if v / 2 ^ w = 0 then excL w (g + 1) l else uvL g ++ uvL (v / 2 ^ w) ++ excL w 1 l
def gapL (w : Nat) : Nat → List Nat → Nat
  | g, [] => g
  | g, v :: l => if v / 2 ^ w = 0 then gapL w (g + 1) l else gapL w 1 l
def cntL (w : Nat) : List Nat → Nat
  | [] => 0
  | v :: l => (if v / 2 ^ w = 0 then 0 else 1) + cntL w l
def encL (vs : List Nat) (w : Nat) : List Int := uvL vs.length ++ uvL w ++ uvL (cntL w vs) ++ packL (lowsL w vs) ++ excL w 1 vs

theorem lowsL_snoc (w : Nat) (l : List Nat) (v : Nat) : lowsL w (l ++ [v]) = lowsL w l ++ lowL v w := by
  induction l with
  | nil => simp [lowsL]
  | cons a l ih => simp [lowsL, ih]
theorem excL_snoc (w : Nat) (l : List Nat) (v : Nat) : ∀ g, excL w g (l ++ [v]) = excL w g l ++ (if v / 2 ^ w = 0 then [] else uvL (gapL w g l) ++ uvL (v / 2 ^ w)) := by
  induction l with
  | nil => intro g; simp only [List.nil_append, excL, gapL]; split <;> simp
  | cons a l ih =>
    intro g
    simp only [List.cons_append, excL, gapL]
    split
    · rw [ih]
    · rw [ih, List.append_assoc, List.append_assoc, List.append_assoc]
theorem gapL_snoc (w : Nat) (l : List Nat) (v : Nat) : ∀ g, gapL w g (l ++ [v]) = if v / 2 ^ w = 0 then gapL w g l + 1 else 1 := by
  induction l with
  | nil => intro g; simp only [List.nil_append, gapL]
  | cons a l ih =>
    intro g
    simp only [List.cons_append, gapL]
    split <;> rw [ih]
theorem cntL_snoc (w : Nat) (l : List Nat) (v : Nat) : cntL w (l ++ [v]) = cntL w l + (if v / 2 ^ w = 0 then 0 else 1) := by
  induction l with
  | nil => simp [cntL]
  | cons a l ih => simp only [List.cons_append, cntL, ih]; omega
theorem lowsL_length (w : Nat) (l : List Nat) : (lowsL w l).length = l.length * w := by
  induction l with
  | nil => simp [lowsL]
  | cons a l ih => simp only [lowsL, List.length_append, lowL_length, ih, List.length_cons, Nat.succ_mul]; omega
theorem gapL_le (w : Nat) (l : List Nat) : ∀ g, 1 ≤ g → 1 ≤ gapL w g l ∧ gapL w g l ≤ g + l.length := by
  induction l with
  | nil => intro g hg; simp [gapL, hg]
  | cons a l ih =>
    intro g hg
    simp only [gapL, List.length_cons]
    split
    · have := ih (g + 1) (by omega); omega
    · have := ih 1 (by omega); omega
theorem cntL_le (w : Nat) (l : List Nat) : cntL w l ≤ l.length := by
  induction l with
  | nil => simp [cntL]
  | cons a l ih => simp only [cntL, List.length_cons]; split <;> omega
theorem excL_len (w : Nat) (l : List Nat) (hl : ∀ v ∈ l, v < 18446744073709551616) : ∀ g, g + l.length < 18446744073709551616 → (excL w g l).length ≤ 20 * l.length := by
  induction l with
  | nil => intro g _; simp [excL]
  | cons a l ih =>
    intro g hg
    have ha := hl a (by simp)
    have ih' := ih (fun v hv => hl v (by simp [hv]))
    simp only [excL, List.length_cons] at *
    split
    · have := ih' (g + 1) (by omega); omega
    · have h1 := uvL_len g (by omega)
      have h2 := uvL_len (a / 2 ^ w) (Nat.lt_of_le_of_lt (Nat.div_le_self _ _) ha)
      have := ih' 1 (by omega)
      simp only [List.length_append]
      omega
theorem excL_bytes (w : Nat) (l : List Nat) : ∀ g, IsBytes (excL w g l) := by
  induction l with
  | nil => intro g x hx; simp [excL] at hx
  | cons a l ih =>
    intro g
    simp only [excL]
    split
    · exact ih _
    · exact ((uvL_bytes _).append (uvL_bytes _)).append (ih _)
theorem encL_bytes (vs : List Nat) (w : Nat) : IsBytes (encL vs w) :=
  ((((uvL_bytes _).append (uvL_bytes _)).append (uvL_bytes _)).append (packL_bytes _)).append (excL_bytes _ _ _)
/-- A block's numbers. -/
def BlockOk (vs : List Nat) : Prop := vs.length ≤ 128 ∧ ∀ v ∈ vs, v < 2147483648
theorem encL_len (vs : List Nat) (w : Nat) (h : BlockOk vs) (hw : w ≤ 31) : (encL vs w).length ≤ 4000 := by
  have h1 := uvL_len vs.length (by have := h.1; omega)
  have h2 := uvL_len w (by omega)
  have h3 := uvL_len (cntL w vs) (by have := cntL_le w vs; have := h.1; omega)
  have h4 := packL_length (lowsL w vs)
  rw [lowsL_length] at h4
  have h5 := excL_len w vs (fun v hv => by have := h.2 v hv; omega) 1 (by have := h.1; omega)
  have h6 : vs.length * w ≤ 128 * 31 := Nat.mul_le_mul h.1 hw
  have := h.1
  simp only [encL, List.length_append]
  omega

/-! ### the reference's Bytes -/
theorem take_snoc {α : Type} (l : List α) (i : Nat) (z : α) (h : i < l.length) : l.take (i + 1) = l.take i ++ [l.getD i z] := by
  rw [List.take_succ_eq_append_getElem h, List.getD_eq_getElem?_getD, List.getElem?_eq_getElem h]; rfl
theorem shr_i64_nat (v w : Nat) (hw : w ≤ 64) : shr .i64 (v : Int) (w : Int) = ((v / 2 ^ w : Nat) : Int) := by
  unfold shr
  have e : min ((w : Int)).toNat IntKind.i64.bits = w := by
    have : IntKind.i64.bits = 64 := rfl
    omega
  rw [e]
  simp
theorem uvRef_k (k v : Nat) (hv : v < 18446744073709551616) (hk : 10 ≤ k) (hk2 : k < 140737488355328) : Refs.corporaref02_Uvarint.f k v = some (uvL v) := by
  unfold Refs.corporaref02_Uvarint.f
  rw [uvRef_l k v [] hv (by have := uvL_len v hv; omega) (by simpa using hk2), List.nil_append]
theorem packRef_k (k : Nat) (l : List Bool) (hlen : l.length < 1099511627776) (hk : l.length < k) : Refs.corporaref02_Pack.f k l = some (packL l) := by
  unfold Refs.corporaref02_Pack.f
  have e8 : wrap64 (Int.tdiv (wrap64 ((l.length : Int) + 7)) 8) = (((l.length + 7) / 8 : Nat) : Int) := by
    have : wrap64 ((l.length : Int) + 7) = ((l.length + 7 : Nat) : Int) := by unfold wrap64; omega
    rw [this, Int.tdiv_eq_ediv_of_nonneg (by omega)]; unfold wrap64; omega
  rw [e8, if_pos (by omega), Int.toNat_natCast, if_pos (by omega), ← padL_zero l]
  exact packRef_l l hlen l.length _ 0 (by omega) (by omega) (by omega)
theorem rd_ints (vs : List Nat) (i : Nat) : rd (ints vs) (i : Int) = ((vs.getD i 0 : Nat) : Int) := by rw [rd_nat, ints_getD]
theorem getD_lt {vs : List Nat} (h : BlockOk vs) (i : Nat) : vs.getD i 0 < 2147483648 := by
  rw [List.getD_eq_getElem?_getD]
  rcases Nat.lt_or_ge i vs.length with hi | hi
  · rw [List.getElem?_eq_getElem hi]; exact h.2 _ (List.getElem_mem hi)
  · rw [List.getElem?_eq_none hi]; simp

theorem bytesRef_l (vs : List Nat) (w : Nat) (h : BlockOk vs) (hw : w ≤ 31) (d : Nat) : ∀ (k i : Nat), vs.length - i = d → d + 5000 < k → k < 1000000 → i ≤ vs.length →
    Refs.corporaref15_Bytes.l0 k (ints vs) w (lowsL w (vs.take i)) (excL w 1 (vs.take i)) (cntL w (vs.take i)) ((i : Int) - gapL w 1 (vs.take i)) (ints vs) (vs.length : Int) i = some (encL vs w) := by
  have hn := h.1
  have hlows : ∀ i, (lowsL w (vs.take i)).length ≤ 3968 := by
    intro i
    rw [lowsL_length, List.length_take]
    have : min i vs.length * w ≤ 128 * 31 := Nat.mul_le_mul (by omega) hw
    omega
  have hexc : ∀ i, (excL w 1 (vs.take i)).length ≤ 2560 := by
    intro i
    have := excL_len w (vs.take i) (fun v hv => by have := h.2 v (List.mem_of_mem_take hv); omega) 1 (by rw [List.length_take]; omega)
    rw [List.length_take] at this
    omega
  induction d with
  | zero =>
    intro k i hd hk hk2 hi
    obtain ⟨k, rfl⟩ : ∃ m, k = m + 1 := ⟨k - 1, by omega⟩
    have : i = vs.length := by omega
    subst this
    have hc := cntL_le w vs
    have g1 := hlows vs.length
    have g2 := hexc vs.length
    rw [List.take_length] at g1 g2 ⊢
    have l1 := uvL_len vs.length (by omega)
    have l2 := uvL_len w (by omega)
    have l3 := uvL_len (cntL w vs) (by omega)
    have l4 := packL_length (lowsL w vs)
    rw [Refs.corporaref15_Bytes.l0, ints_length]
    rw [if_neg (by omega), wrap_u64_nat vs.length (by omega), wrap_u64_nat w (by omega), wrap_u64_nat (cntL w vs) (by omega),
      uvRef_k k _ (by omega) (by omega) (by omega), Option.bind_some, uvRef_k k w (by omega) (by omega) (by omega), Option.bind_some,
      if_pos (by omega), Option.bind_some, uvRef_k k (cntL w vs) (by omega) (by omega) (by omega), Option.bind_some,
      if_pos (by rw [List.length_append]; omega), Option.bind_some, packRef_k k _ (by omega) (by omega), Option.bind_some,
      if_pos (by rw [List.length_append, List.length_append]; omega), Option.bind_some,
      if_pos (by rw [List.length_append, List.length_append, List.length_append]; omega), encL]
  | succ d ih =>
    intro k i hd hk hk2 hi
    obtain ⟨k, rfl⟩ : ∃ m, k = m + 1 := ⟨k - 1, by omega⟩
    have hlt : i < vs.length := by omega
    obtain ⟨v, hv⟩ : ∃ v, v = vs.getD i 0 := ⟨_, rfl⟩
    have hvlt : v < 2147483648 := hv ▸ getD_lt h i
    have hts := take_snoc vs i 0 hlt
    rw [← hv] at hts
    have e1 : wrap64 ((i : Int) + 1) = ((i + 1 : Nat) : Int) := by unfold wrap64; omega
    have hg := gapL_le w (vs.take i) 1 (Nat.le_refl _)
    rw [List.length_take] at hg
    have eg : IntKind.u64.wrap (wrap64 ((i : Int) - ((i : Int) - (gapL w 1 (vs.take i) : Int)))) = ((gapL w 1 (vs.take i) : Nat) : Int) := by
      have : wrap64 ((i : Int) - ((i : Int) - (gapL w 1 (vs.take i) : Int))) = ((gapL w 1 (vs.take i) : Nat) : Int) := by unfold wrap64; omega
      rw [this, wrap_u64_nat _ (by omega)]
    have hq : v / 2 ^ w < 2147483648 := Nat.lt_of_le_of_lt (Nat.div_le_self _ _) hvlt
    have hnext := ih k (i + 1) (by omega) (by omega) (by omega) (by omega)
    have g1 := hlows i
    have g2 := hexc i
    have hll : (lowL v w).length = w := lowL_length v w
    rw [hts, lowsL_snoc, excL_snoc, cntL_snoc, gapL_snoc] at hnext
    rw [Refs.corporaref15_Bytes.l0, ints_length]
    rw [if_pos (by omega), if_pos (by omega), if_pos (by omega), rd_ints, ← hv, wrap_u64_nat v (by omega), lowRef_f v (by omega) w k (by omega) (by omega), Option.bind_some,
      if_pos (by omega), Option.bind_some, wrap_u64_nat w (by omega), if_pos (by omega), shr_i64_nat v w (by omega), e1]
    generalize v / 2 ^ w = q at hq hnext ⊢
    by_cases hz : q = 0
    · rw [if_pos (by rw [hz]; rfl)]
      rw [if_pos hz, if_pos hz, if_pos hz, List.append_nil, Nat.add_zero] at hnext
      have e2 : (((i + 1 : Nat) : Int) - ((gapL w 1 (vs.take i) + 1 : Nat) : Int)) = (i : Int) - (gapL w 1 (vs.take i) : Int) := by omega
      rw [e2] at hnext
      exact hnext
    · have l1 := uvL_len (gapL w 1 (vs.take i)) (by omega)
      have l2 := uvL_len q (by omega)
      have hz2 : ¬ ((q : Int) = 0) := by omega
      have hcw : wrap64 ((cntL w (vs.take i) : Int) + 1) = ((cntL w (vs.take i) + 1 : Nat) : Int) := by
        have := cntL_le w (vs.take i)
        rw [List.length_take] at this
        unfold wrap64; omega
      rw [if_neg hz, if_neg hz, if_neg hz] at hnext
      have e2 : (((i + 1 : Nat) : Int) - ((1 : Nat) : Int)) = (i : Int) := by omega
      rw [e2, ← List.append_assoc] at hnext
      rw [if_neg hz2, eg, uvRef_k k _ (by omega) (by omega) (by omega), Option.bind_some, if_pos (by omega), Option.bind_some, wrap_u64_nat q (by omega), uvRef_k k q (by omega) (by omega) (by omega), Option.bind_some,
        if_pos (by rw [List.length_append]; omega), hcw]
      exact hnext
theorem bytesRef_f (vs : List Nat) (w k : Nat) (h : BlockOk vs) (hw : w ≤ 31) (hk : 6000 < k) (hk2 : k < 1000000) : Refs.corporaref15_Bytes.f k (ints vs) w = some (encL vs w) := by
  unfold Refs.corporaref15_Bytes.f
  have := bytesRef_l vs w h hw vs.length k 0 (by omega) (by have := h.1; omega) hk2 (by omega)
  simpa [lowsL, excL, cntL, gapL, ints_length] using this
end Go.Proofs.Ytbfnckjnpbgmaaa
