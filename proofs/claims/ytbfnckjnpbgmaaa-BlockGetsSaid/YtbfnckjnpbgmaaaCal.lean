/- Calls that came in (a slice of structs), and what a list of calls appends. For every list of calls. -/
import Derived.Test.YtbfnckjnpbgmaaaPkr
namespace Go.Proofs.Ytbfnckjnpbgmaaa
open Go.RowKit Go.Proofs.YtbfnckjnpbgmaaaW.PrintWords Go.Proofs.YtbfnckjnpbgmaaaW.PrintLast Go.Proofs.YtbfnckjnpbgmaaaW.PrintMore
set_option linter.unusedVariables false

/-- A call: kind, number, count. -/
abbrev CallT := Int × Nat × Int
def CallAt (w : World) (a : Addr) (c : CallT) : Prop :=
  w.cell? a = some (.int .i64 c.1) ∧ w.cell? ⟨a.block, a.off + 1, none⟩ = some (.int .u64 (c.2.1 : Int)) ∧ w.cell? ⟨a.block, a.off + 2, none⟩ = some (.int .i64 c.2.2)
def CallOk (c : CallT) : Prop := c.2.1 < 18446744073709551616 ∧ -9223372036854775808 ≤ c.2.2 ∧ c.2.2 ≤ 9223372036854775807
def InCalls (w : World) (A : Option Addr) (n c : Nat) (cs : List CallT) : Prop :=
  cs.length = n ∧ n ≤ c ∧ (∀ q ∈ cs, CallOk q) ∧ (0 < n → ∃ x, A = some x ∧ ∀ k q, cs[k]? = some q → CallAt w (x.add (k * 3)) q)
theorem CallAt.below {w w1 : World} {a : Addr} {c : CallT} (h : CallAt w a c) (hb : Below w.heap.size w w1) : CallAt w1 a c :=
  ⟨pw_cell_below hb h.1, pw_cell_below hb h.2.1, pw_cell_below hb h.2.2⟩
theorem InCalls.below {w w1 : World} {A : Option Addr} {n c : Nat} {cs : List CallT} (h : InCalls w A n c cs) (hb : Below w.heap.size w w1) : InCalls w1 A n c cs :=
  ⟨h.1, h.2.1, h.2.2.1, fun hn => by
    obtain ⟨x, e, hx⟩ := h.2.2.2 hn
    exact ⟨x, e, fun k q hq => (hx k q hq).below hb⟩⟩
/-- The k-th call. -/
theorem InCalls.at_ {w : World} {A : Option Addr} {n c k : Nat} {cs : List CallT} (h : InCalls w A n c cs) (hk : k < n) : ∃ x q, A = some x ∧ cs[k]? = some q ∧ CallOk q ∧ CallAt w (x.add (k * 3)) q := by
  obtain ⟨x, e, hx⟩ := h.2.2.2 (by omega)
  have hl : k < cs.length := by rw [h.1]; exact hk
  refine ⟨x, cs[k], e, List.getElem?_eq_getElem hl, h.2.2.1 _ (List.getElem_mem hl), hx k _ (List.getElem?_eq_getElem hl)⟩

def callBits (c : CallT) : List Bool := (writeL c.1 c.2.1 c.2.2).getD []
def bitsOf (cs : List CallT) : List Bool := cs.flatMap callBits
theorem bitsOf_succ (cs : List CallT) (k : Nat) (q : CallT) (h : cs[k]? = some q) : bitsOf (cs.take (k + 1)) = bitsOf (cs.take k) ++ callBits q := by
  obtain ⟨hk, hq⟩ := List.getElem?_eq_some_iff.1 h
  rw [List.take_succ_eq_append_getElem hk, hq]
  simp [bitsOf]
theorem callBits_len (c : CallT) (h : CallOk c) : (callBits c).length ≤ 4097 := by
  have hb := bitLen_le c.2.1 h.1
  have hb2 := bitLen_le (Lib.bitLen c.2.1) (by omega)
  unfold callBits writeL
  split
  · split
    · simp only [Option.getD_some, lowL_length]; omega
    · simp
  · split
    · split
      · simp
      · simp only [Option.getD_some, unaryL, List.length_append, List.length_replicate, List.length_singleton]; omega
    · split
      · simp
      · split
        · simp only [Option.getD_some, gammaL_length]; omega
        · simp only [Option.getD_some, deltaL_length]; omega
theorem bitsOf_len (cs : List CallT) (h : ∀ q ∈ cs, CallOk q) : (bitsOf cs).length ≤ 4097 * cs.length := by
  induction cs with
  | nil => simp [bitsOf]
  | cons c cs ih =>
    have h1 := callBits_len c (h c (by simp))
    have h2 := ih (fun q hq => h q (by simp [hq]))
    simp only [bitsOf, List.flatMap_cons, List.length_append, List.length_cons] at *
    omega
theorem bitsOf_take_len (cs : List CallT) (h : ∀ q ∈ cs, CallOk q) (k : Nat) : (bitsOf (cs.take k)).length ≤ 4097 * cs.length := by
  have := bitsOf_len (cs.take k) (fun q hq => h q (List.mem_of_mem_take hq))
  rw [List.length_take] at this
  have : 4097 * min k cs.length ≤ 4097 * cs.length := Nat.mul_le_mul_left _ (Nat.min_le_right _ _)
  omega

theorem Half.grown {w w1 : World} {base g n : Nat} {row r : Option Nat} {B : List Int} (h : Half w base g row n B) (hg : w.grownBy w1 r) (h1 : some g ≠ r) (h2 : row = none ∨ row ≠ r) : Half w1 base g row n B := by
  obtain ⟨v, hc, hgb, ho, rfl⟩ := h
  exact ⟨v, blk_grown hc hg h1, hgb, ho.kept hg h2, rfl⟩
/-- A row of bools beside a Writer. -/
theorem Half.row_ne4 {w : World} {b b' g n m : Nat} {r : Option Nat} {B : List Int} {v : Value} {xs : List Value} (h : Half w b g r n B) (ho : w.ownsRow b' 4 1 v m xs) : v.ownBlock ≠ some g ∧ (v.ownBlock = none ∨ v.ownBlock ≠ r) ∧ (r = none ∨ r ≠ v.ownBlock) := by
  obtain ⟨v', hc, _, ho', rfl⟩ := h
  exact ⟨fun e => own_ne ho hc (by decide) e.symm, own_type_ne ho ho' (by decide), own_type_ne ho' ho (by decide)⟩
theorem own_CB {w : World} {base c : Nat} {A : Option Addr} {B : List Bool} (h : w.ownsRow base 4 1 (.slice A B.length c) B.length (encs Value.bool B)) : B.length ≤ c ∧ Kd.C Kd.bool w A B.length B := by
  have h1 : Kd.R Kd.bool 4 w base (fun _ => True) (.slice A B.length c) B := Kd.R_of_own h (fun _ _ => trivial)
  exact (Kd.R_reads' h1).2
/-- What is new since is not what a Writer writes. -/
theorem R_wrote {α : Type} {d : Kd α} {e base g : Nat} {ok : Nat → Prop} {w w1 : World} {v : Value} {xs : List α} {r0 r1 : Option Nat} (h : d.R e w base ok v xs) (hw : Wrote w w1 g r0 r1) (hg : g < base) (hr : ∀ k, r0 = some k → k < base) : d.R e w1 base ok v xs :=
  Kd.R_mono (Kd.R_step (Kd.R_bound h) (fun k hk hlt => hw.block k hlt (by have := hk.2.1; omega) (fun e => by have := hr k e.symm; have := hk.2.1; omega))) (fun _ hk => hk.1)
end Go.Proofs.Ytbfnckjnpbgmaaa
