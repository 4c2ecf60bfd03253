/- The bytes of a number of variable length: plain laws. For every number below 2^64. -/
import Derived.Test.YtbfnckjnpbgmaaaBits
namespace Go.Proofs.Ytbfnckjnpbgmaaa
open Go

/-- The encoding of a number. -/
def uvL (v : Nat) : List Int := if 128 ≤ v then ((v % 128 + 128 : Nat) : Int) :: uvL (v / 128) else [(v : Int)]
termination_by v
decreasing_by omega
theorem uvL_ge {v : Nat} (h : 128 ≤ v) : uvL v = ((v % 128 + 128 : Nat) : Int) :: uvL (v / 128) := by rw [uvL, if_pos h]
theorem uvL_lt {v : Nat} (h : ¬ 128 ≤ v) : uvL v = [(v : Int)] := by rw [uvL, if_neg h]
theorem uvL_pos (v : Nat) : 1 ≤ (uvL v).length := by
  by_cases h : 128 ≤ v
  · rw [uvL_ge h]; simp
  · rw [uvL_lt h]; simp
theorem uvL_len_le (k : Nat) : ∀ v : Nat, v < 2 ^ (7 * (k + 1)) → (uvL v).length ≤ k + 1 := by
  induction k with
  | zero => intro v hv; rw [uvL_lt (by omega)]; simp
  | succ k ih =>
    intro v hv
    by_cases h : 128 ≤ v
    · rw [uvL_ge h]
      have : v / 128 < 2 ^ (7 * (k + 1)) := by
        rw [Nat.div_lt_iff_lt_mul (by decide)]
        have e : 2 ^ (7 * (k + 1)) * 128 = 2 ^ (7 * (k + 1 + 1)) := by rw [show (128 : Nat) = 2 ^ 7 from rfl, ← Nat.pow_add]; congr 1
        omega
      have := ih _ this
      simp only [List.length_cons]
      omega
    · rw [uvL_lt h]; simp
theorem uvL_len (v : Nat) (h : v < 18446744073709551616) : (uvL v).length ≤ 10 :=
  uvL_len_le 9 v (Nat.lt_of_lt_of_le h (by decide))
theorem uvL_bytes (v : Nat) : IsBytes (uvL v) := by
  induction v using Nat.strongRecOn with
  | _ v ih =>
    by_cases h : 128 ≤ v
    · rw [uvL_ge h]
      intro x hx
      rcases List.mem_cons.1 hx with rfl | hx
      · omega
      · exact ih (v / 128) (by omega) x hx
    · rw [uvL_lt h]
      intro x hx
      rcases List.mem_cons.1 hx with rfl | hx
      · omega
      · cases hx
theorem or128_fin : ∀ x : Fin 256, (x.val ||| 128) = x.val % 128 + 128 := by decide +kernel
theorem or128 (x : Nat) : bits .or .u8 ((x : Int) % 256) 128 = ((x % 128 + 128 : Nat) : Int) := by
  have h := or128_fin ⟨x % 256, by omega⟩
  simp only at h
  rw [or_u8 _ _ (by omega) (by omega) (by omega) (by omega)]
  have e : ((x : Int) % 256).toNat = x % 256 := by omega
  rw [e, show (128 : Int).toNat = 128 from rfl, h]
  omega

end Go.Proofs.Ytbfnckjnpbgmaaa
