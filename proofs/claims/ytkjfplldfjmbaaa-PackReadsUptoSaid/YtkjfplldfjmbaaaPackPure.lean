/- Numbers, texts and data as bytes. -/
import Derived.Test.YtkjfplldfjmbaaaRefNum
import Derived.Test.YtkjfplldfjmbaaaDmSame
import Derived.Test.YtkjfplldfjmbaaaSepStr
namespace Go.Proofs.Ytkjfplldfjmbaaa
open Go.RowKit

/-- A number's bytes. -/
def numB (n : Nat) : List Int := if _h : n < 128 then [(n : Int)] else ((n % 128 + 128 : Nat) : Int) :: numB (n / 128)
termination_by n
decreasing_by omega
theorem numB_lt {n : Nat} (h : n < 128) : numB n = [(n : Int)] := by rw [numB, dif_pos h]
theorem numB_ge {n : Nat} (h : ¬ n < 128) : numB n = ((n % 128 + 128 : Nat) : Int) :: numB (n / 128) := by rw [numB, dif_neg h]
theorem numB_len : ∀ (k n : Nat), n < 128 ^ k → 0 < k → (numB n).length ≤ k
  | 0, _, _, h => absurd h (by decide)
  | k + 1, n, h, _ => by
    by_cases hn : n < 128
    · rw [numB_lt hn]; simp
    · rw [numB_ge hn, List.length_cons]
      cases k with
      | zero => simp at h; omega
      | succ k =>
        have := numB_len (k + 1) (n / 128) (by rw [Nat.pow_succ] at h; omega) (by omega)
        omega
theorem numB_pos (n : Nat) : 0 < (numB n).length := by
  by_cases hn : n < 128
  · rw [numB_lt hn]; simp
  · rw [numB_ge hn]; simp
theorem numB_ten {n : Nat} (h : n < 9223372036854775808) : (numB n).length ≤ 9 := numB_len 9 n (by simpa using h) (by decide)
theorem numB_byte (n : Nat) : ∀ x ∈ numB n, 0 ≤ x ∧ x < 256 := by
  induction n using Nat.strongRecOn with
  | ind n ih =>
    intro x hx
    by_cases hn : n < 128
    · rw [numB_lt hn] at hx
      rw [List.mem_singleton.1 hx]
      omega
    · rw [numB_ge hn] at hx
      rcases List.mem_cons.1 hx with rfl | hx
      · omega
      · exact ih (n / 128) (by omega) x hx
/-- A signed number's bytes. -/
def zigN (v : Int) : Nat := if v < 0 then (-2 * v - 1).toNat else (2 * v).toNat
abbrev zigB (v : Int) : List Int := numB (zigN v)
/-- A text's bytes, told by their number. -/
def textB (s : ByteArray) : List Int := numB s.size ++ bytesO s
def bitB (b : Bool) : List Int := [if b then 1 else 0]
theorem textB_len (s : ByteArray) (h : s.size < 9223372036854775808) : (textB s).length ≤ s.size + 9 := by
  unfold textB
  rw [List.length_append, bytesO_len]
  have := numB_ten h
  omega
theorem byte_or (n : Nat) : bits .or .u8 ((n : Int) % 256) 128 = ((n % 128 + 128 : Nat) : Int) := by
  have key : ∀ i : Fin 256, bits .or .u8 ((i.1 : Nat) : Int) 128 = ((i.1 % 128 + 128 : Nat) : Int) := by decide +kernel
  have h1 : (n : Int) % 256 = ((n % 256 : Nat) : Int) := by omega
  rw [h1]
  have := key ⟨n % 256, Nat.mod_lt _ (by decide)⟩
  simp only at this
  rw [this]
  congr 2
  omega
theorem byte_small (n : Nat) (h : n < 128) : IntKind.u8.wrap (n : Int) = (n : Int) := by rw [IntKind.wrap_u8]; omega
end Go.Proofs.Ytkjfplldfjmbaaa
