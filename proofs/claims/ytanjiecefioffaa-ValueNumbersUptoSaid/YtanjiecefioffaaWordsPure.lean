/- Bytes as words, eight a word, behind their number: plainly. -/
import Derived.Test.YtanjiecefioffaaRowWords
namespace Go.Proofs.Ytanjiecefioffaa
open Go.RowKit

/-- Some bytes as one number, the first one lowest. -/
def packB : List Int → Int
  | [] => 0
  | x :: l => x + 256 * packB l
/-- The word number q of these bytes. -/
def wordB (b : List Int) (q : Nat) : Int := packB ((b.drop (8 * q)).take 8)
def wordsB (b : List Int) (n : Nat) : List Int := (List.range n).map (wordB b)
def wordsOf (b : List Int) : List Int := (b.length : Int) :: wordsB b ((b.length + 7) / 8)
def Bytes (b : List Int) : Prop := ∀ x ∈ b, 0 ≤ x ∧ x < 256

theorem packB_bd : ∀ {l : List Int}, Bytes l → 0 ≤ packB l ∧ packB l < 256 ^ l.length
  | [], _ => by simp [packB]
  | x :: l, h => by
    have hx := h x (by simp)
    have ih := packB_bd (l := l) (fun y hy => h y (by simp [hy]))
    simp only [packB, List.length_cons]
    have e : (256 : Int) ^ (l.length + 1) = 256 * 256 ^ l.length := by rw [Int.pow_succ, Int.mul_comm]
    rw [e]
    constructor
    · omega
    · have : packB l + 1 ≤ 256 ^ l.length := by omega
      have := Int.mul_le_mul_of_nonneg_left this (show (0 : Int) ≤ 256 by decide)
      omega
theorem packB_app : ∀ (l : List Int) (x : Int), packB (l ++ [x]) = packB l + 256 ^ l.length * x
  | [], x => by simp [packB]
  | y :: l, x => by
    simp only [List.cons_append, packB, packB_app l x, List.length_cons]
    rw [Int.pow_succ]
    generalize (256 : Int) ^ l.length = a
    rw [Int.mul_add, ← Int.mul_assoc, Int.mul_comm 256 a, Int.add_assoc]

theorem wordB_bd {b : List Int} (h : Bytes b) (q : Nat) : 0 ≤ wordB b q ∧ wordB b q < 18446744073709551616 := by
  unfold wordB
  have h1 : Bytes ((b.drop (8 * q)).take 8) := fun x hx => h x (List.mem_of_mem_drop (List.mem_of_mem_take hx))
  have h2 := packB_bd h1
  have h3 : ((b.drop (8 * q)).take 8).length ≤ 8 := by rw [List.length_take]; omega
  refine ⟨h2.1, Int.lt_of_lt_of_le h2.2 ?_⟩
  have : (256 : Int) ^ ((b.drop (8 * q)).take 8).length ≤ 256 ^ 8 := by
    generalize ((b.drop (8 * q)).take 8).length = m at h3
    match m, h3 with
    | 0, _ => decide
    | 1, _ => decide
    | 2, _ => decide
    | 3, _ => decide
    | 4, _ => decide
    | 5, _ => decide
    | 6, _ => decide
    | 7, _ => decide
    | 8, _ => decide
  exact this

/-- One byte more. -/
theorem wordB_step {b : List Int} {k : Nat} {x : Int} (hx : b[k]? = some x) (q : Nat) :
    wordB (b.take (k + 1)) q = if q = k / 8 then wordB (b.take k) q + 256 ^ (k % 8) * x else wordB (b.take k) q := by
  have hk := (List.getElem?_eq_some_iff.1 hx).1
  have e : b.take (k + 1) = b.take k ++ [x] := by rw [List.take_add_one, hx]; rfl
  have hl : (b.take k).length = k := by rw [List.length_take]; omega
  unfold wordB
  rw [e]
  split
  · rename_i hq
    subst hq
    rw [List.drop_append_of_le_length (by omega)]
    have hd : ((b.take k).drop (8 * (k / 8))).length = k % 8 := by rw [List.length_drop, hl]; omega
    rw [List.take_of_length_le (by simp [hd]; omega), packB_app, hd, List.take_of_length_le (l := (b.take k).drop (8 * (k / 8))) (by omega)]
  · rename_i hq
    rcases Nat.lt_or_ge k (8 * q) with a | a
    · rw [List.drop_eq_nil_of_le (by simp; omega), List.drop_eq_nil_of_le (by simp; omega)]
    · have h8 : 8 * q + 8 ≤ k := by omega
      rw [List.drop_append_of_le_length (by omega), List.take_append_of_le_length (by rw [List.length_drop, hl]; omega)]
theorem wordB_low {b : List Int} (h : Bytes b) (k : Nat) (hk : k ≤ b.length) : wordB (b.take k) (k / 8) < 256 ^ (k % 8) := by
  unfold wordB
  have hl : (b.take k).length = k := by rw [List.length_take]; omega
  have hd : ((b.take k).drop (8 * (k / 8))).length = k % 8 := by rw [List.length_drop, hl]; omega
  rw [List.take_of_length_le (l := (b.take k).drop (8 * (k / 8))) (by omega)]
  have h1 : Bytes ((b.take k).drop (8 * (k / 8))) := fun x hx => h x (List.mem_of_mem_take (List.mem_of_mem_drop hx))
  have := (packB_bd h1).2
  rw [hd] at this
  exact this
theorem wordB_none (b : List Int) (q : Nat) (h : b.length ≤ 8 * q) : wordB b q = 0 := by
  unfold wordB; rw [List.drop_eq_nil_of_le h]; rfl
end Go.Proofs.Ytanjiecefioffaa
