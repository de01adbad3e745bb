/- A chain of pairs, plainly. -/
import Derived.Test.YtanjiecefioffaaChain
namespace Go.Proofs.Ytanjiecefioffaa
open Go.RowKit

/-- Pairs of these items, the last one first; the heap and the first one's word. -/
def HS.chain (S : HS) (last : Int) : List Int → HS × Int
  | [] => (S, last)
  | x :: xs => ((HS.chain S last xs).1.cons x (HS.chain S last xs).2, 4 * (((HS.chain S last xs).1.ws.length : Nat) : Int))

theorem cons_len (S : HS) (a b : Int) : (S.cons a b).ws.length = S.ws.length + 3 ∧ (S.cons a b).size = S.size ∧ (S.cons a b).times = S.times := by
  unfold HS.cons HS.part
  simp
theorem chain_len (S : HS) (last : Int) : ∀ xs : List Int, (S.chain last xs).1.ws.length = S.ws.length + 3 * xs.length ∧ (S.chain last xs).1.size = S.size ∧ (S.chain last xs).1.times = S.times := by
  intro xs
  induction xs with
  | nil => exact ⟨rfl, rfl, rfl⟩
  | cons x xs ih =>
    unfold HS.chain
    obtain ⟨h1, h2, h3⟩ := cons_len (S.chain last xs).1 x (S.chain last xs).2
    refine ⟨?_, h2.trans ih.2.1, h3.trans ih.2.2⟩
    simp only [List.length_cons]
    rw [h1, ih.1]
    omega
theorem part_may {S : HS} (kind : Int) (t r : Nat) (z : Int) (xs : List Int) (i : Nat) {x : Int} (h : S.may x = true) : (S.part kind t r z xs i).may x = true := by
  unfold HS.may mayB at *
  simp only [Bool.or_eq_true, decide_eq_true_eq] at *
  rcases h with h1 | h1
  · exact .inl h1
  · right
    have h2 := isB_iff.1 h1
    refine isB_iff.2 ⟨h2.1, ?_⟩
    unfold HS.part
    simp only
    rw [List.getElem?_append_left (List.getElem?_eq_some_iff.1 h2.2).1]; exact h2.2
theorem chain_may (S : HS) (last : Int) {x : Int} (h : S.may x = true) : ∀ xs : List Int, (S.chain last xs).1.may x = true := by
  intro xs
  induction xs with
  | nil => exact h
  | cons y ys ih => unfold HS.chain; exact part_may 1 2 0 2 _ 2 ih
theorem chain_bs {S : HS} (hl : S.bs.length = S.ws.length) (last : Int) : ∀ xs : List Int, (S.chain last xs).1.bs.length = (S.chain last xs).1.ws.length := by
  intro xs
  induction xs with
  | nil => exact hl
  | cons y ys ih =>
    unfold HS.chain HS.cons HS.part
    simp [laid, ih]
theorem chain_snd {S : HS} (hl : S.bs.length = S.ws.length) {last : Int} (h : S.may last = true) : ∀ xs : List Int, (S.chain last xs).1.may (S.chain last xs).2 = true := by
  intro xs
  cases xs with
  | nil => exact h
  | cons y ys =>
    have h1 := part_is (chain_bs hl last ys) 1 2 0 2 [y, (S.chain last ys).2] 2
    unfold HS.chain HS.may mayB
    rw [Bool.or_eq_true]
    exact .inr h1
theorem chain_snd_u {S : HS} {last : Int} (h : 0 ≤ last ∧ last < 18446744073709551616) (xs : List Int) (hb : S.ws.length + 3 * xs.length ≤ 1048576) : 0 ≤ (S.chain last xs).2 ∧ (S.chain last xs).2 < 18446744073709551616 := by
  cases xs with
  | nil => exact h
  | cons y ys =>
    obtain ⟨h1, _⟩ := chain_len S last ys
    simp only [List.length_cons] at hb
    show 0 ≤ 4 * (((S.chain last ys).1.ws.length : Nat) : Int) ∧ 4 * (((S.chain last ys).1.ws.length : Nat) : Int) < 18446744073709551616
    rw [h1]
    omega
end Go.Proofs.Ytanjiecefioffaa
