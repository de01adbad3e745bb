/- SameWords. -/
import Derived.Test.YtkjfplldfjmbaaaRowWords
import Derived.Test.YtkjfplldfjmbaaaSaysW
import Derived.Test.YtkjfplldfjmbaaaSep3
namespace Go.Proofs.Ytkjfplldfjmbaaa
open Go.RowKit

/-- The words xs can be read here. -/
def Reads (w : World) (ao : Option Addr) (xs : List Int) : Prop := ∀ (j : Nat) x, xs[j]? = some x → ∃ a, ao = some a ∧ w.cell? (a.add j) = some (.int .u64 x)
theorem Reads.drewN {w : World} {ao : Option Addr} {xs : List Int} (h : Reads w ao xs) (n : Nat) : Reads (w.drewN n) ao xs := h

def SameRel (w : World) (xs ys : List Int) (i : Value) (wr : World) : Prop :=
  ∃ k n : Nat, k ≤ xs.length ∧ i = .int .i64 k ∧ wr = w.drewN n ∧ ∀ j, j < k → xs[j]? = ys[j]?

theorem same_false {xs ys : List Int} {k : Nat} {x y : Int} (hx : xs[k]? = some x) (hy : ys[k]? = some y) (h : ¬ x = y) : decide (xs = ys) = false := by
  rw [decide_eq_false_iff_not]
  rintro rfl
  rw [hx] at hy; cases hy; exact h rfl


theorem reads_row {w : World} {b cap : Nat} {xs : List Int} {R : HP} (h : sat w (row 117 1 b cap (xs.map u64) * R)) : Reads w (some ⟨b, 0, none⟩) xs := by
  intro j x hx
  refine ⟨_, rfl, ?_⟩
  have ha : ((⟨b, 0, none⟩ : Addr).add j) = ⟨b, j, none⟩ := by unfold Addr.add; split <;> simp_all
  rw [ha]
  exact h.row_cell (by rw [List.getElem?_map, hx]; rfl)
end Go.Proofs.Ytkjfplldfjmbaaa
