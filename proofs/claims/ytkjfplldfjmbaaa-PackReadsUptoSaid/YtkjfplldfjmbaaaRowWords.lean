/- What came in: rows of integers, seen from a later world. -/
import Derived.Test.YtkjfplldfjmbaaaSep5
namespace Go.Proofs.Ytkjfplldfjmbaaa
open Go.RowKit

/-- WHAT THE WALK IS TOLD OF A SLICE OF INTEGERS THAT CAME IN (the words of proof-skeleton.mjs). -/
def IsRow (k : IntKind) (w : World) (a : Option Addr) (len cap : Nat) (zs : List Int) : Prop :=
  (a = none ∧ len = 0 ∧ cap = 0 ∧ zs = []) ∨
  ∃ x, a = some x ∧ len ≤ cap ∧ cap ≤ maxLen ∧ zs.length = cap ∧ (∀ i, i < zs.length → w.cell? (x.add i) = some (.int k (zs.getD i 0))) ∧ ∀ n ∈ zs, (Lit.int k n).wf = true

theorem sat.old_cell {W w : World} {P : HP} (h : sat w (P * whole W)) {a : Addr} {v : Value} (hc : W.cell? a = some v) : w.cell? a = some v := by
  have hb : a.block < W.heap.size := World.block_lt_of_cell? W a hc
  exact (World.cell?_of_block (h.right.whole_get a.block hb)).trans hc

theorem IsRow.cell {k : IntKind} {w : World} {a : Option Addr} {len cap : Nat} {zs : List Int} (h : IsRow k w a len cap zs) {i : Nat} (hi : i < len) :
    ∃ x, a = some x ∧ len ≤ cap ∧ zs.length = cap ∧ w.cell? (x.add i) = some (.int k (zs.getD i 0)) ∧ (Lit.int k (zs.getD i 0)).wf = true := by
  rcases h with ⟨_, rfl, _⟩ | ⟨x, rfl, hl, hm, hz, hc, hw⟩
  · omega
  · refine ⟨x, rfl, hl, hz, hc i (by omega), hw _ ?_⟩
    rw [List.getD_eq_getElem?_getD, List.getElem?_eq_getElem (by omega)]
    exact List.getElem_mem _
theorem IsRow.len_le {k : IntKind} {w : World} {a : Option Addr} {len cap : Nat} {zs : List Int} (h : IsRow k w a len cap zs) : len ≤ 9223372036854775807 := by
  rcases h with ⟨_, rfl, _⟩ | ⟨x, rfl, hl, hm, _⟩
  · omega
  · unfold maxLen at hm; omega
theorem below_of_whole {W w : World} {P : HP} (h : sat w (P * whole W)) (hb : Below 0 W w) : Below W.heap.size W w := ⟨hb.os, hb.tape, hb.output, hb.size, h.right.whole_get⟩
theorem below_of_whole' {W w : World} (h : sat w (whole W)) (hb : Below 0 W w) : Below W.heap.size W w := ⟨hb.os, hb.tape, hb.output, hb.size, h.whole_get⟩
end Go.Proofs.Ytkjfplldfjmbaaa
