/- A region that draws its order, whose own operations only read, and whose calls may make memory: one walk in a class of worlds. -/
import Derived.Test.YtkjfplldfjmbaaaSep5
namespace Go.Proofs.Ytkjfplldfjmbaaa
open Go.RowKit
theorem wp_region_class {P : Program} {id : Nat} {Q : Exit → Act → World → Prop} {a : Act} {w : World} {l : List Oper} {T : Type} (f : T → World) (hm : P.follows .mixedOrders = true) (hB : Region.lexB .any l.toArray = true)
    (hC : ∃ n, w.drewN 1 = f n) (h : wpQuiet P l.toArray (fun w' => ∃ n, w' = f n) (fun a' => ∀ w', (∃ n, w' = f n) → Q .normal a' w') l a) : (Code.region id l.toArray true).wp P Q a w :=
  wp_region_quiet (C := fun w' => ∃ n, w' = f n) hm hB hC (by simpa using h)
/-- The worlds of a kind, numbered. -/
theorem worlds_class (S : World → Prop) : ∃ (T : Type) (f : T → World), (∀ n, S (f n)) ∧ ∀ w', S w' → ∃ n, w' = f n :=
  ⟨{ w // S w }, Subtype.val, Subtype.property, fun w' h => ⟨⟨w', h⟩, rfl⟩⟩
end Go.Proofs.Ytkjfplldfjmbaaa
