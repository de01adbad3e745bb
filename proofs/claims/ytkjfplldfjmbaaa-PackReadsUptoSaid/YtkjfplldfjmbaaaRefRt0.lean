/- tandemref10: L.right. -/
import Derived.Test.YtkjfplldfjmbaaaPackDatum3
import Derived.Test.YtkjfplldfjmbaaaRefPack
import Derived.Test.YtkjfplldfjmbaaaRefNum
namespace Go.Proofs.Ytkjfplldfjmbaaa
open Go.RowKit
/-- What right leaves. -/
def DrPost (gp : Nat) (R : HP) (o : Option Int) (w : World) (e : Ending) (w' : World) : Prop :=
  ∃ l : Int, e = .returned (.bool o.isSome) ∧ (∀ q, o = some q → l = 20000 - q) ∧ sat w' (blk gp (.cells #[.int .i64 l] 89 (0, 0)) * R) ∧ Below 0 w w'
def RightAt (d : Dm) (deep : Int) : Prop := ∀ (w : World) (R : HP) (gp : Nat) (p lf dp : Int) (cs : List Value), lf = 20000 - p → dp = 101 - deep → 0 ≤ p ∧ p ≤ 20000 → sat w (blk gp (.cells #[.int .i64 lf] 89 (0, 0)) * R) → DK R d cs →
  Calls Try.prog 49 #[.pointer (some ⟨gp, 0, none⟩), .agg cs.toArray, .int .i64 dp] w (DrPost gp R (okD d deep p) w)
theorem limbs_len_eq {l : List Int} (h : Limbs l) (e : (limbsOf (valL l)).length = l.length) : limbsOf (valL l) = l := by
  have h1 := limbsOf_take h
  rw [e, List.take_of_length_le (Nat.le_refl _)] at h1
  exact h1.symm
def DrRel (W : World) (gp : Nat) (G : HP) (l : List Dm) (deep q0 : Int) (i : Value) (wr : World) : Prop :=
  ∃ (j : Nat) (q lf : Int), j ≤ l.length ∧ i = .int .i64 j ∧ (0 ≤ q ∧ q ≤ 20000) ∧ lf = 20000 - q ∧ okDs (l.take j) (deep - 1) q0 = some q ∧ sat wr (blk gp (.cells #[.int .i64 lf] 89 (0, 0)) * G) ∧ Below 0 W wr
end Go.Proofs.Ytkjfplldfjmbaaa
