/- tandemref10: L.right. -/
import Derived.Test.YtkjfplldfjmbaaaRefRt1
import Derived.Test.YtkjfplldfjmbaaaRefRt2
import Derived.Test.YtkjfplldfjmbaaaRefRt3
import Derived.Test.YtkjfplldfjmbaaaRefRt4
import Derived.Test.YtkjfplldfjmbaaaRefRt5
namespace Go.Proofs.Ytkjfplldfjmbaaa
open Go.RowKit
/-- right of whatever datum. -/
theorem rights_all : ∀ s : Nat, s ≤ 1048576 → ∀ d : Dm, d.size ≤ s → ∀ deep : Int, 0 ≤ deep ∧ deep ≤ 100 → RightAt d deep := by
  intro s
  induction s with
  | zero => intro _ d hd; have := d.size_pos; omega
  | succ s ih =>
    intro hs d hd deep hdp w R gp p lf dp cs hlf hdq hp h1 hdk
    cases d with
    | mk k n neg mag text items rest =>
    obtain ⟨am, cm, ai, ci, ar, cr, rfl, _⟩ := hdk.open
    unfold Dm.size at hd
    have hl1 := Dm.len_le items
    have hl2 := Dm.len_le rest
    have q1 : 0 < deep → ∀ d ∈ items, RightAt d (deep - 1) := by
      intro h0 d hd'
      obtain ⟨i, hi⟩ := List.mem_iff_getElem?.1 hd'
      have := Dm.size_le hi
      exact ih (by omega) d (by omega) (deep - 1) (by omega)
    have q2 : 0 < deep → ∀ d ∈ rest, RightAt d (deep - 1) := by
      intro h0 d hd'
      obtain ⟨i, hi⟩ := List.mem_iff_getElem?.1 hd'
      have := Dm.size_le hi
      exact ih (by omega) d (by omega) (deep - 1) (by omega)
    have hszz : mag.length ≤ 1048576 ∧ items.length ≤ 1048576 ∧ rest.length ≤ 1048576 := by omega
    by_cases h11 : k = 1
    · exact right_step1 k n neg mag text items rest _ _ _ h11 rfl rfl rfl hszz deep hdp q1 q2 w R gp p lf dp hlf hdq hp am cm ai ci ar cr h1 hdk
    by_cases h12 : k = 2
    · exact right_step2 k n neg mag text items rest _ _ _ h12 rfl rfl rfl hszz deep hdp q1 q2 w R gp p lf dp hlf hdq hp am cm ai ci ar cr h1 hdk
    by_cases h13 : k = 3
    · exact right_step3 k n neg mag text items rest _ _ _ h13 rfl rfl rfl hszz deep hdp q1 q2 w R gp p lf dp hlf hdq hp am cm ai ci ar cr h1 hdk
    by_cases h14 : k = 4
    · exact right_step4 k n neg mag text items rest _ _ _ h14 rfl rfl rfl hszz deep hdp q1 q2 w R gp p lf dp hlf hdq hp am cm ai ci ar cr h1 hdk
    by_cases h15 : k = 5
    · exact right_step5 k n neg mag text items rest _ _ _ h15 rfl rfl rfl hszz deep hdp q1 q2 w R gp p lf dp hlf hdq hp am cm ai ci ar cr h1 hdk
    by_cases h16 : k = 6
    · exact right_step6 k n neg mag text items rest _ _ _ h16 rfl rfl rfl hszz deep hdp q1 q2 w R gp p lf dp hlf hdq hp am cm ai ci ar cr h1 hdk
    by_cases h17 : k = 7
    · exact right_step7 k n neg mag text items rest _ _ _ h17 rfl rfl rfl hszz deep hdp q1 q2 w R gp p lf dp hlf hdq hp am cm ai ci ar cr h1 hdk
    by_cases h18 : k = 8
    · exact right_step8 k n neg mag text items rest _ _ _ h18 rfl rfl rfl hszz deep hdp q1 q2 w R gp p lf dp hlf hdq hp am cm ai ci ar cr h1 hdk
    by_cases h19 : k = 9
    · exact right_step9 k n neg mag text items rest _ _ _ h19 rfl rfl rfl hszz deep hdp q1 q2 w R gp p lf dp hlf hdq hp am cm ai ci ar cr h1 hdk
    exact right_step0 k n neg mag text items rest _ _ _ ⟨h11, h12, h13, h14, h15, h16, h17, h18, h19⟩ rfl rfl rfl hszz deep hdp q1 q2 w R gp p lf dp hlf hdq hp am cm ai ci ar cr h1 hdk
theorem ref_right {d : Dm} (hz : d.size ≤ 1048576) {deep : Int} (hdp : 0 ≤ deep ∧ deep ≤ 100) : RightAt d deep := rights_all 1048576 (Nat.le_refl _) d hz deep hdp
end Go.Proofs.Ytkjfplldfjmbaaa
