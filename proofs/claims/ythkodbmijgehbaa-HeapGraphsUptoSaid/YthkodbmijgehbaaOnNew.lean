/- law03's New: both heaps, or neither. -/
import Derived.Test.YthkodbmijgehbaaOnPure
namespace Go.Proofs.Ythkodbmijgehbaa
open Go.RowKit

/-- The heap and the document's, told alike. -/
structure Pair (w : World) (O : OV) (V : HV) (V2 : RV) (S : HS) (R : HP) : Prop where
  s : sat w (isOn O * (isHeap V S * (isRef V2 S * R)))
  p : O.p = V.g
  q : O.q = V2.g
  ok : HOk V S

section
variable {w : World} {R : HP}
set_option maxHeartbeats 400000 in
theorem onNew_bad (n : Int) (hs : sat w R) (h : n < 2 ∨ 1048576 < n) :
    Calls Try.prog 36 #[.int .i64 n] w fun e w' => ∃ b, e = .returned (.tuple #[.pointer (some ⟨b, 0, none⟩), .bool true]) ∧ Below 0 w w' ∧
      sat w' (blk b (.cells #[.pointer none, .pointer none, .slice none 0 0] 48 (0, 0)) * R) := by
  go_enter Try.func36, Try.ntmps36
  go_wp2_with fail
  refine (New_bad n h).mono ?_
  rintro e w1 ⟨rfl, j1, rfl⟩
  go_wp2_with fail
  refine (RNew_bad n h).mono ?_
  rintro e w2 ⟨rfl, j2, rfl⟩
  go_wp2_with fail
  go_ret2
  exact ⟨_, rfl, (drewN_below0 w (j1 + j2)).trans (Below.zero_alloc _ _), (sat.drewN hs (j1 + j2)).alloc _⟩

set_option maxHeartbeats 400000 in
theorem onNew_good (n : Nat) (hs : sat w R) (h1 : 2 ≤ n) (h2 : n ≤ 1048576) :
    Calls Try.prog 36 #[.int .i64 n] w fun e w' => ∃ (O : OV) (V : HV) (V2 : RV), e = .returned (.tuple #[.pointer (some ⟨O.g, 0, none⟩), .bool true]) ∧ Below 0 w w' ∧ O.obj = [] ∧ Pair w' O V V2 (HS.new n) R := by
  go_enter Try.func36, Try.ntmps36
  go_wp2_with fail
  refine (New_good n hs h1 h2).mono ?_
  rintro e w1 ⟨V, rfl, hw1, hb1⟩
  go_wp2_with fail
  refine (RNew_good n hw1.s h1 h2).mono ?_
  rintro e w2 ⟨V2, rfl, hw2, hb2⟩
  go_wp2_with fail
  go_ret2
  refine ⟨⟨w2.heap.size, V.g, V2.g, .slice none 0 0, []⟩, V, V2, rfl, (hb1.trans hb2).trans (Below.zero_alloc _ _), rfl, ⟨?_, rfl, rfl, hw1.ok⟩⟩
  have h3 := ((hw2.s.alloc (.cells #[.pointer (some ⟨V.g, 0, none⟩), .pointer (some ⟨V2.g, 0, none⟩), .slice none 0 0] 48)).nil_own (e := 28) (sz := 1))
  refine h3.perm ?_
  unfold isOn
  simp only [List.length_nil, List.map_nil]
  ac_rfl
end
end Go.Proofs.Ythkodbmijgehbaa
