/- A heap is made: empty, New. -/
import Derived.Test.YtanjiecefioffaaHeapLay
namespace Go.Proofs.Ytanjiecefioffaa
open Go.RowKit

section
variable {w : World} {R : HP}

def EmptyPost (R : HP) (w : World) (e : Ending) (w' : World) : Prop :=
  ∃ b1 b2, e = .returned (.agg #[.slice (some ⟨b1, 0, none⟩) 1 1, .slice (some ⟨b2, 0, none⟩) 1 1]) ∧ sat w' (row 22 1 b1 1 [.int .u64 0] * (row 4 1 b2 1 [.bool false] * R)) ∧ Below 0 w w'

set_option maxHeartbeats 400000 in
theorem empty_any (hs : sat w R) : Calls Try.prog 79 #[] w (EmptyPost R w) := by
  go_enter Try.func79, Try.ntmps79
  go_wp2_with fail
  refine bodyPost_ret (v := .agg #[.slice (some ⟨w.heap.size + 1, 0, none⟩) 1 1, .slice (some ⟨w.heap.size + 1 + 1, 0, none⟩) 1 1]) (by simp [results, Try.results79, go_sem]) rfl ⟨_, _, rfl, ?_, ?_⟩
  · generalize hA : (w.alloc (.cells #[.slice (some ⟨w.heap.size + 1, 0, none⟩) 1 1, .slice (some ⟨w.heap.size + 1 + 1, 0, none⟩) 1 1] 93)) = wa
    have h0 : sat wa R := by rw [← hA]; exact (hs.alloc _).right
    have hz : w.heap.size + 1 = wa.heap.size := by rw [← hA]; simp
    have h1 := h0.alloc (.cells #[.int .u64 0] 22)
    have h2 := h1.alloc (.cells #[.bool false] 4)
    rw [hz]
    have hz2 : wa.heap.size + 1 = (wa.alloc (.cells #[.int .u64 0] 22)).heap.size := by simp
    rw [hz2]
    have h3 := HP.comm _ _ ▸ h2
    have h4 := (h2.shut_row (xs := [.bool false]) (cap := 1) (sz := 1) rfl (by simp) (by unfold maxLen; omega) rfl)
    have h5 : sat _ (blk wa.heap.size (.cells #[.int .u64 0] 22 (0, 0)) * (row 4 1 (wa.alloc (.cells #[.int .u64 0] 22)).heap.size 1 [.bool false] * R)) := h4.perm (by ac_rfl)
    exact h5.shut_row rfl (by simp) (by unfold maxLen; omega) rfl
  · exact ((Below.zero_alloc _ _).trans (Below.zero_alloc _ _)).trans (Below.zero_alloc _ _)

set_option maxHeartbeats 400000 in
theorem New_bad (n : Int) (h : n < 2 ∨ 1048576 < n) : Calls Try.prog 49 #[.int .i64 n] w (Says (.tuple #[.pointer none, .int .i64 1]) w) := by
  by_cases h1 : n < 2
  · go_enter Try.func49, Try.ntmps49
    go_wp2_with fail
    go_ret2
    exact says_ret0 rfl
  · have h2 : 1048576 < n := by omega
    go_enter Try.func49, Try.ntmps49
    go_wp2_with fail
    go_ret2
    exact says_ret0 rfl

def HS.new (n : Nat) : HS := ⟨n, [0], [false], 0⟩
def NewPost (n : Nat) (R : HP) (w : World) (e : Ending) (w' : World) : Prop :=
  ∃ V, e = .returned (.tuple #[.pointer (some ⟨V.g, 0, none⟩), .int .i64 0]) ∧ HeapW w' V (HS.new n) R ∧ Below 0 w w'

theorem HOk_new (V : HV) (n : Nat) (h : V.inn < 2) (h1 : 2 ≤ n) (h2 : n ≤ 1048576) : HOk V (HS.new n) := by
  have hno : ∀ k : Nat, (HS.new n).bs[k]? = some true → False := by
    intro k hk
    simp only [HS.new] at hk
    rcases k with _ | k <;> simp at hk
  refine ⟨h, h1, h2, by simp [HS.new]; omega, ⟨rfl, by simp [HS.new], ?_, fun k hk => (hno k hk).elim, ⟨rfl, rfl⟩, .inl rfl, fun k hk => (hno k hk).elim, fun k hk => (hno k hk).elim, fun k _ hk => (hno k hk).elim⟩, by simp [HS.new], fun k _ hk => (hno k hk).elim⟩
  intro x hx; simp [HS.new] at hx; subst hx; decide

set_option maxHeartbeats 400000 in
theorem New_good (n : Nat) (hs : sat w R) (h1 : 2 ≤ n) (h2 : n ≤ 1048576) : Calls Try.prog 49 #[.int .i64 n] w (NewPost n R w) := by
  go_enter Try.func49, Try.ntmps49
  go_wp2_with fail
  refine (empty_any hs).mono ?_
  rintro e w1 ⟨b1, b2, rfl, hs1, hb1⟩
  go_wp2_with fail
  refine (empty_any hs1).mono ?_
  rintro e w2 ⟨c1, c2, rfl, hs2, hb2⟩
  go_wp2_with fail
  go_ret2
  refine ⟨⟨w2.heap.size, 0, b1, 1, b2, 1, .slice (some ⟨c1, 0, none⟩) 1 1, .slice (some ⟨c2, 0, none⟩) 1 1⟩, rfl, ⟨?_, HOk_new _ n Nat.zero_lt_two h1 h2⟩, (hb1.trans hb2).trans (Below.zero_alloc _ _)⟩
  have h3 := hs2.alloc (.cells #[.int .i64 n, .slice (some ⟨b1, 0, none⟩) 1 1, .slice (some ⟨b2, 0, none⟩) 1 1, .slice (some ⟨c1, 0, none⟩) 1 1, .slice (some ⟨c2, 0, none⟩) 1 1, .int .i64 0, .int .i64 0] 125)
  have h4 : sat (w2.alloc (.cells #[.int .i64 n, .slice (some ⟨b1, 0, none⟩) 1 1, .slice (some ⟨b2, 0, none⟩) 1 1, .slice (some ⟨c1, 0, none⟩) 1 1, .slice (some ⟨c2, 0, none⟩) 1 1, .int .i64 0, .int .i64 0] 125)) ((blk w2.heap.size (.cells #[.int .i64 n, .slice (some ⟨b1, 0, none⟩) 1 1, .slice (some ⟨b2, 0, none⟩) 1 1, .slice (some ⟨c1, 0, none⟩) 1 1, .slice (some ⟨c2, 0, none⟩) 1 1, .int .i64 0, .int .i64 0] 125) * (row 22 1 b1 1 [.int .u64 0] * row 4 1 b2 1 [.bool false])) * R * (row 22 1 c1 1 [.int .u64 0] * row 4 1 c2 1 [.bool false])) := h3.perm (by ac_rfl)
  exact h4.left
end
end Go.Proofs.Ytanjiecefioffaa
