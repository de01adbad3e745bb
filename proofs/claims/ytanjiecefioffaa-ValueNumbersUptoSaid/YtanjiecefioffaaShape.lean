/- value.Store: shape. -/
import Derived.Test.YtanjiecefioffaaIntern
namespace Go.Proofs.Ytanjiecefioffaa
open Go.RowKit

/-- Is a word an object of a kind, with so many fields? -/
def HS.shape (S : HS) (x k t r : Int) : Bool := decide (S.kind x = k) && ((decide (t < 0) || decide (S.tag x = t)) && (decide (r < 0) || decide (S.raw x = r)))

section
variable {w : World} {X : StV} {V : HV} {S : HS} {Y : StS} {R : HP}
set_option maxRecDepth 100000 in
set_option maxHeartbeats 1000000 in
theorem StW.shape (h : StW w X V S Y R) (x k t r : Int) (x0 : 0 ≤ x) (x1 : x < 18446744073709551616) :
    Calls Try.prog 63 #[.pointer (some ⟨X.g, 0, none⟩), .int .u64 x, .int .i64 k, .int .i64 t, .int .i64 r] w (Says (.bool (S.shape x k t r)) w) := by
  have c0 := h.c0
  have hK := h.hw.v.Kind x x0 x1
  have hT := fun n : Nat => (h.drewN n).hw.v.Tagged x x0 x1
  have hR := fun n : Nat => (h.drewN n).hw.v.Raws x x0 x1
  unfold HS.shape
  generalize S.kind x = kk at *
  generalize S.tag x = tt at *
  generalize S.raw x = rr at *
  clear h
  by_cases h1 : kk = k
  · have b1 : (kk == k) = true := by simp [h1]
    rw [decide_eq_true h1]
    clear h1
    by_cases h2 : t < 0
    · have b2 : decide (t < 0) = true := by simp [h2]
      rw [b2]
      clear h2
      by_cases h3 : r < 0
      · have b3 : decide (r < 0) = true := by simp [h3]
        rw [b3]
        clear h3
        go_enter Try.func63, Try.ntmps63
        go_wp2_with fail
        refine hK.mono ?_
        rintro e w' ⟨rfl, j, rfl⟩
        go_wp2_with fail
        go_ret
        exact ⟨by first | rfl | (simp; done) | (simp; rfl), _, rfl⟩
      · have b3 : decide (r < 0) = false := by simp; omega
        rw [b3]
        clear h3
        go_enter Try.func63, Try.ntmps63
        go_wp2_with fail
        refine hK.mono ?_
        rintro e w' ⟨rfl, j, rfl⟩
        go_wp2_with fail
        refine (hR (j)).mono ?_
        rintro e w' ⟨rfl, j0, rfl⟩
        go_wp2_with fail
        go_ret
        exact ⟨by first | rfl | (simp; done) | (simp; rfl), _, rfl⟩
    · have b2 : decide (t < 0) = false := by simp; omega
      rw [b2]
      by_cases h4 : tt = t
      · have b4 : (tt == t) = true := by simp [h4]
        rw [decide_eq_true h4]
        clear h2 h4
        by_cases h3 : r < 0
        · have b3 : decide (r < 0) = true := by simp [h3]
          rw [b3]
          clear h3
          go_enter Try.func63, Try.ntmps63
          go_wp2_with fail
          refine hK.mono ?_
          rintro e w' ⟨rfl, j, rfl⟩
          go_wp2_with fail
          refine (hT (j)).mono ?_
          rintro e w' ⟨rfl, j0, rfl⟩
          go_wp2_with fail
          go_ret
          exact ⟨by first | rfl | (simp; done) | (simp; rfl), _, rfl⟩
        · have b3 : decide (r < 0) = false := by simp; omega
          rw [b3]
          clear h3
          go_enter Try.func63, Try.ntmps63
          go_wp2_with fail
          refine hK.mono ?_
          rintro e w' ⟨rfl, j, rfl⟩
          go_wp2_with fail
          refine (hT (j)).mono ?_
          rintro e w' ⟨rfl, j0, rfl⟩
          go_wp2_with fail
          refine (hR (j + j0)).mono ?_
          rintro e w' ⟨rfl, j1, rfl⟩
          go_wp2_with fail
          go_ret
          exact ⟨by first | rfl | (simp; done) | (simp; rfl), _, rfl⟩
      · have b4 : (tt == t) = false := by simp [h4]
        rw [decide_eq_false h4]
        clear h2 h4
        go_enter Try.func63, Try.ntmps63
        go_wp2_with fail
        refine hK.mono ?_
        rintro e w' ⟨rfl, j, rfl⟩
        go_wp2_with fail
        refine (hT (j)).mono ?_
        rintro e w' ⟨rfl, j0, rfl⟩
        go_wp2_with fail
        go_ret
        exact ⟨by first | rfl | (simp; done) | (simp; rfl), _, rfl⟩
  · have b1 : (kk == k) = false := by simp [h1]
    rw [decide_eq_false h1]
    clear h1
    go_enter Try.func63, Try.ntmps63
    go_wp2_with fail
    refine hK.mono ?_
    rintro e w' ⟨rfl, j, rfl⟩
    go_wp2_with fail
    go_ret
    exact ⟨by first | rfl | (simp; done) | (simp; rfl), _, rfl⟩
end
end Go.Proofs.Ytanjiecefioffaa
