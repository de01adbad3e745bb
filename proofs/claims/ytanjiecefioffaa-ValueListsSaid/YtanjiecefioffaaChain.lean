/- value.Store: Cons. -/
import Derived.Test.YtanjiecefioffaaIntern
namespace Go.Proofs.Ytanjiecefioffaa
open Go.RowKit

def HS.cons (S : HS) (a b : Int) : HS := S.part 1 2 0 2 [a, b] 2
theorem two_words {R : HP} {bo e : Nat} {x y : Int} : WordsIn (Go.Proofs.Ytanjiecefioffaa.blk bo (.cells #[.int .u64 x, .int .u64 y] e (0, 0)) * R) (some ⟨bo, 0, none⟩) [x, y] := by
  intro w hs j z hj
  match j, hj with
  | 0, hj => simp at hj; subst hj; exact ⟨_, rfl, (hs.left.cell 0).trans rfl⟩
  | 1, hj => simp at hj; subst hj; exact ⟨_, rfl, (hs.left.cell 1).trans rfl⟩
section
variable {w : World} {X : StV} {V : HV} {S : HS} {Y : StS} {R : HP}
set_option maxRecDepth 100000 in
theorem StW.Cons_yes (h : StW w X V S Y R) (a b : Int) (a0 : 0 ≤ a ∧ a < 18446744073709551616) (b0 : 0 ≤ b ∧ b < 18446744073709551616) (hm : S.may a = true ∧ S.may b = true) (hr : S.room 1 2 0 = true) :
    Calls Try.prog 77 #[.pointer (some ⟨X.g, 0, none⟩), .int .u64 a, .int .u64 b] w (StLaid X V.g (S.cons a b) Y R (4 * (S.ws.length : Int)) true w) := by
  have hs6 := h.s.alloc (.cells #[.int .u64 a, .int .u64 b] 22)
  have h6 : StW (w.alloc (.cells #[.int .u64 a, .int .u64 b] 22)) X V S Y (Go.Proofs.Ytanjiecefioffaa.blk w.heap.size (.cells #[.int .u64 a, .int .u64 b] 22 (0, 0)) * R) := ⟨hs6.perm (by ac_rfl), h.ok⟩
  have hL := h6.lay_yes 1 (some ⟨w.heap.size, 0, none⟩) 2 [a, b] two_words (by intro x hx; simp at hx; rcases hx with rfl | rfl <;> assumption) (by simp [hm.1, hm.2]) hr
  clear hs6 h6
  have HL := Lib.hid hL
  clear hL h hm hr
  go_enter Try.func77, Try.ntmps77
  go_wp2_with fail
  refine HL.out.mono ?_
  rintro e w7 ⟨rfl, hb7, V7, hg7, h7⟩
  go_wp2_with fail
  go_ret2
  exact ⟨rfl, (Below.zero_alloc _ _).trans hb7, V7, hg7, h7.drop⟩
end
end Go.Proofs.Ytanjiecefioffaa
