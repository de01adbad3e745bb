/- tandemlaw04.awake; ValueFixes. -/
import Derived.Test.YtanjiecefioffaaIntern
import Derived.Test.YtanjiecefioffaaFixes
namespace Go.Proofs.Ytanjiecefioffaa
open Go.RowKit

def nameA : ByteArray := ⟨#[97]⟩
theorem bytesA : bytesOf nameA = [97] := by decide

set_option maxRecDepth 100000 in
set_option maxHeartbeats 1000000 in
theorem awake_any (w : World) {R : HP} (hR : sat w R) : Calls Try.prog 16 #[] w fun e w' => e = .returned (.bool true) ∧ sat w' R ∧ Below 0 w w' := by
  have hF := Fix_any w (-1) (by decide) (by decide)
  have f1 : fixW (-1) = 18446744073709551613 := by decide
  have f2 : fixB (-1) = true := by decide
  rw [f1, f2] at hF
  go_enter Try.func16, Try.ntmps16
  go_wp2_with fail
  refine hF.mono ?_
  rintro e w1 ⟨rfl, j, rfl⟩
  go_wp2_with fail
  refine (StNew_good 50 (hR.drewN j) (by decide) (by decide)).mono ?_
  rintro e w2 ⟨X, V, rfl, h2, hb2⟩
  go_wp2_with fail
  have hok : symOk (HS.new 50) (bytesOf nameA) = true := by rw [bytesA]; decide
  refine (h2.Intern_new rfl nameA rfl (by decide) hok (by decide)).mono ?_
  rintro e w3 ⟨rfl, hb3, X3, V3, hx3, hm3, hg3, h3⟩
  rw [← hx3]
  have HX := Lib.hid (And.intro hx3 (And.intro hm3 hg3))
  clear hx3 hm3 hg3
  go_wp2_with fail
  refine (h3.Intern_old rfl nameA _ rfl).mono ?_
  rintro e w4 ⟨rfl, j4, rfl⟩
  go_wp2_with fail
  go_ret
  exact ⟨rfl, h3.s.right.right, (((drewN_below0 w j).trans hb2).trans hb3).trans (drewN_below0 _ _)⟩

set_option maxRecDepth 100000 in
theorem valueFixes_any (w : World) {R : HP} (hR : sat w R) (n x : Int) (n0 : -9223372036854775808 ≤ n) (n1 : n < 9223372036854775808) (x0 : 0 ≤ x) (x1 : x < 18446744073709551616) :
    Calls Try.prog 3 #[.int .i64 n, .int .u64 x] w fun e w' => e = .returned (.bool true) ∧ sat w' R ∧ Below 0 w w' := by
  have h1 := fun w => Fix_any w n n0 n1
  have h2 := fun w => rFix_any w n n0 n1
  have h3 := fun w => Int_any w x x0 x1
  have h4 := fun w => rInt_any w x x0 x1
  go_enter Try.func3, Try.ntmps3
  go_wp2_with fail
  refine (h1 _).mono ?_
  rintro e w1 ⟨rfl, j1, rfl⟩
  go_wp2_with fail
  refine (h2 _).mono ?_
  rintro e w1 ⟨rfl, j2, rfl⟩
  go_wp2_with fail
  refine (h3 _).mono ?_
  rintro e w1 ⟨rfl, j3, rfl⟩
  go_wp2_with fail
  refine (h4 _).mono ?_
  rintro e w1 ⟨rfl, j4, rfl⟩
  go_wp2_with fail
  refine (awake_any _ (hR.drewN _)).mono ?_
  rintro e w5 ⟨rfl, h5, hb5⟩
  go_wp2_with fail
  go_ret
  exact ⟨rfl, h5, (drewN_below0 w _).trans hb5⟩

theorem u64_wf {x : Int} (h : (Lit.int .u64 x).wf = true) : 0 ≤ x ∧ x < 18446744073709551616 := by
  unfold Lit.wf at h
  rw [Bool.and_eq_true] at h
  have h1 := of_decide_eq_true h.1
  have h2 := of_decide_eq_true h.2
  rw [show IntKind.u64.min = 0 from rfl] at h1
  rw [show IntKind.u64.max = 18446744073709551615 from rfl] at h2
  omega
theorem i64_wf {x : Int} (h : (Lit.int .i64 x).wf = true) : -9223372036854775808 ≤ x ∧ x < 9223372036854775808 := by
  unfold Lit.wf at h
  rw [Bool.and_eq_true] at h
  have h1 := of_decide_eq_true h.1
  have h2 := of_decide_eq_true h.2
  rw [show IntKind.i64.min = -9223372036854775808 from rfl] at h1
  rw [show IntKind.i64.max = 9223372036854775807 from rfl] at h2
  omega
theorem valueFixes_walk (a0 a1 : Int) (w0 : (Lit.int .i64 a0).wf = true) (w1 : (Lit.int .u64 a1).wf = true) (w : World) :
    Calls Try.prog 3 #[.int .i64 a0, .int .u64 a1] w fun e w' => e = .returned (.bool true) ∧ Below w.heap.size w w' := by
  have h0 := i64_wf w0
  have h1 := u64_wf w1
  refine (valueFixes_any w (sat_whole w) a0 a1 (by omega) (by omega) (by omega) (by omega)).mono ?_
  rintro e w' ⟨rfl, hs, hb⟩
  exact ⟨rfl, below_of_whole' hs hb⟩
end Go.Proofs.Ytanjiecefioffaa
