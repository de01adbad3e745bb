/- value.Store: take of a number; take where no step is left. -/
import Derived.Test.YtanjiecefioffaaTakeText
namespace Go.Proofs.Ytanjiecefioffaa
open Go.RowKit

/-- The cells of a datum that is a number. -/
def numD (P : Bool) (ao : Option Addr) (nl ac : Nat) : Value := .agg #[.int .i64 1, .int .i64 0, .bool P, .slice ao nl ac, .string ⟨#[]⟩, .slice none 0 0, .slice none 0 0]
def zeroD : Value := .agg #[.int .i64 0, .int .i64 0, .bool false, .slice none 0 0, .string ⟨#[]⟩, .slice none 0 0, .slice none 0 0]
section
variable {w : World} {X : StV} {V : HV} {S : HS} {Y : StS} {R : HP}
set_option maxRecDepth 100000 in
set_option maxHeartbeats 2000000 in
theorem StW.take_num (gl : Nat) (n deep : Int) (h : StW w X V S Y (Go.Proofs.Ytanjiecefioffaa.blk gl (.cells #[.int .i64 n] 3 (0, 0)) * R)) (hn : 0 < n ∧ n ≤ 20000) (hd : 0 < deep ∧ deep ≤ 100) (x : Int) (x0 : 0 ≤ x) (x1 : x < 18446744073709551616)
    (v : Int) (hnum : S.num x = some v) :
    Calls Try.prog 60 #[.pointer (some ⟨X.g, 0, none⟩), .int .u64 x, .pointer (some ⟨gl, 0, none⟩), .int .i64 deep] w fun e w' => ∃ ao cap, e = .returned (.tuple #[numD (decide (v < 0)) ao (limbsOf v.natAbs).length cap, .bool true]) ∧
      (limbsOf v.natAbs).length ≤ cap ∧ StW w' X V S Y (Go.Proofs.Ytanjiecefioffaa.blk gl (.cells #[.int .i64 (n - 1)] 3 (0, 0)) * (own 70 1 (.slice ao (limbsOf v.natAbs).length cap) (limbsOf v.natAbs).length ((limbsOf v.natAbs).map u32v) * R)) ∧ Below 0 w w' := by
  have hs : sat w (Go.Proofs.Ytanjiecefioffaa.blk gl (.cells #[.int .i64 n] 3 (0, 0)) * (isHeap V S * (isSt X V.g Y * R))) := h.s.perm (by ac_rfl)
  have cA : ∀ o, (w.alloc o).cell? ⟨gl, 0, none⟩ = some (.int .i64 n) := fun o => ((hs.alloc o).right.left.cell 0).trans rfl
  have fA : ∀ o, (w.alloc o).frozen? ⟨gl, 0, none⟩ = false := fun o => (hs.alloc o).right.left.frozen 0
  obtain ⟨Z, hZ⟩ : ∃ Z : Obj, Z = .cells #[.int .i64 0, .int .i64 0, .bool false, .slice none 0 0, .string ⟨#[]⟩, .slice none 0 0, .slice none 0 0] 54 := ⟨_, rfl⟩
  have hs2 : sat ((w.alloc Z).setCell ⟨gl, 0, none⟩ (.int .i64 (n - 1))) (Go.Proofs.Ytanjiecefioffaa.blk gl (.cells #[.int .i64 (n - 1)] 3 (0, 0)) * (Go.Proofs.Ytanjiecefioffaa.blk w.heap.size Z * (isHeap V S * (isSt X V.g Y * R)))) :=
    (show sat (w.alloc Z) (Go.Proofs.Ytanjiecefioffaa.blk gl (.cells #[.int .i64 n] 3 (0, 0)) * (Go.Proofs.Ytanjiecefioffaa.blk w.heap.size Z * (isHeap V S * (isSt X V.g Y * R)))) from (hs.alloc Z).perm (by ac_rfl)).setCell (off := 0) (.int .i64 (n - 1))
  have h2 : StW ((w.alloc Z).setCell ⟨gl, 0, none⟩ (.int .i64 (n - 1))) X V S Y (Go.Proofs.Ytanjiecefioffaa.blk w.heap.size Z * (Go.Proofs.Ytanjiecefioffaa.blk gl (.cells #[.int .i64 (n - 1)] 3 (0, 0)) * R)) := ⟨hs2.perm (by ac_rfl), h.ok⟩
  have hb2 : Below 0 w ((w.alloc Z).setCell ⟨gl, 0, none⟩ (.int .i64 (n - 1))) := (Below.zero_alloc w Z).setCell (p := ⟨gl, 0, none⟩) (Nat.zero_le _) _
  clear hs2
  rw [hZ] at h2 hb2
  clear hZ
  have g1 : IntKind.i64.wrap (n - 1) = n - 1 := IntWalk.i64_in _ (by omega)
  have g2 : decide (n ≤ 0) = false := by simp; omega
  have g3 : (deep == 0) = false := by simp; omega
  have HX := Lib.hid (And.intro h2 (And.intro hb2 hnum))
  clear h h2 hs hb2 hnum
  go_enter Try.func60, Try.ntmps60
  go_wp2_with fail
  have hN := HX.out.1.Num x x0 x1
  rw [HX.out.2.2] at hN
  clear cA fA
  generalize hw2 : (w.alloc (.cells #[.int .i64 0, .int .i64 0, .bool false, .slice none 0 0, .string ⟨#[]⟩, .slice none 0 0, .slice none 0 0] 54)).setCell ⟨gl, 0, none⟩ (.int .i64 (n - 1)) = w2 at *
  with_reducible refine hN.mono ?_
  rintro e w3 ⟨ao, ac, rfl, hac, h3, hb3⟩
  simp only [Option.getD_some, Option.isSome_some] at h3 hac ⊢
  obtain ⟨P, hP⟩ : ∃ P, decide (v < 0) = P := ⟨_, rfl⟩
  obtain ⟨nl, hnl⟩ : ∃ nl, (limbsOf v.natAbs).length = nl := ⟨_, rfl⟩
  rw [hP, hnl]
  rw [hnl] at h3 hac
  have hp := h3.push (.cells #[.bool P, .slice ao nl ac] 51)
  have hso : sat (w3.alloc (.cells #[.bool P, .slice ao nl ac] 51)) (Go.Proofs.Ytanjiecefioffaa.blk w.heap.size (.cells #[.int .i64 0, .int .i64 0, .bool false, .slice none 0 0, .string ⟨#[]⟩, .slice none 0 0, .slice none 0 0] 54 (0, 0)) * (Go.Proofs.Ytanjiecefioffaa.blk w3.heap.size (.cells #[.bool P, .slice ao nl ac] 51 (0, 0)) * (isHeap V S * (isSt X V.g Y * (Go.Proofs.Ytanjiecefioffaa.blk gl (.cells #[.int .i64 (n - 1)] 3 (0, 0)) * (own 70 1 (.slice ao nl ac) nl ((limbsOf v.natAbs).map u32v) * R)))))) := hp.s.perm (by ac_rfl)
  have hb5 := (HX.out.2.1.trans hb3).trans (Below.zero_alloc w3 (.cells #[.bool P, .slice ao nl ac] 51))
  have c0 := (hso.left.cell 0).trans rfl
  have f0 := hso.left.frozen 0
  have c1 := (hso.left.cell 1).trans rfl
  have f1 := hso.left.frozen 1
  have c2 := (hso.left.cell 2).trans rfl
  have f2 := hso.left.frozen 2
  have c3 := (hso.left.cell 3).trans rfl
  have f3 := hso.left.frozen 3
  have c4 := (hso.left.cell 4).trans rfl
  have f4 := hso.left.frozen 4
  have c5 := (hso.left.cell 5).trans rfl
  have f5 := hso.left.frozen 5
  have c6 := (hso.left.cell 6).trans rfl
  have f6 := hso.left.frozen 6
  have HF := Lib.hid (And.intro hso (And.intro h3.ok (And.intro hb5 (And.intro hP (And.intro hnl hac)))))
  clear hso h3 hb3 hb5 hN hp hac hP hnl
  go_wp2_with fail
  have hs7 := (((((((HF.out.1.setCell (off := 0) (.int .i64 1)).setCell (off := 1) (.int .i64 0)).setCell (off := 2) (.bool P)).setCell (off := 3) (.slice ao nl ac)).setCell (off := 4) (.string ⟨#[]⟩)).setCell (off := 5) (.slice none 0 0)).setCell (off := 6) (.slice none 0 0))
  have hb7 := (((((((HF.out.2.2.1.setCell (p := ⟨w.heap.size, 0, none⟩) (Nat.zero_le _) (.int .i64 1)).setCell (p := ⟨w.heap.size, 1, none⟩) (Nat.zero_le _) (.int .i64 0)).setCell (p := ⟨w.heap.size, 2, none⟩) (Nat.zero_le _) (.bool P)).setCell (p := ⟨w.heap.size, 3, none⟩) (Nat.zero_le _) (.slice ao nl ac)).setCell (p := ⟨w.heap.size, 4, none⟩) (Nat.zero_le _) (.string ⟨#[]⟩)).setCell (p := ⟨w.heap.size, 5, none⟩) (Nat.zero_le _) (.slice none 0 0)).setCell (p := ⟨w.heap.size, 6, none⟩) (Nat.zero_le _) (.slice none 0 0))
  clear c0 f0 c1 f1 c2 f2 c3 f3 c4 f4 c5 f5 c6 f6
  generalize ((((((((w3.alloc (.cells #[.bool P, .slice ao nl ac] 51)).setCell ⟨w.heap.size, 0, none⟩ (.int .i64 1)).setCell ⟨w.heap.size, 1, none⟩ (.int .i64 0)).setCell ⟨w.heap.size, 2, none⟩ (.bool P)).setCell ⟨w.heap.size, 3, none⟩ (.slice ao nl ac)).setCell ⟨w.heap.size, 4, none⟩ (.string ⟨#[]⟩)).setCell ⟨w.heap.size, 5, none⟩ (.slice none 0 0)).setCell ⟨w.heap.size, 6, none⟩ (.slice none 0 0)) = w7 at *
  have r0 : w7.cell? ⟨w.heap.size, 0, none⟩ = some (.int .i64 1) := (hs7.left.cell 0).trans rfl
  have r1 : w7.cell? ⟨w.heap.size, 1, none⟩ = some (.int .i64 0) := (hs7.left.cell 1).trans rfl
  have r2 : w7.cell? ⟨w.heap.size, 2, none⟩ = some (.bool P) := (hs7.left.cell 2).trans rfl
  have r3 : w7.cell? ⟨w.heap.size, 3, none⟩ = some (.slice ao nl ac) := (hs7.left.cell 3).trans rfl
  have r4 : w7.cell? ⟨w.heap.size, 4, none⟩ = some (.string ⟨#[]⟩) := (hs7.left.cell 4).trans rfl
  have r5 : w7.cell? ⟨w.heap.size, 5, none⟩ = some (.slice none 0 0) := (hs7.left.cell 5).trans rfl
  have r6 : w7.cell? ⟨w.heap.size, 6, none⟩ = some (.slice none 0 0) := (hs7.left.cell 6).trans rfl
  refine bodyPost_ret (v := .tuple #[numD P ao nl ac, .bool true]) (by simp [results, Try.results60, go_sem, r0, r1, r2, r3, r4, r5, r6, numD]) rfl ⟨ao, ac, by rw [HF.out.2.2.2.1, HF.out.2.2.2.2.1], by rw [HF.out.2.2.2.2.1]; exact HF.out.2.2.2.2.2, ⟨?_, HF.out.2.1⟩, hb7⟩
  rw [HF.out.2.2.2.2.1]
  exact hs7.right.right
set_option maxRecDepth 100000 in
theorem StW.take_out (gl : Nat) (deep : Int) (h : StW w X V S Y (Go.Proofs.Ytanjiecefioffaa.blk gl (.cells #[.int .i64 0] 3 (0, 0)) * R)) (x : Int) :
    Calls Try.prog 60 #[.pointer (some ⟨X.g, 0, none⟩), .int .u64 x, .pointer (some ⟨gl, 0, none⟩), .int .i64 deep] w fun e w' => e = .returned (.tuple #[zeroD, .bool false]) ∧
      StW w' X V S Y (Go.Proofs.Ytanjiecefioffaa.blk gl (.cells #[.int .i64 0] 3 (0, 0)) * R) ∧ Below 0 w w' := by
  have hs : sat w (Go.Proofs.Ytanjiecefioffaa.blk gl (.cells #[.int .i64 0] 3 (0, 0)) * (isHeap V S * (isSt X V.g Y * R))) := h.s.perm (by ac_rfl)
  have cA : ∀ o, (w.alloc o).cell? ⟨gl, 0, none⟩ = some (.int .i64 0) := fun o => ((hs.alloc o).right.left.cell 0).trans rfl
  have hp := h.push (.cells #[.int .i64 0, .int .i64 0, .bool false, .slice none 0 0, .string ⟨#[]⟩, .slice none 0 0, .slice none 0 0] 54)
  have hb := Below.zero_alloc w (.cells #[.int .i64 0, .int .i64 0, .bool false, .slice none 0 0, .string ⟨#[]⟩, .slice none 0 0, .slice none 0 0] 54)
  have hl := (hp.s.perm (show _ = Go.Proofs.Ytanjiecefioffaa.blk w.heap.size (.cells #[.int .i64 0, .int .i64 0, .bool false, .slice none 0 0, .string ⟨#[]⟩, .slice none 0 0, .slice none 0 0] 54 (0, 0)) * (isHeap V S * (isSt X V.g Y * (Go.Proofs.Ytanjiecefioffaa.blk gl (.cells #[.int .i64 0] 3 (0, 0)) * R))) by ac_rfl))
  have HH := Lib.hid (And.intro hp (And.intro hb hl))
  clear h hs hp hb hl
  go_enter Try.func60, Try.ntmps60
  go_wp2_with fail
  clear cA
  generalize w.alloc (.cells #[.int .i64 0, .int .i64 0, .bool false, .slice none 0 0, .string ⟨#[]⟩, .slice none 0 0, .slice none 0 0] 54) = w7 at *
  have r0 : w7.cell? ⟨w.heap.size, 0, none⟩ = some (.int .i64 0) := (HH.out.2.2.left.cell 0).trans rfl
  have r1 : w7.cell? ⟨w.heap.size, 1, none⟩ = some (.int .i64 0) := (HH.out.2.2.left.cell 1).trans rfl
  have r2 : w7.cell? ⟨w.heap.size, 2, none⟩ = some (.bool false) := (HH.out.2.2.left.cell 2).trans rfl
  have r3 : w7.cell? ⟨w.heap.size, 3, none⟩ = some (.slice none 0 0) := (HH.out.2.2.left.cell 3).trans rfl
  have r4 : w7.cell? ⟨w.heap.size, 4, none⟩ = some (.string ⟨#[]⟩) := (HH.out.2.2.left.cell 4).trans rfl
  have r5 : w7.cell? ⟨w.heap.size, 5, none⟩ = some (.slice none 0 0) := (HH.out.2.2.left.cell 5).trans rfl
  have r6 : w7.cell? ⟨w.heap.size, 6, none⟩ = some (.slice none 0 0) := (HH.out.2.2.left.cell 6).trans rfl
  refine bodyPost_ret (v := .tuple #[zeroD, .bool false]) (by simp [results, Try.results60, go_sem, r0, r1, r2, r3, r4, r5, r6, zeroD]) rfl ⟨rfl, ⟨HH.out.2.2.right.perm (by ac_rfl), HH.out.1.ok⟩, HH.out.2.1⟩
end
end Go.Proofs.Ytanjiecefioffaa
