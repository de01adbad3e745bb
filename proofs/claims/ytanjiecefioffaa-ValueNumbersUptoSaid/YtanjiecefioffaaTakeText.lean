/- value.Store: take and Take of a text. -/
import Derived.Test.YtanjiecefioffaaStoreEqv
import Derived.Test.YtanjiecefioffaaLit
namespace Go.Proofs.Ytanjiecefioffaa
open Go.RowKit

/-- The cells of a datum that is a text. -/
def textD (s : ByteArray) : Value := .agg #[.int .i64 4, .int .i64 0, .bool false, .slice none 0 0, .string s, .slice none 0 0, .slice none 0 0]
section
variable {w : World} {X : StV} {V : HV} {S : HS} {Y : StS} {R : HP}
set_option maxRecDepth 100000 in
set_option maxHeartbeats 2000000 in
theorem StW.take_text (gl : Nat) (n deep : Int) (h : StW w X V S Y (Go.Proofs.Ytanjiecefioffaa.blk gl (.cells #[.int .i64 n] 3 (0, 0)) * R)) (hn : 0 < n ∧ n ≤ 20000) (hd : 0 < deep ∧ deep ≤ 100) (x : Int) (x0 : 0 ≤ x) (x1 : x < 18446744073709551616)
    (hnum : S.num x = none) (hb : S.bytesOk x = true) :
    Calls Try.prog 60 #[.pointer (some ⟨X.g, 0, none⟩), .int .u64 x, .pointer (some ⟨gl, 0, none⟩), .int .i64 deep] w fun e w' => e = .returned (.tuple #[textD (strOfNums (S.bytes x)), .bool true]) ∧
      StW w' X V S Y (Go.Proofs.Ytanjiecefioffaa.blk gl (.cells #[.int .i64 (n - 1)] 3 (0, 0)) * R) ∧ Below 0 w w' := by
  have hs : sat w (Go.Proofs.Ytanjiecefioffaa.blk gl (.cells #[.int .i64 n] 3 (0, 0)) * (isHeap V S * (isSt X V.g Y * R))) := h.s.perm (by ac_rfl)
  have c1 : w.cell? ⟨gl, 0, none⟩ = some (.int .i64 n) := (hs.left.cell 0).trans rfl
  have f1 := hs.left.frozen 0
  have cA : ∀ o, (w.alloc o).cell? ⟨gl, 0, none⟩ = some (.int .i64 n) := fun o => ((hs.alloc o).right.left.cell 0).trans rfl
  have fA : ∀ o, (w.alloc o).frozen? ⟨gl, 0, none⟩ = false := fun o => (hs.alloc o).right.left.frozen 0
  obtain ⟨Z, hZ⟩ : ∃ Z : Obj, Z = .cells #[.int .i64 0, .int .i64 0, .bool false, .slice none 0 0, .string ⟨#[]⟩, .slice none 0 0, .slice none 0 0] 54 := ⟨_, rfl⟩
  have hs2 : sat ((w.alloc Z).setCell ⟨gl, 0, none⟩ (.int .i64 (n - 1))) (Go.Proofs.Ytanjiecefioffaa.blk gl (.cells #[.int .i64 (n - 1)] 3 (0, 0)) * (Go.Proofs.Ytanjiecefioffaa.blk w.heap.size Z * (isHeap V S * (isSt X V.g Y * R)))) :=
    (show sat (w.alloc Z) (Go.Proofs.Ytanjiecefioffaa.blk gl (.cells #[.int .i64 n] 3 (0, 0)) * (Go.Proofs.Ytanjiecefioffaa.blk w.heap.size Z * (isHeap V S * (isSt X V.g Y * R)))) from (hs.alloc Z).perm (by ac_rfl)).setCell (off := 0) (.int .i64 (n - 1))
  have h2 : StW ((w.alloc Z).setCell ⟨gl, 0, none⟩ (.int .i64 (n - 1))) X V S Y (Go.Proofs.Ytanjiecefioffaa.blk w.heap.size Z * (Go.Proofs.Ytanjiecefioffaa.blk gl (.cells #[.int .i64 (n - 1)] 3 (0, 0)) * R)) := ⟨hs2.perm (by ac_rfl), h.ok⟩
  have hb2 : Below 0 w ((w.alloc Z).setCell ⟨gl, 0, none⟩ (.int .i64 (n - 1))) := (Below.zero_alloc w Z).setCell (p := ⟨gl, 0, none⟩) (Nat.zero_le _) _
  clear hs2
  rw [hZ] at h2 hb2
  clear hZ
  have g1 : IntKind.i64.wrap (n - 1) = n - 1 := IntWalk.i64_in _ (by omega)
  have g2 : decide (n ≤ 0) = false := by simp; omega
  have g3 : (deep == 0) = false := by simp; omega
  have HX := Lib.hid (And.intro h2 (And.intro hb2 (And.intro hnum hb)))
  clear h h2 hs hb2 hnum hb
  go_enter Try.func60, Try.ntmps60
  go_wp2_with fail
  have hN := HX.out.1.Num x x0 x1
  rw [HX.out.2.2.1] at hN
  clear c1 f1 cA fA
  generalize hw2 : (w.alloc (.cells #[.int .i64 0, .int .i64 0, .bool false, .slice none 0 0, .string ⟨#[]⟩, .slice none 0 0, .slice none 0 0] 54)).setCell ⟨gl, 0, none⟩ (.int .i64 (n - 1)) = w2 at *
  with_reducible refine hN.mono ?_
  rintro e w3 ⟨ao, ac, rfl, hac, h3, hb3⟩
  simp only [Option.getD_none, Option.isSome_none] at h3 ⊢
  obtain ⟨P, hP⟩ : ∃ P, decide ((0 : Int) < 0) = P := ⟨_, rfl⟩
  rw [hP]
  generalize (limbsOf (0 : Int).natAbs).length = nl at *
  have hp := h3.push (.cells #[.bool P, .slice ao nl ac] 51)
  have hB := hp.Bytes x x0 x1
  unfold BytesPost at hB
  rw [HX.out.2.2.2] at hB
  have HB := Lib.hid (And.intro h3 (And.intro hb3 hp))
  clear hN h3 hb3 hp hac
  go_wp2_with fail
  with_reducible refine hB.mono ?_
  rintro e w4 ⟨v, rfl, h4, hb4⟩
  have hso : sat w4 (Go.Proofs.Ytanjiecefioffaa.blk w.heap.size (.cells #[.int .i64 0, .int .i64 0, .bool false, .slice none 0 0, .string ⟨#[]⟩, .slice none 0 0, .slice none 0 0] 54 (0, 0)) * (own 5 1 v (S.bytes x).length ((S.bytes x).map u8v) * (isHeap V S * (isSt X V.g Y * (Go.Proofs.Ytanjiecefioffaa.blk gl (.cells #[.int .i64 (n - 1)] 3 (0, 0)) * R))))) :=
    (h4.s.perm (show _ = (Go.Proofs.Ytanjiecefioffaa.blk w3.heap.size (.cells #[.bool P, .slice ao nl ac] 51 (0, 0)) * own 70 1 (.slice ao nl ac) nl ((limbsOf (0 : Int).natAbs).map u32v)) * (Go.Proofs.Ytanjiecefioffaa.blk w.heap.size (.cells #[.int .i64 0, .int .i64 0, .bool false, .slice none 0 0, .string ⟨#[]⟩, .slice none 0 0, .slice none 0 0] 54 (0, 0)) * (own 5 1 v (S.bytes x).length ((S.bytes x).map u8v) * (isHeap V S * (isSt X V.g Y * (Go.Proofs.Ytanjiecefioffaa.blk gl (.cells #[.int .i64 (n - 1)] 3 (0, 0)) * R))))) by ac_rfl)).right
  have hcv := run_own_string (P := Try.prog) 44 9 5 Try.underlying44 Try.underlying5 Try.underlying9 (bs := S.bytes x) rfl (hso.perm (show _ = own 5 1 v (S.bytes x).length ((S.bytes x).map u8v) * (Go.Proofs.Ytanjiecefioffaa.blk w.heap.size (.cells #[.int .i64 0, .int .i64 0, .bool false, .slice none 0 0, .string ⟨#[]⟩, .slice none 0 0, .slice none 0 0] 54 (0, 0)) * (isHeap V S * (isSt X V.g Y * (Go.Proofs.Ytanjiecefioffaa.blk gl (.cells #[.int .i64 (n - 1)] 3 (0, 0)) * R)))) by ac_rfl))
  have c0 := (hso.left.cell 0).trans rfl
  have c1 := (hso.left.cell 1).trans rfl
  have c2 := (hso.left.cell 2).trans rfl
  have c3 := (hso.left.cell 3).trans rfl
  have c4 := (hso.left.cell 4).trans rfl
  have c5 := (hso.left.cell 5).trans rfl
  have c6 := (hso.left.cell 6).trans rfl
  have f0 := hso.left.frozen 0
  have f1 := hso.left.frozen 1
  have f2 := hso.left.frozen 2
  have f3 := hso.left.frozen 3
  have f4 := hso.left.frozen 4
  have f5 := hso.left.frozen 5
  have f6 := hso.left.frozen 6
  have hb5 := (HX.out.2.1.trans HB.out.2.1).trans ((Below.zero_alloc w3 (.cells #[.bool P, .slice ao nl ac] 51)).trans hb4)
  have HF := Lib.hid (And.intro hso (And.intro h4.ok hb5))
  clear hso h4 hb4 hb5 hB
  obtain ⟨sx, hsx⟩ : ∃ sx, strOfNums (S.bytes x) = sx := ⟨_, rfl⟩
  rw [hsx] at hcv
  have HSX := Lib.hid hsx
  clear hsx
  go_wp2_with fail
  have hs7 := ((((((HF.out.1.setCell (off := 0) (.int .i64 4)).setCell (off := 1) (.int .i64 0)).setCell (off := 2) (.bool false)).setCell (off := 3) (.slice none 0 0)).setCell (off := 4) (.string sx)).setCell (off := 5) (.slice none 0 0)).setCell (off := 6) (.slice none 0 0)
  have hb7 := ((((((HF.out.2.2.setCell (p := ⟨w.heap.size, 0, none⟩) (Nat.zero_le _) (.int .i64 4)).setCell (p := ⟨w.heap.size, 1, none⟩) (Nat.zero_le _) (.int .i64 0)).setCell (p := ⟨w.heap.size, 2, none⟩) (Nat.zero_le _) (.bool false)).setCell (p := ⟨w.heap.size, 3, none⟩) (Nat.zero_le _) (.slice none 0 0)).setCell (p := ⟨w.heap.size, 4, none⟩) (Nat.zero_le _) (.string sx)).setCell (p := ⟨w.heap.size, 5, none⟩) (Nat.zero_le _) (.slice none 0 0)).setCell (p := ⟨w.heap.size, 6, none⟩) (Nat.zero_le _) (.slice none 0 0)
  clear c0 c1 c2 c3 c4 c5 c6 f0 f1 f2 f3 f4 f5 f6 hcv
  generalize ((((((w4.setCell ⟨w.heap.size, 0, none⟩ (.int .i64 4)).setCell ⟨w.heap.size, 1, none⟩ (.int .i64 0)).setCell ⟨w.heap.size, 2, none⟩ (.bool false)).setCell ⟨w.heap.size, 3, none⟩ (.slice none 0 0)).setCell ⟨w.heap.size, 4, none⟩ (.string sx)).setCell ⟨w.heap.size, 5, none⟩ (.slice none 0 0)).setCell ⟨w.heap.size, 6, none⟩ (.slice none 0 0) = w7 at *
  have r0 : w7.cell? ⟨w.heap.size, 0, none⟩ = some (.int .i64 4) := (hs7.left.cell 0).trans rfl
  have r1 : w7.cell? ⟨w.heap.size, 1, none⟩ = some (.int .i64 0) := (hs7.left.cell 1).trans rfl
  have r2 : w7.cell? ⟨w.heap.size, 2, none⟩ = some (.bool false) := (hs7.left.cell 2).trans rfl
  have r3 : w7.cell? ⟨w.heap.size, 3, none⟩ = some (.slice none 0 0) := (hs7.left.cell 3).trans rfl
  have r4 : w7.cell? ⟨w.heap.size, 4, none⟩ = some (.string sx) := (hs7.left.cell 4).trans rfl
  have r5 : w7.cell? ⟨w.heap.size, 5, none⟩ = some (.slice none 0 0) := (hs7.left.cell 5).trans rfl
  have r6 : w7.cell? ⟨w.heap.size, 6, none⟩ = some (.slice none 0 0) := (hs7.left.cell 6).trans rfl
  refine bodyPost_ret (v := .tuple #[textD sx, .bool true]) (by simp [results, Try.results60, go_sem, r0, r1, r2, r3, r4, r5, r6, textD]) rfl ⟨by rw [HSX.out], ⟨?_, HF.out.2.1⟩, hb7⟩
  exact hs7.right.right.perm (by ac_rfl)
set_option maxRecDepth 100000 in
set_option maxHeartbeats 2000000 in
theorem StW.Take_text (h : StW w X V S Y R) (most : Int) (hm : 0 < most ∧ most ≤ 20000) (x : Int) (x0 : 0 ≤ x) (x1 : x < 18446744073709551616)
    (hnum : S.num x = none) (hb : S.bytesOk x = true) :
    Calls Try.prog 28 #[.pointer (some ⟨X.g, 0, none⟩), .int .u64 x, .int .i64 most] w (StKeeps X V S Y R (.tuple #[textD (strOfNums (S.bytes x)), .bool true]) w) := by
  have g1 : decide (most ≤ 20000) = true := by simp; omega
  have HH := Lib.hid h
  clear h
  go_enter Try.func28, Try.ntmps28
  go_wp2_with fail
  have hp0 := (HH.out.push (.cells #[.int .i64 0, .int .i64 0, .bool false, .slice none 0 0, .string ⟨#[]⟩, .slice none 0 0, .slice none 0 0] 54)).push (.cells #[.int .i64 most] 3)
  rw [World.size_alloc] at hp0
  have hbp : Below 0 w ((w.alloc (.cells #[.int .i64 0, .int .i64 0, .bool false, .slice none 0 0, .string ⟨#[]⟩, .slice none 0 0, .slice none 0 0] 54)).alloc (.cells #[.int .i64 most] 3)) := (Below.zero_alloc _ _).trans (Below.zero_alloc _ _)
  have hT := StW.take_text (w.heap.size + 1) most 100 hp0 hm (by omega) x x0 x1 hnum hb
  obtain ⟨sx, hsx⟩ : ∃ sx, strOfNums (S.bytes x) = sx := ⟨_, rfl⟩
  rw [hsx] at hT
  have HB := Lib.hid (And.intro hbp hsx)
  clear hp0 hbp hsx
  with_reducible refine hT.mono ?_
  rintro e w3 ⟨rfl, h3, hb3⟩
  unfold textD
  have h4 := h3.push (.cells #[.int .i64 4, .int .i64 0, .bool false, .slice none 0 0, .string sx, .slice none 0 0, .slice none 0 0] 54)
  have h5 : sat (w3.alloc (.cells #[.int .i64 4, .int .i64 0, .bool false, .slice none 0 0, .string sx, .slice none 0 0, .slice none 0 0] 54)) (Go.Proofs.Ytanjiecefioffaa.blk w.heap.size (.cells #[.int .i64 0, .int .i64 0, .bool false, .slice none 0 0, .string ⟨#[]⟩, .slice none 0 0, .slice none 0 0] 54 (0, 0)) * ((Go.Proofs.Ytanjiecefioffaa.blk w3.heap.size (.cells #[.int .i64 4, .int .i64 0, .bool false, .slice none 0 0, .string sx, .slice none 0 0, .slice none 0 0] 54 (0, 0)) * Go.Proofs.Ytanjiecefioffaa.blk (w.heap.size + 1) (.cells #[.int .i64 (most - 1)] 3 (0, 0))) * (isHeap V S * (isSt X V.g Y * R)))) := h4.s.perm (by ac_rfl)
  have hb5 := (HB.out.1.trans hb3).trans (Below.zero_alloc w3 (.cells #[.int .i64 4, .int .i64 0, .bool false, .slice none 0 0, .string sx, .slice none 0 0, .slice none 0 0] 54))
  have HG := Lib.hid h4.ok
  clear h3 hb3 h4 hT
  have c0 := (h5.left.cell 0).trans rfl
  have f0 := h5.left.frozen 0
  have c1 := (h5.left.cell 1).trans rfl
  have f1 := h5.left.frozen 1
  have c2 := (h5.left.cell 2).trans rfl
  have f2 := h5.left.frozen 2
  have c3 := (h5.left.cell 3).trans rfl
  have f3 := h5.left.frozen 3
  have c4 := (h5.left.cell 4).trans rfl
  have f4 := h5.left.frozen 4
  have c5 := (h5.left.cell 5).trans rfl
  have f5 := h5.left.frozen 5
  have c6 := (h5.left.cell 6).trans rfl
  have f6 := h5.left.frozen 6
  have hs7 := (((((((h5.setCell (off := 0) (.int .i64 4)).setCell (off := 1) (.int .i64 0)).setCell (off := 2) (.bool false)).setCell (off := 3) (.slice none 0 0)).setCell (off := 4) (.string sx)).setCell (off := 5) (.slice none 0 0)).setCell (off := 6) (.slice none 0 0))
  have hb7 := (((((((hb5.setCell (p := ⟨w.heap.size, 0, none⟩) (Nat.zero_le _) (.int .i64 4)).setCell (p := ⟨w.heap.size, 1, none⟩) (Nat.zero_le _) (.int .i64 0)).setCell (p := ⟨w.heap.size, 2, none⟩) (Nat.zero_le _) (.bool false)).setCell (p := ⟨w.heap.size, 3, none⟩) (Nat.zero_le _) (.slice none 0 0)).setCell (p := ⟨w.heap.size, 4, none⟩) (Nat.zero_le _) (.string sx)).setCell (p := ⟨w.heap.size, 5, none⟩) (Nat.zero_le _) (.slice none 0 0)).setCell (p := ⟨w.heap.size, 6, none⟩) (Nat.zero_le _) (.slice none 0 0))
  have HS7 := Lib.hid (And.intro hs7 hb7)
  clear hs7 hb7 h5 hb5
  go_wp2_with fail
  clear c0 f0 c1 f1 c2 f2 c3 f3 c4 f4 c5 f5 c6 f6
  obtain ⟨hs7, hb7⟩ := HS7.out
  clear HS7
  generalize ((((((((w3.alloc (.cells #[.int .i64 4, .int .i64 0, .bool false, .slice none 0 0, .string sx, .slice none 0 0, .slice none 0 0] 54)).setCell ⟨w.heap.size, 0, none⟩ (.int .i64 4)).setCell ⟨w.heap.size, 1, none⟩ (.int .i64 0)).setCell ⟨w.heap.size, 2, none⟩ (.bool false)).setCell ⟨w.heap.size, 3, none⟩ (.slice none 0 0)).setCell ⟨w.heap.size, 4, none⟩ (.string sx)).setCell ⟨w.heap.size, 5, none⟩ (.slice none 0 0)).setCell ⟨w.heap.size, 6, none⟩ (.slice none 0 0)) = w7 at *
  have r0 : w7.cell? ⟨w.heap.size, 0, none⟩ = some (.int .i64 4) := (hs7.left.cell 0).trans rfl
  have r1 : w7.cell? ⟨w.heap.size, 1, none⟩ = some (.int .i64 0) := (hs7.left.cell 1).trans rfl
  have r2 : w7.cell? ⟨w.heap.size, 2, none⟩ = some (.bool false) := (hs7.left.cell 2).trans rfl
  have r3 : w7.cell? ⟨w.heap.size, 3, none⟩ = some (.slice none 0 0) := (hs7.left.cell 3).trans rfl
  have r4 : w7.cell? ⟨w.heap.size, 4, none⟩ = some (.string sx) := (hs7.left.cell 4).trans rfl
  have r5 : w7.cell? ⟨w.heap.size, 5, none⟩ = some (.slice none 0 0) := (hs7.left.cell 5).trans rfl
  have r6 : w7.cell? ⟨w.heap.size, 6, none⟩ = some (.slice none 0 0) := (hs7.left.cell 6).trans rfl
  refine bodyPost_ret (v := .tuple #[textD sx, .bool true]) (by simp [results, Try.results28, go_sem, r0, r1, r2, r3, r4, r5, r6, textD]) rfl ⟨by rw [HB.out.2], ⟨?_, HG.out⟩, hb7⟩
  exact hs7.right.right
end
end Go.Proofs.Ytanjiecefioffaa
