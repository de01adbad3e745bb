/- value.Store: take of a pair. -/
import Derived.Test.YtanjiecefioffaaTakeChain
namespace Go.Proofs.Ytanjiecefioffaa
open Go.RowKit

theorem kind_is {S : HS} {x k : Int} (hk : S.kind x = k) (h0 : k ≠ 0) : x % 4 = 0 := by
  unfold HS.kind HS.head headOf at hk
  split at hk
  · rename_i h
    exact (is_iff.1 (show S.is x = true from h)).1
  · exact absurd hk.symm (by rw [show kindH 0 = 0 from rfl]; exact h0)
theorem pair_word {S : HS} {x : Int} (h : S.shape x 1 2 0 = true) : S.num x = none ∧ S.bytesOk x = false ∧ S.nameOk x = false ∧ x % 4 = 0 ∧ S.shape x 6 (-1) 1 = false := by
  unfold HS.shape at h
  rw [Bool.and_eq_true, decide_eq_true_eq] at h
  have hk := h.1
  have h4 := kind_is hk (by decide)
  refine ⟨?_, ?_, ?_, h4, ?_⟩
  · unfold HS.num HS.numOk HS.numFit HS.shape
    rw [if_neg (by omega), hk]; rfl
  · unfold HS.bytesOk HS.bytesFit HS.shape
    rw [hk]; rfl
  · unfold HS.nameOk HS.shape
    rw [hk]; rfl
  · unfold HS.shape
    rw [hk]; rfl
section
variable {w : World} {X : StV} {V : HV} {S : HS} {Y : StS} {R : HP}
set_option maxRecDepth 100000 in
set_option maxHeartbeats 4000000 in
theorem StW.take_pair (gl : Nat) (N L : Nat) (p cs : Nat → Int) (deep : Int) (hL : L < 20000) (h : StW w X V S Y (Go.Proofs.Ytanjiecefioffaa.blk gl (.cells #[.int .i64 ((L : Int) + 1)] 3 (0, 0)) * R)) (hd : 1 < deep ∧ deep ≤ 100)
    (hN : 0 < N) (hc : Chain S p cs N) (hend : N ≤ L → p N = 10) (h10 : S.shape 10 1 2 0 = false) :
    Calls Try.prog 60 #[.pointer (some ⟨X.g, 0, none⟩), .int .u64 (p 0), .pointer (some ⟨gl, 0, none⟩), .int .i64 deep] w (TakePost X V S Y R gl cs N L w) := by
  obtain ⟨nx, ox, mx, x4, sx⟩ := pair_word (hc.pair 0 hN)
  have bx := hc.bd 0 (Nat.zero_le _)
  have hs : sat w (Go.Proofs.Ytanjiecefioffaa.blk gl (.cells #[.int .i64 ((L : Int) + 1)] 3 (0, 0)) * (isHeap V S * (isSt X V.g Y * R))) := h.s.perm (by ac_rfl)
  have cA : ∀ o, (w.alloc o).cell? ⟨gl, 0, none⟩ = some (.int .i64 ((L : Int) + 1)) := fun o => ((hs.alloc o).right.left.cell 0).trans rfl
  have fA : ∀ o, (w.alloc o).frozen? ⟨gl, 0, none⟩ = false := fun o => (hs.alloc o).right.left.frozen 0
  obtain ⟨Z, hZ⟩ : ∃ Z : Obj, Z = .cells #[.int .i64 0, .int .i64 0, .bool false, .slice none 0 0, .string ⟨#[]⟩, .slice none 0 0, .slice none 0 0] 54 := ⟨_, rfl⟩
  have hs2 : sat ((w.alloc Z).setCell ⟨gl, 0, none⟩ (.int .i64 L)) (Go.Proofs.Ytanjiecefioffaa.blk gl (.cells #[.int .i64 L] 3 (0, 0)) * (Go.Proofs.Ytanjiecefioffaa.blk w.heap.size Z * (isHeap V S * (isSt X V.g Y * R)))) :=
    (show sat (w.alloc Z) (Go.Proofs.Ytanjiecefioffaa.blk gl (.cells #[.int .i64 ((L : Int) + 1)] 3 (0, 0)) * (Go.Proofs.Ytanjiecefioffaa.blk w.heap.size Z * (isHeap V S * (isSt X V.g Y * R)))) from (hs.alloc Z).perm (by ac_rfl)).setCell (off := 0) (.int .i64 L)
  have h2 : StW ((w.alloc Z).setCell ⟨gl, 0, none⟩ (.int .i64 L)) X V S Y (Go.Proofs.Ytanjiecefioffaa.blk w.heap.size Z * (Go.Proofs.Ytanjiecefioffaa.blk gl (.cells #[.int .i64 L] 3 (0, 0)) * R)) := ⟨hs2.perm (by ac_rfl), h.ok⟩
  have hb2 : Below 0 w ((w.alloc Z).setCell ⟨gl, 0, none⟩ (.int .i64 L)) := (Below.zero_alloc w Z).setCell (p := ⟨gl, 0, none⟩) (Nat.zero_le _) _
  clear hs2
  rw [hZ] at h2 hb2
  clear hZ
  have g0 : ((L : Int) + 1 - 1) = (L : Int) := by omega
  have g1b : IntKind.i64.wrap (L : Int) = (L : Int) := IntWalk.i64_in _ (by omega)
  have g2 : decide ((L : Int) + 1 ≤ 0) = false := by rw [decide_eq_false_iff_not]; omega
  have g3 : (deep == 0) = false := by simp; omega
  have HX := Lib.hid (And.intro h2 (And.intro hb2 (And.intro nx (And.intro ox (And.intro mx sx)))))
  have HC := Lib.hid (And.intro hc (And.intro hend (And.intro h10 hN)))
  have m1 : bits .and .u64 (p 0) 255 = p 0 % 256 := u64_mask 8 (p 0) bx.1 bx.2 (by decide)
  have q1 : (p 0 == 2) = false := by rw [beq_eq_false_iff_ne]; omega
  have q2 : (p 0 == 6) = false := by rw [beq_eq_false_iff_ne]; omega
  have q3 : (p 0 == 10) = false := by rw [beq_eq_false_iff_ne]; omega
  have q4 : (p 0 % 256 == 22) = false := by rw [beq_eq_false_iff_ne]; omega
  have q5 : (p 0 % 256 == 26) = false := by rw [beq_eq_false_iff_ne]; omega
  have q6 : ¬ (p 0 = 2) := by omega
  have q7 : ¬ (p 0 = 6) := by omega
  have q8 : ¬ (p 0 = 10) := by omega
  clear h h2 hs hb2 nx ox mx sx hc hend h10 hN x4
  go_enter Try.func60, Try.ntmps60
  go_wp2_with fail
  have hN := HX.out.1.Num (p 0) bx.1 bx.2
  rw [HX.out.2.2.1] at hN
  clear cA fA
  generalize hw2 : (w.alloc (.cells #[.int .i64 0, .int .i64 0, .bool false, .slice none 0 0, .string ⟨#[]⟩, .slice none 0 0, .slice none 0 0] 54)).setCell ⟨gl, 0, none⟩ (.int .i64 L) = w2 at *
  with_reducible refine hN.mono ?_
  rintro e w3 ⟨ao, ac, rfl, hac, h3, hb3⟩
  simp only [Option.getD_none, Option.isSome_none] at h3 ⊢
  obtain ⟨P, hP⟩ : ∃ P, decide ((0 : Int) < 0) = P := ⟨_, rfl⟩
  rw [hP]
  generalize (limbsOf (0 : Int).natAbs).length = nl at *
  have hp := (h3.push (.cells #[.bool P, .slice ao nl ac] 51))
  have hpp : StW (w3.alloc (.cells #[.bool P, .slice ao nl ac] 51)) X V S Y (Go.Proofs.Ytanjiecefioffaa.blk w.heap.size (.cells #[.int .i64 0, .int .i64 0, .bool false, .slice none 0 0, .string ⟨#[]⟩, .slice none 0 0, .slice none 0 0] 54 (0, 0)) * (Go.Proofs.Ytanjiecefioffaa.blk gl (.cells #[.int .i64 L] 3 (0, 0)) * R)) := hp.drop.drop
  have hB := hpp.Bytes (p 0) bx.1 bx.2
  unfold BytesPost at hB
  rw [HX.out.2.2.2.1] at hB
  have HB := Lib.hid ((HX.out.2.1.trans hb3).trans (Below.zero_alloc w3 (.cells #[.bool P, .slice ao nl ac] 51)))
  clear hN h3 hb3 hp hac hpp
  go_wp2_with fail
  with_reducible refine hB.mono ?_
  rintro e w4 ⟨v, rfl, h4, hb4⟩
  have h4d := h4.drop
  have hNm := h4d.Name (p 0) bx.1 bx.2
  unfold NamePost at hNm
  rw [HX.out.2.2.2.2.1] at hNm
  have HB4 := Lib.hid (HB.out.trans hb4)
  clear hB h4 h4d hb4
  go_wp2_with fail
  with_reducible refine hNm.mono ?_
  rintro e w5 ⟨rfl, h5, hb5⟩
  generalize S.name (p 0) = nm at *
  have hS1 := h5.shape (p 0) 6 (-1) 1 bx.1 bx.2
  have hS2 := fun j : Nat => (h5.drewN j).shape (p 0) 1 2 0 bx.1 bx.2
  rw [HX.out.2.2.2.2.2] at hS1
  rw [HC.out.1.pair 0 HC.out.2.2.2] at hS2
  have HX5 := Lib.hid (And.intro h5 (HB4.out.trans hb5))
  clear hNm h5 hb5
  go_wp2_with fail
  with_reducible refine hS1.mono ?_
  rintro e w' ⟨rfl, j1, rfl⟩
  go_wp2_with fail
  with_reducible refine (hS2 j1).mono ?_
  rintro e w' ⟨rfl, j2, rfl⟩
  have h6 := (HX5.out.1.drewN j1).drewN j2
  have hb6 := (HX5.out.2.trans (drewN_below0 w5 j1)).trans (drewN_below0 _ j2)
  generalize (w5.drewN j1).drewN j2 = w6 at *
  have h7 : StW w6 X V S Y (Go.Proofs.Ytanjiecefioffaa.blk gl (.cells #[.int .i64 L] 3 (0, 0)) * (Go.Proofs.Ytanjiecefioffaa.blk w.heap.size (.cells #[.int .i64 0, .int .i64 0, .bool false, .slice none 0 0, .string ⟨#[]⟩, .slice none 0 0, .slice none 0 0] 54 (0, 0)) * R)) := ⟨h6.s.perm (by ac_rfl), h6.ok⟩
  have hT := StW.takeList_chain gl N L p cs deep (by omega) h7 hd HC.out.1 HC.out.2.1 HC.out.2.2.1
  unfold TakePost at hT
  have HX6 := Lib.hid hb6
  clear hS1 hS2 h6 hb6 h7
  by_cases hNL : N ≤ L
  · simp only [if_pos hNL] at hT
    go_wp2_with fail
    refine hT.mono ?_
    rintro e w8 ⟨items, v8, rfl, hit, h8, hb8⟩
    have hso0 : sat w8 (own 54 7 v8 N (itemsC items) * (Go.Proofs.Ytanjiecefioffaa.blk w.heap.size (.cells #[.int .i64 0, .int .i64 0, .bool false, .slice none 0 0, .string ⟨#[]⟩, .slice none 0 0, .slice none 0 0] 54 (0, 0)) * (isHeap V S * (isSt X V.g Y * (Go.Proofs.Ytanjiecefioffaa.blk gl (.cells #[.int .i64 ((L : Int) - N)] 3 (0, 0)) * (magsP items * R)))))) := h8.s.perm (by ac_rfl)
    obtain ⟨av, cv, rfl⟩ := own_val hso0
    have hso : sat w8 (Go.Proofs.Ytanjiecefioffaa.blk w.heap.size (.cells #[.int .i64 0, .int .i64 0, .bool false, .slice none 0 0, .string ⟨#[]⟩, .slice none 0 0, .slice none 0 0] 54 (0, 0)) * (isHeap V S * (isSt X V.g Y * (own 54 7 (.slice av N cv) N (itemsC items) * (Go.Proofs.Ytanjiecefioffaa.blk gl (.cells #[.int .i64 ((L : Int) - N)] 3 (0, 0)) * (magsP items * R)))))) := hso0.perm (by ac_rfl)
    have c0 := (hso.left.cell 0).trans rfl
    have f0 := hso.left.frozen 0
    have c1 := (hso.left.cell 1).trans rfl
    have f1 := hso.left.frozen 1
    have c2 := (hso.left.cell 2).trans rfl
    have f2 := hso.left.frozen 2
    have c3 := (hso.left.cell 3).trans rfl
    have f3 := hso.left.frozen 3
    have c4 := (hso.left.cell 4).trans rfl
    have f4 := hso.left.frozen 4
    have c5 := (hso.left.cell 5).trans rfl
    have f5 := hso.left.frozen 5
    have c6 := (hso.left.cell 6).trans rfl
    have f6 := hso.left.frozen 6
    have HS := Lib.hid (And.intro hso (And.intro h8.ok (And.intro (HX6.out.trans hb8) hit)))
    clear hT h8 hb8 hso hso0 hit
    go_wp2_with fail
    have hs9 := (((((((HS.out.1.setCell (off := 0) (.int .i64 6)).setCell (off := 1) (.int .i64 0)).setCell (off := 2) (.bool false)).setCell (off := 3) (.slice none 0 0)).setCell (off := 4) (.string ⟨#[]⟩)).setCell (off := 5) (.slice av N cv)).setCell (off := 6) (.slice none 0 0))
    have hb9 := (((((((HS.out.2.2.1.setCell (p := ⟨w.heap.size, 0, none⟩) (Nat.zero_le _) (.int .i64 6)).setCell (p := ⟨w.heap.size, 1, none⟩) (Nat.zero_le _) (.int .i64 0)).setCell (p := ⟨w.heap.size, 2, none⟩) (Nat.zero_le _) (.bool false)).setCell (p := ⟨w.heap.size, 3, none⟩) (Nat.zero_le _) (.slice none 0 0)).setCell (p := ⟨w.heap.size, 4, none⟩) (Nat.zero_le _) (.string ⟨#[]⟩)).setCell (p := ⟨w.heap.size, 5, none⟩) (Nat.zero_le _) (.slice av N cv)).setCell (p := ⟨w.heap.size, 6, none⟩) (Nat.zero_le _) (.slice none 0 0))
    clear c0 f0 c1 f1 c2 f2 c3 f3 c4 f4 c5 f5 c6 f6
    generalize (((((((w8.setCell ⟨w.heap.size, 0, none⟩ (.int .i64 6)).setCell ⟨w.heap.size, 1, none⟩ (.int .i64 0)).setCell ⟨w.heap.size, 2, none⟩ (.bool false)).setCell ⟨w.heap.size, 3, none⟩ (.slice none 0 0)).setCell ⟨w.heap.size, 4, none⟩ (.string ⟨#[]⟩)).setCell ⟨w.heap.size, 5, none⟩ (.slice av N cv)).setCell ⟨w.heap.size, 6, none⟩ (.slice none 0 0)) = w9 at *
    have r0 : w9.cell? ⟨w.heap.size, 0, none⟩ = some (.int .i64 6) := (hs9.left.cell 0).trans rfl
    have r1 : w9.cell? ⟨w.heap.size, 1, none⟩ = some (.int .i64 0) := (hs9.left.cell 1).trans rfl
    have r2 : w9.cell? ⟨w.heap.size, 2, none⟩ = some (.bool false) := (hs9.left.cell 2).trans rfl
    have r3 : w9.cell? ⟨w.heap.size, 3, none⟩ = some (.slice none 0 0) := (hs9.left.cell 3).trans rfl
    have r4 : w9.cell? ⟨w.heap.size, 4, none⟩ = some (.string ⟨#[]⟩) := (hs9.left.cell 4).trans rfl
    have r5 : w9.cell? ⟨w.heap.size, 5, none⟩ = some (.slice av N cv) := (hs9.left.cell 5).trans rfl
    have r6 : w9.cell? ⟨w.heap.size, 6, none⟩ = some (.slice none 0 0) := (hs9.left.cell 6).trans rfl
    refine bodyPost_ret (v := .tuple #[.agg #[.int .i64 6, .int .i64 0, .bool false, .slice none 0 0, .string ⟨#[]⟩, .slice av N cv, .slice none 0 0], .bool true]) (by simp [results, Try.results60, go_sem, r0, r1, r2, r3, r4, r5, r6]) rfl ?_
    unfold TakePost
    rw [if_pos hNL]
    exact ⟨items, .slice av N cv, rfl, HS.out.2.2.2, ⟨hs9.right, HS.out.2.1⟩, hb9⟩
  · simp only [if_neg hNL] at hT
    go_wp2_with fail
    refine hT.mono ?_
    rintro e w8 ⟨rfl, h8, hb8⟩
    have hso : sat w8 (Go.Proofs.Ytanjiecefioffaa.blk w.heap.size (.cells #[.int .i64 0, .int .i64 0, .bool false, .slice none 0 0, .string ⟨#[]⟩, .slice none 0 0, .slice none 0 0] 54 (0, 0)) * (isHeap V S * (isSt X V.g Y * R))) := h8.s.perm (by ac_rfl)
    have c0 := (hso.left.cell 0).trans rfl
    have f0 := hso.left.frozen 0
    have c1 := (hso.left.cell 1).trans rfl
    have f1 := hso.left.frozen 1
    have c2 := (hso.left.cell 2).trans rfl
    have f2 := hso.left.frozen 2
    have c3 := (hso.left.cell 3).trans rfl
    have f3 := hso.left.frozen 3
    have c4 := (hso.left.cell 4).trans rfl
    have f4 := hso.left.frozen 4
    have c5 := (hso.left.cell 5).trans rfl
    have f5 := hso.left.frozen 5
    have c6 := (hso.left.cell 6).trans rfl
    have f6 := hso.left.frozen 6
    have HS := Lib.hid (And.intro hso (And.intro h8.ok (HX6.out.trans hb8)))
    clear hT h8 hb8 hso
    unfold zeroD
    go_wp2_with fail
    have hs9 := (((((((HS.out.1.setCell (off := 0) (.int .i64 0)).setCell (off := 1) (.int .i64 0)).setCell (off := 2) (.bool false)).setCell (off := 3) (.slice none 0 0)).setCell (off := 4) (.string ⟨#[]⟩)).setCell (off := 5) (.slice none 0 0)).setCell (off := 6) (.slice none 0 0))
    have hb9 := (((((((HS.out.2.2.setCell (p := ⟨w.heap.size, 0, none⟩) (Nat.zero_le _) (.int .i64 0)).setCell (p := ⟨w.heap.size, 1, none⟩) (Nat.zero_le _) (.int .i64 0)).setCell (p := ⟨w.heap.size, 2, none⟩) (Nat.zero_le _) (.bool false)).setCell (p := ⟨w.heap.size, 3, none⟩) (Nat.zero_le _) (.slice none 0 0)).setCell (p := ⟨w.heap.size, 4, none⟩) (Nat.zero_le _) (.string ⟨#[]⟩)).setCell (p := ⟨w.heap.size, 5, none⟩) (Nat.zero_le _) (.slice none 0 0)).setCell (p := ⟨w.heap.size, 6, none⟩) (Nat.zero_le _) (.slice none 0 0))
    clear c0 f0 c1 f1 c2 f2 c3 f3 c4 f4 c5 f5 c6 f6
    generalize (((((((w8.setCell ⟨w.heap.size, 0, none⟩ (.int .i64 0)).setCell ⟨w.heap.size, 1, none⟩ (.int .i64 0)).setCell ⟨w.heap.size, 2, none⟩ (.bool false)).setCell ⟨w.heap.size, 3, none⟩ (.slice none 0 0)).setCell ⟨w.heap.size, 4, none⟩ (.string ⟨#[]⟩)).setCell ⟨w.heap.size, 5, none⟩ (.slice none 0 0)).setCell ⟨w.heap.size, 6, none⟩ (.slice none 0 0)) = w9 at *
    have r0 : w9.cell? ⟨w.heap.size, 0, none⟩ = some (.int .i64 0) := (hs9.left.cell 0).trans rfl
    have r1 : w9.cell? ⟨w.heap.size, 1, none⟩ = some (.int .i64 0) := (hs9.left.cell 1).trans rfl
    have r2 : w9.cell? ⟨w.heap.size, 2, none⟩ = some (.bool false) := (hs9.left.cell 2).trans rfl
    have r3 : w9.cell? ⟨w.heap.size, 3, none⟩ = some (.slice none 0 0) := (hs9.left.cell 3).trans rfl
    have r4 : w9.cell? ⟨w.heap.size, 4, none⟩ = some (.string ⟨#[]⟩) := (hs9.left.cell 4).trans rfl
    have r5 : w9.cell? ⟨w.heap.size, 5, none⟩ = some (.slice none 0 0) := (hs9.left.cell 5).trans rfl
    have r6 : w9.cell? ⟨w.heap.size, 6, none⟩ = some (.slice none 0 0) := (hs9.left.cell 6).trans rfl
    refine bodyPost_ret (v := .tuple #[zeroD, .bool false]) (by simp [results, Try.results60, go_sem, r0, r1, r2, r3, r4, r5, r6, zeroD]) rfl ?_
    unfold TakePost
    rw [if_neg hNL]
    exact ⟨rfl, ⟨hs9.right, HS.out.2.1⟩, hb9⟩
end
end Go.Proofs.Ytanjiecefioffaa
