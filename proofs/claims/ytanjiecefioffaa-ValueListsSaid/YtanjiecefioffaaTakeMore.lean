/- value.Store: Take of a chain that ends. value.Store: take of a vector of numbers. value.Store: Take of a vector. value.Store: take and Take of the empty list. -/
import Derived.Test.YtanjiecefioffaaTakePair
import Derived.Test.YtanjiecefioffaaRingAll
/- value.Store: Take of a chain that ends. -/
namespace Go.Proofs.Ytanjiecefioffaa
open Go.RowKit
section
variable {w : World} {X : StV} {V : HV} {S : HS} {Y : StS} {R : HP}
set_option maxRecDepth 100000 in
set_option maxHeartbeats 2000000 in
/-- A chain of numbers that ends in time is told. -/
theorem StW.Take_short (h : StW w X V S Y R) (N : Nat) (p cs : Nat → Int) (h0 : 0 < N) (hN : N ≤ 19999) (hc : Chain S p cs N) (hend : p N = 10) (h10 : S.shape 10 1 2 0 = false) :
    Calls Try.prog 28 #[.pointer (some ⟨X.g, 0, none⟩), .int .u64 (p 0), .int .i64 20000] w fun e w' => ∃ (items : List Item) (v : Value), e = .returned (.tuple #[.agg #[.int .i64 6, .int .i64 0, .bool false, .slice none 0 0, .string ⟨#[]⟩, v, .slice none 0 0], .bool true]) ∧ items.map (·.1) = (List.range N).map cs ∧
      StW w' X V S Y (own 54 7 v N (itemsC items) * (magsP items * R)) ∧ Below 0 w w' := by
  have HH := Lib.hid h
  clear h
  go_enter Try.func28, Try.ntmps28
  go_wp2_with fail
  have hp0 := (HH.out.push (.cells #[.int .i64 0, .int .i64 0, .bool false, .slice none 0 0, .string ⟨#[]⟩, .slice none 0 0, .slice none 0 0] 54)).push (.cells #[.int .i64 20000] 3)
  rw [World.size_alloc] at hp0
  have hbp : Below 0 w ((w.alloc (.cells #[.int .i64 0, .int .i64 0, .bool false, .slice none 0 0, .string ⟨#[]⟩, .slice none 0 0, .slice none 0 0] 54)).alloc (.cells #[.int .i64 20000] 3)) := (Below.zero_alloc _ _).trans (Below.zero_alloc _ _)
  have hT := StW.take_pair (w.heap.size + 1) N 19999 p cs 100 (by decide) hp0 (by decide) h0 hc (fun _ => hend) h10
  unfold TakePost at hT
  simp only [if_pos hN] at hT
  have HB := Lib.hid hbp
  clear hp0 hbp hc
  with_reducible refine hT.mono ?_
  rintro e w3 ⟨items, v, rfl, hit, h3, hb3⟩
  have hso0 : sat w3 (own 54 7 v N (itemsC items) * (isHeap V S * (isSt X V.g Y * ((Go.Proofs.Ytanjiecefioffaa.blk (w.heap.size + 1) (.cells #[.int .i64 (((19999 : Nat) : Int) - N)] 3 (0, 0))) * (magsP items * (Go.Proofs.Ytanjiecefioffaa.blk w.heap.size (.cells #[.int .i64 0, .int .i64 0, .bool false, .slice none 0 0, .string ⟨#[]⟩, .slice none 0 0, .slice none 0 0] 54 (0, 0)) * R)))))) := h3.s.perm (by ac_rfl)
  obtain ⟨av, cv, rfl⟩ := own_val hso0
  have h4 := h3.push (.cells #[.int .i64 6, .int .i64 0, .bool false, .slice none 0 0, .string ⟨#[]⟩, .slice av N cv, .slice none 0 0] 54)
  have hso : sat (w3.alloc (.cells #[.int .i64 6, .int .i64 0, .bool false, .slice none 0 0, .string ⟨#[]⟩, .slice av N cv, .slice none 0 0] 54)) (Go.Proofs.Ytanjiecefioffaa.blk w.heap.size (.cells #[.int .i64 0, .int .i64 0, .bool false, .slice none 0 0, .string ⟨#[]⟩, .slice none 0 0, .slice none 0 0] 54 (0, 0)) * ((Go.Proofs.Ytanjiecefioffaa.blk w3.heap.size (.cells #[.int .i64 6, .int .i64 0, .bool false, .slice none 0 0, .string ⟨#[]⟩, .slice av N cv, .slice none 0 0] 54 (0, 0)) * Go.Proofs.Ytanjiecefioffaa.blk (w.heap.size + 1) (.cells #[.int .i64 (((19999 : Nat) : Int) - N)] 3 (0, 0))) * (isHeap V S * (isSt X V.g Y * (own 54 7 (.slice av N cv) N (itemsC items) * (magsP items * R)))))) := h4.s.perm (by ac_rfl)
  have hb5 := (HB.out.trans hb3).trans (Below.zero_alloc w3 (.cells #[.int .i64 6, .int .i64 0, .bool false, .slice none 0 0, .string ⟨#[]⟩, .slice av N cv, .slice none 0 0] 54))
  have HG := Lib.hid (And.intro h4.ok (And.intro hso (And.intro hb5 hit)))
  have c0 := (hso.left.cell 0).trans rfl
  have f0 := hso.left.frozen 0
  have c1 := (hso.left.cell 1).trans rfl
  have f1 := hso.left.frozen 1
  have c2 := (hso.left.cell 2).trans rfl
  have f2 := hso.left.frozen 2
  have c3 := (hso.left.cell 3).trans rfl
  have f3 := hso.left.frozen 3
  have c4 := (hso.left.cell 4).trans rfl
  have f4 := hso.left.frozen 4
  have c5 := (hso.left.cell 5).trans rfl
  have f5 := hso.left.frozen 5
  have c6 := (hso.left.cell 6).trans rfl
  have f6 := hso.left.frozen 6
  clear h3 hb3 h4 hT hso hb5 hso0 hit
  go_wp2_with fail
  have hs7 := (((((((HG.out.2.1.setCell (off := 0) (.int .i64 6)).setCell (off := 1) (.int .i64 0)).setCell (off := 2) (.bool false)).setCell (off := 3) (.slice none 0 0)).setCell (off := 4) (.string ⟨#[]⟩)).setCell (off := 5) (.slice av N cv)).setCell (off := 6) (.slice none 0 0))
  have hb7 := (((((((HG.out.2.2.1.setCell (p := ⟨w.heap.size, 0, none⟩) (Nat.zero_le _) (.int .i64 6)).setCell (p := ⟨w.heap.size, 1, none⟩) (Nat.zero_le _) (.int .i64 0)).setCell (p := ⟨w.heap.size, 2, none⟩) (Nat.zero_le _) (.bool false)).setCell (p := ⟨w.heap.size, 3, none⟩) (Nat.zero_le _) (.slice none 0 0)).setCell (p := ⟨w.heap.size, 4, none⟩) (Nat.zero_le _) (.string ⟨#[]⟩)).setCell (p := ⟨w.heap.size, 5, none⟩) (Nat.zero_le _) (.slice av N cv)).setCell (p := ⟨w.heap.size, 6, none⟩) (Nat.zero_le _) (.slice none 0 0))
  clear c0 f0 c1 f1 c2 f2 c3 f3 c4 f4 c5 f5 c6 f6
  generalize ((((((((w3.alloc (.cells #[.int .i64 6, .int .i64 0, .bool false, .slice none 0 0, .string ⟨#[]⟩, .slice av N cv, .slice none 0 0] 54)).setCell ⟨w.heap.size, 0, none⟩ (.int .i64 6)).setCell ⟨w.heap.size, 1, none⟩ (.int .i64 0)).setCell ⟨w.heap.size, 2, none⟩ (.bool false)).setCell ⟨w.heap.size, 3, none⟩ (.slice none 0 0)).setCell ⟨w.heap.size, 4, none⟩ (.string ⟨#[]⟩)).setCell ⟨w.heap.size, 5, none⟩ (.slice av N cv)).setCell ⟨w.heap.size, 6, none⟩ (.slice none 0 0)) = w7 at *
  have r0 : w7.cell? ⟨w.heap.size, 0, none⟩ = some (.int .i64 6) := (hs7.left.cell 0).trans rfl
  have r1 : w7.cell? ⟨w.heap.size, 1, none⟩ = some (.int .i64 0) := (hs7.left.cell 1).trans rfl
  have r2 : w7.cell? ⟨w.heap.size, 2, none⟩ = some (.bool false) := (hs7.left.cell 2).trans rfl
  have r3 : w7.cell? ⟨w.heap.size, 3, none⟩ = some (.slice none 0 0) := (hs7.left.cell 3).trans rfl
  have r4 : w7.cell? ⟨w.heap.size, 4, none⟩ = some (.string ⟨#[]⟩) := (hs7.left.cell 4).trans rfl
  have r5 : w7.cell? ⟨w.heap.size, 5, none⟩ = some (.slice av N cv) := (hs7.left.cell 5).trans rfl
  have r6 : w7.cell? ⟨w.heap.size, 6, none⟩ = some (.slice none 0 0) := (hs7.left.cell 6).trans rfl
  refine bodyPost_ret (v := .tuple #[.agg #[.int .i64 6, .int .i64 0, .bool false, .slice none 0 0, .string ⟨#[]⟩, .slice av N cv, .slice none 0 0], .bool true]) (by simp [results, Try.results28, go_sem, r0, r1, r2, r3, r4, r5, r6]) rfl ⟨items, .slice av N cv, rfl, HG.out.2.2.2, ⟨hs7.right.right, HG.out.1⟩, hb7⟩
end
end Go.Proofs.Ytanjiecefioffaa

/- value.Store: take of a vector of numbers. -/
namespace Go.Proofs.Ytanjiecefioffaa
open Go.RowKit

theorem vec_word {S : HS} {x : Int} (h : S.shape x 2 (-1) 0 = true) : S.num x = none ∧ S.bytesOk x = false ∧ S.nameOk x = false ∧ x % 4 = 0 ∧ S.shape x 6 (-1) 1 = false ∧ S.shape x 1 2 0 = false := by
  unfold HS.shape at h
  rw [Bool.and_eq_true, decide_eq_true_eq] at h
  have hk := h.1
  have h4 := kind_is hk (by decide)
  refine ⟨?_, ?_, ?_, h4, ?_, ?_⟩
  · unfold HS.num HS.numOk HS.numFit HS.shape
    rw [if_neg (by omega), hk]; rfl
  · unfold HS.bytesOk HS.bytesFit HS.shape
    rw [hk]; rfl
  · unfold HS.nameOk HS.shape
    rw [hk]; rfl
  · unfold HS.shape
    rw [hk]; rfl
  · unfold HS.shape
    rw [hk]; rfl
def vecB (v : Value) : Obj := .cells #[.int .i64 7, .int .i64 0, .bool false, .slice none 0 0, .string ⟨#[]⟩, v, .slice none 0 0] 54 (0, 0)
def TvRel (W : World) (X : StV) (V : HV) (S : HS) (Y : StS) (R : HP) (gl g8 g18 : Nat) (cs : Nat → Int) (N L : Nat) (i : Value) (wr : World) : Prop :=
  ∃ (k : Nat) (items : List Item) (v : Value), i = .int .i64 k ∧ k ≤ N ∧ items.map (·.1) = (List.range k).map cs ∧
    StW wr X V S Y (Go.Proofs.Ytanjiecefioffaa.blk g8 (.cells #[.int .i64 0, .int .i64 0, .bool false, .slice none 0 0, .string ⟨#[]⟩, .slice none 0 0, .slice none 0 0] 54 (0, 0)) * (Go.Proofs.Ytanjiecefioffaa.blk g18 (vecB v) * (own 54 7 v k (itemsC items) * (Go.Proofs.Ytanjiecefioffaa.blk gl (.cells #[.int .i64 ((L : Int) - k)] 3 (0, 0)) * (magsP items * R))))) ∧ Below 0 W wr
section
variable {w : World} {X : StV} {V : HV} {S : HS} {Y : StS} {R : HP}
set_option maxRecDepth 100000 in
set_option maxHeartbeats 4000000 in
theorem StW.take_vec (gl : Nat) (N L : Nat) (x : Int) (cs : Nat → Int) (deep : Int) (hL : L < 20000) (h : StW w X V S Y (Go.Proofs.Ytanjiecefioffaa.blk gl (.cells #[.int .i64 ((L : Int) + 1)] 3 (0, 0)) * R)) (hd : 1 < deep ∧ deep ≤ 100)
    (x0 : 0 ≤ x ∧ x < 18446744073709551616) (hv : S.shape x 2 (-1) 0 = true) (ht : S.tag x = N) (hc : ∀ k, k < N → S.num (S.getAt x k) = some (cs k)) (hN : N ≤ L) :
    Calls Try.prog 60 #[.pointer (some ⟨X.g, 0, none⟩), .int .u64 x, .pointer (some ⟨gl, 0, none⟩), .int .i64 deep] w fun e w' => ∃ (items : List Item) (v : Value),
      e = .returned (.tuple #[.agg #[.int .i64 7, .int .i64 0, .bool false, .slice none 0 0, .string ⟨#[]⟩, v, .slice none 0 0], .bool true]) ∧ items.map (·.1) = (List.range N).map cs ∧
      StW w' X V S Y (own 54 7 v N (itemsC items) * (Go.Proofs.Ytanjiecefioffaa.blk gl (.cells #[.int .i64 ((L : Int) - N)] 3 (0, 0)) * (magsP items * R))) ∧ Below 0 w w' := by
  obtain ⟨i0, hi, hz0, hz1, hz2⟩ := info_parts info_datum
  have H1 := Lib.hid (And.intro hi (And.intro hz0 (And.intro hz1 hz2)))
  clear hi hz0 hz1 hz2
  obtain ⟨nx, ox, mx, x4, sx, sp⟩ := vec_word hv
  have bx := x0
  have hs : sat w (Go.Proofs.Ytanjiecefioffaa.blk gl (.cells #[.int .i64 ((L : Int) + 1)] 3 (0, 0)) * (isHeap V S * (isSt X V.g Y * R))) := h.s.perm (by ac_rfl)
  have cA : ∀ o, (w.alloc o).cell? ⟨gl, 0, none⟩ = some (.int .i64 ((L : Int) + 1)) := fun o => ((hs.alloc o).right.left.cell 0).trans rfl
  have fA : ∀ o, (w.alloc o).frozen? ⟨gl, 0, none⟩ = false := fun o => (hs.alloc o).right.left.frozen 0
  obtain ⟨Z, hZ⟩ : ∃ Z : Obj, Z = .cells #[.int .i64 0, .int .i64 0, .bool false, .slice none 0 0, .string ⟨#[]⟩, .slice none 0 0, .slice none 0 0] 54 := ⟨_, rfl⟩
  have hs2 : sat ((w.alloc Z).setCell ⟨gl, 0, none⟩ (.int .i64 L)) (Go.Proofs.Ytanjiecefioffaa.blk gl (.cells #[.int .i64 L] 3 (0, 0)) * (Go.Proofs.Ytanjiecefioffaa.blk w.heap.size Z * (isHeap V S * (isSt X V.g Y * R)))) :=
    (show sat (w.alloc Z) (Go.Proofs.Ytanjiecefioffaa.blk gl (.cells #[.int .i64 ((L : Int) + 1)] 3 (0, 0)) * (Go.Proofs.Ytanjiecefioffaa.blk w.heap.size Z * (isHeap V S * (isSt X V.g Y * R)))) from (hs.alloc Z).perm (by ac_rfl)).setCell (off := 0) (.int .i64 L)
  have h2 : StW ((w.alloc Z).setCell ⟨gl, 0, none⟩ (.int .i64 L)) X V S Y (Go.Proofs.Ytanjiecefioffaa.blk w.heap.size Z * (Go.Proofs.Ytanjiecefioffaa.blk gl (.cells #[.int .i64 L] 3 (0, 0)) * R)) := ⟨hs2.perm (by ac_rfl), h.ok⟩
  have hb2 : Below 0 w ((w.alloc Z).setCell ⟨gl, 0, none⟩ (.int .i64 L)) := (Below.zero_alloc w Z).setCell (p := ⟨gl, 0, none⟩) (Nat.zero_le _) _
  clear hs2
  rw [hZ] at h2 hb2
  clear hZ
  have g0 : ((L : Int) + 1 - 1) = (L : Int) := by omega
  have g1b : IntKind.i64.wrap (L : Int) = (L : Int) := IntWalk.i64_in _ (by omega)
  have g2 : decide ((L : Int) + 1 ≤ 0) = false := by rw [decide_eq_false_iff_not]; omega
  have g3 : (deep == 0) = false := by simp; omega
  have HX := Lib.hid (And.intro h2 (And.intro hb2 (And.intro nx (And.intro ox (And.intro mx (And.intro sx sp))))))
  have HC := Lib.hid (And.intro hc (And.intro hv ht))
  have m1 : bits .and .u64 x 255 = x % 256 := u64_mask 8 x bx.1 bx.2 (by decide)
  have q1 : (x == 2) = false := by rw [beq_eq_false_iff_ne]; omega
  have q2 : (x == 6) = false := by rw [beq_eq_false_iff_ne]; omega
  have q3 : (x == 10) = false := by rw [beq_eq_false_iff_ne]; omega
  have q4 : (x % 256 == 22) = false := by rw [beq_eq_false_iff_ne]; omega
  have q5 : (x % 256 == 26) = false := by rw [beq_eq_false_iff_ne]; omega
  have q6 : ¬ (x = 2) := by omega
  have q7 : ¬ (x = 6) := by omega
  have q8 : ¬ (x = 10) := by omega
  clear h h2 hs hb2 nx ox mx sx sp hc hv ht x4
  go_enter Try.func60, Try.ntmps60
  go_wp2_with fail
  have hN := HX.out.1.Num x bx.1 bx.2
  rw [HX.out.2.2.1] at hN
  clear cA fA
  generalize hw2 : (w.alloc (.cells #[.int .i64 0, .int .i64 0, .bool false, .slice none 0 0, .string ⟨#[]⟩, .slice none 0 0, .slice none 0 0] 54)).setCell ⟨gl, 0, none⟩ (.int .i64 L) = w2 at *
  with_reducible refine hN.mono ?_
  rintro e w3 ⟨ao, ac, rfl, hac, h3, hb3⟩
  simp only [Option.getD_none, Option.isSome_none] at h3 ⊢
  obtain ⟨P, hP⟩ : ∃ P, decide ((0 : Int) < 0) = P := ⟨_, rfl⟩
  rw [hP]
  generalize (limbsOf (0 : Int).natAbs).length = nl at *
  have hp := (h3.push (.cells #[.bool P, .slice ao nl ac] 51))
  have hpp : StW (w3.alloc (.cells #[.bool P, .slice ao nl ac] 51)) X V S Y (Go.Proofs.Ytanjiecefioffaa.blk w.heap.size (.cells #[.int .i64 0, .int .i64 0, .bool false, .slice none 0 0, .string ⟨#[]⟩, .slice none 0 0, .slice none 0 0] 54 (0, 0)) * (Go.Proofs.Ytanjiecefioffaa.blk gl (.cells #[.int .i64 L] 3 (0, 0)) * R)) := hp.drop.drop
  have hB := hpp.Bytes x bx.1 bx.2
  unfold BytesPost at hB
  rw [HX.out.2.2.2.1] at hB
  have HB := Lib.hid ((HX.out.2.1.trans hb3).trans (Below.zero_alloc w3 (.cells #[.bool P, .slice ao nl ac] 51)))
  clear hN h3 hb3 hp hac hpp
  go_wp2_with fail
  with_reducible refine hB.mono ?_
  rintro e w4 ⟨v, rfl, h4, hb4⟩
  have h4d := h4.drop
  have hNm := h4d.Name x bx.1 bx.2
  unfold NamePost at hNm
  rw [HX.out.2.2.2.2.1] at hNm
  have HB4 := Lib.hid (HB.out.trans hb4)
  clear hB h4 h4d hb4
  go_wp2_with fail
  with_reducible refine hNm.mono ?_
  rintro e w5 ⟨rfl, h5, hb5⟩
  generalize S.name x = nm at *
  have hS1 := h5.shape x 6 (-1) 1 bx.1 bx.2
  have hS2 := fun j : Nat => (h5.drewN j).shape x 1 2 0 bx.1 bx.2
  have hS3 := fun j : Nat => (h5.drewN j).shape x 2 (-1) 0 bx.1 bx.2
  rw [HX.out.2.2.2.2.2.1] at hS1
  rw [HX.out.2.2.2.2.2.2] at hS2
  rw [HC.out.2.1] at hS3
  have HX5 := Lib.hid (And.intro h5 (HB4.out.trans hb5))
  clear hNm h5 hb5
  go_wp2_with fail
  with_reducible refine hS1.mono ?_
  rintro e w' ⟨rfl, j1, rfl⟩
  go_wp2_with fail
  with_reducible refine (hS2 j1).mono ?_
  rintro e w' ⟨rfl, j2, rfl⟩
  go_wp2_with fail
  with_reducible refine (hS3 (j1 + j2)).mono ?_
  rintro e w' ⟨rfl, j3, rfl⟩
  have h6 := (HX5.out.1.drewN (j1 + j2)).drewN j3
  have hb6 := (HX5.out.2.trans (drewN_below0 w5 (j1 + j2))).trans (drewN_below0 _ j3)
  generalize (w5.drewN (j1 + j2)).drewN j3 = w6 at *
  clear hS1 hS2 hS3
  have h7 := h6.push (.cells #[.int .i64 7, .int .i64 0, .bool false, .slice none 0 0, .string ⟨#[]⟩, .slice none 0 0, .slice none 0 0] 54)
  have hb7 := hb6.trans (Below.zero_alloc w6 (.cells #[.int .i64 7, .int .i64 0, .bool false, .slice none 0 0, .string ⟨#[]⟩, .slice none 0 0, .slice none 0 0] 54))
  obtain ⟨g18, hg18⟩ : ∃ g, w6.heap.size = g := ⟨_, rfl⟩
  have hTg := h7.hw.v.Tagged x bx.1 bx.2
  rw [HC.out.2.2] at hTg
  have c0 := h7.c0
  have HX7 := Lib.hid (And.intro h7 hb7)
  clear h6 hb6 h7 hb7
  go_wp2_with fail
  refine hTg.mono ?_
  rintro e w' ⟨rfl, j4, rfl⟩
  have h8 := HX7.out.1.drewN j4
  have hb8 := HX7.out.2.trans (drewN_below0 _ j4)
  rw [hg18] at h8
  have HG := Lib.hid hg18
  generalize (w6.alloc (.cells #[.int .i64 7, .int .i64 0, .bool false, .slice none 0 0, .string ⟨#[]⟩, .slice none 0 0, .slice none 0 0] 54)).drewN j4 = w8 at *
  have HX8 := Lib.hid (And.intro h8 hb8)
  clear hTg c0 h8 hb8 hg18
  go_wp2_with fail
  go_loopw [140] (TvRel w X V S Y R gl w.heap.size g18 cs N L) (fun i _ => N - (intOf i).toNat)
  case atStart =>
    refine ⟨0, [], .slice none 0 0, rfl, Nat.zero_le _, rfl, ⟨?_, HX8.out.1.ok⟩, HX8.out.2⟩
    have := HX8.out.1.s.nil_own (e := 54) (sz := 7)
    refine this.perm ?_
    show own _ _ _ _ [] * _ = isHeap V S * (isSt X V.g Y * (_ * (_ * (own _ _ _ _ [] * (Go.Proofs.Ytanjiecefioffaa.blk gl (.cells #[.int .i64 ((L : Int) - (0 : Nat))] 3 (0, 0)) * (emp * R))))))
    rw [HP.emp_mul, show ((L : Int) - (0 : Nat)) = L by omega]
    unfold vecB
    ac_rfl
  case round =>
    clear HX8
    obtain ⟨k, items, v, rfl, hkN, hit, hs, hb⟩ := hrel
    have c0 := hs.c0
    by_cases hk : k < N
    · have hl : k < L := by omega
      have b3 : decide ((k : Int) < (N : Int)) = true := by simp; omega
      have hG0 := hs.Get x k bx.1 bx.2
      have bc := hs.hw.v.get_bd x k bx.1
      have hnum := HC.out.1 k hk
      generalize S.getAt x k = y at *
      generalize decide ((0 : Int) ≤ (k : Int) ∧ (k : Int) < S.tag x) = q0 at *
      have HF := Lib.hid (And.intro hs (And.intro hb (And.intro hit hnum)))
      clear hs hb hit hnum
      go_wp2_with fail
      refine hG0.mono ?_
      rintro e w' ⟨rfl, j2, rfl⟩
      have h3 := HF.out.1.drewN j2
      have hb3 := HF.out.2.1.trans (drewN_below0 wr j2)
      generalize wr.drewN j2 = w3' at *
      clear hG0 c0
      have g1 : IntKind.i64.wrap (deep - 1) = deep - 1 := IntWalk.i64_in _ (by omega)
      have h4 : StW w3' X V S Y (Go.Proofs.Ytanjiecefioffaa.blk gl (.cells #[.int .i64 ((L : Int) - k)] 3 (0, 0)) * (Go.Proofs.Ytanjiecefioffaa.blk w.heap.size (.cells #[.int .i64 0, .int .i64 0, .bool false, .slice none 0 0, .string ⟨#[]⟩, .slice none 0 0, .slice none 0 0] 54 (0, 0)) * (Go.Proofs.Ytanjiecefioffaa.blk (g18) (vecB v) * (own 54 7 v k (itemsC items) * (magsP items * R))))) := ⟨h3.s.perm (by ac_rfl), h3.ok⟩
      have hT := StW.take_num gl ((L : Int) - k) (deep - 1) h4 (by omega) (by omega) y bc.1 bc.2 (cs k) HF.out.2.2.2
      have HB := Lib.hid hb3
      clear h3 h4 hb3
      go_wp2_with fail
      with_reducible refine hT.mono ?_
      rintro e w4 ⟨ao, ac, rfl, hac, h5, hb5⟩
      unfold numD
      obtain ⟨P, hP⟩ : ∃ P, decide (cs k < 0) = P := ⟨_, rfl⟩
      obtain ⟨nl, hnl⟩ : ∃ nl, (limbsOf (cs k).natAbs).length = nl := ⟨_, rfl⟩
      rw [hP, hnl]
      have h6 := h5.push (.cells #[.int .i64 1, .int .i64 0, .bool P, .slice ao nl ac, .string ⟨#[]⟩, .slice none 0 0, .slice none 0 0] 54)
      have hso : sat (w4.alloc (.cells #[.int .i64 1, .int .i64 0, .bool P, .slice ao nl ac, .string ⟨#[]⟩, .slice none 0 0, .slice none 0 0] 54)) (Go.Proofs.Ytanjiecefioffaa.blk (g18) (vecB v) * (own 54 7 v k (itemsC items) * (Go.Proofs.Ytanjiecefioffaa.blk w4.heap.size (.cells #[.int .i64 1, .int .i64 0, .bool P, .slice ao nl ac, .string ⟨#[]⟩, .slice none 0 0, .slice none 0 0] 54 (0, 0)) * (isHeap V S * (isSt X V.g Y * (Go.Proofs.Ytanjiecefioffaa.blk w.heap.size (.cells #[.int .i64 0, .int .i64 0, .bool false, .slice none 0 0, .string ⟨#[]⟩, .slice none 0 0, .slice none 0 0] 54 (0, 0)) * (Go.Proofs.Ytanjiecefioffaa.blk gl (.cells #[.int .i64 ((L : Int) - k - 1)] 3 (0, 0)) * (magP (cs k, ao, ac) * (magsP items * R))))))))) := h6.s.perm (by unfold magP; ac_rfl)
      have hb6 := (HB.out.trans hb5).trans (Below.zero_alloc w4 (.cells #[.int .i64 1, .int .i64 0, .bool P, .slice ao nl ac, .string ⟨#[]⟩, .slice none 0 0, .slice none 0 0] 54))
      obtain ⟨av, cv, rfl⟩ := own_val hso.right
      have c5 := (hso.left.cell 5).trans (show _ = some (Value.slice av k cv) from rfl)
      have c5b : ∀ o, ((w4.alloc (.cells #[.int .i64 1, .int .i64 0, .bool P, .slice ao nl ac, .string ⟨#[]⟩, .slice none 0 0, .slice none 0 0] 54)).alloc o).cell? ⟨g18, 5, none⟩ = some (.slice av k cv) := fun o => ((hso.alloc o).right.left.cell 5).trans rfl
      have hs7 := hso.alloc (.cells #[.int .i64 1, .int .i64 0, .bool P, .slice ao nl ac, .string ⟨#[]⟩, .slice none 0 0, .slice none 0 0] 54)
      rw [World.size_alloc] at hs7
      have hs8 : sat ((w4.alloc (.cells #[.int .i64 1, .int .i64 0, .bool P, .slice ao nl ac, .string ⟨#[]⟩, .slice none 0 0, .slice none 0 0] 54)).alloc (.cells #[.int .i64 1, .int .i64 0, .bool P, .slice ao nl ac, .string ⟨#[]⟩, .slice none 0 0, .slice none 0 0] 54)) (own 54 7 (.slice av k cv) k (itemsC items) * (Go.Proofs.Ytanjiecefioffaa.blk (w4.heap.size + 1) (.cells #[.int .i64 1, .int .i64 0, .bool P, .slice ao nl ac, .string ⟨#[]⟩, .slice none 0 0, .slice none 0 0] 54 (0, 0)) * (Go.Proofs.Ytanjiecefioffaa.blk (g18) (vecB (.slice av k cv)) * (isHeap V S * (isSt X V.g Y * (Go.Proofs.Ytanjiecefioffaa.blk w.heap.size (.cells #[.int .i64 0, .int .i64 0, .bool false, .slice none 0 0, .string ⟨#[]⟩, .slice none 0 0, .slice none 0 0] 54 (0, 0)) * (Go.Proofs.Ytanjiecefioffaa.blk gl (.cells #[.int .i64 ((L : Int) - k - 1)] 3 (0, 0)) * (magP (cs k, ao, ac) * (magsP items * R))))))))) := (hs7.perm (show _ = Go.Proofs.Ytanjiecefioffaa.blk w4.heap.size (.cells #[.int .i64 1, .int .i64 0, .bool P, .slice ao nl ac, .string ⟨#[]⟩, .slice none 0 0, .slice none 0 0] 54 (0, 0)) * (own 54 7 (.slice av k cv) k (itemsC items) * (Go.Proofs.Ytanjiecefioffaa.blk (w4.heap.size + 1) (.cells #[.int .i64 1, .int .i64 0, .bool P, .slice ao nl ac, .string ⟨#[]⟩, .slice none 0 0, .slice none 0 0] 54 (0, 0)) * (Go.Proofs.Ytanjiecefioffaa.blk (g18) (vecB (.slice av k cv)) * (isHeap V S * (isSt X V.g Y * (Go.Proofs.Ytanjiecefioffaa.blk w.heap.size (.cells #[.int .i64 0, .int .i64 0, .bool false, .slice none 0 0, .string ⟨#[]⟩, .slice none 0 0, .slice none 0 0] 54 (0, 0)) * (Go.Proofs.Ytanjiecefioffaa.blk gl (.cells #[.int .i64 ((L : Int) - k - 1)] 3 (0, 0)) * (magP (cs k, ao, ac) * (magsP items * R)))))))))  by ac_rfl)).right
      have hcl : CellsAt ((w4.alloc (.cells #[.int .i64 1, .int .i64 0, .bool P, .slice ao nl ac, .string ⟨#[]⟩, .slice none 0 0, .slice none 0 0] 54)).alloc (.cells #[.int .i64 1, .int .i64 0, .bool P, .slice ao nl ac, .string ⟨#[]⟩, .slice none 0 0, .slice none 0 0] 54)) (some ⟨w4.heap.size + 1, 0, none⟩) (itemC (cs k, ao, ac)) := by
        intro j u hj
        have ha : ((⟨w4.heap.size + 1, 0, none⟩ : Addr).add j) = ⟨w4.heap.size + 1, j, none⟩ := by unfold Addr.add; split <;> simp_all
        refine ⟨_, rfl, ?_⟩
        rw [ha, hs8.right.left.cell j]
        unfold itemC at hj
        simp only [hP, hnl] at hj
        rw [← hj]
        simp
      have HS := Lib.hid (And.intro hs8 (And.intro h6.ok (And.intro (hb6.trans (Below.zero_alloc _ (.cells #[.int .i64 1, .int .i64 0, .bool P, .slice ao nl ac, .string ⟨#[]⟩, .slice none 0 0, .slice none 0 0] 54))) (And.intro hP (And.intro hnl (And.intro hac hcl))))))
      clear hT h5 h6 hb5 hb6 hso hP hnl hac hs7 hs8 hcl
      go_wp2_with (at_builtin; refine halt ?_)
      refine goon ?_
      obtain ⟨hi, hz0, hz1, hz2⟩ := H1.out
      refine wpList_append_opt rfl (.tmp 166) (.tmp 168) 52 rfl 54 i0 zeroD 7 112 Try.underlying52 hi hz0 hz1 hz2 rfl (by decide) (.slice av k cv) k (itemsC items) rfl _ (some ⟨w4.heap.size + 1, 0, none⟩) 1 1 (itemC (cs k, ao, ac)) rfl ?_ HS.out.1 rfl HS.out.2.2.2.2.2.2 (fun u hu => itemsC_one [(cs k, ao, ac)] u (by unfold itemsC; simpa using hu)) (by omega) (by unfold maxLen; omega)
      clear hi hz0 hz1 hz2 c5 c5b
      intro v0 w9 hs9 hb9
      obtain ⟨av2, cv2, rfl⟩ := own_val hs9
      obtain ⟨v', hv'⟩ : ∃ v', Value.slice av2 (k + 1) cv2 = v' := ⟨_, rfl⟩
      rw [hv'] at hs9
      have hs10 := (show sat w9 (Go.Proofs.Ytanjiecefioffaa.blk (g18) (vecB (.slice av k cv)) * (own 54 7 v' (k + 1) (itemsC items ++ itemC (cs k, ao, ac)) * (isHeap V S * (isSt X V.g Y * (Go.Proofs.Ytanjiecefioffaa.blk w.heap.size (.cells #[.int .i64 0, .int .i64 0, .bool false, .slice none 0 0, .string ⟨#[]⟩, .slice none 0 0, .slice none 0 0] 54 (0, 0)) * (Go.Proofs.Ytanjiecefioffaa.blk gl (.cells #[.int .i64 ((L : Int) - k - 1)] 3 (0, 0)) * (magP (cs k, ao, ac) * (magsP items * R)))))))) from (hs9.perm (show _ = Go.Proofs.Ytanjiecefioffaa.blk (w4.heap.size + 1) (.cells #[.int .i64 1, .int .i64 0, .bool P, .slice ao nl ac, .string ⟨#[]⟩, .slice none 0 0, .slice none 0 0] 54 (0, 0)) * (Go.Proofs.Ytanjiecefioffaa.blk (g18) (vecB (.slice av k cv)) * (own 54 7 v' (k + 1) (itemsC items ++ itemC (cs k, ao, ac)) * (isHeap V S * (isSt X V.g Y * (Go.Proofs.Ytanjiecefioffaa.blk w.heap.size (.cells #[.int .i64 0, .int .i64 0, .bool false, .slice none 0 0, .string ⟨#[]⟩, .slice none 0 0, .slice none 0 0] 54 (0, 0)) * (Go.Proofs.Ytanjiecefioffaa.blk gl (.cells #[.int .i64 ((L : Int) - k - 1)] 3 (0, 0)) * (magP (cs k, ao, ac) * (magsP items * R)))))))) by ac_rfl)).right)
      have c5 := (hs10.left.cell 5).trans (show _ = some (Value.slice av k cv) from rfl)
      have f5 := hs10.left.frozen 5
      have hs11 : sat (w9.setCell ⟨g18, 5, none⟩ v') (Go.Proofs.Ytanjiecefioffaa.blk (g18) (vecB v') * (own 54 7 v' (k + 1) (itemsC items ++ itemC (cs k, ao, ac)) * (isHeap V S * (isSt X V.g Y * (Go.Proofs.Ytanjiecefioffaa.blk w.heap.size (.cells #[.int .i64 0, .int .i64 0, .bool false, .slice none 0 0, .string ⟨#[]⟩, .slice none 0 0, .slice none 0 0] 54 (0, 0)) * (Go.Proofs.Ytanjiecefioffaa.blk gl (.cells #[.int .i64 ((L : Int) - k - 1)] 3 (0, 0)) * (magP (cs k, ao, ac) * (magsP items * R)))))))) := hs10.setCell (off := 5) v'
      have hb11 := ((HS.out.2.2.1.trans hb9)).setCell (p := ⟨g18, 5, none⟩) (Nat.zero_le _) v'
      have HQ := Lib.hid (And.intro hs11 (And.intro hb11 (HS.out.2.1)))
      clear hs9 hb9 hs10 hs11 hb11
      subst hv'
      go_upto_region 36 with fail
      obtain ⟨hs11, hb11, hok11⟩ := HQ.out
      clear HQ c5 f5
      generalize w9.setCell ⟨g18, 5, none⟩ (.slice av2 (k + 1) cv2) = w10 at *
      have h12 : StW w10 X V S Y (Go.Proofs.Ytanjiecefioffaa.blk w.heap.size (.cells #[.int .i64 0, .int .i64 0, .bool false, .slice none 0 0, .string ⟨#[]⟩, .slice none 0 0, .slice none 0 0] 54 (0, 0)) * (Go.Proofs.Ytanjiecefioffaa.blk (g18) (vecB (.slice av2 (k + 1) cv2)) * (own 54 7 (.slice av2 (k + 1) cv2) (k + 1) (itemsC items ++ itemC (cs k, ao, ac)) * (Go.Proofs.Ytanjiecefioffaa.blk gl (.cells #[.int .i64 ((L : Int) - k - 1)] 3 (0, 0)) * (magP (cs k, ao, ac) * (magsP items * R)))))) := ⟨hs11.perm (by ac_rfl), hok11⟩
      have HW := Lib.hid (And.intro h12 hb11)
      clear hs11 hb11 h12 hok11
      have g2 : IntKind.i64.wrap ((k : Int) + 1) = (k : Int) + 1 := IntWalk.i64_in _ (by omega)
      go_wp2_with fail
      go_roundw
      case rel =>
        refine ⟨k + 1, items ++ [(cs k, ao, ac)], .slice av2 (k + 1) cv2, by go_num, by omega, ?_, ⟨?_, HW.out.1.ok⟩, HW.out.2⟩
        · rw [List.map_append, HF.out.2.2.1, List.range_succ, List.map_append]; rfl
        · rw [itemsC_app, magsP_app]
          have e1 : itemsC [(cs k, ao, ac)] = itemC (cs k, ao, ac) := by unfold itemsC; simp
          have e2 : magsP [(cs k, ao, ac)] = magP (cs k, ao, ac) := by show magP _ * emp = _; rw [HP.mul_emp]
          have e3 : (L : Int) - ((k + 1 : Nat) : Int) = (L : Int) - k - 1 := by omega
          rw [e1, e2, e3]
          exact HW.out.1.s.perm (by ac_rfl)
      case measure => simp [intOf]; omega
    · obtain rfl : k = N := by omega
      have hge : decide ((k : Int) < (k : Int)) = false := by simp
      have hso0 : sat wr (own 54 7 v k (itemsC items) * (Go.Proofs.Ytanjiecefioffaa.blk w.heap.size (.cells #[.int .i64 0, .int .i64 0, .bool false, .slice none 0 0, .string ⟨#[]⟩, .slice none 0 0, .slice none 0 0] 54 (0, 0)) * (Go.Proofs.Ytanjiecefioffaa.blk (g18) (vecB v) * (isHeap V S * (isSt X V.g Y * (Go.Proofs.Ytanjiecefioffaa.blk gl (.cells #[.int .i64 ((L : Int) - k)] 3 (0, 0)) * (magsP items * R))))))) := hs.s.perm (by ac_rfl)
      obtain ⟨av, cv, rfl⟩ := own_val hso0
      have hso : sat wr (Go.Proofs.Ytanjiecefioffaa.blk w.heap.size (.cells #[.int .i64 0, .int .i64 0, .bool false, .slice none 0 0, .string ⟨#[]⟩, .slice none 0 0, .slice none 0 0] 54 (0, 0)) * (Go.Proofs.Ytanjiecefioffaa.blk (g18) (vecB (.slice av k cv)) * (isHeap V S * (isSt X V.g Y * (own 54 7 (.slice av k cv) k (itemsC items) * (Go.Proofs.Ytanjiecefioffaa.blk gl (.cells #[.int .i64 ((L : Int) - k)] 3 (0, 0)) * (magsP items * R))))))) := hso0.perm (by ac_rfl)
      have HF := Lib.hid (And.intro hs.ok (And.intro hb hit))
      clear hs hb hit hso0
      have hsd := hso
      have hbd := HF.out.2.1
      clear hso
      generalize wr = w3' at *
      have c0 := (hsd.left.cell 0).trans rfl
      have f0 := hsd.left.frozen 0
      have c1 := (hsd.left.cell 1).trans rfl
      have f1 := hsd.left.frozen 1
      have c2 := (hsd.left.cell 2).trans rfl
      have f2 := hsd.left.frozen 2
      have c3 := (hsd.left.cell 3).trans rfl
      have f3 := hsd.left.frozen 3
      have c4 := (hsd.left.cell 4).trans rfl
      have f4 := hsd.left.frozen 4
      have c5 := (hsd.left.cell 5).trans rfl
      have f5 := hsd.left.frozen 5
      have c6 := (hsd.left.cell 6).trans rfl
      have f6 := hsd.left.frozen 6
      have d0 : w3'.cell? ⟨g18, 0, none⟩ = some (.int .i64 7) := (hsd.right.left.cell 0).trans rfl
      have d1 : w3'.cell? ⟨g18, 1, none⟩ = some (.int .i64 0) := (hsd.right.left.cell 1).trans rfl
      have d2 : w3'.cell? ⟨g18, 2, none⟩ = some (.bool false) := (hsd.right.left.cell 2).trans rfl
      have d3 : w3'.cell? ⟨g18, 3, none⟩ = some (.slice none 0 0) := (hsd.right.left.cell 3).trans rfl
      have d4 : w3'.cell? ⟨g18, 4, none⟩ = some (.string ⟨#[]⟩) := (hsd.right.left.cell 4).trans rfl
      have d5 : w3'.cell? ⟨g18, 5, none⟩ = some (.slice av k cv) := (hsd.right.left.cell 5).trans rfl
      have d6 : w3'.cell? ⟨g18, 6, none⟩ = some (.slice none 0 0) := (hsd.right.left.cell 6).trans rfl
      have HS := Lib.hid (And.intro hsd hbd)
      clear hsd hbd
      go_wp2_with fail
      have hs7 := (((((((HS.out.1.setCell (off := 0) (.int .i64 7)).setCell (off := 1) (.int .i64 0)).setCell (off := 2) (.bool false)).setCell (off := 3) (.slice none 0 0)).setCell (off := 4) (.string ⟨#[]⟩)).setCell (off := 5) (.slice av k cv)).setCell (off := 6) (.slice none 0 0))
      have hb7 := (((((((HS.out.2.setCell (p := ⟨w.heap.size, 0, none⟩) (Nat.zero_le _) (.int .i64 7)).setCell (p := ⟨w.heap.size, 1, none⟩) (Nat.zero_le _) (.int .i64 0)).setCell (p := ⟨w.heap.size, 2, none⟩) (Nat.zero_le _) (.bool false)).setCell (p := ⟨w.heap.size, 3, none⟩) (Nat.zero_le _) (.slice none 0 0)).setCell (p := ⟨w.heap.size, 4, none⟩) (Nat.zero_le _) (.string ⟨#[]⟩)).setCell (p := ⟨w.heap.size, 5, none⟩) (Nat.zero_le _) (.slice av k cv)).setCell (p := ⟨w.heap.size, 6, none⟩) (Nat.zero_le _) (.slice none 0 0))
      clear c0 f0 c1 f1 c2 f2 c3 f3 c4 f4 c5 f5 c6 f6 d0 d1 d2 d3 d4 d5 d6
      generalize (((((((w3'.setCell ⟨w.heap.size, 0, none⟩ (.int .i64 7)).setCell ⟨w.heap.size, 1, none⟩ (.int .i64 0)).setCell ⟨w.heap.size, 2, none⟩ (.bool false)).setCell ⟨w.heap.size, 3, none⟩ (.slice none 0 0)).setCell ⟨w.heap.size, 4, none⟩ (.string ⟨#[]⟩)).setCell ⟨w.heap.size, 5, none⟩ (.slice av k cv)).setCell ⟨w.heap.size, 6, none⟩ (.slice none 0 0)) = w7 at *
      have r0 : w7.cell? ⟨w.heap.size, 0, none⟩ = some (.int .i64 7) := (hs7.left.cell 0).trans rfl
      have r1 : w7.cell? ⟨w.heap.size, 1, none⟩ = some (.int .i64 0) := (hs7.left.cell 1).trans rfl
      have r2 : w7.cell? ⟨w.heap.size, 2, none⟩ = some (.bool false) := (hs7.left.cell 2).trans rfl
      have r3 : w7.cell? ⟨w.heap.size, 3, none⟩ = some (.slice none 0 0) := (hs7.left.cell 3).trans rfl
      have r4 : w7.cell? ⟨w.heap.size, 4, none⟩ = some (.string ⟨#[]⟩) := (hs7.left.cell 4).trans rfl
      have r5 : w7.cell? ⟨w.heap.size, 5, none⟩ = some (.slice av k cv) := (hs7.left.cell 5).trans rfl
      have r6 : w7.cell? ⟨w.heap.size, 6, none⟩ = some (.slice none 0 0) := (hs7.left.cell 6).trans rfl
      refine bodyPost_ret (v := .tuple #[.agg #[.int .i64 7, .int .i64 0, .bool false, .slice none 0 0, .string ⟨#[]⟩, .slice av k cv, .slice none 0 0], .bool true]) (by simp [results, Try.results60, go_sem, r0, r1, r2, r3, r4, r5, r6]) rfl ?_
      refine ⟨items, .slice av k cv, rfl, HF.out.2.2, ⟨?_, HF.out.1⟩, hb7⟩
      exact hs7.right.right.perm (by ac_rfl)
end
end Go.Proofs.Ytanjiecefioffaa

/- value.Store: Take of a vector. -/
namespace Go.Proofs.Ytanjiecefioffaa
open Go.RowKit
section
variable {w : World} {X : StV} {V : HV} {S : HS} {Y : StS} {R : HP}
set_option maxRecDepth 100000 in
set_option maxHeartbeats 2000000 in
/-- A vector of numbers is told. -/
theorem StW.Take_vec (h : StW w X V S Y R) (N : Nat) (x : Int) (cs : Nat → Int) (hN : N ≤ 19999) (x0 : 0 ≤ x ∧ x < 18446744073709551616) (hv : S.shape x 2 (-1) 0 = true) (ht : S.tag x = N) (hc : ∀ k, k < N → S.num (S.getAt x k) = some (cs k)) :
    Calls Try.prog 28 #[.pointer (some ⟨X.g, 0, none⟩), .int .u64 x, .int .i64 20000] w fun e w' => ∃ (items : List Item) (v : Value), e = .returned (.tuple #[.agg #[.int .i64 7, .int .i64 0, .bool false, .slice none 0 0, .string ⟨#[]⟩, v, .slice none 0 0], .bool true]) ∧ items.map (·.1) = (List.range N).map cs ∧
      StW w' X V S Y (own 54 7 v N (itemsC items) * (magsP items * R)) ∧ Below 0 w w' := by
  have HH := Lib.hid h
  clear h
  go_enter Try.func28, Try.ntmps28
  go_wp2_with fail
  have hp0 := (HH.out.push (.cells #[.int .i64 0, .int .i64 0, .bool false, .slice none 0 0, .string ⟨#[]⟩, .slice none 0 0, .slice none 0 0] 54)).push (.cells #[.int .i64 20000] 3)
  rw [World.size_alloc] at hp0
  have hbp : Below 0 w ((w.alloc (.cells #[.int .i64 0, .int .i64 0, .bool false, .slice none 0 0, .string ⟨#[]⟩, .slice none 0 0, .slice none 0 0] 54)).alloc (.cells #[.int .i64 20000] 3)) := (Below.zero_alloc _ _).trans (Below.zero_alloc _ _)
  have hT := StW.take_vec (w.heap.size + 1) N 19999 x cs 100 (by decide) hp0 (by decide) x0 hv ht hc hN
  have HB := Lib.hid hbp
  clear hp0 hbp hc
  with_reducible refine hT.mono ?_
  rintro e w3 ⟨items, v, rfl, hit, h3, hb3⟩
  have hso0 : sat w3 (own 54 7 v N (itemsC items) * (isHeap V S * (isSt X V.g Y * ((Go.Proofs.Ytanjiecefioffaa.blk (w.heap.size + 1) (.cells #[.int .i64 (((19999 : Nat) : Int) - N)] 3 (0, 0))) * (magsP items * (Go.Proofs.Ytanjiecefioffaa.blk w.heap.size (.cells #[.int .i64 0, .int .i64 0, .bool false, .slice none 0 0, .string ⟨#[]⟩, .slice none 0 0, .slice none 0 0] 54 (0, 0)) * R)))))) := h3.s.perm (by ac_rfl)
  obtain ⟨av, cv, rfl⟩ := own_val hso0
  have h4 := h3.push (.cells #[.int .i64 7, .int .i64 0, .bool false, .slice none 0 0, .string ⟨#[]⟩, .slice av N cv, .slice none 0 0] 54)
  have hso : sat (w3.alloc (.cells #[.int .i64 7, .int .i64 0, .bool false, .slice none 0 0, .string ⟨#[]⟩, .slice av N cv, .slice none 0 0] 54)) (Go.Proofs.Ytanjiecefioffaa.blk w.heap.size (.cells #[.int .i64 0, .int .i64 0, .bool false, .slice none 0 0, .string ⟨#[]⟩, .slice none 0 0, .slice none 0 0] 54 (0, 0)) * ((Go.Proofs.Ytanjiecefioffaa.blk w3.heap.size (.cells #[.int .i64 7, .int .i64 0, .bool false, .slice none 0 0, .string ⟨#[]⟩, .slice av N cv, .slice none 0 0] 54 (0, 0)) * Go.Proofs.Ytanjiecefioffaa.blk (w.heap.size + 1) (.cells #[.int .i64 (((19999 : Nat) : Int) - N)] 3 (0, 0))) * (isHeap V S * (isSt X V.g Y * (own 54 7 (.slice av N cv) N (itemsC items) * (magsP items * R)))))) := h4.s.perm (by ac_rfl)
  have hb5 := (HB.out.trans hb3).trans (Below.zero_alloc w3 (.cells #[.int .i64 7, .int .i64 0, .bool false, .slice none 0 0, .string ⟨#[]⟩, .slice av N cv, .slice none 0 0] 54))
  have HG := Lib.hid (And.intro h4.ok (And.intro hso (And.intro hb5 hit)))
  have c0 := (hso.left.cell 0).trans rfl
  have f0 := hso.left.frozen 0
  have c1 := (hso.left.cell 1).trans rfl
  have f1 := hso.left.frozen 1
  have c2 := (hso.left.cell 2).trans rfl
  have f2 := hso.left.frozen 2
  have c3 := (hso.left.cell 3).trans rfl
  have f3 := hso.left.frozen 3
  have c4 := (hso.left.cell 4).trans rfl
  have f4 := hso.left.frozen 4
  have c5 := (hso.left.cell 5).trans rfl
  have f5 := hso.left.frozen 5
  have c6 := (hso.left.cell 6).trans rfl
  have f6 := hso.left.frozen 6
  clear h3 hb3 h4 hT hso hb5 hso0 hit
  go_wp2_with fail
  have hs7 := (((((((HG.out.2.1.setCell (off := 0) (.int .i64 7)).setCell (off := 1) (.int .i64 0)).setCell (off := 2) (.bool false)).setCell (off := 3) (.slice none 0 0)).setCell (off := 4) (.string ⟨#[]⟩)).setCell (off := 5) (.slice av N cv)).setCell (off := 6) (.slice none 0 0))
  have hb7 := (((((((HG.out.2.2.1.setCell (p := ⟨w.heap.size, 0, none⟩) (Nat.zero_le _) (.int .i64 7)).setCell (p := ⟨w.heap.size, 1, none⟩) (Nat.zero_le _) (.int .i64 0)).setCell (p := ⟨w.heap.size, 2, none⟩) (Nat.zero_le _) (.bool false)).setCell (p := ⟨w.heap.size, 3, none⟩) (Nat.zero_le _) (.slice none 0 0)).setCell (p := ⟨w.heap.size, 4, none⟩) (Nat.zero_le _) (.string ⟨#[]⟩)).setCell (p := ⟨w.heap.size, 5, none⟩) (Nat.zero_le _) (.slice av N cv)).setCell (p := ⟨w.heap.size, 6, none⟩) (Nat.zero_le _) (.slice none 0 0))
  clear c0 f0 c1 f1 c2 f2 c3 f3 c4 f4 c5 f5 c6 f6
  generalize ((((((((w3.alloc (.cells #[.int .i64 7, .int .i64 0, .bool false, .slice none 0 0, .string ⟨#[]⟩, .slice av N cv, .slice none 0 0] 54)).setCell ⟨w.heap.size, 0, none⟩ (.int .i64 7)).setCell ⟨w.heap.size, 1, none⟩ (.int .i64 0)).setCell ⟨w.heap.size, 2, none⟩ (.bool false)).setCell ⟨w.heap.size, 3, none⟩ (.slice none 0 0)).setCell ⟨w.heap.size, 4, none⟩ (.string ⟨#[]⟩)).setCell ⟨w.heap.size, 5, none⟩ (.slice av N cv)).setCell ⟨w.heap.size, 6, none⟩ (.slice none 0 0)) = w7 at *
  have r0 : w7.cell? ⟨w.heap.size, 0, none⟩ = some (.int .i64 7) := (hs7.left.cell 0).trans rfl
  have r1 : w7.cell? ⟨w.heap.size, 1, none⟩ = some (.int .i64 0) := (hs7.left.cell 1).trans rfl
  have r2 : w7.cell? ⟨w.heap.size, 2, none⟩ = some (.bool false) := (hs7.left.cell 2).trans rfl
  have r3 : w7.cell? ⟨w.heap.size, 3, none⟩ = some (.slice none 0 0) := (hs7.left.cell 3).trans rfl
  have r4 : w7.cell? ⟨w.heap.size, 4, none⟩ = some (.string ⟨#[]⟩) := (hs7.left.cell 4).trans rfl
  have r5 : w7.cell? ⟨w.heap.size, 5, none⟩ = some (.slice av N cv) := (hs7.left.cell 5).trans rfl
  have r6 : w7.cell? ⟨w.heap.size, 6, none⟩ = some (.slice none 0 0) := (hs7.left.cell 6).trans rfl
  refine bodyPost_ret (v := .tuple #[.agg #[.int .i64 7, .int .i64 0, .bool false, .slice none 0 0, .string ⟨#[]⟩, .slice av N cv, .slice none 0 0], .bool true]) (by simp [results, Try.results28, go_sem, r0, r1, r2, r3, r4, r5, r6]) rfl ⟨items, .slice av N cv, rfl, HG.out.2.2.2, ⟨hs7.right.right, HG.out.1⟩, hb7⟩
end
end Go.Proofs.Ytanjiecefioffaa

/- value.Store: take and Take of the empty list. -/
namespace Go.Proofs.Ytanjiecefioffaa
open Go.RowKit

theorem ten_word (S : HS) : S.num 10 = none ∧ S.bytesOk 10 = false ∧ S.nameOk 10 = false := by
  have hk : S.kind 10 = 0 := by unfold HS.kind; rw [(ten_none S).2]; rfl
  refine ⟨?_, ?_, ?_⟩
  · unfold HS.num HS.numOk HS.numFit HS.shape
    rw [if_neg (by decide), hk]; rfl
  · unfold HS.bytesOk HS.bytesFit HS.shape
    rw [hk]; rfl
  · unfold HS.nameOk HS.shape
    rw [hk]; rfl
section
variable {w : World} {X : StV} {V : HV} {S : HS} {Y : StS} {R : HP}
set_option maxRecDepth 100000 in
set_option maxHeartbeats 4000000 in
theorem StW.take_ten (gl : Nat) (L : Nat) (cs : Nat → Int) (deep : Int) (hL : L < 20000) (h : StW w X V S Y (Go.Proofs.Ytanjiecefioffaa.blk gl (.cells #[.int .i64 ((L : Int) + 1)] 3 (0, 0)) * R)) (hd : 1 < deep ∧ deep ≤ 100)
    :
    Calls Try.prog 60 #[.pointer (some ⟨X.g, 0, none⟩), .int .u64 10, .pointer (some ⟨gl, 0, none⟩), .int .i64 deep] w (TakePost X V S Y R gl cs 0 L w) := by
  obtain ⟨nx, ox, mx⟩ := ten_word S
  have bx : (0 : Int) ≤ 10 ∧ (10 : Int) < 18446744073709551616 := by decide
  have hs : sat w (Go.Proofs.Ytanjiecefioffaa.blk gl (.cells #[.int .i64 ((L : Int) + 1)] 3 (0, 0)) * (isHeap V S * (isSt X V.g Y * R))) := h.s.perm (by ac_rfl)
  have cA : ∀ o, (w.alloc o).cell? ⟨gl, 0, none⟩ = some (.int .i64 ((L : Int) + 1)) := fun o => ((hs.alloc o).right.left.cell 0).trans rfl
  have fA : ∀ o, (w.alloc o).frozen? ⟨gl, 0, none⟩ = false := fun o => (hs.alloc o).right.left.frozen 0
  obtain ⟨Z, hZ⟩ : ∃ Z : Obj, Z = .cells #[.int .i64 0, .int .i64 0, .bool false, .slice none 0 0, .string ⟨#[]⟩, .slice none 0 0, .slice none 0 0] 54 := ⟨_, rfl⟩
  have hs2 : sat ((w.alloc Z).setCell ⟨gl, 0, none⟩ (.int .i64 L)) (Go.Proofs.Ytanjiecefioffaa.blk gl (.cells #[.int .i64 L] 3 (0, 0)) * (Go.Proofs.Ytanjiecefioffaa.blk w.heap.size Z * (isHeap V S * (isSt X V.g Y * R)))) :=
    (show sat (w.alloc Z) (Go.Proofs.Ytanjiecefioffaa.blk gl (.cells #[.int .i64 ((L : Int) + 1)] 3 (0, 0)) * (Go.Proofs.Ytanjiecefioffaa.blk w.heap.size Z * (isHeap V S * (isSt X V.g Y * R)))) from (hs.alloc Z).perm (by ac_rfl)).setCell (off := 0) (.int .i64 L)
  have h2 : StW ((w.alloc Z).setCell ⟨gl, 0, none⟩ (.int .i64 L)) X V S Y (Go.Proofs.Ytanjiecefioffaa.blk w.heap.size Z * (Go.Proofs.Ytanjiecefioffaa.blk gl (.cells #[.int .i64 L] 3 (0, 0)) * R)) := ⟨hs2.perm (by ac_rfl), h.ok⟩
  have hb2 : Below 0 w ((w.alloc Z).setCell ⟨gl, 0, none⟩ (.int .i64 L)) := (Below.zero_alloc w Z).setCell (p := ⟨gl, 0, none⟩) (Nat.zero_le _) _
  clear hs2
  rw [hZ] at h2 hb2
  clear hZ
  have g0 : ((L : Int) + 1 - 1) = (L : Int) := by omega
  have g1b : IntKind.i64.wrap (L : Int) = (L : Int) := IntWalk.i64_in _ (by omega)
  have g2 : decide ((L : Int) + 1 ≤ 0) = false := by rw [decide_eq_false_iff_not]; omega
  have g3 : (deep == 0) = false := by simp; omega
  have HX := Lib.hid (And.intro h2 (And.intro hb2 (And.intro nx (And.intro ox mx))))
  clear h h2 hs hb2 nx ox mx
  go_enter Try.func60, Try.ntmps60
  go_wp2_with fail
  have hN := HX.out.1.Num 10 bx.1 bx.2
  rw [HX.out.2.2.1] at hN
  clear cA fA
  generalize hw2 : (w.alloc (.cells #[.int .i64 0, .int .i64 0, .bool false, .slice none 0 0, .string ⟨#[]⟩, .slice none 0 0, .slice none 0 0] 54)).setCell ⟨gl, 0, none⟩ (.int .i64 L) = w2 at *
  with_reducible refine hN.mono ?_
  rintro e w3 ⟨ao, ac, rfl, hac, h3, hb3⟩
  simp only [Option.getD_none, Option.isSome_none] at h3 ⊢
  obtain ⟨P, hP⟩ : ∃ P, decide ((0 : Int) < 0) = P := ⟨_, rfl⟩
  rw [hP]
  generalize (limbsOf (0 : Int).natAbs).length = nl at *
  have hp := (h3.push (.cells #[.bool P, .slice ao nl ac] 51))
  have hpp : StW (w3.alloc (.cells #[.bool P, .slice ao nl ac] 51)) X V S Y (Go.Proofs.Ytanjiecefioffaa.blk w.heap.size (.cells #[.int .i64 0, .int .i64 0, .bool false, .slice none 0 0, .string ⟨#[]⟩, .slice none 0 0, .slice none 0 0] 54 (0, 0)) * (Go.Proofs.Ytanjiecefioffaa.blk gl (.cells #[.int .i64 L] 3 (0, 0)) * R)) := hp.drop.drop
  have hB := hpp.Bytes 10 bx.1 bx.2
  unfold BytesPost at hB
  rw [HX.out.2.2.2.1] at hB
  have HB := Lib.hid ((HX.out.2.1.trans hb3).trans (Below.zero_alloc w3 (.cells #[.bool P, .slice ao nl ac] 51)))
  clear hN h3 hb3 hp hac hpp
  go_wp2_with fail
  with_reducible refine hB.mono ?_
  rintro e w4 ⟨v, rfl, h4, hb4⟩
  have h4d := h4.drop
  have hNm := h4d.Name 10 bx.1 bx.2
  unfold NamePost at hNm
  rw [HX.out.2.2.2.2] at hNm
  have HB4 := Lib.hid (HB.out.trans hb4)
  clear hB h4 h4d hb4
  go_wp2_with fail
  with_reducible refine hNm.mono ?_
  rintro e w5 ⟨rfl, h5, hb5⟩
  generalize S.name 10 = nm at *
  have hso : sat w5 (Go.Proofs.Ytanjiecefioffaa.blk w.heap.size (.cells #[.int .i64 0, .int .i64 0, .bool false, .slice none 0 0, .string ⟨#[]⟩, .slice none 0 0, .slice none 0 0] 54 (0, 0)) * (isHeap V S * (isSt X V.g Y * (Go.Proofs.Ytanjiecefioffaa.blk gl (.cells #[.int .i64 L] 3 (0, 0)) * R)))) := h5.s.perm (by ac_rfl)
  have hb6 := HB4.out.trans hb5
  have c0 := (hso.left.cell 0).trans rfl
  have f0 := hso.left.frozen 0
  have c1 := (hso.left.cell 1).trans rfl
  have f1 := hso.left.frozen 1
  have c2 := (hso.left.cell 2).trans rfl
  have f2 := hso.left.frozen 2
  have c3 := (hso.left.cell 3).trans rfl
  have f3 := hso.left.frozen 3
  have c4 := (hso.left.cell 4).trans rfl
  have f4 := hso.left.frozen 4
  have c5 := (hso.left.cell 5).trans rfl
  have f5 := hso.left.frozen 5
  have c6 := (hso.left.cell 6).trans rfl
  have f6 := hso.left.frozen 6
  have HS := Lib.hid (And.intro hso (And.intro h5.ok hb6))
  clear hNm h5 hb5 hso hb6
  go_wp2_with fail
  have hs9 := (((((((HS.out.1.setCell (off := 0) (.int .i64 6)).setCell (off := 1) (.int .i64 0)).setCell (off := 2) (.bool false)).setCell (off := 3) (.slice none 0 0)).setCell (off := 4) (.string ⟨#[]⟩)).setCell (off := 5) (.slice none 0 0)).setCell (off := 6) (.slice none 0 0))
  have hb9 := (((((((HS.out.2.2.setCell (p := ⟨w.heap.size, 0, none⟩) (Nat.zero_le _) (.int .i64 6)).setCell (p := ⟨w.heap.size, 1, none⟩) (Nat.zero_le _) (.int .i64 0)).setCell (p := ⟨w.heap.size, 2, none⟩) (Nat.zero_le _) (.bool false)).setCell (p := ⟨w.heap.size, 3, none⟩) (Nat.zero_le _) (.slice none 0 0)).setCell (p := ⟨w.heap.size, 4, none⟩) (Nat.zero_le _) (.string ⟨#[]⟩)).setCell (p := ⟨w.heap.size, 5, none⟩) (Nat.zero_le _) (.slice none 0 0)).setCell (p := ⟨w.heap.size, 6, none⟩) (Nat.zero_le _) (.slice none 0 0))
  clear c0 f0 c1 f1 c2 f2 c3 f3 c4 f4 c5 f5 c6 f6
  generalize (((((((w5.setCell ⟨w.heap.size, 0, none⟩ (.int .i64 6)).setCell ⟨w.heap.size, 1, none⟩ (.int .i64 0)).setCell ⟨w.heap.size, 2, none⟩ (.bool false)).setCell ⟨w.heap.size, 3, none⟩ (.slice none 0 0)).setCell ⟨w.heap.size, 4, none⟩ (.string ⟨#[]⟩)).setCell ⟨w.heap.size, 5, none⟩ (.slice none 0 0)).setCell ⟨w.heap.size, 6, none⟩ (.slice none 0 0)) = w9 at *
  have r0 : w9.cell? ⟨w.heap.size, 0, none⟩ = some (.int .i64 6) := (hs9.left.cell 0).trans rfl
  have r1 : w9.cell? ⟨w.heap.size, 1, none⟩ = some (.int .i64 0) := (hs9.left.cell 1).trans rfl
  have r2 : w9.cell? ⟨w.heap.size, 2, none⟩ = some (.bool false) := (hs9.left.cell 2).trans rfl
  have r3 : w9.cell? ⟨w.heap.size, 3, none⟩ = some (.slice none 0 0) := (hs9.left.cell 3).trans rfl
  have r4 : w9.cell? ⟨w.heap.size, 4, none⟩ = some (.string ⟨#[]⟩) := (hs9.left.cell 4).trans rfl
  have r5 : w9.cell? ⟨w.heap.size, 5, none⟩ = some (.slice none 0 0) := (hs9.left.cell 5).trans rfl
  have r6 : w9.cell? ⟨w.heap.size, 6, none⟩ = some (.slice none 0 0) := (hs9.left.cell 6).trans rfl
  refine bodyPost_ret (v := .tuple #[.agg #[.int .i64 6, .int .i64 0, .bool false, .slice none 0 0, .string ⟨#[]⟩, .slice none 0 0, .slice none 0 0], .bool true]) (by simp [results, Try.results60, go_sem, r0, r1, r2, r3, r4, r5, r6]) rfl ?_
  unfold TakePost
  rw [if_pos (Nat.zero_le _)]
  refine ⟨[], .slice none 0 0, rfl, rfl, ⟨?_, HS.out.2.1⟩, hb9⟩
  have h1 := hs9.right.nil_own (e := 54) (sz := 7)
  refine h1.perm ?_
  show own _ _ _ _ [] * _ = isHeap V S * (isSt X V.g Y * (own _ _ _ _ [] * (Go.Proofs.Ytanjiecefioffaa.blk gl (.cells #[.int .i64 ((L : Int) - (0 : Nat))] 3 (0, 0)) * (emp * R))))
  rw [HP.emp_mul, show ((L : Int) - (0 : Nat)) = L by omega]
  ac_rfl
set_option maxRecDepth 100000 in
set_option maxHeartbeats 2000000 in
/-- The empty list is told. -/
theorem StW.Take_ten (h : StW w X V S Y R) (cs : Nat → Int) :
    Calls Try.prog 28 #[.pointer (some ⟨X.g, 0, none⟩), .int .u64 10, .int .i64 20000] w fun e w' => ∃ (items : List Item) (v : Value), e = .returned (.tuple #[.agg #[.int .i64 6, .int .i64 0, .bool false, .slice none 0 0, .string ⟨#[]⟩, v, .slice none 0 0], .bool true]) ∧ items.map (·.1) = (List.range 0).map cs ∧
      StW w' X V S Y (own 54 7 v 0 (itemsC items) * (magsP items * R)) ∧ Below 0 w w' := by
  have HH := Lib.hid h
  clear h
  go_enter Try.func28, Try.ntmps28
  go_wp2_with fail
  have hp0 := (HH.out.push (.cells #[.int .i64 0, .int .i64 0, .bool false, .slice none 0 0, .string ⟨#[]⟩, .slice none 0 0, .slice none 0 0] 54)).push (.cells #[.int .i64 20000] 3)
  rw [World.size_alloc] at hp0
  have hbp : Below 0 w ((w.alloc (.cells #[.int .i64 0, .int .i64 0, .bool false, .slice none 0 0, .string ⟨#[]⟩, .slice none 0 0, .slice none 0 0] 54)).alloc (.cells #[.int .i64 20000] 3)) := (Below.zero_alloc _ _).trans (Below.zero_alloc _ _)
  have hT := StW.take_ten (w.heap.size + 1) 19999 cs 100 (by decide) hp0 (by decide)
  unfold TakePost at hT
  simp only [if_pos (Nat.zero_le _)] at hT
  have HB := Lib.hid hbp
  clear hp0 hbp
  with_reducible refine hT.mono ?_
  rintro e w3 ⟨items, v, rfl, hit, h3, hb3⟩
  have hso0 : sat w3 (own 54 7 v 0 (itemsC items) * (isHeap V S * (isSt X V.g Y * ((Go.Proofs.Ytanjiecefioffaa.blk (w.heap.size + 1) (.cells #[.int .i64 (((19999 : Nat) : Int) - (0 : Nat))] 3 (0, 0))) * (magsP items * (Go.Proofs.Ytanjiecefioffaa.blk w.heap.size (.cells #[.int .i64 0, .int .i64 0, .bool false, .slice none 0 0, .string ⟨#[]⟩, .slice none 0 0, .slice none 0 0] 54 (0, 0)) * R)))))) := h3.s.perm (by ac_rfl)
  obtain ⟨av, cv, rfl⟩ := own_val hso0
  have h4 := h3.push (.cells #[.int .i64 6, .int .i64 0, .bool false, .slice none 0 0, .string ⟨#[]⟩, .slice av 0 cv, .slice none 0 0] 54)
  have hso : sat (w3.alloc (.cells #[.int .i64 6, .int .i64 0, .bool false, .slice none 0 0, .string ⟨#[]⟩, .slice av 0 cv, .slice none 0 0] 54)) (Go.Proofs.Ytanjiecefioffaa.blk w.heap.size (.cells #[.int .i64 0, .int .i64 0, .bool false, .slice none 0 0, .string ⟨#[]⟩, .slice none 0 0, .slice none 0 0] 54 (0, 0)) * ((Go.Proofs.Ytanjiecefioffaa.blk w3.heap.size (.cells #[.int .i64 6, .int .i64 0, .bool false, .slice none 0 0, .string ⟨#[]⟩, .slice av 0 cv, .slice none 0 0] 54 (0, 0)) * Go.Proofs.Ytanjiecefioffaa.blk (w.heap.size + 1) (.cells #[.int .i64 (((19999 : Nat) : Int) - (0 : Nat))] 3 (0, 0))) * (isHeap V S * (isSt X V.g Y * (own 54 7 (.slice av 0 cv) 0 (itemsC items) * (magsP items * R)))))) := h4.s.perm (by ac_rfl)
  have hb5 := (HB.out.trans hb3).trans (Below.zero_alloc w3 (.cells #[.int .i64 6, .int .i64 0, .bool false, .slice none 0 0, .string ⟨#[]⟩, .slice av 0 cv, .slice none 0 0] 54))
  have HG := Lib.hid (And.intro h4.ok (And.intro hso (And.intro hb5 hit)))
  have c0 := (hso.left.cell 0).trans rfl
  have f0 := hso.left.frozen 0
  have c1 := (hso.left.cell 1).trans rfl
  have f1 := hso.left.frozen 1
  have c2 := (hso.left.cell 2).trans rfl
  have f2 := hso.left.frozen 2
  have c3 := (hso.left.cell 3).trans rfl
  have f3 := hso.left.frozen 3
  have c4 := (hso.left.cell 4).trans rfl
  have f4 := hso.left.frozen 4
  have c5 := (hso.left.cell 5).trans rfl
  have f5 := hso.left.frozen 5
  have c6 := (hso.left.cell 6).trans rfl
  have f6 := hso.left.frozen 6
  clear h3 hb3 h4 hT hso hb5 hso0 hit
  go_wp2_with fail
  have hs7 := (((((((HG.out.2.1.setCell (off := 0) (.int .i64 6)).setCell (off := 1) (.int .i64 0)).setCell (off := 2) (.bool false)).setCell (off := 3) (.slice none 0 0)).setCell (off := 4) (.string ⟨#[]⟩)).setCell (off := 5) (.slice av 0 cv)).setCell (off := 6) (.slice none 0 0))
  have hb7 := (((((((HG.out.2.2.1.setCell (p := ⟨w.heap.size, 0, none⟩) (Nat.zero_le _) (.int .i64 6)).setCell (p := ⟨w.heap.size, 1, none⟩) (Nat.zero_le _) (.int .i64 0)).setCell (p := ⟨w.heap.size, 2, none⟩) (Nat.zero_le _) (.bool false)).setCell (p := ⟨w.heap.size, 3, none⟩) (Nat.zero_le _) (.slice none 0 0)).setCell (p := ⟨w.heap.size, 4, none⟩) (Nat.zero_le _) (.string ⟨#[]⟩)).setCell (p := ⟨w.heap.size, 5, none⟩) (Nat.zero_le _) (.slice av 0 cv)).setCell (p := ⟨w.heap.size, 6, none⟩) (Nat.zero_le _) (.slice none 0 0))
  clear c0 f0 c1 f1 c2 f2 c3 f3 c4 f4 c5 f5 c6 f6
  generalize ((((((((w3.alloc (.cells #[.int .i64 6, .int .i64 0, .bool false, .slice none 0 0, .string ⟨#[]⟩, .slice av 0 cv, .slice none 0 0] 54)).setCell ⟨w.heap.size, 0, none⟩ (.int .i64 6)).setCell ⟨w.heap.size, 1, none⟩ (.int .i64 0)).setCell ⟨w.heap.size, 2, none⟩ (.bool false)).setCell ⟨w.heap.size, 3, none⟩ (.slice none 0 0)).setCell ⟨w.heap.size, 4, none⟩ (.string ⟨#[]⟩)).setCell ⟨w.heap.size, 5, none⟩ (.slice av 0 cv)).setCell ⟨w.heap.size, 6, none⟩ (.slice none 0 0)) = w7 at *
  have r0 : w7.cell? ⟨w.heap.size, 0, none⟩ = some (.int .i64 6) := (hs7.left.cell 0).trans rfl
  have r1 : w7.cell? ⟨w.heap.size, 1, none⟩ = some (.int .i64 0) := (hs7.left.cell 1).trans rfl
  have r2 : w7.cell? ⟨w.heap.size, 2, none⟩ = some (.bool false) := (hs7.left.cell 2).trans rfl
  have r3 : w7.cell? ⟨w.heap.size, 3, none⟩ = some (.slice none 0 0) := (hs7.left.cell 3).trans rfl
  have r4 : w7.cell? ⟨w.heap.size, 4, none⟩ = some (.string ⟨#[]⟩) := (hs7.left.cell 4).trans rfl
  have r5 : w7.cell? ⟨w.heap.size, 5, none⟩ = some (.slice av 0 cv) := (hs7.left.cell 5).trans rfl
  have r6 : w7.cell? ⟨w.heap.size, 6, none⟩ = some (.slice none 0 0) := (hs7.left.cell 6).trans rfl
  refine bodyPost_ret (v := .tuple #[.agg #[.int .i64 6, .int .i64 0, .bool false, .slice none 0 0, .string ⟨#[]⟩, .slice av 0 cv, .slice none 0 0], .bool true]) (by simp [results, Try.results28, go_sem, r0, r1, r2, r3, r4, r5, r6]) rfl ⟨items, .slice av 0 cv, rfl, HG.out.2.2.2, ⟨hs7.right.right, HG.out.1⟩, hb7⟩
end
end Go.Proofs.Ytanjiecefioffaa
