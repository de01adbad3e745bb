/- value.Store: Take of a chain that ends. value.Store: take of a vector of numbers. value.Store: Take of a vector. value.Store: take and Take of the empty list. -/
import Derived.Test.YtanjiecefioffaaVE12
import Derived.Test.YtanjiecefioffaaVE13
import Derived.Test.YtanjiecefioffaaVE5
import Derived.Test.YtanjiecefioffaaVE4
import Derived.Test.YtanjiecefioffaaVE9
/- value.Store: Take of a chain that ends. -/
namespace Go.Proofs.Ytanjiecefioffaa
open Go.RowKit
section
variable {w : World} {X : StV} {V : HV} {S : HS} {Y : StS} {R : HP}
set_option maxRecDepth 100000 in
set_option maxHeartbeats 2000000 in
/-- A chain of numbers that ends in time is told. -/
theorem StW.Take_short (h : StW w X V S Y R) (N : Nat) (p cs : Nat → Int) (h0 : 0 < N) (hN : N ≤ 19999) (hc : Chain S p cs N) (hend : p N = 10) (h10 : S.shape 10 1 2 0 = false) :
    Calls Try.prog 28 #[.pointer (some ⟨X.g, 0, none⟩), .int .u64 (p 0), .int .i64 20000] w fun e w' => ∃ (items : List Item) (v : Value), e = .returned (.tuple #[.agg #[.int .i64 6, .int .i64 0, .bool false, .slice none 0 0, .string ⟨#[]⟩, v, .slice none 0 0], .bool true]) ∧ items.map (·.1) = (List.range N).map cs ∧
      StW w' X V S Y (own 54 7 v N (itemsC items) * (magsP items * R)) ∧ Below 0 w w' := by
  have HH := Lib.hid h
  clear h
  go_enter Try.func28, Try.ntmps28
  go_wp2_with fail
  have hp0 := (HH.out.push (.cells #[.int .i64 0, .int .i64 0, .bool false, .slice none 0 0, .string ⟨#[]⟩, .slice none 0 0, .slice none 0 0] 54)).push (.cells #[.int .i64 20000] 3)
  rw [World.size_alloc] at hp0
  have hbp : Below 0 w ((w.alloc (.cells #[.int .i64 0, .int .i64 0, .bool false, .slice none 0 0, .string ⟨#[]⟩, .slice none 0 0, .slice none 0 0] 54)).alloc (.cells #[.int .i64 20000] 3)) := (Below.zero_alloc _ _).trans (Below.zero_alloc _ _)
  have hT := StW.take_pair (w.heap.size + 1) N 19999 p cs 100 (by decide) hp0 (by decide) h0 hc (fun _ => hend) h10
  unfold TakePost at hT
  simp only [if_pos hN] at hT
  have HB := Lib.hid hbp
  clear hp0 hbp hc
  with_reducible refine hT.mono ?_
  rintro e w3 ⟨items, v, rfl, hit, h3, hb3⟩
  have hso0 : sat w3 (own 54 7 v N (itemsC items) * (isHeap V S * (isSt X V.g Y * ((Go.Proofs.Ytanjiecefioffaa.blk (w.heap.size + 1) (.cells #[.int .i64 (((19999 : Nat) : Int) - N)] 3 (0, 0))) * (magsP items * (Go.Proofs.Ytanjiecefioffaa.blk w.heap.size (.cells #[.int .i64 0, .int .i64 0, .bool false, .slice none 0 0, .string ⟨#[]⟩, .slice none 0 0, .slice none 0 0] 54 (0, 0)) * R)))))) := h3.s.perm (by ac_rfl)
  obtain ⟨av, cv, rfl⟩ := own_val hso0
  have h4 := h3.push (.cells #[.int .i64 6, .int .i64 0, .bool false, .slice none 0 0, .string ⟨#[]⟩, .slice av N cv, .slice none 0 0] 54)
  have hso : sat (w3.alloc (.cells #[.int .i64 6, .int .i64 0, .bool false, .slice none 0 0, .string ⟨#[]⟩, .slice av N cv, .slice none 0 0] 54)) (Go.Proofs.Ytanjiecefioffaa.blk w.heap.size (.cells #[.int .i64 0, .int .i64 0, .bool false, .slice none 0 0, .string ⟨#[]⟩, .slice none 0 0, .slice none 0 0] 54 (0, 0)) * ((Go.Proofs.Ytanjiecefioffaa.blk w3.heap.size (.cells #[.int .i64 6, .int .i64 0, .bool false, .slice none 0 0, .string ⟨#[]⟩, .slice av N cv, .slice none 0 0] 54 (0, 0)) * Go.Proofs.Ytanjiecefioffaa.blk (w.heap.size + 1) (.cells #[.int .i64 (((19999 : Nat) : Int) - N)] 3 (0, 0))) * (isHeap V S * (isSt X V.g Y * (own 54 7 (.slice av N cv) N (itemsC items) * (magsP items * R)))))) := h4.s.perm (by ac_rfl)
  have hb5 := (HB.out.trans hb3).trans (Below.zero_alloc w3 (.cells #[.int .i64 6, .int .i64 0, .bool false, .slice none 0 0, .string ⟨#[]⟩, .slice av N cv, .slice none 0 0] 54))
  have HG := Lib.hid (And.intro h4.ok (And.intro hso (And.intro hb5 hit)))
  have c0 := (hso.left.cell 0).trans rfl
  have f0 := hso.left.frozen 0
  have c1 := (hso.left.cell 1).trans rfl
  have f1 := hso.left.frozen 1
  have c2 := (hso.left.cell 2).trans rfl
  have f2 := hso.left.frozen 2
  have c3 := (hso.left.cell 3).trans rfl
  have f3 := hso.left.frozen 3
  have c4 := (hso.left.cell 4).trans rfl
  have f4 := hso.left.frozen 4
  have c5 := (hso.left.cell 5).trans rfl
  have f5 := hso.left.frozen 5
  have c6 := (hso.left.cell 6).trans rfl
  have f6 := hso.left.frozen 6
  clear h3 hb3 h4 hT hso hb5 hso0 hit
  go_wp2_with fail
  have hs7 := (((((((HG.out.2.1.setCell (off := 0) (.int .i64 6)).setCell (off := 1) (.int .i64 0)).setCell (off := 2) (.bool false)).setCell (off := 3) (.slice none 0 0)).setCell (off := 4) (.string ⟨#[]⟩)).setCell (off := 5) (.slice av N cv)).setCell (off := 6) (.slice none 0 0))
  have hb7 := (((((((HG.out.2.2.1.setCell (p := ⟨w.heap.size, 0, none⟩) (Nat.zero_le _) (.int .i64 6)).setCell (p := ⟨w.heap.size, 1, none⟩) (Nat.zero_le _) (.int .i64 0)).setCell (p := ⟨w.heap.size, 2, none⟩) (Nat.zero_le _) (.bool false)).setCell (p := ⟨w.heap.size, 3, none⟩) (Nat.zero_le _) (.slice none 0 0)).setCell (p := ⟨w.heap.size, 4, none⟩) (Nat.zero_le _) (.string ⟨#[]⟩)).setCell (p := ⟨w.heap.size, 5, none⟩) (Nat.zero_le _) (.slice av N cv)).setCell (p := ⟨w.heap.size, 6, none⟩) (Nat.zero_le _) (.slice none 0 0))
  clear c0 f0 c1 f1 c2 f2 c3 f3 c4 f4 c5 f5 c6 f6
  generalize ((((((((w3.alloc (.cells #[.int .i64 6, .int .i64 0, .bool false, .slice none 0 0, .string ⟨#[]⟩, .slice av N cv, .slice none 0 0] 54)).setCell ⟨w.heap.size, 0, none⟩ (.int .i64 6)).setCell ⟨w.heap.size, 1, none⟩ (.int .i64 0)).setCell ⟨w.heap.size, 2, none⟩ (.bool false)).setCell ⟨w.heap.size, 3, none⟩ (.slice none 0 0)).setCell ⟨w.heap.size, 4, none⟩ (.string ⟨#[]⟩)).setCell ⟨w.heap.size, 5, none⟩ (.slice av N cv)).setCell ⟨w.heap.size, 6, none⟩ (.slice none 0 0)) = w7 at *
  have r0 : w7.cell? ⟨w.heap.size, 0, none⟩ = some (.int .i64 6) := (hs7.left.cell 0).trans rfl
  have r1 : w7.cell? ⟨w.heap.size, 1, none⟩ = some (.int .i64 0) := (hs7.left.cell 1).trans rfl
  have r2 : w7.cell? ⟨w.heap.size, 2, none⟩ = some (.bool false) := (hs7.left.cell 2).trans rfl
  have r3 : w7.cell? ⟨w.heap.size, 3, none⟩ = some (.slice none 0 0) := (hs7.left.cell 3).trans rfl
  have r4 : w7.cell? ⟨w.heap.size, 4, none⟩ = some (.string ⟨#[]⟩) := (hs7.left.cell 4).trans rfl
  have r5 : w7.cell? ⟨w.heap.size, 5, none⟩ = some (.slice av N cv) := (hs7.left.cell 5).trans rfl
  have r6 : w7.cell? ⟨w.heap.size, 6, none⟩ = some (.slice none 0 0) := (hs7.left.cell 6).trans rfl
  refine bodyPost_ret (v := .tuple #[.agg #[.int .i64 6, .int .i64 0, .bool false, .slice none 0 0, .string ⟨#[]⟩, .slice av N cv, .slice none 0 0], .bool true]) (by simp [results, Try.results28, go_sem, r0, r1, r2, r3, r4, r5, r6]) rfl ⟨items, .slice av N cv, rfl, HG.out.2.2.2, ⟨hs7.right.right, HG.out.1⟩, hb7⟩
end
end Go.Proofs.Ytanjiecefioffaa

/- value.Store: take of a vector of numbers. -/
namespace Go.Proofs.Ytanjiecefioffaa
open Go.RowKit

theorem vec_word {S : HS} {x : Int} (h : S.shape x 2 (-1) 0 = true) : S.num x = none ∧ S.bytesOk x = false ∧ S.nameOk x = false ∧ x % 4 = 0 ∧ S.shape x 6 (-1) 1 = false ∧ S.shape x 1 2 0 = false := by
  unfold HS.shape at h
  rw [Bool.and_eq_true, decide_eq_true_eq] at h
  have hk := h.1
  have h4 := kind_is hk (by decide)
  refine ⟨?_, ?_, ?_, h4, ?_, ?_⟩
  · unfold HS.num HS.numOk HS.numFit HS.shape
    rw [if_neg (by omega), hk]; rfl
  · unfold HS.bytesOk HS.bytesFit HS.shape
    rw [hk]; rfl
  · unfold HS.nameOk HS.shape
    rw [hk]; rfl
  · unfold HS.shape
    rw [hk]; rfl
  · unfold HS.shape
    rw [hk]; rfl
def vecB (v : Value) : Obj := .cells #[.int .i64 7, .int .i64 0, .bool false, .slice none 0 0, .string ⟨#[]⟩, v, .slice none 0 0] 54 (0, 0)
def TvRel (W : World) (X : StV) (V : HV) (S : HS) (Y : StS) (R : HP) (gl g8 g18 : Nat) (cs : Nat → Int) (N L : Nat) (i : Value) (wr : World) : Prop :=
  ∃ (k : Nat) (items : List Item) (v : Value), i = .int .i64 k ∧ k ≤ N ∧ items.map (·.1) = (List.range k).map cs ∧
    StW wr X V S Y (Go.Proofs.Ytanjiecefioffaa.blk g8 (.cells #[.int .i64 0, .int .i64 0, .bool false, .slice none 0 0, .string ⟨#[]⟩, .slice none 0 0, .slice none 0 0] 54 (0, 0)) * (Go.Proofs.Ytanjiecefioffaa.blk g18 (vecB v) * (own 54 7 v k (itemsC items) * (Go.Proofs.Ytanjiecefioffaa.blk gl (.cells #[.int .i64 ((L : Int) - k)] 3 (0, 0)) * (magsP items * R))))) ∧ Below 0 W wr
section
variable {w : World} {X : StV} {V : HV} {S : HS} {Y : StS} {R : HP}
set_option maxRecDepth 100000 in
set_option maxHeartbeats 4000000 in
theorem StW.take_vec (gl : Nat) (N L : Nat) (x : Int) (cs : Nat → Int) (deep : Int) (hL : L < 20000) (h : StW w X V S Y (Go.Proofs.Ytanjiecefioffaa.blk gl (.cells #[.int .i64 ((L : Int) + 1)] 3 (0, 0)) * R)) (hd : 1 < deep ∧ deep ≤ 100)
    (x0 : 0 ≤ x ∧ x < 18446744073709551616) (hv : S.shape x 2 (-1) 0 = true) (ht : S.tag x = N) (hc : ∀ k, k < N → S.num (S.getAt x k) = some (cs k)) (hN : N ≤ L) :
    Calls Try.prog 60 #[.pointer (some ⟨X.g, 0, none⟩), .int .u64 x, .pointer (some ⟨gl, 0, none⟩), .int .i64 deep] w fun e w' => ∃ (items : List Item) (v : Value),
      e = .returned (.tuple #[.agg #[.int .i64 7, .int .i64 0, .bool false, .slice none 0 0, .string ⟨#[]⟩, v, .slice none 0 0], .bool true]) ∧ items.map (·.1) = (List.range N).map cs ∧
      StW w' X V S Y (own 54 7 v N (itemsC items) * (Go.Proofs.Ytanjiecefioffaa.blk gl (.cells #[.int .i64 ((L : Int) - N)] 3 (0, 0)) * (magsP items * R))) ∧ Below 0 w w' := by
  obtain ⟨i0, hi, hz0, hz1, hz2⟩ := info_parts info_datum
  have H1 := Lib.hid (And.intro hi (And.intro hz0 (And.intro hz1 hz2)))
  clear hi hz0 hz1 hz2
  obtain ⟨nx, ox, mx, x4, sx, sp⟩ := vec_word hv
  have bx := x0
  have hs : sat w (Go.Proofs.Ytanjiecefioffaa.blk gl (.cells #[.int .i64 ((L : Int) + 1)] 3 (0, 0)) * (isHeap V S * (isSt X V.g Y * R))) := h.s.perm (by ac_rfl)
  have cA : ∀ o, (w.alloc o).cell? ⟨gl, 0, none⟩ = some (.int .i64 ((L : Int) + 1)) := fun o => ((hs.alloc o).right.left.cell 0).trans rfl
  have fA : ∀ o, (w.alloc o).frozen? ⟨gl, 0, none⟩ = false := fun o => (hs.alloc o).right.left.frozen 0
  obtain ⟨Z, hZ⟩ : ∃ Z : Obj, Z = .cells #[.int .i64 0, .int .i64 0, .bool false, .slice none 0 0, .string ⟨#[]⟩, .slice none 0 0, .slice none 0 0] 54 := ⟨_, rfl⟩
  have hs2 : sat ((w.alloc Z).setCell ⟨gl, 0, none⟩ (.int .i64 L)) (Go.Proofs.Ytanjiecefioffaa.blk gl (.cells #[.int .i64 L] 3 (0, 0)) * (Go.Proofs.Ytanjiecefioffaa.blk w.heap.size Z * (isHeap V S * (isSt X V.g Y * R)))) :=
    (show sat (w.alloc Z) (Go.Proofs.Ytanjiecefioffaa.blk gl (.cells #[.int .i64 ((L : Int) + 1)] 3 (0, 0)) * (Go.Proofs.Ytanjiecefioffaa.blk w.heap.size Z * (isHeap V S * (isSt X V.g Y * R)))) from (hs.alloc Z).perm (by ac_rfl)).setCell (off := 0) (.int .i64 L)
  have h2 : StW ((w.alloc Z).setCell ⟨gl, 0, none⟩ (.int .i64 L)) X V S Y (Go.Proofs.Ytanjiecefioffaa.blk w.heap.size Z * (Go.Proofs.Ytanjiecefioffaa.blk gl (.cells #[.int .i64 L] 3 (0, 0)) * R)) := ⟨hs2.perm (by ac_rfl), h.ok⟩
  have hb2 : Below 0 w ((w.alloc Z).setCell ⟨gl, 0, none⟩ (.int .i64 L)) := (Below.zero_alloc w Z).setCell (p := ⟨gl, 0, none⟩) (Nat.zero_le _) _
  clear hs2
  rw [hZ] at h2 hb2
  clear hZ
  have g0 : ((L : Int) + 1 - 1) = (L : Int) := by omega
  have g1b : IntKind.i64.wrap (L : Int) = (L : Int) := IntWalk.i64_in _ (by omega)
  have g2 : decide ((L : Int) + 1 ≤ 0) = false := by rw [decide_eq_false_iff_not]; omega
  have g3 : (deep == 0) = false := by simp; omega
  have HX := Lib.hid (And.intro h2 (And.intro hb2 (And.intro nx (And.intro ox (And.intro mx (And.intro sx sp))))))
  have HC := Lib.hid (And.intro hc (And.intro hv ht))
  have m1 : bits .and .u64 x 255 = x % 256 := u64_mask 8 x bx.1 bx.2 (by decide)
  have q1 : (x == 2) = false := by rw [beq_eq_false_iff_ne]; omega
  have q2 : (x == 6) = false := by rw [beq_eq_false_iff_ne]; omega
  have q3 : (x == 10) = false := by rw [beq_eq_false_iff_ne]; omega
  have q4 : (x % 256 == 22) = false := by rw [beq_eq_false_iff_ne]; omega
  have q5 : (x % 256 == 26) = false := by rw [beq_eq_false_iff_ne]; omega
  have q6 : ¬ (x = 2) := by omega
  have q7 : ¬ (x = 6) := by omega
  have q8 : ¬ (x = 10) := by omega
  clear h h2 hs hb2 nx ox mx sx sp hc hv ht x4
  go_enter Try.func60, Try.ntmps60
  go_wp2_with fail
  have hN := HX.out.1.Num x bx.1 bx.2
  rw [HX.out.2.2.1] at hN
  clear cA fA
  generalize hw2 : (w.alloc (.cells #[.int .i64 0, .int .i64 0, .bool false, .slice none 0 0, .string ⟨#[]⟩, .slice none 0 0, .slice none 0 0] 54)).setCell ⟨gl, 0, none⟩ (.int .i64 L) = w2 at *
  with_reducible refine hN.mono ?_
  rintro e w3 ⟨ao, ac, rfl, hac, h3, hb3⟩
  simp only [Option.getD_none, Option.isSome_none] at h3 ⊢
  obtain ⟨P, hP⟩ : ∃ P, decide ((0 : Int) < 0) = P := ⟨_, rfl⟩
  rw [hP]
  generalize (limbsOf (0 : Int).natAbs).length = nl at *
  have hp := (h3.push (.cells #[.bool P, .slice ao nl ac] 51))
  have hpp : StW (w3.alloc (.cells #[.bool P, .slice ao nl ac] 51)) X V S Y (Go.Proofs.Ytanjiecefioffaa.blk w.heap.size (.cells #[.int .i64 0, .int .i64 0, .bool false, .slice none 0 0, .string ⟨#[]⟩, .slice none 0 0, .slice none 0 0] 54 (0, 0)) * (Go.Proofs.Ytanjiecefioffaa.blk gl (.cells #[.int .i64 L] 3 (0, 0)) * R)) := hp.drop.drop
  have hB := hpp.Bytes x bx.1 bx.2
  unfold BytesPost at hB
  rw [HX.out.2.2.2.1] at hB
  have HB := Lib.hid ((HX.out.2.1.trans hb3).trans (Below.zero_alloc w3 (.cells #[.bool P, .slice ao nl ac] 51)))
  clear hN h3 hb3 hp hac hpp
  go_wp2_with fail
  with_reducible refine hB.mono ?_
  rintro e w4 ⟨v, rfl, h4, hb4⟩
  have h4d := h4.drop
  have hNm := h4d.Name x bx.1 bx.2
  unfold NamePost at hNm
  rw [HX.out.2.2.2.2.1] at hNm
  have HB4 := Lib.hid (HB.out.trans hb4)
  clear hB h4 h4d hb4
  go_wp2_with fail
  with_reducible refine hNm.mono ?_
  rintro e w5 ⟨rfl, h5, hb5⟩
  generalize S.name x = nm at *
  have hS1 := h5.shape x 6 (-1) 1 bx.1 bx.2
  have hS2 := fun j : Nat => (h5.drewN j).shape x 1 2 0 bx.1 bx.2
  have hS3 := fun j : Nat => (h5.drewN j).shape x 2 (-1) 0 bx.1 bx.2
  rw [HX.out.2.2.2.2.2.1] at hS1
  rw [HX.out.2.2.2.2.2.2] at hS2
  rw [HC.out.2.1] at hS3
  have HX5 := Lib.hid (And.intro h5 (HB4.out.trans hb5))
  clear hNm h5 hb5
  go_wp2_with fail
  with_reducible refine hS1.mono ?_
  rintro e w' ⟨rfl, j1, rfl⟩
  go_wp2_with fail
  with_reducible refine (hS2 j1).mono ?_
  rintro e w' ⟨rfl, j2, rfl⟩
  go_wp2_with fail
  with_reducible refine (hS3 (j1 + j2)).mono ?_
  rintro e w' ⟨rfl, j3, rfl⟩
  have h6 := (HX5.out.1.drewN (j1 + j2)).drewN j3
  have hb6 := (HX5.out.2.trans (drewN_below0 w5 (j1 + j2))).trans (drewN_below0 _ j3)
  generalize (w5.drewN (j1 + j2)).drewN j3 = w6 at *
  clear hS1 hS2 hS3
  have h7 := h6.push (.cells #[.int .i64 7, .int .i64 0, .bool false, .slice none 0 0, .string ⟨#[]⟩, .slice none 0 0, .slice none 0 0] 54)
  have hb7 := hb6.trans (Below.zero_alloc w6 (.cells #[.int .i64 7, .int .i64 0, .bool false, .slice none 0 0, .string ⟨#[]⟩, .slice none 0 0, .slice none 0 0] 54))
  obtain ⟨g18, hg18⟩ : ∃ g, w6.heap.size = g := ⟨_, rfl⟩
  have hTg := h7.hw.v.Tagged x bx.1 bx.2
  rw [HC.out.2.2] at hTg
  have c0 := h7.c0
  have HX7 := Lib.hid (And.intro h7 hb7)
  clear h6 hb6 h7 hb7
  go_wp2_with fail
  refine hTg.mono ?_
  rintro e w' ⟨rfl, j4, rfl⟩
  have h8 := HX7.out.1.drewN j4
  have hb8 := HX7.out.2.trans (drewN_below0 _ j4)
  rw [hg18] at h8
  have HG := Lib.hid hg18
  generalize (w6.alloc (.cells #[.int .i64 7, .int .i64 0, .bool false, .slice none 0 0, .string ⟨#[]⟩, .slice none 0 0, .slice none 0 0] 54)).drewN j4 = w8 at *
  have HX8 := Lib.hid (And.intro h8 hb8)
  clear hTg c0 h8 hb8 hg18
  go_wp2_with fail
  go_loopw [140] (TvRel w X V S Y R gl w.heap.size g18 cs N L) (fun i _ => N - (intOf i).toNat)
  case atStart =>
    refine ⟨0, [], .slice none 0 0, rfl, Nat.zero_le _, rfl, ⟨?_, HX8.out.1.ok⟩, HX8.out.2⟩
    have := HX8.out.1.s.nil_own (e := 54) (sz := 7)
    refine this.perm ?_
    show own _ _ _ _ [] * _ = isHeap V S * (isSt X V.g Y * (_ * (_ * (own _ _ _ _ [] * (Go.Proofs.Ytanjiecefioffaa.blk gl (.cells #[.int .i64 ((L : Int) - (0 : Nat))] 3 (0, 0)) * (emp * R))))))
    rw [HP.emp_mul, show ((L : Int) - (0 : Nat)) = L by omega]
    unfold vecB
    ac_rfl
  case round =>
    clear HX8
    obtain ⟨k, items, v, rfl, hkN, hit, hs, hb⟩ := hrel
    have c0 := hs.c0
    by_cases hk : k < N
    · have hl : k < L := by omega
      have b3 : decide ((k : Int) < (N : Int)) = true := by simp; omega
      have hG0 := hs.Get x k bx.1 bx.2
      have bc := hs.hw.v.get_bd x k bx.1
      have hnum := HC.out.1 k hk
      generalize S.getAt x k = y at *
      generalize decide ((0 : Int) ≤ (k : Int) ∧ (k : Int) < S.tag x) = q0 at *
      have HF := Lib.hid (And.intro hs (And.intro hb (And.intro hit hnum)))
      clear hs hb hit hnum
      go_wp2_with fail
      refine hG0.mono ?_
      rintro e w' ⟨rfl, j2, rfl⟩
      have h3 := HF.out.1.drewN j2
      have hb3 := HF.out.2.1.trans (drewN_below0 wr j2)
      generalize wr.drewN j2 = w3' at *
      clear hG0 c0
      have g1 : IntKind.i64.wrap (deep - 1) = deep - 1 := IntWalk.i64_in _ (by omega)
      have h4 : StW w3' X V S Y (Go.Proofs.Ytanjiecefioffaa.blk gl (.cells #[.int .i64 ((L : Int) - k)] 3 (0, 0)) * (Go.Proofs.Ytanjiecefioffaa.blk w.heap.size (.cells #[.int .i64 0, .int .i64 0, .bool false, .slice none 0 0, .string ⟨#[]⟩, .slice none 0 0, .slice none 0 0] 54 (0, 0)) * (Go.Proofs.Ytanjiecefioffaa.blk (g18) (vecB v) * (own 54 7 v k (itemsC items) * (magsP items * R))))) := ⟨h3.s.perm (by ac_rfl), h3.ok⟩
      have hT := StW.take_num gl ((L : Int) - k) (deep - 1) h4 (by omega) (by omega) y bc.1 bc.2 (cs k) HF.out.2.2.2
      have HB := Lib.hid hb3
      clear h3 h4 hb3
      go_wp2_with fail
      with_reducible refine hT.mono ?_
      rintro e w4 ⟨ao, ac, rfl, hac, h5, hb5⟩
      unfold numD
      obtain ⟨P, hP⟩ : ∃ P, decide (cs k < 0) = P := ⟨_, rfl⟩
      obtain ⟨nl, hnl⟩ : ∃ nl, (limbsOf (cs k).natAbs).length = nl := ⟨_, rfl⟩
      rw [hP, hnl]
      have h6 := h5.push (.cells #[.int .i64 1, .int .i64 0, .bool P, .slice ao nl ac, .string ⟨#[]⟩, .slice none 0 0, .slice none 0 0] 54)
      have hso : sat (w4.alloc (.cells #[.int .i64 1, .int .i64 0, .bool P, .slice ao nl ac, .string ⟨#[]⟩, .slice none 0 0, .slice none 0 0] 54)) (Go.Proofs.Ytanjiecefioffaa.blk (g18) (vecB v) * (own 54 7 v k (itemsC items) * (Go.Proofs.Ytanjiecefioffaa.blk w4.heap.size (.cells #[.int .i64 1, .int .i64 0, .bool P, .slice ao nl ac, .string ⟨#[]⟩, .slice none 0 0, .slice none 0 0] 54 (0, 0)) * (isHeap V S * (isSt X V.g Y * (Go.Proofs.Ytanjiecefioffaa.blk w.heap.size (.cells #[.int .i64 0, .int .i64 0, .bool false, .slice none 0 0, .string ⟨#[]⟩, .slice none 0 0, .slice none 0 0] 54 (0, 0)) * (Go.Proofs.Ytanjiecefioffaa.blk gl (.cells #[.int .i64 ((L : Int) - k - 1)] 3 (0, 0)) * (magP (cs k, ao, ac) * (magsP items * R))))))))) := h6.s.perm (by unfold magP; ac_rfl)
      have hb6 := (HB.out.trans hb5).trans (Below.zero_alloc w4 (.cells #[.int .i64 1, .int .i64 0, .bool P, .slice ao nl ac, .string ⟨#[]⟩, .slice none 0 0, .slice none 0 0] 54))
      obtain ⟨av, cv, rfl⟩ := own_val hso.right
      have c5 := (hso.left.cell 5).trans (show _ = some (Value.slice av k cv) from rfl)
      have c5b : ∀ o, ((w4.alloc (.cells #[.int .i64 1, .int .i64 0, .bool P, .slice ao nl ac, .string ⟨#[]⟩, .slice none 0 0, .slice none 0 0] 54)).alloc o).cell? ⟨g18, 5, none⟩ = some (.slice av k cv) := fun o => ((hso.alloc o).right.left.cell 5).trans rfl
      have hs7 := hso.alloc (.cells #[.int .i64 1, .int .i64 0, .bool P, .slice ao nl ac, .string ⟨#[]⟩, .slice none 0 0, .slice none 0 0] 54)
      rw [World.size_alloc] at hs7
      have hs8 : sat ((w4.alloc (.cells #[.int .i64 1, .int .i64 0, .bool P, .slice ao nl ac, .string ⟨#[]⟩, .slice none 0 0, .slice none 0 0] 54)).alloc (.cells #[.int .i64 1, .int .i64 0, .bool P, .slice ao nl ac, .string ⟨#[]⟩, .slice none 0 0, .slice none 0 0] 54)) (own 54 7 (.slice av k cv) k (itemsC items) * (Go.Proofs.Ytanjiecefioffaa.blk (w4.heap.size + 1) (.cells #[.int .i64 1, .int .i64 0, .bool P, .slice ao nl ac, .string ⟨#[]⟩, .slice none 0 0, .slice none 0 0] 54 (0, 0)) * (Go.Proofs.Ytanjiecefioffaa.blk (g18) (vecB (.slice av k cv)) * (isHeap V S * (isSt X V.g Y * (Go.Proofs.Ytanjiecefioffaa.blk w.heap.size (.cells #[.int .i64 0, .int .i64 0, .bool false, .slice none 0 0, .string ⟨#[]⟩, .slice none 0 0, .slice none 0 0] 54 (0, 0)) * (Go.Proofs.Ytanjiecefioffaa.blk gl (.cells #[.int .i64 ((L : Int) - k - 1)] 3 (0, 0)) * (magP (cs k, ao, ac) * (magsP items * R))))))))) := (hs7.perm (show _ = Go.Proofs.Ytanjiecefioffaa.blk w4.heap.size (.cells #[.int .i64 1, .int .i64 0, .bool P, .slice ao nl ac, .string ⟨#[]⟩, .slice none 0 0, .slice none 0 0] 54 (0, 0)) * (own 54 7 (.slice av k cv) k (itemsC items) * (Go.Proofs.Ytanjiecefioffaa.blk (w4.heap.size + 1) (.cells #[.int .i64 1, .int .i64 0, .bool P, .slice ao nl ac, .string ⟨#[]⟩, .slice none 0 0, .slice none 0 0] 54 (0, 0)) * (Go.Proofs.Ytanjiecefioffaa.blk (g18) (vecB (.slice av k cv)) * (isHeap V S * (isSt X V.g Y * (Go.Proofs.Ytanjiecefioffaa.blk w.heap.size (.cells #[.int .i64 0, .int .i64 0, .bool false, .slice none 0 0, .string ⟨#[]⟩, .slice none 0 0, .slice none 0 0] 54 (0, 0)) * (Go.Proofs.Ytanjiecefioffaa.blk gl (.cells #[.int .i64 ((L : Int) - k - 1)] 3 (0, 0)) * (magP (cs k, ao, ac) * (magsP items * R)))))))))  by ac_rfl)).right
      have hcl : CellsAt ((w4.alloc (.cells #[.int .i64 1, .int .i64 0, .bool P, .slice ao nl ac, .string ⟨#[]⟩, .slice none 0 0, .slice none 0 0] 54)).alloc (.cells #[.int .i64 1, .int .i64 0, .bool P, .slice ao nl ac, .string ⟨#[]⟩, .slice none 0 0, .slice none 0 0] 54)) (some ⟨w4.heap.size + 1, 0, none⟩) (itemC (cs k, ao, ac)) := by
        intro j u hj
        have ha : ((⟨w4.heap.size + 1, 0, none⟩ : Addr).add j) = ⟨w4.heap.size + 1, j, none⟩ := by unfold Addr.add; split <;> simp_all
        refine ⟨_, rfl, ?_⟩
        rw [ha, hs8.right.left.cell j]
        unfold itemC at hj
        simp only [hP, hnl] at hj
        rw [← hj]
        simp
      have HS := Lib.hid (And.intro hs8 (And.intro h6.ok (And.intro (hb6.trans (Below.zero_alloc _ (.cells #[.int .i64 1, .int .i64 0, .bool P, .slice ao nl ac, .string ⟨#[]⟩, .slice none 0 0, .slice none 0 0] 54))) (And.intro hP (And.intro hnl (And.intro hac hcl))))))
      clear hT h5 h6 hb5 hb6 hso hP hnl hac hs7 hs8 hcl
      go_wp2_with (at_builtin; refine halt ?_)
      refine goon ?_
      obtain ⟨hi, hz0, hz1, hz2⟩ := H1.out
      refine wpList_append_opt rfl (.tmp 166) (.tmp 168) 52 rfl 54 i0 zeroD 7 112 Try.underlying52 hi hz0 hz1 hz2 rfl (by decide) (.slice av k cv) k (itemsC items) rfl _ (some ⟨w4.heap.size + 1, 0, none⟩) 1 1 (itemC (cs k, ao, ac)) rfl ?_ HS.out.1 rfl HS.out.2.2.2.2.2.2 (fun u hu => itemsC_one [(cs k, ao, ac)] u (by unfold itemsC; simpa using hu)) (by omega) (by unfold maxLen; omega)
      clear hi hz0 hz1 hz2 c5 c5b
      intro v0 w9 hs9 hb9
      obtain ⟨av2, cv2, rfl⟩ := own_val hs9
      obtain ⟨v', hv'⟩ : ∃ v', Value.slice av2 (k + 1) cv2 = v' := ⟨_, rfl⟩
      rw [hv'] at hs9
      have hs10 := (show sat w9 (Go.Proofs.Ytanjiecefioffaa.blk (g18) (vecB (.slice av k cv)) * (own 54 7 v' (k + 1) (itemsC items ++ itemC (cs k, ao, ac)) * (isHeap V S * (isSt X V.g Y * (Go.Proofs.Ytanjiecefioffaa.blk w.heap.size (.cells #[.int .i64 0, .int .i64 0, .bool false, .slice none 0 0, .string ⟨#[]⟩, .slice none 0 0, .slice none 0 0] 54 (0, 0)) * (Go.Proofs.Ytanjiecefioffaa.blk gl (.cells #[.int .i64 ((L : Int) - k - 1)] 3 (0, 0)) * (magP (cs k, ao, ac) * (magsP items * R)))))))) from (hs9.perm (show _ = Go.Proofs.Ytanjiecefioffaa.blk (w4.heap.size + 1) (.cells #[.int .i64 1, .int .i64 0, .bool P, .slice ao nl ac, .string ⟨#[]⟩, .slice none 0 0, .slice none 0 0] 54 (0, 0)) * (Go.Proofs.Ytanjiecefioffaa.blk (g18) (vecB (.slice av k cv)) * (own 54 7 v' (k + 1) (itemsC items ++ itemC (cs k, ao, ac)) * (isHeap V S * (isSt X V.g Y * (Go.Proofs.Ytanjiecefioffaa.blk w.heap.size (.cells #[.int .i64 0, .int .i64 0, .bool false, .slice none 0 0, .string ⟨#[]⟩, .slice none 0 0, .slice none 0 0] 54 (0, 0)) * (Go.Proofs.Ytanjiecefioffaa.blk gl (.cells #[.int .i64 ((L : Int) - k - 1)] 3 (0, 0)) * (magP (cs k, ao, ac) * (magsP items * R)))))))) by ac_rfl)).right)
      have c5 := (hs10.left.cell 5).trans (show _ = some (Value.slice av k cv) from rfl)
      have f5 := hs10.left.frozen 5
      have hs11 : sat (w9.setCell ⟨g18, 5, none⟩ v') (Go.Proofs.Ytanjiecefioffaa.blk (g18) (vecB v') * (own 54 7 v' (k + 1) (itemsC items ++ itemC (cs k, ao, ac)) * (isHeap V S * (isSt X V.g Y * (Go.Proofs.Ytanjiecefioffaa.blk w.heap.size (.cells #[.int .i64 0, .int .i64 0, .bool false, .slice none 0 0, .string ⟨#[]⟩, .slice none 0 0, .slice none 0 0] 54 (0, 0)) * (Go.Proofs.Ytanjiecefioffaa.blk gl (.cells #[.int .i64 ((L : Int) - k - 1)] 3 (0, 0)) * (magP (cs k, ao, ac) * (magsP items * R)))))))) := hs10.setCell (off := 5) v'
      have hb11 := ((HS.out.2.2.1.trans hb9)).setCell (p := ⟨g18, 5, none⟩) (Nat.zero_le _) v'
      have HQ := Lib.hid (And.intro hs11 (And.intro hb11 (HS.out.2.1)))
      clear hs9 hb9 hs10 hs11 hb11
      subst hv'
      go_upto_region 36 with fail
      obtain ⟨hs11, hb11, hok11⟩ := HQ.out
      clear HQ c5 f5
      generalize w9.setCell ⟨g18, 5, none⟩ (.slice av2 (k + 1) cv2) = w10 at *
      have h12 : StW w10 X V S Y (Go.Proofs.Ytanjiecefioffaa.blk w.heap.size (.cells #[.int .i64 0, .int .i64 0, .bool false, .slice none 0 0, .string ⟨#[]⟩, .slice none 0 0, .slice none 0 0] 54 (0, 0)) * (Go.Proofs.Ytanjiecefioffaa.blk (g18) (vecB (.slice av2 (k + 1) cv2)) * (own 54 7 (.slice av2 (k + 1) cv2) (k + 1) (itemsC items ++ itemC (cs k, ao, ac)) * (Go.Proofs.Ytanjiecefioffaa.blk gl (.cells #[.int .i64 ((L : Int) - k - 1)] 3 (0, 0)) * (magP (cs k, ao, ac) * (magsP items * R)))))) := ⟨hs11.perm (by ac_rfl), hok11⟩
      have HW := Lib.hid (And.intro h12 hb11)
      clear hs11 hb11 h12 hok11
      have g2 : IntKind.i64.wrap ((k : Int) + 1) = (k : Int) + 1 := IntWalk.i64_in _ (by omega)
      go_wp2_with fail
      go_roundw
      case rel =>
        refine ⟨k + 1, items ++ [(cs k, ao, ac)], .slice av2 (k + 1) cv2, by go_num, by omega, ?_, ⟨?_, HW.out.1.ok⟩, HW.out.2⟩
        · rw [List.map_append, HF.out.2.2.1, List.range_succ, List.map_append]; rfl
        · rw [itemsC_app, magsP_app]
          have e1 : itemsC [(cs k, ao, ac)] = itemC (cs k, ao, ac) := by unfold itemsC; simp
          have e2 : magsP [(cs k, ao, ac)] = magP (cs k, ao, ac) := by show magP _ * emp = _; rw [HP.mul_emp]
          have e3 : (L : Int) - ((k + 1 : Nat) : Int) = (L : Int) - k - 1 := by omega
          rw [e1, e2, e3]
          exact HW.out.1.s.perm (by ac_rfl)
      case measure => simp [intOf]; omega
    · obtain rfl : k = N := by omega
      have hge : decide ((k : Int) < (k : Int)) = false := by simp
      have hso0 : sat wr (own 54 7 v k (itemsC items) * (Go.Proofs.Ytanjiecefioffaa.blk w.heap.size (.cells #[.int .i64 0, .int .i64 0, .bool false, .slice none 0 0, .string ⟨#[]⟩, .slice none 0 0, .slice none 0 0] 54 (0, 0)) * (Go.Proofs.Ytanjiecefioffaa.blk (g18) (vecB v) * (isHeap V S * (isSt X V.g Y * (Go.Proofs.Ytanjiecefioffaa.blk gl (.cells #[.int .i64 ((L : Int) - k)] 3 (0, 0)) * (magsP items * R))))))) := hs.s.perm (by ac_rfl)
      obtain ⟨av, cv, rfl⟩ := own_val hso0
      have hso : sat wr (Go.Proofs.Ytanjiecefioffaa.blk w.heap.size (.cells #[.int .i64 0, .int .i64 0, .bool false, .slice none 0 0, .string ⟨#[]⟩, .slice none 0 0, .slice none 0 0] 54 (0, 0)) * (Go.Proofs.Ytanjiecefioffaa.blk (g18) (vecB (.slice av k cv)) * (isHeap V S * (isSt X V.g Y * (own 54 7 (.slice av k cv) k (itemsC items) * (Go.Proofs.Ytanjiecefioffaa.blk gl (.cells #[.int .i64 ((L : Int) - k)] 3 (0, 0)) * (magsP items * R))))))) := hso0.perm (by ac_rfl)
      have HF := Lib.hid (And.intro hs.ok (And.intro hb hit))
      clear hs hb hit hso0
      have hsd := hso
      have hbd := HF.out.2.1
      clear hso
      generalize wr = w3' at *
      have c0 := (hsd.left.cell 0).trans rfl
      have f0 := hsd.left.frozen 0
      have c1 := (hsd.left.cell 1).trans rfl
      have f1 := hsd.left.frozen 1
      have c2 := (hsd.left.cell 2).trans rfl
      have f2 := hsd.left.frozen 2
      have c3 := (hsd.left.cell 3).trans rfl
      have f3 := hsd.left.frozen 3
      have c4 := (hsd.left.cell 4).trans rfl
      have f4 := hsd.left.frozen 4
      have c5 := (hsd.left.cell 5).trans rfl
      have f5 := hsd.left.frozen 5
      have c6 := (hsd.left.cell 6).trans rfl
      have f6 := hsd.left.frozen 6
      have d0 : w3'.cell? ⟨g18, 0, none⟩ = some (.int .i64 7) := (hsd.right.left.cell 0).trans rfl
      have d1 : w3'.cell? ⟨g18, 1, none⟩ = some (.int .i64 0) := (hsd.right.left.cell 1).trans rfl
      have d2 : w3'.cell? ⟨g18, 2, none⟩ = some (.bool false) := (hsd.right.left.cell 2).trans rfl
      have d3 : w3'.cell? ⟨g18, 3, none⟩ = some (.slice none 0 0) := (hsd.right.left.cell 3).trans rfl
      have d4 : w3'.cell? ⟨g18, 4, none⟩ = some (.string ⟨#[]⟩) := (hsd.right.left.cell 4).trans rfl
      have d5 : w3'.cell? ⟨g18, 5, none⟩ = some (.slice av k cv) := (hsd.right.left.cell 5).trans rfl
      have d6 : w3'.cell? ⟨g18, 6, none⟩ = some (.slice none 0 0) := (hsd.right.left.cell 6).trans rfl
      have HS := Lib.hid (And.intro hsd hbd)
      clear hsd hbd
      go_wp2_with fail
      have hs7 := (((((((HS.out.1.setCell (off := 0) (.int .i64 7)).setCell (off := 1) (.int .i64 0)).setCell (off := 2) (.bool false)).setCell (off := 3) (.slice none 0 0)).setCell (off := 4) (.string ⟨#[]⟩)).setCell (off := 5) (.slice av k cv)).setCell (off := 6) (.slice none 0 0))
      have hb7 := (((((((HS.out.2.setCell (p := ⟨w.heap.size, 0, none⟩) (Nat.zero_le _) (.int .i64 7)).setCell (p := ⟨w.heap.size, 1, none⟩) (Nat.zero_le _) (.int .i64 0)).setCell (p := ⟨w.heap.size, 2, none⟩) (Nat.zero_le _) (.bool false)).setCell (p := ⟨w.heap.size, 3, none⟩) (Nat.zero_le _) (.slice none 0 0)).setCell (p := ⟨w.heap.size, 4, none⟩) (Nat.zero_le _) (.string ⟨#[]⟩)).setCell (p := ⟨w.heap.size, 5, none⟩) (Nat.zero_le _) (.slice av k cv)).setCell (p := ⟨w.heap.size, 6, none⟩) (Nat.zero_le _) (.slice none 0 0))
      clear c0 f0 c1 f1 c2 f2 c3 f3 c4 f4 c5 f5 c6 f6 d0 d1 d2 d3 d4 d5 d6
      generalize (((((((w3'.setCell ⟨w.heap.size, 0, none⟩ (.int .i64 7)).setCell ⟨w.heap.size, 1, none⟩ (.int .i64 0)).setCell ⟨w.heap.size, 2, none⟩ (.bool false)).setCell ⟨w.heap.size, 3, none⟩ (.slice none 0 0)).setCell ⟨w.heap.size, 4, none⟩ (.string ⟨#[]⟩)).setCell ⟨w.heap.size, 5, none⟩ (.slice av k cv)).setCell ⟨w.heap.size, 6, none⟩ (.slice none 0 0)) = w7 at *
      have r0 : w7.cell? ⟨w.heap.size, 0, none⟩ = some (.int .i64 7) := (hs7.left.cell 0).trans rfl
      have r1 : w7.cell? ⟨w.heap.size, 1, none⟩ = some (.int .i64 0) := (hs7.left.cell 1).trans rfl
      have r2 : w7.cell? ⟨w.heap.size, 2, none⟩ = some (.bool false) := (hs7.left.cell 2).trans rfl
      have r3 : w7.cell? ⟨w.heap.size, 3, none⟩ = some (.slice none 0 0) := (hs7.left.cell 3).trans rfl
      have r4 : w7.cell? ⟨w.heap.size, 4, none⟩ = some (.string ⟨#[]⟩) := (hs7.left.cell 4).trans rfl
      have r5 : w7.cell? ⟨w.heap.size, 5, none⟩ = some (.slice av k cv) := (hs7.left.cell 5).trans rfl
      have r6 : w7.cell? ⟨w.heap.size, 6, none⟩ = some (.slice none 0 0) := (hs7.left.cell 6).trans rfl
      refine bodyPost_ret (v := .tuple #[.agg #[.int .i64 7, .int .i64 0, .bool false, .slice none 0 0, .string ⟨#[]⟩, .slice av k cv, .slice none 0 0], .bool true]) (by simp [results, Try.results60, go_sem, r0, r1, r2, r3, r4, r5, r6]) rfl ?_
      refine ⟨items, .slice av k cv, rfl, HF.out.2.2, ⟨?_, HF.out.1⟩, hb7⟩
      exact hs7.right.right.perm (by ac_rfl)
end
end Go.Proofs.Ytanjiecefioffaa

/- value.Store: Take of a vector. -/
namespace Go.Proofs.Ytanjiecefioffaa
open Go.RowKit
section
variable {w : World} {X : StV} {V : HV} {S : HS} {Y : StS} {R : HP}
set_option maxRecDepth 100000 in
set_option maxHeartbeats 2000000 in
/-- A vector of numbers is told. -/
theorem StW.Take_vec (h : StW w X V S Y R) (N : Nat) (x : Int) (cs : Nat → Int) (hN : N ≤ 19999) (x0 : 0 ≤ x ∧ x < 18446744073709551616) (hv : S.shape x 2 (-1) 0 = true) (ht : S.tag x = N) (hc : ∀ k, k < N → S.num (S.getAt x k) = some (cs k)) :
    Calls Try.prog 28 #[.pointer (some ⟨X.g, 0, none⟩), .int .u64 x, .int .i64 20000] w fun e w' => ∃ (items : List Item) (v : Value), e = .returned (.tuple #[.agg #[.int .i64 7, .int .i64 0, .bool false, .slice none 0 0, .string ⟨#[]⟩, v, .slice none 0 0], .bool true]) ∧ items.map (·.1) = (List.range N).map cs ∧
      StW w' X V S Y (own 54 7 v N (itemsC items) * (magsP items * R)) ∧ Below 0 w w' := by
  have HH := Lib.hid h
  clear h
  go_enter Try.func28, Try.ntmps28
  go_wp2_with fail
  have hp0 := (HH.out.push (.cells #[.int .i64 0, .int .i64 0, .bool false, .slice none 0 0, .string ⟨#[]⟩, .slice none 0 0, .slice none 0 0] 54)).push (.cells #[.int .i64 20000] 3)
  rw [World.size_alloc] at hp0
  have hbp : Below 0 w ((w.alloc (.cells #[.int .i64 0, .int .i64 0, .bool false, .slice none 0 0, .string ⟨#[]⟩, .slice none 0 0, .slice none 0 0] 54)).alloc (.cells #[.int .i64 20000] 3)) := (Below.zero_alloc _ _).trans (Below.zero_alloc _ _)
  have hT := StW.take_vec (w.heap.size + 1) N 19999 x cs 100 (by decide) hp0 (by decide) x0 hv ht hc hN
  have HB := Lib.hid hbp
  clear hp0 hbp hc
  with_reducible refine hT.mono ?_
  rintro e w3 ⟨items, v, rfl, hit, h3, hb3⟩
  have hso0 : sat w3 (own 54 7 v N (itemsC items) * (isHeap V S * (isSt X V.g Y * ((Go.Proofs.Ytanjiecefioffaa.blk (w.heap.size + 1) (.cells #[.int .i64 (((19999 : Nat) : Int) - N)] 3 (0, 0))) * (magsP items * (Go.Proofs.Ytanjiecefioffaa.blk w.heap.size (.cells #[.int .i64 0, .int .i64 0, .bool false, .slice none 0 0, .string ⟨#[]⟩, .slice none 0 0, .slice none 0 0] 54 (0, 0)) * R)))))) := h3.s.perm (by ac_rfl)
  obtain ⟨av, cv, rfl⟩ := own_val hso0
  have h4 := h3.push (.cells #[.int .i64 7, .int .i64 0, .bool false, .slice none 0 0, .string ⟨#[]⟩, .slice av N cv, .slice none 0 0] 54)
  have hso : sat (w3.alloc (.cells #[.int .i64 7, .int .i64 0, .bool false, .slice none 0 0, .string ⟨#[]⟩, .slice av N cv, .slice none 0 0] 54)) (Go.Proofs.Ytanjiecefioffaa.blk w.heap.size (.cells #[.int .i64 0, .int .i64 0, .bool false, .slice none 0 0, .string ⟨#[]⟩, .slice none 0 0, .slice none 0 0] 54 (0, 0)) * ((Go.Proofs.Ytanjiecefioffaa.blk w3.heap.size (.cells #[.int .i64 7, .int .i64 0, .bool false, .slice none 0 0, .string ⟨#[]⟩, .slice av N cv, .slice none 0 0] 54 (0, 0)) * Go.Proofs.Ytanjiecefioffaa.blk (w.heap.size + 1) (.cells #[.int .i64 (((19999 : Nat) : Int) - N)] 3 (0, 0))) * (isHeap V S * (isSt X V.g Y * (own 54 7 (.slice av N cv) N (itemsC items) * (magsP items * R)))))) := h4.s.perm (by ac_rfl)
  have hb5 := (HB.out.trans hb3).trans (Below.zero_alloc w3 (.cells #[.int .i64 7, .int .i64 0, .bool false, .slice none 0 0, .string ⟨#[]⟩, .slice av N cv, .slice none 0 0] 54))
  have HG := Lib.hid (And.intro h4.ok (And.intro hso (And.intro hb5 hit)))
  have c0 := (hso.left.cell 0).trans rfl
  have f0 := hso.left.frozen 0
  have c1 := (hso.left.cell 1).trans rfl
  have f1 := hso.left.frozen 1
  have c2 := (hso.left.cell 2).trans rfl
  have f2 := hso.left.frozen 2
  have c3 := (hso.left.cell 3).trans rfl
  have f3 := hso.left.frozen 3
  have c4 := (hso.left.cell 4).trans rfl
  have f4 := hso.left.frozen 4
  have c5 := (hso.left.cell 5).trans rfl
  have f5 := hso.left.frozen 5
  have c6 := (hso.left.cell 6).trans rfl
  have f6 := hso.left.frozen 6
  clear h3 hb3 h4 hT hso hb5 hso0 hit
  go_wp2_with fail
  have hs7 := (((((((HG.out.2.1.setCell (off := 0) (.int .i64 7)).setCell (off := 1) (.int .i64 0)).setCell (off := 2) (.bool false)).setCell (off := 3) (.slice none 0 0)).setCell (off := 4) (.string ⟨#[]⟩)).setCell (off := 5) (.slice av N cv)).setCell (off := 6) (.slice none 0 0))
  have hb7 := (((((((HG.out.2.2.1.setCell (p := ⟨w.heap.size, 0, none⟩) (Nat.zero_le _) (.int .i64 7)).setCell (p := ⟨w.heap.size, 1, none⟩) (Nat.zero_le _) (.int .i64 0)).setCell (p := ⟨w.heap.size, 2, none⟩) (Nat.zero_le _) (.bool false)).setCell (p := ⟨w.heap.size, 3, none⟩) (Nat.zero_le _) (.slice none 0 0)).setCell (p := ⟨w.heap.size, 4, none⟩) (Nat.zero_le _) (.string ⟨#[]⟩)).setCell (p := ⟨w.heap.size, 5, none⟩) (Nat.zero_le _) (.slice av N cv)).setCell (p := ⟨w.heap.size, 6, none⟩) (Nat.zero_le _) (.slice none 0 0))
  clear c0 f0 c1 f1 c2 f2 c3 f3 c4 f4 c5 f5 c6 f6
  generalize ((((((((w3.alloc (.cells #[.int .i64 7, .int .i64 0, .bool false, .slice none 0 0, .string ⟨#[]⟩, .slice av N cv, .slice none 0 0] 54)).setCell ⟨w.heap.size, 0, none⟩ (.int .i64 7)).setCell ⟨w.heap.size, 1, none⟩ (.int .i64 0)).setCell ⟨w.heap.size, 2, none⟩ (.bool false)).setCell ⟨w.heap.size, 3, none⟩ (.slice none 0 0)).setCell ⟨w.heap.size, 4, none⟩ (.string ⟨#[]⟩)).setCell ⟨w.heap.size, 5, none⟩ (.slice av N cv)).setCell ⟨w.heap.size, 6, none⟩ (.slice none 0 0)) = w7 at *
  have r0 : w7.cell? ⟨w.heap.size, 0, none⟩ = some (.int .i64 7) := (hs7.left.cell 0).trans rfl
  have r1 : w7.cell? ⟨w.heap.size, 1, none⟩ = some (.int .i64 0) := (hs7.left.cell 1).trans rfl
  have r2 : w7.cell? ⟨w.heap.size, 2, none⟩ = some (.bool false) := (hs7.left.cell 2).trans rfl
  have r3 : w7.cell? ⟨w.heap.size, 3, none⟩ = some (.slice none 0 0) := (hs7.left.cell 3).trans rfl
  have r4 : w7.cell? ⟨w.heap.size, 4, none⟩ = some (.string ⟨#[]⟩) := (hs7.left.cell 4).trans rfl
  have r5 : w7.cell? ⟨w.heap.size, 5, none⟩ = some (.slice av N cv) := (hs7.left.cell 5).trans rfl
  have r6 : w7.cell? ⟨w.heap.size, 6, none⟩ = some (.slice none 0 0) := (hs7.left.cell 6).trans rfl
  refine bodyPost_ret (v := .tuple #[.agg #[.int .i64 7, .int .i64 0, .bool false, .slice none 0 0, .string ⟨#[]⟩, .slice av N cv, .slice none 0 0], .bool true]) (by simp [results, Try.results28, go_sem, r0, r1, r2, r3, r4, r5, r6]) rfl ⟨items, .slice av N cv, rfl, HG.out.2.2.2, ⟨hs7.right.right, HG.out.1⟩, hb7⟩
end
end Go.Proofs.Ytanjiecefioffaa

/- value.Store: take and Take of the empty list. -/
namespace Go.Proofs.Ytanjiecefioffaa
open Go.RowKit

theorem ten_word (S : HS) : S.num 10 = none ∧ S.bytesOk 10 = false ∧ S.nameOk 10 = false := by
  have hk : S.kind 10 = 0 := by unfold HS.kind; rw [(ten_none S).2]; rfl
  refine ⟨?_, ?_, ?_⟩
  · unfold HS.num HS.numOk HS.numFit HS.shape
    rw [if_neg (by decide), hk]; rfl
  · unfold HS.bytesOk HS.bytesFit HS.shape
    rw [hk]; rfl
  · unfold HS.nameOk HS.shape
    rw [hk]; rfl
section
variable {w : World} {X : StV} {V : HV} {S : HS} {Y : StS} {R : HP}
set_option maxRecDepth 100000 in
set_option maxHeartbeats 4000000 in
theorem StW.take_ten (gl : Nat) (L : Nat) (cs : Nat → Int) (deep : Int) (hL : L < 20000) (h : StW w X V S Y (Go.Proofs.Ytanjiecefioffaa.blk gl (.cells #[.int .i64 ((L : Int) + 1)] 3 (0, 0)) * R)) (hd : 1 < deep ∧ deep ≤ 100)
    :
    Calls Try.prog 60 #[.pointer (some ⟨X.g, 0, none⟩), .int .u64 10, .pointer (some ⟨gl, 0, none⟩), .int .i64 deep] w (TakePost X V S Y R gl cs 0 L w) := by
  obtain ⟨nx, ox, mx⟩ := ten_word S
  have bx : (0 : Int) ≤ 10 ∧ (10 : Int) < 18446744073709551616 := by decide
  have hs : sat w (Go.Proofs.Ytanjiecefioffaa.blk gl (.cells #[.int .i64 ((L : Int) + 1)] 3 (0, 0)) * (isHeap V S * (isSt X V.g Y * R))) := h.s.perm (by ac_rfl)
  have cA : ∀ o, (w.alloc o).cell? ⟨gl, 0, none⟩ = some (.int .i64 ((L : Int) + 1)) := fun o => ((hs.alloc o).right.left.cell 0).trans rfl
  have fA : ∀ o, (w.alloc o).frozen? ⟨gl, 0, none⟩ = false := fun o => (hs.alloc o).right.left.frozen 0
  obtain ⟨Z, hZ⟩ : ∃ Z : Obj, Z = .cells #[.int .i64 0, .int .i64 0, .bool false, .slice none 0 0, .string ⟨#[]⟩, .slice none 0 0, .slice none 0 0] 54 := ⟨_, rfl⟩
  have hs2 : sat ((w.alloc Z).setCell ⟨gl, 0, none⟩ (.int .i64 L)) (Go.Proofs.Ytanjiecefioffaa.blk gl (.cells #[.int .i64 L] 3 (0, 0)) * (Go.Proofs.Ytanjiecefioffaa.blk w.heap.size Z * (isHeap V S * (isSt X V.g Y * R)))) :=
    (show sat (w.alloc Z) (Go.Proofs.Ytanjiecefioffaa.blk gl (.cells #[.int .i64 ((L : Int) + 1)] 3 (0, 0)) * (Go.Proofs.Ytanjiecefioffaa.blk w.heap.size Z * (isHeap V S * (isSt X V.g Y * R)))) from (hs.alloc Z).perm (by ac_rfl)).setCell (off := 0) (.int .i64 L)
  have h2 : StW ((w.alloc Z).setCell ⟨gl, 0, none⟩ (.int .i64 L)) X V S Y (Go.Proofs.Ytanjiecefioffaa.blk w.heap.size Z * (Go.Proofs.Ytanjiecefioffaa.blk gl (.cells #[.int .i64 L] 3 (0, 0)) * R)) := ⟨hs2.perm (by ac_rfl), h.ok⟩
  have hb2 : Below 0 w ((w.alloc Z).setCell ⟨gl, 0, none⟩ (.int .i64 L)) := (Below.zero_alloc w Z).setCell (p := ⟨gl, 0, none⟩) (Nat.zero_le _) _
  clear hs2
  rw [hZ] at h2 hb2
  clear hZ
  have g0 : ((L : Int) + 1 - 1) = (L : Int) := by omega
  have g1b : IntKind.i64.wrap (L : Int) = (L : Int) := IntWalk.i64_in _ (by omega)
  have g2 : decide ((L : Int) + 1 ≤ 0) = false := by rw [decide_eq_false_iff_not]; omega
  have g3 : (deep == 0) = false := by simp; omega
  have HX := Lib.hid (And.intro h2 (And.intro hb2 (And.intro nx (And.intro ox mx))))
  clear h h2 hs hb2 nx ox mx
  go_enter Try.func60, Try.ntmps60
  go_wp2_with fail
  have hN := HX.out.1.Num 10 bx.1 bx.2
  rw [HX.out.2.2.1] at hN
  clear cA fA
  generalize hw2 : (w.alloc (.cells #[.int .i64 0, .int .i64 0, .bool false, .slice none 0 0, .string ⟨#[]⟩, .slice none 0 0, .slice none 0 0] 54)).setCell ⟨gl, 0, none⟩ (.int .i64 L) = w2 at *
  with_reducible refine hN.mono ?_
  rintro e w3 ⟨ao, ac, rfl, hac, h3, hb3⟩
  simp only [Option.getD_none, Option.isSome_none] at h3 ⊢
  obtain ⟨P, hP⟩ : ∃ P, decide ((0 : Int) < 0) = P := ⟨_, rfl⟩
  rw [hP]
  generalize (limbsOf (0 : Int).natAbs).length = nl at *
  have hp := (h3.push (.cells #[.bool P, .slice ao nl ac] 51))
  have hpp : StW (w3.alloc (.cells #[.bool P, .slice ao nl ac] 51)) X V S Y (Go.Proofs.Ytanjiecefioffaa.blk w.heap.size (.cells #[.int .i64 0, .int .i64 0, .bool false, .slice none 0 0, .string ⟨#[]⟩, .slice none 0 0, .slice none 0 0] 54 (0, 0)) * (Go.Proofs.Ytanjiecefioffaa.blk gl (.cells #[.int .i64 L] 3 (0, 0)) * R)) := hp.drop.drop
  have hB := hpp.Bytes 10 bx.1 bx.2
  unfold BytesPost at hB
  rw [HX.out.2.2.2.1] at hB
  have HB := Lib.hid ((HX.out.2.1.trans hb3).trans (Below.zero_alloc w3 (.cells #[.bool P, .slice ao nl ac] 51)))
  clear hN h3 hb3 hp hac hpp
  go_wp2_with fail
  with_reducible refine hB.mono ?_
  rintro e w4 ⟨v, rfl, h4, hb4⟩
  have h4d := h4.drop
  have hNm := h4d.Name 10 bx.1 bx.2
  unfold NamePost at hNm
  rw [HX.out.2.2.2.2] at hNm
  have HB4 := Lib.hid (HB.out.trans hb4)
  clear hB h4 h4d hb4
  go_wp2_with fail
  with_reducible refine hNm.mono ?_
  rintro e w5 ⟨rfl, h5, hb5⟩
  generalize S.name 10 = nm at *
  have hso : sat w5 (Go.Proofs.Ytanjiecefioffaa.blk w.heap.size (.cells #[.int .i64 0, .int .i64 0, .bool false, .slice none 0 0, .string ⟨#[]⟩, .slice none 0 0, .slice none 0 0] 54 (0, 0)) * (isHeap V S * (isSt X V.g Y * (Go.Proofs.Ytanjiecefioffaa.blk gl (.cells #[.int .i64 L] 3 (0, 0)) * R)))) := h5.s.perm (by ac_rfl)
  have hb6 := HB4.out.trans hb5
  have c0 := (hso.left.cell 0).trans rfl
  have f0 := hso.left.frozen 0
  have c1 := (hso.left.cell 1).trans rfl
  have f1 := hso.left.frozen 1
  have c2 := (hso.left.cell 2).trans rfl
  have f2 := hso.left.frozen 2
  have c3 := (hso.left.cell 3).trans rfl
  have f3 := hso.left.frozen 3
  have c4 := (hso.left.cell 4).trans rfl
  have f4 := hso.left.frozen 4
  have c5 := (hso.left.cell 5).trans rfl
  have f5 := hso.left.frozen 5
  have c6 := (hso.left.cell 6).trans rfl
  have f6 := hso.left.frozen 6
  have HS := Lib.hid (And.intro hso (And.intro h5.ok hb6))
  clear hNm h5 hb5 hso hb6
  go_wp2_with fail
  have hs9 := (((((((HS.out.1.setCell (off := 0) (.int .i64 6)).setCell (off := 1) (.int .i64 0)).setCell (off := 2) (.bool false)).setCell (off := 3) (.slice none 0 0)).setCell (off := 4) (.string ⟨#[]⟩)).setCell (off := 5) (.slice none 0 0)).setCell (off := 6) (.slice none 0 0))
  have hb9 := (((((((HS.out.2.2.setCell (p := ⟨w.heap.size, 0, none⟩) (Nat.zero_le _) (.int .i64 6)).setCell (p := ⟨w.heap.size, 1, none⟩) (Nat.zero_le _) (.int .i64 0)).setCell (p := ⟨w.heap.size, 2, none⟩) (Nat.zero_le _) (.bool false)).setCell (p := ⟨w.heap.size, 3, none⟩) (Nat.zero_le _) (.slice none 0 0)).setCell (p := ⟨w.heap.size, 4, none⟩) (Nat.zero_le _) (.string ⟨#[]⟩)).setCell (p := ⟨w.heap.size, 5, none⟩) (Nat.zero_le _) (.slice none 0 0)).setCell (p := ⟨w.heap.size, 6, none⟩) (Nat.zero_le _) (.slice none 0 0))
  clear c0 f0 c1 f1 c2 f2 c3 f3 c4 f4 c5 f5 c6 f6
  generalize (((((((w5.setCell ⟨w.heap.size, 0, none⟩ (.int .i64 6)).setCell ⟨w.heap.size, 1, none⟩ (.int .i64 0)).setCell ⟨w.heap.size, 2, none⟩ (.bool false)).setCell ⟨w.heap.size, 3, none⟩ (.slice none 0 0)).setCell ⟨w.heap.size, 4, none⟩ (.string ⟨#[]⟩)).setCell ⟨w.heap.size, 5, none⟩ (.slice none 0 0)).setCell ⟨w.heap.size, 6, none⟩ (.slice none 0 0)) = w9 at *
  have r0 : w9.cell? ⟨w.heap.size, 0, none⟩ = some (.int .i64 6) := (hs9.left.cell 0).trans rfl
  have r1 : w9.cell? ⟨w.heap.size, 1, none⟩ = some (.int .i64 0) := (hs9.left.cell 1).trans rfl
  have r2 : w9.cell? ⟨w.heap.size, 2, none⟩ = some (.bool false) := (hs9.left.cell 2).trans rfl
  have r3 : w9.cell? ⟨w.heap.size, 3, none⟩ = some (.slice none 0 0) := (hs9.left.cell 3).trans rfl
  have r4 : w9.cell? ⟨w.heap.size, 4, none⟩ = some (.string ⟨#[]⟩) := (hs9.left.cell 4).trans rfl
  have r5 : w9.cell? ⟨w.heap.size, 5, none⟩ = some (.slice none 0 0) := (hs9.left.cell 5).trans rfl
  have r6 : w9.cell? ⟨w.heap.size, 6, none⟩ = some (.slice none 0 0) := (hs9.left.cell 6).trans rfl
  refine bodyPost_ret (v := .tuple #[.agg #[.int .i64 6, .int .i64 0, .bool false, .slice none 0 0, .string ⟨#[]⟩, .slice none 0 0, .slice none 0 0], .bool true]) (by simp [results, Try.results60, go_sem, r0, r1, r2, r3, r4, r5, r6]) rfl ?_
  unfold TakePost
  rw [if_pos (Nat.zero_le _)]
  refine ⟨[], .slice none 0 0, rfl, rfl, ⟨?_, HS.out.2.1⟩, hb9⟩
  have h1 := hs9.right.nil_own (e := 54) (sz := 7)
  refine h1.perm ?_
  show own _ _ _ _ [] * _ = isHeap V S * (isSt X V.g Y * (own _ _ _ _ [] * (Go.Proofs.Ytanjiecefioffaa.blk gl (.cells #[.int .i64 ((L : Int) - (0 : Nat))] 3 (0, 0)) * (emp * R))))
  rw [HP.emp_mul, show ((L : Int) - (0 : Nat)) = L by omega]
  ac_rfl
set_option maxRecDepth 100000 in
set_option maxHeartbeats 2000000 in
/-- The empty list is told. -/
theorem StW.Take_ten (h : StW w X V S Y R) (cs : Nat → Int) :
    Calls Try.prog 28 #[.pointer (some ⟨X.g, 0, none⟩), .int .u64 10, .int .i64 20000] w fun e w' => ∃ (items : List Item) (v : Value), e = .returned (.tuple #[.agg #[.int .i64 6, .int .i64 0, .bool false, .slice none 0 0, .string ⟨#[]⟩, v, .slice none 0 0], .bool true]) ∧ items.map (·.1) = (List.range 0).map cs ∧
      StW w' X V S Y (own 54 7 v 0 (itemsC items) * (magsP items * R)) ∧ Below 0 w w' := by
  have HH := Lib.hid h
  clear h
  go_enter Try.func28, Try.ntmps28
  go_wp2_with fail
  have hp0 := (HH.out.push (.cells #[.int .i64 0, .int .i64 0, .bool false, .slice none 0 0, .string ⟨#[]⟩, .slice none 0 0, .slice none 0 0] 54)).push (.cells #[.int .i64 20000] 3)
  rw [World.size_alloc] at hp0
  have hbp : Below 0 w ((w.alloc (.cells #[.int .i64 0, .int .i64 0, .bool false, .slice none 0 0, .string ⟨#[]⟩, .slice none 0 0, .slice none 0 0] 54)).alloc (.cells #[.int .i64 20000] 3)) := (Below.zero_alloc _ _).trans (Below.zero_alloc _ _)
  have hT := StW.take_ten (w.heap.size + 1) 19999 cs 100 (by decide) hp0 (by decide)
  unfold TakePost at hT
  simp only [if_pos (Nat.zero_le _)] at hT
  have HB := Lib.hid hbp
  clear hp0 hbp
  with_reducible refine hT.mono ?_
  rintro e w3 ⟨items, v, rfl, hit, h3, hb3⟩
  have hso0 : sat w3 (own 54 7 v 0 (itemsC items) * (isHeap V S * (isSt X V.g Y * ((Go.Proofs.Ytanjiecefioffaa.blk (w.heap.size + 1) (.cells #[.int .i64 (((19999 : Nat) : Int) - (0 : Nat))] 3 (0, 0))) * (magsP items * (Go.Proofs.Ytanjiecefioffaa.blk w.heap.size (.cells #[.int .i64 0, .int .i64 0, .bool false, .slice none 0 0, .string ⟨#[]⟩, .slice none 0 0, .slice none 0 0] 54 (0, 0)) * R)))))) := h3.s.perm (by ac_rfl)
  obtain ⟨av, cv, rfl⟩ := own_val hso0
  have h4 := h3.push (.cells #[.int .i64 6, .int .i64 0, .bool false, .slice none 0 0, .string ⟨#[]⟩, .slice av 0 cv, .slice none 0 0] 54)
  have hso : sat (w3.alloc (.cells #[.int .i64 6, .int .i64 0, .bool false, .slice none 0 0, .string ⟨#[]⟩, .slice av 0 cv, .slice none 0 0] 54)) (Go.Proofs.Ytanjiecefioffaa.blk w.heap.size (.cells #[.int .i64 0, .int .i64 0, .bool false, .slice none 0 0, .string ⟨#[]⟩, .slice none 0 0, .slice none 0 0] 54 (0, 0)) * ((Go.Proofs.Ytanjiecefioffaa.blk w3.heap.size (.cells #[.int .i64 6, .int .i64 0, .bool false, .slice none 0 0, .string ⟨#[]⟩, .slice av 0 cv, .slice none 0 0] 54 (0, 0)) * Go.Proofs.Ytanjiecefioffaa.blk (w.heap.size + 1) (.cells #[.int .i64 (((19999 : Nat) : Int) - (0 : Nat))] 3 (0, 0))) * (isHeap V S * (isSt X V.g Y * (own 54 7 (.slice av 0 cv) 0 (itemsC items) * (magsP items * R)))))) := h4.s.perm (by ac_rfl)
  have hb5 := (HB.out.trans hb3).trans (Below.zero_alloc w3 (.cells #[.int .i64 6, .int .i64 0, .bool false, .slice none 0 0, .string ⟨#[]⟩, .slice av 0 cv, .slice none 0 0] 54))
  have HG := Lib.hid (And.intro h4.ok (And.intro hso (And.intro hb5 hit)))
  have c0 := (hso.left.cell 0).trans rfl
  have f0 := hso.left.frozen 0
  have c1 := (hso.left.cell 1).trans rfl
  have f1 := hso.left.frozen 1
  have c2 := (hso.left.cell 2).trans rfl
  have f2 := hso.left.frozen 2
  have c3 := (hso.left.cell 3).trans rfl
  have f3 := hso.left.frozen 3
  have c4 := (hso.left.cell 4).trans rfl
  have f4 := hso.left.frozen 4
  have c5 := (hso.left.cell 5).trans rfl
  have f5 := hso.left.frozen 5
  have c6 := (hso.left.cell 6).trans rfl
  have f6 := hso.left.frozen 6
  clear h3 hb3 h4 hT hso hb5 hso0 hit
  go_wp2_with fail
  have hs7 := (((((((HG.out.2.1.setCell (off := 0) (.int .i64 6)).setCell (off := 1) (.int .i64 0)).setCell (off := 2) (.bool false)).setCell (off := 3) (.slice none 0 0)).setCell (off := 4) (.string ⟨#[]⟩)).setCell (off := 5) (.slice av 0 cv)).setCell (off := 6) (.slice none 0 0))
  have hb7 := (((((((HG.out.2.2.1.setCell (p := ⟨w.heap.size, 0, none⟩) (Nat.zero_le _) (.int .i64 6)).setCell (p := ⟨w.heap.size, 1, none⟩) (Nat.zero_le _) (.int .i64 0)).setCell (p := ⟨w.heap.size, 2, none⟩) (Nat.zero_le _) (.bool false)).setCell (p := ⟨w.heap.size, 3, none⟩) (Nat.zero_le _) (.slice none 0 0)).setCell (p := ⟨w.heap.size, 4, none⟩) (Nat.zero_le _) (.string ⟨#[]⟩)).setCell (p := ⟨w.heap.size, 5, none⟩) (Nat.zero_le _) (.slice av 0 cv)).setCell (p := ⟨w.heap.size, 6, none⟩) (Nat.zero_le _) (.slice none 0 0))
  clear c0 f0 c1 f1 c2 f2 c3 f3 c4 f4 c5 f5 c6 f6
  generalize ((((((((w3.alloc (.cells #[.int .i64 6, .int .i64 0, .bool false, .slice none 0 0, .string ⟨#[]⟩, .slice av 0 cv, .slice none 0 0] 54)).setCell ⟨w.heap.size, 0, none⟩ (.int .i64 6)).setCell ⟨w.heap.size, 1, none⟩ (.int .i64 0)).setCell ⟨w.heap.size, 2, none⟩ (.bool false)).setCell ⟨w.heap.size, 3, none⟩ (.slice none 0 0)).setCell ⟨w.heap.size, 4, none⟩ (.string ⟨#[]⟩)).setCell ⟨w.heap.size, 5, none⟩ (.slice av 0 cv)).setCell ⟨w.heap.size, 6, none⟩ (.slice none 0 0)) = w7 at *
  have r0 : w7.cell? ⟨w.heap.size, 0, none⟩ = some (.int .i64 6) := (hs7.left.cell 0).trans rfl
  have r1 : w7.cell? ⟨w.heap.size, 1, none⟩ = some (.int .i64 0) := (hs7.left.cell 1).trans rfl
  have r2 : w7.cell? ⟨w.heap.size, 2, none⟩ = some (.bool false) := (hs7.left.cell 2).trans rfl
  have r3 : w7.cell? ⟨w.heap.size, 3, none⟩ = some (.slice none 0 0) := (hs7.left.cell 3).trans rfl
  have r4 : w7.cell? ⟨w.heap.size, 4, none⟩ = some (.string ⟨#[]⟩) := (hs7.left.cell 4).trans rfl
  have r5 : w7.cell? ⟨w.heap.size, 5, none⟩ = some (.slice av 0 cv) := (hs7.left.cell 5).trans rfl
  have r6 : w7.cell? ⟨w.heap.size, 6, none⟩ = some (.slice none 0 0) := (hs7.left.cell 6).trans rfl
  refine bodyPost_ret (v := .tuple #[.agg #[.int .i64 6, .int .i64 0, .bool false, .slice none 0 0, .string ⟨#[]⟩, .slice av 0 cv, .slice none 0 0], .bool true]) (by simp [results, Try.results28, go_sem, r0, r1, r2, r3, r4, r5, r6]) rfl ⟨items, .slice av 0 cv, rfl, HG.out.2.2.2, ⟨hs7.right.right, HG.out.1⟩, hb7⟩
end
end Go.Proofs.Ytanjiecefioffaa

/- SameLimbs. Same, SameAll of data that are numbers. SameAll of two rows of numbers. What lies in a row of numbers' data, with their limbs beside it, is read. -/
/- SameLimbs. -/
namespace Go.Proofs.Ytanjiecefioffaa
open Go.RowKit

/-- The limbs xs can be read here. -/
def Reads32 (w : World) (ao : Option Addr) (xs : List Int) : Prop := ∀ (j : Nat) x, xs[j]? = some x → ∃ a, ao = some a ∧ w.cell? (a.add j) = some (.int .u32 x)
set_option maxHeartbeats 400000 in
theorem same_limbs (w : World) (ao bo : Option Addr) (c d : Nat) (xs ys : List Int) (hx : Reads32 w ao xs) (hy : Reads32 w bo ys) (hn : xs.length < 4611686018427387904) (hm : ys.length < 4611686018427387904) :
    Calls Try.prog 72 #[.slice ao xs.length c, .slice bo ys.length d] w (Says (.bool (decide (xs = ys))) w) := by
  by_cases hl : xs.length = ys.length
  · have hl2 : (xs.length : Int) = ys.length := by omega
    generalize hnx : xs.length = n1 at *
    generalize hny : ys.length = n2 at *
    subst hl
    have HX := Lib.hid (And.intro hnx hny)
    clear hnx hny hm hl2
    go_enter Try.func72, Try.ntmps72
    go_wp2_with fail
    go_loopw [5] (SameRel w xs ys) (fun i _ => n1 - (intOf i).toNat)
    case atStart => exact ⟨0, 0, Nat.zero_le _, rfl, rfl, fun j h => by omega⟩
    case round =>
      obtain ⟨k, n, hk, rfl, rfl, hsame⟩ := hrel
      by_cases hlt : k < n1
      · obtain ⟨x, ex⟩ : ∃ x, xs[k]? = some x := ⟨_, List.getElem?_eq_getElem (by rw [HX.out.1]; exact hlt)⟩
        obtain ⟨y, ey⟩ : ∃ y, ys[k]? = some y := ⟨_, List.getElem?_eq_getElem (by rw [HX.out.2]; exact hlt)⟩
        obtain ⟨a, rfl, ha⟩ := hx k x ex
        obtain ⟨b, rfl, hb⟩ := hy k y ey
        have ha2 : (w.drewN n).cell? (a.add k) = some (.int .u32 x) := ha
        have hb2 : (w.drewN n).cell? (b.add k) = some (.int .u32 y) := hb
        have HW := Lib.hid (rfl : w.drewN n = w.drewN n)
        generalize hw : w.drewN n = w1 at *
        have HW1 := Lib.hid hw
        clear hw HW ha hb
        have HS := Lib.hid (And.intro ex (And.intro ey hsame))
        clear ex ey hsame
        by_cases he : x = y
        · subst he
          go_wp2_with fail
          go_quiet (fail)
          go_wp2_with fail
          go_roundw
          case rel =>
            refine ⟨k + 1, n + nq, by rw [HX.out.1]; omega, by go_num, by rw [← HW1.out, World.drewN_drewN], ?_⟩
            intro j hj
            by_cases e : j = k
            · subst e; rw [HS.out.1, HS.out.2.1]
            · exact HS.out.2.2 j (by omega)
          case measure => simp [intOf]; omega
        · have he2 : (x == y) = false := by rw [beq_eq_false_iff_ne]; exact he
          go_wp2_with fail
          go_quiet (fail)
          go_wp2_with fail
          go_ret
          rw [same_false HS.out.1 HS.out.2.1 he]
          rw [← HW1.out]
          exact ⟨rfl, n + nq, by rw [World.drewN_drewN]⟩
      · have hge : (n1 : Int) ≤ k := by omega
        have heq : decide (xs = ys) = true := by
          rw [decide_eq_true_eq]
          apply List.ext_getElem?
          intro j
          rcases Nat.lt_or_ge j k with h | h
          · exact hsame j h
          · rw [List.getElem?_eq_none (by rw [HX.out.1]; omega), List.getElem?_eq_none (by rw [HX.out.2]; omega)]
        have HQ := Lib.hid heq
        clear heq hsame
        go_wp2_with fail
        go_ret
        rw [HQ.out]
        exact ⟨rfl, n, rfl⟩
  · have he : decide (xs = ys) = false := by rw [decide_eq_false_iff_not]; rintro rfl; exact hl rfl
    rw [he]
    have hl2 : ((xs.length : Int) == (ys.length : Int)) = false := by rw [beq_eq_false_iff_ne]; omega
    go_enter Try.func72, Try.ntmps72
    go_wp2_with fail
    go_ret
    exact ⟨rfl, 0, rfl⟩

set_option maxRecDepth 100000 in
set_option maxHeartbeats 1000000 in
/-- Numbers of one sign and the same limbs are told the same. -/
theorem same_num {w : World} {R : HP} (hs : sat w R) (P : Bool) (ao bo : Option Addr) (ca cb : Nat) (l : List Int) (ha : ∀ w, sat w R → Reads32 w ao l) (hb : ∀ w, sat w R → Reads32 w bo l) (hn : l.length < 4611686018427387904) :
    Calls Try.prog 40 #[.agg #[.bool P, .slice ao l.length ca], .agg #[.bool P, .slice bo l.length cb]] w fun e w' => e = .returned (.bool true) ∧ sat w' R ∧ Below 0 w w' := by
  have h2 := ((hs.alloc (.cells #[.bool P, .slice ao l.length ca] 51)).alloc (.cells #[.bool P, .slice bo l.length cb] 51)).right.right
  have hb2 : Below 0 w ((w.alloc (.cells #[.bool P, .slice ao l.length ca] 51)).alloc (.cells #[.bool P, .slice bo l.length cb] 51)) := (Below.zero_alloc _ _).trans (Below.zero_alloc _ _)
  have hC := same_limbs _ ao bo ca cb l l (ha _ h2) (hb _ h2) hn hn
  rw [decide_eq_true (rfl : l = l)] at hC
  have HX := Lib.hid (And.intro h2 hb2)
  have q : (P == P) = true := by simp
  clear h2 hb2 hs ha hb
  go_enter Try.func40, Try.ntmps40
  go_wp2_with fail
  refine hC.mono ?_
  rintro e w' ⟨rfl, j, rfl⟩
  go_wp2_with fail
  go_ret
  exact ⟨rfl, HX.out.1.drewN j, HX.out.2.trans (drewN_below0 _ _)⟩
end Go.Proofs.Ytanjiecefioffaa

/- Same, SameAll of data that are numbers. -/
namespace Go.Proofs.Ytanjiecefioffaa
open Go.RowKit

set_option maxRecDepth 100000 in
theorem same_all_nil (w : World) : Calls Try.prog 43 #[.slice none 0 0, .slice none 0 0] w fun e w' => e = .returned (.bool true) ∧ w' = w := by
  go_enter Try.func43, Try.ntmps43
  go_wp2_with fail
  go_loopw [5] (fun i wr => i = .int .i64 0 ∧ wr = w) (fun _ _ => 0)
  case atStart => exact ⟨rfl, rfl⟩
  case round =>
    obtain ⟨rfl, rfl⟩ := hrel
    go_wp2_with fail
    go_ret
    exact ⟨rfl, rfl⟩
set_option maxRecDepth 100000 in
set_option maxHeartbeats 2000000 in
theorem same_numD {w : World} {R : HP} (hs : sat w R) (P : Bool) (ao bo : Option Addr) (ca cb : Nat) (l : List Int) (ha : ∀ w, sat w R → Reads32 w ao l) (hb : ∀ w, sat w R → Reads32 w bo l) (hn : l.length < 4611686018427387904) :
    Calls Try.prog 30 #[numD P ao l.length ca, numD P bo l.length cb] w fun e w' => e = .returned (.bool true) ∧ sat w' R ∧ Below 0 w w' := by
  have hA := (hs.alloc (.cells #[.int .i64 1, .int .i64 0, .bool P, .slice ao l.length ca, .string ⟨#[]⟩, .slice none 0 0, .slice none 0 0] 54)).alloc (.cells #[.int .i64 1, .int .i64 0, .bool P, .slice bo l.length cb, .string ⟨#[]⟩, .slice none 0 0, .slice none 0 0] 54)
  have hb2 : Below 0 w ((w.alloc (.cells #[.int .i64 1, .int .i64 0, .bool P, .slice ao l.length ca, .string ⟨#[]⟩, .slice none 0 0, .slice none 0 0] 54)).alloc (.cells #[.int .i64 1, .int .i64 0, .bool P, .slice bo l.length cb, .string ⟨#[]⟩, .slice none 0 0, .slice none 0 0] 54)) := (Below.zero_alloc _ _).trans (Below.zero_alloc _ _)
  rw [World.size_alloc] at hA
  have hC := same_num hA P ao bo ca cb l (fun w h => ha w h.right.right) (fun w h => hb w h.right.right) hn
  have HX := Lib.hid hb2
  clear hb2 hs ha hb hA
  unfold numD
  go_enter Try.func30, Try.ntmps30
  go_wp2_with fail
  refine hC.mono ?_
  rintro e w3 ⟨rfl, h3, hb3⟩
  have b5 := (h3.left.cell 5).trans (show _ = some (Value.slice none 0 0) from rfl)
  have b6 := (h3.left.cell 6).trans (show _ = some (Value.slice none 0 0) from rfl)
  have a5 := (h3.right.left.cell 5).trans (show _ = some (Value.slice none 0 0) from rfl)
  have a6 := (h3.right.left.cell 6).trans (show _ = some (Value.slice none 0 0) from rfl)
  have HY := Lib.hid (And.intro h3.right.right (HX.out.trans hb3))
  clear hC h3 hb3
  go_wp2_with fail
  refine (same_all_nil _).mono ?_
  rintro e w' ⟨rfl, rfl⟩
  go_wp2_with fail
  refine (same_all_nil _).mono ?_
  rintro e w' ⟨rfl, rfl⟩
  go_wp2_with fail
  go_ret
  exact ⟨rfl, HY.out.1, HY.out.2⟩
end Go.Proofs.Ytanjiecefioffaa

/- SameAll of two rows of numbers. -/
namespace Go.Proofs.Ytanjiecefioffaa
open Go.RowKit

/-- A row of data that are numbers can be read here. -/
def ItemsIn (R : HP) (ao : Option Addr) (l : List Item) : Prop := ∀ w, sat w R → ∀ (k : Nat) t, l[k]? = some t →
  (∃ b, ao = some ⟨b, 0, none⟩ ∧ ∀ (j : Nat) u, (itemC t)[j]? = some u → w.cell? ⟨b, k * 7 + j, none⟩ = some u) ∧ Reads32 w t.2.1 (limbsOf t.1.natAbs)
def SiRel (W : World) (R : HP) (n : Nat) (i : Value) (wr : World) : Prop := ∃ k : Nat, k ≤ n ∧ i = .int .i64 k ∧ sat wr R ∧ Below 0 W wr
set_option maxRecDepth 100000 in
set_option maxHeartbeats 2000000 in
theorem same_items {w : World} {R : HP} (hs : sat w R) (ao bo : Option Addr) (ca cb n : Nat) (xs ys : List Item) (hx : ItemsIn R ao xs) (hy : ItemsIn R bo ys) (hn : xs.length = n) (hv : xs.map (·.1) = ys.map (·.1)) (hb : n ≤ 20000)
    (hl : ∀ t ∈ xs, (limbsOf t.1.natAbs).length < 4611686018427387904) :
    Calls Try.prog 43 #[.slice ao n ca, .slice bo n cb] w fun e w' => e = .returned (.bool true) ∧ sat w' R ∧ Below 0 w w' := by
  have HX := Lib.hid (And.intro hs (And.intro hx (And.intro hy (And.intro hn (And.intro hv hl)))))
  clear hs hx hy hn hv hl
  go_enter Try.func43, Try.ntmps43
  go_wp2_with fail
  go_loopw [5] (SiRel w R n) (fun i _ => n - (intOf i).toNat)
  case atStart => exact ⟨0, Nat.zero_le _, rfl, HX.out.1, Below.refl _ _⟩
  case round =>
    obtain ⟨k, hk, rfl, hs, hb2⟩ := hrel
    by_cases hlt : k < n
    · obtain ⟨x, ex⟩ : ∃ x, xs[k]? = some x := ⟨_, List.getElem?_eq_getElem (by have := HX.out.2.2.2.1; omega)⟩
      have hlen : xs.length = ys.length := by have := congrArg List.length HX.out.2.2.2.2.1; simpa using this
      obtain ⟨y, ey⟩ : ∃ y, ys[k]? = some y := ⟨_, List.getElem?_eq_getElem (by have := HX.out.2.2.2.1; omega)⟩
      have hxy : x.1 = y.1 := by
        have := congrArg (·[k]?) HX.out.2.2.2.2.1
        simp only [List.getElem?_map, ex, ey, Option.map_some, Option.some.injEq] at this
        exact this
      obtain ⟨⟨bx, rfl, hcx⟩, _⟩ := HX.out.2.1 wr hs k x ex
      obtain ⟨⟨bY, rfl, hcy⟩, _⟩ := HX.out.2.2.1 wr hs k y ey
      have hS := fun m => same_numD (hs.drewN m) (decide (x.1 < 0)) x.2.1 y.2.1 x.2.2 y.2.2 (limbsOf x.1.natAbs) (fun w h => (HX.out.2.1 w h k x ex).2) (fun w h => by rw [hxy]; exact (HX.out.2.2.1 w h k y ey).2) (HX.out.2.2.2.2.2 x (List.mem_of_getElem? ex))
      unfold itemC at hcx hcy
      rw [← hxy] at hcy
      unfold numD at hS
      obtain ⟨nl, hnl⟩ : ∃ nl, (limbsOf x.1.natAbs).length = nl := ⟨_, rfl⟩
      obtain ⟨P, hP⟩ : ∃ P, decide (x.1 < 0) = P := ⟨_, rfl⟩
      rw [hnl, hP] at hcx hcy
      simp only [hnl, hP] at hS
      have x0 : wr.cell? ⟨bx, k * 7, none⟩ = some (.int .i64 1) := hcx 0 _ rfl
      have x1 : wr.cell? ⟨bx, k * 7 + 1, none⟩ = some (.int .i64 0) := hcx 1 _ rfl
      have x2 : wr.cell? ⟨bx, k * 7 + 2, none⟩ = some (.bool P) := hcx 2 _ rfl
      have x3 : wr.cell? ⟨bx, k * 7 + 3, none⟩ = some (.slice x.2.1 nl x.2.2) := hcx 3 _ rfl
      have x4 : wr.cell? ⟨bx, k * 7 + 4, none⟩ = some (.string ⟨#[]⟩) := hcx 4 _ rfl
      have x5 : wr.cell? ⟨bx, k * 7 + 5, none⟩ = some (.slice none 0 0) := hcx 5 _ rfl
      have x6 : wr.cell? ⟨bx, k * 7 + 6, none⟩ = some (.slice none 0 0) := hcx 6 _ rfl
      have y0 : wr.cell? ⟨bY, k * 7, none⟩ = some (.int .i64 1) := hcy 0 _ rfl
      have y1 : wr.cell? ⟨bY, k * 7 + 1, none⟩ = some (.int .i64 0) := hcy 1 _ rfl
      have y2 : wr.cell? ⟨bY, k * 7 + 2, none⟩ = some (.bool P) := hcy 2 _ rfl
      have y3 : wr.cell? ⟨bY, k * 7 + 3, none⟩ = some (.slice y.2.1 nl y.2.2) := hcy 3 _ rfl
      have y4 : wr.cell? ⟨bY, k * 7 + 4, none⟩ = some (.string ⟨#[]⟩) := hcy 4 _ rfl
      have y5 : wr.cell? ⟨bY, k * 7 + 5, none⟩ = some (.slice none 0 0) := hcy 5 _ rfl
      have y6 : wr.cell? ⟨bY, k * 7 + 6, none⟩ = some (.slice none 0 0) := hcy 6 _ rfl
      have HF := Lib.hid (And.intro hb2 hS)
      have hG : ∀ w', sat w' R → (w'.cell? ⟨bx, k * 7, none⟩ = some (.int .i64 1) ∧ w'.cell? ⟨bx, k * 7 + 1, none⟩ = some (.int .i64 0) ∧ w'.cell? ⟨bx, k * 7 + 2, none⟩ = some (.bool P) ∧ w'.cell? ⟨bx, k * 7 + 3, none⟩ = some (.slice x.2.1 nl x.2.2) ∧ w'.cell? ⟨bx, k * 7 + 4, none⟩ = some (.string ⟨#[]⟩) ∧ w'.cell? ⟨bx, k * 7 + 5, none⟩ = some (.slice none 0 0) ∧ w'.cell? ⟨bx, k * 7 + 6, none⟩ = some (.slice none 0 0) ∧ w'.cell? ⟨bY, k * 7, none⟩ = some (.int .i64 1) ∧ w'.cell? ⟨bY, k * 7 + 1, none⟩ = some (.int .i64 0) ∧ w'.cell? ⟨bY, k * 7 + 2, none⟩ = some (.bool P) ∧ w'.cell? ⟨bY, k * 7 + 3, none⟩ = some (.slice y.2.1 nl y.2.2) ∧ w'.cell? ⟨bY, k * 7 + 4, none⟩ = some (.string ⟨#[]⟩) ∧ w'.cell? ⟨bY, k * 7 + 5, none⟩ = some (.slice none 0 0) ∧ w'.cell? ⟨bY, k * 7 + 6, none⟩ = some (.slice none 0 0)) := by
        intro w' h
        obtain ⟨⟨b1, e1, hc1⟩, _⟩ := HX.out.2.1 w' h k x ex
        obtain ⟨⟨b2, e2, hc2⟩, _⟩ := HX.out.2.2.1 w' h k y ey
        cases e1; cases e2
        unfold itemC at hc1 hc2
        rw [← hxy, hnl, hP] at hc2
        rw [hnl, hP] at hc1
        exact ⟨hc1 0 _ rfl, hc1 1 _ rfl, hc1 2 _ rfl, hc1 3 _ rfl, hc1 4 _ rfl, hc1 5 _ rfl, hc1 6 _ rfl, hc2 0 _ rfl, hc2 1 _ rfl, hc2 2 _ rfl, hc2 3 _ rfl, hc2 4 _ rfl, hc2 5 _ rfl, hc2 6 _ rfl⟩
      have HG := Lib.hid hG
      clear hG hnl hP
      clear hs hb2 hS hcx hcy ex ey hxy hlen
      go_wp2_with fail
      go_region_held3 (fun w' => w'.cell? ⟨bx, k * 7, none⟩ = some (.int .i64 1) ∧ w'.cell? ⟨bx, k * 7 + 1, none⟩ = some (.int .i64 0) ∧ w'.cell? ⟨bx, k * 7 + 2, none⟩ = some (.bool P) ∧ w'.cell? ⟨bx, k * 7 + 3, none⟩ = some (.slice x.2.1 nl x.2.2) ∧ w'.cell? ⟨bx, k * 7 + 4, none⟩ = some (.string ⟨#[]⟩) ∧ w'.cell? ⟨bx, k * 7 + 5, none⟩ = some (.slice none 0 0) ∧ w'.cell? ⟨bx, k * 7 + 6, none⟩ = some (.slice none 0 0) ∧ w'.cell? ⟨bY, k * 7, none⟩ = some (.int .i64 1) ∧ w'.cell? ⟨bY, k * 7 + 1, none⟩ = some (.int .i64 0) ∧ w'.cell? ⟨bY, k * 7 + 2, none⟩ = some (.bool P) ∧ w'.cell? ⟨bY, k * 7 + 3, none⟩ = some (.slice y.2.1 nl y.2.2) ∧ w'.cell? ⟨bY, k * 7 + 4, none⟩ = some (.string ⟨#[]⟩) ∧ w'.cell? ⟨bY, k * 7 + 5, none⟩ = some (.slice none 0 0) ∧ w'.cell? ⟨bY, k * 7 + 6, none⟩ = some (.slice none 0 0)) (first | exact k9 | go_keep)
        (first
          | (go_at_call 30; refine (HF.out.2 1).mono ?_; rintro e w3 ⟨rfl, h3, hb3⟩; have k9 := HG.out _ h3))
      have HQ := Lib.hid (And.intro h3 ((HF.out.1.trans (drewN_below0 wr 1)).trans hb3))
      clear k9 x0 x1 x2 x3 x4 x5 x6 y0 y1 y2 y3 y4 y5 y6
      clear h3 hb3
      go_wp2_with fail
      go_roundw
      case rel => exact ⟨k + 1, by omega, by go_num, HQ.out.1, HQ.out.2⟩
      case measure => simp [intOf]; omega
    · obtain rfl : k = n := by omega
      have hge : (k : Int) ≤ k := by omega
      have HF := Lib.hid (And.intro hs hb2)
      clear hs hb2
      go_wp2_with fail
      go_ret
      exact ⟨rfl, HF.out.1, HF.out.2⟩
end Go.Proofs.Ytanjiecefioffaa

/- What lies in a row of numbers' data, with their limbs beside it, is read. -/
namespace Go.Proofs.Ytanjiecefioffaa
open Go.RowKit

theorem itemsC_get : ∀ (l : List Item) (k : Nat) (t : Item), l[k]? = some t → ∀ (j : Nat) u, (itemC t)[j]? = some u → (itemsC l)[k * 7 + j]? = some u
  | [], k, t, h, _, _, _ => by simp at h
  | x :: l, 0, t, h, j, u, hu => by
    simp at h
    subst h
    unfold itemsC
    rw [List.flatMap_cons, Nat.zero_mul, Nat.zero_add, List.getElem?_append_left (List.getElem?_eq_some_iff.1 hu).1]
    exact hu
  | x :: l, k + 1, t, h, j, u, hu => by
    rw [List.getElem?_cons_succ] at h
    have ih := itemsC_get l k t h j u hu
    unfold itemsC at ih ⊢
    rw [List.flatMap_cons, List.getElem?_append_right (by show 7 ≤ _; omega)]
    rw [show (k + 1) * 7 + j - (itemC x).length = k * 7 + j by show (k + 1) * 7 + j - 7 = _; omega]
    exact ih
theorem mags_get : ∀ (l : List Item) (k : Nat) (t : Item) {R : HP} {w : World}, l[k]? = some t → sat w (magsP l * R) → ∃ R', sat w (magP t * R')
  | [], k, t, R, w, h, _ => by simp at h
  | x :: l, 0, t, R, w, h, hs => by
    simp at h
    subst h
    exact ⟨magsP l * R, (hs : sat w (magP x * magsP l * R)).perm (by ac_rfl)⟩
  | x :: l, k + 1, t, R, w, h, hs => by
    rw [List.getElem?_cons_succ] at h
    exact mags_get l k t (R := magP x * R) h ((hs : sat w (magP x * magsP l * R)).perm (by ac_rfl))
theorem items_in {ao : Option Addr} {n c : Nat} {items : List Item} (hl : items.length = n) (R : HP) : ItemsIn (own 54 7 (.slice ao n c) n (itemsC items) * (magsP items * R)) ao items := by
  intro w hs k t ht
  have hk := (List.getElem?_eq_some_iff.1 ht).1
  refine ⟨?_, ?_⟩
  · obtain ⟨b, cap, hb, _, _, hr⟩ := hs.own_some (by omega)
    cases hb
    exact ⟨b, rfl, fun j u hu => hr.row_cell (itemsC_get items k t ht j u hu)⟩
  · obtain ⟨R', hm⟩ := mags_get items k t ht hs.right
    intro j x hx
    have hj := (List.getElem?_eq_some_iff.1 hx).1
    have hm' : sat w (own 70 1 (.slice t.2.1 (limbsOf t.1.natAbs).length t.2.2) (limbsOf t.1.natAbs).length ((limbsOf t.1.natAbs).map u32v) * R') := hm
    obtain ⟨b, cap, hb, _, _, hr⟩ := hm'.own_some (by omega)
    simp only [Value.slice.injEq] at hb
    rw [hb.1]
    refine ⟨_, rfl, ?_⟩
    have hadd : (⟨b, 0, none⟩ : Addr).add j = ⟨b, j, none⟩ := by unfold Addr.add; split <;> simp_all
    rw [hadd]
    exact hr.row_cell (by rw [List.getElem?_map, hx]; rfl)
end Go.Proofs.Ytanjiecefioffaa

/- value.Store: chain, List, Vector. -/
namespace Go.Proofs.Ytanjiecefioffaa
open Go.RowKit

section
variable {w : World} {X : StV} {V : HV} {S : HS} {Y : StS} {R : HP}
set_option maxRecDepth 100000 in
set_option maxHeartbeats 1000000 in
theorem StW.chain_no (h : StW w X V S Y R) (last : Int) (ao : Option Addr) (cap : Nat) (xs : List Int) (hx : WordsIn R ao xs) (hu : ∀ x ∈ xs, 0 ≤ x ∧ x < 18446744073709551616) (hn : xs.length < 4611686018427387904)
    (hm : xs.all (S.may ·) = true) (hno : (S.size - S.ws.length) / 3 < xs.length) :
    Calls Try.prog 51 #[.pointer (some ⟨X.g, 0, none⟩), .int .u64 last, .slice ao xs.length cap] w (StLaid X V.g S Y R 0 false w) := by
  have c0 := h.c0
  have hul := h.ok.used
  have hsz := h.ok.hi
  have hMay := fun m : Nat => (h.drewN m).May ao cap xs (hx _ h.s.right.right) hu hn
  rw [hm] at hMay
  have hS := fun n : Nat => (h.drewN n).hw.v.Size
  have hU := fun n : Nat => (h.drewN n).hw.v.Used
  have g1 : IntKind.i64.wrap ((S.size : Int) - S.ws.length) = (S.size : Int) - S.ws.length := IntWalk.i64_in _ (by omega)
  have e1 : decide ((((S.size : Int) - S.ws.length) / 3) < (xs.length : Int)) = true := by simp; omega
  have HH := Lib.hid h
  clear h hm hno
  go_enter Try.func51, Try.ntmps51
  go_wp2_with fail
  go_quiet ((first
    | (go_at_call 80; exact Calls.said (hMay _))
    | (go_at_call 53; exact Calls.said (hS _))
    | (go_at_call 25; exact Calls.said (hU _))))
  go_wp2_with fail
  go_ret2
  exact ⟨rfl, drewN_below0 _ _, V, rfl, HH.out.drewN _⟩

def ChainRel (w : World) (X : StV) (g : Nat) (S : HS) (Y : StS) (R : HP) (last : Int) (xs : List Int) (v i : Value) (wr : World) : Prop :=
  ∃ (k : Nat) (V : HV), k ≤ xs.length ∧ v = .int .u64 (S.chain last (xs.drop k)).2 ∧ i = .int .i64 ((k : Int) - 1) ∧ V.g = g ∧ StW wr X V (S.chain last (xs.drop k)).1 Y R ∧ Below 0 w wr
set_option maxRecDepth 100000 in
set_option maxHeartbeats 1000000 in
theorem StW.chain_yes (h : StW w X V S Y R) (last : Int) (ao : Option Addr) (cap : Nat) (xs : List Int) (hx : WordsIn R ao xs) (hu : ∀ x ∈ xs, 0 ≤ x ∧ x < 18446744073709551616) (hn : xs.length < 4611686018427387904)
    (hl : 0 ≤ last ∧ last < 18446744073709551616) (hml : S.may last = true) (hm : xs.all (S.may ·) = true) (hok : xs.length ≤ (S.size - S.ws.length) / 3) :
    Calls Try.prog 51 #[.pointer (some ⟨X.g, 0, none⟩), .int .u64 last, .slice ao xs.length cap] w (StLaid X V.g (S.chain last xs).1 Y R (S.chain last xs).2 true w) := by
  have c0 := h.c0
  have hul := h.ok.used
  have hsz := h.ok.hi
  have hMay := fun m : Nat => (h.drewN m).May ao cap xs (hx _ h.s.right.right) hu hn
  rw [hm] at hMay
  have hS := fun n : Nat => (h.drewN n).hw.v.Size
  have hU := fun n : Nat => (h.drewN n).hw.v.Used
  have g1 : IntKind.i64.wrap ((S.size : Int) - S.ws.length) = (S.size : Int) - S.ws.length := IntWalk.i64_in _ (by omega)
  have g2 : IntKind.i64.wrap ((xs.length : Int) - 1) = (xs.length : Int) - 1 := IntWalk.i64_in _ (by omega)
  have e1 : decide ((((S.size : Int) - S.ws.length) / 3) < (xs.length : Int)) = false := by simp; omega
  have HH := Lib.hid (And.intro h (And.intro hm (And.intro hml hok)))
  clear h hm hml hok
  go_enter Try.func51, Try.ntmps51
  go_wp2_with fail
  go_quiet ((first
    | (go_at_call 80; exact Calls.said (hMay _))
    | (go_at_call 53; exact Calls.said (hS _))
    | (go_at_call 25; exact Calls.said (hU _))))
  go_wp2_with fail
  go_loopw [1, 8] (ChainRel w X V.g S Y R last xs) (fun _ i _ => (intOf i + 1).toNat)
  case atStart => exact ⟨xs.length, V, Nat.le_refl _, by rw [List.drop_length]; rfl, rfl, rfl, by rw [List.drop_length]; exact HH.out.1.drewN _, drewN_below0 _ _⟩
  case round =>
    obtain ⟨k, V1, hk, rfl, rfl, hg1, h1, hb1⟩ := hrel
    cases k with
    | zero =>
      have b1 : decide ((((0 : Nat) : Int) - 1) ≥ 0) = false := by decide
      have HF := Lib.hid (And.intro hg1 (And.intro h1 hb1))
      clear h1 hb1 hg1
      go_wp2_with fail
      go_ret2
      have h2 := HF.out.2.1
      rw [List.drop_zero] at h2
      exact ⟨rfl, HF.out.2.2, V1, HF.out.1, h2⟩
    | succ k =>
      obtain ⟨x, ex⟩ : ∃ x, xs[k]? = some x := ⟨_, List.getElem?_eq_getElem (by omega)⟩
      obtain ⟨a, rfl, hcx⟩ := hx wr h1.s.right.right k x ex
      have hdr : xs.drop k = x :: xs.drop (k + 1) := by
        rw [List.drop_eq_getElem_cons (by omega)]
        congr 1
        exact (List.getElem?_eq_some_iff.1 ex).2
      obtain ⟨hh, hm, hml, hok⟩ := HH.out
      have hlen := chain_len S last (xs.drop (k + 1))
      rw [List.length_drop] at hlen
      have hsu := chain_snd_u (S := S) hl (xs.drop (k + 1)) (by rw [List.length_drop]; omega)
      have hcons := h1.Cons_yes x (S.chain last (xs.drop (k + 1))).2 (hu x (List.mem_of_getElem? ex)) hsu ⟨chain_may S last (List.all_eq_true.1 hm x (List.mem_of_getElem? ex)) _, chain_snd hh.ok.wf.len hml _⟩ (by
        unfold HS.room
        simp only [Bool.and_eq_true, decide_eq_true_eq]
        rw [hlen.1, hlen.2.1]
        omega)
      have hce : (S.chain last (xs.drop k)) = ((S.chain last (xs.drop (k + 1))).1.cons x (S.chain last (xs.drop (k + 1))).2, 4 * (((S.chain last (xs.drop (k + 1))).1.ws.length : Nat) : Int)) := by rw [hdr]; rfl
      have HC := Lib.hid (And.intro hcons (And.intro hce (And.intro hg1 hb1)))
      have b1 : decide ((((k + 1 : Nat) : Int) - 1) ≥ 0) = true := by rw [decide_eq_true_eq]; omega
      have b2 : (((k + 1 : Nat) : Int) - 1) = (k : Int) := by omega
      rw [b2] at b1 ⊢
      clear hcons hce hg1 hb1 h1 hdr hlen hsu hh hm hml hok b2
      go_wp2_with fail
      refine HC.out.1.mono ?_
      rintro e w7 ⟨rfl, hb7, V7, hg7, h7⟩
      have HD := Lib.hid (And.intro hb7 (And.intro hg7 h7))
      clear hb7 hg7 h7
      go_wp2_with fail
      go_roundw
      case rel =>
        refine ⟨k, V7, by omega, by rw [HC.out.2.1], by go_num, HD.out.2.1.trans HC.out.2.2.1, ?_, HC.out.2.2.2.trans HD.out.1⟩
        rw [HC.out.2.1]
        exact HD.out.2.2
      case measure => simp [intOf]
set_option maxRecDepth 100000 in
theorem StW.List_any (p : Int) (ok : Bool) (S' : HS) (ao : Option Addr) (n cap : Nat)
    (hc : Calls Try.prog 51 #[.pointer (some ⟨X.g, 0, none⟩), .int .u64 10, .slice ao n cap] w (StLaid X V.g S' Y R p ok w)) :
    Calls Try.prog 20 #[.pointer (some ⟨X.g, 0, none⟩), .slice ao n cap] w (StLaid X V.g S' Y R p ok w) := by
  have HL := Lib.hid hc
  clear hc
  go_enter Try.func20, Try.ntmps20
  go_wp2_with fail
  refine HL.out.mono ?_
  rintro e w7 ⟨rfl, hb7, V7, hg7, h7⟩
  go_wp2_with fail
  go_ret2
  exact ⟨rfl, hb7, V7, hg7, h7⟩
set_option maxRecDepth 100000 in
theorem StW.Vector_any (p : Int) (ok : Bool) (S' : HS) (ao : Option Addr) (n cap : Nat)
    (hc : Calls Try.prog 52 #[.pointer (some ⟨X.g, 0, none⟩), .int .i64 2, .slice ao n cap] w (StLaid X V.g S' Y R p ok w)) :
    Calls Try.prog 21 #[.pointer (some ⟨X.g, 0, none⟩), .slice ao n cap] w (StLaid X V.g S' Y R p ok w) := by
  have HL := Lib.hid hc
  clear hc
  go_enter Try.func21, Try.ntmps21
  go_wp2_with fail
  refine HL.out.mono ?_
  rintro e w7 ⟨rfl, hb7, V7, hg7, h7⟩
  go_wp2_with fail
  go_ret2
  exact ⟨rfl, hb7, V7, hg7, h7⟩
end
end Go.Proofs.Ytanjiecefioffaa

/- tandemlaw04.awake; ValueFixes. -/
namespace Go.Proofs.Ytanjiecefioffaa
open Go.RowKit

def nameA : ByteArray := ⟨#[97]⟩
theorem bytesA : bytesOf nameA = [97] := by decide

set_option maxRecDepth 100000 in
set_option maxHeartbeats 1000000 in
theorem awake_any (w : World) {R : HP} (hR : sat w R) : Calls Try.prog 16 #[] w fun e w' => e = .returned (.bool true) ∧ sat w' R ∧ Below 0 w w' := by
  have hF := Fix_any w (-1) (by decide) (by decide)
  have f1 : fixW (-1) = 18446744073709551613 := by decide
  have f2 : fixB (-1) = true := by decide
  rw [f1, f2] at hF
  go_enter Try.func16, Try.ntmps16
  go_wp2_with fail
  refine hF.mono ?_
  rintro e w1 ⟨rfl, j, rfl⟩
  go_wp2_with fail
  refine (StNew_good 50 (hR.drewN j) (by decide) (by decide)).mono ?_
  rintro e w2 ⟨X, V, rfl, h2, hb2⟩
  go_wp2_with fail
  have hok : symOk (HS.new 50) (bytesOf nameA) = true := by rw [bytesA]; decide
  refine (h2.Intern_new rfl nameA rfl (by decide) hok (by decide)).mono ?_
  rintro e w3 ⟨rfl, hb3, X3, V3, hx3, hm3, hg3, h3⟩
  rw [← hx3]
  have HX := Lib.hid (And.intro hx3 (And.intro hm3 hg3))
  clear hx3 hm3 hg3
  go_wp2_with fail
  refine (h3.Intern_old rfl nameA _ rfl).mono ?_
  rintro e w4 ⟨rfl, j4, rfl⟩
  go_wp2_with fail
  go_ret
  exact ⟨rfl, h3.s.right.right, (((drewN_below0 w j).trans hb2).trans hb3).trans (drewN_below0 _ _)⟩

set_option maxRecDepth 100000 in
theorem valueFixes_any (w : World) {R : HP} (hR : sat w R) (n x : Int) (n0 : -9223372036854775808 ≤ n) (n1 : n < 9223372036854775808) (x0 : 0 ≤ x) (x1 : x < 18446744073709551616) :
    Calls Try.prog 3 #[.int .i64 n, .int .u64 x] w fun e w' => e = .returned (.bool true) ∧ sat w' R ∧ Below 0 w w' := by
  have h1 := fun w => Fix_any w n n0 n1
  have h2 := fun w => rFix_any w n n0 n1
  have h3 := fun w => Int_any w x x0 x1
  have h4 := fun w => rInt_any w x x0 x1
  go_enter Try.func3, Try.ntmps3
  go_wp2_with fail
  refine (h1 _).mono ?_
  rintro e w1 ⟨rfl, j1, rfl⟩
  go_wp2_with fail
  refine (h2 _).mono ?_
  rintro e w1 ⟨rfl, j2, rfl⟩
  go_wp2_with fail
  refine (h3 _).mono ?_
  rintro e w1 ⟨rfl, j3, rfl⟩
  go_wp2_with fail
  refine (h4 _).mono ?_
  rintro e w1 ⟨rfl, j4, rfl⟩
  go_wp2_with fail
  refine (awake_any _ (hR.drewN _)).mono ?_
  rintro e w5 ⟨rfl, h5, hb5⟩
  go_wp2_with fail
  go_ret
  exact ⟨rfl, h5, (drewN_below0 w _).trans hb5⟩

theorem u64_wf {x : Int} (h : (Lit.int .u64 x).wf = true) : 0 ≤ x ∧ x < 18446744073709551616 := by
  unfold Lit.wf at h
  rw [Bool.and_eq_true] at h
  have h1 := of_decide_eq_true h.1
  have h2 := of_decide_eq_true h.2
  rw [show IntKind.u64.min = 0 from rfl] at h1
  rw [show IntKind.u64.max = 18446744073709551615 from rfl] at h2
  omega
theorem i64_wf {x : Int} (h : (Lit.int .i64 x).wf = true) : -9223372036854775808 ≤ x ∧ x < 9223372036854775808 := by
  unfold Lit.wf at h
  rw [Bool.and_eq_true] at h
  have h1 := of_decide_eq_true h.1
  have h2 := of_decide_eq_true h.2
  rw [show IntKind.i64.min = -9223372036854775808 from rfl] at h1
  rw [show IntKind.i64.max = 9223372036854775807 from rfl] at h2
  omega
theorem valueFixes_walk (a0 a1 : Int) (w0 : (Lit.int .i64 a0).wf = true) (w1 : (Lit.int .u64 a1).wf = true) (w : World) :
    Calls Try.prog 3 #[.int .i64 a0, .int .u64 a1] w fun e w' => e = .returned (.bool true) ∧ Below w.heap.size w w' := by
  have h0 := i64_wf w0
  have h1 := u64_wf w1
  refine (valueFixes_any w (sat_whole w) a0 a1 (by omega) (by omega) (by omega) (by omega)).mono ?_
  rintro e w' ⟨rfl, hs, hb⟩
  exact ⟨rfl, below_of_whole' hs hb⟩
end Go.Proofs.Ytanjiecefioffaa

/- Lists and vectors, plainly. Rows of integers that came in, with their room; the words of ValueLists. -/
/- Lists and vectors, plainly. -/
namespace Go.Proofs.Ytanjiecefioffaa
open Go.RowKit

/-- A list of these words lies here. -/
def ListIn (T : HS) : List Int → Int → Prop
  | [], l => l = 10
  | x :: xs, l => T.is l = true ∧ (0 ≤ l ∧ l < 18446744073709551616) ∧ (l / 4).toNat + 3 ≤ T.ws.length ∧ T.head l = headerOf 1 2 0 ∧ T.ws.getD ((l / 4).toNat + 1) 0 = x ∧ ListIn T xs (T.ws.getD ((l / 4).toNat + 2) 0)
theorem ListIn.ext {S S' : HS} (e : Ext S S') : ∀ (xs : List Int) (l : Int), ListIn S xs l → ListIn S' xs l
  | [], _, h => h
  | x :: xs, l, ⟨h1, h2, h3, h4, h5, h6⟩ => by
    have e1 : S'.head l = S.head l := by
      rw [is_head h1, is_head (e.is h1)]
      exact e.at (by omega)
    refine ⟨e.is h1, h2, ?_, by rw [e1]; exact h4, by rw [e.at (by omega)]; exact h5, ?_⟩
    · obtain ⟨m, hm⟩ := e.ws
      rw [hm, List.length_append]; omega
    · rw [e.at (by omega)]
      exact ListIn.ext e xs _ h6
theorem chain_list {S : HS} (hl : S.bs.length = S.ws.length) : ∀ (xs : List Int), S.ws.length + 3 * xs.length ≤ 1048576 → ListIn (S.chain 10 xs).1 xs (S.chain 10 xs).2
  | [], _ => rfl
  | x :: xs, hb => by
    rw [List.length_cons] at hb
    have ih := chain_list hl xs (by omega)
    have hcl := chain_len S 10 xs
    have hcb := chain_bs hl 10 xs
    unfold HS.chain
    generalize hT : (S.chain 10 xs).1 = T at *
    generalize hx : (S.chain 10 xs).2 = l at *
    obtain ⟨c1, _, _⟩ := cons_len T x l
    obtain ⟨g1, g2⟩ := cons_get (S := T) x l
    have e4 : (4 * (T.ws.length : Int) / 4).toNat = T.ws.length := by omega
    refine ⟨part_is hcb 1 2 0 2 [x, l] 2, by omega, by rw [e4, c1]; omega, part_head hcb 1 2 0 2 [x, l] 2, by rw [e4]; exact g1, ?_⟩
    rw [e4]
    simp only [g2]
    exact ListIn.ext (cons_ext T x l) xs l ih
/-- The rests of a list. -/
def restP (T : HS) (l : Int) : Nat → Int
  | 0 => l
  | k + 1 => T.getAt (restP T l k) 1
theorem rest_in {T : HS} {xs : List Int} {l : Int} (h : ListIn T xs l) : ∀ k, k ≤ xs.length → ListIn T (xs.drop k) (restP T l k)
  | 0, _ => by rw [List.drop_zero]; exact h
  | k + 1, hk => by
    have ih := rest_in h k (by omega)
    rw [List.drop_eq_getElem_cons (by omega)] at ih
    obtain ⟨_, h2, _, h4, _, h6⟩ := ih
    show ListIn T (xs.drop (k + 1)) (T.getAt (restP T l k) 1)
    rw [(get_field h4 h2.1).2]
    exact h6
theorem list_chain {T : HS} {xs : List Int} {l : Int} (h : ListIn T xs l) (hx : ∀ x ∈ xs, T.num x = some (intW x)) : Chain T (restP T l) (fun k => intW (xs.getD k 0)) xs.length ∧ restP T l xs.length = 10 ∧ ∀ k, k < xs.length → T.getAt (restP T l k) 0 = xs.getD k 0 := by
  have hat : ∀ k, k < xs.length → (0 ≤ restP T l k ∧ restP T l k < 18446744073709551616) ∧ T.head (restP T l k) = headerOf 1 2 0 ∧ T.getAt (restP T l k) 0 = xs.getD k 0 := by
    intro k hk
    have ih := rest_in h k (by omega)
    rw [List.drop_eq_getElem_cons hk] at ih
    obtain ⟨_, h2, _, h4, h5, _⟩ := ih
    refine ⟨h2, h4, ?_⟩
    rw [(get_field h4 h2.1).1, h5, List.getD_eq_getElem?_getD, List.getElem?_eq_getElem hk]; rfl
  have hlast : restP T l xs.length = 10 := by
    have := rest_in h xs.length (Nat.le_refl _)
    rw [List.drop_length] at this
    exact this
  refine ⟨⟨?_, fun k hk => (pair_is (hat k hk).2.1).1, ?_, fun k _ => rfl⟩, hlast, fun k hk => (hat k hk).2.2⟩
  · intro k hk
    rcases Nat.lt_or_ge k xs.length with h1 | h1
    · exact (hat k h1).1
    · obtain rfl : k = xs.length := by omega
      rw [hlast]; decide
  · intro k hk
    rw [(hat k hk).2.2, List.getD_eq_getElem?_getD, List.getElem?_eq_getElem hk]
    exact hx _ (List.getElem_mem hk)
/-! ### A vector -/
theorem vec_head (n : Nat) (h : n ≤ 1048576) : tagH (headerOf 2 n 0) = n ∧ rawH (headerOf 2 n 0) = 0 ∧ kindH (headerOf 2 n 0) = 2 := header_tag (kind := 2) (t := n) (r := 0) (by decide) (by decide) h (by decide)
theorem vec_in {S : HS} (hl : S.bs.length = S.ws.length) (xs : List Int) (hn : xs.length ≤ 1048576) :
    (S.part 2 xs.length 0 2 xs xs.length).shape (4 * (S.ws.length : Int)) 2 (-1) 0 = true ∧ (S.part 2 xs.length 0 2 xs xs.length).tag (4 * (S.ws.length : Int)) = xs.length ∧
    ∀ k, k < xs.length → (S.part 2 xs.length 0 2 xs xs.length).getAt (4 * (S.ws.length : Int)) k = xs.getD k 0 := by
  have hh := part_head hl 2 xs.length 0 2 xs xs.length
  obtain ⟨g1, g2, g3⟩ := vec_head xs.length hn
  have et : (S.part 2 xs.length 0 2 xs xs.length).tag (4 * (S.ws.length : Int)) = xs.length := by unfold HS.tag; rw [hh]; exact g1
  have er : (S.part 2 xs.length 0 2 xs xs.length).raw (4 * (S.ws.length : Int)) = 0 := by unfold HS.raw; rw [hh]; exact g2
  have ek : (S.part 2 xs.length 0 2 xs xs.length).kind (4 * (S.ws.length : Int)) = 2 := by unfold HS.kind; rw [hh]; exact g3
  refine ⟨?_, et, ?_⟩
  · unfold HS.shape
    rw [er, ek]; simp
  · intro k hk
    unfold HS.getAt HS.get
    rw [if_pos (by rw [et]; omega)]
    simp only
    rw [show fieldAt (4 * (S.ws.length : Int)) 0 (k : Int) = S.ws.length + (k + 1) by unfold fieldAt; omega]
    unfold HS.part
    simp only
    rw [getD_app_right, List.getD_eq_getElem?_getD, List.getElem?_cons_succ, List.take_length, List.getElem?_append_left hk, ← List.getD_eq_getElem?_getD]
end Go.Proofs.Ytanjiecefioffaa

/- Rows of integers that came in, with their room; the words of ValueLists. -/
namespace Go.Proofs.Ytanjiecefioffaa
open Go.RowKit Go.ChangeShapes Go.WideShapes

structure IsRowC (k : IntKind) (w : World) (ao : Option Addr) (len cap : Nat) (zs : List Int) : Prop where
  row : IsRowB k w ao len cap zs
  lc : len ≤ cap
section
variable {H : Type} {enc : TypeId × Value → H} {W : World} {base : Nat} {spare : Nat → Bool} {held : Bool} {fuel : Nat}
theorem open_rowC {t e : TypeId} {k : IntKind} (ht : Try.prog.underlying t = some (.slice e)) (he : Try.prog.underlying e = some (.int k)) (hc : Try.prog.cellsOf e = 1) (hb : Try.prog.bytesOf e = 8)
    {ao : Option Addr} {len cap : Nat} {d : DataW H} {p : List MemPlace} (h : DataW.trod enc Try.prog W base spare held fuel t [.slice ao len cap] = some (d, p)) (hw : ∀ n ∈ d.weights Try.prog t, n ≤ reachBytes) :
    ∃ zs : List Int, IsRowC k W ao len cap zs := by
  obtain ⟨zs, hz⟩ := open_rowB ht he hc hb h hw
  refine ⟨zs, hz, ?_⟩
  rcases open_ints ht he hc h with ⟨e0, _⟩ | ⟨a, len', cap', _, e0, _, hlc, _⟩
  · simp at e0
    obtain ⟨_, rfl, rfl⟩ := e0
    exact Nat.le_refl _
  · simp at e0
    obtain ⟨_, rfl, rfl⟩ := e0
    exact hlc
end
def itemL (x : Int) : Int := fixW (x.tmod 100000)
theorem tmodL_bd (x : Int) : -100000 < x.tmod 100000 ∧ x.tmod 100000 < 100000 := ⟨Int.lt_tmod_of_pos x (by decide), Int.tmod_lt_of_pos x (by decide)⟩
theorem itemL_ok (x : Int) : (0 ≤ itemL x ∧ itemL x < 18446744073709551616) ∧ itemL x % 4 = 1 ∧ intW (itemL x) = x.tmod 100000 := by
  have h := tmodL_bd x
  unfold itemL fixW
  rw [if_pos (by omega)]
  generalize x.tmod 100000 = y at *
  refine ⟨by omega, by omega, ?_⟩
  unfold intW
  rw [if_pos (by omega)]
  split <;> omega
theorem itemL_may (S : HS) (x : Int) : S.may (itemL x) = true := by
  have h := (itemL_ok x).2.1
  unfold HS.may mayB
  simp [h]
theorem itemL_num (S : HS) (x : Int) : S.num (itemL x) = some (intW (itemL x)) := by
  unfold HS.num
  rw [if_pos (itemL_ok x).2.1]
theorem fixB_item (x : Int) : fixB (x.tmod 100000) = true := by
  have h := tmodL_bd x
  unfold fixB
  rw [Bool.and_eq_true, decide_eq_true_eq, decide_eq_true_eq]
  omega
theorem listIn_bd {T : HS} {xs : List Int} {l : Int} (h : ListIn T xs l) : 0 ≤ l ∧ l < 18446744073709551616 := by
  cases xs with
  | nil => have : l = 10 := h; omega
  | cons x xs => exact h.2.1
def LjRel (T : HS) (l : Int) (n : Nat) (w6 : World) (x i : Value) (wr : World) : Prop := ∃ k j : Nat, k ≤ n ∧ i = .int .i64 k ∧ x = .int .u64 (restP T l k) ∧ wr = w6.drewN j
theorem intW_abs (x : Int) (h : 0 ≤ x ∧ x < 18446744073709551616) : (intW x).natAbs < 4294967296 ^ 2 := by
  unfold intW
  split <;> omega
theorem sat.left_pair {w : World} {P Q R : HP} (h : sat w (P * (Q * R))) : sat w (P * Q) := (show sat w (P * Q * R) from h.perm (by ac_rfl)).left
end Go.Proofs.Ytanjiecefioffaa
