/- tandemlaw10.awake. -/
import Derived.Test.YtkjfplldfjmbaaaPackWr
import Derived.Test.YtkjfplldfjmbaaaBytesLaw
namespace Go.Proofs.Ytkjfplldfjmbaaa
open Go.RowKit
theorem WritePost.told {R : HP} {ps : List Pr} {w w' : World} {e : Ending} {q : Int} (h : WritePost R ps w e w') (ho : okPs ps 0 = some q) : ∃ v, e = .returned (.tuple #[v, .int .i64 0]) ∧ sat w' (own 5 1 v (writeB ps).length ((writeB ps).map bv) * R) ∧ Below 0 w w' := by
  unfold WritePost at h
  rw [ho, if_pos (show (some q).isSome = true from rfl)] at h
  exact h
theorem WritePost.refused {R : HP} {ps : List Pr} {w w' : World} {e : Ending} (h : WritePost R ps w e w') (ho : okPs ps 0 = none) : e = .returned (.tuple #[.slice none 0 0, .int .i64 1]) ∧ sat w' R ∧ Below 0 w w' := by
  unfold WritePost at h
  rw [ho, if_neg (by decide)] at h
  exact h
def dm5 : Dm := .mk 1 0 false [5] noT [] []
def pr5 : Pr := ⟨noT, 0, 0, false, [(1, 0, 0), (13, 0, 0)], [dm5], []⟩
theorem limbs5 : limbsOf (valL [5]) = [5] := by
  have e : valL [5] = 5 := by simp [valL]
  rw [e, limbsOf]
  simp
  rw [limbsOf]
  simp
theorem right5 : RightDs [dm5] := by
  unfold RightDs RightDs dm5 RightD
  exact ⟨.inr (.inr (.inl ⟨rfl, rfl, rfl, rfl, rfl, limbs5, fun h => by cases h⟩)), trivial⟩
theorem ok5 : okPs [pr5] 0 = some 1 := by
  have h : okDs [dm5] 100 0 = some 1 := (okDs_iff [dm5] 100 0 1 (by decide) (by decide)).2 ⟨right5, by simp [depthDs, depthD, dm5], by simp [nodesDs, nodesD, dm5], by decide⟩
  show (match okP pr5 0 with | none => none | some q => okPs [] q) = some 1
  have h2 : okP pr5 0 = some 1 := by
    unfold okP
    rw [if_pos (by simp [pr5, sizeB, wholeB, rightI])]
    exact h
  rw [h2]
  rfl
theorem zig0 : zigB 0 = [0] := by
  show numB (zigN 0) = _
  rw [show zigN 0 = 0 from rfl, numB_lt (by decide)]
  rfl
theorem bytes5 : writeB [pr5] = [84, 65, 78, 68, 1, 0, 0, 0, 0, 2, 1, 0, 0, 13, 0, 0, 1, 1, 0, 1, 5, 0] := by
  have e1 : textB noT = [0] := by
    unfold textB
    rw [show noT.size = 0 from rfl, numB_lt (by decide)]
    rfl
  have e2 : ∀ n : Nat, n < 128 → numB n = [(n : Int)] := fun n h => numB_lt h
  have e3 : constB dm5 = [1, 0, 1, 5] := by
    unfold dm5 constB
    rw [if_pos rfl]
    show numB 1 ++ (bitB false ++ numB 1 ++ (numB 5 ++ [])) = _
    rw [e2 1 (by decide), e2 5 (by decide)]
    rfl
  have e4 : codeB [(1, 0, 0), (13, 0, 0)] = [1, 0, 0, 13, 0, 0] := by
    show (numB 1 ++ zigB 0 ++ zigB 0) ++ ((numB 13 ++ zigB 0 ++ zigB 0) ++ []) = _
    rw [zig0, e2 1 (by decide), e2 13 (by decide)]
    rfl
  show [84, 65, 78, 68] ++ numB 1 ++ (protoB pr5 ++ []) = _
  have e5 : protoB pr5 = [0, 0, 0, 0, 2, 1, 0, 0, 13, 0, 0, 1, 1, 0, 1, 5, 0] := by
    show textB noT ++ numB 0 ++ bitB false ++ numB 0 ++ numB 2 ++ codeB [(1, 0, 0), (13, 0, 0)] ++ numB 1 ++ constBs [dm5] ++ numB 0 ++ [] = _
    rw [e1, e2 0 (by decide), e2 2 (by decide), e2 1 (by decide), e4]
    unfold constBs constBs
    rw [e3]
    rfl
  rw [e5, e2 1 (by decide)]
  rfl
set_option maxRecDepth 100000 in
set_option maxHeartbeats 2000000 in
theorem awake10 (w : World) (R : HP) (hs : sat w R) : Calls Try.prog 12 #[] w fun e w' => e = .returned (.bool true) ∧ sat w' R ∧ Below 0 w w' := by
  have h1 := hs.alloc (.cells #[.int .i64 1, .int .i64 0, .int .i64 0, .int .i64 13, .int .i64 0, .int .i64 0] 41)
  obtain ⟨w1, hw1⟩ : ∃ x, w.alloc (.cells #[.int .i64 1, .int .i64 0, .int .i64 0, .int .i64 13, .int .i64 0, .int .i64 0] 41) = x := ⟨_, rfl⟩
  obtain ⟨g1, hg1⟩ : ∃ x, w.heap.size = x := ⟨_, rfl⟩
  rw [hw1, hg1] at h1
  have h2 := h1.alloc (.cells #[.int .u32 5] 66)
  obtain ⟨w2, hw2⟩ : ∃ x, w1.alloc (.cells #[.int .u32 5] 66) = x := ⟨_, rfl⟩
  obtain ⟨g2, hg2⟩ : ∃ x, w1.heap.size = x := ⟨_, rfl⟩
  rw [hw2, hg2] at h2
  have h3 := h2.alloc (dmO [.int .i64 1, .int .i64 0, .bool false, .slice (some ⟨g2, 0, none⟩) 1 1, .string ⟨#[]⟩, .slice none 0 0, .slice none 0 0])
  obtain ⟨w3, hw3⟩ : ∃ x, w2.alloc (dmO [.int .i64 1, .int .i64 0, .bool false, .slice (some ⟨g2, 0, none⟩) 1 1, .string ⟨#[]⟩, .slice none 0 0, .slice none 0 0]) = x := ⟨_, rfl⟩
  obtain ⟨g3, hg3⟩ : ∃ x, w2.heap.size = x := ⟨_, rfl⟩
  rw [hw3, hg3] at h3
  have h4 := h3.alloc (.cells #[.string ⟨#[]⟩, .int .i64 0, .int .i64 0, .bool false, .slice (some ⟨g1, 0, none⟩) 2 2, .slice (some ⟨g3, 0, none⟩) 1 1, .slice none 0 0] 38)
  obtain ⟨w4, hw4⟩ : ∃ x, w3.alloc (.cells #[.string ⟨#[]⟩, .int .i64 0, .int .i64 0, .bool false, .slice (some ⟨g1, 0, none⟩) 2 2, .slice (some ⟨g3, 0, none⟩) 1 1, .slice none 0 0] 38) = x := ⟨_, rfl⟩
  obtain ⟨g4, hg4⟩ : ∃ x, w3.heap.size = x := ⟨_, rfl⟩
  rw [hw4, hg4] at h4
  have hb4 : Below 0 w w4 := by
    rw [← hw4, ← hw3, ← hw2, ← hw1]
    exact (((Below.zero_alloc _ _).trans (Below.zero_alloc _ _)).trans (Below.zero_alloc _ _)).trans (Below.zero_alloc _ _)
  have hR := h4.right.right.right.right
  obtain ⟨F, hF⟩ : ∃ F : HP, F = Go.Proofs.Ytkjfplldfjmbaaa.blk g4 (.cells #[.string ⟨#[]⟩, .int .i64 0, .int .i64 0, .bool false, .slice (some ⟨g1, 0, none⟩) 2 2, .slice (some ⟨g3, 0, none⟩) 1 1, .slice none 0 0] 38 (0, 0)) * (Go.Proofs.Ytkjfplldfjmbaaa.blk g3 (dmO [.int .i64 1, .int .i64 0, .bool false, .slice (some ⟨g2, 0, none⟩) 1 1, .string ⟨#[]⟩, .slice none 0 0, .slice none 0 0]) * (Go.Proofs.Ytkjfplldfjmbaaa.blk g2 (.cells #[.int .u32 5] 66 (0, 0)) * (Go.Proofs.Ytkjfplldfjmbaaa.blk g1 (.cells #[.int .i64 1, .int .i64 0, .int .i64 0, .int .i64 13, .int .i64 0, .int .i64 0] 41 (0, 0)) * R))) := ⟨_, rfl⟩
  have hFR : ∀ w', sat w' F → sat w' R := fun w' h => by rw [hF] at h; exact h.right.right.right.right
  have hks : PrKs F [pr5] (some ⟨g4, 0, none⟩) := by
    intro i p hp
    match i, hp with
    | 0, hp =>
      simp only [List.getElem?_cons_zero, Option.some.injEq] at hp
      subst hp
      refine ⟨g4, 0, [.string ⟨#[]⟩, .int .i64 0, .int .i64 0, .bool false, .slice (some ⟨g1, 0, none⟩) 2 2, .slice (some ⟨g3, 0, none⟩) 1 1, .slice none 0 0], rfl, ?_, some ⟨g1, 0, none⟩, 2, some ⟨g3, 0, none⟩, 1, none, 0, rfl, ⟨by unfold i64b pr5; simp, by unfold i64b pr5; simp⟩, ?_, ?_, ?_, Nat.le_refl _, Nat.le_refl _, Nat.le_refl _⟩
      · intro w' h j v hv
        rw [hF] at h
        rw [show 0 + 0 * 7 + j = j by omega, h.left.cell j, ← hv]
        simp
      · intro k t ht
        have hk : k < 2 := (List.getElem?_eq_some_iff.1 ht).1
        have hcode : ∀ w', sat w' F → (w'.cell? ⟨g1, 0, none⟩ = some (.int .i64 1) ∧ w'.cell? ⟨g1, 1, none⟩ = some (.int .i64 0) ∧ w'.cell? ⟨g1, 2, none⟩ = some (.int .i64 0)) ∧ (w'.cell? ⟨g1, 3, none⟩ = some (.int .i64 13) ∧ w'.cell? ⟨g1, 4, none⟩ = some (.int .i64 0) ∧ w'.cell? ⟨g1, 5, none⟩ = some (.int .i64 0)) := fun w' h => by
          rw [hF] at h
          have q := h.right.right.right.left
          exact ⟨⟨q.cell 0, q.cell 1, q.cell 2⟩, q.cell 3, q.cell 4, q.cell 5⟩
        match k, hk, ht with
        | 0, _, ht =>
          simp only [pr5, List.getElem?_cons_zero, Option.some.injEq] at ht
          subst ht
          exact ⟨⟨g1, 0, rfl, fun w' h => (hcode w' h).1⟩, by unfold i64b; simp⟩
        | 1, _, ht =>
          simp only [pr5, List.getElem?_cons_succ, List.getElem?_cons_zero, Option.some.injEq] at ht
          subst ht
          exact ⟨⟨g1, 0, rfl, fun w' h => (hcode w' h).2⟩, by unfold i64b; simp⟩
      · show DKs F [dm5] (some ⟨g3, 0, none⟩) 0
        unfold DKs
        refine ⟨⟨g3, 0, [.int .i64 1, .int .i64 0, .bool false, .slice (some ⟨g2, 0, none⟩) 1 1, .string ⟨#[]⟩, .slice none 0 0, .slice none 0 0], rfl, ?_, ?_⟩, DKs.nil⟩
        · intro w' h j v hv
          rw [hF] at h
          rw [show 0 + 0 * 7 + j = j by omega, h.right.left.cell j, ← hv]
          simp
        · refine DK.mk (mag := [5]) (items := []) (rest := []) ⟨by simp, by simp⟩ ?_ ?_ ⟨Nat.le_refl _, Nat.le_refl _, Nat.le_refl _⟩ DKs.nil DKs.nil
          · intro w' h j x hx
            rw [hF] at h
            match j, hx with
            | 0, hx =>
              simp only [List.getElem?_cons_zero, Option.some.injEq] at hx
              subst hx
              exact ⟨_, rfl, h.right.right.left.cell 0⟩
          · intro x hx
            simp at hx
            omega
      · intro k t ht
        simp [pr5] at ht
  rw [← hF] at h4
  have hW := pack_Write [pr5] 1 rfl (by simp [prSizes, Pr.size, pr5, dm5, Dm.sizes, Dm.size, noT]; decide) w4 F (some ⟨g4, 0, none⟩) 1 h4 hks
  have HH := Lib.hid (And.intro hFR hb4)
  clear h1 h2 h3 h4 hks hb4 hFR hR hF hs
  have e2 : g2 = g1 + 1 := by rw [← hg2, ← hw1, World.size_alloc, hg1]
  have e3 : g3 = g1 + 1 + 1 := by rw [← hg3, ← hw2, World.size_alloc, hg2, e2]
  have e4 : g4 = g1 + 1 + 1 + 1 := by rw [← hg4, ← hw3, World.size_alloc, hg3, e3]
  clear hg2 hg3 hg4
  subst e2
  subst e3
  subst e4
  subst hg1
  subst hw1
  subst hw2
  subst hw3
  go_enter Try.func12, Try.ntmps12
  go_wp2_with fail
  refine hW.mono ?_
  clear hW
  rintro e w5 hW5
  obtain ⟨v, rfl, h5, hb5⟩ := hW5.told ok5
  clear hW5
  rw [bytes5] at h5
  obtain ⟨ro, rc, rfl, _⟩ := slice_val h5
  have hcv := run_bytes_any (P := Try.prog) (cap := rc) 23 9 5 Try.underlying23 Try.underlying5 Try.underlying9 (n := 22) (b := [84, 65, 78, 68, 1, 0, 0, 0, 0, 2, 1, 0, 0, 13, 0, 0, 1, 1, 0, 1, 5, 0]) rfl (own_cellsAt h5 rfl)
  have hst : ((strOfNums [84, 65, 78, 68, 1, 0, 0, 0, 0, 2, 1, 0, 0, 13, 0, 0, 1, 1, 0, 1, 5, 0]).toList == ([84, 65, 78, 68, 1, 0, 0, 0, 0, 2, 1, 0, 0, 13, 0, 0, 1, 1, 0, 1, 5, 0] : List UInt8)) = true := by
    rw [ByteArray.toList_eq]
    decide
  generalize strOfNums [84, 65, 78, 68, 1, 0, 0, 0, 0, 2, 1, 0, 0, 13, 0, 0, 1, 1, 0, 1, 5, 0] = sa at *
  have H5 := Lib.hid (And.intro h5 (HH.out.2.trans hb5))
  clear h5 hb5
  go_wp2_with fail
  go_ret
  exact ⟨rfl, HH.out.1 _ H5.out.1.right, H5.out.2⟩
end Go.Proofs.Ytkjfplldfjmbaaa
