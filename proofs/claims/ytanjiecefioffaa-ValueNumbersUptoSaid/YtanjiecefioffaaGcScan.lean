/- A collection, plainly: the second finger; what is there at the end. -/
import Derived.Test.YtanjiecefioffaaGcStep
namespace Go.Proofs.Ytanjiecefioffaa
open Go.RowKit

/-- A tagged field at the front is told anew. -/
theorem GcInv.oneField {S : HS} {c : CS} {P : Nat} (h : GcInv S c P) (hw : WfH S.ws S.bs) (hs : S.ws.length ≤ 1048576) {j i : Nat} (hj : c.tb[j]? = some true) (hi : i < tagAt c.tw j) (hP : P = j + 1 + i) :
    GcInv S (fix1 S c P) (P + 1) ∧ Later c (fix1 S c P) ∧ (∀ q, q ≤ j → (fix1 S c P).tw.getD q 0 = c.tw.getD q 0) ∧ (fix1 S c P).tb[j]? = some true := by
  have hjf := h.wf.fits j hj
  have hPl : P < c.tw.length := by unfold tagAt at hi; omega
  have hxm : c.tw.getD P 0 ∈ c.tw := by
    have := getD_get hPl
    exact List.mem_of_getElem? this
  have hxu := h.wf.u _ hxm
  obtain ⟨g1, g2, g3, g4, g5, g6, g7, g8⟩ := h.copy1 hw hs (c.tw.getD P 0) hxu.1 hxu.2
  have hjh : (Go.Proofs.Ytanjiecefioffaa.copy1 S c (c.tw.getD P 0)).1.tw.getD j 0 = c.tw.getD j 0 := g4 j (by omega)
  obtain ⟨k, hk⟩ := h.onto j hj
  have hj0 : 0 < j := by
    rcases Nat.eq_zero_or_pos j with e | e
    · rw [e, h.wf.zero.1] at hj; cases hj
    · exact e
  obtain ⟨j2, e2, hcop⟩ := h.tgt k (by rw [hk]; omega)
  have ej : j2 = j := by omega
  rw [ej] at hcop
  have hx : c.tw.getD P 0 = S.ws.getD (k + 1 + i) 0 := by
    rw [hP]; refine hcop.todo i ?_ (by omega)
    unfold tagAt at *; rw [← hcop.head]; exact hi
  have hk1 := g2 k (by rw [hk]; omega)
  have hj1 : (Go.Proofs.Ytanjiecefioffaa.copy1 S c (c.tw.getD P 0)).1.tb[j]? = some true := by
    obtain ⟨j3, e3, hc3⟩ := g1.tgt k (by rw [hk1, hk]; omega)
    have : j3 = j := by rw [hk1, hk] at e3; omega
    rw [this] at hc3; exact hc3.now
  unfold Go.Proofs.Ytanjiecefioffaa.fix1
  generalize Go.Proofs.Ytanjiecefioffaa.copy1 S c (c.tw.getD P 0) = r at *
  obtain ⟨c1, v⟩ := r
  simp only at *
  have hjf1 := g1.wf.fits j hj1
  have hne : ∀ q : Nat, c1.tb[q]? = some true → q ≠ P := by
    intro q hq e
    have h1 := place_unique g1.wf hj1 hq (p := P) (by omega) (by unfold sizeAt; rw [hjh]; unfold tagAt at hi; omega) (by omega) (by unfold sizeAt; omega)
    omega
  have hget : ∀ q : Nat, q ≠ P → (c1.tw.set P v).getD q 0 = c1.tw.getD q 0 := fun q hq => getD_set_ne (fun e => hq e.symm)
  have hPv : (c1.tw.set P v).getD P 0 = v := getD_set_eq (by omega)
  have hti : i < (tagH (c1.tw.getD j 0)).toNat := by rw [hjh]; exact hi
  refine ⟨⟨g1.gone, wf_set g1.wf hj1 (by omega) (by omega) g7 g8, by simp only [List.length_set]; exact g1.sum, ?_, g1.onto, g1.inj, by simp only [List.length_set]; omega⟩, g2, ?_, hj1⟩
  · intro q hq
    obtain ⟨j', e', hc'⟩ := g1.tgt q hq
    have hfit' := g1.wf.fits j' hc'.now
    have hj'P := hne j' hc'.now
    have hhd : c1.tw.getD j' 0 = S.ws.getD q 0 := hc'.head
    -- a field's place that is P: the same object
    have hsame : ∀ i', i' < tagAt S.ws q + rawAt S.ws q → j' + 1 + i' = P → j' = j ∧ i' = i := by
      intro i' h1 h2
      have := place_unique g1.wf hj1 hc'.now (p := P) (by omega) (by unfold sizeAt; omega) (by omega) (by unfold sizeAt; rw [hhd]; unfold tagAt rawAt at h1; omega)
      omega
    refine ⟨j', e', hc'.was, hc'.now, by simp only; rw [hget j' hj'P]; exact hhd, ?_, ?_, ?_⟩
    · intro i' h1 h2
      simp only
      rw [hget]
      · exact hc'.raws i' h1 h2
      · intro e
        obtain ⟨a, b⟩ := hsame i' h2 e
        rw [a] at hhd
        rw [hhd] at hti
        unfold tagAt at h1; omega
    · intro i' h1 h2
      by_cases e : j' + 1 + i' = P
      · obtain ⟨a, b⟩ := hsame i' (by omega) e
        have hqk : q = k := g1.inj q k hq (by rw [e', hk1, hk, a])
        rw [hqk, b, ← hx]
        refine ⟨g6, ?_⟩
        simp only
        rw [← b, e, hPv]; exact g5
      · obtain ⟨a, b⟩ := hc'.done i' h1 (by omega)
        refine ⟨a, ?_⟩
        simp only
        rw [hget _ e]; exact b
    · intro i' h1 h2
      simp only
      rw [hget _ (by omega)]; exact hc'.todo i' h1 (by omega)
  · intro q hq
    rw [hget q (by omega)]; exact g4 q (by omega)

theorem GcInv.manyFields {S : HS} (hw : WfH S.ws S.bs) (hs : S.ws.length ≤ 1048576) {j : Nat} (n : Nat) : ∀ {c : CS} {i : Nat}, GcInv S c (j + 1 + i) → c.tb[j]? = some true → i + n ≤ tagAt c.tw j →
    GcInv S (fixN S c (j + 1 + i) n) (j + 1 + i + n) ∧ Later c (fixN S c (j + 1 + i) n) ∧ (fixN S c (j + 1 + i) n).tw.getD j 0 = c.tw.getD j 0 ∧ (fixN S c (j + 1 + i) n).tb[j]? = some true := by
  induction n with
  | zero => intro c i h hj _; exact ⟨h, Later.refl c, rfl, hj⟩
  | succ n ih =>
    intro c i h hj hn
    obtain ⟨g1, g2, g3, g4⟩ := h.oneField hw hs hj (i := i) (by omega) rfl
    have gj := g3 j (Nat.le_refl _)
    have ih' := ih (c := Go.Proofs.Ytanjiecefioffaa.fix1 S c (j + 1 + i)) (i := i + 1) g1 g4 (by unfold tagAt at *; rw [gj]; omega)
    simp only [Go.Proofs.Ytanjiecefioffaa.fixN]
    obtain ⟨e1, e2, e3, e4⟩ := ih'
    have hq : j + 1 + i + (n + 1) = j + 1 + (i + 1) + n := by omega
    rw [hq]
    exact ⟨e1, g2.trans e2, by rw [← gj]; exact e3, e4⟩

/-- The front moves where there is no tagged field. -/
theorem GcInv.move {S : HS} {c : CS} {P P' : Nat} (h : GcInv S c P) (hP : P ≤ P') (hl : P' ≤ c.tw.length) (hno : ∀ j i, c.tb[j]? = some true → i < tagAt c.tw j → P ≤ j + 1 + i → P' ≤ j + 1 + i) : GcInv S c P' := by
  refine ⟨h.gone, h.wf, h.sum, ?_, h.onto, h.inj, hl⟩
  intro k hk
  obtain ⟨j, e, hc⟩ := h.tgt k hk
  refine ⟨j, e, hc.was, hc.now, hc.head, hc.raws, ?_, ?_⟩
  · intro i h1 h2
    refine hc.done i h1 ?_
    rcases Nat.lt_or_ge (j + 1 + i) P with a | a
    · exact a
    · have := hno j i hc.now (by unfold tagAt at *; rw [hc.head]; exact h1) a
      omega
  · intro i h1 h2
    exact hc.todo i h1 (by omega)

/-- One object of the new half. -/
theorem GcInv.object {S : HS} {c : CS} {j : Nat} (h : GcInv S c j) (hw : WfH S.ws S.bs) (hs : S.ws.length ≤ 1048576) (hj : c.tb[j]? = some true) :
    GcInv S (fixN S c (j + 1) (tagAt c.tw j)) (j + sizeAt c.tw j) ∧ Later c (fixN S c (j + 1) (tagAt c.tw j)) ∧
    (j + sizeAt c.tw j = (fixN S c (j + 1) (tagAt c.tw j)).tw.length ∨ (fixN S c (j + 1) (tagAt c.tw j)).tb[j + sizeAt c.tw j]? = some true) := by
  have hf := h.wf.fits j hj
  have h1 : GcInv S c (j + 1 + 0) := by
    refine h.move (by omega) (by omega) ?_
    intro q i hq hi hle
    rcases Nat.lt_or_ge q j with a | a
    · have := h.wf.apart q j hq hj a; unfold tagAt at hi; omega
    · omega
  obtain ⟨g1, g2, g3, g4⟩ := GcInv.manyFields hw hs (tagAt c.tw j) h1 hj (by omega)
  simp only [Nat.add_zero] at g1 g2 g3 g4
  generalize Go.Proofs.Ytanjiecefioffaa.fixN S c (j + 1) (tagAt c.tw j) = c' at *
  have hf2 := g1.wf.fits j g4
  have hn2 := g1.wf.next j g4
  rw [g3] at hf2 hn2
  refine ⟨g1.move (by unfold sizeAt tagAt; omega) (by unfold sizeAt; omega) ?_, g2, ?_⟩
  · intro q i hq hi hle
    rcases Nat.lt_trichotomy q j with a | a | a
    · have := g1.wf.apart q j hq g4 a; unfold tagAt at hi; omega
    · subst a; unfold tagAt at hi; rw [g3] at hi; unfold tagAt at hle; omega
    · have := g1.wf.apart j q g4 hq a; rw [g3] at this; unfold sizeAt; omega
  · unfold sizeAt
    rcases hn2 with e | e
    · left; omega
    · right; rw [← e]; congr 1; omega

theorem GcInv.scanned {S : HS} (hw : WfH S.ws S.bs) (hs : S.ws.length ≤ 1048576) (f : Nat) : ∀ {c : CS} {j : Nat}, GcInv S c j → (j = c.tw.length ∨ c.tb[j]? = some true) → S.ws.length ≤ f + j →
    GcInv S (scan S f c j) (scan S f c j).tw.length ∧ Later c (scan S f c j) := by
  induction f with
  | zero =>
    intro c j h hb hf
    have hl := h.len hw
    simp only [Go.Proofs.Ytanjiecefioffaa.scan]
    have : j = c.tw.length := by have := h.front; omega
    exact ⟨this ▸ h, Later.refl c⟩
  | succ f ih =>
    intro c j h hb hf
    simp only [Go.Proofs.Ytanjiecefioffaa.scan]
    by_cases hlt : j < c.tw.length
    · rw [if_pos hlt]
      have hj := hb.resolve_left (by omega)
      obtain ⟨g1, g2, g3⟩ := h.object hw hs hj
      obtain ⟨e1, e2⟩ := ih g1 g3 (by unfold sizeAt; omega)
      exact ⟨e1, g2.trans e2⟩
    · rw [if_neg hlt]
      have : j = c.tw.length := by have := h.front; omega
      exact ⟨this ▸ h, Later.refl c⟩

/-- What a collection comes to. -/
structure GcEnd (S : HS) (roots : List Int) (c : CS) : Prop where
  inv : GcInv S c c.tw.length
  out : S.moved roots = roots.map (fwd S c)
  res : ∀ x ∈ roots, Res S c x
  u : ∀ y ∈ S.moved roots, 0 ≤ y ∧ y < 18446744073709551616

theorem gc_end {S : HS} (hw : WfH S.ws S.bs) (hs : S.ws.length ≤ 1048576) {roots : List Int} (hr : ∀ x ∈ roots, 0 ≤ x ∧ x < 18446744073709551616) : GcEnd S roots (gcEnd S roots) := by
  obtain ⟨h1, _, h3, h4, h5⟩ := GcInv.copyAll hw hs roots (GcInv.zero (S := S) 1 (Nat.le_refl _)) hr
  have hb : 1 = (copyAll S (CS.zero S) roots).1.tw.length ∨ (copyAll S (CS.zero S) roots).1.tb[1]? = some true := by
    rcases h1.wf.first with e | e
    · left; omega
    · right; exact e
  obtain ⟨g1, g2⟩ := GcInv.scanned hw hs S.ws.length h1 hb (by omega)
  refine ⟨g1, ?_, fun x hx => (g2.res (h4 x hx)).1, h5⟩
  show (copyAll S (CS.zero S) roots).2 = _
  rw [h3]
  exact List.map_congr_left fun x hx => ((g2.res (h4 x hx)).2).symm

theorem Res.may {S : HS} {c : CS} {P : Nat} (h : GcInv S c P) {w : Int} (hm : mayB S.bs w = true) (hr : Res S c w) : mayB c.tb (fwd S c w) = true := by
  unfold fwd
  by_cases hi : S.is w = true
  · rw [if_pos hi]
    obtain ⟨j, e, hc⟩ := h.tgt _ (hr hi)
    rw [e]
    unfold mayB
    rw [isB_place.2 hc.now]; simp
  · rw [if_neg hi]
    unfold mayB at hm ⊢
    have : isB S.bs w = false := Bool.eq_false_iff.2 hi
    rw [this] at hm
    simp only [Bool.or_false] at hm
    rw [hm]; rfl

/-- The heap behind a collection is as it should be. -/
theorem gc_ok {S : HS} (hw : WfH S.ws S.bs) (hp : PtrOk S.ws S.bs) (hs : S.ws.length ≤ 1048576) {roots : List Int} (hr : ∀ x ∈ roots, 0 ≤ x ∧ x < 18446744073709551616) :
    WfH (S.collect roots).ws (S.collect roots).bs ∧ PtrOk (S.collect roots).ws (S.collect roots).bs ∧ (S.collect roots).ws.length ≤ S.ws.length := by
  have h := (gc_end hw hs hr).inv
  refine ⟨h.wf, ?_, h.len hw⟩
  intro j i hj hi
  obtain ⟨k, hk⟩ := h.onto j hj
  have hj0 : 0 < j := by
    rcases Nat.eq_zero_or_pos j with e | e
    · rw [e] at hj; have := h.wf.zero.1; unfold HS.collect at hj; simp only at hj; rw [this] at hj; cases hj
    · exact e
  obtain ⟨j2, e2, hc⟩ := h.tgt k (by rw [hk]; omega)
  have ej : j2 = j := by omega
  rw [ej] at hc
  have hi' : i < tagAt S.ws k := by unfold tagAt; rw [← hc.head]; exact hi
  have hf := h.wf.fits j hj
  obtain ⟨a, b⟩ := hc.done i hi' (by rw [hc.head] at hf; unfold tagAt at hi'; omega)
  show mayB (gcEnd S roots).tb ((gcEnd S roots).tw.getD (j + 1 + i) 0) = true
  rw [b]
  exact a.may h (hp k i hc.was hi')
end Go.Proofs.Ytanjiecefioffaa
