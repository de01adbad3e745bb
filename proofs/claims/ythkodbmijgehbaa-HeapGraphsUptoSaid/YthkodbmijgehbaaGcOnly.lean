/- A collection, plainly: only what can be reached is copied. -/
import Derived.Test.YthkodbmijgehbaaGcScan
namespace Go.Proofs.Ythkodbmijgehbaa
open Go.RowKit

/-- A word that is no object, or an object of P's. -/
def Good (S : HS) (P : Nat → Prop) (x : Int) : Prop := S.is x = true → P (x / 4).toNat
def Only (P : Nat → Prop) (c : CS) : Prop := ∀ k, c.at_ k ≠ 0 → P k
/-- P's objects hold none but P's. -/
def Closed (S : HS) (P : Nat → Prop) : Prop := ∀ k i, S.bs[k]? = some true → P k → i < tagAt S.ws k → Good S P (S.ws.getD (k + 1 + i) 0)

theorem Only.copy1 {S : HS} {P : Nat → Prop} {c : CS} (hl : c.gone.length = S.ws.length) (hw : WfH S.ws S.bs) (h : Only P c) {x : Int} (hx : Good S P x) : Only P (copy1 S c x).1 := by
  unfold Go.Proofs.Ythkodbmijgehbaa.copy1
  split
  · rename_i hi
    split
    · have hik := is_iff.1 hi
      have hkl : (x / 4).toNat < S.ws.length := by have := (List.getElem?_eq_some_iff.1 hik.2).1; have := hw.len; omega
      intro k hk
      simp only at hk
      rw [put_at hl hkl] at hk
      split at hk
      · rename_i e; rw [e]; exact hx hi
      · exact h k hk
    · exact h
  · exact h

theorem Only.copyAll {S : HS} {P : Nat → Prop} (hw : WfH S.ws S.bs) (hs : S.ws.length ≤ 1048576) (l : List Int) : ∀ {c : CS}, GcInv S c 1 → Only P c → (∀ x ∈ l, 0 ≤ x ∧ x < 18446744073709551616) → (∀ x ∈ l, Good S P x) → Only P (copyAll S c l).1 := by
  induction l with
  | nil => intro c _ h _ _; exact h
  | cons w l ih =>
    intro c hi h hu hg
    have h1 := hi.copy1 hw hs w (hu w (by simp)).1 (hu w (by simp)).2
    have h2 := h.copy1 hi.gone hw (hg w (by simp))
    simp only [Go.Proofs.Ythkodbmijgehbaa.copyAll]
    exact ih h1.1 h2 (fun x hx => hu x (by simp [hx])) (fun x hx => hg x (by simp [hx]))

theorem Only.oneField {S : HS} {P : Nat → Prop} {c : CS} {Q : Nat} (h : GcInv S c Q) (hw : WfH S.ws S.bs) (hc : Closed S P) (ho : Only P c) {j i : Nat} (hj : c.tb[j]? = some true) (hi : i < tagAt c.tw j) (hQ : Q = j + 1 + i) : Only P (fix1 S c Q) := by
  obtain ⟨k, hk⟩ := h.onto j hj
  have hj0 : 0 < j := by
    rcases Nat.eq_zero_or_pos j with e | e
    · rw [e, h.wf.zero.1] at hj; cases hj
    · exact e
  obtain ⟨j2, e2, hcop⟩ := h.tgt k (by rw [hk]; omega)
  have ej : j2 = j := by omega
  rw [ej] at hcop
  have hit : i < tagAt S.ws k := by unfold tagAt at *; rw [← hcop.head]; exact hi
  have hx : c.tw.getD Q 0 = S.ws.getD (k + 1 + i) 0 := by rw [hQ]; exact hcop.todo i hit (by omega)
  have hg : Good S P (c.tw.getD Q 0) := by rw [hx]; exact hc k i hcop.was (ho k (by rw [hk]; omega)) hit
  have h1 := ho.copy1 h.gone hw hg
  unfold Go.Proofs.Ythkodbmijgehbaa.fix1
  generalize Go.Proofs.Ythkodbmijgehbaa.copy1 S c (c.tw.getD Q 0) = r at *
  exact h1

theorem Only.manyFields {S : HS} {P : Nat → Prop} (hw : WfH S.ws S.bs) (hs : S.ws.length ≤ 1048576) (hc : Closed S P) {j : Nat} (n : Nat) : ∀ {c : CS} {i : Nat}, GcInv S c (j + 1 + i) → Only P c → c.tb[j]? = some true → i + n ≤ tagAt c.tw j → Only P (fixN S c (j + 1 + i) n) := by
  induction n with
  | zero => intro c i _ h _ _; exact h
  | succ n ih =>
    intro c i h ho hj hn
    obtain ⟨g1, _, g3, g4⟩ := h.oneField hw hs hj (i := i) (by omega) rfl
    have g5 := Only.oneField h hw hc ho hj (i := i) (by omega) rfl
    have gj := g3 j (Nat.le_refl _)
    simp only [Go.Proofs.Ythkodbmijgehbaa.fixN]
    exact ih (c := Go.Proofs.Ythkodbmijgehbaa.fix1 S c (j + 1 + i)) (i := i + 1) g1 g5 g4 (by unfold tagAt at *; rw [gj]; omega)

theorem Only.scanned {S : HS} {P : Nat → Prop} (hw : WfH S.ws S.bs) (hs : S.ws.length ≤ 1048576) (hc : Closed S P) (f : Nat) : ∀ {c : CS} {j : Nat}, GcInv S c j → Only P c → (j = c.tw.length ∨ c.tb[j]? = some true) → Only P (scan S f c j) := by
  induction f with
  | zero => intro c j _ h _; exact h
  | succ f ih =>
    intro c j h ho hb
    simp only [Go.Proofs.Ythkodbmijgehbaa.scan]
    by_cases hlt : j < c.tw.length
    · rw [if_pos hlt]
      have hj := hb.resolve_left (by omega)
      obtain ⟨g1, _, g3⟩ := h.object hw hs hj
      have hf := h.wf.fits j hj
      have h1 : GcInv S c (j + 1 + 0) := by
        refine h.move (by omega) (by omega) ?_
        intro q i hq hi hle
        rcases Nat.lt_or_ge q j with a | a
        · have := h.wf.apart q j hq hj a; unfold tagAt at hi; omega
        · omega
      have h2 := Only.manyFields hw hs hc (tagAt c.tw j) h1 ho hj (by omega)
      exact ih g1 h2 g3
    · rw [if_neg hlt]; exact ho

/-- Only what P holds is copied. -/
theorem gc_only {S : HS} {P : Nat → Prop} (hw : WfH S.ws S.bs) (hs : S.ws.length ≤ 1048576) {roots : List Int} (hr : ∀ x ∈ roots, 0 ≤ x ∧ x < 18446744073709551616) (hc : Closed S P) (hg : ∀ x ∈ roots, Good S P x) : Only P (gcEnd S roots) := by
  have h0 : Only P (CS.zero S) := by
    intro k hk
    exfalso; apply hk
    unfold CS.at_ CS.zero
    simp only [List.getD_eq_getElem?_getD, List.getElem?_replicate]
    split <;> rfl
  obtain ⟨h1, _⟩ := GcInv.copyAll hw hs roots (GcInv.zero (S := S) 1 (Nat.le_refl _)) hr
  have h2 := Only.copyAll hw hs roots (GcInv.zero (S := S) 1 (Nat.le_refl _)) h0 hr hg
  refine Only.scanned hw hs hc S.ws.length h1 h2 ?_
  rcases h1.wf.first with e | e
  · left; omega
  · right; exact e
end Go.Proofs.Ythkodbmijgehbaa
