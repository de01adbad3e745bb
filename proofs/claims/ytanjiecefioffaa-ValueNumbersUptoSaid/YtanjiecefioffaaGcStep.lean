/- A collection, plainly: each step keeps what holds. -/
import Derived.Test.YtanjiecefioffaaGcInv
namespace Go.Proofs.Ytanjiecefioffaa
open Go.RowKit

/-- What was copied stays where it is. -/
def Later (c c' : CS) : Prop := ∀ k : Nat, c.at_ k ≠ 0 → c'.at_ k = c.at_ k
theorem Later.refl (c : CS) : Later c c := fun _ _ => rfl
theorem Later.trans {a b c : CS} (h : Later a b) (g : Later b c) : Later a c := fun k hk => by rw [g k (by rw [h k hk]; exact hk), h k hk]
theorem Later.res {S : HS} {c c' : CS} (h : Later c c') {w : Int} (hr : Res S c w) : Res S c' w ∧ fwd S c' w = fwd S c w := by
  refine ⟨fun hi => by rw [h _ (hr hi)]; exact hr hi, ?_⟩
  unfold fwd
  by_cases hi : S.is w = true
  · rw [if_pos hi, if_pos hi, h _ (hr hi)]
  · rw [if_neg hi, if_neg hi]

theorem place_unique {ws : List Int} {bs : List Bool} (h : WfH ws bs) {j j' p : Nat} (hj : bs[j]? = some true) (hj' : bs[j']? = some true) (a : j ≤ p) (b : p < j + sizeAt ws j) (a' : j' ≤ p) (b' : p < j' + sizeAt ws j') : j = j' := by
  unfold sizeAt at *
  rcases Nat.lt_trichotomy j j' with e | e | e
  · have := h.apart j j' hj hj' e; omega
  · exact e
  · have := h.apart j' j hj' hj e; omega

theorem put_at {S : HS} {c : CS} {k : Nat} (hl : c.gone.length = S.ws.length) (hk : k < S.ws.length) (q : Nat) : (c.put S k).at_ q = if q = k then 4 * (c.tw.length : Int) else c.at_ q := by
  unfold CS.at_ CS.put
  simp only
  by_cases e : q = k
  · subst e; rw [if_pos rfl, getD_set_eq (by omega)]
  · rw [if_neg e, getD_set_ne (fun h => e h.symm)]

/-- An object is copied. -/
theorem GcInv.put {S : HS} {c : CS} {P : Nat} (h : GcInv S c P) (hw : WfH S.ws S.bs) {k : Nat} (hk : S.bs[k]? = some true) (h0 : c.at_ k = 0) :
    GcInv S (c.put S k) P ∧ Later c (c.put S k) ∧ c.tw.length ≤ (c.put S k).tw.length ∧ ∀ j, j < c.tw.length → (c.put S k).tw.getD j 0 = c.tw.getD j 0 := by
  have hkl : k < S.ws.length := by have := (List.getElem?_eq_some_iff.1 hk).1; have := hw.len; omega
  have hfit := hw.fits k hk
  have hat := put_at (S := S) (c := c) (k := k) h.gone hkl
  have hpos := h.wf.pos
  have hxl : ((S.ws.drop k).take (sizeAt S.ws k)).length = sizeAt S.ws k := by rw [List.length_take, List.length_drop]; unfold sizeAt at *; omega
  have hx0 : ((S.ws.drop k).take (sizeAt S.ws k)).getD 0 0 = S.ws.getD k 0 := getD_piece (i := 0) (by unfold sizeAt; omega)
  have hlate : Later c (c.put S k) := by
    intro q hq
    rw [hat, if_neg]
    rintro rfl
    exact hq h0
  have hpre : ∀ j, j < c.tw.length → (c.put S k).tw.getD j 0 = c.tw.getD j 0 := fun j hj => getD_app_left hj
  have hplen : (c.put S k).tw.length = c.tw.length + sizeAt S.ws k := by unfold CS.put; simp only [List.length_append, hxl]
  have htb : ∀ j : Nat, (c.put S k).tb[j]? = some true ↔ c.tb[j]? = some true ∨ j = c.tw.length := by
    intro j
    rw [← h.wf.len]
    exact laid_at _ _ _
  have hjlt : ∀ j : Nat, c.tb[j]? = some true → j < c.tw.length := by
    intro j hj; have := (List.getElem?_eq_some_iff.1 hj).1; have := h.wf.len; omega
  have hres : ∀ w, Res S c w → Res S (c.put S k) w ∧ fwd S (c.put S k) w = fwd S c w := fun w hr => hlate.res hr
  have hold : ∀ q j : Nat, c.at_ q = 4 * (j : Int) → Copied S c P q j → Copied S (c.put S k) P q j := by
    intro q j _ hc
    have hjl := hjlt j hc.now
    have hjf := h.wf.fits j hc.now
    rw [hc.head] at hjf
    refine ⟨hc.was, (htb j).2 (.inl hc.now), by rw [hpre j hjl]; exact hc.head, ?_, ?_, ?_⟩
    · intro i h1 h2
      rw [hpre _ (by unfold tagAt rawAt at *; omega)]; exact hc.raws i h1 h2
    · intro i h1 h2
      obtain ⟨g1, g2⟩ := hc.done i h1 h2
      obtain ⟨g3, g4⟩ := hres _ g1
      rw [hpre _ (by unfold tagAt at *; omega), g4]; exact ⟨g3, g2⟩
    · intro i h1 h2
      rw [hpre _ (by unfold tagAt at *; omega)]; exact hc.todo i h1 h2
  refine ⟨⟨?_, ?_, ?_, ?_, ?_, ?_, ?_⟩, hlate, by omega, hpre⟩
  · simp only [CS.put, List.length_set]; exact h.gone
  · have hwa := wf_append h.wf (xs := (S.ws.drop k).take (sizeAt S.ws k)) (by rw [hxl]; show _ = 1 + (tagH _).toNat + (rawH _).toNat; rw [hx0]; rfl) (fun x hx => hw.u x (List.mem_of_mem_drop (List.mem_of_mem_take hx))) (by rw [hx0]; exact hw.hdr k hk)
    rw [hxl] at hwa
    exact hwa
  · rw [hplen, h.sum]
    have h1 := sumO_set (p := fun q => decide (c.at_ q ≠ 0)) (q := fun q => decide ((c.put S k).at_ q ≠ 0)) (f := sizeAt S.ws) (m := S.ws.length) (k := k) hkl (by simp [h0]) (by rw [hat, if_pos rfl, decide_eq_true_eq]; omega) (fun j hj => by simp only [hat, if_neg hj])
    rw [h1]; omega
  · intro q hq
    rw [hat] at hq ⊢
    by_cases e : q = k
    · subst e
      rw [if_pos rfl]
      refine ⟨c.tw.length, rfl, hk, (htb _).2 (.inr rfl), ?_, ?_, ?_, ?_⟩
      · have := getD_app_right (l := c.tw) (m := (S.ws.drop q).take (sizeAt S.ws q)) (k := 0)
        rw [hx0] at this
        exact this
      · intro i h1 h2
        have := getD_app_right (l := c.tw) (m := (S.ws.drop q).take (sizeAt S.ws q)) (k := 1 + i)
        rw [getD_piece (by unfold sizeAt tagAt rawAt at *; omega)] at this
        rw [show c.tw.length + 1 + i = c.tw.length + (1 + i) by omega, show q + 1 + i = q + (1 + i) by omega]
        exact this
      · intro i h1 h2
        have := h.front; omega
      · intro i h1 h2
        have := getD_app_right (l := c.tw) (m := (S.ws.drop q).take (sizeAt S.ws q)) (k := 1 + i)
        rw [getD_piece (by unfold sizeAt tagAt at *; omega)] at this
        rw [show c.tw.length + 1 + i = c.tw.length + (1 + i) by omega, show q + 1 + i = q + (1 + i) by omega]
        exact this
    · rw [if_neg e] at hq ⊢
      obtain ⟨j, h1, h2⟩ := h.tgt q hq
      exact ⟨j, h1, hold q j h1 h2⟩
  · intro j hj
    rcases (htb j).1 hj with hj' | rfl
    · clear hj; have hj := hj'; clear hj'; obtain ⟨q, hq⟩ := h.onto j hj
      have hqk : q ≠ k := by
        rintro rfl
        rw [h0] at hq
        have e0 : j = 0 := by omega
        rw [e0, h.wf.zero.1] at hj; cases hj
      exact ⟨q, by rw [hat, if_neg hqk]; exact hq⟩
    · exact ⟨k, by rw [hat, if_pos rfl]⟩
  · have hne : ∀ q, c.at_ q ≠ 4 * (c.tw.length : Int) := by
      intro q hq
      obtain ⟨j, h1, h2⟩ := h.tgt q (by rw [hq]; omega)
      have := hjlt j h2.now
      omega
    intro q q' hq he
    rw [hat] at hq he
    rw [hat q'] at he
    by_cases e : q = k
    · by_cases e' : q' = k
      · rw [e, e']
      · rw [if_pos e, if_neg e'] at he
        exact absurd he.symm (hne q')
    · by_cases e' : q' = k
      · rw [if_neg e, if_pos e'] at he
        exact absurd he (hne q)
      · rw [if_neg e] at hq he
        rw [if_neg e'] at he
        exact h.inj q q' hq he
  · rw [hplen]; have := h.front; omega

/-- A word is copied. -/
theorem GcInv.copy1 {S : HS} {c : CS} {P : Nat} (h : GcInv S c P) (hw : WfH S.ws S.bs) (hs : S.ws.length ≤ 1048576) (x : Int) (x0 : 0 ≤ x) (x1 : x < 18446744073709551616) :
    GcInv S (copy1 S c x).1 P ∧ Later c (copy1 S c x).1 ∧ c.tw.length ≤ (copy1 S c x).1.tw.length ∧ (∀ j, j < c.tw.length → (copy1 S c x).1.tw.getD j 0 = c.tw.getD j 0) ∧
    (copy1 S c x).2 = fwd S (copy1 S c x).1 x ∧ Res S (copy1 S c x).1 x ∧ 0 ≤ (copy1 S c x).2 ∧ (copy1 S c x).2 < 18446744073709551616 := by
  have hlen := h.len hw
  unfold Go.Proofs.Ytanjiecefioffaa.copy1
  by_cases hi : S.is x = true
  · have hik := is_iff.1 hi
    have hkl : (x / 4).toNat < S.ws.length := by have := (List.getElem?_eq_some_iff.1 hik.2).1; have := hw.len; omega
    rw [if_pos hi]
    by_cases hg : c.gone.getD (x / 4).toNat 0 = 0
    · rw [if_pos hg]
      obtain ⟨g1, g2, g3, g4⟩ := h.put hw hik.2 hg
      have hat := put_at (S := S) (c := c) (k := (x / 4).toNat) h.gone hkl (x / 4).toNat
      rw [if_pos rfl] at hat
      have hpos := h.wf.pos
      refine ⟨g1, g2, g3, g4, ?_, ?_, ?_, ?_⟩
      · unfold fwd; rw [if_pos hi, hat]
      · intro _; rw [hat]; omega
      · simp only; omega
      · simp only; omega
    · rw [if_neg hg]
      refine ⟨h, Later.refl c, Nat.le_refl _, fun _ _ => rfl, ?_, ?_, ?_, ?_⟩
      · unfold fwd; rw [if_pos hi]; rfl
      · intro _; exact hg
      · obtain ⟨j, h1, _⟩ := h.tgt _ hg
        show 0 ≤ c.at_ (x / 4).toNat
        rw [h1]; omega
      · obtain ⟨j, h1, h2⟩ := h.tgt _ hg
        have := (List.getElem?_eq_some_iff.1 h2.now).1
        have := h.wf.len
        show c.at_ (x / 4).toNat < _
        rw [h1]; omega
  · rw [if_neg hi]
    refine ⟨h, Later.refl c, Nat.le_refl _, fun _ _ => rfl, ?_, fun e => absurd e hi, x0, x1⟩
    unfold fwd; rw [if_neg hi]

/-- The roots are copied. -/
theorem GcInv.copyAll {S : HS} {P : Nat} (hw : WfH S.ws S.bs) (hs : S.ws.length ≤ 1048576) (l : List Int) : ∀ {c : CS}, GcInv S c P → (∀ x ∈ l, 0 ≤ x ∧ x < 18446744073709551616) →
    GcInv S (copyAll S c l).1 P ∧ Later c (copyAll S c l).1 ∧ (copyAll S c l).2 = l.map (fwd S (copyAll S c l).1) ∧ (∀ x ∈ l, Res S (copyAll S c l).1 x) ∧ (∀ y ∈ (copyAll S c l).2, 0 ≤ y ∧ y < 18446744073709551616) := by
  induction l with
  | nil =>
    intro c h _
    exact ⟨h, Later.refl c, rfl, (fun _ h => nomatch h), (fun _ h => nomatch h)⟩
  | cons w l ih =>
    intro c h hl
    obtain ⟨h1, h2, _, _, h5, h6, h7, h8⟩ := h.copy1 hw hs w (hl w (by simp)).1 (hl w (by simp)).2
    obtain ⟨g1, g2, g3, g4, g5⟩ := ih h1 (fun x hx => hl x (by simp [hx]))
    simp only [Go.Proofs.Ytanjiecefioffaa.copyAll]
    obtain ⟨e1, e2⟩ := g2.res h6
    refine ⟨g1, h2.trans g2, ?_, ?_, ?_⟩
    · rw [List.map_cons, e2, ← h5, ← g3]
    · intro x hx
      rcases List.mem_cons.1 hx with rfl | hx
      · exact e1
      · exact g4 x hx
    · intro y hy
      rcases List.mem_cons.1 hy with rfl | hy
      · exact ⟨h7, h8⟩
      · exact g5 y hy
end Go.Proofs.Ytanjiecefioffaa
