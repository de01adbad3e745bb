/- The graph behind a collection: both walked side by side, plainly. -/
import Derived.Test.YthkodbmijgehbaaTwicePure
import Derived.Test.YthkodbmijgehbaaGcOnly
namespace Go.Proofs.Ythkodbmijgehbaa
open Go.RowKit

/-- The walk's state: what was met, of the old and of the new; pairs that are left; words met. -/
structure GrS where
  tv : List Int
  fr : List Int
  left : List (Int × Int)
  met : Nat

def Known (S : HS) (g : GrS) (x : Int) : Prop := S.is x = true → g.tv.getD (x / 4).toNat 0 ≠ 0 ∨ ∃ b, (x, b) ∈ g.left
def U64 (x : Int) : Prop := 0 ≤ x ∧ x < 18446744073709551616
structure Pairs (S : HS) (e : CS) (p : Int × Int) : Prop where
  fw : p.2 = fwd S e p.1
  res : Res S e p.1
  word : S.is p.1 = true ∨ p.1 % 4 ≠ 0 ∨ p.1 = 0
  u1 : U64 p.1
  u2 : U64 p.2

structure GrOk (S : HS) (e : CS) (L : List Int) (g : GrS) : Prop where
  tl : g.tv.length = S.ws.length + 1
  fl : g.fr.length = e.tw.length + 1
  to_ : ∀ k : Nat, g.tv.getD k 0 ≠ 0 → g.tv.getD k 0 = e.at_ k ∧ e.at_ k ≠ 0
  fr_ : ∀ j : Nat, g.fr.getD j 0 ≠ 0 → ∃ k : Nat, g.tv.getD k 0 ≠ 0 ∧ e.at_ k = 4 * (j : Int)
  tf : ∀ k j : Nat, g.tv.getD k 0 ≠ 0 → e.at_ k = 4 * (j : Int) → g.fr.getD j 0 = 4 * (k : Int)
  pair : ∀ p ∈ g.left, Pairs S e p
  shut : ∀ k i : Nat, g.tv.getD k 0 ≠ 0 → i < tagAt S.ws k → Known S g (S.ws.getD (k + 1 + i) 0)
  root : ∀ x ∈ L, Known S g x
  met : g.met = sumO (fun k => decide (g.tv.getD k 0 ≠ 0)) (sizeAt S.ws) S.ws.length
  ll : g.left.length ≤ L.length + g.met

section
variable {S T : HS} {e : CS} {L : List Int} {tv fr : List Int} {ini : List (Int × Int)} {met : Nat} {a b : Int} {k j : Nat}

theorem zero_is_not (h : Ends S T e) : S.is 0 = false := by
  cases hz : S.is 0 with
  | false => rfl
  | true =>
    have := (is_iff.1 hz).2
    rw [show ((0 : Int) / 4).toNat = 0 from rfl, h.wf.zero.1] at this
    cases this

/-- A pair of words that are no objects. -/
theorem GrOk.pop_word (h : Ends S T e) (g : GrOk S e L ⟨tv, fr, ini ++ [(a, b)], met⟩) (ha : a % 4 ≠ 0 ∨ a = 0) : b = a ∧ GrOk S e L ⟨tv, fr, ini, met⟩ := by
  have hp := g.pair (a, b) (by simp)
  have hn : ¬ S.is a = true := by
    intro hi
    rcases ha with ha | ha
    · exact ha (is_iff.1 hi).1
    · rw [ha, zero_is_not h] at hi; cases hi
  have hkn : ∀ x, Known S ⟨tv, fr, ini ++ [(a, b)], met⟩ x → Known S ⟨tv, fr, ini, met⟩ x := by
    intro x hx hi
    rcases hx hi with h1 | ⟨c, h1⟩
    · exact .inl h1
    · rcases List.mem_append.1 h1 with h1 | h1
      · exact .inr ⟨c, h1⟩
      · simp at h1; exact absurd (h1.1 ▸ hi) hn
  refine ⟨?_, g.tl, g.fl, g.to_, g.fr_, g.tf, fun p hp => g.pair p (by simp [hp]), fun k i hk hi => hkn _ (g.shut k i hk hi), fun x hx => hkn _ (g.root x hx), g.met, ?_⟩
  · have := hp.fw; simp only at this; rw [this]; unfold fwd; rw [if_neg hn]
  · have := g.ll; simp at this ⊢; omega

/-- A pair of objects: where they lie. -/
theorem GrOk.pop_obj (h : Ends S T e) (g : GrOk S e L ⟨tv, fr, ini ++ [(a, b)], met⟩) (ha : a % 4 = 0) (ha0 : a ≠ 0) :
    ∃ k j : Nat, a = 4 * (k : Int) ∧ b = 4 * (j : Int) ∧ 0 < k ∧ 0 < j ∧ k < S.ws.length ∧ e.at_ k = 4 * (j : Int) ∧ Copied S e e.tw.length k j ∧ j + sizeAt S.ws k ≤ T.ws.length ∧ k + sizeAt S.ws k ≤ S.ws.length := by
  have hp := g.pair (a, b) (by simp)
  have hi : S.is a = true := by
    rcases hp.word with h1 | h1 | h1
    · exact h1
    · exact absurd ha h1
    · exact absurd h1 ha0
  have hik := is_iff.1 hi
  have hu := hp.u1
  unfold U64 at hu
  simp only at hu
  have hat := hp.res hi
  simp only at hat
  obtain ⟨j, hj, hc⟩ := h.inv.tgt _ hat
  have hj0 : j ≠ 0 := by rintro rfl; have := hc.now; rw [h.inv.wf.zero.1] at this; cases this
  have hfw := hp.fw
  simp only at hfw
  have hkl := h.wf.fits _ hik.2
  have hjl := h.inv.wf.fits _ hc.now
  rw [hc.head] at hjl
  refine ⟨(a / 4).toNat, j, by omega, ?_, ?_, by omega, ?_, hj, hc, ?_, ?_⟩
  · rw [hfw]; unfold fwd; rw [if_pos hi, hj]
  · omega
  · have := (List.getElem?_eq_some_iff.1 hik.2).1; have := h.wf.len; omega
  · rw [h.ws]; unfold sizeAt; omega
  · unfold sizeAt; omega

/-- .. that were met. -/
theorem GrOk.pop_seen (g : GrOk S e L ⟨tv, fr, ini ++ [(4 * (k : Int), 4 * (j : Int))], met⟩) (hj : e.at_ k = 4 * (j : Int)) (hs : tv.getD k 0 ≠ 0) :
    tv.getD k 0 = 4 * (j : Int) ∧ fr.getD j 0 = 4 * (k : Int) ∧ GrOk S e L ⟨tv, fr, ini, met⟩ := by
  have hkn : ∀ x, Known S ⟨tv, fr, ini ++ [(4 * (k : Int), 4 * (j : Int))], met⟩ x → Known S ⟨tv, fr, ini, met⟩ x := by
    intro x hx hi
    rcases hx hi with h1 | ⟨c, h1⟩
    · exact .inl h1
    · rcases List.mem_append.1 h1 with h1 | h1
      · exact .inr ⟨c, h1⟩
      · simp at h1
        left
        rw [h1.1, show (4 * (k : Int) / 4).toNat = k by omega]
        exact hs
  refine ⟨(g.to_ k hs).1.trans hj, g.tf k j hs hj, g.tl, g.fl, g.to_, g.fr_, g.tf, fun p hp => g.pair p (by simp [hp]), fun k i hk hi => hkn _ (g.shut k i hk hi), fun x hx => hkn _ (g.root x hx), g.met, ?_⟩
  have := g.ll; simp at this ⊢; omega

theorem GrOk.fresh (h : Ends S T e) (g : GrOk S e L ⟨tv, fr, ini, met⟩) (hj : e.at_ k = 4 * (j : Int)) (hj0 : 0 < j) (hs : tv.getD k 0 = 0) : fr.getD j 0 = 0 := by
  rcases Classical.em (fr.getD j 0 = 0) with a | a
  · exact a
  · obtain ⟨k', h1, h2⟩ := g.fr_ j a
    have := h.inv.inj k k' (by rw [hj]; omega) (hj.trans h2.symm)
    rw [← this] at h1
    exact absurd hs h1

/-- The fields of two objects, side by side. -/
def fieldPairs (S T : HS) (k j n : Nat) : List (Int × Int) := (List.range n).map fun i => (S.ws.getD (k + 1 + i) 0, T.ws.getD (j + 1 + i) 0)
theorem fieldPairs_succ (S T : HS) (k j n : Nat) : fieldPairs S T k j (n + 1) = fieldPairs S T k j n ++ [(S.ws.getD (k + 1 + n) 0, T.ws.getD (j + 1 + n) 0)] := by
  unfold fieldPairs; rw [List.range_succ, List.map_append]; rfl
theorem fieldPairs_len (S T : HS) (k j n : Nat) : (fieldPairs S T k j n).length = n := by unfold fieldPairs; simp

theorem getD_set_if {l : List Int} {k q : Nat} {v : Int} (hk : k < l.length) : (l.set k v).getD q 0 = if q = k then v else l.getD q 0 := by
  by_cases e : q = k
  · subst e; rw [if_pos rfl, getD_set_eq hk]
  · rw [if_neg e, getD_set_ne (fun h => e h.symm)]

/-- .. that were not met yet. -/
theorem GrOk.pop_new (h : Ends S T e) (g : GrOk S e L ⟨tv, fr, ini ++ [(4 * (k : Int), 4 * (j : Int))], met⟩) (hk0 : 0 < k) (hj0 : 0 < j) (hkl : k < S.ws.length) (hj : e.at_ k = 4 * (j : Int)) (hc : Copied S e e.tw.length k j) (hs : tv.getD k 0 = 0) :
    GrOk S e L ⟨tv.set k (4 * (j : Int)), fr.set j (4 * (k : Int)), ini ++ fieldPairs S T k j (tagAt S.ws k), met + sizeAt S.ws k⟩ := by
  have htl := g.tl
  have hfl := g.fl
  simp only at htl hfl
  have hjl : j < e.tw.length := by have := (List.getElem?_eq_some_iff.1 hc.now).1; have := h.inv.wf.len; omega
  have hto : ∀ q, (tv.set k (4 * (j : Int))).getD q 0 = if q = k then 4 * (j : Int) else tv.getD q 0 := fun q => getD_set_if (by omega)
  have hfr : ∀ q, (fr.set j (4 * (k : Int))).getD q 0 = if q = j then 4 * (k : Int) else fr.getD q 0 := fun q => getD_set_if (by omega)
  have hmono : ∀ q, tv.getD q 0 ≠ 0 → (tv.set k (4 * (j : Int))).getD q 0 ≠ 0 := by
    intro q hq; rw [hto]; split
    · omega
    · exact hq
  have hkn : ∀ x, Known S ⟨tv, fr, ini ++ [(4 * (k : Int), 4 * (j : Int))], met⟩ x → Known S ⟨tv.set k (4 * (j : Int)), fr.set j (4 * (k : Int)), ini ++ fieldPairs S T k j (tagAt S.ws k), met + sizeAt S.ws k⟩ x := by
    intro x hx hi
    rcases hx hi with h1 | ⟨c, h1⟩
    · exact .inl (hmono _ h1)
    · rcases List.mem_append.1 h1 with h1 | h1
      · exact .inr ⟨c, by simp [h1]⟩
      · simp at h1
        left
        simp only
        rw [h1.1, show (4 * (k : Int) / 4).toNat = k by omega, hto, if_pos rfl]
        omega
  refine ⟨by simp [htl], by simp [hfl], ?_, ?_, ?_, ?_, ?_, ?_, ?_, ?_⟩
  · intro q hq
    simp only at hq ⊢
    rw [hto] at hq ⊢
    split
    · rename_i e1; subst e1; exact ⟨hj.symm, by omega⟩
    · rename_i e1; rw [if_neg e1] at hq; exact g.to_ q hq
  · intro q hq
    simp only at hq ⊢
    rw [hfr] at hq
    split at hq
    · rename_i e1; subst e1; exact ⟨k, by rw [hto, if_pos rfl]; omega, hj⟩
    · obtain ⟨k', h1, h2⟩ := g.fr_ q hq
      exact ⟨k', hmono k' h1, h2⟩
  · intro q r hq hr
    simp only at hq ⊢
    rw [hto] at hq
    by_cases e1 : q = k
    · subst e1
      obtain rfl : r = j := by omega
      rw [hfr, if_pos rfl]
    · rw [if_neg e1] at hq
      have hrj : r ≠ j := by
        rintro rfl
        exact e1 (h.inv.inj q k (by rw [hr]; omega) (hr.trans hj.symm))
      rw [hfr, if_neg hrj]
      exact g.tf q r hq hr
  · intro p hp
    rcases List.mem_append.1 hp with hp | hp
    · exact g.pair p (by simp [hp])
    · obtain ⟨i, hi, rfl⟩ := List.mem_map.1 hp
      have hit := List.mem_range.1 hi
      have hf := h.wf.fits k hc.was
      have hf2 := h.inv.wf.fits j hc.now
      rw [hc.head] at hf2
      have hd := hc.done i hit (by unfold tagAt at hit; omega)
      have hl1 : k + 1 + i < S.ws.length := by unfold tagAt at hit; omega
      have hl2 : j + 1 + i < T.ws.length := by rw [h.ws]; unfold tagAt at hit; omega
      refine ⟨?_, hd.1, mayB_word (h.ptr k i hc.was (by unfold tagAt at hit; exact hit)), h.wf.u _ (List.mem_of_getElem? (getD_get hl1)), ?_⟩
      · show T.ws.getD (j + 1 + i) 0 = _
        rw [h.ws]; exact hd.2
      · show U64 (T.ws.getD (j + 1 + i) 0)
        exact h.inv.wf.u _ (h.ws ▸ List.mem_of_getElem? (getD_get hl2))
  · intro q i hq hi
    simp only at hq
    rw [hto] at hq
    by_cases e1 : q = k
    · subst e1
      intro _
      exact .inr ⟨T.ws.getD (j + 1 + i) 0, List.mem_append.2 (.inr (List.mem_map.2 ⟨i, List.mem_range.2 hi, rfl⟩))⟩
    · rw [if_neg e1] at hq
      exact hkn _ (g.shut q i hq hi)
  · intro x hx; exact hkn _ (g.root x hx)
  · have hm := g.met
    simp only at hm ⊢
    rw [hm]
    refine (sumO_set (p := fun q => decide (tv.getD q 0 ≠ 0)) (q := fun q => decide ((tv.set k (4 * (j : Int))).getD q 0 ≠ 0)) (k := k) hkl (by simp only [hs]; rfl) ?_ ?_).symm
    · simp only [hto, if_true]; simp; omega
    · intro q hq; simp only [hto, if_neg hq]
  · have hl := g.ll
    simp only [List.length_append, List.length_cons, List.length_nil] at hl ⊢
    rw [fieldPairs_len]
    unfold sizeAt tagAt
    omega

theorem GrOk.met_le (h : Ends S T e) (g : GrOk S e L ⟨tv, fr, ini, met⟩) : met + 1 ≤ T.ws.length := by
  have hm := g.met
  simp only at hm
  have := sumO_mono (p := fun q => decide (tv.getD q 0 ≠ 0)) (q := fun q => decide (e.at_ q ≠ 0)) (f := sizeAt S.ws) (m := S.ws.length) (fun q _ hq => by
    simp only [decide_eq_true_eq] at hq ⊢
    exact (g.to_ q hq).2)
  have h2 := h.inv.sum
  rw [h.ws]; omega

/-- At the end all that was copied has been met. -/
theorem GrOk.ended {S : HS} {l : List Int} (hw : WfH S.ws S.bs) (hs : S.ws.length ≤ 1048576) (hu : ∀ x ∈ l, 0 ≤ x ∧ x < 18446744073709551616) {T : HS} (h : Ends S T (gcEnd S l)) (g : GrOk S (gcEnd S l) l ⟨tv, fr, [], met⟩) : met + 1 = T.ws.length := by
  have hon := gc_only (P := fun k => tv.getD k 0 ≠ 0) hw hs hu (fun k i _ hk hi hx => by
    rcases g.shut k i hk hi hx with h1 | ⟨c, h1⟩
    · exact h1
    · cases h1) (fun x hx hi => by
    rcases g.root x hx hi with h1 | ⟨c, h1⟩
    · exact h1
    · cases h1)
  have hm := g.met
  simp only at hm
  have h2 := h.inv.sum
  rw [h.ws, h2, hm, Nat.add_comm]
  congr 1
  refine sumO_congr fun q _ => ?_
  rw [Bool.eq_iff_iff, decide_eq_true_eq, decide_eq_true_eq]
  exact ⟨fun hq => (g.to_ q hq).2, fun hq => hon q hq⟩

/-- The start: the roots. -/
theorem GrOk.start {S : HS} {l : List Int} (hw : WfH S.ws S.bs) (hs : S.ws.length ≤ 1048576) (hu : ∀ x ∈ l, 0 ≤ x ∧ x < 18446744073709551616) (hx : ∀ x ∈ l, S.is x = true ∨ x % 4 ≠ 0 ∨ x = 0) :
    GrOk S (gcEnd S l) l ⟨List.replicate (S.ws.length + 1) 0, List.replicate ((gcEnd S l).tw.length + 1) 0, l.zip (S.moved l), 0⟩ := by
  have hend := gc_end hw hs hu
  have hz : ∀ (n k : Nat), (List.replicate n (0 : Int)).getD k 0 = 0 := by
    intro n k
    simp only [List.getD_eq_getElem?_getD, List.getElem?_replicate]
    split <;> rfl
  have hml : (S.moved l).length = l.length := by rw [hend.out]; simp
  refine ⟨by simp, by simp, fun k hk => absurd (hz _ k) hk, fun j hj => absurd (hz _ j) hj, fun k j hk _ => absurd (hz _ k) hk, ?_, fun k i hk _ => absurd (hz _ k) hk, ?_, ?_, ?_⟩
  · intro p hp
    simp only at hp
    obtain ⟨i, hi⟩ := List.getElem?_of_mem hp
    rw [List.getElem?_zip_eq_some] at hi
    have h1 := List.mem_of_getElem? hi.1
    have h2 := List.mem_of_getElem? hi.2
    refine ⟨?_, hend.res _ h1, hx _ h1, hu _ h1, hend.u _ h2⟩
    have := hi.2
    rw [hend.out, List.getElem?_map, hi.1] at this
    simp at this
    exact this.symm
  · intro x hx' _
    right
    obtain ⟨i, hi⟩ := List.getElem?_of_mem hx'
    have hil := (List.getElem?_eq_some_iff.1 hi).1
    refine ⟨(S.moved l)[i]'(by omega), ?_⟩
    simp only
    apply List.mem_of_getElem? (i := i)
    rw [List.getElem?_zip_eq_some]
    exact ⟨hi, List.getElem?_eq_getElem (by omega)⟩
  · simp only [hz]
    have : ∀ m, sumO (fun _ => decide ((0 : Int) ≠ 0)) (sizeAt S.ws) m = 0 := by
      intro m
      induction m with
      | zero => rfl
      | succ m ih => simp only [sumO]; rw [ih]; simp
    exact (this _).symm
  · simp only [List.length_zip]; omega
end
end Go.Proofs.Ythkodbmijgehbaa
