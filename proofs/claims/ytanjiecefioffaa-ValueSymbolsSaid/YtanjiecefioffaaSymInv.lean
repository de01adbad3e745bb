/- ValueSymbols, plainly: what holds while names are made symbols. -/
import Derived.Test.YtanjiecefioffaaSymPure
import Derived.Test.YtanjiecefioffaaStoreKeep
namespace Go.Proofs.Ytanjiecefioffaa
open Go.RowKit

structure SymInv (names : List ByteArray) (T k L : Nat) (S : HS) (Y : StS) (ls : List Int) : Prop where
  tm : Y.tm = S.times
  tb : S.times ≤ T
  size : S.size = 32768
  len : S.ws.length ≤ L
  ll : ls.length = k
  got : ∀ j s, j < k → names[j]? = some s → Y.syms.get s = ls[j]?
  sym : ∀ s v, Y.syms.get s = some v → SymIn S (bytesOf s) v ∧ s.size ≤ 300
  ord : ∀ s, s ∈ Y.ord ↔ (Y.syms.get s).isSome = true
  ol : Y.ord.length ≤ k
theorem SM.get_app (l : SM) (s t : ByteArray) (v : Int) : SM.get (l ++ [(s, v)]) t = (SM.get l t).or (if s = t then some v else none) := by
  induction l with
  | nil => rw [List.nil_append, SM.get_cons]; simp [SM.get]
  | cons p l ih =>
    rw [List.cons_append, SM.get_cons, SM.get_cons, ih]
    split <;> simp
theorem SM.updAll_get (f : ByteArray → Int) (t : ByteArray) : ∀ (r : List (ByteArray × Int)) (l : SM), (∀ p ∈ r, p.2 = f p.1 ∧ (l.get p.1).isSome = true) → (t ∈ r.map (·.1) → (l.updAll r).get t = some (f t)) ∧ (t ∉ r.map (·.1) → (l.updAll r).get t = l.get t) := by
  intro r
  induction r with
  | nil => intro l _; exact ⟨fun h => absurd h (by simp), fun _ => rfl⟩
  | cons p r ih =>
    intro l h
    obtain ⟨h1, h2⟩ := h p (by simp)
    obtain ⟨g1, g2⟩ := ih (l.upd p.1 p.2) (fun q hq => ⟨(h q (by simp [hq])).1, by rw [SM.upd_isSome]; exact (h q (by simp [hq])).2⟩)
    unfold SM.updAll
    have hu := SM.upd_get l p.1 p.2 t h2
    refine ⟨fun hm => ?_, fun hm => ?_⟩
    · by_cases hr : t ∈ r.map (·.1)
      · exact g1 hr
      · rw [g2 hr, hu]
        rw [List.map_cons, List.mem_cons] at hm
        rcases hm with e | e
        · rw [if_pos e, h1, e]
        · exact absurd e hr
    · rw [List.map_cons, List.mem_cons, not_or] at hm
      rw [g2 hm.2, hu, if_neg hm.1]

section
variable {names : List ByteArray} {T k L : Nat} {S : HS} {Y : StS} {ls : List Int}
theorem SymInv.old (h : SymInv names T k L S Y ls) {s : ByteArray} {v : Int} (hs : names[k]? = some s) (hv : Y.syms.get s = some v) : SymInv names T (k + 1) (L + 43) S Y (ls ++ [v]) := by
  have hll := h.ll
  refine ⟨h.tm, h.tb, h.size, by have := h.len; omega, by simp [h.ll], ?_, h.sym, h.ord, by have := h.ol; omega⟩
  intro j t hj ht
  by_cases e : j = k
  · subst e
    rw [hs] at ht
    cases ht
    rw [List.getElem?_append_right (by omega), hll, Nat.sub_self]
    exact hv
  · rw [List.getElem?_append_left (by omega)]
    exact h.got j t (by omega) ht
theorem sym_len (S : HS) (b : List Int) : (S.sym b).ws.length = S.ws.length + 4 + (b.length + 7) / 8 ∧ (S.sym b).size = S.size ∧ (S.sym b).times = S.times := by
  obtain ⟨h1, h2, h3⟩ := text_len S b
  have h4 := wordsOf_len b
  refine ⟨?_, h2, h3⟩
  unfold HS.sym HS.part
  simp [h1]
  omega
theorem SymInv.new (h : SymInv names T k L S Y ls) (hw : WfH S.ws S.bs) {s : ByteArray} (hs : names[k]? = some s) (hsz : s.size ≤ 300) (hv : Y.syms.get s = none) :
    SymInv names T (k + 1) (L + 43) (S.sym (bytesOf s)) (Y.sym s (4 * ((S.text (bytesOf s)).ws.length : Int))) (ls ++ [4 * ((S.text (bytesOf s)).ws.length : Int)]) := by
  have hll := h.ll
  have hbl := bytesOf_len s
  obtain ⟨l1, l2, l3⟩ := sym_len S (bytesOf s)
  have hext : Ext S (S.sym (bytesOf s)) := (part_ext S 3 0 _ 0 _ _).trans (part_ext (S.text (bytesOf s)) 4 1 0 2 _ 1)
  have hin := sym_in (S := S) (bytesOf s) hw
  generalize 4 * ((S.text (bytesOf s)).ws.length : Int) = p at *
  have hget : ∀ t, (Y.sym s p).syms.get t = (Y.syms.get t).or (if s = t then some p else none) := fun t => SM.get_app _ _ _ _
  refine ⟨h.tm.trans l3.symm, by rw [l3]; exact h.tb, by rw [l2]; exact h.size, by have := h.len; omega, by simp [hll], ?_, ?_, ?_, ?_⟩
  · intro j t hj ht
    rw [hget]
    by_cases e : j = k
    · subst e
      rw [hs] at ht
      cases ht
      rw [List.getElem?_append_right (by omega), hll, Nat.sub_self, hv, if_pos rfl]
      rfl
    · rw [List.getElem?_append_left (by omega), h.got j t (by omega) ht, List.getElem?_eq_getElem (by omega)]
      rfl
  · intro t v ht
    rw [hget] at ht
    cases hg : Y.syms.get t with
    | some v' =>
      rw [hg] at ht
      simp at ht
      subst ht
      obtain ⟨a, b⟩ := h.sym t v' hg
      exact ⟨a.ext hext hw (by rw [bytesOf_len]; omega), b⟩
    | none =>
      rw [hg] at ht
      by_cases e : s = t
      · subst e
        rw [if_pos rfl] at ht
        simp at ht
        subst ht
        exact ⟨hin, hsz⟩
      · rw [if_neg e] at ht; cases ht
  · intro t
    rw [hget]
    unfold StS.sym
    simp only [List.mem_append, List.mem_singleton]
    rw [h.ord t]
    cases hg : Y.syms.get t with
    | some v' => simp
    | none => by_cases e : s = t <;> simp [e, eq_comm]
  · unfold StS.sym; simp; exact h.ol
theorem SymInv.text (h : SymInv names T k L S Y ls) (hw : WfH S.ws S.bs) (b : List Int) (hb : b.length = 7) : SymInv names T k (L + 3) (S.text b) Y ls := by
  obtain ⟨l1, l2, l3⟩ := text_len S b
  have h4 := wordsOf_len b
  refine ⟨h.tm.trans l3.symm, by rw [l3]; exact h.tb, by rw [l2]; exact h.size, by have := h.len; omega, h.ll, h.got, ?_, h.ord, h.ol⟩
  intro t v ht
  obtain ⟨a, c⟩ := h.sym t v ht
  exact ⟨a.ext (part_ext S 3 0 _ 0 _ _) hw (by rw [bytesOf_len]; omega), c⟩
theorem SymInv.u (h : SymInv names T k L S Y ls) (hw : WfH S.ws S.bs) (hs : S.ws.length ≤ 1048576) {s : ByteArray} {v : Int} (hv : Y.syms.get s = some v) : 0 ≤ v ∧ v < 18446744073709551616 := by
  have hi := (h.sym s v hv).1.is
  have := is_lt hw hi
  have := is_nonneg hw hi
  omega
theorem SymInv.lsu (h : SymInv names T k L S Y ls) (hw : WfH S.ws S.bs) (hs : S.ws.length ≤ 1048576) (hn : k ≤ names.length) : ∀ x ∈ ls, 0 ≤ x ∧ x < 18446744073709551616 := by
  intro x hx
  obtain ⟨j, hj⟩ := List.mem_iff_getElem?.1 hx
  have hjl := (List.getElem?_eq_some_iff.1 hj).1
  have hll := h.ll
  have hg := h.got j _ (by omega) (List.getElem?_eq_getElem (show j < names.length by omega))
  exact h.u hw hs (hg.trans hj)
theorem SymInv.keep (h : SymInv names T k L S Y ls) (hw : WfH S.ws S.bs) (hp : PtrOk S.ws S.bs) (hs : S.ws.length ≤ 1048576) (hn : k ≤ names.length) :
    SymInv names (T + 1) k L (S.collect (ls ++ Y.words)) (Y.kept S ls) (ls.map (fwd S (gcEnd S (ls ++ Y.words)))) := by
  have hall : ∀ x ∈ ls ++ Y.words, 0 ≤ x ∧ x < 18446744073709551616 := by
    intro x hx
    rcases List.mem_append.1 hx with hx | hx
    · exact h.lsu hw hs hn x hx
    · unfold StS.words at hx
      obtain ⟨s, hs', rfl⟩ := List.mem_map.1 hx
      have h1 := (h.ord s).1 hs'
      obtain ⟨v, hv⟩ := Option.isSome_iff_exists.1 h1
      rw [hv]; exact h.u hw hs hv
  have he := gc_end hw hs hall
  have hok := gc_ok hw hp hs hall
  have hll := h.ll
  have hout : (S.moved (ls ++ Y.words)).drop ls.length = Y.words.map (fwd S (gcEnd S (ls ++ Y.words))) := by
    rw [he.out, List.map_append, List.drop_append_of_le_length (by simp), List.drop_of_length_le (by simp), List.nil_append]
  have hget : ∀ t, (t ∈ Y.ord → (Y.kept S ls).syms.get t = some (fwd S (gcEnd S (ls ++ Y.words)) ((Y.syms.get t).getD 0))) ∧ (t ∉ Y.ord → (Y.kept S ls).syms.get t = Y.syms.get t) := by
    intro t
    unfold StS.kept
    simp only
    rw [hout]
    have h1 := SM.updAll_get (fun s => fwd S (gcEnd S (ls ++ Y.words)) ((Y.syms.get s).getD 0)) t (Y.ord.zip (Y.words.map (fwd S (gcEnd S (ls ++ Y.words))))) Y.syms (by
      rintro ⟨s, y⟩ hz
      obtain ⟨i, hi⟩ := List.mem_iff_getElem?.1 hz
      rw [List.getElem?_zip_eq_some] at hi
      obtain ⟨h1, h2⟩ := hi
      unfold StS.words at h2
      rw [List.getElem?_map, List.getElem?_map, h1] at h2
      simp at h2
      exact ⟨h2.symm, (h.ord s).1 (List.mem_of_getElem? h1)⟩)
    rw [List.map_fst_zip (by unfold StS.words; simp)] at h1
    exact h1
  refine ⟨rfl, by show S.times + 1 ≤ T + 1; have := h.tb; omega, h.size, Nat.le_trans hok.2.2 h.len, by simp [hll], ?_, ?_, ?_, h.ol⟩
  · intro j s hj hs'
    have hg := h.got j s hj hs'
    rw [List.getElem?_eq_getElem (by omega)] at hg
    rw [(hget s).1 ((h.ord s).2 (by rw [hg]; rfl)), List.getElem?_map, List.getElem?_eq_getElem (by omega), hg]
    rfl
  · intro s v hv
    by_cases hm : s ∈ Y.ord
    · rw [(hget s).1 hm] at hv
      obtain ⟨v0, h0⟩ := Option.isSome_iff_exists.1 ((h.ord s).1 hm)
      rw [h0] at hv
      simp at hv
      subst hv
      obtain ⟨a, b⟩ := h.sym s v0 h0
      refine ⟨a.moved hw hs hall (he.res v0 (List.mem_append.2 (.inr ?_))) (by rw [bytesOf_len]; omega), b⟩
      unfold StS.words
      exact List.mem_map.2 ⟨s, hm, by rw [h0]; rfl⟩
    · rw [(hget s).2 hm] at hv
      exact absurd ((h.ord s).2 (by rw [hv]; rfl)) hm
  · intro s
    show s ∈ Y.ord ↔ _
    by_cases hm : s ∈ Y.ord
    · rw [(hget s).1 hm]; simp [hm]
    · rw [(hget s).2 hm]; exact h.ord s
theorem SymInv.name (h : SymInv names T k L S Y ls) (hw : WfH S.ws S.bs) {j : Nat} {s : ByteArray} {x : Int} (hj : j < k) (hs : names[j]? = some s) (hx : ls[j]? = some x) : S.nameOk x = true ∧ S.name x = s := by
  obtain ⟨a, b⟩ := h.sym s x ((h.got j s hj hs).trans hx)
  have h1 := a.name hw (bytesOf_u s) (by rw [bytesOf_len]; omega)
  rw [strOf_bytesOf] at h1
  exact h1
theorem SymInv.one (h : SymInv names T k L S Y ls) (hw : WfH S.ws S.bs) {i j : Nat} {s t : ByteArray} {x y : Int} (hi : i < k) (hj : j < k) (hs : names[i]? = some s) (ht : names[j]? = some t) (hx : ls[i]? = some x) (hy : ls[j]? = some y) : x = y ↔ s = t := by
  constructor
  · rintro rfl
    rw [← (h.name hw hi hs hx).2, ← (h.name hw hj ht hy).2]
  · rintro rfl
    have h1 := (h.got i s hi hs).trans hx
    have h2 := (h.got j s hj ht).trans hy
    rw [h1] at h2
    exact Option.some.inj h2
end
end Go.Proofs.Ytanjiecefioffaa
