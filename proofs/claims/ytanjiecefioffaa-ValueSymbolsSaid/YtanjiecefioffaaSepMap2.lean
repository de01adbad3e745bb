/- A map from strings to words: its look-up without 'ok', its store of a key that is there. -/
import Derived.Test.YtanjiecefioffaaSepMap
namespace Go.Proofs.Ytanjiecefioffaa
open Go.RowKit Go.MapKept

/-- The first entry of a key is set. -/
def SM.upd : SM → ByteArray → Int → SM
  | [], _, _ => []
  | p :: l, s, v => if p.1 = s then (s, v) :: l else p :: SM.upd l s v
theorem SM.get_cons (p : ByteArray × Int) (l : SM) (s : ByteArray) : SM.get (p :: l) s = if p.1 = s then some p.2 else SM.get l s := by
  unfold SM.get
  rw [List.find?_cons]
  by_cases h : p.1 = s <;> simp [h]
theorem SM.upd_keys (l : SM) (s : ByteArray) (v : Int) : (l.upd s v).map (·.1) = l.map (·.1) := by
  induction l with
  | nil => rfl
  | cons p l ih =>
    unfold SM.upd
    split
    · rename_i h; simp [h]
    · simp [ih]
theorem SM.upd_get (l : SM) (s : ByteArray) (v : Int) (t : ByteArray) (h : (l.get s).isSome = true) : (l.upd s v).get t = if t = s then some v else l.get t := by
  induction l with
  | nil => simp [SM.get] at h
  | cons p l ih =>
    rw [SM.get_cons] at h
    unfold SM.upd
    by_cases hp : p.1 = s
    · rw [if_pos hp, SM.get_cons]
      by_cases e : s = t
      · rw [if_pos e, if_pos e.symm]
      · rw [if_neg e, if_neg (fun h => e h.symm), SM.get_cons, if_neg (by rw [hp]; exact e)]
    · rw [if_neg hp] at h ⊢
      rw [SM.get_cons, SM.get_cons, ih h]
      by_cases e : p.1 = t
      · rw [if_pos e, if_neg (by rintro rfl; exact hp e), if_pos e]
      · rw [if_neg e, if_neg e]
theorem SM.get_isSome (l : SM) (s : ByteArray) : (l.get s).isSome = true ↔ s ∈ l.map (·.1) := by
  induction l with
  | nil => simp [SM.get]
  | cons p l ih =>
    rw [SM.get_cons, List.map_cons, List.mem_cons]
    by_cases h : p.1 = s
    · rw [if_pos h]; simp [h]
    · rw [if_neg h, ih]
      exact ⟨fun h => .inr h, fun h' => h'.resolve_left fun e => h e.symm⟩
theorem SM.upd_isSome (l : SM) (s : ByteArray) (v : Int) (t : ByteArray) : ((l.upd s v).get t).isSome = (l.get t).isSome := by
  have h1 := SM.get_isSome (l.upd s v) t
  have h2 := SM.get_isSome l t
  rw [SM.upd_keys] at h1
  cases a : ((l.upd s v).get t).isSome <;> cases b : (l.get t).isSome <;> simp_all
def SM.updAll (l : SM) : List (ByteArray × Int) → SM
  | [] => l
  | p :: r => SM.updAll (l.upd p.1 p.2) r
theorem SM.updAll_app (r : List (ByteArray × Int)) (p : ByteArray × Int) : ∀ l : SM, l.updAll (r ++ [p]) = (l.updAll r).upd p.1 p.2 := by
  induction r with
  | nil => intro l; rfl
  | cons q r ih => intro l; exact ih _
theorem SM.updAll_isSome (r : List (ByteArray × Int)) (t : ByteArray) : ∀ l : SM, ((l.updAll r).get t).isSome = (l.get t).isSome := by
  induction r with
  | nil => intro l; rfl
  | cons q r ih => intro l; unfold SM.updAll; rw [ih, SM.upd_isSome]
theorem SM.upd_modify (s : ByteArray) (v : Int) : ∀ (l : SM) (j : Nat), (∀ j' p, j' < j → l[j']? = some p → p.1 ≠ s) → (∃ p, l[j]? = some p ∧ p.1 = s) → l.upd s v = l.modify j fun _ => (s, v) := by
  intro l
  induction l with
  | nil => rintro j _ ⟨p, hp, _⟩; simp at hp
  | cons p l ih =>
    intro j h1 h2
    cases j with
    | zero =>
      obtain ⟨q, hq, hs⟩ := h2
      simp at hq
      subst hq
      unfold SM.upd
      rw [if_pos hs]
      rfl
    | succ j =>
      have hp : p.1 ≠ s := h1 0 p (by omega) rfl
      unfold SM.upd
      rw [if_neg hp, ih j (fun j' q hj hq => h1 (j' + 1) q (by omega) (by simpa using hq)) (by simpa using h2)]
      rfl
theorem entries_modify {es : Array MapEntry} {l : SM} (h : es.toList.map (fun e => (e.key, e.val)) = l.map smKV) (j : Nat) (s : ByteArray) (v : Int) :
    (es.modify j fun e => { e with key := .string s, val := .int .u64 v }).toList.map (fun e => (e.key, e.val)) = (l.modify j fun _ => (s, v)).map smKV := by
  apply List.ext_getElem?
  intro i
  have hi := congrArg (fun q : List (Value × Value) => q[i]?) h
  simp only [List.getElem?_map] at hi
  rw [List.getElem?_map, List.getElem?_map, Array.toList_modify, List.getElem?_modify, List.getElem?_modify]
  by_cases e : j = i
  · subst e
    cases h1 : es.toList[j]? with
    | none => rw [h1] at hi; cases h2 : l[j]? with
      | none => simp
      | some p => rw [h2] at hi; cases hi
    | some q => rw [h1] at hi; cases h2 : l[j]? with
      | none => rw [h2] at hi; cases hi
      | some p => simp [smKV]
  · simp only [if_neg e]
    cases h1 : es.toList[i]? with
    | none => rw [h1] at hi; cases h2 : l[i]? with
      | none => simp
      | some p => rw [h2] at hi; cases hi
    | some q => rw [h1] at hi; cases h2 : l[i]? with
      | none => rw [h2] at hi; cases hi
      | some p => rw [h2] at hi; simpa using hi

def setObj (w : World) (b : Nat) (o : Obj) : World := { w with heap := w.heap.setIfInBounds b o }
section
variable {P : Program} {w : World} {R : HP} {b : Nat} {l : SM}
/-- 'm[s]'. -/
theorem run_lookup_str1 (h : sat w (mapS b l * R)) {t kt et : TypeId} (ht : P.underlying t = some (.map kt et)) (hk : P.underlying kt = some .string) (hz : (zeroValue et).run P w = .ok (.int .u64 0) w) (s : ByteArray) :
    (Instr.lookup t (.map (some b)) (.string s) false).run P w = .ok (.int .u64 ((l.get s).getD 0)) w := by
  obtain ⟨es, clock, hs, hl⟩ := h.open_map
  have hg := hs.left.get
  have hc : ∀ e, (Instr.checkKey e 10000 kt (.string s)).run P w = .ok () w := fun e => run_checkKey (w := w) hk (k := .string s) trivial e 9999
  rcases find_str s es.toList l 0 hl with ⟨h1, h2, _⟩ | ⟨v, j, h1, h2, _⟩
  · rw [h1]
    simp [Instr.lookup, run_underlying ht, Go.MapKept.run_getObj_map hg, Result.andThen, hc, run_findKey hk h2, hz]
  · rw [h1]
    simp [Instr.lookup, run_underlying ht, Go.MapKept.run_getObj_map hg, Result.andThen, hc, run_findKey hk h2]

/-- 'm[s] = v', of a string that is there. -/
theorem run_update_str (h : sat w (mapS b l * R)) {t kt et : TypeId} (ht : P.underlying t = some (.map kt et)) (hk : P.underlying kt = some .string) (s : ByteArray) (v : Int) (hn : (l.get s).isSome = true) :
    ∃ o, (∀ n, (Instr.mapUpdate t (.map (some b)) (.string s) (.int .u64 v)).run P (w.drewN n) = .ok () ((setObj w b o).drewN n)) ∧ sat (setObj w b o) (mapS b (l.upd s v) * R) ∧ Below 0 w (setObj w b o) := by
  obtain ⟨es, clock, hs, hl⟩ := h.open_map
  have hg := hs.left.get
  rcases find_str s es.toList l 0 hl with ⟨h1, h2, _⟩ | ⟨v', j, h1, h2, ⟨e, h3, h4⟩, h5, h6⟩
  · rw [h1] at hn; cases hn
  · obtain ⟨k1, k2⟩ := heap_set (o' := .map (es.modify j fun e => { e with key := .string s, val := .int .u64 v }) clock) hg
    refine ⟨.map (es.modify j fun e => { e with key := .string s, val := .int .u64 v }) clock, ?_, ?_, ⟨rfl, rfl, rfl, by simp [setObj], fun k hk => by omega⟩⟩
    · intro n
      have hgn : (w.drewN n).heap[b]? = some (.map es clock) := hg
      have hc : ∀ e, (Instr.checkKey e 10000 kt (.string s)).run P (w.drewN n) = .ok () (w.drewN n) := fun e => run_checkKey (w := w.drewN n) hk (k := .string s) trivial e 9999
      have hj : es[j]? = some e := by simpa using h3
      rw [Nat.zero_add] at h2
      simp [Instr.mapUpdate, run_underlying ht, Go.MapKept.run_getObj_map hgn, Result.andThen, hc, run_findKey hk h2, hj, h4, run_keyThatStays (d := .string) (k := .string s) trivial, Go.MapKept.run_setObj_map _ hgn]
      rfl
    · rw [SM.upd_modify s v l j h5 h6]
      exact (hs.put k1 (fun k hk _ => k2 k hk)).shut_map (entries_modify hl j s v)
end
end Go.Proofs.Ytanjiecefioffaa
