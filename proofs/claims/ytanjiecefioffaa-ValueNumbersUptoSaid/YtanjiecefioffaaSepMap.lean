/- A map from strings to words, as a part of memory; its look-up and its store. -/
import Derived.Test.YtanjiecefioffaaSep2
import Derived.MapKept
namespace Go.Proofs.Ytanjiecefioffaa
open Go.RowKit Go.MapKept

abbrev SM := List (ByteArray × Int)
def smKV (p : ByteArray × Int) : Value × Value := (.string p.1, .int .u64 p.2)
/-- Block b is a map of these entries, in the order of their making. -/
def mapS (b : Nat) (l : SM) : HP := fun h => ∃ (es : Array MapEntry) (clock : Nat), blk b (.map es clock) h ∧ es.toList.map (fun e => (e.key, e.val)) = l.map smKV
def SM.get (l : SM) (s : ByteArray) : Option Int := (l.find? fun p => p.1 = s).map (·.2)
def SM.put (l : SM) (s : ByteArray) (v : Int) : SM := if l.any (fun p => p.1 = s) then l.map (fun p => if p.1 = s then (s, v) else p) else l ++ [(s, v)]

section
variable {P : Program} {w : World} {R : HP} {b : Nat} {l : SM}
theorem sat.open_map (h : sat w (mapS b l * R)) : ∃ (es : Array MapEntry) (clock : Nat), sat w (blk b (.map es clock) * R) ∧ es.toList.map (fun e => (e.key, e.val)) = l.map smKV := by
  obtain ⟨x, ⟨h1, h2, ⟨es, clock, hb, hl⟩, hR, hd, hu⟩, hw⟩ := h
  exact ⟨es, clock, ⟨x, ⟨h1, h2, hb, hR, hd, hu⟩, hw⟩, hl⟩
theorem sat.shut_map {es : Array MapEntry} {clock : Nat} (h : sat w (blk b (.map es clock) * R)) (hl : es.toList.map (fun e => (e.key, e.val)) = l.map smKV) : sat w (mapS b l * R) := by
  obtain ⟨x, ⟨h1, h2, hb, hR, hd, hu⟩, hw⟩ := h
  exact ⟨x, ⟨h1, h2, ⟨es, clock, hb, hl⟩, hR, hd, hu⟩, hw⟩
theorem sat.new_map (h : sat w R) : sat (w.alloc (.map #[] 0)) (mapS w.heap.size [] * R) := (h.alloc _).shut_map rfl

theorem find_str (s : ByteArray) : ∀ (es : List MapEntry) (l : SM) (i : Nat), es.map (fun e => (e.key, e.val)) = l.map smKV →
    (SM.get l s = none ∧ Instr.findNow .string (.string s) es i = some none ∧ l.any (fun p => p.1 = s) = false) ∨
    ∃ (v : Int) (j : Nat), SM.get l s = some v ∧ Instr.findNow .string (.string s) es i = some (some (i + j, .int .u64 v)) ∧ (∃ e, es[j]? = some e ∧ e.key = .string s) ∧ (∀ j' p, j' < j → l[j']? = some p → p.1 ≠ s) ∧ (∃ p, l[j]? = some p ∧ p.1 = s) := by
  intro es
  induction es with
  | nil =>
    intro l i h
    cases l with
    | nil => exact .inl ⟨rfl, rfl, rfl⟩
    | cons p l => simp at h
  | cons e es ih =>
    intro l i h
    cases l with
    | nil => simp at h
    | cons p l =>
      simp only [List.map_cons, List.cons.injEq, smKV, Prod.mk.injEq] at h
      obtain ⟨⟨hk, hv⟩, ht⟩ := h
      by_cases hs : p.1 = s
      · right
        refine ⟨p.2, 0, ?_, ?_, ⟨e, rfl, by rw [hk, hs]⟩, fun j' q hj => by omega, ⟨p, rfl, hs⟩⟩
        · unfold SM.get; simp [hs]
        · simp only [Instr.findNow, hk, Instr.sameNow, hs, (bytes_beq s s).2 rfl, hv, Nat.add_zero]
      · have hne : (s == p.1) = false := by
          cases hq : (s == p.1) with
          | false => rfl
          | true => exact absurd ((bytes_beq s p.1).1 hq).symm hs
        rcases ih l (i + 1) ht with ⟨h1, h2, h3⟩ | ⟨v, j, h1, h2, h3, h4, h5⟩
        · left
          refine ⟨?_, ?_, ?_⟩
          · unfold SM.get at *; simp [hs]; simpa using h1
          · simp only [Instr.findNow, hk, Instr.sameNow, hne]; exact h2
          · simp [List.any_cons, hs]; simpa using h3
        · right
          refine ⟨v, j + 1, ?_, ?_, h3, ?_, h5⟩
          · unfold SM.get at *; simp [hs]; simpa using h1
          · simp only [Instr.findNow, hk, Instr.sameNow, hne]; rw [h2]; congr 3; omega
          · intro j' q hj hq
            cases j' with
            | zero => simp at hq; subst hq; exact hs
            | succ j' => exact h4 j' q (by omega) hq

/-- 'v, ok := m[s]'. -/
theorem run_lookup_str (h : sat w (mapS b l * R)) {t kt et : TypeId} (ht : P.underlying t = some (.map kt et)) (hk : P.underlying kt = some .string) (hz : (zeroValue et).run P w = .ok (.int .u64 0) w) (s : ByteArray) :
    (Instr.lookup t (.map (some b)) (.string s) true).run P w = .ok (.tuple #[.int .u64 ((l.get s).getD 0), .bool (l.get s).isSome]) w := by
  obtain ⟨es, clock, hs, hl⟩ := h.open_map
  have hg := hs.left.get
  have hc : ∀ e, (Instr.checkKey e 10000 kt (.string s)).run P w = .ok () w := fun e => run_checkKey (w := w) hk (k := .string s) trivial e 9999
  rcases find_str s es.toList l 0 hl with ⟨h1, h2, _⟩ | ⟨v, j, h1, h2, _⟩
  · rw [h1]
    simp [Instr.lookup, run_underlying ht, Go.MapKept.run_getObj_map hg, Result.andThen, hc, run_findKey hk h2, hz]
  · rw [h1]
    simp [Instr.lookup, run_underlying ht, Go.MapKept.run_getObj_map hg, Result.andThen, hc, run_findKey hk h2]

/-- 'm[s] = v', of a string that is not there. -/
theorem run_store_str (h : sat w (mapS b l * R)) {t kt et : TypeId} (ht : P.underlying t = some (.map kt et)) (hk : P.underlying kt = some .string) (s : ByteArray) (v : Int) (hn : l.get s = none) :
    ∃ w', (Instr.mapUpdate t (.map (some b)) (.string s) (.int .u64 v)).run P w = .ok () w' ∧ sat w' (mapS b (l ++ [(s, v)]) * R) ∧ Below 0 w w' := by
  obtain ⟨es, clock, hs, hl⟩ := h.open_map
  have hg := hs.left.get
  have hc : ∀ e, (Instr.checkKey e 10000 kt (.string s)).run P w = .ok () w := fun e => run_checkKey (w := w) hk (k := .string s) trivial e 9999
  rcases find_str s es.toList l 0 hl with ⟨h1, h2, _⟩ | ⟨v', j, h1, h2, _⟩
  · obtain ⟨k1, k2⟩ := heap_set (o' := .map (es.push { key := .string s, val := .int .u64 v, born := clock }) (clock + 1)) hg
    refine ⟨{ w with heap := w.heap.setIfInBounds b (.map (es.push { key := .string s, val := .int .u64 v, born := clock }) (clock + 1)) }, ?_, ?_, ⟨rfl, rfl, rfl, by simp, fun k hk => by omega⟩⟩
    · simp [Instr.mapUpdate, run_underlying ht, Go.MapKept.run_getObj_map hg, Result.andThen, hc, run_findKey hk h2, Go.MapKept.run_setObj_map _ hg]
    · exact (hs.put k1 (fun k hk _ => k2 k hk)).shut_map (by simp [hl, smKV])
  · rw [hn] at h1; cases h1
end

section
variable {P : Program} {w : World} {R : HP} {b : Nat} {l : SM}
theorem wpList_lookup_str {ops : Array Oper} {rest : List Oper} {o : Oper} {a : Act} {Q : Exit → Act → World → Prop} (hgd : o.guard = none) (m x : Operand) (t : TypeId) (ho : o.op = .lookup t m x true)
    (kt et : TypeId) (ht : P.underlying t = some (.map kt et)) (hk : P.underlying kt = some .string) (hz : (zeroValue et).run P w = .ok (.int .u64 0) w) (s : ByteArray) (hm : a.eval m = .map (some b)) (hx : a.eval x = .string s)
    (h : sat w (mapS b l * R)) (k : wpList P ops Q rest (a.put o.dst (.tuple #[.int .u64 ((l.get s).getD 0), .bool (l.get s).isSome])) w) : wpList P ops Q (o :: rest) a w := by
  refine wpList_plain hgd fun K hK => ?_
  unfold Oper.wp execOp
  simp [ho, hm, hx, run_lookup_str h ht hk hz s, Result.andThen]
  exact hK _ _ k
theorem wpList_store_str {ops : Array Oper} {rest : List Oper} {o : Oper} {a : Act} {Q : Exit → Act → World → Prop} (hgd : o.guard = none) (m x y : Operand) (t : TypeId) (ho : o.op = .mapUpdate t m x y)
    (kt et : TypeId) (ht : P.underlying t = some (.map kt et)) (hk : P.underlying kt = some .string) (s : ByteArray) (v : Int) (hm : a.eval m = .map (some b)) (hx : a.eval x = .string s) (hy : a.eval y = .int .u64 v)
    (hn : l.get s = none) (h : sat w (mapS b l * R)) (k : ∀ w', sat w' (mapS b (l ++ [(s, v)]) * R) → Below 0 w w' → wpList P ops Q rest (a.put o.dst undef) w') : wpList P ops Q (o :: rest) a w := by
  obtain ⟨w', hr, h2, h3⟩ := run_store_str h ht hk s v hn
  refine wpList_plain hgd fun K hK => ?_
  unfold Oper.wp execOp
  simp [ho, hm, hx, hy, hr, Result.andThen]
  exact hK _ _ (k w' h2 h3)
end
end Go.Proofs.Ytanjiecefioffaa
