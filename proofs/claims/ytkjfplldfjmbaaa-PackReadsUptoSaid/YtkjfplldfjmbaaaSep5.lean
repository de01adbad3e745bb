/- append of a slice that may be nil. -/
import Derived.Test.YtkjfplldfjmbaaaSep3
namespace Go.Proofs.Ytkjfplldfjmbaaa
open Go.RowKit

section
variable {P : Program} {w : World} {R : HP}
/-- Values that can be read from an address on, if there is one. -/
def CellsAt (w : World) (ao : Option Addr) (news : List Value) : Prop := ∀ j u, news[j]? = some u → ∃ a, ao = some a ∧ w.cell? (a.add j) = some u

theorem run_append_opt (t ty : TypeId) (e : Nat) (i : TypeInfo) (z : Value) (sz bytes : Nat) (ht : P.underlying t = some (.slice e)) (hi : P.info? e = some i) (hz : i.zero = some z)
    (hsize : i.size = sz) (hby : i.bytes = bytes) (hzs : z.cells.size = sz) (hsz : 0 < sz)
    {v : Value} {n : Nat} {xs : List Value} (h : sat w (own e sz v n xs * R))
    (ao : Option Addr) (m c : Nat) (news : List Value) (hl : news.length = m * sz) (hnews : CellsAt w ao news) (h1 : ∀ u ∈ news, u.oneCell' = true)
    (hbytes : (n + m) * bytes ≤ 140737488355328) (h63 : n + m ≤ maxLen) :
    ∃ v' w', (Builtin.append_ #[t, t] ty #[v, .slice ao m c]).run P w = .ok v' w' ∧ sat w' (own e sz v' (n + m) (xs ++ news) * R) ∧ Below 0 w w' := by
  cases ao with
  | some a =>
    refine run_append_sat t ty e i z sz bytes ht hi hz hsize hby hzs h a m c news hl ?_ h1 hbytes h63
    intro j u hj
    obtain ⟨a', h, hc⟩ := hnews j u hj
    cases h; exact hc
  | none =>
    have hnil : news = [] := by
      cases news with
      | nil => rfl
      | cons x l => obtain ⟨a, h, _⟩ := hnews 0 x rfl; cases h
    subst hnil
    have hm : m = 0 := by
      rcases Nat.eq_zero_or_pos m with h | h
      · exact h
      · have := Nat.mul_pos h hsz; simp at hl; omega
    subst hm
    refine ⟨v, w, ?_, by simpa using h, Below.refl _ _⟩
    obtain ⟨hxl, h | ⟨g, cap, rfl, hn, hr⟩⟩ := h.open_own
    · obtain ⟨rfl, rfl, rfl, hR⟩ := h
      simp [Builtin.append_, run_underlying ht, sizeOf, typeInfo, hi, Builtin.lenOf, Builtin.firstCells]
    · simp [Builtin.append_, run_underlying ht, sizeOf, typeInfo, hi, Builtin.lenOf, Builtin.firstCells, loadCells, hn, storeCells]

theorem wpList_append_opt {ops : Array Oper} {rest : List Oper} {o : Oper} {a : Act} {Q : Exit → Act → World → Prop} (hgd : o.guard = none) (s x : Operand) (t : TypeId)
    (ho : o.op = .call { callee := .builtin .append, args := #[s, x], argTypes := #[t, t] })
    (e : Nat) (i : TypeInfo) (z : Value) (sz bytes : Nat) (ht : P.underlying t = some (.slice e)) (hi : P.info? e = some i) (hz : i.zero = some z)
    (hsize : i.size = sz) (hby : i.bytes = bytes) (hzs : z.cells.size = sz) (hsz : 0 < sz)
    (v : Value) (n : Nat) (xs : List Value) (hs : a.eval s = v) (R : HP)
    (ao : Option Addr) (m c : Nat) (news : List Value) (hx : a.eval x = .slice ao m c)
    (k : ∀ v' w', sat w' (own e sz v' (n + m) (xs ++ news) * R) → Below 0 w w' → wpList P ops Q rest (a.put o.dst v') w')
    (h : sat w (own e sz v n xs * R)) (hl : news.length = m * sz) (hnews : CellsAt w ao news) (h1 : ∀ u ∈ news, u.oneCell' = true)
    (hbytes : (n + m) * bytes ≤ 140737488355328) (h63 : n + m ≤ maxLen) : wpList P ops Q (o :: rest) a w := by
  obtain ⟨v', w', hr, h2, h3⟩ := run_append_opt (P := P) (w := w) t o.type e i z sz bytes ht hi hz hsize hby hzs hsz h ao m c news hl hnews h1 hbytes h63
  refine wpList_plain hgd fun K hK => ?_
  unfold Oper.wp execOp
  simp only [ho, resolve, invoke, builtin, Sem.run_bind, Sem.run_pure, Result.andThen_ok, List.map_toArray, List.map_cons, List.map_nil, hs, hx, hr]
  exact hK _ _ (k v' w' h2 h3)
theorem CellsAt.words {w : World} {ao : Option Addr} {l : List Int} (k : IntKind) (h : ∀ (j : Nat) x, l[j]? = some x → ∃ a, ao = some a ∧ w.cell? (a.add j) = some (.int k x)) : CellsAt w ao (l.map fun x => .int k x) := by
  intro j u hj
  rw [List.getElem?_map] at hj
  cases hx : l[j]? with
  | none => rw [hx] at hj; cases hj
  | some y => rw [hx] at hj; cases hj; exact h j y hx
end
end Go.Proofs.Ytkjfplldfjmbaaa
