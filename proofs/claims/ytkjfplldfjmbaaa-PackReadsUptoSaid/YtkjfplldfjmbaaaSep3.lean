/- append of one element; append as a step of a region that draws. -/
import Derived.Test.YtkjfplldfjmbaaaSep2
namespace Go.Proofs.Ytkjfplldfjmbaaa
open Go.RowKit

theorem wpList_append_one {P : Program} {w : World} {ops : Array Oper} {rest : List Oper} {o : Oper} {a : Act} {Q : Exit → Act → World → Prop} (hgd : o.guard = none) (s x : Operand) (t : TypeId)
    (ho : o.op = .call { callee := .builtin .append, args := #[s, x], argTypes := #[t, t] })
    (e : Nat) (i : TypeInfo) (z : Value) (bytes : Nat) (ht : P.underlying t = some (.slice e)) (hi : P.info? e = some i) (hz : i.zero = some z)
    (hsize : i.size = 1) (hby : i.bytes = bytes) (hzs : z.cells.size = 1)
    (v : Value) (n : Nat) (xs : List Value) (hs : a.eval s = v) (R : HP) (b : Nat) (u : Value) (hx : a.eval x = .slice (some ⟨b, 0, none⟩) 1 1)
    (k : ∀ v' w', sat w' (own e 1 v' (n + 1) (xs ++ [u]) * R) → Below 0 w w' → wpList P ops Q rest (a.put o.dst v') w')
    (h : sat w (own e 1 v n xs * R)) (hc : w.cell? ⟨b, 0, none⟩ = some u) (h1 : u.oneCell' = true)
    (hbytes : (n + 1) * bytes ≤ 140737488355328) (h63 : n + 1 ≤ maxLen) : wpList P ops Q (o :: rest) a w := by
  refine wpList_append_sat hgd s x t ho e i z 1 bytes ht hi hz hsize hby hzs v n xs hs R ⟨b, 0, none⟩ 1 1 [u] hx k h rfl ?_ ?_ hbytes h63
  · intro j y hj; match j, hj with | 0, hj => simp at hj; subst hj; simpa [Addr.add] using hc
  · intro y hy; simp at hy; subst hy; exact h1

section
variable {P : Program} {w : World} {R : HP}
/-- append, as a step of a region that draws. -/
theorem step_append_sat {ops : Array Oper} {o : Oper} {a : Act} {K : Act → World → Prop} {Q : Exit → Act → World → Prop} {E : Prop} (hgd : o.guard = none) (s x : Operand) (t : TypeId)
    (ho : o.op = .call { callee := .builtin .append, args := #[s, x], argTypes := #[t, t] })
    (e : Nat) (i : TypeInfo) (z : Value) (sz bytes : Nat) (ht : P.underlying t = some (.slice e)) (hi : P.info? e = some i) (hz : i.zero = some z)
    (hsize : i.size = sz) (hby : i.bytes = bytes) (hzs : z.cells.size = sz)
    (v : Value) (n : Nat) (xs : List Value) (hs : a.eval s = v) (R : HP) (h : sat w (own e sz v n xs * R))
    (ad : Addr) (m c : Nat) (news : List Value) (hx : a.eval x = .slice (some ad) m c) (hl : news.length = m * sz) (hnews : ∀ j u, news[j]? = some u → w.cell? (ad.add j) = some u) (h1 : ∀ u ∈ news, u.oneCell' = true)
    (hbytes : (n + m) * bytes ≤ 140737488355328) (h63 : n + m ≤ maxLen) (hm : 0 < m)
    (k : ∀ b' cap' w', sat w' (row e sz b' cap' (xs ++ news) * R) → n + m ≤ cap' → Below 0 w w' → K (a.put o.dst (.slice (some ⟨b', 0, none⟩) (n + m) cap')) w') :
    if Region.wanted o (yielded ops a.tmps) = true then Oper.wp P o a w K Q else E := by
  have hw : Region.wanted o (yielded ops a.tmps) = true := by simp [Region.wanted, hgd]
  rw [if_pos hw]
  obtain ⟨v', w', hr, h2, h3⟩ := run_append_sat (P := P) (w := w) t o.type e i z sz bytes ht hi hz hsize hby hzs h ad m c news hl hnews h1 hbytes h63
  obtain ⟨b', cap', rfl, hn, _, h4⟩ := h2.own_some (by omega)
  unfold Oper.wp execOp
  simp only [ho, resolve, invoke, builtin, Sem.run_bind, Sem.run_pure, Result.andThen_ok, List.map_toArray, List.map_cons, List.map_nil, hs, hx, hr]
  exact k _ _ _ h4 hn h3
end

end Go.Proofs.Ytkjfplldfjmbaaa
