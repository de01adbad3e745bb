/- append of one element, somewhat beyond what came in. -/
import Derived.Test.YthkodbmijgehbaaSep3
import Derived.Deep.DeepAppendWide
namespace Go.Proofs.Ythkodbmijgehbaa
open Go.RowKit

section
variable {P : Program} {w : World} {R : HP}
/-- append of one word, of what is the call's own. -/
theorem run_append_wide (t ty : TypeId) (e : Nat) (i : TypeInfo) (z : Value) (bytes : Nat) (ht : P.underlying t = some (.slice e)) (hi : P.info? e = some i) (hz : i.zero = some z)
    (hsize : i.size = 1) (hby : i.bytes = bytes) (hzs : z.cells.size = 1)
    {v : Value} {n : Nat} {xs : List Value} (h : sat w (own e 1 v n xs * R))
    (a : Addr) (m c : Nat) (news : List Value) (hl : news.length = m * 1) (hnews : ∀ j u, news[j]? = some u → w.cell? (a.add j) = some u) (h1 : ∀ u ∈ news, u.oneCell' = true)
    (hbytes : (n + m + (n + m) / 4 + 192) * bytes ≤ 281474976710656) (h63 : n + m ≤ maxLen) :
    ∃ v' w', (Builtin.append_ #[t, t] ty #[v, .slice (some a) m c]).run P w = .ok v' w' ∧ sat w' (own e 1 v' (n + m) (xs ++ news) * R) ∧ Below 0 w w' := by
  subst hby
  have hbb : (n + m) * i.bytes ≤ 281474976710656 := Nat.le_trans (Nat.mul_le_mul_right _ (by omega)) hbytes
  by_cases hsml : (n + m) * i.bytes ≤ 140737488355328
  · exact run_append_sat t ty e i z 1 i.bytes ht hi hz hsize rfl hzs h a m c news hl hnews h1 hsml h63
  have hsmall : n + m ≤ 9223372036854775807 := by simp only [maxLen] at h63; omega
  obtain ⟨hxl, h | ⟨g, cap, rfl, hn, hr⟩⟩ := h.open_own
  · obtain ⟨rfl, rfl, rfl, hR⟩ := h
    by_cases hm : m = 0
    · subst hm; exfalso; apply hsml; simp
    · have hr := run_append_nil (P := P) w t ty e i z ht hi hz a m c news (by rw [hsize]; exact hl) hnews (by omega) (by omega) (by have hb := hbb; simp only [Nat.zero_add] at hb; omega)
      refine ⟨_, _, hr, ?_, (Below.refl 0 w).drew.alloc (Nat.zero_le _) _⟩
      simp only [Nat.zero_add, List.nil_append]
      have hge := grownCap_ge w m 0 e
      have hcm : grownCap w m 0 e ≤ maxLen := grownCap_le_maxLen w m 0 e (by omega)
      refine sat.shut_own hl hge ((hR.drew.alloc _).shut_row ?_ ?_ hcm ?_)
      · simp only [Array.size_append, List.size_toArray, size_zeroCells, hzs, hl, Nat.mul_one]
        omega
      · rw [hl]; exact Nat.mul_le_mul_right _ hge
      · simp only [Array.toList_append]; exact List.take_left
  · obtain ⟨cur, hs, h1', h2', h3', h4'⟩ := hr.open_row
    have hg := hs.left.get
    by_cases hroom : n + m ≤ cap
    · have hfit : n * i.size + news.length ≤ cur.size := by rw [hl, h1', hsize, ← Nat.add_mul]; exact Nat.mul_le_mul_right _ hroom
      have hr := run_append_room (P := P) w t ty e i ht hi g n cap cur hg a m c news (by rw [hsize]; exact hl) hnews h1 hroom hfit
      refine ⟨_, _, hr, ?_, (show Below 0 w _ from ⟨rfl, rfl, rfl, by simp, fun k hk => by omega⟩)⟩
      refine sat.shut_own (by rw [List.length_append, hxl, hl, Nat.add_mul]) hroom (hs.setRow.shut_row ?_ ?_ h3' ?_)
      · simp only [List.size_toArray, List.length_append, List.length_take, List.length_drop, Array.length_toList, hsize]
        omega
      · rw [List.length_append, hxl, hl, ← Nat.add_mul]; exact Nat.mul_le_mul_right _ hroom
      · rw [hxl] at h4'
        rw [hsize, h4']
        exact List.take_left
    · have holds : ∀ j u, xs[j]? = some u → w.cell? ((⟨g, 0, none⟩ : Addr).add j) = some u := fun j u hu => by
        have hadd : (⟨g, 0, none⟩ : Addr).add j = ⟨g, j, none⟩ := by unfold Addr.add; split <;> simp_all
        rw [hadd]; exact hr.row_cell hu
      have hrun := run_append_grow (P := P) w t ty e i z ht hi hz ⟨g, 0, none⟩ n cap xs (by rw [hsize]; exact hxl) holds a m c news (by rw [hsize]; exact hl) hnews (by omega) (by omega) (growslice_fits_wide (by omega) hbytes)
      refine ⟨_, _, hrun, ?_, (Below.refl 0 w).drew.alloc (Nat.zero_le _) _⟩
      have hge := grownCap_ge w (n + m) cap e
      have hcm : grownCap w (n + m) cap e ≤ maxLen := grownCap_le_maxLen w (n + m) cap e h63
      have hR : sat w R := hr.right
      refine sat.shut_own (by rw [List.length_append, hxl, hl, Nat.add_mul]) hge ((hR.drew.alloc _).shut_row ?_ ?_ hcm ?_)
      · simp only [Array.size_append, List.size_toArray, size_zeroCells, hzs, hl, hxl, Nat.mul_one]
        omega
      · rw [List.length_append, hxl, hl, ← Nat.add_mul]; exact Nat.mul_le_mul_right _ hge
      · simp only [Array.toList_append]
        have : (xs ++ news) = xs.toArray.toList ++ news.toArray.toList := by simp
        rw [this]; exact List.take_left

theorem wpList_append_wide {ops : Array Oper} {rest : List Oper} {o : Oper} {a : Act} {Q : Exit → Act → World → Prop} (hgd : o.guard = none) (s x : Operand) (t : TypeId)
    (ho : o.op = .call { callee := .builtin .append, args := #[s, x], argTypes := #[t, t] })
    (e : Nat) (i : TypeInfo) (z : Value) (bytes : Nat) (ht : P.underlying t = some (.slice e)) (hi : P.info? e = some i) (hz : i.zero = some z)
    (hsize : i.size = 1) (hby : i.bytes = bytes) (hzs : z.cells.size = 1)
    (v : Value) (n : Nat) (xs : List Value) (hs : a.eval s = v) (R : HP) (b : Nat) (u : Value) (hx : a.eval x = .slice (some ⟨b, 0, none⟩) 1 1)
    (k : ∀ v' w', sat w' (own e 1 v' (n + 1) (xs ++ [u]) * R) → Below 0 w w' → wpList P ops Q rest (a.put o.dst v') w')
    (h : sat w (own e 1 v n xs * R)) (hc : w.cell? ⟨b, 0, none⟩ = some u) (h1 : u.oneCell' = true)
    (hbytes : (n + 1 + (n + 1) / 4 + 192) * bytes ≤ 281474976710656) (h63 : n + 1 ≤ maxLen) : wpList P ops Q (o :: rest) a w := by
  obtain ⟨v', w', hr, h2, h3⟩ := run_append_wide (P := P) (w := w) t o.type e i z bytes ht hi hz hsize hby hzs h ⟨b, 0, none⟩ 1 1 [u] rfl
    (by intro j y hj; match j, hj with | 0, hj => simp at hj; subst hj; simpa [Addr.add] using hc) (by intro y hy; simp at hy; subst hy; exact h1) hbytes h63
  refine wpList_plain hgd fun K hK => ?_
  unfold Oper.wp execOp
  simp only [ho, resolve, invoke, builtin, Sem.run_bind, Sem.run_pure, Result.andThen_ok, List.map_toArray, List.map_cons, List.map_nil, hs, hx, hr]
  exact hK _ _ (k v' w' h2 h3)
end
end Go.Proofs.Ythkodbmijgehbaa
