/- More of append: a make's zeros appended ('append(s, make([]T, n)...)'). -/
import Derived.Test.YtkjfplldfjmbaaaSep
namespace Go.Proofs.Ytkjfplldfjmbaaa
open Go.RowKit

theorem zeroCells_one (z : Value) (m : Nat) : (Builtin.zeroCells #[z] m).toList = List.replicate m z := by
  apply List.ext_getElem
  · simp [Builtin.zeroCells]
  · intro k h1 h2
    simp [Builtin.zeroCells]
    rw [Nat.mod_one]
    rfl

section
variable {P : Program} {w : World} {R : HP}

theorem run_append_zeros (t ti : TypeId) (e : Nat) {ty : TypeId} (ik : IntKind) (i : TypeInfo) (z : Value) (bytes : Nat) (ht : P.underlying t = some (.slice e)) (hti : P.underlying ti = some (.int ik)) (hi : P.info? e = some i) (hz : i.zero = some z)
    (hsize : i.size = 1) (hby : i.bytes = bytes) (hzs : z.cells = #[z]) (h1 : z.oneCell' = true)
    {v : Value} {n : Nat} {xs : List Value} (h : sat w (own e 1 v n xs * R)) (hn0 : 0 < n)
    (m : Nat) (hbytes : (n + m) * bytes ≤ 140737488355328) (h63 : n + m ≤ 9223372036854775807) :
    ∃ v' w', (Builtin.append_ #[t, ti] ty #[v, .int .i64 m]).run P w = .ok v' w' ∧ sat w' (own e 1 v' (n + m) (xs ++ List.replicate m z) * R) ∧ Below 0 w w' := by
  subst hby
  have hw : IntKind.i64.wrap (m : Int) = m := IntWalk.i64_in _ (by omega)
  have hw0 : IntKind.i64.wrap 0 = 0 := by decide
  have hm0 : ¬ ((m : Int) < 0) := by omega
  have hmb : m * i.bytes ≤ 140737488355328 := Nat.le_trans (Nat.mul_le_mul_right _ (by omega)) hbytes
  have hbb : ¬ (281474976710656 < (m : Int) * (i.bytes : Int)) := by
    have : ((m * i.bytes : Nat) : Int) = (m : Int) * (i.bytes : Int) := by simp
    omega
  obtain ⟨g, cap, rfl, hn, hxl, hr⟩ := h.own_some hn0
  obtain ⟨cur, hs, h1', h2', h3', h4'⟩ := hr.open_row
  have hg := hs.left.get
  rw [Nat.mul_one] at h1' h2' hxl
  have hzl := zeroCells_one z m
  by_cases hroom : n + m ≤ cap
  · have hst := run_storeCells_at P g n e (List.replicate m z) 0 cur w hg (by simp; omega) (fun x hx => by rw [List.eq_of_mem_replicate hx]; exact h1)
    simp only [Nat.add_zero] at hst
    have hrun : (Builtin.append_ #[t, ti] ty #[.slice (some ⟨g, 0, none⟩) n cap, .int .i64 m]).run P w = .ok (.slice (some ⟨g, 0, none⟩) (n + m) cap) (w.setRow g (cur.toList.take n ++ List.replicate m z ++ cur.toList.drop (n + (List.replicate m z).length)).toArray) := by
      by_cases hm : m = 0
      · subst hm
        simp [Builtin.append_, run_underlying ht, run_underlying hti, sizeOf, typeInfo, hi, asInt, asIntOf, hw0, show n ≤ cap from hn, storeCells, setRow_self w g cur e (0, 0) hg]
      · simp [Builtin.append_, run_underlying ht, run_underlying hti, sizeOf, typeInfo, hi, hsize, asInt, asIntOf, hroom, storeCells, zeroValue, hz, hzs, hm, hw, hm0, hbb, hzl]
        simp [Addr.add_lit, hst]
    refine ⟨_, _, hrun, ?_, (show Below 0 w _ from ⟨rfl, rfl, rfl, by simp, fun k hk => by omega⟩)⟩
    refine sat.shut_own (by simp [hxl]) hroom (hs.setRow.shut_row ?_ ?_ h3' ?_)
    · simp only [List.size_toArray, List.length_append, List.length_take, List.length_drop, Array.length_toList, List.length_replicate]
      omega
    · simp [hxl]; exact hroom
    · rw [hxl] at h4'
      rw [h4']
      exact List.take_left
  · have hg' : ¬ (9223372036854775807 < ((n : Int) + (m : Int))) := by omega
    have hfit := growslice_fits (need := n + m) (old := cap) (bytes := i.bytes) (by omega) hbytes
    have h48' : ¬ (281474976710656 < Builtin.nextslicecap (n + m) cap * i.bytes) := by omega
    have holds : ∀ j u, xs[j]? = some u → w.cell? ((⟨g, 0, none⟩ : Addr).add j) = some u := fun j u hu => by
      have hadd : (⟨g, 0, none⟩ : Addr).add j = ⟨g, j, none⟩ := by unfold Addr.add; split <;> simp_all
      rw [hadd]; exact hr.row_cell hu
    have hfo := run_firstCells_some (P := P) w.drew i.size n ⟨g, 0, none⟩ n cap xs (by rw [hsize, hxl, Nat.mul_one]) (by simpa using holds)
    have hm : m ≠ 0 := by omega
    have hrun : (Builtin.append_ #[t, ti] ty #[.slice (some ⟨g, 0, none⟩) n cap, .int .i64 m]).run P w =
        .ok (.slice (some ⟨w.heap.size, 0, none⟩) (n + m) (grownCap w (n + m) cap e)) (w.drew.alloc (.cells (xs.toArray ++ Builtin.zeroCells #[z] m ++ Builtin.zeroCells #[z] (grownCap w (n + m) cap e - (n + m))) e)) := by
      simp [Builtin.append_, run_underlying ht, run_underlying hti, sizeOf, typeInfo, hi, hsize, asInt, asIntOf, hroom, zeroValue, hz, hzs, hm, hw, hm0, hbb, hg', h48', Question.forced, newRow, grownCap]
      rw [hsize] at hfo
      simp [hfo]
    refine ⟨_, _, hrun, ?_, (Below.refl 0 w).drew.alloc (Nat.zero_le _) _⟩
    have hge := grownCap_ge w (n + m) cap e
    have hcm : grownCap w (n + m) cap e ≤ maxLen := grownCap_le_maxLen w (n + m) cap e (by unfold maxLen; omega)
    have hR : sat w R := hr.right
    have hzs1 : ∀ q, (Builtin.zeroCells #[z] q).size = q := fun q => by simp [Builtin.zeroCells]
    refine sat.shut_own (by simp [hxl]) hge ((hR.drew.alloc _).shut_row ?_ ?_ hcm ?_)
    · simp only [Array.size_append, List.size_toArray, hzs1, hxl]; omega
    · simp [hxl]; exact hge
    · simp only [Array.toList_append, hzl]
      exact List.take_left

theorem wpList_append_zeros {ops : Array Oper} {rest : List Oper} {o : Oper} {a : Act} {Q : Exit → Act → World → Prop} (hgd : o.guard = none) (s x : Operand) (t ti : TypeId)
    (ho : o.op = .call { callee := .builtin .append, args := #[s, x], argTypes := #[t, ti] })
    (e : Nat) (ik : IntKind) (i : TypeInfo) (z : Value) (bytes : Nat) (ht : P.underlying t = some (.slice e)) (hti : P.underlying ti = some (.int ik)) (hi : P.info? e = some i) (hz : i.zero = some z)
    (hsize : i.size = 1) (hby : i.bytes = bytes) (hzs : z.cells = #[z]) (h1 : z.oneCell' = true)
    (v : Value) (n : Nat) (xs : List Value) (hs : a.eval s = v) (R : HP) (m : Nat) (hx : a.eval x = .int .i64 m)
    (k : ∀ v' w', sat w' (own e 1 v' (n + m) (xs ++ List.replicate m z) * R) → Below 0 w w' → wpList P ops Q rest (a.put o.dst v') w')
    (h : sat w (own e 1 v n xs * R)) (hn0 : 0 < n) (hbytes : (n + m) * bytes ≤ 140737488355328) (h63 : n + m ≤ 9223372036854775807) : wpList P ops Q (o :: rest) a w := by
  obtain ⟨v', w', hr, h2, h3⟩ := run_append_zeros (P := P) (w := w) (ty := o.type) t ti e ik i z bytes ht hti hi hz hsize hby hzs h1 h hn0 m hbytes h63
  refine wpList_plain hgd fun K hK => ?_
  unfold Oper.wp execOp
  simp only [ho, resolve, invoke, builtin, Sem.run_bind, Sem.run_pure, Result.andThen_ok, List.map_toArray, List.map_cons, List.map_nil, hs, hx, hr]
  exact hK _ _ (k v' w' h2 h3)

theorem madeCells_one (z : Value) (m : Nat) : (madeCells #[z] m).toList = List.replicate m z := by
  apply List.ext_getElem
  · simp [madeCells]
  · intro k h1 h2
    simp [madeCells]
    rw [Nat.mod_one]
    rfl

/-- make, of n elements of one cell each. -/
theorem wpList_make_sat {ops : Array Oper} {rest : List Oper} {o : Oper} {a : Act} {Q : Exit → Act → World → Prop} (hgd : o.guard = none) (t : TypeId) (x y : Operand) (ho : o.op = .makeSlice t x y)
    (e : Nat) (i : TypeInfo) (z : Value) (bytes : Nat) (ht : P.underlying t = some (.slice e)) (hi : P.info? e = some i) (hz : i.zero = some z) (hsize : i.size = 1) (hby : i.bytes = bytes) (hzs : z.cells = #[z])
    (kl kc : IntKind) (l : Int) (R : HP) (hx : a.eval x = .int kl l) (hy : a.eval y = .int kc l)
    (k : ∀ b w', sat w' (row e 1 b l.toNat (List.replicate l.toNat z) * R) → Below 0 w w' → wpList P ops Q rest (a.put o.dst (.slice (some ⟨b, 0, none⟩) l.toNat l.toNat)) w')
    (h : sat w R) (h0 : 0 ≤ l) (hbytes : bytes * l ≤ 281474976710656) (h63 : l ≤ 9223372036854775807) : wpList P ops Q (o :: rest) a w := by
  subst hby
  have hr := run_make (P := P) w t e i z ht hi hz kl kc l l h0 (Int.le_refl _) hbytes h63
  refine wpList_plain hgd fun K hK => ?_
  unfold Oper.wp execOp
  simp only [ho, Sem.run_bind, Sem.run_pure, Result.andThen_ok, hx, hy, hr]
  refine hK _ _ (k _ _ ?_ ((Below.refl 0 w).alloc (Nat.zero_le _) _))
  rw [hzs, hsize, Nat.mul_one]
  refine (h.alloc _).shut_row ?_ ?_ ?_ ?_
  · simp [size_madeCells]
  · simp
  · unfold maxLen; omega
  · rw [madeCells_one]; simp
end
end Go.Proofs.Ytkjfplldfjmbaaa
