/- append of a string's bytes to a slice of the call's own; a string's bytes as a row of its own. -/
import Derived.Test.YtkjfplldfjmbaaaSep5
import Derived.Lib.AppendStr
namespace Go.Proofs.Ytkjfplldfjmbaaa
open Go.RowKit
/-- A string's bytes. -/
def bytesO (s : ByteArray) : List Int := s.data.toList.map fun b => (b.toNat : Int)
abbrev bv (x : Int) : Value := .int .u8 x
theorem bytesO_len (s : ByteArray) : (bytesO s).length = s.size := by unfold bytesO; rw [List.length_map, Array.length_toList]; rfl
theorem strCells_eq (s : ByteArray) : Lib.strCells s = (bytesO s).map bv := by unfold Lib.strCells bytesO; rw [List.map_map]; rfl
theorem bytesO_u (s : ByteArray) : ∀ x ∈ bytesO s, 0 ≤ x ∧ x < 256 := by
  intro x hx
  unfold bytesO at hx
  obtain ⟨b, _, rfl⟩ := List.mem_map.1 hx
  have := b.toNat_lt
  omega
theorem bytesO_inj {s t : ByteArray} (h : bytesO s = bytesO t) : s = t := by
  unfold bytesO at h
  have h2 : s.data.toList = t.data.toList := by
    have inj : ∀ (l m : List UInt8), (l.map fun b => (b.toNat : Int)) = (m.map fun b => (b.toNat : Int)) → l = m := by
      intro l
      induction l with
      | nil => intro m hm; cases m with
        | nil => rfl
        | cons b m => simp at hm
      | cons a l ih => intro m hm; cases m with
        | nil => simp at hm
        | cons b m =>
          simp only [List.map_cons, List.cons.injEq] at hm
          obtain ⟨h1, h2⟩ := hm
          have : a = b := UInt8.toNat_inj.1 (by omega)
          rw [this, ih m h2]
    exact inj _ _ h
  cases s; cases t
  simp only at h2
  rw [ByteArray.mk.injEq]
  exact Array.ext' h2
section
variable {P : Program} {w : World} {R : HP}
theorem run_append_str (t u ty e : TypeId) (i : TypeInfo) (ht : P.underlying t = some (.slice e)) (hu : P.underlying u = some .string) (hi : P.info? e = some i) (hz : i.zero = some (.int .u8 0)) (hsize : i.size = 1) (hby : i.bytes = 1)
    {v : Value} {n : Nat} {xs : List Value} (h : sat w (own e 1 v n xs * R)) (s : ByteArray) (hbytes : n + s.size ≤ 140737488355328) :
    ∃ v' w', (Builtin.append_ #[t, u] ty #[v, .string s]).run P w = .ok v' w' ∧ sat w' (own e 1 v' (n + s.size) (xs ++ Lib.strCells s) * R) ∧ Below 0 w w' := by
  have h63 : n + s.size ≤ maxLen := by unfold maxLen; omega
  have hsl := Lib.strCells_length s
  obtain ⟨hxl, h | ⟨g, cap, rfl, hn, hr⟩⟩ := h.open_own
  · obtain ⟨rfl, rfl, rfl, hR⟩ := h
    by_cases hm : s.size = 0
    · refine ⟨.slice none 0 0, w, ?_, ?_, Below.refl _ _⟩
      · simp [Builtin.append_, run_underlying ht, run_underlying hu, sizeOf, typeInfo, hi, Builtin.lenOf, hm, Builtin.firstCells]
      · have : Lib.strCells s = [] := List.eq_nil_of_length_eq_zero (by omega)
        rw [this, hm]
        exact hR.nil_own
    · have hr := run_append_nil_string (P := P) (w := w) t u ty e i (.int .u8 0) ht hu hi hz s (by omega) (by omega) (by rw [hby]; omega)
      refine ⟨_, _, hr, ?_, (Below.refl 0 w).drew.alloc (Nat.zero_le _) _⟩
      simp only [Nat.zero_add, List.nil_append]
      have hge := grownCap_ge w s.size 0 e
      have hcm : grownCap w s.size 0 e ≤ maxLen := grownCap_le_maxLen w s.size 0 e (by unfold maxLen; omega)
      have hz1 : (Value.int IntKind.u8 0).cells.size = 1 := rfl
      refine sat.shut_own (by omega) hge ((hR.drew.alloc _).shut_row ?_ ?_ hcm ?_)
      · simp only [Array.size_append, Array.size_map, size_zeroCells, hz1]
        have : s.data.size = s.size := rfl
        omega
      · rw [hsl]; omega
      · rw [Array.toList_append, Array.toList_map]
        exact List.take_left
  · obtain ⟨cur, hs, h1', h2', h3', h4'⟩ := hr.open_row
    have hg := hs.left.get
    by_cases hroom : n + s.size ≤ cap
    · have hr := Lib.run_append_room_string (P := P) w t u ty e i ht hu hi hsize g n cap cur hg s hroom (by omega)
      refine ⟨_, _, hr, ?_, (show Below 0 w _ from ⟨rfl, rfl, rfl, by simp, fun k hk => by omega⟩)⟩
      refine sat.shut_own (by rw [List.length_append, hxl, hsl]; omega) hroom (hs.setRow.shut_row ?_ ?_ h3' ?_)
      · simp only [List.size_toArray, List.length_append, List.length_take, List.length_drop, Array.length_toList, hsl]
        omega
      · rw [List.length_append, hxl, hsl]; omega
      · rw [hxl, Nat.mul_one] at h4'
        rw [h4']
        exact List.take_left
    · have holds : ∀ j u, xs[j]? = some u → w.cell? ((⟨g, 0, none⟩ : Addr).add j) = some u := fun j u hu => by
        have hadd : (⟨g, 0, none⟩ : Addr).add j = ⟨g, j, none⟩ := by unfold Addr.add; split <;> simp_all
        rw [hadd]; exact hr.row_cell hu
      have hrun := Lib.run_append_grow_string (P := P) w t u ty e i (.int .u8 0) ht hu hi hz ⟨g, 0, none⟩ n cap xs (by rw [hsize]; exact hxl) holds s (by omega) (by omega) (growslice_fits (by omega) (by rw [hby]; omega))
      refine ⟨_, _, hrun, ?_, (Below.refl 0 w).drew.alloc (Nat.zero_le _) _⟩
      have hge := grownCap_ge w (n + s.size) cap e
      have hcm : grownCap w (n + s.size) cap e ≤ maxLen := grownCap_le_maxLen w (n + s.size) cap e h63
      have hR : sat w R := hr.right
      have hz1 : (Value.int IntKind.u8 0).cells.size = 1 := rfl
      refine sat.shut_own (by rw [List.length_append, hxl, hsl]; omega) hge ((hR.drew.alloc _).shut_row ?_ ?_ hcm ?_)
      · simp only [Array.size_append, List.size_toArray, size_zeroCells, hz1, hsl, hxl]
        omega
      · rw [List.length_append, hxl, hsl]; omega
      · simp only [Array.toList_append]
        have : (xs ++ Lib.strCells s) = xs.toArray.toList ++ (Lib.strCells s).toArray.toList := by simp
        rw [this]; exact List.take_left
theorem wpList_append_str {ops : Array Oper} {rest : List Oper} {o : Oper} {a : Act} {Q : Exit → Act → World → Prop} (hgd : o.guard = none) (sl x : Operand) (t u : TypeId)
    (ho : o.op = .call { callee := .builtin .append, args := #[sl, x], argTypes := #[t, u] })
    (e : Nat) (i : TypeInfo) (ht : P.underlying t = some (.slice e)) (hu : P.underlying u = some .string) (hi : P.info? e = some i) (hz : i.zero = some (.int .u8 0)) (hsize : i.size = 1) (hby : i.bytes = 1)
    (v : Value) (n : Nat) (xs : List Int) (hs : a.eval sl = v) (R : HP) (s : ByteArray) (hx : a.eval x = .string s)
    (k : ∀ v' w', sat w' (own e 1 v' (xs ++ bytesO s).length ((xs ++ bytesO s).map bv) * R) → Below 0 w w' → wpList P ops Q rest (a.put o.dst v') w')
    (hn : xs.length = n) (h : sat w (own e 1 v n (xs.map bv) * R)) (hbytes : n + s.size ≤ 140737488355328) : wpList P ops Q (o :: rest) a w := by
  obtain ⟨v', w', hr, h2, h3⟩ := run_append_str (P := P) (w := w) t u o.type e i ht hu hi hz hsize hby h s hbytes
  refine wpList_plain hgd fun K hK => ?_
  unfold Oper.wp execOp
  simp only [ho, resolve, invoke, builtin, Sem.run_bind, Sem.run_pure, Result.andThen_ok, List.map_toArray, List.map_cons, List.map_nil, hs, hx, hr]
  refine hK _ _ (k v' w' ?_ h3)
  rw [List.length_append, hn, bytesO_len, List.map_append, ← strCells_eq]
  exact h2
end
end Go.Proofs.Ytkjfplldfjmbaaa
