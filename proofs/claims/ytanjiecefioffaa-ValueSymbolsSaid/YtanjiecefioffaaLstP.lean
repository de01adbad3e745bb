/- A list of words: the call's own, or a collection's with nothing behind it; append of one word. -/
import Derived.Test.YtanjiecefioffaaSep5
import Derived.Test.YtanjiecefioffaaRowsIn
namespace Go.Proofs.Ytanjiecefioffaa
open Go.RowKit

def lstP (v : Value) (n : Nat) (xs : List Int) : HP := fun h => xs.length = n ∧ ((v = .slice none 0 0 ∧ n = 0) ∨ ∃ b cap full ys, v = .slice (some ⟨b, 0, none⟩) n cap ∧ n ≤ cap ∧ (cap = full ∨ cap = n) ∧ (cap = full → ys = []) ∧ row 22 1 b full ((xs ++ ys).map u64) h)

section
variable {w : World} {R : HP} {v : Value} {n : Nat} {xs : List Int}
theorem sat.open_lst (h : sat w (lstP v n xs * R)) : xs.length = n ∧ ((v = .slice none 0 0 ∧ n = 0) ∨ ∃ b cap full ys, v = .slice (some ⟨b, 0, none⟩) n cap ∧ n ≤ cap ∧ (cap = full ∨ cap = n) ∧ (cap = full → ys = []) ∧ sat w (row 22 1 b full ((xs ++ ys).map u64) * R)) := by
  obtain ⟨x, ⟨a, c, ⟨hl, ha⟩, hc, hd, hx⟩, hw⟩ := h
  refine ⟨hl, ?_⟩
  rcases ha with h | ⟨b, cap, full, ys, h1, h2, h3, h4, h5⟩
  · exact .inl h
  · exact .inr ⟨b, cap, full, ys, h1, h2, h3, h4, x, ⟨a, c, h5, hc, hd, hx⟩, hw⟩
theorem sat.lst_own (h : sat w (own 22 1 v n (xs.map u64) * R)) : sat w (lstP v n xs * R) := by
  refine h.mono_left fun p hp => ?_
  obtain ⟨hl, hp⟩ := hp
  refine ⟨by simpa using hl, ?_⟩
  rcases hp with ⟨h1, h2, h3⟩ | ⟨b, cap, h1, h2, h3⟩
  · exact .inl ⟨h1, h2⟩
  · exact .inr ⟨b, cap, cap, [], h1, h2, .inl rfl, fun _ => rfl, by simpa using h3⟩
theorem sat.lst_row {b full : Nat} {ys : List Int} (hl : xs.length = n) (h : sat w (row 22 1 b full ((xs ++ ys).map u64) * R)) (hf : n = full → ys = []) : sat w (lstP (.slice (some ⟨b, 0, none⟩) n n) n xs * R) :=
  h.mono_left fun _ hp => ⟨hl, .inr ⟨b, n, full, ys, rfl, Nat.le_refl _, .inr rfl, hf, hp⟩⟩
theorem sat.lst_reads (h : sat w (lstP v n xs * R)) : xs.length = n ∧ ∃ ao cap, v = .slice ao n cap ∧ Reads w ao xs := by
  obtain ⟨hl, ⟨hv, hn⟩ | ⟨b, cap, full, ys, hv, _, _, _, hr⟩⟩ := h.open_lst
  · refine ⟨hl, none, 0, by rw [hv, hn], ?_⟩
    intro j x hx
    rw [List.eq_nil_of_length_eq_zero (hl.trans hn)] at hx
    simp at hx
  · refine ⟨hl, _, cap, hv, ?_⟩
    intro j x hx
    refine reads_row hr j x ?_
    rw [List.getElem?_append_left (List.getElem?_eq_some_iff.1 hx).1]; exact hx
variable {P : Program}
theorem run_append_lst (ty : TypeId) (i : TypeInfo) (z : Value) (ht : P.underlying 35 = some (.slice 22)) (hi : P.info? 22 = some i) (hz : i.zero = some z)
    (hsize : i.size = 1) (hby : i.bytes = 8) (hzs : z.cells.size = 1) (h : sat w (lstP v n xs * R)) (b : Nat) (u : Int) (hc : w.cell? ⟨b, 0, none⟩ = some (.int .u64 u)) (hn : n ≤ 1048576) :
    ∃ v' w', (Builtin.append_ #[35, 35] ty #[v, .slice (some ⟨b, 0, none⟩) 1 1]).run P w = .ok v' w' ∧ sat w' (lstP v' (n + 1) (xs ++ [u]) * R) ∧ Below 0 w w' := by
  have hnews : ∀ j y, [Value.int .u64 u][j]? = some y → w.cell? ((⟨b, 0, none⟩ : Addr).add j) = some y := by
    intro j y hj
    match j, hj with
    | 0, hj => simp at hj; subst hj; simpa [Addr.add] using hc
  have h1 : ∀ y ∈ [Value.int .u64 u], y.oneCell' = true := by intro y hy; simp at hy; subst hy; rfl
  obtain ⟨hl, ⟨rfl, rfl⟩ | ⟨g, cap, full, ys, rfl, hnc, hcf, hys, hr⟩⟩ := h.open_lst
  · have hR : sat w (own 22 1 (.slice none 0 0) 0 [] * R) := h.right.nil_own
    obtain ⟨v', w', g1, g2, g3⟩ := run_append_sat (P := P) 35 ty 22 i z 1 8 ht hi hz hsize hby hzs hR ⟨b, 0, none⟩ 1 1 [.int .u64 u] rfl hnews h1 (by omega) (by unfold maxLen; omega)
    refine ⟨v', w', g1, ?_, g3⟩
    · rw [List.eq_nil_of_length_eq_zero hl]
      exact sat.lst_own (xs := [u]) g2
  · by_cases hroom : n + 1 ≤ cap
    · obtain rfl : cap = full := by omega
      have := hys rfl
      subst this
      rw [List.append_nil] at hr
      have hown := sat.shut_own (e := 22) (sz := 1) (by simpa using hl) hnc hr
      obtain ⟨v', w', g1, g2, g3⟩ := run_append_sat (P := P) 35 ty 22 i z 1 8 ht hi hz hsize hby hzs hown ⟨b, 0, none⟩ 1 1 [.int .u64 u] rfl hnews h1 (by omega) (by unfold maxLen; omega)
      refine ⟨v', w', g1, ?_, g3⟩
      exact sat.lst_own (by simpa using g2)
    · have holds : ∀ j u, (xs.map u64)[j]? = some u → w.cell? ((⟨g, 0, none⟩ : Addr).add j) = some u := fun j y hu => by
        have hadd : (⟨g, 0, none⟩ : Addr).add j = ⟨g, j, none⟩ := by unfold Addr.add; split <;> simp_all
        rw [hadd]
        have hjl := (List.getElem?_eq_some_iff.1 hu).1
        refine hr.row_cell ?_
        rw [List.map_append, List.getElem?_append_left hjl]; exact hu
      have hb := hr.row_bounds
      have hncap : cap = n := by omega
      have hrun := run_append_grow (P := P) w 35 ty 22 i z ht hi hz ⟨g, 0, none⟩ n cap (xs.map u64) (by rw [hsize]; simpa using hl) holds ⟨b, 0, none⟩ 1 1 [.int .u64 u] (by rw [hsize]; rfl) hnews (by omega) (by omega) (growslice_fits (by omega) (by rw [hby]; omega))
      refine ⟨_, _, hrun, ?_, (Below.refl 0 w).drew.alloc (Nat.zero_le _) _⟩
      have hge := grownCap_ge w (n + 1) cap 22
      have hcm : grownCap w (n + 1) cap 22 ≤ maxLen := grownCap_le_maxLen w (n + 1) cap 22 (by unfold maxLen; omega)
      have hR : sat w R := hr.right
      refine sat.lst_own (sat.shut_own (by simp [hl]) hge ((hR.drew.alloc _).shut_row ?_ ?_ hcm ?_))
      · simp only [Array.size_append, List.size_toArray, size_zeroCells, hzs, List.length_map, List.length_cons, List.length_nil, hl, Nat.mul_one]
        omega
      · simp only [List.length_map, List.length_append, List.length_cons, List.length_nil]; omega
      · simp only [Array.toList_append]
        have : ((xs ++ [u]).map u64) = (xs.map u64).toArray.toList ++ [Value.int .u64 u].toArray.toList := by simp
        rw [this]; exact List.take_left
theorem wpList_append_lst {ops : Array Oper} {rest : List Oper} {o : Oper} {a : Act} {Q : Exit → Act → World → Prop} (hgd : o.guard = none) (s x : Operand)
    (ho : o.op = .call { callee := .builtin .append, args := #[s, x], argTypes := #[35, 35] })
    (i : TypeInfo) (z : Value) (ht : P.underlying 35 = some (.slice 22)) (hi : P.info? 22 = some i) (hz : i.zero = some z)
    (hsize : i.size = 1) (hby : i.bytes = 8) (hzs : z.cells.size = 1)
    (v : Value) (n : Nat) (xs : List Int) (hs : a.eval s = v) (R : HP) (b : Nat) (u : Int) (hx : a.eval x = .slice (some ⟨b, 0, none⟩) 1 1)
    (k : ∀ v' w', sat w' (lstP v' (n + 1) (xs ++ [u]) * R) → Below 0 w w' → wpList P ops Q rest (a.put o.dst v') w')
    (h : sat w (lstP v n xs * R)) (hc : w.cell? ⟨b, 0, none⟩ = some (.int .u64 u)) (hn : n ≤ 1048576) : wpList P ops Q (o :: rest) a w := by
  obtain ⟨v', w', hr, h2, h3⟩ := run_append_lst (P := P) (w := w) o.type i z ht hi hz hsize hby hzs h b u hc hn
  refine wpList_plain hgd fun K hK => ?_
  unfold Oper.wp execOp
  simp only [ho, resolve, invoke, builtin, Sem.run_bind, Sem.run_pure, Result.andThen_ok, List.map_toArray, List.map_cons, List.map_nil, hs, hx, hr]
  exact hK _ _ (k v' w' h2 h3)
end
end Go.Proofs.Ytanjiecefioffaa
