/- A datum that came in. -/
import Derived.Test.YtkjfplldfjmbaaaRows
import Derived.Test.YtkjfplldfjmbaaaDmCopy
import Derived.Lib.SmallJoins
namespace Go.Proofs.Ytkjfplldfjmbaaa
open Go.RowKit Go.ChangeShapes Go.WideShapes

section
variable {H : Type} {enc : TypeId × Value → H} {W : World} {base : Nat} {spare : Nat → Bool} {held : Bool}
theorem dm_bulk_one (d : DataW H) : 1 ≤ Rows.uptoBulk d := by
  cases d with
  | lit l => cases l <;> simp [Rows.uptoBulk]
  | _ => simp [Rows.uptoBulk]
theorem dm_bulk_all (l : List (DataW H)) : l.length ≤ Rows.uptoBulkAll l := by
  induction l with
  | nil => exact Nat.zero_le _
  | cons d l ih => simp only [Rows.uptoBulkAll, List.length_cons]; have := dm_bulk_one d; omega
theorem dm_limbs {fuel : Nat} {v : Value} {y : DataW H × List MemPlace} (h : DataW.trod enc Try.prog W base spare held fuel 55 [v] = some y) :
    ∃ ao ca a, v = .slice ao a.length ca ∧ (∀ w, sat w (whole W) → MagW w ao a) ∧ (∀ x ∈ a, 0 ≤ x ∧ x < 4294967296) ∧ a.length ≤ ca ∧ a.length + 1 ≤ Rows.uptoBulk y.1 := by
  rcases open_ints Try.underlying55 Try.underlying66 (by kernel_rfl) h with ⟨e0, e1⟩ | ⟨a, len, cap, zs, e0, _, hlc, _, hzl, hy, hcell, hwf⟩
  · simp at e0
    exact ⟨none, 0, [], e0, fun w _ j x hx => by simp at hx, fun x hx => by simp at hx, Nat.le_refl _, dm_bulk_one _⟩
  · simp at e0
    subst e0
    have hlz : len ≤ zs.length := by rw [hzl]; split <;> omega
    refine ⟨some a, cap, zs.take len, by simp; omega, ?_, ?_, ?_, ?_⟩
    · intro w hw j x hx
      rw [List.getElem?_take] at hx
      split at hx
      · refine ⟨a, rfl, ?_⟩
        have h1 : W.cell? (a.add j) = some (.int .u32 x) := by
          rw [hcell j (by omega), List.getD_eq_getElem?_getD, hx]; rfl
        exact (World.cell?_of_block (hw.whole_get _ (World.block_lt_of_cell? W _ h1))).trans h1
      · cases hx
    · intro x hx
      have := hwf x (List.mem_of_mem_take hx)
      simp [Lit.wf] at this
      have h0 : IntKind.u32.min = 0 := rfl
      have h1 : IntKind.u32.max = 4294967295 := rfl
      omega
    · simp; omega
    · rcases DataW.trod_slice Try.underlying55 h with ⟨e0, _⟩ | ⟨a', len', cap', elems, rest, n, _, e0, hx, _, _, _, hlen, _⟩
      · simp at e0
      · simp at e0
        obtain ⟨rfl, rfl, rfl⟩ := e0
        rw [hx]
        simp only [Rows.uptoBulk]
        have := dm_bulk_all (elems.map (·.1))
        rw [List.length_map] at this
        simp
        omega
/-- A cell that is read lies at no spot. -/
theorem dm_addr {w : World} {a : Addr} {v : Value} (h : w.cell? a = some v) : a = ⟨a.block, a.off, none⟩ := by
  unfold World.cell? at h
  split at h
  · split at h
    · cases h
    · rename_i hs
      cases a with
      | mk b o s => cases s <;> simp_all
  · cases h
theorem dm_add {b o n : Nat} : (⟨b, o, none⟩ : Addr).add n = ⟨b, o + n, none⟩ := by unfold Addr.add; split <;> simp_all
theorem dm_sum {α : Type} (f g : α → Nat) : ∀ l : List α, (∀ x ∈ l, f x ≤ g x) → (l.map f).sum ≤ (l.map g).sum
  | [], _ => Nat.le_refl _
  | x :: l, h => by
    have := dm_sum f g l fun y hy => h y (by simp [hy])
    have := h x (by simp)
    simp only [List.map_cons, List.sum_cons]
    omega
theorem dm_sizes (l : List Dm) : Dm.sizes l = (l.map Dm.size).sum := by
  induction l with
  | nil => rfl
  | cons d l ih => simp only [Dm.sizes, List.map_cons, List.sum_cons, ih]
theorem dm_bulks (l : List (DataW H)) : Rows.uptoBulkAll l = (l.map Rows.uptoBulk).sum := by
  induction l with
  | nil => rfl
  | cons d l ih => simp only [Rows.uptoBulkAll, List.map_cons, List.sum_cons, ih]
theorem dm_row {n : Nat} (ih : ∀ cs y, DataW.trod enc Try.prog W base spare held n 59 cs = some y → ∃ d, DK (whole W) d cs ∧ d.size ≤ Rows.uptoBulk y.1) :
    ∀ (elems : List (DataW H × List MemPlace)) (a : Addr) (k : Nat), (∀ i, i < elems.length → (W.cells? base (a.add ((k + i) * 7)) 7).bind (DataW.trod enc Try.prog W base spare held n 59) = elems[i]?) → (a.spot = none ∨ k = 0) →
    ∃ l : List Dm, l.length = elems.length ∧ DKs (whole W) l (some a) k ∧ Dm.sizes l ≤ Rows.uptoBulkAll (elems.map (·.1))
  | [], a, k, _, _ => ⟨[], rfl, DKs.nil, by simp [Dm.sizes]⟩
  | y :: elems, a, k, h, hk => by
    have h0 := h 0 (by simp)
    rw [Nat.add_zero] at h0
    cases hc : W.cells? base (a.add (k * 7)) 7 with
    | none => rw [hc] at h0; simp at h0
    | some cs =>
      rw [hc] at h0
      simp only [Option.bind_some, List.getElem?_cons_zero] at h0
      obtain ⟨d, hd, hz⟩ := ih cs y h0
      obtain ⟨_, hl7, hcell⟩ := World.cells?_some hc
      have hsp : a.spot = none := by
        rcases hk with h | rfl
        · exact h
        · have h1 := hcell 0 (by omega)
          rw [List.getElem?_eq_getElem (by omega)] at h1
          have h2 := dm_addr h1
          have h3 : ((a.add (0 * 7)).add 0) = a := by simp [Addr.add]
          rw [h3] at h2
          rw [h2]
      have ha : a = ⟨a.block, a.off, none⟩ := by cases a; simp_all
      obtain ⟨l, hll, hdl, hzl⟩ := dm_row ih elems a (k + 1) (fun i hi => by
        have := h (i + 1) (by simp; omega)
        rw [show k + (i + 1) = k + 1 + i by omega] at this
        simpa using this) (.inl hsp)
      refine ⟨d :: l, by simp [hll], ?_, by simp only [Dm.sizes, List.map_cons, Rows.uptoBulkAll]; omega⟩
      unfold DKs
      refine ⟨⟨a.block, a.off, cs, by rw [← ha], ?_, hd⟩, hdl⟩
      intro w hw j v hv
      have hj : j < 7 := by have := (List.getElem?_eq_some_iff.1 hv).1; omega
      have h1 := hcell j hj
      rw [hv, ha, dm_add, dm_add] at h1
      exact (World.cell?_of_block (hw.whole_get _ (World.block_lt_of_cell? W _ h1))).trans h1
theorem dm_slice {fuel : Nat} (ih : ∀ n, n < fuel → ∀ cs y, DataW.trod enc Try.prog W base spare held n 59 cs = some y → ∃ d, DK (whole W) d cs ∧ d.size ≤ Rows.uptoBulk y.1) {v : Value} {y : DataW H × List MemPlace}
    (h : DataW.trod enc Try.prog W base spare held fuel 35 [v] = some y) :
    ∃ ao c l, v = .slice ao l.length c ∧ l.length ≤ c ∧ DKs (whole W) l ao 0 ∧ Dm.sizes l + 1 ≤ Rows.uptoBulk y.1 := by
  have h7 : Try.prog.cellsOf 59 = 7 := by kernel_rfl
  rcases DataW.trod_slice Try.underlying35 h with ⟨e0, e1⟩ | ⟨a, len, cap, elems, rest, n, rfl, e0, hx, _, hlc, _, hlen, hel, _⟩
  · simp at e0
    exact ⟨none, 0, [], e0, Nat.le_refl _, DKs.nil, by have := dm_bulk_one y.1; simpa [Dm.sizes] using this⟩
  · simp at e0
    subst e0
    obtain ⟨l, hll, hdl, hzl⟩ := dm_row (ih n (by omega)) elems a 0 (fun i hi => by
      have := hel i (by omega)
      rw [h7] at this
      rw [Nat.zero_add]
      exact this) (.inr rfl)
    refine ⟨some a, cap, l, by rw [hll, hlen], by omega, hdl, ?_⟩
    rw [hx]
    simp only [Rows.uptoBulk]
    omega
set_option maxRecDepth 100000 in
theorem dm_trod : ∀ (fuel : Nat) (cs : List Value) (y : DataW H × List MemPlace), DataW.trod enc Try.prog W base spare held fuel 59 cs = some y → ∃ d, DK (whole W) d cs ∧ d.size ≤ Rows.uptoBulk y.1 := by
  intro fuel
  induction fuel using Nat.strongRecOn with
  | ind fuel ih =>
    intro cs y h
    obtain ⟨xs, n, rfl, rfl, hl, hxl, hf⟩ := DataW.trod_struct Try.underlying59 h
    have h7 : Try.prog.cellsOf 59 = 7 := by kernel_rfl
    rw [h7] at hl
    match cs, hl with
    | [v0, v1, v2, v3, v4, v5, v6], _ =>
    have k3 : Try.prog.cellsOf 3 = 1 := by kernel_rfl
    have k51 : Try.prog.cellsOf 57 = 2 := by kernel_rfl
    have k9 : Try.prog.cellsOf 9 = 1 := by kernel_rfl
    have k52 : Try.prog.cellsOf 35 = 1 := by kernel_rfl
    have k4 : Try.prog.cellsOf 4 = 1 := by kernel_rfl
    have k49 : Try.prog.cellsOf 55 = 1 := by kernel_rfl
    have f0 : DataW.trod enc Try.prog W base spare held n 3 (([v0, v1, v2, v3, v4, v5, v6].drop 0).take (Try.prog.cellsOf 3)) = xs[0]? := hf 0 _ rfl
    have f1 : DataW.trod enc Try.prog W base spare held n 3 (([v0, v1, v2, v3, v4, v5, v6].drop 1).take (Try.prog.cellsOf 3)) = xs[1]? := hf 1 _ rfl
    have f2 : DataW.trod enc Try.prog W base spare held n 57 (([v0, v1, v2, v3, v4, v5, v6].drop 2).take (Try.prog.cellsOf 57)) = xs[2]? := hf 2 _ rfl
    have f3 : DataW.trod enc Try.prog W base spare held n 9 (([v0, v1, v2, v3, v4, v5, v6].drop 4).take (Try.prog.cellsOf 9)) = xs[3]? := hf 3 _ rfl
    have f4 : DataW.trod enc Try.prog W base spare held n 35 (([v0, v1, v2, v3, v4, v5, v6].drop 5).take (Try.prog.cellsOf 35)) = xs[4]? := hf 4 _ rfl
    have f5 : DataW.trod enc Try.prog W base spare held n 35 (([v0, v1, v2, v3, v4, v5, v6].drop 6).take (Try.prog.cellsOf 35)) = xs[5]? := hf 5 _ rfl
    rw [k3] at f0 f1
    rw [k51] at f2
    rw [k9] at f3
    rw [k52] at f4 f5
    match xs, hxl with
    | [x0, x1, x2, x3, x4, x5], _ =>
    simp only [List.drop, List.take, List.getElem?_cons_zero, List.getElem?_cons_succ] at f0 f1 f2 f3 f4 f5
    obtain ⟨k, e0, rfl, w0⟩ := DataW.trod_int Try.underlying3 f0
    obtain ⟨m, e1, rfl, w1⟩ := DataW.trod_int Try.underlying3 f1
    obtain ⟨s, e3, rfl, w3⟩ := DataW.trod_string Try.underlying9 f3
    obtain ⟨zs, n2, rfl, rfl, _, hzl, hg⟩ := DataW.trod_struct Try.underlying57 f2
    have g0 : DataW.trod enc Try.prog W base spare held n2 4 (([v2, v3].drop 0).take (Try.prog.cellsOf 4)) = zs[0]? := hg 0 _ rfl
    have g1 : DataW.trod enc Try.prog W base spare held n2 55 (([v2, v3].drop 1).take (Try.prog.cellsOf 55)) = zs[1]? := hg 1 _ rfl
    rw [k4] at g0
    rw [k49] at g1
    match zs, hzl with
    | [z0, z1], _ =>
    simp only [List.drop, List.take, List.getElem?_cons_zero, List.getElem?_cons_succ] at g0 g1
    obtain ⟨b, e2, rfl⟩ := DataW.trod_bool Try.underlying4 g0
    obtain ⟨am, cm, mag, rfl, hm1, hm2, hm3, hm4⟩ := dm_limbs g1
    obtain ⟨ai, ci, items, rfl, hi1, hi2, hi3⟩ := dm_slice (fun n' hn => ih n' (by omega)) f4
    obtain ⟨ar, cr, rest, rfl, hr1, hr2, hr3⟩ := dm_slice (fun n' hn => ih n' (by omega)) f5
    simp at e0 e1 e2 e3
    subst e0 e1 e2 e3
    refine ⟨.mk k m b mag s items rest, DK.mk ⟨?_, ?_⟩ hm1 hm2 ⟨hm3, hi1, hr1⟩ hi2 hr2, ?_⟩
    · simp [Lit.wf] at w0
      have h0 : IntKind.i64.min = -9223372036854775808 := rfl
      have h1 : IntKind.i64.max = 9223372036854775807 := rfl
      omega
    · simp [Lit.wf] at w1
      have h0 : IntKind.i64.min = -9223372036854775808 := rfl
      have h1 : IntKind.i64.max = 9223372036854775807 := rfl
      omega
    · have hss : s.data.toList.length = s.size := by rw [Array.length_toList]; rfl
      simp only [Dm.size, List.map_cons, List.map_nil, Rows.uptoBulk, Rows.uptoBulkAll]
      omega
set_option maxRecDepth 100000 in
theorem open_datumR {r : Reach} {b0 : Nat} {v : Value} {d : DataW H} {p : List MemPlace} (hv : Value.okWide Try.prog W r b0 59 v) (h : DataW.Trod enc Try.prog W base spare held 59 v d p) (hb : Rows.uptoBulk d ≤ 1048576) :
    ∃ (x : Dm) (cs : List Value), v = .agg cs.toArray ∧ (DK (whole W) x cs ∧ x.size ≤ 1048576) := by
  obtain ⟨cs, rfl, hsz⟩ := okWide_struct Try.underlying59 hv
  obtain ⟨fuel, hf⟩ := h
  obtain ⟨x, hx, hz⟩ := dm_trod fuel _ _ hf
  exact ⟨x, cs.toList, by simp, by simpa [Value.cells] using hx, Nat.le_trans (show x.size ≤ Rows.uptoBulk d from hz) hb⟩
end
end Go.Proofs.Ytkjfplldfjmbaaa
