/- Programs that came in. -/
import Derived.Test.YtkjfplldfjmbaaaDmOpen
import Derived.Test.YtkjfplldfjmbaaaPackProto
namespace Go.Proofs.Ytkjfplldfjmbaaa
open Go.RowKit Go.ChangeShapes Go.WideShapes

section
variable {H : Type} {enc : TypeId × Value → H} {W : World} {base : Nat} {spare : Nat → Bool} {held : Bool}
/-- What lies in a row, each of so many cells. -/
def RowAt {α : Type} (R : HP) (P : α → List Value → Prop) (sz : Nat) (l : List α) (ao : Option Addr) (k : Nat) : Prop :=
  ∀ (i : Nat) d, l[i]? = some d → ∃ b off cs, ao = some ⟨b, off, none⟩ ∧ (∀ w, sat w R → ∀ (j : Nat) v, cs[j]? = some v → w.cell? ⟨b, off + (k + i) * sz + j, none⟩ = some v) ∧ P d cs
theorem row_any {α : Type} {T : TypeId} {sz n : Nat} (P : α → List Value → Prop) (bs : α → Nat) (hsz : 0 < sz)
    (ih : ∀ cs y, DataW.trod enc Try.prog W base spare held n T cs = some y → ∃ d, P d cs ∧ bs d ≤ Rows.uptoBulk y.1) :
    ∀ (elems : List (DataW H × List MemPlace)) (a : Addr) (k : Nat), (∀ i, i < elems.length → (W.cells? base (a.add ((k + i) * sz)) sz).bind (DataW.trod enc Try.prog W base spare held n T) = elems[i]?) → (a.spot = none ∨ k = 0) →
    ∃ l : List α, l.length = elems.length ∧ RowAt (whole W) P sz l (some a) k ∧ (l.map bs).sum ≤ Rows.uptoBulkAll (elems.map (·.1))
  | [], a, k, _, _ => ⟨[], rfl, fun i d h => by simp at h, by simp⟩
  | y :: elems, a, k, h, hk => by
    have h0 := h 0 (by simp)
    rw [Nat.add_zero] at h0
    cases hc : W.cells? base (a.add (k * sz)) sz with
    | none => rw [hc] at h0; simp at h0
    | some cs =>
      rw [hc] at h0
      simp only [Option.bind_some, List.getElem?_cons_zero] at h0
      obtain ⟨d, hd, hz⟩ := ih cs y h0
      obtain ⟨_, hl7, hcell⟩ := World.cells?_some hc
      have hsp : a.spot = none := by
        rcases hk with h | rfl
        · exact h
        · have h1 := hcell 0 (by omega)
          rw [List.getElem?_eq_getElem (by omega)] at h1
          have h2 := dm_addr h1
          have h3 : ((a.add (0 * sz)).add 0) = a := by simp [Addr.add]
          rw [h3] at h2
          rw [h2]
      have ha : a = ⟨a.block, a.off, none⟩ := by cases a; simp_all
      obtain ⟨l, hll, hdl, hzl⟩ := row_any P bs hsz ih elems a (k + 1) (fun i hi => by
        have := h (i + 1) (by simp; omega)
        rw [show k + (i + 1) = k + 1 + i by omega] at this
        simpa using this) (.inl hsp)
      refine ⟨d :: l, by simp [hll], ?_, by simp only [List.map_cons, List.sum_cons, Rows.uptoBulkAll]; omega⟩
      intro i d' hi
      cases i with
      | zero =>
        simp at hi
        subst hi
        refine ⟨a.block, a.off, cs, by rw [← ha], ?_, hd⟩
        intro w hw j v hv
        have hj : j < sz := by have := (List.getElem?_eq_some_iff.1 hv).1; omega
        have h1 := hcell j hj
        rw [hv, ha, dm_add, dm_add] at h1
        rw [Nat.add_zero]
        exact (World.cell?_of_block (hw.whole_get _ (World.block_lt_of_cell? W _ h1))).trans h1
      | succ i =>
        obtain ⟨b, off, cs', e1, e2, e3⟩ := hdl i d' (by simpa using hi)
        refine ⟨b, off, cs', e1, fun w hw j v hv => ?_, e3⟩
        rw [show k + (i + 1) = k + 1 + i by omega]
        exact e2 w hw j v hv
theorem slice_any {α : Type} {T S : TypeId} {sz fuel : Nat} (P : α → List Value → Prop) (bs : α → Nat) (hS : Try.prog.underlying S = some (.slice T)) (h7 : Try.prog.cellsOf T = sz) (hsz : 0 < sz)
    (ih : ∀ n, n < fuel → ∀ cs y, DataW.trod enc Try.prog W base spare held n T cs = some y → ∃ d, P d cs ∧ bs d ≤ Rows.uptoBulk y.1) {v : Value} {y : DataW H × List MemPlace}
    (h : DataW.trod enc Try.prog W base spare held fuel S [v] = some y) :
    ∃ ao c l, v = .slice ao l.length c ∧ l.length ≤ c ∧ RowAt (whole W) P sz l ao 0 ∧ (l.map bs).sum + 1 ≤ Rows.uptoBulk y.1 := by
  rcases DataW.trod_slice hS h with ⟨e0, e1⟩ | ⟨a, len, cap, elems, rest, n, rfl, e0, hx, _, hlc, _, hlen, hel, _⟩
  · simp at e0
    exact ⟨none, 0, [], e0, Nat.le_refl _, fun i d h => by simp at h, by have := dm_bulk_one y.1; simpa using this⟩
  · simp at e0
    subst e0
    obtain ⟨l, hll, hdl, hzl⟩ := row_any P bs hsz (ih n (by omega)) elems a 0 (fun i hi => by
      have := hel i (by omega)
      rw [h7] at this
      rw [Nat.zero_add]
      exact this) (.inr rfl)
    refine ⟨some a, cap, l, by rw [hll, hlen], by omega, hdl, ?_⟩
    rw [hx]
    simp only [Rows.uptoBulk]
    omega
def InsC (t : Int × Int × Int) (cs : List Value) : Prop := cs = [.int .i64 t.1, .int .i64 t.2.1, .int .i64 t.2.2] ∧ i64b t.1 ∧ i64b t.2.1 ∧ i64b t.2.2
def TxtC (s : ByteArray) (cs : List Value) : Prop := cs = [.string s]
theorem i64_wf {k : Int} (h : (Lit.int .i64 k).wf = true) : i64b k := by
  simp [Lit.wf] at h
  have h0 : IntKind.i64.min = -9223372036854775808 := rfl
  have h1 : IntKind.i64.max = 9223372036854775807 := rfl
  unfold i64b
  omega
set_option maxRecDepth 100000 in
theorem ins_trod {fuel : Nat} (cs : List Value) (y : DataW H × List MemPlace) (h : DataW.trod enc Try.prog W base spare held fuel 41 cs = some y) : ∃ t, InsC t cs ∧ 1 ≤ Rows.uptoBulk y.1 := by
  obtain ⟨xs, n, rfl, rfl, hl, hxl, hf⟩ := DataW.trod_struct Try.underlying41 h
  have h7 : Try.prog.cellsOf 41 = 3 := by kernel_rfl
  rw [h7] at hl
  match cs, hl with
  | [v0, v1, v2], _ =>
  have k3 : Try.prog.cellsOf 3 = 1 := by kernel_rfl
  have f0 : DataW.trod enc Try.prog W base spare held n 3 (([v0, v1, v2].drop 0).take (Try.prog.cellsOf 3)) = xs[0]? := hf 0 _ rfl
  have f1 : DataW.trod enc Try.prog W base spare held n 3 (([v0, v1, v2].drop 1).take (Try.prog.cellsOf 3)) = xs[1]? := hf 1 _ rfl
  have f2 : DataW.trod enc Try.prog W base spare held n 3 (([v0, v1, v2].drop 2).take (Try.prog.cellsOf 3)) = xs[2]? := hf 2 _ rfl
  rw [k3] at f0 f1 f2
  match xs, hxl with
  | [x0, x1, x2], _ =>
  simp only [List.drop, List.take, List.getElem?_cons_zero, List.getElem?_cons_succ] at f0 f1 f2
  obtain ⟨k, e0, rfl, w0⟩ := DataW.trod_int Try.underlying3 f0
  obtain ⟨m, e1, rfl, w1⟩ := DataW.trod_int Try.underlying3 f1
  obtain ⟨q, e2, rfl, w2⟩ := DataW.trod_int Try.underlying3 f2
  simp at e0 e1 e2
  subst e0 e1 e2
  exact ⟨(k, m, q), ⟨rfl, i64_wf w0, i64_wf w1, i64_wf w2⟩, dm_bulk_one _⟩
theorem txt_trod {fuel : Nat} (cs : List Value) (y : DataW H × List MemPlace) (h : DataW.trod enc Try.prog W base spare held fuel 9 cs = some y) : ∃ s, TxtC s cs ∧ 1 + s.size ≤ Rows.uptoBulk y.1 := by
  obtain ⟨s, e3, rfl, w3⟩ := DataW.trod_string Try.underlying9 h
  refine ⟨s, e3, ?_⟩
  have hss : s.data.toList.length = s.size := by rw [Array.length_toList]; rfl
  simp only [Rows.uptoBulk]
  omega
set_option maxRecDepth 100000 in
theorem proto_trod {fuel : Nat} (cs : List Value) (y : DataW H × List MemPlace) (h : DataW.trod enc Try.prog W base spare held fuel 38 cs = some y) : ∃ p, PrK (whole W) p cs ∧ p.size ≤ Rows.uptoBulk y.1 := by
  obtain ⟨xs, n, rfl, rfl, hl, hxl, hf⟩ := DataW.trod_struct Try.underlying38 h
  have h7 : Try.prog.cellsOf 38 = 7 := by kernel_rfl
  rw [h7] at hl
  match cs, hl with
  | [v0, v1, v2, v3, v4, v5, v6], _ =>
  have k3 : Try.prog.cellsOf 3 = 1 := by kernel_rfl
  have k9 : Try.prog.cellsOf 9 = 1 := by kernel_rfl
  have k4 : Try.prog.cellsOf 4 = 1 := by kernel_rfl
  have k52 : Try.prog.cellsOf 35 = 1 := by kernel_rfl
  have k53 : Try.prog.cellsOf 34 = 1 := by kernel_rfl
  have k54 : Try.prog.cellsOf 36 = 1 := by kernel_rfl
  have f0 : DataW.trod enc Try.prog W base spare held n 9 (([v0, v1, v2, v3, v4, v5, v6].drop 0).take (Try.prog.cellsOf 9)) = xs[0]? := hf 0 _ rfl
  have f1 : DataW.trod enc Try.prog W base spare held n 3 (([v0, v1, v2, v3, v4, v5, v6].drop 1).take (Try.prog.cellsOf 3)) = xs[1]? := hf 1 _ rfl
  have f2 : DataW.trod enc Try.prog W base spare held n 3 (([v0, v1, v2, v3, v4, v5, v6].drop 2).take (Try.prog.cellsOf 3)) = xs[2]? := hf 2 _ rfl
  have f3 : DataW.trod enc Try.prog W base spare held n 4 (([v0, v1, v2, v3, v4, v5, v6].drop 3).take (Try.prog.cellsOf 4)) = xs[3]? := hf 3 _ rfl
  have f4 : DataW.trod enc Try.prog W base spare held n 34 (([v0, v1, v2, v3, v4, v5, v6].drop 4).take (Try.prog.cellsOf 34)) = xs[4]? := hf 4 _ rfl
  have f5 : DataW.trod enc Try.prog W base spare held n 35 (([v0, v1, v2, v3, v4, v5, v6].drop 5).take (Try.prog.cellsOf 35)) = xs[5]? := hf 5 _ rfl
  have f6 : DataW.trod enc Try.prog W base spare held n 36 (([v0, v1, v2, v3, v4, v5, v6].drop 6).take (Try.prog.cellsOf 36)) = xs[6]? := hf 6 _ rfl
  rw [k3] at f1 f2
  rw [k9] at f0
  rw [k4] at f3
  rw [k53] at f4
  rw [k52] at f5
  rw [k54] at f6
  match xs, hxl with
  | [x0, x1, x2, x3, x4, x5, x6], _ =>
  simp only [List.drop, List.take, List.getElem?_cons_zero, List.getElem?_cons_succ] at f0 f1 f2 f3 f4 f5 f6
  obtain ⟨s, e0, hs0⟩ := txt_trod _ _ f0
  obtain ⟨k, e1, rfl, w1⟩ := DataW.trod_int Try.underlying3 f1
  obtain ⟨m, e2, rfl, w2⟩ := DataW.trod_int Try.underlying3 f2
  obtain ⟨b, e3, rfl⟩ := DataW.trod_bool Try.underlying4 f3
  obtain ⟨ac, cc, code, rfl, hc1, hc2, hc3⟩ := slice_any (sz := 3) InsC (fun _ => 1) Try.underlying34 (by kernel_rfl) (by omega) (fun n' _ cs y hh => ins_trod cs y hh) f4
  obtain ⟨ai, ci, items, rfl, hi1, hi2, hi3⟩ := dm_slice (fun n' hn cs y hh => dm_trod n' cs y hh) f5
  obtain ⟨an, cn, names, rfl, hn1, hn2, hn3⟩ := slice_any (sz := 1) TxtC (fun s => 1 + s.size) Try.underlying36 (by kernel_rfl) (by omega) (fun n' _ cs y hh => txt_trod cs y hh) f6
  unfold TxtC at e0
  simp at e0 e1 e2 e3
  subst e0 e1 e2 e3
  refine ⟨⟨s, k, m, b, code, items, names⟩, ⟨ac, cc, ai, ci, an, cn, rfl, ⟨i64_wf w1, i64_wf w2⟩, ?_, hi2, ?_, hc1, hi1, hn1⟩, ?_⟩
  · intro i t ht
    obtain ⟨b, off, cs, e1, e2, rfl, e4⟩ := hc2 i t ht
    refine ⟨⟨b, off, e1, fun w hw => ?_⟩, e4⟩
    have q0 := e2 w hw 0 _ rfl
    have q1 := e2 w hw 1 _ rfl
    have q2 := e2 w hw 2 _ rfl
    rw [Nat.zero_add] at q0 q1 q2
    exact ⟨q0, q1, q2⟩
  · intro i t ht
    obtain ⟨b, off, cs, e1, e2, e3⟩ := hn2 i t ht
    unfold TxtC at e3
    subst e3
    refine ⟨b, off, e1, fun w hw => ?_⟩
    have q0 := e2 w hw 0 _ rfl
    rw [Nat.zero_add, Nat.mul_one] at q0
    exact q0
  · simp only [List.map_const', List.sum_replicate_nat, Nat.mul_one] at hc3
    simp only [Rows.uptoBulk, Rows.uptoBulkAll, Pr.size, List.map_cons, List.map_nil]
    omega
set_option maxRecDepth 100000 in
theorem open_protosR {r : Reach} {b0 : Nat} {v : Value} {d : DataW H} {p : List MemPlace} (hv : Value.okWide Try.prog W r b0 22 v) (h : DataW.Trod enc Try.prog W base spare held 22 v d p) (hb : Rows.uptoBulk d ≤ 1048576) :
    ∃ (ps : List Pr) (ao : Option Addr) (c : Nat), v = .slice ao ps.length c ∧ (PrKs (whole W) ps ao ∧ prSizes ps + 1 ≤ 1048576 ∧ ps.length ≤ c) := by
  obtain ⟨ao, n, c, rfl⟩ := okWide_slice Try.underlying22 hv
  obtain ⟨fuel, hf⟩ := h
  obtain ⟨ao', c', ps, e, hle, hr, hz⟩ := slice_any (PrK (whole W)) Pr.size Try.underlying22 (sz := 7) (by kernel_rfl) (by omega) (fun n' _ cs y hh => proto_trod cs y hh) hf
  refine ⟨ps, ao', c', e, ?_, Nat.le_trans (show prSizes ps + 1 ≤ Rows.uptoBulk d from hz) hb, hle⟩
  intro i p hp
  obtain ⟨b, off, cs, e1, e2, e3⟩ := hr i p hp
  rw [Nat.zero_add] at e2
  exact ⟨b, off, cs, e1, e2, e3⟩
end
end Go.Proofs.Ytkjfplldfjmbaaa
