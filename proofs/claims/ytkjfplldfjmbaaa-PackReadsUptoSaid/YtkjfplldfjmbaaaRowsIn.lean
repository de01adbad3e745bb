/- Rows of integers that came in, with their bound; slices of the call's own, as they are read. -/
import Derived.Test.YtkjfplldfjmbaaaSameW
import Derived.WalkKit
import Derived.ProofKit
import Derived.OpenShut
import Derived.ShutString
import Derived.ChangeOld
import Derived.Below
namespace Go.Proofs.Ytkjfplldfjmbaaa
open Go.RowKit Go.ChangeShapes Go.WideShapes

/-- WHAT THE WALK IS TOLD OF A ROW OF INTEGERS OF EIGHT BYTES. -/
structure IsRowB (k : IntKind) (w : World) (ao : Option Addr) (len cap : Nat) (zs : List Int) : Prop where
  bd : len ≤ 17592186043904
  eq : zs.length = len
  each : ∀ (j : Nat) x, zs[j]? = some x → (Lit.int k x).wf = true ∧ ∃ a, ao = some a ∧ w.cell? (a.add j) = some (.int k x)

section
variable {H : Type} {enc : TypeId × Value → H} {W : World} {base : Nat} {spare : Nat → Bool} {held : Bool} {fuel : Nat}
theorem open_rowB {t e : TypeId} {k : IntKind} (ht : Try.prog.underlying t = some (.slice e)) (he : Try.prog.underlying e = some (.int k)) (hc : Try.prog.cellsOf e = 1) (hb : Try.prog.bytesOf e = 8)
    {ao : Option Addr} {len cap : Nat} {d : DataW H} {p : List MemPlace} (h : DataW.trod enc Try.prog W base spare held fuel t [.slice ao len cap] = some (d, p)) (hw : ∀ n ∈ d.weights Try.prog t, n ≤ reachBytes) :
    ∃ zs : List Int, IsRowB k W ao len cap zs := by
  rcases open_ints ht he hc h with ⟨e0, _⟩ | ⟨a, len', cap', zs, e0, _, hlc, _, hzl, hy, hcell, hwf⟩
  · simp at e0
    obtain ⟨rfl, rfl, rfl⟩ := e0
    exact ⟨[], by decide, rfl, fun j x hx => by simp at hx⟩
  · simp at e0
    obtain ⟨rfl, rfl, rfl⟩ := e0
    have hlz : len ≤ zs.length := by rw [hzl]; split <;> omega
    have hwt : (((zs.take len).length + (zs.drop len).length) * 8) ≤ reachBytes := by
      refine hw _ ?_
      simp only [Prod.mk.injEq] at hy
      rw [hy.1]
      simp [DataW.weights, ht, hb, lits]
    refine ⟨zs.take len, ?_, by simp; omega, ?_⟩
    · rw [List.length_take, List.length_drop] at hwt
      unfold reachBytes at hwt
      omega
    · intro j x hx
      rw [List.getElem?_take] at hx
      split at hx
      · refine ⟨hwf x (List.mem_of_getElem? hx), a, rfl, ?_⟩
        rw [hcell j (by omega), List.getD_eq_getElem?_getD, hx]; rfl
      · cases hx
end

theorem IsRowB.get {k : IntKind} {W w : World} {ao : Option Addr} {len cap : Nat} {zs : List Int} (h : IsRowB k W ao len cap zs) (hs : sat w (whole W)) {j : Nat} {x : Int} (hj : zs[j]? = some x) : ∃ a, ao = some a ∧ w.cell? (a.add j) = some (.int k x) := by
  obtain ⟨_, a, ha, hc⟩ := h.each j x hj
  have hb : (a.add j).block < W.heap.size := World.block_lt_of_cell? W _ hc
  exact ⟨a, ha, (World.cell?_of_block (hs.whole_get _ hb)).trans hc⟩

section
variable {w : World} {R : HP}
/-- A slice of the call's own, as a value. -/
theorem own_val {e sz n : Nat} {v : Value} {xs : List Value} (h : sat w (own e sz v n xs * R)) : ∃ ao cap, v = .slice ao n cap := by
  rcases h.open_own.2 with ⟨a, b, _, _⟩ | ⟨b, cap, a, _⟩
  · exact ⟨none, 0, by rw [a, b]⟩
  · exact ⟨_, _, a⟩
theorem own_reads {v : Value} {n cap : Nat} {l : List Int} {ao : Option Addr} (hl : l.length = n) (hv : v = .slice ao n cap) (h : sat w (own 117 1 v n (l.map u64) * R)) : Reads w ao l := by
  subst hl
  intro j x hx
  have hj := (List.getElem?_eq_some_iff.1 hx).1
  obtain ⟨b, c, hb, _, _, hr⟩ := h.own_some (by omega)
  rw [hv] at hb
  simp only [Value.slice.injEq] at hb
  obtain ⟨rfl, _⟩ := hb
  exact reads_row hr j x hx
end
end Go.Proofs.Ytkjfplldfjmbaaa
