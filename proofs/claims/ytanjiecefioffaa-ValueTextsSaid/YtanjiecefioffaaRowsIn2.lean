/- Rows of strings, of Booleans that came in. -/
import Derived.Test.YtanjiecefioffaaRowsIn
import Derived.SliceStrings
import Derived.Deep.Grids
namespace Go.Proofs.Ytanjiecefioffaa
open Go.RowKit Go.ChangeShapes Go.WideShapes Go.Deep

structure IsStrs (w : World) (ao : Option Addr) (len cap : Nat) (ss : List ByteArray) : Prop where
  bd : len ≤ 8796093021952
  lc : len ≤ cap
  eq : ss.length = len
  each : ∀ (j : Nat) x, ss[j]? = some x → x.size ≤ maxLen ∧ ∃ a, ao = some a ∧ w.cell? (a.add j) = some (.string x)
structure IsBools (w : World) (ao : Option Addr) (len cap : Nat) (bs : List Bool) : Prop where
  bd : len ≤ 140737488351232
  lc : len ≤ cap
  eq : bs.length = len
  each : ∀ (j : Nat) x, bs[j]? = some x → ∃ a, ao = some a ∧ w.cell? (a.add j) = some (.bool x)

section
variable {H : Type} {enc : TypeId × Value → H} {W : World} {base : Nat} {spare : Nat → Bool} {held : Bool} {fuel : Nat}
theorem open_strs {t e : TypeId} (ht : Try.prog.underlying t = some (.slice e)) (he : Try.prog.underlying e = some .string) (hc : Try.prog.cellsOf e = 1) (hb : Try.prog.bytesOf e = 16)
    {ao : Option Addr} {len cap : Nat} {d : DataW H} {p : List MemPlace} (h : DataW.trod enc Try.prog W base spare held fuel t [.slice ao len cap] = some (d, p)) (hw : ∀ n ∈ d.weights Try.prog t, n ≤ reachBytes) :
    ∃ ss, IsStrs W ao len cap ss := by
  rcases open_strings ht he hc h with ⟨e0, _⟩ | ⟨a, len', cap', ss, e0, _, hlc, _, hzl, hy, hcell, hwf⟩
  · simp at e0
    obtain ⟨rfl, rfl, rfl⟩ := e0
    exact ⟨[], by decide, Nat.le_refl _, rfl, fun j x hx => by simp at hx⟩
  · simp at e0
    obtain ⟨rfl, rfl, rfl⟩ := e0
    have hlz : len ≤ ss.length := by rw [hzl]; split <;> omega
    have hwt : (((ss.take len).length + (ss.drop len).length) * 16) ≤ reachBytes := by
      refine hw _ ?_
      simp only [Prod.mk.injEq] at hy
      rw [hy.1]
      simp [DataW.weights, ht, hb, strs]
    refine ⟨ss.take len, ?_, hlc, by simp; omega, ?_⟩
    · rw [List.length_take, List.length_drop] at hwt
      unfold reachBytes at hwt
      omega
    · intro j x hx
      rw [List.getElem?_take] at hx
      split at hx
      · refine ⟨hwf x (List.mem_of_getElem? hx), a, rfl, ?_⟩
        rw [hcell j (by omega), List.getD_eq_getElem?_getD, hx]; rfl
      · cases hx
theorem open_bls {t e : TypeId} (ht : Try.prog.underlying t = some (.slice e)) (he : Try.prog.underlying e = some .bool) (hc : Try.prog.cellsOf e = 1) (hb : Try.prog.bytesOf e = 1)
    {ao : Option Addr} {len cap : Nat} {d : DataW H} {p : List MemPlace} (h : DataW.trod enc Try.prog W base (fun _ => true) held fuel t [.slice ao len cap] = some (d, p)) (hw : ∀ n ∈ d.weights Try.prog t, n ≤ reachBytes) :
    ∃ bs, IsBools W ao len cap bs := by
  rcases open_bools ht he hc h with ⟨e0, _⟩ | ⟨a, len', cap', B, e0, _, hlc, _, hy, hcell⟩
  · simp at e0
    obtain ⟨rfl, rfl, rfl⟩ := e0
    exact ⟨[], by decide, Nat.le_refl _, rfl, fun j x hx => by simp at hx⟩
  · simp at e0
    obtain ⟨rfl, rfl, rfl⟩ := e0
    have hwt : (len + (cap - len)) * 1 ≤ reachBytes := by
      refine hw _ ?_
      simp only [Prod.mk.injEq] at hy
      rw [hy.1]
      simp [DataW.weights, ht, hb, boolRow]
    refine ⟨(List.range len).map B, ?_, hlc, by simp, ?_⟩
    · unfold reachBytes at hwt
      omega
    · intro j x hx
      have hj := (List.getElem?_eq_some_iff.1 hx).1
      simp at hj
      rw [List.getElem?_map, List.getElem?_range hj] at hx
      simp at hx
      subst hx
      exact ⟨a, rfl, hcell j (by omega)⟩
end
theorem IsStrs.get {W w : World} {ao : Option Addr} {len cap : Nat} {ss : List ByteArray} (h : IsStrs W ao len cap ss) (hs : sat w (whole W)) {j : Nat} {x : ByteArray} (hj : ss[j]? = some x) : ∃ a, ao = some a ∧ w.cell? (a.add j) = some (.string x) := by
  obtain ⟨_, a, ha, hc⟩ := h.each j x hj
  have hb : (a.add j).block < W.heap.size := World.block_lt_of_cell? W _ hc
  exact ⟨a, ha, (World.cell?_of_block (hs.whole_get _ hb)).trans hc⟩
theorem IsBools.get {W w : World} {ao : Option Addr} {len cap : Nat} {bs : List Bool} (h : IsBools W ao len cap bs) (hs : sat w (whole W)) {j : Nat} {x : Bool} (hj : bs[j]? = some x) : ∃ a, ao = some a ∧ w.cell? (a.add j) = some (.bool x) := by
  obtain ⟨a, ha, hc⟩ := h.each j x hj
  have hb : (a.add j).block < W.heap.size := World.block_lt_of_cell? W _ hc
  exact ⟨a, ha, (World.cell?_of_block (hs.whole_get _ hb)).trans hc⟩
end Go.Proofs.Ytanjiecefioffaa
