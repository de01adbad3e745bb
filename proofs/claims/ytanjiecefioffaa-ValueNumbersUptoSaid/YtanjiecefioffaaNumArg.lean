/- A parameter that is a number. -/
import Derived.Test.YtanjiecefioffaaRows
import Derived.Test.YtanjiecefioffaaNumRow
import Derived.Lib.SmallJoins
namespace Go.Proofs.Ytanjiecefioffaa
open Go.RowKit Go.ChangeShapes Go.WideShapes Go.Joins Go.Deep

section
variable {H : Type} {enc : TypeId × Value → H} {W : World} {base : Nat} {spare : Nat → Bool} {held : Bool}
/-- What is read holds as many values at least as it has places. -/
theorem bulk_one (d : DataW H) : 1 ≤ Rows.uptoBulk d := by
  cases d with
  | lit l => cases l <;> simp [Rows.uptoBulk]
  | _ => simp [Rows.uptoBulk]
theorem bulk_all (l : List (DataW H)) : l.length ≤ Rows.uptoBulkAll l := by
  induction l with
  | nil => exact Nat.zero_le _
  | cons d l ih => simp only [Rows.uptoBulkAll, List.length_cons]; have := bulk_one d; omega
theorem bulk_slice {fuel : Nat} {t e : TypeId} (ht : Try.prog.underlying t = some (.slice e))
    {ao : Option Addr} {len cap : Nat} {y : DataW H × List MemPlace} (hf : DataW.trod enc Try.prog W base spare held fuel t [.slice ao len cap] = some y) : len ≤ Rows.uptoBulk y.1 := by
  rcases DataW.trod_slice ht hf with ⟨e0, _⟩ | ⟨a, len', cap', elems, rest, n, _, e0, hx, _, _, _, hlen, _⟩
  · simp at e0; omega
  · simp at e0
    obtain ⟨rfl, rfl, rfl⟩ := e0
    rw [hx]
    simp only [Rows.uptoBulk]
    have := bulk_all (elems.map (·.1))
    rw [List.length_map] at this
    omega
theorem open_limbs {fuel : Nat} {v : Value} {y : DataW H × List MemPlace} (h : DataW.trod enc Try.prog W base spare held fuel 49 [v] = some y) (hb : Rows.uptoBulk y.1 ≤ 1048576) :
    ∃ ao ca a, v = .slice ao a.length ca ∧ IsNumR W ao ca a := by
  rcases open_ints Try.underlying49 Try.underlying70 (by kernel_rfl) h with ⟨e0, _⟩ | ⟨a, len, cap, zs, e0, _, hlc, _, hzl, hy, hcell, hwf⟩
  · simp at e0
    exact ⟨none, 0, [], e0, fun j x hx => by simp at hx, fun x hx => by simp at hx, Nat.le_refl _, by simp⟩
  · simp at e0
    subst e0
    have hlz : len ≤ zs.length := by rw [hzl]; split <;> omega
    have hl := bulk_slice Try.underlying49 h
    refine ⟨some a, cap, zs.take len, by simp; omega, ?_, ?_, ?_, ?_⟩
    · intro j x hx
      rw [List.getElem?_take] at hx
      split at hx
      · refine ⟨a, rfl, ?_⟩
        rw [hcell j (by omega), List.getD_eq_getElem?_getD, hx]; rfl
      · cases hx
    · intro x hx
      have := hwf x (List.mem_of_mem_take hx)
      simp [Lit.wf] at this
      have h0 : IntKind.u32.min = 0 := rfl
      have h1 : IntKind.u32.max = 4294967295 := rfl
      omega
    · simp; omega
    · simp; omega
set_option maxRecDepth 100000 in
theorem open_numR {r : Reach} {b0 : Nat} {v : Value} {d : DataW H} {p : List MemPlace} (hv : Value.okWide Try.prog W r b0 51 v) (h : DataW.Trod enc Try.prog W base spare held 51 v d p) (hb : Rows.uptoBulk d ≤ 1048576) :
    ∃ n ao ca a, v = .agg #[.bool n, .slice ao a.length ca] ∧ IsNumR W ao ca a := by
  obtain ⟨v0, v1, y0, y1, n, rfl, rfl, rfl, h0, h1⟩ := open_agg2 Try.underlying51 (by kernel_rfl) (by kernel_rfl) hv h
  obtain ⟨b, hb0⟩ : ∃ b, v0 = .bool b := by
    obtain ⟨b, hb, _⟩ := DataW.trod_bool Try.underlying4 h0
    simp at hb
    exact ⟨b, hb⟩
  simp only [Rows.uptoBulk, Rows.uptoBulkAll] at hb
  obtain ⟨ao, ca, a, rfl, hn⟩ := open_limbs h1 (by omega)
  exact ⟨b, ao, ca, a, by rw [hb0], hn⟩
end
end Go.Proofs.Ytanjiecefioffaa
