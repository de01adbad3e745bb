/- CopyLimbs; a number that came in. -/
import Derived.Test.YtanjiecefioffaaMakeNums
import Derived.Test.YtanjiecefioffaaRefNum
import Derived.Test.YtanjiecefioffaaRowsIn
namespace Go.Proofs.Ytanjiecefioffaa
open Go.RowKit Go.ChangeShapes Go.WideShapes

theorem LimbsW.cellsAt {w : World} {ao : Option Addr} {l : List Int} (h : LimbsW w ao l) : CellsAt w ao (l.map u32v) := by
  intro j u hu
  rw [List.getElem?_map] at hu
  cases hx : l[j]? with
  | none => rw [hx] at hu; cases hu
  | some y => rw [hx] at hu; cases hu; exact h j y hx
theorem copy_limbs {w : World} {R : HP} (hs : sat w R) (ao : Option Addr) (cap : Nat) (a : List Int) (ha : LimbsW w ao a) (hn : a.length ≤ topB) :
    Calls Try.prog 34 #[.slice ao a.length cap] w fun e w' => ∃ ro rc, e = .returned (.slice ro a.length rc) ∧ sat w' (own 70 1 (.slice ro a.length rc) a.length (a.map u32v) * R) ∧ Below 0 w w' := by
  obtain ⟨i0, hi, hz0, hz1, hz2⟩ := info_parts info_u32
  have hc := ha.cellsAt
  have h0 := hs.nil_own (e := 70) (sz := 1)
  unfold topB at hn
  go_enter Try.func34, Try.ntmps34
  go_wp2_with (at_builtin; refine halt ?_)
  refine goon ?_
  refine wpList_append_opt rfl (.const (.slice none 0 0)) (.tmp 3) 49 rfl 70 i0 (.int .u32 0) 1 4 Try.underlying49 hi hz0 hz1 hz2 rfl (by decide) (.slice none 0 0) 0 [] rfl R ao a.length cap (a.map u32v) rfl ?_ h0 (by simp) hc (fun u hu => by obtain ⟨x, _, rfl⟩ := List.mem_map.1 hu; rfl) (by omega) (by unfold maxLen; omega)
  intro v' w9 hs9 hb9
  rw [Nat.zero_add, List.nil_append] at hs9
  obtain ⟨ro, rc, rfl⟩ := own_val hs9
  have HQ := Lib.hid (And.intro hs9 hb9)
  clear hs9 hb9 hc h0 hi hz0 hz1 hz2
  go_wp2_with fail
  go_ret
  exact ⟨ro, rc, rfl, HQ.out.1, HQ.out.2⟩
/-- A number that came in. -/
structure IsNumR (W : World) (ao : Option Addr) (cap : Nat) (a : List Int) : Prop where
  get : LimbsW W ao a
  lim : Limbs a
  cap : a.length ≤ cap
  top : a.length ≤ 1048576
theorem LimbsW.keep {W w : World} {ao : Option Addr} {l : List Int} (h : LimbsW W ao l) (hs : sat w (whole W)) : LimbsW w ao l := by
  intro j x hx
  obtain ⟨a, e, hc⟩ := h j x hx
  refine ⟨a, e, ?_⟩
  have hb : (a.add j).block < W.heap.size := by
    rcases Nat.lt_or_ge (a.add j).block W.heap.size with h1 | h1
    · exact h1
    · unfold World.cell? at hc
      rw [Array.getElem?_eq_none h1] at hc
      cases hc
  unfold World.cell? at *
  rw [hs.whole_get _ hb]
  exact hc
end Go.Proofs.Ytanjiecefioffaa
