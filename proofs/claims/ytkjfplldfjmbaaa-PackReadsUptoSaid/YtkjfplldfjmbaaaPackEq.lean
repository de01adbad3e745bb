/- slices.Equal of limbs. -/
import Derived.Test.YtkjfplldfjmbaaaPackData
import Derived.Test.YtkjfplldfjmbaaaSameW
namespace Go.Proofs.Ytkjfplldfjmbaaa
open Go.RowKit
/-- The limbs xs can be read here. -/
def Reads32 (w : World) (ao : Option Addr) (xs : List Int) : Prop := ∀ (j : Nat) x, xs[j]? = some x → ∃ a, ao = some a ∧ w.cell? (a.add j) = some (.int .u32 x)
set_option maxHeartbeats 400000 in
theorem slices_equal (w : World) (ao bo : Option Addr) (c d : Nat) (xs ys : List Int) (hx : Reads32 w ao xs) (hy : Reads32 w bo ys) (hn : xs.length < 4611686018427387904) (hm : ys.length < 4611686018427387904) :
    Calls Try.prog 56 #[.slice ao xs.length c, .slice bo ys.length d] w (Says (.bool (decide (xs = ys))) w) := by
  by_cases hl : xs.length = ys.length
  · have hl2 : (xs.length : Int) = ys.length := by omega
    generalize hnx : xs.length = n1 at *
    generalize hny : ys.length = n2 at *
    subst hl
    have HX := Lib.hid (And.intro hnx hny)
    clear hnx hny hm hl2
    go_enter Try.func56, Try.ntmps56
    go_wp2_with fail
    go_loopw [13] (SameRel w xs ys) (fun i _ => n1 - (intOf i).toNat)
    case atStart => exact ⟨0, 0, Nat.zero_le _, rfl, rfl, fun j h => by omega⟩
    case round =>
      obtain ⟨k, n, hk, rfl, rfl, hsame⟩ := hrel
      by_cases hlt : k < n1
      · obtain ⟨x, ex⟩ : ∃ x, xs[k]? = some x := ⟨_, List.getElem?_eq_getElem (by rw [HX.out.1]; exact hlt)⟩
        obtain ⟨y, ey⟩ : ∃ y, ys[k]? = some y := ⟨_, List.getElem?_eq_getElem (by rw [HX.out.2]; exact hlt)⟩
        obtain ⟨a, rfl, ha⟩ := hx k x ex
        obtain ⟨b, rfl, hb⟩ := hy k y ey
        have ha2 : (w.drewN n).cell? (a.add k) = some (.int .u32 x) := ha
        have hb2 : (w.drewN n).cell? (b.add k) = some (.int .u32 y) := hb
        have HW := Lib.hid (rfl : w.drewN n = w.drewN n)
        generalize hw : w.drewN n = w1 at *
        have HW1 := Lib.hid hw
        clear hw HW ha hb
        have HS := Lib.hid (And.intro ex (And.intro ey hsame))
        clear ex ey hsame
        by_cases he : x = y
        · subst he
          go_wp2_with fail
          go_quiet (fail)
          go_wp2_with fail
          go_roundw
          case rel =>
            refine ⟨k + 1, n + nq, by rw [HX.out.1]; omega, by go_num, by rw [← HW1.out, World.drewN_drewN], ?_⟩
            intro j hj
            by_cases e : j = k
            · subst e; rw [HS.out.1, HS.out.2.1]
            · exact HS.out.2.2 j (by omega)
          case measure => simp [intOf]; omega
        · have he2 : (x == y) = false := by rw [beq_eq_false_iff_ne]; exact he
          go_wp2_with fail
          go_quiet (fail)
          go_wp2_with fail
          go_ret
          rw [same_false HS.out.1 HS.out.2.1 he]
          rw [← HW1.out]
          exact ⟨rfl, n + nq, by rw [World.drewN_drewN]⟩
      · have hge : (n1 : Int) ≤ k := by omega
        have heq : decide (xs = ys) = true := by
          rw [decide_eq_true_eq]
          apply List.ext_getElem?
          intro j
          rcases Nat.lt_or_ge j k with h | h
          · exact hsame j h
          · rw [List.getElem?_eq_none (by rw [HX.out.1]; omega), List.getElem?_eq_none (by rw [HX.out.2]; omega)]
        have HQ := Lib.hid heq
        clear heq hsame
        go_wp2_with fail
        go_ret
        rw [HQ.out]
        exact ⟨rfl, n, rfl⟩
  · have he : decide (xs = ys) = false := by rw [decide_eq_false_iff_not]; rintro rfl; exact hl rfl
    rw [he]
    have hl2 : ((xs.length : Int) == (ys.length : Int)) = false := by rw [beq_eq_false_iff_ne]; omega
    go_enter Try.func56, Try.ntmps56
    go_wp2_with fail
    go_ret
    exact ⟨rfl, 0, rfl⟩

end Go.Proofs.Ytkjfplldfjmbaaa
