/- SameWords, CopyWords. -/
import Derived.Test.YthkodbmijgehbaaRowWords
import Derived.Test.YthkodbmijgehbaaSep3
namespace Go.Proofs.Ythkodbmijgehbaa
open Go.RowKit

/-- The words xs can be read here. -/
def Reads (w : World) (ao : Option Addr) (xs : List Int) : Prop := ∀ (j : Nat) x, xs[j]? = some x → ∃ a, ao = some a ∧ w.cell? (a.add j) = some (.int .u64 x)
theorem Reads.drewN {w : World} {ao : Option Addr} {xs : List Int} (h : Reads w ao xs) (n : Nat) : Reads (w.drewN n) ao xs := h

def SameRel (w : World) (xs ys : List Int) (i : Value) (wr : World) : Prop :=
  ∃ k n : Nat, k ≤ xs.length ∧ i = .int .i64 k ∧ wr = w.drewN n ∧ ∀ j, j < k → xs[j]? = ys[j]?

theorem same_false {xs ys : List Int} {k : Nat} {x y : Int} (hx : xs[k]? = some x) (hy : ys[k]? = some y) (h : ¬ x = y) : decide (xs = ys) = false := by
  rw [decide_eq_false_iff_not]
  rintro rfl
  rw [hx] at hy; cases hy; exact h rfl

set_option maxHeartbeats 400000 in
theorem same_words (w : World) (ao bo : Option Addr) (c d : Nat) (xs ys : List Int) (hx : Reads w ao xs) (hy : Reads w bo ys) (hn : xs.length < 4611686018427387904) (hm : ys.length < 4611686018427387904) :
    Calls Try.prog 32 #[.slice ao xs.length c, .slice bo ys.length d] w (Says (.bool (decide (xs = ys))) w) := by
  by_cases hl : xs.length = ys.length
  · have hl2 : (xs.length : Int) = ys.length := by omega
    generalize hnx : xs.length = n1 at *
    generalize hny : ys.length = n2 at *
    subst hl
    have HX := Lib.hid (And.intro hnx hny)
    clear hnx hny hm hl2
    go_enter Try.func32, Try.ntmps32
    go_wp2_with fail
    go_loopw [5] (SameRel w xs ys) (fun i _ => n1 - (intOf i).toNat)
    case atStart => exact ⟨0, 0, Nat.zero_le _, rfl, rfl, fun j h => by omega⟩
    case round =>
      obtain ⟨k, n, hk, rfl, rfl, hsame⟩ := hrel
      by_cases hlt : k < n1
      · obtain ⟨x, ex⟩ : ∃ x, xs[k]? = some x := ⟨_, List.getElem?_eq_getElem (by rw [HX.out.1]; exact hlt)⟩
        obtain ⟨y, ey⟩ : ∃ y, ys[k]? = some y := ⟨_, List.getElem?_eq_getElem (by rw [HX.out.2]; exact hlt)⟩
        obtain ⟨a, rfl, ha⟩ := hx k x ex
        obtain ⟨b, rfl, hb⟩ := hy k y ey
        have ha2 : (w.drewN n).cell? (a.add k) = some (.int .u64 x) := ha
        have hb2 : (w.drewN n).cell? (b.add k) = some (.int .u64 y) := hb
        have HW := Lib.hid (rfl : w.drewN n = w.drewN n)
        generalize hw : w.drewN n = w1 at *
        have HW1 := Lib.hid hw
        clear hw HW ha hb
        have HS := Lib.hid (And.intro ex (And.intro ey hsame))
        clear ex ey hsame
        by_cases he : x = y
        · subst he
          go_wp2_with fail
          go_quiet (fail)
          go_wp2_with fail
          go_roundw
          case rel =>
            refine ⟨k + 1, n + nq, by rw [HX.out.1]; omega, by go_num, by rw [← HW1.out, World.drewN_drewN], ?_⟩
            intro j hj
            by_cases e : j = k
            · subst e; rw [HS.out.1, HS.out.2.1]
            · exact HS.out.2.2 j (by omega)
          case measure => simp [intOf]; omega
        · have he2 : (x == y) = false := by rw [beq_eq_false_iff_ne]; exact he
          go_wp2_with fail
          go_quiet (fail)
          go_wp2_with fail
          go_ret
          rw [same_false HS.out.1 HS.out.2.1 he]
          rw [← HW1.out]
          exact ⟨rfl, n + nq, by rw [World.drewN_drewN]⟩
      · have hge : (n1 : Int) ≤ k := by omega
        have heq : decide (xs = ys) = true := by
          rw [decide_eq_true_eq]
          apply List.ext_getElem?
          intro j
          rcases Nat.lt_or_ge j k with h | h
          · exact hsame j h
          · rw [List.getElem?_eq_none (by rw [HX.out.1]; omega), List.getElem?_eq_none (by rw [HX.out.2]; omega)]
        have HQ := Lib.hid heq
        clear heq hsame
        go_wp2_with fail
        go_ret
        rw [HQ.out]
        exact ⟨rfl, n, rfl⟩
  · have he : decide (xs = ys) = false := by rw [decide_eq_false_iff_not]; rintro rfl; exact hl rfl
    rw [he]
    have hl2 : ((xs.length : Int) == (ys.length : Int)) = false := by rw [beq_eq_false_iff_ne]; omega
    go_enter Try.func32, Try.ntmps32
    go_wp2_with fail
    go_ret
    exact ⟨rfl, 0, rfl⟩

/-- The copy lies in new memory. -/
theorem copy_words {w : World} {R : HP} (ao : Option Addr) (c : Nat) (xs : List Int) (hs : sat w R) (hx : Reads w ao xs) (hn : xs.length ≤ 17592186044416) :
    Calls Try.prog 35 #[.slice ao xs.length c] w fun e w' => ∃ v, e = .returned v ∧ sat w' (own 28 1 v xs.length (xs.map u64) * R) ∧ Below 0 w w' := by
  obtain ⟨i0, hi, hz0, hz1, hz2⟩ := info_parts info_u64
  have H1 := Lib.hid (And.intro hi (And.intro hz0 (And.intro hz1 hz2)))
  clear hi hz0 hz1 hz2
  cases ao with
  | none =>
    have hnil : xs = [] := by
      cases xs with
      | nil => rfl
      | cons x l => obtain ⟨a, h, _⟩ := hx 0 x rfl; cases h
    subst hnil
    go_enter Try.func35, Try.ntmps35
    go_wp2_with fail
    go_ret
    exact ⟨_, rfl, hs.nil_own, Below.refl _ _⟩
  | some a =>
    go_enter Try.func35, Try.ntmps35
    go_wp2_with (at_builtin; refine halt ?_)
    refine goon ?_
    obtain ⟨hi, hz0, hz1, hz2⟩ := H1.out
    refine wpList_append_sat rfl (.const (.slice none 0 0)) (.tmp 3) 33 rfl 28 i0 (.int .u64 0) 1 8 Try.underlying33 hi hz0 hz1 hz2 rfl (.slice none 0 0) 0 [] rfl R a xs.length c (xs.map Go.Proofs.Ythkodbmijgehbaa.u64) rfl ?_ hs.nil_own (by simp) ?c1 ?c2 (by omega) (by unfold maxLen; omega)
    case c1 =>
      intro j u hj
      rw [List.getElem?_map] at hj
      cases hx' : xs[j]? with
      | none => rw [hx'] at hj; cases hj
      | some y =>
        rw [hx'] at hj; cases hj
        obtain ⟨a', h, hc⟩ := hx j y hx'
        cases h; exact hc
    case c2 => intro u hu; obtain ⟨y, _, rfl⟩ := List.mem_map.1 hu; rfl
    clear hi hz0 hz1 hz2
    intro v' w' hs' hb'
    have HR := Lib.hid (And.intro hs' hb')
    clear hs' hb'
    go_wp2_with fail
    go_ret
    refine ⟨v', rfl, ?_, HR.out.2⟩
    have := HR.out.1
    rw [Nat.zero_add, List.nil_append] at this
    exact this
end Go.Proofs.Ythkodbmijgehbaa
