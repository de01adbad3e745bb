/- value.Store: known, May. -/
import Derived.Test.YtanjiecefioffaaStore
namespace Go.Proofs.Ytanjiecefioffaa
open Go.RowKit

/-- The words xs can be read here. -/
def ReadsW (w : World) (ao : Option Addr) (xs : List Int) : Prop := ∀ (j : Nat) x, xs[j]? = some x → ∃ a, ao = some a ∧ w.cell? (a.add j) = some (.int .u64 x)
def MayRel (w : World) (S : HS) (xs : List Int) (i : Value) (wr : World) : Prop :=
  ∃ k n : Nat, k ≤ xs.length ∧ i = .int .i64 k ∧ wr = w.drewN n ∧ (xs.take k).all (S.may ·) = true

section
variable {w : World} {X : StV} {V : HV} {S : HS} {Y : StS} {R : HP}
set_option maxHeartbeats 400000 in
theorem StW.known (h : StW w X V S Y R) (ht : Y.tm = S.times) :
    Calls Try.prog 56 #[.pointer (some ⟨X.g, 0, none⟩)] w (Says (.map (some X.mb)) w) := by
  have c0 := h.c0
  have c1 := h.c1
  have c3 := h.c3
  rw [ht] at c3
  have HT := Lib.hid ht
  clear ht
  go_enter Try.func56, Try.ntmps56
  go_wp2_with fail
  go_quiet ((go_at_call 62; exact Calls.said ((h.hw.v.drewN _).Times)))
  go_wp2_with fail
  go_ret
  exact ⟨rfl, nq, rfl⟩

theorem may_bits (x : Int) (x0 : 0 ≤ x) (x1 : x < 18446744073709551616) : bits .and .u64 x 3 = x % 4 := u64_mask2 x x0 x1

set_option maxHeartbeats 1000000 in
theorem StW.May (h : StW w X V S Y R) (ao : Option Addr) (cap : Nat) (xs : List Int) (hx : ReadsW w ao xs) (hu : ∀ x ∈ xs, 0 ≤ x ∧ x < 18446744073709551616) (hn : xs.length < 4611686018427387904) :
    Calls Try.prog 80 #[.pointer (some ⟨X.g, 0, none⟩), .slice ao xs.length cap] w (Says (.bool (xs.all (S.may ·))) w) := by
  have c0 := h.c0
  go_enter Try.func80, Try.ntmps80
  go_wp2_with fail
  go_loopw [9] (MayRel w S xs) (fun i _ => xs.length - (intOf i).toNat)
  case atStart => exact ⟨0, 0, Nat.zero_le _, rfl, rfl, rfl⟩
  case round =>
    obtain ⟨k, n, hk, rfl, rfl, hall⟩ := hrel
    by_cases hlt : k < xs.length
    · obtain ⟨x, ex⟩ : ∃ x, xs[k]? = some x := ⟨_, List.getElem?_eq_getElem hlt⟩
      obtain ⟨x0, x1⟩ := hu x (List.mem_of_getElem? ex)
      obtain ⟨a, rfl, hcx⟩ := hx k x ex
      have hc2 : (w.drewN n).cell? (a.add k) = some (.int .u64 x) := hcx
      have hnext : (xs.take (k + 1)).all (S.may ·) = ((xs.take k).all (S.may ·) && S.may x) := by rw [List.take_add_one, ex]; simp
      have hmem : S.may x = false → xs.all (S.may ·) = false := fun e => by
        rw [List.all_eq_false]; exact ⟨x, List.mem_of_getElem? ex, by simp [e]⟩
      have HE := Lib.hid (And.intro ex (And.intro hnext (And.intro hmem hall)))
      clear ex hnext hmem hall hcx
      have hbit := may_bits x x0 x1
      have hcase : x % 4 = 3 ∨ x % 4 = 0 ∨ (x % 4 ≠ 3 ∧ x % 4 ≠ 0) := by omega
      rcases hcase with e | e | ⟨e1, e2⟩
      · have hm : S.may x = false := by unfold HS.may mayB isB; simp [e]
        have HM := Lib.hid hm
        have b1 : (x % 4 == 3) = true := by simp [e]
        clear hm
        rw [e] at hbit
        clear e b1
        go_wp2_with fail
        go_ret
        exact ⟨by rw [HE.out.2.2.1 HM.out]; rfl, n, rfl⟩
      · have hm : S.may x = S.is x := by unfold HS.may mayB HS.is; simp [e]
        have HM := Lib.hid hm
        clear hm
        rw [e] at hbit
        clear e
        have hI := fun m : Nat => (h.drewN m).hw.v.Is x x0 x1
        cases hq : S.is x
        · rw [hq] at hI
          have HQ := Lib.hid hq
          have HI := Lib.hid hI
          clear hq hI
          go_wp2_with fail
          refine (HI.out n).mono ?_
          rintro e w' ⟨rfl, j, rfl⟩
          go_wp2_with fail
          go_ret
          exact ⟨by rw [HE.out.2.2.1 (HM.out.trans HQ.out)]; rfl, n + j, rfl⟩
        · rw [hq] at hI
          have HQ := Lib.hid hq
          have HI := Lib.hid hI
          clear hq hI
          go_wp2_with fail
          refine (HI.out n).mono ?_
          rintro e w' ⟨rfl, j, rfl⟩
          go_wp2_with fail
          go_roundw
          case rel => exact ⟨k + 1, n + j, by omega, by go_num, rfl, by rw [HE.out.2.1, HE.out.2.2.2, HM.out, HQ.out]; rfl⟩
          case measure => simp [intOf]; omega
      · have hm : S.may x = true := by
          have : x % 4 = 1 ∨ x % 4 = 2 := by omega
          unfold HS.may mayB; rcases this with e | e <;> simp [e]
        have HM := Lib.hid hm
        have b1 : (x % 4 == 3) = false := by rw [beq_eq_false_iff_ne]; exact e1
        have b2 : (x % 4 == 0) = false := by rw [beq_eq_false_iff_ne]; exact e2
        clear hm
        go_wp2_with fail
        go_roundw
        case rel => exact ⟨k + 1, n, by omega, by go_num, rfl, by rw [HE.out.2.1, HE.out.2.2.2, HM.out]; rfl⟩
        case measure => simp [intOf]; omega
    · obtain rfl : k = xs.length := by omega
      have hge : (xs.length : Int) ≤ xs.length := by omega
      rw [List.take_of_length_le (Nat.le_refl _)] at hall
      have HA := Lib.hid hall
      clear hall
      go_wp2_with fail
      go_ret
      rw [HA.out]
      exact ⟨rfl, n, rfl⟩
end
end Go.Proofs.Ytanjiecefioffaa
