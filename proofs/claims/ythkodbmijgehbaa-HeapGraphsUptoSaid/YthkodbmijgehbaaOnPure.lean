/- A heap beside the document's: On. -/
import Derived.Test.YthkodbmijgehbaaWords
import Derived.Test.YthkodbmijgehbaaRefGc
import Derived.Test.YthkodbmijgehbaaGcWalk
namespace Go.Proofs.Ythkodbmijgehbaa
open Go.RowKit

theorem place_said (v n : Int) (w : World) (h0 : 0 < n) (h1 : n ≤ 9223372036854775807) :
    Calls Try.prog 15 #[.int .i64 v, .int .i64 n] w (Says (.int .i64 (place v n)) w) :=
  (place_any v n w h0 h1).mono fun _ _ h => ⟨h.1, 0, h.2.symm⟩

/-- Where an On lies, and the objects that were made. -/
structure OV where
  g : Nat
  p : Nat
  q : Nat
  vo : Value
  obj : List Int
def isOn (O : OV) : HP := blk O.g (.cells #[.pointer (some ⟨O.p, 0, none⟩), .pointer (some ⟨O.q, 0, none⟩), O.vo] 48 (0, 0)) * own 28 1 O.vo O.obj.length (O.obj.map u64)
def pickP (obj : List Int) (i : Int) : Int := if obj.length = 0 then 0 else obj.getD (place i obj.length).toNat 0

section
variable {w : World} {O : OV} {R : HP}

set_option maxHeartbeats 400000 in
theorem on_pick (h : sat w (isOn O * R)) (i : Int) (hl : O.obj.length < 4611686018427387904) :
    Calls Try.prog 30 #[.pointer (some ⟨O.g, 0, none⟩), .int .i64 i] w (Says (.int .u64 (pickP O.obj i)) w) := by
  unfold isOn at h
  have c2 : w.cell? ⟨O.g, 2, none⟩ = some O.vo := (h.left.left.cell 2).trans rfl
  have ho : sat w (own 28 1 O.vo O.obj.length (O.obj.map u64) * emp) := by rw [HP.mul_emp]; exact h.left.right
  rcases Nat.eq_zero_or_pos O.obj.length with hz | hp
  · obtain ⟨_, ⟨hv, _⟩ | ⟨b, cap, hv, _⟩⟩ := ho.open_own
    · rw [hv] at c2
      have hp : pickP O.obj i = 0 := by unfold pickP; rw [if_pos hz]
      rw [hp]
      clear hp ho h hv hl
      go_enter Try.func30, Try.ntmps30
      go_wp2_with fail
      go_ret
      exact ⟨rfl, 0, rfl⟩
    · rw [hv, hz] at c2
      have hp : pickP O.obj i = 0 := by unfold pickP; rw [if_pos hz]
      rw [hp]
      clear hp ho h hv hl
      go_enter Try.func30, Try.ntmps30
      go_wp2_with fail
      go_ret
      exact ⟨rfl, 0, rfl⟩
  · obtain ⟨b, cap, hv, hn, _, hr⟩ := ho.own_some hp
    rw [hv] at c2
    have hpb := place_bd i O.obj.length (by omega)
    have hps := fun w' : World => place_said i O.obj.length w' (by omega) (by omega)
    have hpk : pickP O.obj i = O.obj.getD (place i O.obj.length).toNat 0 := by unfold pickP; rw [if_neg (by omega)]
    have hcell := hr.row_cell (j := (place i O.obj.length).toNat) (v := .int .u64 (O.obj.getD (place i O.obj.length).toNat 0)) (by rw [List.getElem?_map, getD_get (by omega)]; rfl)
    rw [← hpk] at hcell
    generalize pickP O.obj i = y at *
    obtain ⟨k, hk⟩ : ∃ k : Nat, place i O.obj.length = k := ⟨(place i O.obj.length).toNat, by omega⟩
    rw [hk] at hpb hcell
    simp only [hk] at hps
    rw [Int.toNat_natCast] at hcell
    clear hpk hk ho h hv hr
    generalize O.obj.length = n at *
    have hkn : (k : Int) < n := hpb.2
    have hn0 : ((n : Int) == 0) = false := by rw [beq_eq_false_iff_ne]; omega
    have HPS := Lib.hid hps
    clear hps
    go_enter Try.func30, Try.ntmps30
    go_wp2_with fail
    go_quiet ((go_at_call 15; exact Calls.said (HPS.out _)))
    go_wp2_with fail
    go_ret
    exact ⟨rfl, nq, rfl⟩
end
end Go.Proofs.Ythkodbmijgehbaa
