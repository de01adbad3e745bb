/- value.Store: raw, lay. -/
import Derived.Test.YtanjiecefioffaaStoreMay
import Derived.Test.YtanjiecefioffaaStoreLaid
namespace Go.Proofs.Ytanjiecefioffaa
open Go.RowKit

/-- The words can be read wherever R lies. -/
def WordsIn (R : HP) (ao : Option Addr) (xs : List Int) : Prop := ∀ w, sat w R → ReadsW w ao xs
def LayRel (w : World) (X : StV) (V : HV) (T : Nat → HS) (Y : StS) (R : HP) (n : Nat) (i : Value) (wr : World) : Prop :=
  ∃ k : Nat, k ≤ n ∧ i = .int .i64 k ∧ StW wr X V (T k) Y R ∧ Below 0 w wr
def StLaid (X : StV) (g : Nat) (S' : HS) (Y : StS) (R : HP) (p : Int) (ok : Bool) (w : World) (e : Ending) (w' : World) : Prop :=
  e = .returned (.tuple #[.int .u64 p, .bool ok]) ∧ Below 0 w w' ∧ ∃ V' : HV, V'.g = g ∧ StW w' X V' S' Y R

section
variable {w : World} {X : StV} {V : HV} {S : HS} {Y : StS} {R : HP}
theorem StW.fr (h : StW w X V S Y R) : sat w R := h.s.right.right

set_option maxHeartbeats 1000000 in
theorem StW.raw_any (h : StW w X V S Y R) (kind : Int) (ao : Option Addr) (cap : Nat) (xs : List Int) (hx : WordsIn R ao xs) (hu : ∀ x ∈ xs, 0 ≤ x ∧ x < 18446744073709551616) (hn : xs.length < 4611686018427387904)
    (p : Int) (ok : Bool) (T : Nat → HS) (hr : S.room kind 0 xs.length = ok) (hp : (if ok = true then 4 * (S.ws.length : Int) else 0) = p) (hp0 : 0 ≤ p ∧ p < 18446744073709551616) (h0 : S.alloc kind 0 xs.length = T 0) (hT : ∀ k x, xs[k]? = some x → (T k).setRaw p k x = T (k + 1)) :
    Calls Try.prog 54 #[.pointer (some ⟨X.g, 0, none⟩), .int .i64 kind, .slice ao xs.length cap] w (StLaid X V.g (T xs.length) Y R p ok w) := by
  have c0 := h.c0
  have hA := h.hw.Alloc kind 0 xs.length
  rw [hr, h0] at hA
  have HH := Lib.hid (And.intro hp hT)
  clear hr h0 hT
  go_enter Try.func54, Try.ntmps54
  go_wp2_with fail
  refine hA.mono ?_
  rintro e w2 ⟨rfl, hb2, V2, hg2, h2⟩
  rw [HH.out.1]
  have hs := StW.turn h2 hg2
  have HG := Lib.hid hg2
  clear hA hp c0 h2 hg2
  go_wp2_with fail
  go_loopw [25] (LayRel w X V2 T Y R xs.length) (fun i _ => xs.length - (intOf i).toNat)
  case atStart => exact ⟨0, Nat.zero_le _, rfl, hs, hb2⟩
  case round =>
    clear hs hb2
    obtain ⟨k, hk, rfl, hs, hb⟩ := hrel
    by_cases hlt : k < xs.length
    · obtain ⟨x, ex⟩ : ∃ x, xs[k]? = some x := ⟨_, List.getElem?_eq_getElem hlt⟩
      obtain ⟨x0, x1⟩ := hu x (List.mem_of_getElem? ex)
      obtain ⟨a, rfl, hcx⟩ := hx wr hs.fr k x ex
      have hst := HH.out.2 k x ex
      have c0 := hs.c0
      have hS := hs.hw.SetRaw p k x hp0.1 hp0.2 x0 x1
      rw [hst] at hS
      clear ex hst
      go_wp2_with fail
      refine hS.mono ?_
      rintro e w3 ⟨rfl, h3, hb3⟩
      have hs3 := Lib.hid (And.intro (StW.turn h3 rfl) (hb.trans hb3))
      clear hS h3 hb3 hb hs c0 hcx
      go_wp2_with fail
      go_roundw
      case rel => exact ⟨k + 1, by omega, by go_num, hs3.out.1, hs3.out.2⟩
      case measure => simp [intOf]; omega
    · obtain rfl : k = xs.length := by omega
      have hge : (xs.length : Int) ≤ xs.length := by omega
      have HF := Lib.hid (And.intro hs hb)
      clear hs hb
      go_wp2_with fail
      go_ret2
      exact ⟨rfl, HF.out.2, V2, HG.out, HF.out.1⟩
set_option maxHeartbeats 1000000 in
theorem StW.lay_any (h : StW w X V S Y R) (kind : Int) (ao : Option Addr) (cap : Nat) (xs : List Int) (hx : WordsIn R ao xs) (hu : ∀ x ∈ xs, 0 ≤ x ∧ x < 18446744073709551616) (hn : xs.length < 4611686018427387904)
    (p : Int) (ok : Bool) (T : Nat → HS) (hm : xs.all (S.may ·) = true) (hr : S.room kind xs.length 0 = ok) (hp : (if ok = true then 4 * (S.ws.length : Int) else 0) = p) (hp0 : 0 ≤ p ∧ p < 18446744073709551616) (h0 : S.alloc kind xs.length 0 = T 0) (hT : ∀ k x, xs[k]? = some x → (T k).set p k x = T (k + 1)) :
    Calls Try.prog 52 #[.pointer (some ⟨X.g, 0, none⟩), .int .i64 kind, .slice ao xs.length cap] w (StLaid X V.g (T xs.length) Y R p ok w) := by
  have c0 := h.c0
  have hA : ∀ m : Nat, _ := fun m => (h.hw.drewN m).Alloc kind xs.length 0
  rw [hr, h0] at hA
  have HH := Lib.hid (And.intro hp hT)
  clear hr h0 hT
  go_enter Try.func52, Try.ntmps52
  go_wp2_with fail
  have hMay := h.May ao cap xs (hx w h.fr) hu hn
  rw [hm] at hMay
  clear hm
  refine hMay.mono ?_
  rintro e w' ⟨rfl, j1, rfl⟩
  have c0' : (w.drewN j1).cell? ⟨X.g, 0, none⟩ = _ := c0
  clear hMay
  go_wp2_with fail
  refine (hA j1).mono ?_
  rintro e w2 ⟨rfl, hb2', V2, hg2, h2⟩
  have hb2 := (drewN_below0 w j1).trans hb2'
  rw [HH.out.1]
  have hs := StW.turn h2 hg2
  have HG := Lib.hid hg2
  clear hA hp c0 c0' h2 hg2 hb2'
  go_wp2_with fail
  go_loopw [29] (LayRel w X V2 T Y R xs.length) (fun i _ => xs.length - (intOf i).toNat)
  case atStart => exact ⟨0, Nat.zero_le _, rfl, hs, hb2⟩
  case round =>
    clear hs hb2
    obtain ⟨k, hk, rfl, hs, hb⟩ := hrel
    by_cases hlt : k < xs.length
    · obtain ⟨x, ex⟩ : ∃ x, xs[k]? = some x := ⟨_, List.getElem?_eq_getElem hlt⟩
      obtain ⟨x0, x1⟩ := hu x (List.mem_of_getElem? ex)
      obtain ⟨a, rfl, hcx⟩ := hx wr hs.fr k x ex
      have hst := HH.out.2 k x ex
      have c0 := hs.c0
      have hS := hs.hw.Set p k x hp0.1 hp0.2 x0 x1
      rw [hst] at hS
      clear ex hst
      go_wp2_with fail
      refine hS.mono ?_
      rintro e w3 ⟨rfl, h3, hb3⟩
      have hs3 := Lib.hid (And.intro (StW.turn h3 rfl) (hb.trans hb3))
      clear hS h3 hb3 hb hs c0 hcx
      go_wp2_with fail
      go_roundw
      case rel => exact ⟨k + 1, by omega, by go_num, hs3.out.1, hs3.out.2⟩
      case measure => simp [intOf]; omega
    · obtain rfl : k = xs.length := by omega
      have hge : (xs.length : Int) ≤ xs.length := by omega
      have HF := Lib.hid (And.intro hs hb)
      clear hs hb
      go_wp2_with fail
      go_ret2
      exact ⟨rfl, HF.out.2, V2, HG.out, HF.out.1⟩
set_option maxHeartbeats 400000 in
theorem StW.lay_no (h : StW w X V S Y R) (kind : Int) (ao : Option Addr) (cap : Nat) (xs : List Int) (hx : WordsIn R ao xs) (hu : ∀ x ∈ xs, 0 ≤ x ∧ x < 18446744073709551616) (hn : xs.length < 4611686018427387904) (hm : xs.all (S.may ·) = false) :
    Calls Try.prog 52 #[.pointer (some ⟨X.g, 0, none⟩), .int .i64 kind, .slice ao xs.length cap] w (StLaid X V.g S Y R 0 false w) := by
  have hMay := h.May ao cap xs (hx w h.fr) hu hn
  rw [hm] at hMay
  clear hm
  go_enter Try.func52, Try.ntmps52
  go_wp2_with fail
  refine hMay.mono ?_
  rintro e w' ⟨rfl, j1, rfl⟩
  clear hMay
  go_wp2_with fail
  go_ret2
  exact ⟨rfl, drewN_below0 _ _, V, rfl, h.drewN _⟩
/-- raw, whole. -/
theorem HS.is_zero {S : HS} (hw : WfH S.ws S.bs) : S.is 0 = false := by
  cases hz : S.is 0 with
  | false => rfl
  | true =>
    have := (is_iff.1 hz).2
    rw [show ((0 : Int) / 4).toNat = 0 from rfl, hw.zero.1] at this
    cases this
theorem StW.raw_yes (h : StW w X V S Y R) (kind : Int) (ao : Option Addr) (cap : Nat) (xs : List Int) (hx : WordsIn R ao xs) (hu : ∀ x ∈ xs, 0 ≤ x ∧ x < 18446744073709551616) (hr : S.room kind 0 xs.length = true) :
    Calls Try.prog 54 #[.pointer (some ⟨X.g, 0, none⟩), .int .i64 kind, .slice ao xs.length cap] w (StLaid X V.g (S.part kind 0 xs.length 0 xs xs.length) Y R (4 * (S.ws.length : Int)) true w) := by
  obtain ⟨_, _, _, _, _, hb, _⟩ := room_bd hr
  have hl := h.hw.v.len
  exact h.raw_any kind ao cap xs hx hu (by omega) _ true (fun k => S.part kind 0 xs.length 0 xs k) hr (by simp) (by omega) (part_zeroR hr xs) (fun k x hk => (part_setR h.ok.wf.len hr ((List.getElem?_eq_some_iff.1 hk).1) hk).2)
theorem StW.raw_no (h : StW w X V S Y R) (kind : Int) (ao : Option Addr) (cap : Nat) (xs : List Int) (hx : WordsIn R ao xs) (hu : ∀ x ∈ xs, 0 ≤ x ∧ x < 18446744073709551616) (hn : xs.length < 4611686018427387904) (hr : S.room kind 0 xs.length = false) :
    Calls Try.prog 54 #[.pointer (some ⟨X.g, 0, none⟩), .int .i64 kind, .slice ao xs.length cap] w (StLaid X V.g S Y R 0 false w) :=
  h.raw_any kind ao cap xs hx hu hn 0 false (fun _ => S) hr (by simp) (by omega) (by unfold HS.alloc; rw [if_neg (by rw [hr]; simp)]) (fun k x _ => by
    have hz := HS.is_zero h.ok.wf
    have : S.setRawOk 0 k = false := by
      unfold HS.setRawOk HS.raw HS.head headOf
      rw [if_neg (by unfold HS.is at hz; rw [hz]; simp)]
      simp [rawH] <;> omega
    unfold HS.setRaw; rw [if_neg (by rw [this]; simp)])
theorem StW.lay_yes (h : StW w X V S Y R) (kind : Int) (ao : Option Addr) (cap : Nat) (xs : List Int) (hx : WordsIn R ao xs) (hu : ∀ x ∈ xs, 0 ≤ x ∧ x < 18446744073709551616) (hm : xs.all (S.may ·) = true) (hr : S.room kind xs.length 0 = true) :
    Calls Try.prog 52 #[.pointer (some ⟨X.g, 0, none⟩), .int .i64 kind, .slice ao xs.length cap] w (StLaid X V.g (S.part kind xs.length 0 2 xs xs.length) Y R (4 * (S.ws.length : Int)) true w) := by
  obtain ⟨_, _, _, _, hb, _, _⟩ := room_bd hr
  have hl := h.hw.v.len
  exact h.lay_any kind ao cap xs hx hu (by omega) _ true (fun k => S.part kind xs.length 0 2 xs k) hm hr (by simp) (by omega) (part_zero hr xs) (fun k x hk => (part_set h.ok.wf.len hr ((List.getElem?_eq_some_iff.1 hk).1) hk (List.all_eq_true.1 hm x (List.mem_of_getElem? hk))).2)
theorem StW.lay_full (h : StW w X V S Y R) (kind : Int) (ao : Option Addr) (cap : Nat) (xs : List Int) (hx : WordsIn R ao xs) (hu : ∀ x ∈ xs, 0 ≤ x ∧ x < 18446744073709551616) (hn : xs.length < 4611686018427387904) (hm : xs.all (S.may ·) = true) (hr : S.room kind xs.length 0 = false) :
    Calls Try.prog 52 #[.pointer (some ⟨X.g, 0, none⟩), .int .i64 kind, .slice ao xs.length cap] w (StLaid X V.g S Y R 0 false w) :=
  h.lay_any kind ao cap xs hx hu hn 0 false (fun _ => S) hm hr (by simp) (by omega) (by unfold HS.alloc; rw [if_neg (by rw [hr]; simp)]) (fun k x _ => by
    have hz := HS.is_zero h.ok.wf
    have : S.setOk 0 k x = false := by
      unfold HS.setOk HS.tag HS.head headOf
      rw [if_neg (by unfold HS.is at hz; rw [hz]; simp)]
      simp [tagH] <;> omega
    unfold HS.set; rw [if_neg (by rw [this]; simp)])
end
end Go.Proofs.Ytanjiecefioffaa
