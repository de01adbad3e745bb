/- HeapDrops' walk. -/
import Derived.Test.YthkodbmijgehbaaGrown
namespace Go.Proofs.Ythkodbmijgehbaa
open Go.RowKit

theorem gcEnd_nil (S : HS) (h : 0 < S.ws.length) : gcEnd S [] = CS.zero S := by
  unfold gcEnd
  obtain ⟨n, hn⟩ : ∃ n, S.ws.length = n + 1 := ⟨S.ws.length - 1, by omega⟩
  rw [hn]
  show (if 1 < (CS.zero S).tw.length then _ else CS.zero S) = CS.zero S
  exact if_neg (by unfold CS.zero; simp)
theorem collect_nil (S : HS) (h : 0 < S.ws.length) : S.collect [] = ⟨S.size, [0], [false], S.times + 1⟩ := by
  unfold HS.collect; rw [gcEnd_nil S h]; rfl
theorem moved_nil (S : HS) : S.moved [] = [] := rfl

theorem on_cell {w : World} {O : OV} {g : Nat} {A Q : HP} (h : sat w (A * (isOn O * Q))) (hp : O.p = g) : w.cell? ⟨O.g, 0, none⟩ = some (.pointer (some ⟨g, 0, none⟩)) := by
  have h1 := h.right.left
  unfold isOn at h1
  rw [hp] at h1
  exact (h1.left.cell 0).trans rfl
theorem on_cell2 {w : World} {O : OV} {g : Nat} {A B Q : HP} (h : sat w (A * (B * (isOn O * Q)))) (hp : O.p = g) : w.cell? ⟨O.g, 0, none⟩ = some (.pointer (some ⟨g, 0, none⟩)) := on_cell h.right hp

theorem drops_room (size : Nat) (times : Nat) (x : Int) (h : 2 ≤ size) (hi : size ≤ 1048576) (x0 : 0 ≤ x) (x1 : x < (size : Int) - 2 + 1) :
    (HS.mk size [0] [false] times).room 1 x 0 = true ∧ ((HS.mk size [0] [false] times).alloc 1 x 0).room 1 ((size : Int) - 2 + 1) 0 = false := by
  have h1 : (HS.mk size [0] [false] times).room 1 x 0 = true := by
    unfold HS.room
    simp only [Bool.and_eq_true, decide_eq_true_eq, List.length_cons, List.length_nil]
    omega
  refine ⟨h1, ?_⟩
  have h2 : ((HS.mk size [0] [false] times).alloc 1 x 0).ws.length = 2 + x.toNat := by
    unfold HS.alloc; rw [if_pos h1]
    simp [objWords]; omega
  have h3 : ((HS.mk size [0] [false] times).alloc 1 x 0).size = size := by unfold HS.alloc; rw [if_pos h1]
  unfold HS.room
  rw [h2, h3]
  simp only [Bool.and_eq_false_iff, decide_eq_false_iff_not]
  omega

set_option maxHeartbeats 1000000 in
set_option maxRecDepth 100000 in
theorem heapDrops_walk (W : World) (n : Int) (ao : Option Addr) (len cap : Nat) (zs : List OpD) (sz : Int) (hz : IsOps W ao len zs) :
    Calls Try.prog 8 #[.int .i64 n, .slice ao len cap, .int .i64 sz] W fun e w' => e = .returned (.bool true) ∧ Below W.heap.size W w' := by
  go_enter Try.func8, Try.ntmps8
  go_wp2_with fail
  refine (grown_any W n ao len cap zs hz).mono ?_
  rintro e w1 ⟨O, V, V2, S, rfl, hO, ht, hb1⟩
  have hw := hO.p.hw
  have hp := hO.p.p
  have hpos := hw.ok.wf.pos
  have HP := Lib.hid hp
  have c0 := on_cell hw.s hp
  clear hp
  go_wp2_with fail
  have hc := hw.Collect none 0 [] (fun w hs j x hj => by simp at hj) (fun x hx => by cases hx) (by simp) (by omega)
  simp only [List.length_nil] at hc
  refine hc.mono ?_
  rintro e w2 ⟨bo, V5, rfl, hg5, h5, hb2⟩
  rw [collect_nil S hpos] at h5
  have hlo := hw.ok.lo
  have hhi := hw.ok.hi
  have c0 := on_cell2 h5.s HP.out
  rw [← hg5] at c0
  have HG := Lib.hid (hg5.symm ▸ HP.out : O.p = V5.g)
  clear hc hw hO hg5 HP hpos
  generalize S.times + 1 = tm at *
  generalize S.size = size at *
  go_wp2_with fail
  refine h5.v.Size.mono ?_
  rintro e w' ⟨rfl, j1, rfl⟩
  have hpl := place_bd sz ((size : Int) - 2 + 1) (by omega)
  obtain ⟨r1, r2⟩ := drops_room size tm (place sz ((size : Int) - 2 + 1)) hlo hhi hpl.1 hpl.2
  have HR := Lib.hid (And.intro r1 r2)
  have s1 : IntKind.i64.wrap ((size : Int) - 2) = (size : Int) - 2 := IntWalk.i64_in _ (by omega)
  have s2 : IntKind.i64.wrap ((size : Int) - 2 + 1) = (size : Int) - 2 + 1 := IntWalk.i64_in _ (by omega)
  clear r1 r2
  have h5' := h5.drewN j1
  have c0' : (w2.drewN j1).cell? ⟨O.g, 0, none⟩ = _ := c0
  have hb2' := (hb1.trans hb2).trans (drewN_below0 _ j1)
  clear h5 c0 hb1 hb2
  generalize w2.drewN j1 = w3 at *
  have hA : ∀ m : Nat, _ := fun m => (h5'.drewN m).Alloc 1 (place sz ((size : Int) - 2 + 1)) 0
  have hPl : ∀ m : Nat, _ := fun m => place_any sz ((size : Int) - 2 + 1) (w3.drewN m) (by omega) (by omega)
  rw [HR.out.1] at hA
  generalize place sz ((size : Int) - 2 + 1) = x at *
  have HA := Lib.hid (And.intro hA hPl)
  clear hA hPl
  go_wp2_with fail
  go_region_held3 (fun w' => w'.cell? ⟨O.g, 0, none⟩ = some (.pointer (some ⟨V5.g, 0, none⟩)))
    (first | go_keep | exact k0)
    (first
      | (go_at_call 15; refine (HA.out.2 _).mono ?_; rintro e w' ⟨rfl, rfl⟩)
      | (go_at_call 17; refine (HA.out.1 _).mono ?_; rintro e w6 ⟨rfl, hb6, V6, hg6, h6⟩; have k0 := on_cell2 h6.s (HG.out.trans hg6.symm); rw [hg6] at k0; have HG6 := Lib.hid hg6; clear hg6))
  rename_i hHeld
  clear hHeld c0'
  have hA2 := h6.Alloc 1 ((size : Int) - 2 + 1) 0
  rw [HR.out.2, HG6.out] at hA2
  go_wp2_with fail
  refine hA2.mono ?_
  rintro e w7 ⟨rfl, hb7, V7, hg7, h7⟩
  have hW := h7.s.right.right.right.right
  have hbb := (((hb2'.trans (drewN_below0 _ _)).trans hb6).trans hb7)
  have HF := Lib.hid (And.intro hW hbb)
  clear hA2 h7 h6 hb7 hb6 hb2' hg7 h5' k0 hbb hW
  go_wp2_with fail
  refine (awake_any w7 HF.out.1).mono ?_
  rintro e w8 ⟨rfl, h8, hb8⟩
  go_wp2_with fail
  go_ret
  exact ⟨rfl, below_of_whole' h8 (HF.out.2.trans hb8)⟩

/-- In the shell's order. -/
theorem heapDrops_told (W : World) (a0 : Int) (a1 : Option Addr) (len1 cap1 : Nat) (z1 : List OpD) (a2 : Int) (_ : (Lit.int .i64 a0).wf = true) (w1 : IsOps W a1 len1 z1) (_ : (Lit.int .i64 a2).wf = true) :
    Calls Try.prog 8 #[.int .i64 a0, .slice a1 len1 cap1, .int .i64 a2] W fun e w' => e = .returned (.bool true) ∧ Below W.heap.size W w' := heapDrops_walk W a0 a1 len1 cap1 z1 a2 w1
end Go.Proofs.Ythkodbmijgehbaa
