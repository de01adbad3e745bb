/- HeapPlays' walk. -/
import Derived.Test.YthkodbmijgehbaaGrown
namespace Go.Proofs.Ythkodbmijgehbaa
open Go.RowKit

set_option maxHeartbeats 1000000 in
set_option maxRecDepth 100000 in
theorem heapPlays_walk (n : Int) (W : World) (ao : Option Addr) (len cap : Nat) (zs : List OpD) (hz : IsOps W ao len zs) :
    Calls Try.prog 10 #[.int .i64 n, .slice ao len cap] W fun e w' => e = .returned (.bool true) ∧ Below W.heap.size W w' := by
  have hlb := hz.bd
  have hle := hz.eq
  subst hle
  have HZ := Lib.hid hz.each
  clear hz
  by_cases hn : n < 2 ∨ 1048576 < n
  · go_enter Try.func10, Try.ntmps10
    go_wp2_with fail
    refine (onNew_bad n (sat_whole W) hn).mono ?_
    rintro e w1 ⟨b, rfl, hb1, hs1⟩
    have c0 : w1.cell? ⟨b, 0, none⟩ = some (.pointer none) := (hs1.left.cell 0).trans rfl
    have hr := hs1.right
    clear hs1
    go_wp2_with fail
    refine (awake_any w1 hr).mono ?_
    rintro e w2 ⟨rfl, h2, hb2⟩
    clear c0
    go_wp2_with fail
    go_ret
    exact ⟨rfl, below_of_whole' h2 (hb1.trans hb2)⟩
  · obtain ⟨m, rfl⟩ : ∃ m : Nat, n = m := ⟨n.toNat, by omega⟩
    have hm2 : 2 ≤ m ∧ m ≤ 1048576 := by omega
    clear hn
    go_enter Try.func10, Try.ntmps10
    go_wp2_with fail
    refine (onNew_good m (sat_whole W) (by omega) (by omega)).mono ?_
    rintro e w1 ⟨O, V, V2, rfl, hb1, ho, hP⟩
    have hO : OnW w1 O V V2 (HS.new m) (whole W) := ⟨hP, by rw [ho]; intro x hx; simp at hx, by rw [ho]; exact Nat.zero_le _⟩
    have c0 := hO.p.c.1
    clear hP ho
    go_wp2_with fail
    go_loopw [7] (GRel W O.g zs) (fun i _ => zs.length - (intOf i).toNat)
    case atStart => exact ⟨0, O, V, V2, HS.new m, Nat.zero_le _, rfl, rfl, hO, Nat.le_refl _, hb1⟩
    case round =>
      clear hO hb1 c0
      obtain ⟨k, O2, V, V2, S, hk, rfl, hg, hO, ht, hb⟩ := hrel
      rw [← hg]
      have HG := Lib.hid hg
      clear hg
      by_cases hlt : k < zs.length
      · obtain ⟨x, ex⟩ : ∃ x, zs[k]? = some x := ⟨_, List.getElem?_eq_getElem hlt⟩
        have hx := HZ.out k x ex
        have hok := hx.at_.ok
        obtain ⟨ad, rfl, hc⟩ := hx.cell hO.p.fr
        have HX := Lib.hid (And.intro ex (And.intro hx hok))
        clear ex hx hok
        obtain ⟨e0, e1, e2, e3, e4, e5, e6⟩ := hc
        go_wp2_with fail
        have hd := hO.doit x HX.out.2.2 (by omega)
        unfold OpD.cells opCells at hd
        refine hd.mono ?_
        rintro e w5 ⟨rfl, hb5, O5, V5, V6, S5, hg5, hO5, ht5, _⟩
        have hsm := hO5.p.same
        rw [hg5] at hsm
        have HO := Lib.hid (And.intro (hg5.trans HG.out) (And.intro hO5 (And.intro (show S5.times ≤ k + 1 by omega) (hb.trans hb5))))
        clear hd hg5 hO5 ht5 hb hb5 e0 e1 e2 e3 e4 e5 e6
        go_wp2_with fail
        refine hsm.mono ?_
        rintro e w6 ⟨rfl, hP6, hb6⟩
        have HP := Lib.hid (And.intro hP6 hb6)
        clear hsm hP6 hb6
        go_wp2_with fail
        rw [HG.out]
        go_roundw
        case rel => exact ⟨k + 1, O5, V5, V6, S5, by omega, by go_num, HO.out.1, ⟨HP.out.1, HO.out.2.1.u, HO.out.2.1.l⟩, HO.out.2.2.1, HO.out.2.2.2.trans HP.out.2⟩
        case measure => simp [intOf]; omega
      · obtain rfl : k = zs.length := by omega
        have hge : (zs.length : Int) ≤ zs.length := by omega
        go_wp2_with fail
        refine (awake_any wr hO.p.fr).mono ?_
        rintro e w2 ⟨rfl, h2, hb2⟩
        go_wp2_with fail
        go_ret
        exact ⟨rfl, below_of_whole' h2 (hb.trans hb2)⟩
/-- In the shell's order. -/
theorem heapPlays_told (W : World) (a0 : Int) (a1 : Option Addr) (len1 cap1 : Nat) (z1 : List OpD) (_ : (Lit.int .i64 a0).wf = true) (w1 : IsOps W a1 len1 z1) :
    Calls Try.prog 10 #[.int .i64 a0, .slice a1 len1 cap1] W fun e w' => e = .returned (.bool true) ∧ Below W.heap.size W w' := heapPlays_walk a0 W a1 len1 cap1 z1 w1
end Go.Proofs.Ythkodbmijgehbaa
