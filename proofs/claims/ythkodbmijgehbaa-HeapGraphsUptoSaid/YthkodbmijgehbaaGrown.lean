/- grown: a pair of heaps behind a script. -/
import Derived.Test.YthkodbmijgehbaaOpsIn
namespace Go.Proofs.Ythkodbmijgehbaa
open Go.RowKit

theorem OpIn.ok {W : World} {x : OpD} (h : OpIn W x) : x.Ok (whole W) := by
  refine ⟨h.w0, h.w1, h.len, h.bd, ?_⟩
  intro w hs j v hv
  obtain ⟨a, ha, hc⟩ := h.rs j v hv
  have hb : (a.add j).block < W.heap.size := World.block_lt_of_cell? W _ hc
  exact ⟨a, ha, (World.cell?_of_block (hs.whole_get _ hb)).trans hc⟩
theorem add_off (a : Addr) (m j : Nat) : a.add (m + (j + 1)) = ⟨(a.add m).block, (a.add m).off + (j + 1), none⟩ := by
  rw [← Go.Deep.add_add]
  generalize a.add m = b
  unfold Addr.add
  rw [if_neg (by omega)]
/-- A call's cells, where they lie. -/
structure OpCells (w : World) (A : Addr) (x : OpD) : Prop where
  e0 : w.cell? A = some (.int .i64 x.kd)
  e1 : w.cell? ⟨A.block, A.off + 1, none⟩ = some (.int .i64 x.a)
  e2 : w.cell? ⟨A.block, A.off + 2, none⟩ = some (.int .i64 x.b)
  e3 : w.cell? ⟨A.block, A.off + 3, none⟩ = some (.int .i64 x.c)
  e4 : w.cell? ⟨A.block, A.off + 4, none⟩ = some (.int .u64 x.xw)
  e5 : w.cell? ⟨A.block, A.off + 5, none⟩ = some (.bool x.obj)
  e6 : w.cell? ⟨A.block, A.off + 6, none⟩ = some (.slice x.ao x.len x.cap)
theorem OpAt.cell {W w : World} {ao : Option Addr} {i : Nat} {x : OpD} (h : OpAt W ao i x) (hs : sat w (whole W)) : ∃ ad, ao = some ad ∧ OpCells w (ad.add (i * 7)) x := by
  obtain ⟨ad, ha, hc⟩ := h.cs
  have hall : ∀ (j : Nat) v, x.cells[j]? = some v → w.cell? (ad.add (i * 7 + j)) = some v := fun j v hv => by
    have h1 := hc j v hv
    have hb : (ad.add (i * 7 + j)).block < W.heap.size := World.block_lt_of_cell? W _ h1
    exact (World.cell?_of_block (hs.whole_get _ hb)).trans h1
  refine ⟨ad, ha, ⟨?_, ?_, ?_, ?_, ?_, ?_, ?_⟩⟩
  · have := hall 0 _ rfl; rwa [Nat.add_zero] at this
  · have := hall 1 _ rfl; rwa [add_off] at this
  · have := hall 2 _ rfl; rwa [add_off] at this
  · have := hall 3 _ rfl; rwa [add_off] at this
  · have := hall 4 _ rfl; rwa [add_off] at this
  · have := hall 5 _ rfl; rwa [add_off] at this
  · have := hall 6 _ rfl; rwa [add_off] at this

def GRel (W : World) (g : Nat) (zs : List OpD) (i : Value) (wr : World) : Prop :=
  ∃ (k : Nat) (O : OV) (V : HV) (V2 : RV) (S : HS), k ≤ zs.length ∧ i = .int .i64 k ∧ O.g = g ∧ OnW wr O V V2 S (whole W) ∧ S.times ≤ k ∧ Below 0 W wr
def GrownPost (W : World) (e : Ending) (w' : World) : Prop :=
  ∃ (O : OV) (V : HV) (V2 : RV) (S : HS), e = .returned (.pointer (some ⟨O.g, 0, none⟩)) ∧ OnW w' O V V2 S (whole W) ∧ S.times ≤ 1954687338211 ∧ Below 0 W w'

set_option maxHeartbeats 1000000 in
set_option maxRecDepth 100000 in
theorem grown_any (W : World) (n : Int) (ao : Option Addr) (len cap : Nat) (zs : List OpD) (hz : IsOps W ao len zs) :
    Calls Try.prog 29 #[.int .i64 n, .slice ao len cap] W (GrownPost W) := by
  have hlb := hz.bd
  have hle := hz.eq
  subst hle
  have HZ := Lib.hid hz.each
  clear hz
  go_enter Try.func29, Try.ntmps29
  go_wp2_with fail
  refine (place_any n 500 _ (by decide) (by decide)).mono ?_
  rintro e w' ⟨rfl, rfl⟩
  have hp := place_bd n 500 (by decide)
  obtain ⟨m, hm⟩ : ∃ m : Nat, 64 + place n 500 = m := ⟨(64 + place n 500).toNat, by omega⟩
  have hm2 : 64 ≤ m ∧ m ≤ 563 := by omega
  go_wp2_with fail
  clear hm hp
  refine (onNew_good m (sat_whole W) (by omega) (by omega)).mono ?_
  rintro e w1 ⟨O, V, V2, rfl, hb1, ho, hP⟩
  have hO : OnW w1 O V V2 (HS.new m) (whole W) := ⟨hP, by rw [ho]; intro x hx; simp at hx, by rw [ho]; exact Nat.zero_le _, by rw [ho]; intro x hx; simp at hx⟩
  have c0 := hO.p.c.1
  clear hP ho
  go_wp2_with fail
  go_loopw [7] (GRel W O.g zs) (fun i _ => zs.length - (intOf i).toNat)
  case atStart => exact ⟨0, O, V, V2, HS.new m, Nat.zero_le _, rfl, rfl, hO, Nat.le_refl _, hb1⟩
  case round =>
    clear hO hb1 c0
    obtain ⟨k, O2, V, V2, S, hk, rfl, hg, hO, ht, hb⟩ := hrel
    rw [← hg]
    have HG := Lib.hid hg
    clear hg
    by_cases hlt : k < zs.length
    · obtain ⟨x, ex⟩ : ∃ x, zs[k]? = some x := ⟨_, List.getElem?_eq_getElem hlt⟩
      have hx := HZ.out k x ex
      have hok := hx.at_.ok
      obtain ⟨ad, rfl, hc⟩ := hx.cell hO.p.fr
      have HX := Lib.hid (And.intro ex (And.intro hx hok))
      clear ex hx hok
      obtain ⟨e0, e1, e2, e3, e4, e5, e6⟩ := hc
      go_wp2_with fail
      have hd := hO.doit x HX.out.2.2 (by omega)
      unfold OpD.cells opCells at hd
      refine hd.mono ?_
      rintro e w5 ⟨rfl, hb5, O5, V5, V6, S5, hg5, hO5, ht5, _⟩
      have HO := Lib.hid (And.intro (hg5.trans HG.out) (And.intro hO5 (And.intro (show S5.times ≤ k + 1 by omega) (hb.trans hb5))))
      clear hd hg5 hO5 ht5 hb hb5 e0 e1 e2 e3 e4 e5 e6
      go_wp2_with fail
      rw [HG.out]
      go_roundw
      case rel => exact ⟨k + 1, O5, V5, V6, S5, by omega, by go_num, HO.out.1, HO.out.2.1, HO.out.2.2.1, HO.out.2.2.2⟩
      case measure => simp [intOf]; omega
    · obtain rfl : k = zs.length := by omega
      have hge : (zs.length : Int) ≤ zs.length := by omega
      go_wp2_with fail
      go_ret
      exact ⟨O2, V, V2, S, rfl, hO, by omega, hb⟩
end Go.Proofs.Ythkodbmijgehbaa
