/- do, kind 1. -/
import Derived.Test.YthkodbmijgehbaaOnOp
namespace Go.Proofs.Ythkodbmijgehbaa
open Go.RowKit
section
variable {w : World} {O : OV} {V : HV} {V2 : RV} {S : HS} {R : HP}
set_option maxHeartbeats 2000000 in
set_option maxRecDepth 100000 in
theorem OnW.do_set (h : OnW w O V V2 S R) (kd a b c xw : Int) (obj : Bool) (ao : Option Addr) (len cap : Nat) (w0 : 0 ≤ xw) (w1 : xw < 18446744073709551616) (hk : place kd 7 = 1) :
    Calls Try.prog 37 #[.pointer (some ⟨O.g, 0, none⟩), .agg (opCells kd a b c xw obj ao len cap)] w (DoPost O S R w) := by
  have hPl : ∀ w, Calls Try.prog 15 #[.int .i64 kd, .int .i64 7] w fun e w' => e = .returned (.int .i64 1) ∧ w = w' := by
    intro w; have := place_any kd 7 w (by decide) (by decide); rwa [hk] at this
  have hB := h.box (.cells (opCells kd a b c xw obj ao len cap) 62 (0, 0))
  have hb0 : Below 0 w (w.alloc (.cells (opCells kd a b c xw obj ao len cap) 62 (0, 0))) := Below.zero_alloc _ _
  have H0 := Lib.hid (And.intro hPl (And.intro hB hb0))
  clear hPl hB hb0 hk
  unfold opCells at *
  go_enter Try.func37, Try.ntmps37
  go_upto_region 1 with (fail)
  obtain ⟨hPl, hB, hb0⟩ := H0.out
  clear H0
  generalize w.alloc (.cells #[.int .i64 kd, .int .i64 a, .int .i64 b, .int .i64 c, .int .u64 xw, .bool obj, .slice ao len cap] 62 (0, 0)) = w1' at *
  generalize w.heap.size = bx at *
  have x0 := (hB.x 0).trans rfl
  have x1 := (hB.x 1).trans rfl
  have x2 := (hB.x 2).trans rfl
  have x3 := (hB.x 3).trans rfl
  have x4 := (hB.x 4).trans rfl
  have x5 := (hB.x 5).trans rfl
  have x6 := (hB.x 6).trans rfl
  have c0 := hB.p.c.1
  have c1 := hB.p.c.2
  have hPick : ∀ n i, Calls Try.prog 30 #[.pointer (some ⟨O.g, 0, none⟩), .int .i64 i] (w1'.drewN n) (Says (.int .u64 (pickP O.obj i)) (w1'.drewN n)) := fun n i => (hB.drewN n).pick i
  have hPick0 := fun i => hB.pick i
  have pA := pickP_bd h.u a
  have pC := pickP_bd h.u c
  generalize hpa : pickP O.obj a = p at *
  have HP := Lib.hid hpa
  have HC := Lib.hid (And.intro hPl (And.intro hPick hPick0))
  clear hPl hPick hPick0 hpa
  cases obj
  · go_wp2_with fail
    refine (HC.out.2.2 a).mono ?_
    rintro e w' ⟨rfl, n, rfl⟩
    rw [HP.out]
    go_wp2_with fail
    refine (HC.out.1 _).mono ?_
    rintro e w' ⟨rfl, rfl⟩
    clear HC HP
    go_wp2_with fail
    have y0 := w0
    have y1 := w1
    generalize hy : xw = y at y0 y1
    have HY := Lib.hid hy
    clear hy
    have hB' := Lib.hid hB
    clear hB
    go_region_held3 (fun w' => w'.cell? ⟨O.g, 0, none⟩ = some (.pointer (some ⟨V.g, 0, none⟩)) ∧ w'.cell? ⟨O.g, 1, none⟩ = some (.pointer (some ⟨V2.g, 0, none⟩)) ∧ w'.cell? ⟨bx, 2, none⟩ = some (.int .i64 b))
      (first | go_keep | exact ⟨k0, k1, k2⟩)
      (first
        | (go_at_call 24; refine ((hB'.out.drewN _).p.hw.Set p b y pA.1 pA.2 y0 y1).mono ?_; rintro e w5 ⟨rfl, h5, hb5⟩; obtain ⟨hr, k0, k1, hfr⟩ := hB'.out.mid h5; have k2 := (hfr.left.cell 2).trans rfl)
        | (go_at_call 63; refine (hr.Set p b y pA.1 pA.2 y0 y1).mono ?_; rintro e w6 ⟨rfl, h6, hb6⟩; have hP := hB'.out.fin h5.ok h6 rfl rfl; have k0 := hP.c.1; have k1 := hP.c.2; have k2 := (hP.fr.left.cell 2).trans rfl))
    rename_i hHeld
    clear hHeld k0 k1 k2
    generalize S.setOk p b y = q
    cases q
    all_goals
      go_wp2_with fail
      go_ret
      have hl := h.l
      obtain ⟨e1, e2, e3⟩ := set_ws S p b y
      exact ⟨rfl, ((hb0.trans (drewN_below0 _ _)).trans hb5).trans hb6, O, V, V2, S.set p b y, rfl, ⟨hP.drop, h.u, by omega, fun x hx => by rw [set_is']; exact h.o x hx⟩, by omega, e3⟩
  · go_wp2_with fail
    refine (HC.out.2.2 c).mono ?_
    rintro e w' ⟨rfl, j, rfl⟩
    go_wp2_with fail
    refine (HC.out.2.1 j a).mono ?_
    rintro e w' ⟨rfl, j2, rfl⟩
    rw [HP.out]
    go_wp2_with fail
    refine (HC.out.1 _).mono ?_
    rintro e w' ⟨rfl, rfl⟩
    clear HC HP
    go_wp2_with fail
    generalize j + j2 = n
    obtain ⟨y0, y1⟩ := pC
    generalize hy : pickP O.obj c = y at *
    have HY := Lib.hid hy
    clear hy
    have hB' := Lib.hid hB
    clear hB
    go_region_held3 (fun w' => w'.cell? ⟨O.g, 0, none⟩ = some (.pointer (some ⟨V.g, 0, none⟩)) ∧ w'.cell? ⟨O.g, 1, none⟩ = some (.pointer (some ⟨V2.g, 0, none⟩)) ∧ w'.cell? ⟨bx, 2, none⟩ = some (.int .i64 b))
      (first | go_keep | exact ⟨k0, k1, k2⟩)
      (first
        | (go_at_call 24; refine ((hB'.out.drewN _).p.hw.Set p b y pA.1 pA.2 y0 y1).mono ?_; rintro e w5 ⟨rfl, h5, hb5⟩; obtain ⟨hr, k0, k1, hfr⟩ := hB'.out.mid h5; have k2 := (hfr.left.cell 2).trans rfl)
        | (go_at_call 63; refine (hr.Set p b y pA.1 pA.2 y0 y1).mono ?_; rintro e w6 ⟨rfl, h6, hb6⟩; have hP := hB'.out.fin h5.ok h6 rfl rfl; have k0 := hP.c.1; have k1 := hP.c.2; have k2 := (hP.fr.left.cell 2).trans rfl))
    rename_i hHeld
    clear hHeld k0 k1 k2
    generalize S.setOk p b y = q
    cases q
    all_goals
      go_wp2_with fail
      go_ret
      have hl := h.l
      obtain ⟨e1, e2, e3⟩ := set_ws S p b y
      exact ⟨rfl, ((hb0.trans (drewN_below0 _ _)).trans hb5).trans hb6, O, V, V2, S.set p b y, rfl, ⟨hP.drop, h.u, by omega, fun x hx => by rw [set_is']; exact h.o x hx⟩, by omega, e3⟩
end
end Go.Proofs.Ythkodbmijgehbaa
