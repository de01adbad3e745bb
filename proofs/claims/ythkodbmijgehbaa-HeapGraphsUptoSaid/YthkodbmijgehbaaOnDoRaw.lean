/- do, kind 4. -/
import Derived.Test.YthkodbmijgehbaaOnOp
namespace Go.Proofs.Ythkodbmijgehbaa
open Go.RowKit
section
variable {w : World} {O : OV} {V : HV} {V2 : RV} {S : HS} {R : HP}
set_option maxHeartbeats 2000000 in
set_option maxRecDepth 100000 in
theorem OnW.do_getraw (h : OnW w O V V2 S R) (kd a b c xw : Int) (obj : Bool) (ao : Option Addr) (len cap : Nat) (w0 : 0 ≤ xw) (w1 : xw < 18446744073709551616) (hk : place kd 7 = 4) :
    Calls Try.prog 37 #[.pointer (some ⟨O.g, 0, none⟩), .agg (opCells kd a b c xw obj ao len cap)] w (DoPost O S R w) := by
  have hPl : ∀ w, Calls Try.prog 15 #[.int .i64 kd, .int .i64 7] w fun e w' => e = .returned (.int .i64 4) ∧ w = w' := by
    intro w; have := place_any kd 7 w (by decide) (by decide); rwa [hk] at this
  have hB := h.box (.cells (opCells kd a b c xw obj ao len cap) 62 (0, 0))
  have hb0 : Below 0 w (w.alloc (.cells (opCells kd a b c xw obj ao len cap) 62 (0, 0))) := Below.zero_alloc _ _
  have H0 := Lib.hid (And.intro hPl (And.intro hB hb0))
  clear hPl hB hb0 hk
  unfold opCells at *
  go_enter Try.func37, Try.ntmps37
  go_upto_region 1 with (fail)
  obtain ⟨hPl, hB, hb0⟩ := H0.out
  clear H0
  generalize w.alloc (.cells #[.int .i64 kd, .int .i64 a, .int .i64 b, .int .i64 c, .int .u64 xw, .bool obj, .slice ao len cap] 62 (0, 0)) = w1' at *
  generalize w.heap.size = bx at *
  have x0 := (hB.x 0).trans rfl
  have x1 := (hB.x 1).trans rfl
  have x2 := (hB.x 2).trans rfl
  have x3 := (hB.x 3).trans rfl
  have x4 := (hB.x 4).trans rfl
  have x5 := (hB.x 5).trans rfl
  have x6 := (hB.x 6).trans rfl
  have c0 := hB.p.c.1
  have c1 := hB.p.c.2
  have hPick : ∀ n i, Calls Try.prog 30 #[.pointer (some ⟨O.g, 0, none⟩), .int .i64 i] (w1'.drewN n) (Says (.int .u64 (pickP O.obj i)) (w1'.drewN n)) := fun n i => (hB.drewN n).pick i
  have hPick0 := fun i => hB.pick i
  have pA := pickP_bd h.u a
  have pC := pickP_bd h.u c
  generalize hpa : pickP O.obj a = p at *
  have HP := Lib.hid hpa
  have HC := Lib.hid (And.intro hPl (And.intro hPick hPick0))
  clear hPl hPick hPick0 hpa
  cases obj
  · go_wp2_with fail
    refine (HC.out.2.2 a).mono ?_
    rintro e w' ⟨rfl, n, rfl⟩
    rw [HP.out]
    go_wp2_with fail
    refine (HC.out.1 _).mono ?_
    rintro e w' ⟨rfl, rfl⟩
    clear HC HP
    go_wp2_with fail
    have y0 := w0
    have y1 := w1
    generalize hy : xw = y at y0 y1
    have HY := Lib.hid hy
    clear hy
    have hB' := Lib.hid hB
    clear hB
    have d0 : (w1'.drewN n).cell? ⟨O.g, 0, none⟩ = _ := c0
    have d1 : (w1'.drewN n).cell? ⟨O.g, 1, none⟩ = _ := c1
    have d2 : (w1'.drewN n).cell? ⟨bx, 2, none⟩ = _ := x2
    have hB2 := Lib.hid (hB'.out.drewN n)
    have hb2 := hb0.trans (drewN_below0 _ n)
    clear hB' hb0 c0 c1 x0 x1 x2 x3 x4 x5 x6
    generalize w1'.drewN n = w2 at *
    go_quiet ((go_at_call 27; exact Calls.said ((hB2.out.drewN _).p.hw.v.Raw p b pA.1 pA.2)))
    have e0 : (w2.drewN nq).cell? ⟨O.g, 0, none⟩ = _ := d0
    have e1 : (w2.drewN nq).cell? ⟨O.g, 1, none⟩ = _ := d1
    have e2 : (w2.drewN nq).cell? ⟨bx, 2, none⟩ = _ := d2
    have hB3 := Lib.hid (hB2.out.drewN nq)
    have hb3 := hb2.trans (drewN_below0 _ nq)
    clear hB2 hb2 d0 d1 d2
    generalize w2.drewN nq = w3 at *
    go_wp2_with fail
    go_quiet ((go_at_call 66; exact Calls.said ((hB3.out.drewN _).p.rw.v.Raw p b pA.1 pA.2)))
    generalize S.getRaw p b = q
    obtain ⟨q1, q2⟩ := q
    cases q2
    all_goals
      go_wp2_with fail
      go_ret
      exact ⟨rfl, hb3.trans (drewN_below0 _ _), O, V, V2, S, rfl, (hB3.out.drop).drewN _, by omega, rfl⟩
  · go_wp2_with fail
    refine (HC.out.2.2 c).mono ?_
    rintro e w' ⟨rfl, j, rfl⟩
    go_wp2_with fail
    refine (HC.out.2.1 j a).mono ?_
    rintro e w' ⟨rfl, j2, rfl⟩
    rw [HP.out]
    go_wp2_with fail
    refine (HC.out.1 _).mono ?_
    rintro e w' ⟨rfl, rfl⟩
    clear HC HP
    go_wp2_with fail
    generalize j + j2 = n
    obtain ⟨y0, y1⟩ := pC
    generalize hy : pickP O.obj c = y at *
    have HY := Lib.hid hy
    clear hy
    have hB' := Lib.hid hB
    clear hB
    have d0 : (w1'.drewN n).cell? ⟨O.g, 0, none⟩ = _ := c0
    have d1 : (w1'.drewN n).cell? ⟨O.g, 1, none⟩ = _ := c1
    have d2 : (w1'.drewN n).cell? ⟨bx, 2, none⟩ = _ := x2
    have hB2 := Lib.hid (hB'.out.drewN n)
    have hb2 := hb0.trans (drewN_below0 _ n)
    clear hB' hb0 c0 c1 x0 x1 x2 x3 x4 x5 x6
    generalize w1'.drewN n = w2 at *
    go_quiet ((go_at_call 27; exact Calls.said ((hB2.out.drewN _).p.hw.v.Raw p b pA.1 pA.2)))
    have e0 : (w2.drewN nq).cell? ⟨O.g, 0, none⟩ = _ := d0
    have e1 : (w2.drewN nq).cell? ⟨O.g, 1, none⟩ = _ := d1
    have e2 : (w2.drewN nq).cell? ⟨bx, 2, none⟩ = _ := d2
    have hB3 := Lib.hid (hB2.out.drewN nq)
    have hb3 := hb2.trans (drewN_below0 _ nq)
    clear hB2 hb2 d0 d1 d2
    generalize w2.drewN nq = w3 at *
    go_wp2_with fail
    go_quiet ((go_at_call 66; exact Calls.said ((hB3.out.drewN _).p.rw.v.Raw p b pA.1 pA.2)))
    generalize S.getRaw p b = q
    obtain ⟨q1, q2⟩ := q
    cases q2
    all_goals
      go_wp2_with fail
      go_ret
      exact ⟨rfl, hb3.trans (drewN_below0 _ _), O, V, V2, S, rfl, (hB3.out.drop).drewN _, by omega, rfl⟩
end
end Go.Proofs.Ythkodbmijgehbaa
