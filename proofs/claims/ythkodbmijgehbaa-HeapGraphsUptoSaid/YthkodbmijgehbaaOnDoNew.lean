/- do, kind 0. -/
import Derived.Test.YthkodbmijgehbaaOnOp
namespace Go.Proofs.Ythkodbmijgehbaa
open Go.RowKit
section
variable {w : World} {O : OV} {V : HV} {V2 : RV} {S : HS} {R : HP}
set_option maxHeartbeats 2000000 in
set_option maxRecDepth 100000 in
theorem OnW.do_new (h : OnW w O V V2 S R) (kd a b c xw : Int) (obj : Bool) (ao : Option Addr) (len cap : Nat) (w0 : 0 ≤ xw) (w1 : xw < 18446744073709551616) (hk : place kd 7 = 0) :
    Calls Try.prog 37 #[.pointer (some ⟨O.g, 0, none⟩), .agg (opCells kd a b c xw obj ao len cap)] w (DoPost O S R w) := by
  have hPl : ∀ w, Calls Try.prog 15 #[.int .i64 kd, .int .i64 7] w fun e w' => e = .returned (.int .i64 0) ∧ w = w' := by
    intro w; have := place_any kd 7 w (by decide) (by decide); rwa [hk] at this
  have hB := h.box (.cells (opCells kd a b c xw obj ao len cap) 62 (0, 0))
  have hb0 : Below 0 w (w.alloc (.cells (opCells kd a b c xw obj ao len cap) 62 (0, 0))) := Below.zero_alloc _ _
  have H0 := Lib.hid (And.intro hPl (And.intro hB hb0))
  clear hPl hB hb0 hk
  unfold opCells at *
  go_enter Try.func37, Try.ntmps37
  go_upto_region 1 with (fail)
  obtain ⟨hPl, hB, hb0⟩ := H0.out
  clear H0
  generalize w.alloc (.cells #[.int .i64 kd, .int .i64 a, .int .i64 b, .int .i64 c, .int .u64 xw, .bool obj, .slice ao len cap] 62 (0, 0)) = w1' at *
  generalize w.heap.size = bx at *
  have x0 := (hB.x 0).trans rfl
  have x1 := (hB.x 1).trans rfl
  have x2 := (hB.x 2).trans rfl
  have x3 := (hB.x 3).trans rfl
  have x4 := (hB.x 4).trans rfl
  have x5 := (hB.x 5).trans rfl
  have x6 := (hB.x 6).trans rfl
  have c0 := hB.p.c.1
  have c1 := hB.p.c.2
  have hPick : ∀ n i, Calls Try.prog 30 #[.pointer (some ⟨O.g, 0, none⟩), .int .i64 i] (w1'.drewN n) (Says (.int .u64 (pickP O.obj i)) (w1'.drewN n)) := fun n i => (hB.drewN n).pick i
  have hPick0 := fun i => hB.pick i
  have pA := pickP_bd h.u a
  have pC := pickP_bd h.u c
  generalize hpa : pickP O.obj a = p at *
  have HP := Lib.hid hpa
  have HC := Lib.hid (And.intro hPl (And.intro hPick hPick0))
  clear hPl hPick hPick0 hpa
  cases obj
  · go_wp2_with fail
    refine (HC.out.2.2 a).mono ?_
    rintro e w' ⟨rfl, n, rfl⟩
    rw [HP.out]
    go_wp2_with fail
    refine (HC.out.1 _).mono ?_
    rintro e w' ⟨rfl, rfl⟩
    clear HC HP
    go_wp2_with fail
    have y0 := w0
    have y1 := w1
    generalize hy : xw = y at y0 y1
    have HY := Lib.hid hy
    clear hy
    have hB' := Lib.hid hB
    clear hB
    have d0 : (w1'.drewN n).cell? ⟨O.g, 0, none⟩ = _ := c0
    have d1 : (w1'.drewN n).cell? ⟨O.g, 1, none⟩ = _ := c1
    have d2 : (w1'.drewN n).cell? ⟨bx, 1, none⟩ = _ := x1
    have d3 : (w1'.drewN n).cell? ⟨bx, 2, none⟩ = _ := x2
    have d4 : (w1'.drewN n).cell? ⟨bx, 3, none⟩ = _ := x3
    have hB2 := Lib.hid (hB'.out.drewN n)
    have hb2 := hb0.trans (drewN_below0 _ n)
    clear hB' hb0 c0 c1 x0 x1 x2 x3 x4 x5 x6
    generalize w1'.drewN n = w2 at *
    obtain ⟨i0, hi, hz0, hz1, hz2⟩ := info_parts info_u64
    have H1 := Lib.hid (And.intro hi (And.intro hz0 (And.intro hz1 hz2)))
    clear hi hz0 hz1 hz2
    cases hr : S.room a b c
    all_goals
      have hA : ∀ (m : Nat), _ := fun m => (hB2.out.drewN m).p.hw.Alloc a b c
      rw [hr] at hA
      have HA := Lib.hid hA
      have HR := Lib.hid hr
      clear hA hr
      go_region_held3 (fun w' => w'.cell? ⟨O.g, 0, none⟩ = some (.pointer (some ⟨V.g, 0, none⟩)) ∧ w'.cell? ⟨O.g, 1, none⟩ = some (.pointer (some ⟨V2.g, 0, none⟩)) ∧ w'.cell? ⟨bx, 1, none⟩ = some (.int .i64 a) ∧ w'.cell? ⟨bx, 2, none⟩ = some (.int .i64 b) ∧ w'.cell? ⟨bx, 3, none⟩ = some (.int .i64 c))
        (first | go_keep | exact ⟨k0, k1, k2, k3, k4⟩)
        ((go_at_call 17; refine (HA.out _).mono ?_; rintro e w5 ⟨rfl, hb5, V5, hg5, h5⟩; obtain ⟨hr, k0, k1, hfr⟩ := hB2.out.mid h5; have k2 := (hfr.left.cell 1).trans rfl; have k3 := (hfr.left.cell 2).trans rfl; have k4 := (hfr.left.cell 3).trans rfl; have HG := Lib.hid hg5; clear hg5))
      rename_i hHeld
      clear hHeld d0 d1 d2 d3 d4
      go_wp2_with fail
      have hA2 : ∀ (m : Nat), _ := fun m => (hr.drewN m).Alloc a b c
      rw [HR.out] at hA2
      have HA2 := Lib.hid hA2
      clear hA2
      go_region_held3 (fun w' => w'.cell? ⟨O.g, 0, none⟩ = some (.pointer (some ⟨V.g, 0, none⟩)) ∧ w'.cell? ⟨O.g, 1, none⟩ = some (.pointer (some ⟨V2.g, 0, none⟩)) ∧ w'.cell? ⟨bx, 1, none⟩ = some (.int .i64 a) ∧ w'.cell? ⟨bx, 2, none⟩ = some (.int .i64 b) ∧ w'.cell? ⟨bx, 3, none⟩ = some (.int .i64 c))
        (first | go_keep | exact ⟨k0, k1, k2, k3, k4⟩)
        ((go_at_call 62; refine (HA2.out _).mono ?_; rintro e w6 ⟨rfl, hb6, V6, hg6, h6⟩; have hP := hB2.out.fin h5.ok h6 HG.out hg6; obtain ⟨k0, k1⟩ := hP.c' HG.out hg6; have k2 := (hP.fr.left.cell 1).trans rfl; have k3 := (hP.fr.left.cell 2).trans rfl; have k4 := (hP.fr.left.cell 3).trans rfl; have HG6 := Lib.hid hg6; clear hg6))
      rename_i hHeld
      clear hHeld k0 k1 k2 k3 k4
    · go_wp2_with fail
      go_ret
      obtain ⟨_, e1, e2, e3⟩ := alloc_ws_len S a b c
      have hl := h.l
      exact ⟨rfl, (((hb2.trans (drewN_below0 _ _)).trans hb5).trans (drewN_below0 _ _)).trans hb6, O, V5, V6, S.alloc a b c, rfl, ⟨hP.drop, h.u, by omega, fun x hx => alloc_is_old a b c (h.o x hx)⟩, by omega, e3⟩
    · have kv := hP.vo
      go_wp2_with (at_builtin; refine halt ?_)
      refine goon ?_
      have hbs : S.ws.length ≤ 1048576 := h.ws
      have hl := h.l
      obtain ⟨e0, _, e1, e2⟩ := alloc_ws_len S a b c
      have e3 := e0 HR.out
      clear e0
      have hq : (0 : Int) ≤ 4 * (S.ws.length : Int) ∧ 4 * (S.ws.length : Int) < 18446744073709551616 := by omega
      have hqn := alloc_is_new HR.out h.p.ok.wf.len
      generalize 4 * (S.ws.length : Int) = pn at *
      have hs7 : sat (w6.alloc (.cells #[.int .u64 pn] 28)) _ := (hP.open_obj.alloc (.cells #[.int .u64 pn] 28)).right
      have hnew : (w6.alloc (.cells #[.int .u64 pn] 28)).cell? ⟨w6.heap.size, 0, none⟩ = some (.int .u64 pn) := by simp
      have hb7 : Below 0 w (w6.alloc (.cells #[.int .u64 pn] 28)) := ((((hb2.trans (drewN_below0 _ _)).trans hb5).trans (drewN_below0 _ _)).trans hb6).trans (Below.zero_alloc _ _)
      generalize w6.alloc (.cells #[.int .u64 pn] 28) = w7 at *
      generalize w6.heap.size = bn at *
      obtain ⟨hi, hz0, hz1, hz2⟩ := H1.out
      refine wpList_append_wide rfl (.tmp 83) (.tmp 85) 33 rfl 28 i0 (.int .u64 0) 8 Try.underlying33 hi hz0 hz1 hz2 rfl O.vo O.obj.length (O.obj.map Go.Proofs.Ythkodbmijgehbaa.u64) rfl _ bn (.int .u64 pn) rfl ?_ hs7 hnew rfl (by omega) (by unfold maxLen; omega)
      clear hi hz0 hz1 hz2 hnew hs7
      intro v' w9 hs9 hb9
      obtain ⟨bp, cp, rfl, _, _, _⟩ := hs9.own_some (by omega)
      obtain ⟨hP9, f9, q9⟩ := hP.shut_obj (obj := O.obj ++ [pn]) (by simpa using hs9)
      have hbb := (hb7.trans hb9).setCell (p := ⟨O.g, 2, none⟩) (Nat.zero_le _) (.slice (some ⟨bp, 0, none⟩) (O.obj.length + 1) cp)
      have hu : ∀ x ∈ O.obj ++ [pn], 0 ≤ x ∧ x < 18446744073709551616 := by
        intro x hx
        rcases List.mem_append.1 hx with hx | hx
        · exact h.u x hx
        · simp at hx; subst hx; exact hq
      have hoo : ∀ x ∈ O.obj ++ [pn], (S.alloc a b c).is x = true := by
        intro x hx
        rcases List.mem_append.1 hx with hx | hx
        · exact alloc_is_old a b c (h.o x hx)
        · simp at hx; subst hx; exact hqn
      clear hs9
      have HQ := Lib.hid (And.intro hP9.drop (And.intro hbb (And.intro hu hoo)))
      clear hP9 hbb hu hoo hqn hP
      go_wp2_with fail
      go_ret
      exact ⟨rfl, HQ.out.2.1, ⟨O.g, O.p, O.q, .slice (some ⟨bp, 0, none⟩) (O.obj.length + 1) cp, O.obj ++ [pn]⟩, V5, V6, S.alloc a b c, rfl, ⟨HQ.out.1, HQ.out.2.2.1, by simp only [List.length_append, List.length_cons, List.length_nil]; omega, HQ.out.2.2.2⟩, by omega, e2⟩
  · go_wp2_with fail
    refine (HC.out.2.2 c).mono ?_
    rintro e w' ⟨rfl, j, rfl⟩
    go_wp2_with fail
    refine (HC.out.2.1 j a).mono ?_
    rintro e w' ⟨rfl, j2, rfl⟩
    rw [HP.out]
    go_wp2_with fail
    refine (HC.out.1 _).mono ?_
    rintro e w' ⟨rfl, rfl⟩
    clear HC HP
    go_wp2_with fail
    generalize j + j2 = n
    obtain ⟨y0, y1⟩ := pC
    generalize hy : pickP O.obj c = y at *
    have HY := Lib.hid hy
    clear hy
    have hB' := Lib.hid hB
    clear hB
    have d0 : (w1'.drewN n).cell? ⟨O.g, 0, none⟩ = _ := c0
    have d1 : (w1'.drewN n).cell? ⟨O.g, 1, none⟩ = _ := c1
    have d2 : (w1'.drewN n).cell? ⟨bx, 1, none⟩ = _ := x1
    have d3 : (w1'.drewN n).cell? ⟨bx, 2, none⟩ = _ := x2
    have d4 : (w1'.drewN n).cell? ⟨bx, 3, none⟩ = _ := x3
    have hB2 := Lib.hid (hB'.out.drewN n)
    have hb2 := hb0.trans (drewN_below0 _ n)
    clear hB' hb0 c0 c1 x0 x1 x2 x3 x4 x5 x6
    generalize w1'.drewN n = w2 at *
    obtain ⟨i0, hi, hz0, hz1, hz2⟩ := info_parts info_u64
    have H1 := Lib.hid (And.intro hi (And.intro hz0 (And.intro hz1 hz2)))
    clear hi hz0 hz1 hz2
    cases hr : S.room a b c
    all_goals
      have hA : ∀ (m : Nat), _ := fun m => (hB2.out.drewN m).p.hw.Alloc a b c
      rw [hr] at hA
      have HA := Lib.hid hA
      have HR := Lib.hid hr
      clear hA hr
      go_region_held3 (fun w' => w'.cell? ⟨O.g, 0, none⟩ = some (.pointer (some ⟨V.g, 0, none⟩)) ∧ w'.cell? ⟨O.g, 1, none⟩ = some (.pointer (some ⟨V2.g, 0, none⟩)) ∧ w'.cell? ⟨bx, 1, none⟩ = some (.int .i64 a) ∧ w'.cell? ⟨bx, 2, none⟩ = some (.int .i64 b) ∧ w'.cell? ⟨bx, 3, none⟩ = some (.int .i64 c))
        (first | go_keep | exact ⟨k0, k1, k2, k3, k4⟩)
        ((go_at_call 17; refine (HA.out _).mono ?_; rintro e w5 ⟨rfl, hb5, V5, hg5, h5⟩; obtain ⟨hr, k0, k1, hfr⟩ := hB2.out.mid h5; have k2 := (hfr.left.cell 1).trans rfl; have k3 := (hfr.left.cell 2).trans rfl; have k4 := (hfr.left.cell 3).trans rfl; have HG := Lib.hid hg5; clear hg5))
      rename_i hHeld
      clear hHeld d0 d1 d2 d3 d4
      go_wp2_with fail
      have hA2 : ∀ (m : Nat), _ := fun m => (hr.drewN m).Alloc a b c
      rw [HR.out] at hA2
      have HA2 := Lib.hid hA2
      clear hA2
      go_region_held3 (fun w' => w'.cell? ⟨O.g, 0, none⟩ = some (.pointer (some ⟨V.g, 0, none⟩)) ∧ w'.cell? ⟨O.g, 1, none⟩ = some (.pointer (some ⟨V2.g, 0, none⟩)) ∧ w'.cell? ⟨bx, 1, none⟩ = some (.int .i64 a) ∧ w'.cell? ⟨bx, 2, none⟩ = some (.int .i64 b) ∧ w'.cell? ⟨bx, 3, none⟩ = some (.int .i64 c))
        (first | go_keep | exact ⟨k0, k1, k2, k3, k4⟩)
        ((go_at_call 62; refine (HA2.out _).mono ?_; rintro e w6 ⟨rfl, hb6, V6, hg6, h6⟩; have hP := hB2.out.fin h5.ok h6 HG.out hg6; obtain ⟨k0, k1⟩ := hP.c' HG.out hg6; have k2 := (hP.fr.left.cell 1).trans rfl; have k3 := (hP.fr.left.cell 2).trans rfl; have k4 := (hP.fr.left.cell 3).trans rfl; have HG6 := Lib.hid hg6; clear hg6))
      rename_i hHeld
      clear hHeld k0 k1 k2 k3 k4
    · go_wp2_with fail
      go_ret
      obtain ⟨_, e1, e2, e3⟩ := alloc_ws_len S a b c
      have hl := h.l
      exact ⟨rfl, (((hb2.trans (drewN_below0 _ _)).trans hb5).trans (drewN_below0 _ _)).trans hb6, O, V5, V6, S.alloc a b c, rfl, ⟨hP.drop, h.u, by omega, fun x hx => alloc_is_old a b c (h.o x hx)⟩, by omega, e3⟩
    · have kv := hP.vo
      go_wp2_with (at_builtin; refine halt ?_)
      refine goon ?_
      have hbs : S.ws.length ≤ 1048576 := h.ws
      have hl := h.l
      obtain ⟨e0, _, e1, e2⟩ := alloc_ws_len S a b c
      have e3 := e0 HR.out
      clear e0
      have hq : (0 : Int) ≤ 4 * (S.ws.length : Int) ∧ 4 * (S.ws.length : Int) < 18446744073709551616 := by omega
      have hqn := alloc_is_new HR.out h.p.ok.wf.len
      generalize 4 * (S.ws.length : Int) = pn at *
      have hs7 : sat (w6.alloc (.cells #[.int .u64 pn] 28)) _ := (hP.open_obj.alloc (.cells #[.int .u64 pn] 28)).right
      have hnew : (w6.alloc (.cells #[.int .u64 pn] 28)).cell? ⟨w6.heap.size, 0, none⟩ = some (.int .u64 pn) := by simp
      have hb7 : Below 0 w (w6.alloc (.cells #[.int .u64 pn] 28)) := ((((hb2.trans (drewN_below0 _ _)).trans hb5).trans (drewN_below0 _ _)).trans hb6).trans (Below.zero_alloc _ _)
      generalize w6.alloc (.cells #[.int .u64 pn] 28) = w7 at *
      generalize w6.heap.size = bn at *
      obtain ⟨hi, hz0, hz1, hz2⟩ := H1.out
      refine wpList_append_wide rfl (.tmp 83) (.tmp 85) 33 rfl 28 i0 (.int .u64 0) 8 Try.underlying33 hi hz0 hz1 hz2 rfl O.vo O.obj.length (O.obj.map Go.Proofs.Ythkodbmijgehbaa.u64) rfl _ bn (.int .u64 pn) rfl ?_ hs7 hnew rfl (by omega) (by unfold maxLen; omega)
      clear hi hz0 hz1 hz2 hnew hs7
      intro v' w9 hs9 hb9
      obtain ⟨bp, cp, rfl, _, _, _⟩ := hs9.own_some (by omega)
      obtain ⟨hP9, f9, q9⟩ := hP.shut_obj (obj := O.obj ++ [pn]) (by simpa using hs9)
      have hbb := (hb7.trans hb9).setCell (p := ⟨O.g, 2, none⟩) (Nat.zero_le _) (.slice (some ⟨bp, 0, none⟩) (O.obj.length + 1) cp)
      have hu : ∀ x ∈ O.obj ++ [pn], 0 ≤ x ∧ x < 18446744073709551616 := by
        intro x hx
        rcases List.mem_append.1 hx with hx | hx
        · exact h.u x hx
        · simp at hx; subst hx; exact hq
      have hoo : ∀ x ∈ O.obj ++ [pn], (S.alloc a b c).is x = true := by
        intro x hx
        rcases List.mem_append.1 hx with hx | hx
        · exact alloc_is_old a b c (h.o x hx)
        · simp at hx; subst hx; exact hqn
      clear hs9
      have HQ := Lib.hid (And.intro hP9.drop (And.intro hbb (And.intro hu hoo)))
      clear hP9 hbb hu hoo hqn hP
      go_wp2_with fail
      go_ret
      exact ⟨rfl, HQ.out.2.1, ⟨O.g, O.p, O.q, .slice (some ⟨bp, 0, none⟩) (O.obj.length + 1) cp, O.obj ++ [pn]⟩, V5, V6, S.alloc a b c, rfl, ⟨HQ.out.1, HQ.out.2.2.1, by simp only [List.length_append, List.length_cons, List.length_nil]; omega, HQ.out.2.2.2⟩, by omega, e2⟩
end
end Go.Proofs.Ythkodbmijgehbaa
