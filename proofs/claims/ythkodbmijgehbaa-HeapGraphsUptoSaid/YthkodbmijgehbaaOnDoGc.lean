/- do, kind 5. -/
import Derived.Test.YthkodbmijgehbaaOnGcPure
namespace Go.Proofs.Ythkodbmijgehbaa
open Go.RowKit
section
variable {w : World} {O : OV} {V : HV} {V2 : RV} {S : HS} {R : HP}
set_option maxHeartbeats 2000000 in
set_option maxRecDepth 100000 in
theorem OnW.do_gc (h : OnW w O V V2 S R) (kd a b c xw : Int) (obj : Bool) (ao : Option Addr) (len cap : Nat) (w0 : 0 ≤ xw) (w1 : xw < 18446744073709551616) (hk : place kd 7 = 5)(rs : List Int) (hrs : Hid (rs.length = len ∧ len + 1 ≤ 17592186044416 ∧ RsIn R ao rs)) (ht : S.times < 4611686018427387900) :
    Calls Try.prog 37 #[.pointer (some ⟨O.g, 0, none⟩), .agg (opCells kd a b c xw obj ao len cap)] w (DoPost O S R w) := by
  have hPl : ∀ w, Calls Try.prog 15 #[.int .i64 kd, .int .i64 7] w fun e w' => e = .returned (.int .i64 5) ∧ w = w' := by
    intro w; have := place_any kd 7 w (by decide) (by decide); rwa [hk] at this
  have hB := h.box (.cells (opCells kd a b c xw obj ao len cap) 62 (0, 0))
  have hb0 : Below 0 w (w.alloc (.cells (opCells kd a b c xw obj ao len cap) 62 (0, 0))) := Below.zero_alloc _ _
  have H0 := Lib.hid (And.intro hPl (And.intro hB hb0))
  clear hPl hB hb0 hk
  unfold opCells at *
  go_enter Try.func37, Try.ntmps37
  go_upto_region 1 with (fail)
  obtain ⟨hPl, hB, hb0⟩ := H0.out
  clear H0
  generalize w.alloc (.cells #[.int .i64 kd, .int .i64 a, .int .i64 b, .int .i64 c, .int .u64 xw, .bool obj, .slice ao len cap] 62 (0, 0)) = w1' at *
  generalize w.heap.size = bx at *
  have x0 := (hB.x 0).trans rfl
  have x1 := (hB.x 1).trans rfl
  have x2 := (hB.x 2).trans rfl
  have x3 := (hB.x 3).trans rfl
  have x4 := (hB.x 4).trans rfl
  have x5 := (hB.x 5).trans rfl
  have x6 := (hB.x 6).trans rfl
  have c0 := hB.p.c.1
  have c1 := hB.p.c.2
  have hPick : ∀ n i, Calls Try.prog 30 #[.pointer (some ⟨O.g, 0, none⟩), .int .i64 i] (w1'.drewN n) (Says (.int .u64 (pickP O.obj i)) (w1'.drewN n)) := fun n i => (hB.drewN n).pick i
  have hPick0 := fun i => hB.pick i
  have pA := pickP_bd h.u a
  have pC := pickP_bd h.u c
  generalize hpa : pickP O.obj a = p at *
  have HP := Lib.hid hpa
  have HC := Lib.hid (And.intro hPl (And.intro hPick hPick0))
  clear hPl hPick hPick0 hpa
  cases obj
  · go_wp2_with fail
    refine (HC.out.2.2 a).mono ?_
    rintro e w' ⟨rfl, n, rfl⟩
    rw [HP.out]
    go_wp2_with fail
    refine (HC.out.1 _).mono ?_
    rintro e w' ⟨rfl, rfl⟩
    clear HC HP
    go_wp2_with fail
    have y0 := w0
    have y1 := w1
    generalize hy : xw = y at y0 y1
    have HY := Lib.hid hy
    clear hy
    have hB' := Lib.hid hB
    clear hB
    obtain ⟨hlen, hlm, hRs⟩ := hrs.out
    subst hlen
    have hB2 := hB'.out.drewN n
    have hb2 := hb0.trans (drewN_below0 _ n)
    clear hrs hB' hb0 c0 c1 x0 x1 x2 x3 x4 x5 x6
    generalize w1'.drewN n = w2 at *
    obtain ⟨i0, hi, hz0, hz1, hz2⟩ := info_parts info_u64
    have H1 := Lib.hid (And.intro hi (And.intro hz0 (And.intro hz1 hz2)))
    clear hi hz0 hz1 hz2
    go_loopw [19, 20] (DRel1 w O V V2 S rs bx _ R) (fun _ i _ => rs.length - (intOf i).toNat)
    case atStart => exact ⟨0, Nat.zero_le _, rfl, hB2.nil, hb2⟩
    case round =>
      clear hB2 hb2
      obtain ⟨k, hk, rfl, hO, hb⟩ := hrel
      have x4 := (OnW.x hO.swap 4).trans rfl
      have x6 := (OnW.x hO.swap 6).trans rfl
      by_cases hlt : k < rs.length
      · obtain ⟨x, ex⟩ : ∃ x, rs[k]? = some x := ⟨_, List.getElem?_eq_getElem hlt⟩
        obtain ⟨ad, rfl, hcx⟩ := hRs.get hO.p.fr.right.right ex
        have htk := take_roots (obj := O.obj) ex
        have HE := Lib.hid (And.intro ex htk)
        clear ex htk
        go_wp2_with fail
        refine (hO.pick x).mono ?_
        rintro e w' ⟨rfl, j1, rfl⟩
        go_wp2_with (at_builtin; refine halt ?_)
        refine goon ?_
        have hO2 := hO.drewN j1
        have hb2 := hb.trans (drewN_below0 _ j1)
        clear hO hb x4 x6 hcx
        generalize pickP O.obj x = px at *
        have hs7 : sat ((wr.drewN j1).alloc (.cells #[.int .u64 px] 28)) _ := (hO2.list.alloc (.cells #[.int .u64 px] 28)).right
        have hnew : ((wr.drewN j1).alloc (.cells #[.int .u64 px] 28)).cell? ⟨wr.heap.size, 0, none⟩ = some (.int .u64 px) := ((hO2.list.alloc (.cells #[.int .u64 px] 28)).left.cell 0).trans rfl
        have hb7 : Below 0 w ((wr.drewN j1).alloc (.cells #[.int .u64 px] 28)) := hb2.trans (Below.zero_alloc _ _)
        generalize (wr.drewN j1).alloc (.cells #[.int .u64 px] 28) = w7 at *
        generalize wr.heap.size = bn at *
        obtain ⟨hi, hz0, hz1, hz2⟩ := H1.out
        refine wpList_append_one rfl (.tmp 206) (.tmp 214) 33 rfl 28 i0 (.int .u64 0) 8 Try.underlying33 hi hz0 hz1 hz2 rfl u19 k (((rootsOf O.obj rs).take k).map Go.Proofs.Ythkodbmijgehbaa.u64) rfl _ bn (.int .u64 px) rfl ?_ hs7 hnew rfl (by omega) (by unfold maxLen; omega)
        clear hi hz0 hz1 hz2 hnew hs7
        intro v' w9 hs9 hb9
        have HQ := Lib.hid (And.intro (hO2.unlist hs9) (hb7.trans hb9))
        clear hs9 hb9 hO2 hb2 hb7
        go_wp2_with fail
        go_roundw
        case rel => exact ⟨k + 1, by omega, by go_num, by rw [HE.out.2, List.map_append]; exact HQ.out.1, HQ.out.2⟩
        case measure => simp [intOf]; omega
      · obtain rfl : k = rs.length := by omega
        have hge : (rs.length : Int) ≤ rs.length := by omega
        go_wp2_with (at_builtin; refine halt ?_)
        refine goon ?_
        have hO2 := hO
        have hb2 := hb
        have hs7 : sat (wr.alloc (.cells #[.int .u64 xw] 28)) _ := (hO2.list.alloc (.cells #[.int .u64 xw] 28)).right
        have hnew : (wr.alloc (.cells #[.int .u64 xw] 28)).cell? ⟨wr.heap.size, 0, none⟩ = some (.int .u64 xw) := by simp
        have hb7 : Below 0 w (wr.alloc (.cells #[.int .u64 xw] 28)) := hb2.trans (Below.zero_alloc _ _)
        clear hO hb x4 x6
        generalize wr.alloc (.cells #[.int .u64 xw] 28) = w7 at *
        generalize wr.heap.size = bn at *
        obtain ⟨hi, hz0, hz1, hz2⟩ := H1.out
        refine wpList_append_one rfl (.tmp 216) (.tmp 219) 33 rfl 28 i0 (.int .u64 0) 8 Try.underlying33 hi hz0 hz1 hz2 rfl u19 rs.length (((rootsOf O.obj rs).take rs.length).map Go.Proofs.Ythkodbmijgehbaa.u64) rfl _ bn (.int .u64 xw) rfl ?_ hs7 hnew rfl (by omega) (by unfold maxLen; omega)
        clear hi hz0 hz1 hz2 hnew hs7
        intro v' w9 hs9 hb9
        have hO9 := hO2.unlist hs9
        have hb9' := hb7.trans hb9
        clear hs9 hb9 hO2 hb2 hb7 hge hlt hk
        rw [rootsOf_all] at hO9
        obtain ⟨L, hL, hLl, hLu⟩ : ∃ L : List Int, ((rootsOf O.obj rs).map Go.Proofs.Ythkodbmijgehbaa.u64 ++ [.int .u64 xw]) = L.map Go.Proofs.Ythkodbmijgehbaa.u64 ∧ L.length = rs.length + 1 ∧ ∀ x ∈ L, 0 ≤ x ∧ x < 18446744073709551616 := roots_list h.u rs w0 w1
        rw [hL, ← hLl] at hO9
        rw [← hLl] at hlm
        clear hL
        have hL0 : 0 < L.length := by omega
        have HL := Lib.hid hLl
        clear hLl
        obtain ⟨b1, cp1, rfl, hn1, _, hr1⟩ := hO9.list.own_some (by omega)
        have hO1 := hO9.unlist hr1
        clear hO9 hr1 hn1
        have c0 := hO1.p.c.1
        have c1 := hO1.p.c.2
        go_wp2_with fail
        refine (copy_words (some ⟨b1, 0, none⟩) cp1 L hO1.p.s (reads_row hO1.list) (by omega)).mono ?_
        rintro e w10 ⟨v10, rfl, hs10, hb10⟩
        obtain ⟨b2, cp2, rfl, hn2, _, hr2⟩ := hs10.own_some (by omega)
        have hO2 := hO1.more hr2
        have hb10' := hb9'.trans hb10
        clear hs10 hr2 hn2 hO1 c0 c1 hb10 hb9'
        have c0 := hO2.p.c.1
        have c1 := hO2.p.c.2
        go_wp2_with fail
        have HC := hO2.p.hw.Collect (some ⟨b2, 0, none⟩) cp2 L (roots_in _ _) hLu (by omega) ht
        refine HC.mono ?_
        rintro e w11 ⟨bo, V5, rfl, hg5, h5, hb11⟩
        have hb11' := hb10'.trans hb11
        clear HC c0 c1 hb10' hb11
        obtain ⟨hr, c0, c1⟩ := hO2.midC h5
        have HG := Lib.hid hg5
        clear hg5
        go_wp2_with fail
        have HC := hr.Collect (some ⟨b1, 0, none⟩) cp1 L (roots_in3 _ _ _ _) hLu (by omega) ht
        refine HC.mono ?_
        rintro e w12 ⟨vo, V6, rfl, hg6, h6, hb12⟩
        obtain ⟨b3, cp3, rfl, hn3, _, hr3⟩ := h6.s.frame.own_some hL0
        have hb12' := hb11'.trans hb12
        clear HC c0 c1 hb11' hb12 hn3
        obtain ⟨hP, r1, r2, r3, r4⟩ := hO2.endC h5.ok hr3 HG.out hg6
        clear hr3 h6 h5 hr hO2
        obtain ⟨k0, k1⟩ := hP.c' HG.out hg6
        have HG6 := Lib.hid hg6
        clear hg6
        have hml := moved_len S L
        have hSA : ∀ m : Nat, _ := fun m => same_words (w12.drewN m) (some ⟨bo, 0, none⟩) (some ⟨b3, 0, none⟩) L.length cp3 (S.moved L) (S.moved L) r1 r2 (by omega) (by omega)
        have hSB : ∀ m : Nat, _ := fun m => same_words (w12.drewN m) (some ⟨b2, 0, none⟩) (some ⟨b1, 0, none⟩) cp2 cp1 L L r3 r4 (by omega) (by omega)
        rw [hml, decide_eq_true (rfl : S.moved L = S.moved L)] at hSA
        rw [decide_eq_true (rfl : L = L)] at hSB
        have HS := Lib.hid (And.intro hSA (And.intro hSB hml))
        clear hSA hSB hml r1 r2 r3 r4
        go_wp2_with fail
        refine (HS.out.1 0).mono ?_
        rintro e w' ⟨rfl, j1, rfl⟩
        go_wp2_with fail
        refine (HS.out.2.1 _).mono ?_
        rintro e w' ⟨rfl, j2, rfl⟩
        have f2 := (hP.drewN (j1 + j2)).open_obj.right.left.frozen 2
        have kv := (hP.drewN (j1 + j2)).vo
        have hP0 := (hP.drewN (j1 + j2)).empty.thin.thin.thin.thin
        have hb0 := (hb12'.trans (drewN_below0 _ (j1 + j2))).setCell (p := ⟨O.g, 2, none⟩) (Nat.zero_le _) (.slice none 0 0)
        have hMu := moved_u h.p.ok.s hLu
        have hml := HS.out.2.2
        have HE := Lib.hid (And.intro (show (S.collect L).times = S.times + 1 from rfl) (show (S.collect L).size = S.size from rfl))
        clear hP HS k0 k1 hb12'
        generalize S.collect L = S5 at *
        generalize S.moved L = M at *
        generalize L.length = nl at *
        have HM := Lib.hid hml
        have HZ := Lib.hid (And.intro hP0 hb0)
        clear hml HL hP0 hb0
        go_wp2_with fail
        go_loopw [24] (DRel2 w O.g O.p O.q V5 V6 S5 bo nl M R) (fun i _ => nl - (intOf i).toNat)
        case atStart => exact ⟨0, .slice none 0 0, [], Nat.zero_le _, rfl, Nat.zero_le _, (fun x hx => by cases hx), (fun x hx => by cases hx), HZ.out.1, HZ.out.2⟩
        case round =>
          clear HZ f2 kv
          obtain ⟨k, v, obj, hk, rfl, hol, hou, hoi, hPk, hb⟩ := hrel
          have HOI := Lib.hid hoi
          clear hoi
          rw [HM.out] at hk
          have c1 := hPk.c.2
          by_cases hlt : k < nl
          · obtain ⟨x, ex⟩ : ∃ x, M[k]? = some x := ⟨_, List.getElem?_eq_getElem (by rw [HM.out]; exact hlt)⟩
            have hx := hMu x (List.mem_of_getElem? ex)
            have hcx := hPk.fr.row_cell (j := k) (v := .int .u64 x) (by rw [List.getElem?_map, ex]; rfl)
            have hIs : ∀ m : Nat, _ := fun m => (hPk.drewN m).rw.v.Is x hx.1 hx.2
            generalize hq : S5.is x = q at hIs
            have HQ5 := Lib.hid hq
            clear hq
            have HI := Lib.hid hIs
            clear hIs ex
            go_wp2_with fail
            go_quiet ((go_at_call 68; exact Calls.said (HI.out _)))
            cases q
            · go_wp2_with fail
              go_roundw
              case rel => exact ⟨k + 1, v, obj, by rw [HM.out]; omega, by go_num, by omega, hou, HOI.out, hPk.drewN _, hb.trans (drewN_below0 _ _)⟩
              case measure => simp [intOf]; omega
            · have hP1 := hPk.drewN nq
              have hb1 := hb.trans (drewN_below0 _ nq)
              have hc1 : (wr.drewN nq).cell? ⟨bo, k, none⟩ = some (.int .u64 x) := hcx
              clear hPk hb hcx c1 HI
              generalize wr.drewN nq = w1 at *
              have d2 := hP1.vo
              have hsA : sat (w1.drew.alloc (.cells #[.int .u64 x] 28)) _ := (hP1.open_obj.drew.alloc (.cells #[.int .u64 x] 28)).right
              have hsN : (w1.drew.alloc (.cells #[.int .u64 x] 28)).cell? ⟨w1.heap.size, 0, none⟩ = some (.int .u64 x) := ((hP1.s.drew.alloc (.cells #[.int .u64 x] 28)).left.cell 0).trans rfl
              have hsN2 : ∀ (j : Nat) u, [Value.int .u64 x][j]? = some u → (w1.drew.alloc (.cells #[.int .u64 x] 28)).cell? ((⟨w1.heap.size, 0, none⟩ : Addr).add j) = some u := by
                intro j u hj; match j, hj with | 0, hj => simp at hj; subst hj; simpa [Addr.add] using hsN
              have hsB : Below 0 w (w1.drew.alloc (.cells #[.int .u64 x] 28)) := (hb1.trans (drewN_below0 _ 1)).trans (Below.zero_alloc _ _)
              have q3 : (w1.alloc (.cells #[.int .u64 x] 28)).cell? ⟨O.g, 2, none⟩ = some v := (Pair.vo (O := ⟨O.g, O.p, O.q, v, obj⟩) (hP1.box' (.cells #[.int .u64 x] 28)))
              have HA := Lib.hid (And.intro hsA (And.intro hsN2 hsB))
              clear hsA hsN hsN2 hsB
              go_wp2_with fail
              go_region_law
                ((refine step_append_sat rfl (.tmp 267) (.tmp 272) 33 rfl 28 i0 (.int .u64 0) 1 8 Try.underlying33 H1.out.1 H1.out.2.1 H1.out.2.2.1 H1.out.2.2.2 rfl _ obj.length (obj.map Go.Proofs.Ythkodbmijgehbaa.u64) (by rfl) _ HA.out.1 ⟨w1.heap.size, 0, none⟩ 1 1 [.int .u64 x] (by rfl) rfl HA.out.2.1 (fun u hu => by simp at hu; subst hu; rfl) (by omega) (by unfold maxLen; omega) (by omega) ?_; intro b7 c7 w7 hs7 hc7 hb7; have k2 := (hs7.right.left.cell 2).trans rfl; have k3 := hs7.right.left.frozen 2))
              all_goals (
                have hs8 := hs7.shut_own (n := obj.length + 1) (by simp) hc7
                have hP8 := (hP1.shut_obj (v := .slice (some ⟨b7, 0, none⟩) (obj.length + 1) c7) (obj := obj ++ [x]) (by simpa using hs8)).1
                have hb8 : Below 0 w (w7.setCell ⟨O.g, 2, none⟩ (.slice (some ⟨b7, 0, none⟩) (obj.length + 1) c7)) := (HA.out.2.2.trans hb7).setCell (Nat.zero_le _) _
                have hou8 : ∀ z ∈ obj ++ [x], 0 ≤ z ∧ z < 18446744073709551616 := by
                  intro z hz
                  rcases List.mem_append.1 hz with hz | hz
                  · exact hou z hz
                  · simp at hz; subst hz; exact hx
                have hoi8 : ∀ z ∈ obj ++ [x], S5.is z = true := by
                  intro z hz
                  rcases List.mem_append.1 hz with hz | hz
                  · exact HOI.out z hz
                  · simp at hz; subst hz; exact HQ5.out
                have HF := Lib.hid (And.intro hP8 (And.intro hb8 (And.intro hou8 hoi8)))
                clear hP8 hb8 hou8 hoi8 hs8 hs7 hb7 k2 k3 q3 HA hP1 hb1 d2 hc1
                go_wp2_with fail
                go_roundw
                case rel => exact ⟨k + 1, _, obj ++ [x], by rw [HM.out]; omega, by go_num, by simp only [List.length_append, List.length_cons, List.length_nil]; omega, HF.out.2.2.1, HF.out.2.2.2, HF.out.1, HF.out.2.1⟩
                case measure => simp [intOf]; omega)
          · obtain rfl : k = nl := by omega
            have hge : (k : Int) ≤ k := by omega
            go_wp2_with fail
            go_ret
            exact ⟨rfl, hb, ⟨O.g, O.p, O.q, v, obj⟩, V5, V6, S5, rfl, ⟨hPk.drop, hou, by simp only; omega, HOI.out⟩, by rw [HE.out.1]; omega, HE.out.2⟩
  · go_wp2_with fail
    refine (HC.out.2.2 c).mono ?_
    rintro e w' ⟨rfl, j, rfl⟩
    go_wp2_with fail
    refine (HC.out.2.1 j a).mono ?_
    rintro e w' ⟨rfl, j2, rfl⟩
    rw [HP.out]
    go_wp2_with fail
    refine (HC.out.1 _).mono ?_
    rintro e w' ⟨rfl, rfl⟩
    clear HC HP
    go_wp2_with fail
    generalize j + j2 = n
    obtain ⟨y0, y1⟩ := pC
    generalize hy : pickP O.obj c = y at *
    have HY := Lib.hid hy
    clear hy
    have hB' := Lib.hid hB
    clear hB
    obtain ⟨hlen, hlm, hRs⟩ := hrs.out
    subst hlen
    have hB2 := hB'.out.drewN n
    have hb2 := hb0.trans (drewN_below0 _ n)
    clear hrs hB' hb0 c0 c1 x0 x1 x2 x3 x4 x5 x6
    generalize w1'.drewN n = w2 at *
    obtain ⟨i0, hi, hz0, hz1, hz2⟩ := info_parts info_u64
    have H1 := Lib.hid (And.intro hi (And.intro hz0 (And.intro hz1 hz2)))
    clear hi hz0 hz1 hz2
    go_loopw [19, 20] (DRel1 w O V V2 S rs bx _ R) (fun _ i _ => rs.length - (intOf i).toNat)
    case atStart => exact ⟨0, Nat.zero_le _, rfl, hB2.nil, hb2⟩
    case round =>
      clear hB2 hb2
      obtain ⟨k, hk, rfl, hO, hb⟩ := hrel
      have x4 := (OnW.x hO.swap 4).trans rfl
      have x6 := (OnW.x hO.swap 6).trans rfl
      by_cases hlt : k < rs.length
      · obtain ⟨x, ex⟩ : ∃ x, rs[k]? = some x := ⟨_, List.getElem?_eq_getElem hlt⟩
        obtain ⟨ad, rfl, hcx⟩ := hRs.get hO.p.fr.right.right ex
        have htk := take_roots (obj := O.obj) ex
        have HE := Lib.hid (And.intro ex htk)
        clear ex htk
        go_wp2_with fail
        refine (hO.pick x).mono ?_
        rintro e w' ⟨rfl, j1, rfl⟩
        go_wp2_with (at_builtin; refine halt ?_)
        refine goon ?_
        have hO2 := hO.drewN j1
        have hb2 := hb.trans (drewN_below0 _ j1)
        clear hO hb x4 x6 hcx
        generalize pickP O.obj x = px at *
        have hs7 : sat ((wr.drewN j1).alloc (.cells #[.int .u64 px] 28)) _ := (hO2.list.alloc (.cells #[.int .u64 px] 28)).right
        have hnew : ((wr.drewN j1).alloc (.cells #[.int .u64 px] 28)).cell? ⟨wr.heap.size, 0, none⟩ = some (.int .u64 px) := ((hO2.list.alloc (.cells #[.int .u64 px] 28)).left.cell 0).trans rfl
        have hb7 : Below 0 w ((wr.drewN j1).alloc (.cells #[.int .u64 px] 28)) := hb2.trans (Below.zero_alloc _ _)
        generalize (wr.drewN j1).alloc (.cells #[.int .u64 px] 28) = w7 at *
        generalize wr.heap.size = bn at *
        obtain ⟨hi, hz0, hz1, hz2⟩ := H1.out
        refine wpList_append_one rfl (.tmp 206) (.tmp 214) 33 rfl 28 i0 (.int .u64 0) 8 Try.underlying33 hi hz0 hz1 hz2 rfl u19 k (((rootsOf O.obj rs).take k).map Go.Proofs.Ythkodbmijgehbaa.u64) rfl _ bn (.int .u64 px) rfl ?_ hs7 hnew rfl (by omega) (by unfold maxLen; omega)
        clear hi hz0 hz1 hz2 hnew hs7
        intro v' w9 hs9 hb9
        have HQ := Lib.hid (And.intro (hO2.unlist hs9) (hb7.trans hb9))
        clear hs9 hb9 hO2 hb2 hb7
        go_wp2_with fail
        go_roundw
        case rel => exact ⟨k + 1, by omega, by go_num, by rw [HE.out.2, List.map_append]; exact HQ.out.1, HQ.out.2⟩
        case measure => simp [intOf]; omega
      · obtain rfl : k = rs.length := by omega
        have hge : (rs.length : Int) ≤ rs.length := by omega
        go_wp2_with (at_builtin; refine halt ?_)
        refine goon ?_
        have hO2 := hO
        have hb2 := hb
        have hs7 : sat (wr.alloc (.cells #[.int .u64 xw] 28)) _ := (hO2.list.alloc (.cells #[.int .u64 xw] 28)).right
        have hnew : (wr.alloc (.cells #[.int .u64 xw] 28)).cell? ⟨wr.heap.size, 0, none⟩ = some (.int .u64 xw) := by simp
        have hb7 : Below 0 w (wr.alloc (.cells #[.int .u64 xw] 28)) := hb2.trans (Below.zero_alloc _ _)
        clear hO hb x4 x6
        generalize wr.alloc (.cells #[.int .u64 xw] 28) = w7 at *
        generalize wr.heap.size = bn at *
        obtain ⟨hi, hz0, hz1, hz2⟩ := H1.out
        refine wpList_append_one rfl (.tmp 216) (.tmp 219) 33 rfl 28 i0 (.int .u64 0) 8 Try.underlying33 hi hz0 hz1 hz2 rfl u19 rs.length (((rootsOf O.obj rs).take rs.length).map Go.Proofs.Ythkodbmijgehbaa.u64) rfl _ bn (.int .u64 xw) rfl ?_ hs7 hnew rfl (by omega) (by unfold maxLen; omega)
        clear hi hz0 hz1 hz2 hnew hs7
        intro v' w9 hs9 hb9
        have hO9 := hO2.unlist hs9
        have hb9' := hb7.trans hb9
        clear hs9 hb9 hO2 hb2 hb7 hge hlt hk
        rw [rootsOf_all] at hO9
        obtain ⟨L, hL, hLl, hLu⟩ : ∃ L : List Int, ((rootsOf O.obj rs).map Go.Proofs.Ythkodbmijgehbaa.u64 ++ [.int .u64 xw]) = L.map Go.Proofs.Ythkodbmijgehbaa.u64 ∧ L.length = rs.length + 1 ∧ ∀ x ∈ L, 0 ≤ x ∧ x < 18446744073709551616 := roots_list h.u rs w0 w1
        rw [hL, ← hLl] at hO9
        rw [← hLl] at hlm
        clear hL
        have hL0 : 0 < L.length := by omega
        have HL := Lib.hid hLl
        clear hLl
        obtain ⟨b1, cp1, rfl, hn1, _, hr1⟩ := hO9.list.own_some (by omega)
        have hO1 := hO9.unlist hr1
        clear hO9 hr1 hn1
        have c0 := hO1.p.c.1
        have c1 := hO1.p.c.2
        go_wp2_with fail
        refine (copy_words (some ⟨b1, 0, none⟩) cp1 L hO1.p.s (reads_row hO1.list) (by omega)).mono ?_
        rintro e w10 ⟨v10, rfl, hs10, hb10⟩
        obtain ⟨b2, cp2, rfl, hn2, _, hr2⟩ := hs10.own_some (by omega)
        have hO2 := hO1.more hr2
        have hb10' := hb9'.trans hb10
        clear hs10 hr2 hn2 hO1 c0 c1 hb10 hb9'
        have c0 := hO2.p.c.1
        have c1 := hO2.p.c.2
        go_wp2_with fail
        have HC := hO2.p.hw.Collect (some ⟨b2, 0, none⟩) cp2 L (roots_in _ _) hLu (by omega) ht
        refine HC.mono ?_
        rintro e w11 ⟨bo, V5, rfl, hg5, h5, hb11⟩
        have hb11' := hb10'.trans hb11
        clear HC c0 c1 hb10' hb11
        obtain ⟨hr, c0, c1⟩ := hO2.midC h5
        have HG := Lib.hid hg5
        clear hg5
        go_wp2_with fail
        have HC := hr.Collect (some ⟨b1, 0, none⟩) cp1 L (roots_in3 _ _ _ _) hLu (by omega) ht
        refine HC.mono ?_
        rintro e w12 ⟨vo, V6, rfl, hg6, h6, hb12⟩
        obtain ⟨b3, cp3, rfl, hn3, _, hr3⟩ := h6.s.frame.own_some hL0
        have hb12' := hb11'.trans hb12
        clear HC c0 c1 hb11' hb12 hn3
        obtain ⟨hP, r1, r2, r3, r4⟩ := hO2.endC h5.ok hr3 HG.out hg6
        clear hr3 h6 h5 hr hO2
        obtain ⟨k0, k1⟩ := hP.c' HG.out hg6
        have HG6 := Lib.hid hg6
        clear hg6
        have hml := moved_len S L
        have hSA : ∀ m : Nat, _ := fun m => same_words (w12.drewN m) (some ⟨bo, 0, none⟩) (some ⟨b3, 0, none⟩) L.length cp3 (S.moved L) (S.moved L) r1 r2 (by omega) (by omega)
        have hSB : ∀ m : Nat, _ := fun m => same_words (w12.drewN m) (some ⟨b2, 0, none⟩) (some ⟨b1, 0, none⟩) cp2 cp1 L L r3 r4 (by omega) (by omega)
        rw [hml, decide_eq_true (rfl : S.moved L = S.moved L)] at hSA
        rw [decide_eq_true (rfl : L = L)] at hSB
        have HS := Lib.hid (And.intro hSA (And.intro hSB hml))
        clear hSA hSB hml r1 r2 r3 r4
        go_wp2_with fail
        refine (HS.out.1 0).mono ?_
        rintro e w' ⟨rfl, j1, rfl⟩
        go_wp2_with fail
        refine (HS.out.2.1 _).mono ?_
        rintro e w' ⟨rfl, j2, rfl⟩
        have f2 := (hP.drewN (j1 + j2)).open_obj.right.left.frozen 2
        have kv := (hP.drewN (j1 + j2)).vo
        have hP0 := (hP.drewN (j1 + j2)).empty.thin.thin.thin.thin
        have hb0 := (hb12'.trans (drewN_below0 _ (j1 + j2))).setCell (p := ⟨O.g, 2, none⟩) (Nat.zero_le _) (.slice none 0 0)
        have hMu := moved_u h.p.ok.s hLu
        have hml := HS.out.2.2
        have HE := Lib.hid (And.intro (show (S.collect L).times = S.times + 1 from rfl) (show (S.collect L).size = S.size from rfl))
        clear hP HS k0 k1 hb12'
        generalize S.collect L = S5 at *
        generalize S.moved L = M at *
        generalize L.length = nl at *
        have HM := Lib.hid hml
        have HZ := Lib.hid (And.intro hP0 hb0)
        clear hml HL hP0 hb0
        go_wp2_with fail
        go_loopw [24] (DRel2 w O.g O.p O.q V5 V6 S5 bo nl M R) (fun i _ => nl - (intOf i).toNat)
        case atStart => exact ⟨0, .slice none 0 0, [], Nat.zero_le _, rfl, Nat.zero_le _, (fun x hx => by cases hx), (fun x hx => by cases hx), HZ.out.1, HZ.out.2⟩
        case round =>
          clear HZ f2 kv
          obtain ⟨k, v, obj, hk, rfl, hol, hou, hoi, hPk, hb⟩ := hrel
          have HOI := Lib.hid hoi
          clear hoi
          rw [HM.out] at hk
          have c1 := hPk.c.2
          by_cases hlt : k < nl
          · obtain ⟨x, ex⟩ : ∃ x, M[k]? = some x := ⟨_, List.getElem?_eq_getElem (by rw [HM.out]; exact hlt)⟩
            have hx := hMu x (List.mem_of_getElem? ex)
            have hcx := hPk.fr.row_cell (j := k) (v := .int .u64 x) (by rw [List.getElem?_map, ex]; rfl)
            have hIs : ∀ m : Nat, _ := fun m => (hPk.drewN m).rw.v.Is x hx.1 hx.2
            generalize hq : S5.is x = q at hIs
            have HQ5 := Lib.hid hq
            clear hq
            have HI := Lib.hid hIs
            clear hIs ex
            go_wp2_with fail
            go_quiet ((go_at_call 68; exact Calls.said (HI.out _)))
            cases q
            · go_wp2_with fail
              go_roundw
              case rel => exact ⟨k + 1, v, obj, by rw [HM.out]; omega, by go_num, by omega, hou, HOI.out, hPk.drewN _, hb.trans (drewN_below0 _ _)⟩
              case measure => simp [intOf]; omega
            · have hP1 := hPk.drewN nq
              have hb1 := hb.trans (drewN_below0 _ nq)
              have hc1 : (wr.drewN nq).cell? ⟨bo, k, none⟩ = some (.int .u64 x) := hcx
              clear hPk hb hcx c1 HI
              generalize wr.drewN nq = w1 at *
              have d2 := hP1.vo
              have hsA : sat (w1.drew.alloc (.cells #[.int .u64 x] 28)) _ := (hP1.open_obj.drew.alloc (.cells #[.int .u64 x] 28)).right
              have hsN : (w1.drew.alloc (.cells #[.int .u64 x] 28)).cell? ⟨w1.heap.size, 0, none⟩ = some (.int .u64 x) := ((hP1.s.drew.alloc (.cells #[.int .u64 x] 28)).left.cell 0).trans rfl
              have hsN2 : ∀ (j : Nat) u, [Value.int .u64 x][j]? = some u → (w1.drew.alloc (.cells #[.int .u64 x] 28)).cell? ((⟨w1.heap.size, 0, none⟩ : Addr).add j) = some u := by
                intro j u hj; match j, hj with | 0, hj => simp at hj; subst hj; simpa [Addr.add] using hsN
              have hsB : Below 0 w (w1.drew.alloc (.cells #[.int .u64 x] 28)) := (hb1.trans (drewN_below0 _ 1)).trans (Below.zero_alloc _ _)
              have q3 : (w1.alloc (.cells #[.int .u64 x] 28)).cell? ⟨O.g, 2, none⟩ = some v := (Pair.vo (O := ⟨O.g, O.p, O.q, v, obj⟩) (hP1.box' (.cells #[.int .u64 x] 28)))
              have HA := Lib.hid (And.intro hsA (And.intro hsN2 hsB))
              clear hsA hsN hsN2 hsB
              go_wp2_with fail
              go_region_law
                ((refine step_append_sat rfl (.tmp 267) (.tmp 272) 33 rfl 28 i0 (.int .u64 0) 1 8 Try.underlying33 H1.out.1 H1.out.2.1 H1.out.2.2.1 H1.out.2.2.2 rfl _ obj.length (obj.map Go.Proofs.Ythkodbmijgehbaa.u64) (by rfl) _ HA.out.1 ⟨w1.heap.size, 0, none⟩ 1 1 [.int .u64 x] (by rfl) rfl HA.out.2.1 (fun u hu => by simp at hu; subst hu; rfl) (by omega) (by unfold maxLen; omega) (by omega) ?_; intro b7 c7 w7 hs7 hc7 hb7; have k2 := (hs7.right.left.cell 2).trans rfl; have k3 := hs7.right.left.frozen 2))
              all_goals (
                have hs8 := hs7.shut_own (n := obj.length + 1) (by simp) hc7
                have hP8 := (hP1.shut_obj (v := .slice (some ⟨b7, 0, none⟩) (obj.length + 1) c7) (obj := obj ++ [x]) (by simpa using hs8)).1
                have hb8 : Below 0 w (w7.setCell ⟨O.g, 2, none⟩ (.slice (some ⟨b7, 0, none⟩) (obj.length + 1) c7)) := (HA.out.2.2.trans hb7).setCell (Nat.zero_le _) _
                have hou8 : ∀ z ∈ obj ++ [x], 0 ≤ z ∧ z < 18446744073709551616 := by
                  intro z hz
                  rcases List.mem_append.1 hz with hz | hz
                  · exact hou z hz
                  · simp at hz; subst hz; exact hx
                have hoi8 : ∀ z ∈ obj ++ [x], S5.is z = true := by
                  intro z hz
                  rcases List.mem_append.1 hz with hz | hz
                  · exact HOI.out z hz
                  · simp at hz; subst hz; exact HQ5.out
                have HF := Lib.hid (And.intro hP8 (And.intro hb8 (And.intro hou8 hoi8)))
                clear hP8 hb8 hou8 hoi8 hs8 hs7 hb7 k2 k3 q3 HA hP1 hb1 d2 hc1
                go_wp2_with fail
                go_roundw
                case rel => exact ⟨k + 1, _, obj ++ [x], by rw [HM.out]; omega, by go_num, by simp only [List.length_append, List.length_cons, List.length_nil]; omega, HF.out.2.2.1, HF.out.2.2.2, HF.out.1, HF.out.2.1⟩
                case measure => simp [intOf]; omega)
          · obtain rfl : k = nl := by omega
            have hge : (k : Int) ≤ k := by omega
            go_wp2_with fail
            go_ret
            exact ⟨rfl, hb, ⟨O.g, O.p, O.q, v, obj⟩, V5, V6, S5, rfl, ⟨hPk.drop, hou, by simp only; omega, HOI.out⟩, by rw [HE.out.1]; omega, HE.out.2⟩
end
end Go.Proofs.Ythkodbmijgehbaa
