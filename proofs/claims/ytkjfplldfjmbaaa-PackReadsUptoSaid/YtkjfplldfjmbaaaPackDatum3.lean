/- pack.datum of lists and vectors; of whatever datum. -/
import Derived.Test.YtkjfplldfjmbaaaPackDatum2
namespace Go.Proofs.Ytkjfplldfjmbaaa
open Go.RowKit
set_option maxRecDepth 100000 in
set_option maxHeartbeats 8000000 in
theorem datum_step6 (k n : Int) (neg : Bool) (mag : List Int) (text : ByteArray) (items rest : List Dm) (ml il rl : Nat) (hk0 : k = 6) (hml : mag.length = ml) (hil : items.length = il) (hrl : rest.length = rl) (hsz : ml ≤ 67108864 ∧ il ≤ 67108864 ∧ rl ≤ 67108864) (deep : Int) (hdp : 0 ≤ deep ∧ deep ≤ 100)
    (hP : 0 < deep → ∀ d ∈ items, DatumAt d (deep - 1)) (hP2 : 0 < deep → ∀ d ∈ rest, DatumAt d (deep - 1)) (w : World) (R : HP) (gp : Nat) (p : Int) (hp : 0 ≤ p ∧ p ≤ 20000)
    (am : Option Addr) (cm : Nat) (ai : Option Addr) (ci : Nat) (ar : Option Addr) (cr : Nat)
    (hs : sat w (blk gp (.cells #[.int .i64 p] 3 (0, 0)) * R)) (hd : DK R (.mk k n neg mag text items rest) [.int .i64 k, .int .i64 n, .bool neg, .slice am ml cm, .string text, .slice ai il ci, .slice ar rl cr]) :
    Calls Try.prog 45 #[.agg #[.int .i64 k, .int .i64 n, .bool neg, .slice am ml cm, .string text, .slice ai il ci, .slice ar rl cr], .int .i64 deep, .pointer (some ⟨gp, 0, none⟩)] w (DaPost gp R (okD (.mk k n neg mag text items rest) deep p) w) := by
  have HK0 := Lib.hid hk0
  clear hk0
  have h1 : sat (w.alloc (dmO [.int .i64 k, .int .i64 n, .bool neg, .slice am ml cm, .string text, .slice ai il ci, .slice ar rl cr])) (blk gp (.cells #[.int .i64 p] 3 (0, 0)) * (blk w.heap.size (dmO [.int .i64 k, .int .i64 n, .bool neg, .slice am ml cm, .string text, .slice ai il ci, .slice ar rl cr]) * R)) := (hs.alloc (dmO [.int .i64 k, .int .i64 n, .bool neg, .slice am ml cm, .string text, .slice ai il ci, .slice ar rl cr])).perm (by ac_rfl)
  have hb1 := Below.zero_alloc w (dmO [.int .i64 k, .int .i64 n, .bool neg, .slice am ml cm, .string text, .slice ai il ci, .slice ar rl cr])
  obtain ⟨g, hg⟩ : ∃ g, w.heap.size = g := ⟨_, rfl⟩
  rw [hg] at h1
  have p0 := (h1.left.cell 0).trans (show _ = some (Value.int .i64 p) from rfl)
  have pf := h1.left.frozen 0
  have h2 : sat ((w.alloc (dmO [.int .i64 k, .int .i64 n, .bool neg, .slice am ml cm, .string text, .slice ai il ci, .slice ar rl cr])).setCell ⟨gp, 0, none⟩ (.int .i64 (p + 1))) (blk gp (.cells #[.int .i64 (p + 1)] 3 (0, 0)) * (blk g (dmO [.int .i64 k, .int .i64 n, .bool neg, .slice am ml cm, .string text, .slice ai il ci, .slice ar rl cr]) * R)) := h1.setCell (off := 0) _
  have hb2 := hb1.setCell (p := ⟨gp, 0, none⟩) (Nat.zero_le _) (.int .i64 (p + 1))
  have g0 : IntKind.i64.wrap (p + 1) = p + 1 := IntWalk.i64_in _ (by omega)
  have HG := Lib.hid (And.intro hg (And.intro hml (And.intro hil (And.intro hrl (And.intro hP (And.intro hP2 hd))))))
  have H1 := Lib.hid (And.intro h2 hb2)
  clear hs h1 hb1 h2 hb2 hml hil hrl hP hP2 hd
  go_enter Try.func45, Try.ntmps45
  go_upto_region 1 with (fail)
  clear hg
  generalize w.alloc (dmO [.int .i64 k, .int .i64 n, .bool neg, .slice am ml cm, .string text, .slice ai il ci, .slice ar rl cr]) = w1 at *
  go_upto_region 2 with (fail)
  generalize w1.setCell ⟨gp, 0, none⟩ (.int .i64 (p + 1)) = w2 at *
  clear p0 pf
  have p0 := (H1.out.1.left.cell 0).trans (show _ = some (Value.int .i64 (p + 1)) from rfl)
  have hbad : (deep = 0 ∨ 20000 < p + 1 ∨ ¬ ShapeD (.mk k n neg mag text items rest)) → ∀ w', sat w' (blk gp (.cells #[.int .i64 (p + 1)] 3 (0, 0)) * R) → Below 0 w w' → DaPost gp R (okD (.mk k n neg mag text items rest) deep p) w (.returned (.bool false)) w' := by
    intro hc w' h' hb'
    have e : okD (.mk k n neg mag text items rest) deep p = none := by unfold okD; rw [if_pos hc]
    rw [e]
    exact ⟨p + 1, rfl, fun q' h => (by cases h), h', hb'⟩
  have H2 : sat w2 (blk gp (.cells #[.int .i64 (p + 1)] 3 (0, 0)) * R) := (H1.out.1.perm (show _ = blk g _ * (blk gp _ * R) by ac_rfl)).right
  have HB := Lib.hid (And.intro hbad H2)
  clear hbad H2
  by_cases hd0 : deep = 0
  · subst hd0
    go_wp2_with fail
    go_ret
    exact HB.out.1 (.inl (by trivial)) _ HB.out.2 H1.out.2
  · have ed0 : (deep == 0) = false := by simp [hd0]
    by_cases hp2 : p + 1 > 20000
    · have ep2 : decide (p + 1 > 20000) = true := by simp; omega
      go_wp2_with fail
      go_ret
      exact HB.out.1 (.inr (.inl (by omega))) _ HB.out.2 H1.out.2
    · have ep2 : decide (p + 1 > 20000) = false := by simp; omega
      go_upto_region 4 with (fail)
      have c0 := (H1.out.1.right.left.cell 0).trans (show _ = some (Value.int .i64 k) from rfl)
      have c1 := (H1.out.1.right.left.cell 1).trans (show _ = some (Value.int .i64 n) from rfl)
      have c2 := (H1.out.1.right.left.cell 2).trans (show _ = some (Value.bool neg) from rfl)
      have c3 := (H1.out.1.right.left.cell 3).trans (show _ = some (Value.slice am ml cm) from rfl)
      have c4 := (H1.out.1.right.left.cell 4).trans (show _ = some (Value.string text) from rfl)
      have c5 := (H1.out.1.right.left.cell 5).trans (show _ = some (Value.slice ai il ci) from rfl)
      have c6 := (H1.out.1.right.left.cell 6).trans (show _ = some (Value.slice ar rl cr) from rfl)
      clear hd0 hp2
      have k6 := HK0.out
      subst k6
      cases neg with
      | true =>
        go_wp2_with fail
        go_ret
        exact HB.out.1 (.inr (.inr (fun hS => absurd ((shape_ask hS).1 (by decide)).1 (by decide)))) _ HB.out.2 H1.out.2
      | false =>
        by_cases hm0 : 0 < ml
        case pos =>
          have em0 : decide ((ml : Int) > 0) = true := by rw [decide_eq_true_eq]; omega
          go_wp2_with fail
          go_ret
          exact HB.out.1 (.inr (.inr (fun hS => ne_empty HG.out.2.1 hm0 ((shape_ask hS).1 (by decide)).2))) _ HB.out.2 H1.out.2
        have em0 : decide ((ml : Int) > 0) = false := by rw [decide_eq_false_iff_not]; omega
        by_cases ht0 : text = noT
        case neg =>
          have et1 : ¬ (text.toList = []) := text_none ht0
          have et2 : (text.toList == []) = false := by rw [beq_eq_false_iff_ne]; exact et1
          go_wp2_with fail
          go_ret
          exact HB.out.1 (.inr (.inr (fun hS => ht0 ((shape_ask hS).2.1 (by decide) (by decide))))) _ HB.out.2 H1.out.2
        have et1 : text.toList = [] := by rw [ht0]; exact noT_list
        have HT0 := Lib.hid ht0
        clear ht0
        have et2 : (text.toList == []) = true := by rw [et1]; rfl
        have HQ4 := Lib.hid (show AskD 6 false mag text items rest from ⟨fun _ => ⟨rfl, eq_empty HG.out.2.1 hm0⟩, fun _ _ => HT0.out, fun h _ => absurd rfl h, fun h => absurd rfl h⟩)
        by_cases hn0 : n = 0
        case neg =>
          have en0 : (n != 0) = true := by simp [hn0]
          go_wp2_with fail
          go_ret
          exact HB.out.1 (.inr (.inr (fun hS => hn0 (shape_more hS (by decide)).1))) _ HB.out.2 H1.out.2
        subst hn0
        obtain ⟨hmag, hlim⟩ : (∀ w, sat w R → MagW w am mag) ∧ ∀ x ∈ mag, 0 ≤ x ∧ x < 4294967296 := by
          obtain ⟨am', cm', ai', ci', ar', cr', he, ⟨_, _, h3, h4, _⟩, _⟩ := HG.out.2.2.2.2.2.2.open
          simp only [List.cons.injEq, Value.slice.injEq, and_true, true_and] at he
          obtain ⟨⟨rfl, _⟩, _⟩ := he
          exact ⟨h3, h4⟩
        have hcap : ml ≤ cm := by
          obtain ⟨am', cm', ai', ci', ar', cr', he, ⟨_, _, _, _, h5, _⟩, _⟩ := HG.out.2.2.2.2.2.2.open
          simp only [List.cons.injEq, Value.slice.injEq, and_true, true_and] at he
          obtain ⟨⟨_, _, rfl⟩, _⟩ := he
          have := HG.out.2.1
          omega
        have h3 := H1.out.1.alloc (.cells #[.bool false, .slice am ml cm] 57)
        have hnc : NumCells (blk gp (.cells #[.int .i64 (p + 1)] 3 (0, 0)) * (blk g (dmO [.int .i64 6, .int .i64 0, .bool false, .slice am ml cm, .string text, .slice ai il ci, .slice ar rl cr]) * R)) #[.bool false, .slice am ml cm] [(false, mag)] := by
          intro j nn l hj
          have hj0 := (List.getElem?_eq_some_iff.1 hj).1
          obtain rfl : j = 0 := by simp at hj0; omega
          simp only [List.getElem?_cons_zero, Option.some.injEq, Prod.mk.injEq] at hj
          obtain ⟨rfl, rfl⟩ := hj
          refine ⟨am, cm, rfl, ?_, ?_, fun w h => hmag w h.right.right, hlim, ?_⟩
          · rw [HG.out.2.1]; rfl
          · have := HG.out.2.1; omega
          · have := HG.out.2.1; unfold topB; omega
        have hA := num_Sum w2.heap.size 1 _ [(false, mag)] h3 hnc (by show 1 ≤ 2; decide)
        have hsum : sumI [(false, mag)] = sgn false (valL mag) := by simp [sumI]
        rw [hsum] at hA
        have HM := Lib.hid (And.intro hmag (And.intro hlim (And.intro hcap (Below.zero_alloc w2 (.cells #[.bool false, .slice am ml cm] 57)))))
        clear hmag hlim hcap h3 hnc hsum
        go_wp2_with fail
        refine hA.mono ?_
        clear hA
        rintro e w3 ⟨sl, rfl, h4, hb4⟩
        rw [sgn_abs] at h4
        obtain ⟨so, sc, rfl⟩ := own_val h4
        obtain ⟨B, hB⟩ : ∃ B, decide (sgn false (valL mag) < 0) = B := ⟨_, rfl⟩
        obtain ⟨L, hL⟩ : ∃ L, (limbsOf (valL mag)).length = L := ⟨_, rfl⟩
        rw [hB, hL]
        have h5 := h4.alloc (.cells #[.bool B, .slice so L sc] 57)
        have hb5 := ((H1.out.2.trans HM.out.2.2.2).trans hb4).trans (Below.zero_alloc w3 (.cells #[.bool B, .slice so L sc] 57))
        rw [hL] at h5
        have hE := fun m => slices_equal ((w3.alloc (.cells #[.bool B, .slice so L sc] 57)).drewN m) so am sc cm (limbsOf (valL mag)) mag (by
          exact mag_own (l := limbsOf (valL mag)) (h5.drewN m).right) (HM.out.1 _ ((h5.drewN m).right.right.right.right)) (by
            have := limbsOf_len_le HM.out.2.1
            have := HG.out.2.1
            omega) (by have := HG.out.2.1; omega)
        rw [hL, HG.out.2.1] at hE
        obtain ⟨E, hE2⟩ : ∃ E, decide (limbsOf (valL mag) = mag) = E := ⟨_, rfl⟩
        rw [hE2] at hE
        have d0 : (w3.alloc (.cells #[.bool B, .slice so L sc] 57)).cell? ⟨w3.heap.size, 0, none⟩ = some (.bool B) := (h5.left.cell 0).trans rfl
        have d1 : (w3.alloc (.cells #[.bool B, .slice so L sc] 57)).cell? ⟨w3.heap.size, 1, none⟩ = some (.slice so L sc) := (h5.left.cell 1).trans rfl
        have h5G : sat (w3.alloc (.cells #[.bool B, .slice so L sc] 57)) (blk gp (.cells #[.int .i64 (p + 1)] 3 (0, 0)) * (blk g (dmO [.int .i64 6, .int .i64 0, .bool false, .slice am ml cm, .string text, .slice ai il ci, .slice ar rl cr]) * R)) := h5.right.right
        have c0 := (h5G.right.left.cell 0).trans (show _ = some (Value.int .i64 6) from rfl)
        have c2 := (h5G.right.left.cell 2).trans (show _ = some (Value.bool false) from rfl)
        have c3 := (h5G.right.left.cell 3).trans (show _ = some (Value.slice am ml cm) from rfl)
        have c5 := (h5G.right.left.cell 5).trans (show _ = some (Value.slice ai il ci) from rfl)
        have c6 := (h5G.right.left.cell 6).trans (show _ = some (Value.slice ar rl cr) from rfl)
        have p0 := (h5G.left.cell 0).trans (show _ = some (Value.int .i64 (p + 1)) from rfl)
        have HE := Lib.hid (And.intro hB (And.intro hE2 (And.intro hE (And.intro h5G hb5))))
        clear hB hE2 hE h5 h4 hb4 hb5 h5G
        go_upto_region 21 with (fail)
        generalize w3.alloc (.cells #[.bool B, .slice so L sc] 57) = w4 at *
        generalize w3.heap.size = gs at *
        cases B with
        | true =>
          have hS : ¬ ShapeD (.mk 6 0 false mag text items rest) := fun h => canon_no (by rw [HE.out.1]; decide) ⟨(shape_more h (by decide)).2.1, (shape_more h (by decide)).2.2.1⟩
          have HS := Lib.hid hS
          clear hS
          go_wp2_with fail
          go_ret
          exact HB.out.1 (.inr (.inr HS.out)) _ ((HE.out.2.2.2.1.perm (show _ = blk g _ * (blk gp _ * R) by ac_rfl)).right) HE.out.2.2.2.2
        | false =>
          cases E with
          | false =>
            have hS : ¬ ShapeD (.mk 6 0 false mag text items rest) := fun h => (of_decide_eq_false HE.out.2.1) (shape_more h (by decide)).2.1
            have HS := Lib.hid hS
            clear hS
            go_wp2_with fail
            refine (HE.out.2.2.1 0).mono ?_
            rintro e w' ⟨rfl, j, rfl⟩
            go_wp2_with fail
            go_ret
            exact HB.out.1 (.inr (.inr HS.out)) _ (((HE.out.2.2.2.1.drewN j).perm (show _ = blk g _ * (blk gp _ * R) by ac_rfl)).right) (HE.out.2.2.2.2.trans (drewN_below0 _ _))
          | true =>
            have hcan := canon_sign HE.out.1 (of_decide_eq_true HE.out.2.1)
            have HCN := Lib.hid hcan
            clear hcan
            go_wp2_with fail
            refine (HE.out.2.2.1 0).mono ?_
            rintro e w' ⟨rfl, j0, rfl⟩
            go_upto_region 23 with (fail)
            have h6 := HE.out.2.2.2.1.drewN j0
            have hb6 := HE.out.2.2.2.2.trans (drewN_below0 w4 j0)
            by_cases hr0 : rl = 0
            · subst hr0
              have hshape : ShapeD (.mk 6 0 false mag text items rest) := by
                obtain ⟨q1, q2, q3, q4⟩ := HQ4.out
                unfold ShapeD
                exact ⟨q1, q2, q3, q4, .inr ⟨by decide, rfl, HCN.out.1, HCN.out.2, .inl (eq_empty HG.out.2.2.2.1 (by decide))⟩⟩
              have hdks : DKs R items ai 0 ∧ DKs R rest ar 0 := by
                obtain ⟨am', cm', ai', ci', ar', cr', he, _, h7, h8⟩ := HG.out.2.2.2.2.2.2.open
                simp only [List.cons.injEq, Value.slice.injEq, and_true, true_and] at he
                obtain ⟨_, ⟨rfl, _⟩, rfl, _⟩ := he
                exact ⟨h7, h8⟩
              have hdpos : 0 < deep := by simp at ed0; omega
              have hp20 : p + 1 ≤ 20000 := by simp at ep2; omega
              have hif : ¬ (deep = 0 ∨ 20000 < p + 1 ∨ ¬ ShapeD (.mk 6 0 false mag text items rest)) := by
                rintro (h | h | h)
                · omega
                · omega
                · exact h hshape
              have HD := Lib.hid hdks
              have HDP := Lib.hid hdpos
              have HIF := Lib.hid hif
              have h7 := h6.alloc (.cells #[.slice ai il ci, .slice ar 0 cr] 35)
              have hb7 := hb6.trans (Below.zero_alloc (w4.drewN j0) (.cells #[.slice ai il ci, .slice ar 0 cr] 35))
              obtain ⟨ga, hga⟩ : ∃ ga, (w4.drewN j0).heap.size = ga := ⟨_, rfl⟩
              rw [hga] at h7
              obtain ⟨G, hG⟩ : ∃ G : HP, G = blk ga (.cells #[.slice ai il ci, .slice ar 0 cr] 35 (0, 0)) * (blk g (dmO [.int .i64 6, .int .i64 0, .bool false, .slice am ml cm, .string text, .slice ai il ci, .slice ar 0 cr]) * R) := ⟨_, rfl⟩
              have hGR : ∀ w, sat w G → sat w R := fun w h => by rw [hG] at h; exact h.right.right
              have hGa : ∀ w, sat w G → w.cell? ⟨ga, 0, none⟩ = some (.slice ai il ci) ∧ w.cell? ⟨ga, 1, none⟩ = some (.slice ar 0 cr) := fun w h => by
                rw [hG] at h
                exact ⟨(h.left.cell 0).trans rfl, (h.left.cell 1).trans rfl⟩
              have h8 : sat ((w4.drewN j0).alloc (.cells #[.slice ai il ci, .slice ar 0 cr] 35)) (blk gp (.cells #[.int .i64 (p + 1)] 3 (0, 0)) * G) := by rw [hG]; exact h7.perm (by ac_rfl)
              have HGG := Lib.hid (And.intro hG (And.intro hGR hGa))
              have H8 := Lib.hid (And.intro h8 hb7)
              clear hG hGR hGa h7 h8 hb7 hdks hdpos hif hshape h6 hb6
              have c5 : (w4.drewN j0).cell? ⟨g, 5, none⟩ = some (.slice ai il ci) := c5
              have c6 : (w4.drewN j0).cell? ⟨g, 6, none⟩ = some (.slice ar 0 cr) := c6
              have hgs : w4.heap.size = ga := hga
              go_wp2_with fail
              go_loopw [150] (DoRel w gp G items rest deep (p + 1)) (fun i _ => 2 - (intOf i).toNat)
              case atStart => exact ⟨0, p + 1, by decide, rfl, by omega, .inl ⟨rfl, rfl⟩, H8.out.1, H8.out.2⟩
              case round =>
                obtain ⟨a, q, ha, rfl, hq, hst, h8, hb8⟩ := hrel
                obtain ⟨ca0, ca1⟩ := HGG.out.2.2 wr h8.right
                rcases hst with ⟨rfl, rfl⟩ | ⟨rfl, h9⟩ | ⟨rfl, r, h9, h10⟩
                · have HA := Lib.hid (And.intro hq (And.intro h8 (And.intro hb8 True.intro)))
                  clear h8 hb8
                  go_wp2_with fail
                  clear ca0 ca1
                  go_loopw [156] (DiRel w gp G items deep (p + 1)) (fun i _ => items.length - (intOf i).toNat)
                  case atStart => exact ⟨0, (p + 1), Nat.zero_le _, rfl, HA.out.1, by rw [List.take_zero]; unfold okDs; rfl, HA.out.2.1, HA.out.2.2.1⟩
                  case round =>
                    obtain ⟨j, q', hj, rfl, hq', hok, h9, hb9⟩ := hrel
                    have hll := HG.out.2.2.1
                    by_cases hlt : j < items.length
                    · have hlt2 : j < il := by omega
                      have bl : decide ((j : Int) < (il : Int)) = true := by rw [decide_eq_true_eq]; omega
                      obtain ⟨d, ex⟩ : ∃ d, items[j]? = some d := ⟨_, List.getElem?_eq_getElem hlt⟩
                      obtain ⟨bb, off, ds, hao, hcell, hdd⟩ := HD.out.1.get j d ex
                      have hcw := hcell wr (HGG.out.2.1 wr h9.right)
                      rw [Nat.zero_add] at hcw
                      have hmem := List.mem_of_getElem? ex
                      obtain ⟨k1, n1, ng1, am1, ml1, cm1, tx1, ai1, il1, ci1, ar1, rl1, cr1, rfl⟩ := hdd.cells
                      have i0' := hcw 0 _ rfl
                      have i1 := hcw 1 _ rfl
                      have i2 := hcw 2 _ rfl
                      have i3 := hcw 3 _ rfl
                      have i4 := hcw 4 _ rfl
                      have i5 := hcw 5 _ rfl
                      have i6 := hcw 6 _ rfl
                      rw [Nat.add_zero] at i0'
                      have h10 := h9.alloc (dmO [.int .i64 k1, .int .i64 n1, .bool ng1, .slice am1 ml1 cm1, .string tx1, .slice ai1 il1 ci1, .slice ar1 rl1 cr1])
                      obtain ⟨gb, hgb⟩ : ∃ gb, wr.heap.size = gb := ⟨_, rfl⟩
                      rw [hgb] at h10
                      have HGB := Lib.hid hgb
                      have h11 : sat (wr.alloc (dmO [.int .i64 k1, .int .i64 n1, .bool ng1, .slice am1 ml1 cm1, .string tx1, .slice ai1 il1 ci1, .slice ar1 rl1 cr1])) (blk gp (.cells #[.int .i64 q'] 3 (0, 0)) * (blk gb (dmO [.int .i64 k1, .int .i64 n1, .bool ng1, .slice am1 ml1 cm1, .string tx1, .slice ai1 il1 ci1, .slice ar1 rl1 cr1]) * G)) := h10.perm (by ac_rfl)
                      have hC := HG.out.2.2.2.2.1 HDP.out d hmem _ _ gp q' _ hq' h11 (hdd.mono (fun w h => HGG.out.2.1 w h.right) _)
                      have g1 : IntKind.i64.wrap (deep - 1) = deep - 1 := IntWalk.i64_in _ (by omega)
                      obtain ⟨o, ho⟩ : ∃ o, okD d (deep - 1) q' = o := ⟨_, rfl⟩
                      rw [ho] at hC
                      have hb11 := hb9.trans (Below.zero_alloc wr (dmO [.int .i64 k1, .int .i64 n1, .bool ng1, .slice am1 ml1 cm1, .string tx1, .slice ai1 il1 ci1, .slice ar1 rl1 cr1]))
                      have hqb : ∀ q3, o = some q3 → 0 ≤ q3 ∧ q3 ≤ 20000 := fun q3 h => by have := okD_bd d (deep - 1) q' q3 (by rw [ho, h]); omega
                      have HK := Lib.hid (And.intro hb11 (And.intro hok (And.intro ho (And.intro ex (And.intro hC hqb)))))
                      cases hao
                      clear hcw hcell hdd h9 h10 h11 hb9 hb11 hmem ex hC hok ho hqb hll hlt hgb
                      go_wp2_with fail
                      refine HK.out.2.2.2.2.1.mono ?_
                      clear i0' i1 i2 i3 i4 i5 i6
                      rintro e w6 ⟨q2, rfl, hq2, h12, hb12⟩
                      cases o with
                      | none =>
                        have HN := Lib.hid (And.intro h12 (And.intro (HK.out.1.trans hb12) (okDs_none HK.out.2.2.2.1 HK.out.2.1 HK.out.2.2.1)))
                        clear h12 hb12 hq2
                        go_wp2_with fail
                        go_ret
                        have hnone : okD (.mk 6 0 false mag text items rest) deep p = none := by
                          unfold okD
                          split
                          · rfl
                          · rw [HN.out.2.2]
                        rw [hnone]
                        have h13 := HN.out.1.right.right
                        rw [HGG.out.1] at h13
                        refine ⟨q2, rfl, fun q' h => (by cases h), ?_, HN.out.2.1⟩
                        have h14 := HN.out.1
                        rw [HGG.out.1] at h14
                        exact (h14.perm (show _ = (blk gb _ * (blk ga _ * blk g _)) * (blk gp _ * R) by ac_rfl)).right
                      | some q3 =>
                        obtain rfl := hq2 q3 rfl
                        have HN := Lib.hid (And.intro h12 (And.intro (HK.out.1.trans hb12) (HK.out.2.2.2.2.2 q2 rfl)))
                        clear h12 hb12 hq2
                        go_wp2_with fail
                        go_roundw
                        case rel =>
                          refine ⟨j + 1, q2, by have := HG.out.2.2.1; omega, by go_num, HN.out.2.2, ?_, ?_, HN.out.2.1⟩
                          · rw [okDs_next HK.out.2.2.2.1, HK.out.2.1]
                            exact HK.out.2.2.1
                          · exact (HN.out.1.perm (show _ = blk gb _ * (blk gp _ * G) by ac_rfl)).right
                        case measure =>
                          have := HG.out.2.2.1
                          simp [intOf]; omega
                    · obtain rfl : j = items.length := by omega
                      rw [List.take_of_length_le (Nat.le_refl _)] at hok
                      have hge : decide ((items.length : Int) < (il : Int)) = false := by rw [decide_eq_false_iff_not]; omega
                      have HN := Lib.hid (And.intro h9 (And.intro hb9 (And.intro hok hq')))
                      clear h9 hb9 hok hq' hj hlt
                      rw [hll]
                      rw [hll] at hge
                      clear hll
                      go_wp2_with fail
                      go_roundw
                      case rel => exact ⟨1, q', by decide, rfl, HN.out.2.2.2, .inr (.inl ⟨rfl, HN.out.2.2.1⟩), HN.out.1, HN.out.2.1⟩
                      case measure => simp [intOf]
                · have HA := Lib.hid (And.intro hq (And.intro h8 (And.intro hb8 h9)))
                  clear h8 hb8 h9
                  go_wp2_with fail
                  clear ca0 ca1
                  go_loopw [156] (DiRel w gp G rest deep q) (fun i _ => rest.length - (intOf i).toNat)
                  case atStart => exact ⟨0, q, Nat.zero_le _, rfl, HA.out.1, by rw [List.take_zero]; unfold okDs; rfl, HA.out.2.1, HA.out.2.2.1⟩
                  case round =>
                    obtain ⟨j, q', hj, rfl, hq', hok, h9, hb9⟩ := hrel
                    have hll := HG.out.2.2.2.1
                    by_cases hlt : j < rest.length
                    · exact absurd hlt (by omega)
                    · obtain rfl : j = rest.length := by omega
                      rw [List.take_of_length_le (Nat.le_refl _)] at hok
                      have hge : decide ((rest.length : Int) < (0 : Int)) = false := by rw [decide_eq_false_iff_not]; omega
                      have HN := Lib.hid (And.intro h9 (And.intro hb9 (And.intro hok hq')))
                      clear h9 hb9 hok hq' hj hlt
                      rw [hll]
                      rw [hll] at hge
                      clear hll
                      go_wp2_with fail
                      go_roundw
                      case rel => exact ⟨2, q', by decide, rfl, HN.out.2.2.2, .inr (.inr ⟨rfl, q, HA.out.2.2.2, HN.out.2.2.1⟩), HN.out.1, HN.out.2.1⟩
                      case measure => simp [intOf]
                · have hyes : okD (.mk 6 0 false mag text items rest) deep p = some q := by
                    unfold okD
                    rw [if_neg HIF.out, h9]
                    exact h10
                  have HA := Lib.hid (And.intro h8 (And.intro hb8 hyes))
                  clear h8 hb8 h9 h10 hyes ca0 ca1
                  go_wp2_with fail
                  go_ret
                  rw [HA.out.2.2]
                  refine ⟨q, rfl, fun q' h => (by cases h; rfl), ?_, HA.out.2.1⟩
                  have h14 := HA.out.1
                  rw [HGG.out.1] at h14
                  exact (h14.perm (show _ = (blk ga _ * blk g _) * (blk gp _ * R) by ac_rfl)).right
            · by_cases hr1 : rl = 1
              · subst hr1
                obtain ⟨r, hr⟩ : ∃ r, rest = [r] := by
                  have := HG.out.2.2.2.1
                  match rest, this with
                  | [r], _ => exact ⟨r, rfl⟩
                by_cases hi0 : il = 0
                · subst hi0
                  have hS : ¬ ShapeD (.mk 6 0 false mag text items rest) := fun h => by rcases (shape_more h (by decide)).2.2.2 with h | ⟨r, _, h, _⟩; rw [h] at hr; cases hr; exact h (eq_empty HG.out.2.2.1 (by decide))
                  have HS := Lib.hid hS
                  clear hS
                  go_wp2_with fail
                  go_ret
                  exact HB.out.1 (.inr (.inr HS.out)) _ ((h6.perm (show _ = blk g _ * (blk gp _ * R) by ac_rfl)).right) hb6
                · have ei0 : ((il : Int) == 0) = false := by rw [beq_eq_false_iff_ne]; omega
                  have hdr : DKs R rest ar 0 := by
                    obtain ⟨am', cm', ai', ci', ar', cr', he, _, h7, h8⟩ := HG.out.2.2.2.2.2.2.open
                    simp only [List.cons.injEq, Value.slice.injEq, and_true, true_and] at he
                    obtain ⟨_, ⟨rfl, _⟩, rfl, _⟩ := he
                    exact h8
                  obtain ⟨bb, off, ds, rfl, hcell, hdd⟩ := hdr.get 0 r (by rw [hr]; rfl)
                  have hck : (w4.drewN j0).cell? ⟨bb, off, none⟩ = some (.int .i64 (kindD r)) := by
                    cases r with
                    | mk k2 n2 neg2 mag2 text2 items2 rest2 =>
                    obtain ⟨_, _, _, _, _, _, rfl, _⟩ := hdd.open
                    have := hcell _ (h6.right.right) 0 _ rfl
                    unfold kindD
                    simpa using this
                  have HRR := Lib.hid hr
                  clear hcell hdd hdr hr
                  obtain ⟨kr, hkr⟩ : ∃ kr, kindD r = kr := ⟨_, rfl⟩
                  rw [hkr] at hck
                  have HKR := Lib.hid hkr
                  clear hkr
                  by_cases hk6 : kr = 6
                  · subst hk6
                    have hS : ¬ ShapeD (.mk 6 0 false mag text items rest) := fun h => by rcases (shape_more h (by decide)).2.2.2 with h | ⟨r', h1, _, h2⟩; rw [HRR.out] at h; cases h; rw [HRR.out] at h1; cases h1; exact h2 HKR.out
                    have HS := Lib.hid hS
                    clear hS
                    go_wp2_with fail
                    go_ret
                    exact HB.out.1 (.inr (.inr HS.out)) _ ((h6.perm (show _ = blk g _ * (blk gp _ * R) by ac_rfl)).right) hb6
                  · have ek6 : (kr == 6) = false := by rw [beq_eq_false_iff_ne]; exact hk6
                    have hshape : ShapeD (.mk 6 0 false mag text items rest) := by
                      obtain ⟨q1, q2, q3, q4⟩ := HQ4.out
                      unfold ShapeD
                      exact ⟨q1, q2, q3, q4, .inr ⟨by decide, rfl, HCN.out.1, HCN.out.2, .inr ⟨r, HRR.out, ne_empty HG.out.2.2.1 (by omega), by rw [HKR.out]; exact hk6⟩⟩⟩
                    have hdks : DKs R items ai 0 ∧ DKs R rest (some ⟨bb, off, none⟩) 0 := by
                      obtain ⟨am', cm', ai', ci', ar', cr', he, _, h7, h8⟩ := HG.out.2.2.2.2.2.2.open
                      simp only [List.cons.injEq, Value.slice.injEq, and_true, true_and] at he
                      obtain ⟨_, ⟨rfl, _⟩, rfl, _⟩ := he
                      exact ⟨h7, h8⟩
                    have hdpos : 0 < deep := by simp at ed0; omega
                    have hp20 : p + 1 ≤ 20000 := by simp at ep2; omega
                    have hif : ¬ (deep = 0 ∨ 20000 < p + 1 ∨ ¬ ShapeD (.mk 6 0 false mag text items rest)) := by
                      rintro (h | h | h)
                      · omega
                      · omega
                      · exact h hshape
                    have HD := Lib.hid hdks
                    have HDP := Lib.hid hdpos
                    have HIF := Lib.hid hif
                    have h7 := h6.alloc (.cells #[.slice ai il ci, .slice (some ⟨bb, off, none⟩) 1 cr] 35)
                    have hb7 := hb6.trans (Below.zero_alloc (w4.drewN j0) (.cells #[.slice ai il ci, .slice (some ⟨bb, off, none⟩) 1 cr] 35))
                    obtain ⟨ga, hga⟩ : ∃ ga, (w4.drewN j0).heap.size = ga := ⟨_, rfl⟩
                    rw [hga] at h7
                    obtain ⟨G, hG⟩ : ∃ G : HP, G = blk ga (.cells #[.slice ai il ci, .slice (some ⟨bb, off, none⟩) 1 cr] 35 (0, 0)) * (blk g (dmO [.int .i64 6, .int .i64 0, .bool false, .slice am ml cm, .string text, .slice ai il ci, .slice (some ⟨bb, off, none⟩) 1 cr]) * R) := ⟨_, rfl⟩
                    have hGR : ∀ w, sat w G → sat w R := fun w h => by rw [hG] at h; exact h.right.right
                    have hGa : ∀ w, sat w G → w.cell? ⟨ga, 0, none⟩ = some (.slice ai il ci) ∧ w.cell? ⟨ga, 1, none⟩ = some (.slice (some ⟨bb, off, none⟩) 1 cr) := fun w h => by
                      rw [hG] at h
                      exact ⟨(h.left.cell 0).trans rfl, (h.left.cell 1).trans rfl⟩
                    have h8 : sat ((w4.drewN j0).alloc (.cells #[.slice ai il ci, .slice (some ⟨bb, off, none⟩) 1 cr] 35)) (blk gp (.cells #[.int .i64 (p + 1)] 3 (0, 0)) * G) := by rw [hG]; exact h7.perm (by ac_rfl)
                    have HGG := Lib.hid (And.intro hG (And.intro hGR hGa))
                    have H8 := Lib.hid (And.intro h8 hb7)
                    clear hG hGR hGa h7 h8 hb7 hdks hdpos hif hshape h6 hb6
                    have c5 : (w4.drewN j0).cell? ⟨g, 5, none⟩ = some (.slice ai il ci) := c5
                    have c6 : (w4.drewN j0).cell? ⟨g, 6, none⟩ = some (.slice (some ⟨bb, off, none⟩) 1 cr) := c6
                    have hgs : w4.heap.size = ga := hga
                    go_wp2_with fail
                    go_loopw [150] (DoRel w gp G items rest deep (p + 1)) (fun i _ => 2 - (intOf i).toNat)
                    case atStart => exact ⟨0, p + 1, by decide, rfl, by omega, .inl ⟨rfl, rfl⟩, H8.out.1, H8.out.2⟩
                    case round =>
                      obtain ⟨a, q, ha, rfl, hq, hst, h8, hb8⟩ := hrel
                      obtain ⟨ca0, ca1⟩ := HGG.out.2.2 wr h8.right
                      rcases hst with ⟨rfl, rfl⟩ | ⟨rfl, h9⟩ | ⟨rfl, r, h9, h10⟩
                      · have HA := Lib.hid (And.intro hq (And.intro h8 (And.intro hb8 True.intro)))
                        clear h8 hb8
                        go_wp2_with fail
                        clear ca0 ca1
                        go_loopw [156] (DiRel w gp G items deep (p + 1)) (fun i _ => items.length - (intOf i).toNat)
                        case atStart => exact ⟨0, (p + 1), Nat.zero_le _, rfl, HA.out.1, by rw [List.take_zero]; unfold okDs; rfl, HA.out.2.1, HA.out.2.2.1⟩
                        case round =>
                          obtain ⟨j, q', hj, rfl, hq', hok, h9, hb9⟩ := hrel
                          have hll := HG.out.2.2.1
                          by_cases hlt : j < items.length
                          · have hlt2 : j < il := by omega
                            have bl : decide ((j : Int) < (il : Int)) = true := by rw [decide_eq_true_eq]; omega
                            obtain ⟨d, ex⟩ : ∃ d, items[j]? = some d := ⟨_, List.getElem?_eq_getElem hlt⟩
                            obtain ⟨bb, off, ds, hao, hcell, hdd⟩ := HD.out.1.get j d ex
                            have hcw := hcell wr (HGG.out.2.1 wr h9.right)
                            rw [Nat.zero_add] at hcw
                            have hmem := List.mem_of_getElem? ex
                            obtain ⟨k1, n1, ng1, am1, ml1, cm1, tx1, ai1, il1, ci1, ar1, rl1, cr1, rfl⟩ := hdd.cells
                            have i0' := hcw 0 _ rfl
                            have i1 := hcw 1 _ rfl
                            have i2 := hcw 2 _ rfl
                            have i3 := hcw 3 _ rfl
                            have i4 := hcw 4 _ rfl
                            have i5 := hcw 5 _ rfl
                            have i6 := hcw 6 _ rfl
                            rw [Nat.add_zero] at i0'
                            have h10 := h9.alloc (dmO [.int .i64 k1, .int .i64 n1, .bool ng1, .slice am1 ml1 cm1, .string tx1, .slice ai1 il1 ci1, .slice ar1 rl1 cr1])
                            obtain ⟨gb, hgb⟩ : ∃ gb, wr.heap.size = gb := ⟨_, rfl⟩
                            rw [hgb] at h10
                            have HGB := Lib.hid hgb
                            have h11 : sat (wr.alloc (dmO [.int .i64 k1, .int .i64 n1, .bool ng1, .slice am1 ml1 cm1, .string tx1, .slice ai1 il1 ci1, .slice ar1 rl1 cr1])) (blk gp (.cells #[.int .i64 q'] 3 (0, 0)) * (blk gb (dmO [.int .i64 k1, .int .i64 n1, .bool ng1, .slice am1 ml1 cm1, .string tx1, .slice ai1 il1 ci1, .slice ar1 rl1 cr1]) * G)) := h10.perm (by ac_rfl)
                            have hC := HG.out.2.2.2.2.1 HDP.out d hmem _ _ gp q' _ hq' h11 (hdd.mono (fun w h => HGG.out.2.1 w h.right) _)
                            have g1 : IntKind.i64.wrap (deep - 1) = deep - 1 := IntWalk.i64_in _ (by omega)
                            obtain ⟨o, ho⟩ : ∃ o, okD d (deep - 1) q' = o := ⟨_, rfl⟩
                            rw [ho] at hC
                            have hb11 := hb9.trans (Below.zero_alloc wr (dmO [.int .i64 k1, .int .i64 n1, .bool ng1, .slice am1 ml1 cm1, .string tx1, .slice ai1 il1 ci1, .slice ar1 rl1 cr1]))
                            have hqb : ∀ q3, o = some q3 → 0 ≤ q3 ∧ q3 ≤ 20000 := fun q3 h => by have := okD_bd d (deep - 1) q' q3 (by rw [ho, h]); omega
                            have HK := Lib.hid (And.intro hb11 (And.intro hok (And.intro ho (And.intro ex (And.intro hC hqb)))))
                            cases hao
                            clear hcw hcell hdd h9 h10 h11 hb9 hb11 hmem ex hC hok ho hqb hll hlt hgb
                            go_wp2_with fail
                            refine HK.out.2.2.2.2.1.mono ?_
                            clear i0' i1 i2 i3 i4 i5 i6
                            rintro e w6 ⟨q2, rfl, hq2, h12, hb12⟩
                            cases o with
                            | none =>
                              have HN := Lib.hid (And.intro h12 (And.intro (HK.out.1.trans hb12) (okDs_none HK.out.2.2.2.1 HK.out.2.1 HK.out.2.2.1)))
                              clear h12 hb12 hq2
                              go_wp2_with fail
                              go_ret
                              have hnone : okD (.mk 6 0 false mag text items rest) deep p = none := by
                                unfold okD
                                split
                                · rfl
                                · rw [HN.out.2.2]
                              rw [hnone]
                              have h13 := HN.out.1.right.right
                              rw [HGG.out.1] at h13
                              refine ⟨q2, rfl, fun q' h => (by cases h), ?_, HN.out.2.1⟩
                              have h14 := HN.out.1
                              rw [HGG.out.1] at h14
                              exact (h14.perm (show _ = (blk gb _ * (blk ga _ * blk g _)) * (blk gp _ * R) by ac_rfl)).right
                            | some q3 =>
                              obtain rfl := hq2 q3 rfl
                              have HN := Lib.hid (And.intro h12 (And.intro (HK.out.1.trans hb12) (HK.out.2.2.2.2.2 q2 rfl)))
                              clear h12 hb12 hq2
                              go_wp2_with fail
                              go_roundw
                              case rel =>
                                refine ⟨j + 1, q2, by have := HG.out.2.2.1; omega, by go_num, HN.out.2.2, ?_, ?_, HN.out.2.1⟩
                                · rw [okDs_next HK.out.2.2.2.1, HK.out.2.1]
                                  exact HK.out.2.2.1
                                · exact (HN.out.1.perm (show _ = blk gb _ * (blk gp _ * G) by ac_rfl)).right
                              case measure =>
                                have := HG.out.2.2.1
                                simp [intOf]; omega
                          · obtain rfl : j = items.length := by omega
                            rw [List.take_of_length_le (Nat.le_refl _)] at hok
                            have hge : decide ((items.length : Int) < (il : Int)) = false := by rw [decide_eq_false_iff_not]; omega
                            have HN := Lib.hid (And.intro h9 (And.intro hb9 (And.intro hok hq')))
                            clear h9 hb9 hok hq' hj hlt
                            rw [hll]
                            rw [hll] at hge
                            clear hll
                            go_wp2_with fail
                            go_roundw
                            case rel => exact ⟨1, q', by decide, rfl, HN.out.2.2.2, .inr (.inl ⟨rfl, HN.out.2.2.1⟩), HN.out.1, HN.out.2.1⟩
                            case measure => simp [intOf]
                      · have HA := Lib.hid (And.intro hq (And.intro h8 (And.intro hb8 h9)))
                        clear h8 hb8 h9
                        go_wp2_with fail
                        clear ca0 ca1
                        go_loopw [156] (DiRel w gp G rest deep q) (fun i _ => rest.length - (intOf i).toNat)
                        case atStart => exact ⟨0, q, Nat.zero_le _, rfl, HA.out.1, by rw [List.take_zero]; unfold okDs; rfl, HA.out.2.1, HA.out.2.2.1⟩
                        case round =>
                          obtain ⟨j, q', hj, rfl, hq', hok, h9, hb9⟩ := hrel
                          have hll := HG.out.2.2.2.1
                          by_cases hlt : j < rest.length
                          · have hlt2 : j < 1 := by omega
                            have bl : decide ((j : Int) < (1 : Int)) = true := by rw [decide_eq_true_eq]; omega
                            obtain ⟨d, ex⟩ : ∃ d, rest[j]? = some d := ⟨_, List.getElem?_eq_getElem hlt⟩
                            obtain ⟨bb, off, ds, hao, hcell, hdd⟩ := HD.out.2.get j d ex
                            have hcw := hcell wr (HGG.out.2.1 wr h9.right)
                            rw [Nat.zero_add] at hcw
                            have hmem := List.mem_of_getElem? ex
                            obtain ⟨k1, n1, ng1, am1, ml1, cm1, tx1, ai1, il1, ci1, ar1, rl1, cr1, rfl⟩ := hdd.cells
                            have i0' := hcw 0 _ rfl
                            have i1 := hcw 1 _ rfl
                            have i2 := hcw 2 _ rfl
                            have i3 := hcw 3 _ rfl
                            have i4 := hcw 4 _ rfl
                            have i5 := hcw 5 _ rfl
                            have i6 := hcw 6 _ rfl
                            rw [Nat.add_zero] at i0'
                            have h10 := h9.alloc (dmO [.int .i64 k1, .int .i64 n1, .bool ng1, .slice am1 ml1 cm1, .string tx1, .slice ai1 il1 ci1, .slice ar1 rl1 cr1])
                            obtain ⟨gb, hgb⟩ : ∃ gb, wr.heap.size = gb := ⟨_, rfl⟩
                            rw [hgb] at h10
                            have HGB := Lib.hid hgb
                            have h11 : sat (wr.alloc (dmO [.int .i64 k1, .int .i64 n1, .bool ng1, .slice am1 ml1 cm1, .string tx1, .slice ai1 il1 ci1, .slice ar1 rl1 cr1])) (blk gp (.cells #[.int .i64 q'] 3 (0, 0)) * (blk gb (dmO [.int .i64 k1, .int .i64 n1, .bool ng1, .slice am1 ml1 cm1, .string tx1, .slice ai1 il1 ci1, .slice ar1 rl1 cr1]) * G)) := h10.perm (by ac_rfl)
                            have hC := HG.out.2.2.2.2.2.1 HDP.out d hmem _ _ gp q' _ hq' h11 (hdd.mono (fun w h => HGG.out.2.1 w h.right) _)
                            have g1 : IntKind.i64.wrap (deep - 1) = deep - 1 := IntWalk.i64_in _ (by omega)
                            obtain ⟨o, ho⟩ : ∃ o, okD d (deep - 1) q' = o := ⟨_, rfl⟩
                            rw [ho] at hC
                            have hb11 := hb9.trans (Below.zero_alloc wr (dmO [.int .i64 k1, .int .i64 n1, .bool ng1, .slice am1 ml1 cm1, .string tx1, .slice ai1 il1 ci1, .slice ar1 rl1 cr1]))
                            have hqb : ∀ q3, o = some q3 → 0 ≤ q3 ∧ q3 ≤ 20000 := fun q3 h => by have := okD_bd d (deep - 1) q' q3 (by rw [ho, h]); omega
                            have HK := Lib.hid (And.intro hb11 (And.intro hok (And.intro ho (And.intro ex (And.intro hC hqb)))))
                            cases hao
                            clear hcw hcell hdd h9 h10 h11 hb9 hb11 hmem ex hC hok ho hqb hll hlt hgb
                            go_wp2_with fail
                            refine HK.out.2.2.2.2.1.mono ?_
                            clear i0' i1 i2 i3 i4 i5 i6
                            rintro e w6 ⟨q2, rfl, hq2, h12, hb12⟩
                            cases o with
                            | none =>
                              have HN := Lib.hid (And.intro h12 (And.intro (HK.out.1.trans hb12) (okDs_none HK.out.2.2.2.1 HK.out.2.1 HK.out.2.2.1)))
                              clear h12 hb12 hq2
                              go_wp2_with fail
                              go_ret
                              have hnone : okD (.mk 6 0 false mag text items rest) deep p = none := by
                                unfold okD
                                split
                                · rfl
                                · rw [HA.out.2.2.2]; exact HN.out.2.2
                              rw [hnone]
                              have h13 := HN.out.1.right.right
                              rw [HGG.out.1] at h13
                              refine ⟨q2, rfl, fun q' h => (by cases h), ?_, HN.out.2.1⟩
                              have h14 := HN.out.1
                              rw [HGG.out.1] at h14
                              exact (h14.perm (show _ = (blk gb _ * (blk ga _ * blk g _)) * (blk gp _ * R) by ac_rfl)).right
                            | some q3 =>
                              obtain rfl := hq2 q3 rfl
                              have HN := Lib.hid (And.intro h12 (And.intro (HK.out.1.trans hb12) (HK.out.2.2.2.2.2 q2 rfl)))
                              clear h12 hb12 hq2
                              go_wp2_with fail
                              go_roundw
                              case rel =>
                                refine ⟨j + 1, q2, by have := HG.out.2.2.2.1; omega, by go_num, HN.out.2.2, ?_, ?_, HN.out.2.1⟩
                                · rw [okDs_next HK.out.2.2.2.1, HK.out.2.1]
                                  exact HK.out.2.2.1
                                · exact (HN.out.1.perm (show _ = blk gb _ * (blk gp _ * G) by ac_rfl)).right
                              case measure =>
                                have := HG.out.2.2.2.1
                                simp [intOf]; omega
                          · obtain rfl : j = rest.length := by omega
                            rw [List.take_of_length_le (Nat.le_refl _)] at hok
                            have hge : decide ((rest.length : Int) < (1 : Int)) = false := by rw [decide_eq_false_iff_not]; omega
                            have HN := Lib.hid (And.intro h9 (And.intro hb9 (And.intro hok hq')))
                            clear h9 hb9 hok hq' hj hlt
                            rw [hll]
                            rw [hll] at hge
                            clear hll
                            go_wp2_with fail
                            go_roundw
                            case rel => exact ⟨2, q', by decide, rfl, HN.out.2.2.2, .inr (.inr ⟨rfl, q, HA.out.2.2.2, HN.out.2.2.1⟩), HN.out.1, HN.out.2.1⟩
                            case measure => simp [intOf]
                      · have hyes : okD (.mk 6 0 false mag text items rest) deep p = some q := by
                          unfold okD
                          rw [if_neg HIF.out, h9]
                          exact h10
                        have HA := Lib.hid (And.intro h8 (And.intro hb8 hyes))
                        clear h8 hb8 h9 h10 hyes ca0 ca1
                        go_wp2_with fail
                        go_ret
                        rw [HA.out.2.2]
                        refine ⟨q, rfl, fun q' h => (by cases h; rfl), ?_, HA.out.2.1⟩
                        have h14 := HA.out.1
                        rw [HGG.out.1] at h14
                        exact (h14.perm (show _ = (blk ga _ * blk g _) * (blk gp _ * R) by ac_rfl)).right
              · have er1 : decide ((rl : Int) > 1) = true := by rw [decide_eq_true_eq]; omega
                have hS : ¬ ShapeD (.mk 6 0 false mag text items rest) := fun h => by have hl := HG.out.2.2.2.1; rcases (shape_more h (by decide)).2.2.2 with h | ⟨r, h, _⟩; rw [h] at hl; simp at hl; omega; rw [h] at hl; simp at hl; omega
                have HS := Lib.hid hS
                clear hS
                go_wp2_with fail
                go_ret
                exact HB.out.1 (.inr (.inr HS.out)) _ ((h6.perm (show _ = blk g _ * (blk gp _ * R) by ac_rfl)).right) hb6
set_option maxRecDepth 100000 in
set_option maxHeartbeats 8000000 in
theorem datum_step7 (k n : Int) (neg : Bool) (mag : List Int) (text : ByteArray) (items rest : List Dm) (ml il rl : Nat) (hk0 : k = 7) (hml : mag.length = ml) (hil : items.length = il) (hrl : rest.length = rl) (hsz : ml ≤ 67108864 ∧ il ≤ 67108864 ∧ rl ≤ 67108864) (deep : Int) (hdp : 0 ≤ deep ∧ deep ≤ 100)
    (hP : 0 < deep → ∀ d ∈ items, DatumAt d (deep - 1)) (hP2 : 0 < deep → ∀ d ∈ rest, DatumAt d (deep - 1)) (w : World) (R : HP) (gp : Nat) (p : Int) (hp : 0 ≤ p ∧ p ≤ 20000)
    (am : Option Addr) (cm : Nat) (ai : Option Addr) (ci : Nat) (ar : Option Addr) (cr : Nat)
    (hs : sat w (blk gp (.cells #[.int .i64 p] 3 (0, 0)) * R)) (hd : DK R (.mk k n neg mag text items rest) [.int .i64 k, .int .i64 n, .bool neg, .slice am ml cm, .string text, .slice ai il ci, .slice ar rl cr]) :
    Calls Try.prog 45 #[.agg #[.int .i64 k, .int .i64 n, .bool neg, .slice am ml cm, .string text, .slice ai il ci, .slice ar rl cr], .int .i64 deep, .pointer (some ⟨gp, 0, none⟩)] w (DaPost gp R (okD (.mk k n neg mag text items rest) deep p) w) := by
  have HK0 := Lib.hid hk0
  clear hk0
  have h1 : sat (w.alloc (dmO [.int .i64 k, .int .i64 n, .bool neg, .slice am ml cm, .string text, .slice ai il ci, .slice ar rl cr])) (blk gp (.cells #[.int .i64 p] 3 (0, 0)) * (blk w.heap.size (dmO [.int .i64 k, .int .i64 n, .bool neg, .slice am ml cm, .string text, .slice ai il ci, .slice ar rl cr]) * R)) := (hs.alloc (dmO [.int .i64 k, .int .i64 n, .bool neg, .slice am ml cm, .string text, .slice ai il ci, .slice ar rl cr])).perm (by ac_rfl)
  have hb1 := Below.zero_alloc w (dmO [.int .i64 k, .int .i64 n, .bool neg, .slice am ml cm, .string text, .slice ai il ci, .slice ar rl cr])
  obtain ⟨g, hg⟩ : ∃ g, w.heap.size = g := ⟨_, rfl⟩
  rw [hg] at h1
  have p0 := (h1.left.cell 0).trans (show _ = some (Value.int .i64 p) from rfl)
  have pf := h1.left.frozen 0
  have h2 : sat ((w.alloc (dmO [.int .i64 k, .int .i64 n, .bool neg, .slice am ml cm, .string text, .slice ai il ci, .slice ar rl cr])).setCell ⟨gp, 0, none⟩ (.int .i64 (p + 1))) (blk gp (.cells #[.int .i64 (p + 1)] 3 (0, 0)) * (blk g (dmO [.int .i64 k, .int .i64 n, .bool neg, .slice am ml cm, .string text, .slice ai il ci, .slice ar rl cr]) * R)) := h1.setCell (off := 0) _
  have hb2 := hb1.setCell (p := ⟨gp, 0, none⟩) (Nat.zero_le _) (.int .i64 (p + 1))
  have g0 : IntKind.i64.wrap (p + 1) = p + 1 := IntWalk.i64_in _ (by omega)
  have HG := Lib.hid (And.intro hg (And.intro hml (And.intro hil (And.intro hrl (And.intro hP (And.intro hP2 hd))))))
  have H1 := Lib.hid (And.intro h2 hb2)
  clear hs h1 hb1 h2 hb2 hml hil hrl hP hP2 hd
  go_enter Try.func45, Try.ntmps45
  go_upto_region 1 with (fail)
  clear hg
  generalize w.alloc (dmO [.int .i64 k, .int .i64 n, .bool neg, .slice am ml cm, .string text, .slice ai il ci, .slice ar rl cr]) = w1 at *
  go_upto_region 2 with (fail)
  generalize w1.setCell ⟨gp, 0, none⟩ (.int .i64 (p + 1)) = w2 at *
  clear p0 pf
  have p0 := (H1.out.1.left.cell 0).trans (show _ = some (Value.int .i64 (p + 1)) from rfl)
  have hbad : (deep = 0 ∨ 20000 < p + 1 ∨ ¬ ShapeD (.mk k n neg mag text items rest)) → ∀ w', sat w' (blk gp (.cells #[.int .i64 (p + 1)] 3 (0, 0)) * R) → Below 0 w w' → DaPost gp R (okD (.mk k n neg mag text items rest) deep p) w (.returned (.bool false)) w' := by
    intro hc w' h' hb'
    have e : okD (.mk k n neg mag text items rest) deep p = none := by unfold okD; rw [if_pos hc]
    rw [e]
    exact ⟨p + 1, rfl, fun q' h => (by cases h), h', hb'⟩
  have H2 : sat w2 (blk gp (.cells #[.int .i64 (p + 1)] 3 (0, 0)) * R) := (H1.out.1.perm (show _ = blk g _ * (blk gp _ * R) by ac_rfl)).right
  have HB := Lib.hid (And.intro hbad H2)
  clear hbad H2
  by_cases hd0 : deep = 0
  · subst hd0
    go_wp2_with fail
    go_ret
    exact HB.out.1 (.inl (by trivial)) _ HB.out.2 H1.out.2
  · have ed0 : (deep == 0) = false := by simp [hd0]
    by_cases hp2 : p + 1 > 20000
    · have ep2 : decide (p + 1 > 20000) = true := by simp; omega
      go_wp2_with fail
      go_ret
      exact HB.out.1 (.inr (.inl (by omega))) _ HB.out.2 H1.out.2
    · have ep2 : decide (p + 1 > 20000) = false := by simp; omega
      go_upto_region 4 with (fail)
      have c0 := (H1.out.1.right.left.cell 0).trans (show _ = some (Value.int .i64 k) from rfl)
      have c1 := (H1.out.1.right.left.cell 1).trans (show _ = some (Value.int .i64 n) from rfl)
      have c2 := (H1.out.1.right.left.cell 2).trans (show _ = some (Value.bool neg) from rfl)
      have c3 := (H1.out.1.right.left.cell 3).trans (show _ = some (Value.slice am ml cm) from rfl)
      have c4 := (H1.out.1.right.left.cell 4).trans (show _ = some (Value.string text) from rfl)
      have c5 := (H1.out.1.right.left.cell 5).trans (show _ = some (Value.slice ai il ci) from rfl)
      have c6 := (H1.out.1.right.left.cell 6).trans (show _ = some (Value.slice ar rl cr) from rfl)
      clear hd0 hp2
      have k7 := HK0.out
      subst k7
      cases neg with
      | true =>
        go_wp2_with fail
        go_ret
        exact HB.out.1 (.inr (.inr (fun hS => absurd ((shape_ask hS).1 (by decide)).1 (by decide)))) _ HB.out.2 H1.out.2
      | false =>
        by_cases hm0 : 0 < ml
        case pos =>
          have em0 : decide ((ml : Int) > 0) = true := by rw [decide_eq_true_eq]; omega
          go_wp2_with fail
          go_ret
          exact HB.out.1 (.inr (.inr (fun hS => ne_empty HG.out.2.1 hm0 ((shape_ask hS).1 (by decide)).2))) _ HB.out.2 H1.out.2
        have em0 : decide ((ml : Int) > 0) = false := by rw [decide_eq_false_iff_not]; omega
        by_cases ht0 : text = noT
        case neg =>
          have et1 : ¬ (text.toList = []) := text_none ht0
          have et2 : (text.toList == []) = false := by rw [beq_eq_false_iff_ne]; exact et1
          go_wp2_with fail
          go_ret
          exact HB.out.1 (.inr (.inr (fun hS => ht0 ((shape_ask hS).2.1 (by decide) (by decide))))) _ HB.out.2 H1.out.2
        have et1 : text.toList = [] := by rw [ht0]; exact noT_list
        have HT0 := Lib.hid ht0
        clear ht0
        have et2 : (text.toList == []) = true := by rw [et1]; rfl
        by_cases hr0 : 0 < rl
        case pos =>
          have er0 : decide ((rl : Int) > 0) = true := by rw [decide_eq_true_eq]; omega
          go_wp2_with fail
          go_ret
          exact HB.out.1 (.inr (.inr (fun hS => ne_empty HG.out.2.2.2.1 hr0 ((shape_ask hS).2.2.2 (by decide))))) _ HB.out.2 H1.out.2
        have er0 : decide ((rl : Int) > 0) = false := by rw [decide_eq_false_iff_not]; omega
        have HQ4 := Lib.hid (show AskD 7 false mag text items rest from ⟨fun _ => ⟨rfl, eq_empty HG.out.2.1 hm0⟩, fun _ _ => HT0.out, fun _ h => absurd rfl h, fun _ => eq_empty HG.out.2.2.2.1 hr0⟩)
        by_cases hn0 : n = 0
        case neg =>
          have en0 : (n != 0) = true := by simp [hn0]
          go_wp2_with fail
          go_ret
          exact HB.out.1 (.inr (.inr (fun hS => hn0 (shape_more hS (by decide)).1))) _ HB.out.2 H1.out.2
        subst hn0
        obtain ⟨hmag, hlim⟩ : (∀ w, sat w R → MagW w am mag) ∧ ∀ x ∈ mag, 0 ≤ x ∧ x < 4294967296 := by
          obtain ⟨am', cm', ai', ci', ar', cr', he, ⟨_, _, h3, h4, _⟩, _⟩ := HG.out.2.2.2.2.2.2.open
          simp only [List.cons.injEq, Value.slice.injEq, and_true, true_and] at he
          obtain ⟨⟨rfl, _⟩, _⟩ := he
          exact ⟨h3, h4⟩
        have hcap : ml ≤ cm := by
          obtain ⟨am', cm', ai', ci', ar', cr', he, ⟨_, _, _, _, h5, _⟩, _⟩ := HG.out.2.2.2.2.2.2.open
          simp only [List.cons.injEq, Value.slice.injEq, and_true, true_and] at he
          obtain ⟨⟨_, _, rfl⟩, _⟩ := he
          have := HG.out.2.1
          omega
        have h3 := H1.out.1.alloc (.cells #[.bool false, .slice am ml cm] 57)
        have hnc : NumCells (blk gp (.cells #[.int .i64 (p + 1)] 3 (0, 0)) * (blk g (dmO [.int .i64 7, .int .i64 0, .bool false, .slice am ml cm, .string text, .slice ai il ci, .slice ar rl cr]) * R)) #[.bool false, .slice am ml cm] [(false, mag)] := by
          intro j nn l hj
          have hj0 := (List.getElem?_eq_some_iff.1 hj).1
          obtain rfl : j = 0 := by simp at hj0; omega
          simp only [List.getElem?_cons_zero, Option.some.injEq, Prod.mk.injEq] at hj
          obtain ⟨rfl, rfl⟩ := hj
          refine ⟨am, cm, rfl, ?_, ?_, fun w h => hmag w h.right.right, hlim, ?_⟩
          · rw [HG.out.2.1]; rfl
          · have := HG.out.2.1; omega
          · have := HG.out.2.1; unfold topB; omega
        have hA := num_Sum w2.heap.size 1 _ [(false, mag)] h3 hnc (by show 1 ≤ 2; decide)
        have hsum : sumI [(false, mag)] = sgn false (valL mag) := by simp [sumI]
        rw [hsum] at hA
        have HM := Lib.hid (And.intro hmag (And.intro hlim (And.intro hcap (Below.zero_alloc w2 (.cells #[.bool false, .slice am ml cm] 57)))))
        clear hmag hlim hcap h3 hnc hsum
        go_wp2_with fail
        refine hA.mono ?_
        clear hA
        rintro e w3 ⟨sl, rfl, h4, hb4⟩
        rw [sgn_abs] at h4
        obtain ⟨so, sc, rfl⟩ := own_val h4
        obtain ⟨B, hB⟩ : ∃ B, decide (sgn false (valL mag) < 0) = B := ⟨_, rfl⟩
        obtain ⟨L, hL⟩ : ∃ L, (limbsOf (valL mag)).length = L := ⟨_, rfl⟩
        rw [hB, hL]
        have h5 := h4.alloc (.cells #[.bool B, .slice so L sc] 57)
        have hb5 := ((H1.out.2.trans HM.out.2.2.2).trans hb4).trans (Below.zero_alloc w3 (.cells #[.bool B, .slice so L sc] 57))
        rw [hL] at h5
        have hE := fun m => slices_equal ((w3.alloc (.cells #[.bool B, .slice so L sc] 57)).drewN m) so am sc cm (limbsOf (valL mag)) mag (by
          exact mag_own (l := limbsOf (valL mag)) (h5.drewN m).right) (HM.out.1 _ ((h5.drewN m).right.right.right.right)) (by
            have := limbsOf_len_le HM.out.2.1
            have := HG.out.2.1
            omega) (by have := HG.out.2.1; omega)
        rw [hL, HG.out.2.1] at hE
        obtain ⟨E, hE2⟩ : ∃ E, decide (limbsOf (valL mag) = mag) = E := ⟨_, rfl⟩
        rw [hE2] at hE
        have d0 : (w3.alloc (.cells #[.bool B, .slice so L sc] 57)).cell? ⟨w3.heap.size, 0, none⟩ = some (.bool B) := (h5.left.cell 0).trans rfl
        have d1 : (w3.alloc (.cells #[.bool B, .slice so L sc] 57)).cell? ⟨w3.heap.size, 1, none⟩ = some (.slice so L sc) := (h5.left.cell 1).trans rfl
        have h5G : sat (w3.alloc (.cells #[.bool B, .slice so L sc] 57)) (blk gp (.cells #[.int .i64 (p + 1)] 3 (0, 0)) * (blk g (dmO [.int .i64 7, .int .i64 0, .bool false, .slice am ml cm, .string text, .slice ai il ci, .slice ar rl cr]) * R)) := h5.right.right
        have c0 := (h5G.right.left.cell 0).trans (show _ = some (Value.int .i64 7) from rfl)
        have c2 := (h5G.right.left.cell 2).trans (show _ = some (Value.bool false) from rfl)
        have c3 := (h5G.right.left.cell 3).trans (show _ = some (Value.slice am ml cm) from rfl)
        have c5 := (h5G.right.left.cell 5).trans (show _ = some (Value.slice ai il ci) from rfl)
        have c6 := (h5G.right.left.cell 6).trans (show _ = some (Value.slice ar rl cr) from rfl)
        have p0 := (h5G.left.cell 0).trans (show _ = some (Value.int .i64 (p + 1)) from rfl)
        have HE := Lib.hid (And.intro hB (And.intro hE2 (And.intro hE (And.intro h5G hb5))))
        clear hB hE2 hE h5 h4 hb4 hb5 h5G
        go_upto_region 21 with (fail)
        generalize w3.alloc (.cells #[.bool B, .slice so L sc] 57) = w4 at *
        generalize w3.heap.size = gs at *
        cases B with
        | true =>
          have hS : ¬ ShapeD (.mk 7 0 false mag text items rest) := fun h => canon_no (by rw [HE.out.1]; decide) ⟨(shape_more h (by decide)).2.1, (shape_more h (by decide)).2.2.1⟩
          have HS := Lib.hid hS
          clear hS
          go_wp2_with fail
          go_ret
          exact HB.out.1 (.inr (.inr HS.out)) _ ((HE.out.2.2.2.1.perm (show _ = blk g _ * (blk gp _ * R) by ac_rfl)).right) HE.out.2.2.2.2
        | false =>
          cases E with
          | false =>
            have hS : ¬ ShapeD (.mk 7 0 false mag text items rest) := fun h => (of_decide_eq_false HE.out.2.1) (shape_more h (by decide)).2.1
            have HS := Lib.hid hS
            clear hS
            go_wp2_with fail
            refine (HE.out.2.2.1 0).mono ?_
            rintro e w' ⟨rfl, j, rfl⟩
            go_wp2_with fail
            go_ret
            exact HB.out.1 (.inr (.inr HS.out)) _ (((HE.out.2.2.2.1.drewN j).perm (show _ = blk g _ * (blk gp _ * R) by ac_rfl)).right) (HE.out.2.2.2.2.trans (drewN_below0 _ _))
          | true =>
            have hcan := canon_sign HE.out.1 (of_decide_eq_true HE.out.2.1)
            have HCN := Lib.hid hcan
            clear hcan
            go_wp2_with fail
            refine (HE.out.2.2.1 0).mono ?_
            rintro e w' ⟨rfl, j0, rfl⟩
            go_upto_region 23 with (fail)
            have h6 := HE.out.2.2.2.1.drewN j0
            have hb6 := HE.out.2.2.2.2.trans (drewN_below0 w4 j0)
            have er1 : decide ((rl : Int) > 1) = false := by rw [decide_eq_false_iff_not]; omega
            have er2 : ((rl : Int) == 1) = false := by rw [beq_eq_false_iff_ne]; omega
            have hshape : ShapeD (.mk 7 0 false mag text items rest) := by
              obtain ⟨q1, q2, q3, q4⟩ := HQ4.out
              unfold ShapeD
              exact ⟨q1, q2, q3, q4, .inr ⟨by decide, rfl, HCN.out.1, HCN.out.2, .inl (eq_empty HG.out.2.2.2.1 hr0)⟩⟩
            have hdks : DKs R items ai 0 ∧ DKs R rest ar 0 := by
              obtain ⟨am', cm', ai', ci', ar', cr', he, _, h7, h8⟩ := HG.out.2.2.2.2.2.2.open
              simp only [List.cons.injEq, Value.slice.injEq, and_true, true_and] at he
              obtain ⟨_, ⟨rfl, _⟩, rfl, _⟩ := he
              exact ⟨h7, h8⟩
            have hdpos : 0 < deep := by simp at ed0; omega
            have hp20 : p + 1 ≤ 20000 := by simp at ep2; omega
            have hif : ¬ (deep = 0 ∨ 20000 < p + 1 ∨ ¬ ShapeD (.mk 7 0 false mag text items rest)) := by
              rintro (h | h | h)
              · omega
              · omega
              · exact h hshape
            have HD := Lib.hid hdks
            have HDP := Lib.hid hdpos
            have HIF := Lib.hid hif
            have h7 := h6.alloc (.cells #[.slice ai il ci, .slice ar rl cr] 35)
            have hb7 := hb6.trans (Below.zero_alloc (w4.drewN j0) (.cells #[.slice ai il ci, .slice ar rl cr] 35))
            obtain ⟨ga, hga⟩ : ∃ ga, (w4.drewN j0).heap.size = ga := ⟨_, rfl⟩
            rw [hga] at h7
            obtain ⟨G, hG⟩ : ∃ G : HP, G = blk ga (.cells #[.slice ai il ci, .slice ar rl cr] 35 (0, 0)) * (blk g (dmO [.int .i64 7, .int .i64 0, .bool false, .slice am ml cm, .string text, .slice ai il ci, .slice ar rl cr]) * R) := ⟨_, rfl⟩
            have hGR : ∀ w, sat w G → sat w R := fun w h => by rw [hG] at h; exact h.right.right
            have hGa : ∀ w, sat w G → w.cell? ⟨ga, 0, none⟩ = some (.slice ai il ci) ∧ w.cell? ⟨ga, 1, none⟩ = some (.slice ar rl cr) := fun w h => by
              rw [hG] at h
              exact ⟨(h.left.cell 0).trans rfl, (h.left.cell 1).trans rfl⟩
            have h8 : sat ((w4.drewN j0).alloc (.cells #[.slice ai il ci, .slice ar rl cr] 35)) (blk gp (.cells #[.int .i64 (p + 1)] 3 (0, 0)) * G) := by rw [hG]; exact h7.perm (by ac_rfl)
            have HGG := Lib.hid (And.intro hG (And.intro hGR hGa))
            have H8 := Lib.hid (And.intro h8 hb7)
            clear hG hGR hGa h7 h8 hb7 hdks hdpos hif hshape h6 hb6
            have c5 : (w4.drewN j0).cell? ⟨g, 5, none⟩ = some (.slice ai il ci) := c5
            have c6 : (w4.drewN j0).cell? ⟨g, 6, none⟩ = some (.slice ar rl cr) := c6
            have hgs : w4.heap.size = ga := hga
            go_wp2_with fail
            go_loopw [150] (DoRel w gp G items rest deep (p + 1)) (fun i _ => 2 - (intOf i).toNat)
            case atStart => exact ⟨0, p + 1, by decide, rfl, by omega, .inl ⟨rfl, rfl⟩, H8.out.1, H8.out.2⟩
            case round =>
              obtain ⟨a, q, ha, rfl, hq, hst, h8, hb8⟩ := hrel
              obtain ⟨ca0, ca1⟩ := HGG.out.2.2 wr h8.right
              rcases hst with ⟨rfl, rfl⟩ | ⟨rfl, h9⟩ | ⟨rfl, r, h9, h10⟩
              · have HA := Lib.hid (And.intro hq (And.intro h8 (And.intro hb8 True.intro)))
                clear h8 hb8
                go_wp2_with fail
                clear ca0 ca1
                go_loopw [156] (DiRel w gp G items deep (p + 1)) (fun i _ => items.length - (intOf i).toNat)
                case atStart => exact ⟨0, (p + 1), Nat.zero_le _, rfl, HA.out.1, by rw [List.take_zero]; unfold okDs; rfl, HA.out.2.1, HA.out.2.2.1⟩
                case round =>
                  obtain ⟨j, q', hj, rfl, hq', hok, h9, hb9⟩ := hrel
                  have hll := HG.out.2.2.1
                  by_cases hlt : j < items.length
                  · have hlt2 : j < il := by omega
                    have bl : decide ((j : Int) < (il : Int)) = true := by rw [decide_eq_true_eq]; omega
                    obtain ⟨d, ex⟩ : ∃ d, items[j]? = some d := ⟨_, List.getElem?_eq_getElem hlt⟩
                    obtain ⟨bb, off, ds, hao, hcell, hdd⟩ := HD.out.1.get j d ex
                    have hcw := hcell wr (HGG.out.2.1 wr h9.right)
                    rw [Nat.zero_add] at hcw
                    have hmem := List.mem_of_getElem? ex
                    obtain ⟨k1, n1, ng1, am1, ml1, cm1, tx1, ai1, il1, ci1, ar1, rl1, cr1, rfl⟩ := hdd.cells
                    have i0' := hcw 0 _ rfl
                    have i1 := hcw 1 _ rfl
                    have i2 := hcw 2 _ rfl
                    have i3 := hcw 3 _ rfl
                    have i4 := hcw 4 _ rfl
                    have i5 := hcw 5 _ rfl
                    have i6 := hcw 6 _ rfl
                    rw [Nat.add_zero] at i0'
                    have h10 := h9.alloc (dmO [.int .i64 k1, .int .i64 n1, .bool ng1, .slice am1 ml1 cm1, .string tx1, .slice ai1 il1 ci1, .slice ar1 rl1 cr1])
                    obtain ⟨gb, hgb⟩ : ∃ gb, wr.heap.size = gb := ⟨_, rfl⟩
                    rw [hgb] at h10
                    have HGB := Lib.hid hgb
                    have h11 : sat (wr.alloc (dmO [.int .i64 k1, .int .i64 n1, .bool ng1, .slice am1 ml1 cm1, .string tx1, .slice ai1 il1 ci1, .slice ar1 rl1 cr1])) (blk gp (.cells #[.int .i64 q'] 3 (0, 0)) * (blk gb (dmO [.int .i64 k1, .int .i64 n1, .bool ng1, .slice am1 ml1 cm1, .string tx1, .slice ai1 il1 ci1, .slice ar1 rl1 cr1]) * G)) := h10.perm (by ac_rfl)
                    have hC := HG.out.2.2.2.2.1 HDP.out d hmem _ _ gp q' _ hq' h11 (hdd.mono (fun w h => HGG.out.2.1 w h.right) _)
                    have g1 : IntKind.i64.wrap (deep - 1) = deep - 1 := IntWalk.i64_in _ (by omega)
                    obtain ⟨o, ho⟩ : ∃ o, okD d (deep - 1) q' = o := ⟨_, rfl⟩
                    rw [ho] at hC
                    have hb11 := hb9.trans (Below.zero_alloc wr (dmO [.int .i64 k1, .int .i64 n1, .bool ng1, .slice am1 ml1 cm1, .string tx1, .slice ai1 il1 ci1, .slice ar1 rl1 cr1]))
                    have hqb : ∀ q3, o = some q3 → 0 ≤ q3 ∧ q3 ≤ 20000 := fun q3 h => by have := okD_bd d (deep - 1) q' q3 (by rw [ho, h]); omega
                    have HK := Lib.hid (And.intro hb11 (And.intro hok (And.intro ho (And.intro ex (And.intro hC hqb)))))
                    cases hao
                    clear hcw hcell hdd h9 h10 h11 hb9 hb11 hmem ex hC hok ho hqb hll hlt hgb
                    go_wp2_with fail
                    refine HK.out.2.2.2.2.1.mono ?_
                    clear i0' i1 i2 i3 i4 i5 i6
                    rintro e w6 ⟨q2, rfl, hq2, h12, hb12⟩
                    cases o with
                    | none =>
                      have HN := Lib.hid (And.intro h12 (And.intro (HK.out.1.trans hb12) (okDs_none HK.out.2.2.2.1 HK.out.2.1 HK.out.2.2.1)))
                      clear h12 hb12 hq2
                      go_wp2_with fail
                      go_ret
                      have hnone : okD (.mk 7 0 false mag text items rest) deep p = none := by
                        unfold okD
                        split
                        · rfl
                        · rw [HN.out.2.2]
                      rw [hnone]
                      have h13 := HN.out.1.right.right
                      rw [HGG.out.1] at h13
                      refine ⟨q2, rfl, fun q' h => (by cases h), ?_, HN.out.2.1⟩
                      have h14 := HN.out.1
                      rw [HGG.out.1] at h14
                      exact (h14.perm (show _ = (blk gb _ * (blk ga _ * blk g _)) * (blk gp _ * R) by ac_rfl)).right
                    | some q3 =>
                      obtain rfl := hq2 q3 rfl
                      have HN := Lib.hid (And.intro h12 (And.intro (HK.out.1.trans hb12) (HK.out.2.2.2.2.2 q2 rfl)))
                      clear h12 hb12 hq2
                      go_wp2_with fail
                      go_roundw
                      case rel =>
                        refine ⟨j + 1, q2, by have := HG.out.2.2.1; omega, by go_num, HN.out.2.2, ?_, ?_, HN.out.2.1⟩
                        · rw [okDs_next HK.out.2.2.2.1, HK.out.2.1]
                          exact HK.out.2.2.1
                        · exact (HN.out.1.perm (show _ = blk gb _ * (blk gp _ * G) by ac_rfl)).right
                      case measure =>
                        have := HG.out.2.2.1
                        simp [intOf]; omega
                  · obtain rfl : j = items.length := by omega
                    rw [List.take_of_length_le (Nat.le_refl _)] at hok
                    have hge : decide ((items.length : Int) < (il : Int)) = false := by rw [decide_eq_false_iff_not]; omega
                    have HN := Lib.hid (And.intro h9 (And.intro hb9 (And.intro hok hq')))
                    clear h9 hb9 hok hq' hj hlt
                    rw [hll]
                    rw [hll] at hge
                    clear hll
                    go_wp2_with fail
                    go_roundw
                    case rel => exact ⟨1, q', by decide, rfl, HN.out.2.2.2, .inr (.inl ⟨rfl, HN.out.2.2.1⟩), HN.out.1, HN.out.2.1⟩
                    case measure => simp [intOf]
              · have HA := Lib.hid (And.intro hq (And.intro h8 (And.intro hb8 h9)))
                clear h8 hb8 h9
                go_wp2_with fail
                clear ca0 ca1
                go_loopw [156] (DiRel w gp G rest deep q) (fun i _ => rest.length - (intOf i).toNat)
                case atStart => exact ⟨0, q, Nat.zero_le _, rfl, HA.out.1, by rw [List.take_zero]; unfold okDs; rfl, HA.out.2.1, HA.out.2.2.1⟩
                case round =>
                  obtain ⟨j, q', hj, rfl, hq', hok, h9, hb9⟩ := hrel
                  have hll := HG.out.2.2.2.1
                  by_cases hlt : j < rest.length
                  · exact absurd hlt (by omega)
                  · obtain rfl : j = rest.length := by omega
                    rw [List.take_of_length_le (Nat.le_refl _)] at hok
                    have hge : decide ((rest.length : Int) < (rl : Int)) = false := by rw [decide_eq_false_iff_not]; omega
                    have HN := Lib.hid (And.intro h9 (And.intro hb9 (And.intro hok hq')))
                    clear h9 hb9 hok hq' hj hlt
                    rw [hll]
                    rw [hll] at hge
                    clear hll
                    go_wp2_with fail
                    go_roundw
                    case rel => exact ⟨2, q', by decide, rfl, HN.out.2.2.2, .inr (.inr ⟨rfl, q, HA.out.2.2.2, HN.out.2.2.1⟩), HN.out.1, HN.out.2.1⟩
                    case measure => simp [intOf]
              · have hyes : okD (.mk 7 0 false mag text items rest) deep p = some q := by
                  unfold okD
                  rw [if_neg HIF.out, h9]
                  exact h10
                have HA := Lib.hid (And.intro h8 (And.intro hb8 hyes))
                clear h8 hb8 h9 h10 hyes ca0 ca1
                go_wp2_with fail
                go_ret
                rw [HA.out.2.2]
                refine ⟨q, rfl, fun q' h => (by cases h; rfl), ?_, HA.out.2.1⟩
                have h14 := HA.out.1
                rw [HGG.out.1] at h14
                exact (h14.perm (show _ = (blk ga _ * blk g _) * (blk gp _ * R) by ac_rfl)).right
/-- datum of whatever datum. -/
theorem datums_all : ∀ s : Nat, s ≤ 67108864 → ∀ d : Dm, d.size ≤ s → ∀ deep : Int, 0 ≤ deep ∧ deep ≤ 100 → DatumAt d deep := by
  intro s
  induction s with
  | zero => intro _ d hd; have := d.size_pos; omega
  | succ s ih =>
    intro hs d hd deep hdp w R gp p cs hp h1 hdk
    cases d with
    | mk k n neg mag text items rest =>
    obtain ⟨am, cm, ai, ci, ar, cr, rfl, _⟩ := hdk.open
    have hz := hd
    unfold Dm.size at hd
    have hl1 := Dm.len_le items
    have hl2 := Dm.len_le rest
    have q1 : 0 < deep → ∀ d ∈ items, DatumAt d (deep - 1) := by
      intro h0 d hd'
      obtain ⟨i, hi⟩ := List.mem_iff_getElem?.1 hd'
      have := Dm.size_le hi
      exact ih (by omega) d (by omega) (deep - 1) (by omega)
    have q2 : 0 < deep → ∀ d ∈ rest, DatumAt d (deep - 1) := by
      intro h0 d hd'
      obtain ⟨i, hi⟩ := List.mem_iff_getElem?.1 hd'
      have := Dm.size_le hi
      exact ih (by omega) d (by omega) (deep - 1) (by omega)
    have hszz : mag.length ≤ 67108864 ∧ items.length ≤ 67108864 ∧ rest.length ≤ 67108864 := by omega
    by_cases hk1 : k = 1
    · exact datum_step1 k n neg mag text items rest _ _ _ hk1 rfl rfl rfl hszz deep hdp q1 q2 w R gp p hp am cm ai ci ar cr h1 hdk
    by_cases h2 : k = 2
    · exact datum_step2 k n neg mag text items rest _ _ _ h2 rfl rfl rfl hszz deep hdp q1 q2 w R gp p hp am cm ai ci ar cr h1 hdk
    by_cases h3 : k = 3
    · exact datum_step3 k n neg mag text items rest _ _ _ h3 rfl rfl rfl hszz deep hdp q1 q2 w R gp p hp am cm ai ci ar cr h1 hdk
    by_cases h4 : k = 4
    · exact datum_step4 k n neg mag text items rest _ _ _ h4 rfl rfl rfl hszz deep hdp q1 q2 w R gp p hp am cm ai ci ar cr h1 hdk
    by_cases h5 : k = 5
    · exact datum_step5 k n neg mag text items rest _ _ _ h5 rfl rfl rfl hszz deep hdp q1 q2 w R gp p hp am cm ai ci ar cr h1 hdk
    by_cases h6 : k = 6
    · exact datum_step6 k n neg mag text items rest _ _ _ h6 rfl rfl rfl hszz deep hdp q1 q2 w R gp p hp am cm ai ci ar cr h1 hdk
    by_cases h7 : k = 7
    · exact datum_step7 k n neg mag text items rest _ _ _ h7 rfl rfl rfl hszz deep hdp q1 q2 w R gp p hp am cm ai ci ar cr h1 hdk
    by_cases h8 : k = 8
    · exact datum_step8 k n neg mag text items rest _ _ _ h8 rfl rfl rfl hszz deep hdp q1 q2 w R gp p hp am cm ai ci ar cr h1 hdk
    by_cases h9 : k = 9
    · exact datum_step9 k n neg mag text items rest _ _ _ h9 rfl rfl rfl hszz deep hdp q1 q2 w R gp p hp am cm ai ci ar cr h1 hdk
    exact datum_step0 k n neg mag text items rest _ _ _ ⟨hk1, h2, h3, h4, h5, h6, h7, h8, h9⟩ rfl rfl rfl hszz deep hdp q1 q2 w R gp p hp am cm ai ci ar cr h1 hdk
theorem pack_datum {d : Dm} (hz : d.size ≤ 67108864) {deep : Int} (hdp : 0 ≤ deep ∧ deep ≤ 100) : DatumAt d deep := datums_all 67108864 (Nat.le_refl _) d hz deep hdp
end Go.Proofs.Ytkjfplldfjmbaaa
