/- pack.datum of numbers, texts, void. -/
import Derived.Test.YtkjfplldfjmbaaaPackDatum
namespace Go.Proofs.Ytkjfplldfjmbaaa
open Go.RowKit
set_option maxRecDepth 100000 in
set_option maxHeartbeats 8000000 in
theorem datum_step1 (k n : Int) (neg : Bool) (mag : List Int) (text : ByteArray) (items rest : List Dm) (ml il rl : Nat) (hk0 : k = 1) (hml : mag.length = ml) (hil : items.length = il) (hrl : rest.length = rl) (hsz : ml ≤ 67108864 ∧ il ≤ 67108864 ∧ rl ≤ 67108864) (deep : Int) (hdp : 0 ≤ deep ∧ deep ≤ 100)
    (hP : 0 < deep → ∀ d ∈ items, DatumAt d (deep - 1)) (hP2 : 0 < deep → ∀ d ∈ rest, DatumAt d (deep - 1)) (w : World) (R : HP) (gp : Nat) (p : Int) (hp : 0 ≤ p ∧ p ≤ 20000)
    (am : Option Addr) (cm : Nat) (ai : Option Addr) (ci : Nat) (ar : Option Addr) (cr : Nat)
    (hs : sat w (blk gp (.cells #[.int .i64 p] 3 (0, 0)) * R)) (hd : DK R (.mk k n neg mag text items rest) [.int .i64 k, .int .i64 n, .bool neg, .slice am ml cm, .string text, .slice ai il ci, .slice ar rl cr]) :
    Calls Try.prog 45 #[.agg #[.int .i64 k, .int .i64 n, .bool neg, .slice am ml cm, .string text, .slice ai il ci, .slice ar rl cr], .int .i64 deep, .pointer (some ⟨gp, 0, none⟩)] w (DaPost gp R (okD (.mk k n neg mag text items rest) deep p) w) := by
  have HK0 := Lib.hid hk0
  clear hk0
  have h1 : sat (w.alloc (dmO [.int .i64 k, .int .i64 n, .bool neg, .slice am ml cm, .string text, .slice ai il ci, .slice ar rl cr])) (blk gp (.cells #[.int .i64 p] 3 (0, 0)) * (blk w.heap.size (dmO [.int .i64 k, .int .i64 n, .bool neg, .slice am ml cm, .string text, .slice ai il ci, .slice ar rl cr]) * R)) := (hs.alloc (dmO [.int .i64 k, .int .i64 n, .bool neg, .slice am ml cm, .string text, .slice ai il ci, .slice ar rl cr])).perm (by ac_rfl)
  have hb1 := Below.zero_alloc w (dmO [.int .i64 k, .int .i64 n, .bool neg, .slice am ml cm, .string text, .slice ai il ci, .slice ar rl cr])
  obtain ⟨g, hg⟩ : ∃ g, w.heap.size = g := ⟨_, rfl⟩
  rw [hg] at h1
  have p0 := (h1.left.cell 0).trans (show _ = some (Value.int .i64 p) from rfl)
  have pf := h1.left.frozen 0
  have h2 : sat ((w.alloc (dmO [.int .i64 k, .int .i64 n, .bool neg, .slice am ml cm, .string text, .slice ai il ci, .slice ar rl cr])).setCell ⟨gp, 0, none⟩ (.int .i64 (p + 1))) (blk gp (.cells #[.int .i64 (p + 1)] 3 (0, 0)) * (blk g (dmO [.int .i64 k, .int .i64 n, .bool neg, .slice am ml cm, .string text, .slice ai il ci, .slice ar rl cr]) * R)) := h1.setCell (off := 0) _
  have hb2 := hb1.setCell (p := ⟨gp, 0, none⟩) (Nat.zero_le _) (.int .i64 (p + 1))
  have g0 : IntKind.i64.wrap (p + 1) = p + 1 := IntWalk.i64_in _ (by omega)
  have HG := Lib.hid (And.intro hg (And.intro hml (And.intro hil (And.intro hrl (And.intro hP (And.intro hP2 hd))))))
  have H1 := Lib.hid (And.intro h2 hb2)
  clear hs h1 hb1 h2 hb2 hml hil hrl hP hP2 hd
  go_enter Try.func45, Try.ntmps45
  go_upto_region 1 with (fail)
  clear hg
  generalize w.alloc (dmO [.int .i64 k, .int .i64 n, .bool neg, .slice am ml cm, .string text, .slice ai il ci, .slice ar rl cr]) = w1 at *
  go_upto_region 2 with (fail)
  generalize w1.setCell ⟨gp, 0, none⟩ (.int .i64 (p + 1)) = w2 at *
  clear p0 pf
  have p0 := (H1.out.1.left.cell 0).trans (show _ = some (Value.int .i64 (p + 1)) from rfl)
  have hbad : (deep = 0 ∨ 20000 < p + 1 ∨ ¬ ShapeD (.mk k n neg mag text items rest)) → ∀ w', sat w' (blk gp (.cells #[.int .i64 (p + 1)] 3 (0, 0)) * R) → Below 0 w w' → DaPost gp R (okD (.mk k n neg mag text items rest) deep p) w (.returned (.bool false)) w' := by
    intro hc w' h' hb'
    have e : okD (.mk k n neg mag text items rest) deep p = none := by unfold okD; rw [if_pos hc]
    rw [e]
    exact ⟨p + 1, rfl, fun q' h => (by cases h), h', hb'⟩
  have H2 : sat w2 (blk gp (.cells #[.int .i64 (p + 1)] 3 (0, 0)) * R) := (H1.out.1.perm (show _ = blk g _ * (blk gp _ * R) by ac_rfl)).right
  have HB := Lib.hid (And.intro hbad H2)
  clear hbad H2
  by_cases hd0 : deep = 0
  · subst hd0
    go_wp2_with fail
    go_ret
    exact HB.out.1 (.inl (by trivial)) _ HB.out.2 H1.out.2
  · have ed0 : (deep == 0) = false := by simp [hd0]
    by_cases hp2 : p + 1 > 20000
    · have ep2 : decide (p + 1 > 20000) = true := by simp; omega
      go_wp2_with fail
      go_ret
      exact HB.out.1 (.inr (.inl (by omega))) _ HB.out.2 H1.out.2
    · have ep2 : decide (p + 1 > 20000) = false := by simp; omega
      go_upto_region 4 with (fail)
      have c0 := (H1.out.1.right.left.cell 0).trans (show _ = some (Value.int .i64 k) from rfl)
      have c1 := (H1.out.1.right.left.cell 1).trans (show _ = some (Value.int .i64 n) from rfl)
      have c2 := (H1.out.1.right.left.cell 2).trans (show _ = some (Value.bool neg) from rfl)
      have c3 := (H1.out.1.right.left.cell 3).trans (show _ = some (Value.slice am ml cm) from rfl)
      have c4 := (H1.out.1.right.left.cell 4).trans (show _ = some (Value.string text) from rfl)
      have c5 := (H1.out.1.right.left.cell 5).trans (show _ = some (Value.slice ai il ci) from rfl)
      have c6 := (H1.out.1.right.left.cell 6).trans (show _ = some (Value.slice ar rl cr) from rfl)
      clear hd0 hp2
      have k1 := HK0.out
      subst k1
      by_cases ht0 : text = noT
      case neg =>
        have et1 : ¬ (text.toList = []) := text_none ht0
        have et2 : (text.toList == []) = false := by rw [beq_eq_false_iff_ne]; exact et1
        go_wp2_with fail
        go_ret
        exact HB.out.1 (.inr (.inr (fun hS => ht0 ((shape_ask hS).2.1 (by decide) (by decide))))) _ HB.out.2 H1.out.2
      have et1 : text.toList = [] := by rw [ht0]; exact noT_list
      have HT0 := Lib.hid ht0
      clear ht0
      have et2 : (text.toList == []) = true := by rw [et1]; rfl
      by_cases hi0 : 0 < il
      case pos =>
        have ei0 : decide ((il : Int) > 0) = true := by rw [decide_eq_true_eq]; omega
        go_wp2_with fail
        go_ret
        exact HB.out.1 (.inr (.inr (fun hS => ne_empty HG.out.2.2.1 hi0 ((shape_ask hS).2.2.1 (by decide) (by decide))))) _ HB.out.2 H1.out.2
      have ei0 : decide ((il : Int) > 0) = false := by rw [decide_eq_false_iff_not]; omega
      by_cases hr0 : 0 < rl
      case pos =>
        have er0 : decide ((rl : Int) > 0) = true := by rw [decide_eq_true_eq]; omega
        go_wp2_with fail
        go_ret
        exact HB.out.1 (.inr (.inr (fun hS => ne_empty HG.out.2.2.2.1 hr0 ((shape_ask hS).2.2.2 (by decide))))) _ HB.out.2 H1.out.2
      have er0 : decide ((rl : Int) > 0) = false := by rw [decide_eq_false_iff_not]; omega
      have HQ4 := Lib.hid (show AskD 1 neg mag text items rest from ⟨fun h => absurd rfl h, fun _ _ => HT0.out, fun _ _ => eq_empty HG.out.2.2.1 hi0, fun _ => eq_empty HG.out.2.2.2.1 hr0⟩)
      by_cases hn0 : n = 0
      case neg =>
        have en0 : (n != 0) = true := by simp [hn0]
        go_wp2_with fail
        go_ret
        exact HB.out.1 (.inr (.inr (fun hS => hn0 (shape_more hS (by decide)).1))) _ HB.out.2 H1.out.2
      subst hn0
      obtain ⟨hmag, hlim⟩ : (∀ w, sat w R → MagW w am mag) ∧ ∀ x ∈ mag, 0 ≤ x ∧ x < 4294967296 := by
        obtain ⟨am', cm', ai', ci', ar', cr', he, ⟨_, _, h3, h4, _⟩, _⟩ := HG.out.2.2.2.2.2.2.open
        simp only [List.cons.injEq, Value.slice.injEq, and_true, true_and] at he
        obtain ⟨⟨rfl, _⟩, _⟩ := he
        exact ⟨h3, h4⟩
      have hcap : ml ≤ cm := by
        obtain ⟨am', cm', ai', ci', ar', cr', he, ⟨_, _, _, _, h5, _⟩, _⟩ := HG.out.2.2.2.2.2.2.open
        simp only [List.cons.injEq, Value.slice.injEq, and_true, true_and] at he
        obtain ⟨⟨_, _, rfl⟩, _⟩ := he
        have := HG.out.2.1
        omega
      have h3 := H1.out.1.alloc (.cells #[.bool neg, .slice am ml cm] 57)
      have hnc : NumCells (blk gp (.cells #[.int .i64 (p + 1)] 3 (0, 0)) * (blk g (dmO [.int .i64 1, .int .i64 0, .bool neg, .slice am ml cm, .string text, .slice ai il ci, .slice ar rl cr]) * R)) #[.bool neg, .slice am ml cm] [(neg, mag)] := by
        intro j nn l hj
        have hj0 := (List.getElem?_eq_some_iff.1 hj).1
        obtain rfl : j = 0 := by simp at hj0; omega
        simp only [List.getElem?_cons_zero, Option.some.injEq, Prod.mk.injEq] at hj
        obtain ⟨rfl, rfl⟩ := hj
        refine ⟨am, cm, rfl, ?_, ?_, fun w h => hmag w h.right.right, hlim, ?_⟩
        · rw [HG.out.2.1]; rfl
        · have := HG.out.2.1; omega
        · have := HG.out.2.1; unfold topB; omega
      have hA := num_Sum w2.heap.size 1 _ [(neg, mag)] h3 hnc (by show 1 ≤ 2; decide)
      have hsum : sumI [(neg, mag)] = sgn neg (valL mag) := by simp [sumI]
      rw [hsum] at hA
      have HM := Lib.hid (And.intro hmag (And.intro hlim (And.intro hcap (Below.zero_alloc w2 (.cells #[.bool neg, .slice am ml cm] 57)))))
      clear hmag hlim hcap h3 hnc hsum
      go_wp2_with fail
      refine hA.mono ?_
      clear hA
      rintro e w3 ⟨sl, rfl, h4, hb4⟩
      rw [sgn_abs] at h4
      obtain ⟨so, sc, rfl⟩ := own_val h4
      obtain ⟨B, hB⟩ : ∃ B, decide (sgn neg (valL mag) < 0) = B := ⟨_, rfl⟩
      obtain ⟨L, hL⟩ : ∃ L, (limbsOf (valL mag)).length = L := ⟨_, rfl⟩
      rw [hB, hL]
      have h5 := h4.alloc (.cells #[.bool B, .slice so L sc] 57)
      have hb5 := ((H1.out.2.trans HM.out.2.2.2).trans hb4).trans (Below.zero_alloc w3 (.cells #[.bool B, .slice so L sc] 57))
      rw [hL] at h5
      have hE := fun m => slices_equal ((w3.alloc (.cells #[.bool B, .slice so L sc] 57)).drewN m) so am sc cm (limbsOf (valL mag)) mag (by
        exact mag_own (l := limbsOf (valL mag)) (h5.drewN m).right) (HM.out.1 _ ((h5.drewN m).right.right.right.right)) (by
          have := limbsOf_len_le HM.out.2.1
          have := HG.out.2.1
          omega) (by have := HG.out.2.1; omega)
      rw [hL, HG.out.2.1] at hE
      obtain ⟨E, hE2⟩ : ∃ E, decide (limbsOf (valL mag) = mag) = E := ⟨_, rfl⟩
      rw [hE2] at hE
      have d0 : (w3.alloc (.cells #[.bool B, .slice so L sc] 57)).cell? ⟨w3.heap.size, 0, none⟩ = some (.bool B) := (h5.left.cell 0).trans rfl
      have d1 : (w3.alloc (.cells #[.bool B, .slice so L sc] 57)).cell? ⟨w3.heap.size, 1, none⟩ = some (.slice so L sc) := (h5.left.cell 1).trans rfl
      have h5G : sat (w3.alloc (.cells #[.bool B, .slice so L sc] 57)) (blk gp (.cells #[.int .i64 (p + 1)] 3 (0, 0)) * (blk g (dmO [.int .i64 1, .int .i64 0, .bool neg, .slice am ml cm, .string text, .slice ai il ci, .slice ar rl cr]) * R)) := h5.right.right
      have c0 := (h5G.right.left.cell 0).trans (show _ = some (Value.int .i64 1) from rfl)
      have c2 := (h5G.right.left.cell 2).trans (show _ = some (Value.bool neg) from rfl)
      have c3 := (h5G.right.left.cell 3).trans (show _ = some (Value.slice am ml cm) from rfl)
      have c5 := (h5G.right.left.cell 5).trans (show _ = some (Value.slice ai il ci) from rfl)
      have c6 := (h5G.right.left.cell 6).trans (show _ = some (Value.slice ar rl cr) from rfl)
      have p0 := (h5G.left.cell 0).trans (show _ = some (Value.int .i64 (p + 1)) from rfl)
      have HE := Lib.hid (And.intro hB (And.intro hE2 (And.intro hE (And.intro h5G hb5))))
      clear hB hE2 hE h5 h4 hb4 hb5 h5G
      go_upto_region 21 with (fail)
      generalize w3.alloc (.cells #[.bool B, .slice so L sc] 57) = w4 at *
      generalize w3.heap.size = gs at *
      by_cases hBn : B = neg
      case neg =>
        have eB : (B != neg) = true := by simp [hBn]
        have hS : ¬ ShapeD (.mk 1 0 neg mag text items rest) := fun h => canon_no (by rw [HE.out.1]; exact hBn) ⟨(shape_more h (by decide)).2.1, (shape_more h (by decide)).2.2.1⟩
        have HS := Lib.hid hS
        clear hS
        go_wp2_with fail
        go_ret
        exact HB.out.1 (.inr (.inr HS.out)) _ ((HE.out.2.2.2.1.perm (show _ = blk g _ * (blk gp _ * R) by ac_rfl)).right) HE.out.2.2.2.2
      subst hBn
      have eB : (B != B) = false := by simp
      cases E with
      | false =>
        have hS : ¬ ShapeD (.mk 1 0 B mag text items rest) := fun h => (of_decide_eq_false HE.out.2.1) (shape_more h (by decide)).2.1
        have HS := Lib.hid hS
        clear hS
        go_wp2_with fail
        refine (HE.out.2.2.1 0).mono ?_
        rintro e w' ⟨rfl, j, rfl⟩
        go_wp2_with fail
        go_ret
        exact HB.out.1 (.inr (.inr HS.out)) _ (((HE.out.2.2.2.1.drewN j).perm (show _ = blk g _ * (blk gp _ * R) by ac_rfl)).right) (HE.out.2.2.2.2.trans (drewN_below0 _ _))
      | true =>
        have hcan := canon_sign HE.out.1 (of_decide_eq_true HE.out.2.1)
        have HCN := Lib.hid hcan
        clear hcan
        go_wp2_with fail
        refine (HE.out.2.2.1 0).mono ?_
        rintro e w' ⟨rfl, j0, rfl⟩
        go_upto_region 23 with (fail)
        have h6 := HE.out.2.2.2.1.drewN j0
        have hb6 := HE.out.2.2.2.2.trans (drewN_below0 w4 j0)
        have er1 : decide ((rl : Int) > 1) = false := by rw [decide_eq_false_iff_not]; omega
        have er2 : ((rl : Int) == 1) = false := by rw [beq_eq_false_iff_ne]; omega
        have hshape : ShapeD (.mk 1 0 B mag text items rest) := by
          obtain ⟨q1, q2, q3, q4⟩ := HQ4.out
          unfold ShapeD
          exact ⟨q1, q2, q3, q4, .inr ⟨by decide, rfl, HCN.out.1, HCN.out.2, .inl (eq_empty HG.out.2.2.2.1 hr0)⟩⟩
        have hdks : DKs R items ai 0 ∧ DKs R rest ar 0 := by
          obtain ⟨am', cm', ai', ci', ar', cr', he, _, h7, h8⟩ := HG.out.2.2.2.2.2.2.open
          simp only [List.cons.injEq, Value.slice.injEq, and_true, true_and] at he
          obtain ⟨_, ⟨rfl, _⟩, rfl, _⟩ := he
          exact ⟨h7, h8⟩
        have hdpos : 0 < deep := by simp at ed0; omega
        have hp20 : p + 1 ≤ 20000 := by simp at ep2; omega
        have hif : ¬ (deep = 0 ∨ 20000 < p + 1 ∨ ¬ ShapeD (.mk 1 0 B mag text items rest)) := by
          rintro (h | h | h)
          · omega
          · omega
          · exact h hshape
        have HD := Lib.hid hdks
        have HDP := Lib.hid hdpos
        have HIF := Lib.hid hif
        have h7 := h6.alloc (.cells #[.slice ai il ci, .slice ar rl cr] 35)
        have hb7 := hb6.trans (Below.zero_alloc (w4.drewN j0) (.cells #[.slice ai il ci, .slice ar rl cr] 35))
        obtain ⟨ga, hga⟩ : ∃ ga, (w4.drewN j0).heap.size = ga := ⟨_, rfl⟩
        rw [hga] at h7
        obtain ⟨G, hG⟩ : ∃ G : HP, G = blk ga (.cells #[.slice ai il ci, .slice ar rl cr] 35 (0, 0)) * (blk g (dmO [.int .i64 1, .int .i64 0, .bool B, .slice am ml cm, .string text, .slice ai il ci, .slice ar rl cr]) * R) := ⟨_, rfl⟩
        have hGR : ∀ w, sat w G → sat w R := fun w h => by rw [hG] at h; exact h.right.right
        have hGa : ∀ w, sat w G → w.cell? ⟨ga, 0, none⟩ = some (.slice ai il ci) ∧ w.cell? ⟨ga, 1, none⟩ = some (.slice ar rl cr) := fun w h => by
          rw [hG] at h
          exact ⟨(h.left.cell 0).trans rfl, (h.left.cell 1).trans rfl⟩
        have h8 : sat ((w4.drewN j0).alloc (.cells #[.slice ai il ci, .slice ar rl cr] 35)) (blk gp (.cells #[.int .i64 (p + 1)] 3 (0, 0)) * G) := by rw [hG]; exact h7.perm (by ac_rfl)
        have HGG := Lib.hid (And.intro hG (And.intro hGR hGa))
        have H8 := Lib.hid (And.intro h8 hb7)
        clear hG hGR hGa h7 h8 hb7 hdks hdpos hif hshape h6 hb6
        have c5 : (w4.drewN j0).cell? ⟨g, 5, none⟩ = some (.slice ai il ci) := c5
        have c6 : (w4.drewN j0).cell? ⟨g, 6, none⟩ = some (.slice ar rl cr) := c6
        have hgs : w4.heap.size = ga := hga
        go_wp2_with fail
        go_loopw [150] (DoRel w gp G items rest deep (p + 1)) (fun i _ => 2 - (intOf i).toNat)
        case atStart => exact ⟨0, p + 1, by decide, rfl, by omega, .inl ⟨rfl, rfl⟩, H8.out.1, H8.out.2⟩
        case round =>
          obtain ⟨a, q, ha, rfl, hq, hst, h8, hb8⟩ := hrel
          obtain ⟨ca0, ca1⟩ := HGG.out.2.2 wr h8.right
          rcases hst with ⟨rfl, rfl⟩ | ⟨rfl, h9⟩ | ⟨rfl, r, h9, h10⟩
          · have HA := Lib.hid (And.intro hq (And.intro h8 (And.intro hb8 True.intro)))
            clear h8 hb8
            go_wp2_with fail
            clear ca0 ca1
            go_loopw [156] (DiRel w gp G items deep (p + 1)) (fun i _ => items.length - (intOf i).toNat)
            case atStart => exact ⟨0, (p + 1), Nat.zero_le _, rfl, HA.out.1, by rw [List.take_zero]; unfold okDs; rfl, HA.out.2.1, HA.out.2.2.1⟩
            case round =>
              obtain ⟨j, q', hj, rfl, hq', hok, h9, hb9⟩ := hrel
              have hll := HG.out.2.2.1
              by_cases hlt : j < items.length
              · exact absurd hlt (by omega)
              · obtain rfl : j = items.length := by omega
                rw [List.take_of_length_le (Nat.le_refl _)] at hok
                have hge : decide ((items.length : Int) < (il : Int)) = false := by rw [decide_eq_false_iff_not]; omega
                have HN := Lib.hid (And.intro h9 (And.intro hb9 (And.intro hok hq')))
                clear h9 hb9 hok hq' hj hlt
                rw [hll]
                rw [hll] at hge
                clear hll
                go_wp2_with fail
                go_roundw
                case rel => exact ⟨1, q', by decide, rfl, HN.out.2.2.2, .inr (.inl ⟨rfl, HN.out.2.2.1⟩), HN.out.1, HN.out.2.1⟩
                case measure => simp [intOf]
          · have HA := Lib.hid (And.intro hq (And.intro h8 (And.intro hb8 h9)))
            clear h8 hb8 h9
            go_wp2_with fail
            clear ca0 ca1
            go_loopw [156] (DiRel w gp G rest deep q) (fun i _ => rest.length - (intOf i).toNat)
            case atStart => exact ⟨0, q, Nat.zero_le _, rfl, HA.out.1, by rw [List.take_zero]; unfold okDs; rfl, HA.out.2.1, HA.out.2.2.1⟩
            case round =>
              obtain ⟨j, q', hj, rfl, hq', hok, h9, hb9⟩ := hrel
              have hll := HG.out.2.2.2.1
              by_cases hlt : j < rest.length
              · exact absurd hlt (by omega)
              · obtain rfl : j = rest.length := by omega
                rw [List.take_of_length_le (Nat.le_refl _)] at hok
                have hge : decide ((rest.length : Int) < (rl : Int)) = false := by rw [decide_eq_false_iff_not]; omega
                have HN := Lib.hid (And.intro h9 (And.intro hb9 (And.intro hok hq')))
                clear h9 hb9 hok hq' hj hlt
                rw [hll]
                rw [hll] at hge
                clear hll
                go_wp2_with fail
                go_roundw
                case rel => exact ⟨2, q', by decide, rfl, HN.out.2.2.2, .inr (.inr ⟨rfl, q, HA.out.2.2.2, HN.out.2.2.1⟩), HN.out.1, HN.out.2.1⟩
                case measure => simp [intOf]
          · have hyes : okD (.mk 1 0 B mag text items rest) deep p = some q := by
              unfold okD
              rw [if_neg HIF.out, h9]
              exact h10
            have HA := Lib.hid (And.intro h8 (And.intro hb8 hyes))
            clear h8 hb8 h9 h10 hyes ca0 ca1
            go_wp2_with fail
            go_ret
            rw [HA.out.2.2]
            refine ⟨q, rfl, fun q' h => (by cases h; rfl), ?_, HA.out.2.1⟩
            have h14 := HA.out.1
            rw [HGG.out.1] at h14
            exact (h14.perm (show _ = (blk ga _ * blk g _) * (blk gp _ * R) by ac_rfl)).right
set_option maxRecDepth 100000 in
set_option maxHeartbeats 8000000 in
theorem datum_step4 (k n : Int) (neg : Bool) (mag : List Int) (text : ByteArray) (items rest : List Dm) (ml il rl : Nat) (hk0 : k = 4) (hml : mag.length = ml) (hil : items.length = il) (hrl : rest.length = rl) (hsz : ml ≤ 67108864 ∧ il ≤ 67108864 ∧ rl ≤ 67108864) (deep : Int) (hdp : 0 ≤ deep ∧ deep ≤ 100)
    (hP : 0 < deep → ∀ d ∈ items, DatumAt d (deep - 1)) (hP2 : 0 < deep → ∀ d ∈ rest, DatumAt d (deep - 1)) (w : World) (R : HP) (gp : Nat) (p : Int) (hp : 0 ≤ p ∧ p ≤ 20000)
    (am : Option Addr) (cm : Nat) (ai : Option Addr) (ci : Nat) (ar : Option Addr) (cr : Nat)
    (hs : sat w (blk gp (.cells #[.int .i64 p] 3 (0, 0)) * R)) (hd : DK R (.mk k n neg mag text items rest) [.int .i64 k, .int .i64 n, .bool neg, .slice am ml cm, .string text, .slice ai il ci, .slice ar rl cr]) :
    Calls Try.prog 45 #[.agg #[.int .i64 k, .int .i64 n, .bool neg, .slice am ml cm, .string text, .slice ai il ci, .slice ar rl cr], .int .i64 deep, .pointer (some ⟨gp, 0, none⟩)] w (DaPost gp R (okD (.mk k n neg mag text items rest) deep p) w) := by
  have HK0 := Lib.hid hk0
  clear hk0
  have h1 : sat (w.alloc (dmO [.int .i64 k, .int .i64 n, .bool neg, .slice am ml cm, .string text, .slice ai il ci, .slice ar rl cr])) (blk gp (.cells #[.int .i64 p] 3 (0, 0)) * (blk w.heap.size (dmO [.int .i64 k, .int .i64 n, .bool neg, .slice am ml cm, .string text, .slice ai il ci, .slice ar rl cr]) * R)) := (hs.alloc (dmO [.int .i64 k, .int .i64 n, .bool neg, .slice am ml cm, .string text, .slice ai il ci, .slice ar rl cr])).perm (by ac_rfl)
  have hb1 := Below.zero_alloc w (dmO [.int .i64 k, .int .i64 n, .bool neg, .slice am ml cm, .string text, .slice ai il ci, .slice ar rl cr])
  obtain ⟨g, hg⟩ : ∃ g, w.heap.size = g := ⟨_, rfl⟩
  rw [hg] at h1
  have p0 := (h1.left.cell 0).trans (show _ = some (Value.int .i64 p) from rfl)
  have pf := h1.left.frozen 0
  have h2 : sat ((w.alloc (dmO [.int .i64 k, .int .i64 n, .bool neg, .slice am ml cm, .string text, .slice ai il ci, .slice ar rl cr])).setCell ⟨gp, 0, none⟩ (.int .i64 (p + 1))) (blk gp (.cells #[.int .i64 (p + 1)] 3 (0, 0)) * (blk g (dmO [.int .i64 k, .int .i64 n, .bool neg, .slice am ml cm, .string text, .slice ai il ci, .slice ar rl cr]) * R)) := h1.setCell (off := 0) _
  have hb2 := hb1.setCell (p := ⟨gp, 0, none⟩) (Nat.zero_le _) (.int .i64 (p + 1))
  have g0 : IntKind.i64.wrap (p + 1) = p + 1 := IntWalk.i64_in _ (by omega)
  have HG := Lib.hid (And.intro hg (And.intro hml (And.intro hil (And.intro hrl (And.intro hP (And.intro hP2 hd))))))
  have H1 := Lib.hid (And.intro h2 hb2)
  clear hs h1 hb1 h2 hb2 hml hil hrl hP hP2 hd
  go_enter Try.func45, Try.ntmps45
  go_upto_region 1 with (fail)
  clear hg
  generalize w.alloc (dmO [.int .i64 k, .int .i64 n, .bool neg, .slice am ml cm, .string text, .slice ai il ci, .slice ar rl cr]) = w1 at *
  go_upto_region 2 with (fail)
  generalize w1.setCell ⟨gp, 0, none⟩ (.int .i64 (p + 1)) = w2 at *
  clear p0 pf
  have p0 := (H1.out.1.left.cell 0).trans (show _ = some (Value.int .i64 (p + 1)) from rfl)
  have hbad : (deep = 0 ∨ 20000 < p + 1 ∨ ¬ ShapeD (.mk k n neg mag text items rest)) → ∀ w', sat w' (blk gp (.cells #[.int .i64 (p + 1)] 3 (0, 0)) * R) → Below 0 w w' → DaPost gp R (okD (.mk k n neg mag text items rest) deep p) w (.returned (.bool false)) w' := by
    intro hc w' h' hb'
    have e : okD (.mk k n neg mag text items rest) deep p = none := by unfold okD; rw [if_pos hc]
    rw [e]
    exact ⟨p + 1, rfl, fun q' h => (by cases h), h', hb'⟩
  have H2 : sat w2 (blk gp (.cells #[.int .i64 (p + 1)] 3 (0, 0)) * R) := (H1.out.1.perm (show _ = blk g _ * (blk gp _ * R) by ac_rfl)).right
  have HB := Lib.hid (And.intro hbad H2)
  clear hbad H2
  by_cases hd0 : deep = 0
  · subst hd0
    go_wp2_with fail
    go_ret
    exact HB.out.1 (.inl (by trivial)) _ HB.out.2 H1.out.2
  · have ed0 : (deep == 0) = false := by simp [hd0]
    by_cases hp2 : p + 1 > 20000
    · have ep2 : decide (p + 1 > 20000) = true := by simp; omega
      go_wp2_with fail
      go_ret
      exact HB.out.1 (.inr (.inl (by omega))) _ HB.out.2 H1.out.2
    · have ep2 : decide (p + 1 > 20000) = false := by simp; omega
      go_upto_region 4 with (fail)
      have c0 := (H1.out.1.right.left.cell 0).trans (show _ = some (Value.int .i64 k) from rfl)
      have c1 := (H1.out.1.right.left.cell 1).trans (show _ = some (Value.int .i64 n) from rfl)
      have c2 := (H1.out.1.right.left.cell 2).trans (show _ = some (Value.bool neg) from rfl)
      have c3 := (H1.out.1.right.left.cell 3).trans (show _ = some (Value.slice am ml cm) from rfl)
      have c4 := (H1.out.1.right.left.cell 4).trans (show _ = some (Value.string text) from rfl)
      have c5 := (H1.out.1.right.left.cell 5).trans (show _ = some (Value.slice ai il ci) from rfl)
      have c6 := (H1.out.1.right.left.cell 6).trans (show _ = some (Value.slice ar rl cr) from rfl)
      clear hd0 hp2
      have k4 := HK0.out
      subst k4
      cases neg with
      | true =>
        go_wp2_with fail
        go_ret
        exact HB.out.1 (.inr (.inr (fun hS => absurd ((shape_ask hS).1 (by decide)).1 (by decide)))) _ HB.out.2 H1.out.2
      | false =>
        by_cases hm0 : 0 < ml
        case pos =>
          have em0 : decide ((ml : Int) > 0) = true := by rw [decide_eq_true_eq]; omega
          go_wp2_with fail
          go_ret
          exact HB.out.1 (.inr (.inr (fun hS => ne_empty HG.out.2.1 hm0 ((shape_ask hS).1 (by decide)).2))) _ HB.out.2 H1.out.2
        have em0 : decide ((ml : Int) > 0) = false := by rw [decide_eq_false_iff_not]; omega
        by_cases hi0 : 0 < il
        case pos =>
          have ei0 : decide ((il : Int) > 0) = true := by rw [decide_eq_true_eq]; omega
          go_wp2_with fail
          go_ret
          exact HB.out.1 (.inr (.inr (fun hS => ne_empty HG.out.2.2.1 hi0 ((shape_ask hS).2.2.1 (by decide) (by decide))))) _ HB.out.2 H1.out.2
        have ei0 : decide ((il : Int) > 0) = false := by rw [decide_eq_false_iff_not]; omega
        by_cases hr0 : 0 < rl
        case pos =>
          have er0 : decide ((rl : Int) > 0) = true := by rw [decide_eq_true_eq]; omega
          go_wp2_with fail
          go_ret
          exact HB.out.1 (.inr (.inr (fun hS => ne_empty HG.out.2.2.2.1 hr0 ((shape_ask hS).2.2.2 (by decide))))) _ HB.out.2 H1.out.2
        have er0 : decide ((rl : Int) > 0) = false := by rw [decide_eq_false_iff_not]; omega
        have HQ4 := Lib.hid (show AskD 4 false mag text items rest from ⟨fun _ => ⟨rfl, eq_empty HG.out.2.1 hm0⟩, fun h _ => absurd rfl h, fun _ _ => eq_empty HG.out.2.2.1 hi0, fun _ => eq_empty HG.out.2.2.2.1 hr0⟩)
        by_cases hn0 : n = 0
        case neg =>
          have en0 : (n != 0) = true := by simp [hn0]
          go_wp2_with fail
          go_ret
          exact HB.out.1 (.inr (.inr (fun hS => hn0 (shape_more hS (by decide)).1))) _ HB.out.2 H1.out.2
        subst hn0
        obtain ⟨hmag, hlim⟩ : (∀ w, sat w R → MagW w am mag) ∧ ∀ x ∈ mag, 0 ≤ x ∧ x < 4294967296 := by
          obtain ⟨am', cm', ai', ci', ar', cr', he, ⟨_, _, h3, h4, _⟩, _⟩ := HG.out.2.2.2.2.2.2.open
          simp only [List.cons.injEq, Value.slice.injEq, and_true, true_and] at he
          obtain ⟨⟨rfl, _⟩, _⟩ := he
          exact ⟨h3, h4⟩
        have hcap : ml ≤ cm := by
          obtain ⟨am', cm', ai', ci', ar', cr', he, ⟨_, _, _, _, h5, _⟩, _⟩ := HG.out.2.2.2.2.2.2.open
          simp only [List.cons.injEq, Value.slice.injEq, and_true, true_and] at he
          obtain ⟨⟨_, _, rfl⟩, _⟩ := he
          have := HG.out.2.1
          omega
        have h3 := H1.out.1.alloc (.cells #[.bool false, .slice am ml cm] 57)
        have hnc : NumCells (blk gp (.cells #[.int .i64 (p + 1)] 3 (0, 0)) * (blk g (dmO [.int .i64 4, .int .i64 0, .bool false, .slice am ml cm, .string text, .slice ai il ci, .slice ar rl cr]) * R)) #[.bool false, .slice am ml cm] [(false, mag)] := by
          intro j nn l hj
          have hj0 := (List.getElem?_eq_some_iff.1 hj).1
          obtain rfl : j = 0 := by simp at hj0; omega
          simp only [List.getElem?_cons_zero, Option.some.injEq, Prod.mk.injEq] at hj
          obtain ⟨rfl, rfl⟩ := hj
          refine ⟨am, cm, rfl, ?_, ?_, fun w h => hmag w h.right.right, hlim, ?_⟩
          · rw [HG.out.2.1]; rfl
          · have := HG.out.2.1; omega
          · have := HG.out.2.1; unfold topB; omega
        have hA := num_Sum w2.heap.size 1 _ [(false, mag)] h3 hnc (by show 1 ≤ 2; decide)
        have hsum : sumI [(false, mag)] = sgn false (valL mag) := by simp [sumI]
        rw [hsum] at hA
        have HM := Lib.hid (And.intro hmag (And.intro hlim (And.intro hcap (Below.zero_alloc w2 (.cells #[.bool false, .slice am ml cm] 57)))))
        clear hmag hlim hcap h3 hnc hsum
        go_wp2_with fail
        refine hA.mono ?_
        clear hA
        rintro e w3 ⟨sl, rfl, h4, hb4⟩
        rw [sgn_abs] at h4
        obtain ⟨so, sc, rfl⟩ := own_val h4
        obtain ⟨B, hB⟩ : ∃ B, decide (sgn false (valL mag) < 0) = B := ⟨_, rfl⟩
        obtain ⟨L, hL⟩ : ∃ L, (limbsOf (valL mag)).length = L := ⟨_, rfl⟩
        rw [hB, hL]
        have h5 := h4.alloc (.cells #[.bool B, .slice so L sc] 57)
        have hb5 := ((H1.out.2.trans HM.out.2.2.2).trans hb4).trans (Below.zero_alloc w3 (.cells #[.bool B, .slice so L sc] 57))
        rw [hL] at h5
        have hE := fun m => slices_equal ((w3.alloc (.cells #[.bool B, .slice so L sc] 57)).drewN m) so am sc cm (limbsOf (valL mag)) mag (by
          exact mag_own (l := limbsOf (valL mag)) (h5.drewN m).right) (HM.out.1 _ ((h5.drewN m).right.right.right.right)) (by
            have := limbsOf_len_le HM.out.2.1
            have := HG.out.2.1
            omega) (by have := HG.out.2.1; omega)
        rw [hL, HG.out.2.1] at hE
        obtain ⟨E, hE2⟩ : ∃ E, decide (limbsOf (valL mag) = mag) = E := ⟨_, rfl⟩
        rw [hE2] at hE
        have d0 : (w3.alloc (.cells #[.bool B, .slice so L sc] 57)).cell? ⟨w3.heap.size, 0, none⟩ = some (.bool B) := (h5.left.cell 0).trans rfl
        have d1 : (w3.alloc (.cells #[.bool B, .slice so L sc] 57)).cell? ⟨w3.heap.size, 1, none⟩ = some (.slice so L sc) := (h5.left.cell 1).trans rfl
        have h5G : sat (w3.alloc (.cells #[.bool B, .slice so L sc] 57)) (blk gp (.cells #[.int .i64 (p + 1)] 3 (0, 0)) * (blk g (dmO [.int .i64 4, .int .i64 0, .bool false, .slice am ml cm, .string text, .slice ai il ci, .slice ar rl cr]) * R)) := h5.right.right
        have c0 := (h5G.right.left.cell 0).trans (show _ = some (Value.int .i64 4) from rfl)
        have c2 := (h5G.right.left.cell 2).trans (show _ = some (Value.bool false) from rfl)
        have c3 := (h5G.right.left.cell 3).trans (show _ = some (Value.slice am ml cm) from rfl)
        have c5 := (h5G.right.left.cell 5).trans (show _ = some (Value.slice ai il ci) from rfl)
        have c6 := (h5G.right.left.cell 6).trans (show _ = some (Value.slice ar rl cr) from rfl)
        have p0 := (h5G.left.cell 0).trans (show _ = some (Value.int .i64 (p + 1)) from rfl)
        have HE := Lib.hid (And.intro hB (And.intro hE2 (And.intro hE (And.intro h5G hb5))))
        clear hB hE2 hE h5 h4 hb4 hb5 h5G
        go_upto_region 21 with (fail)
        generalize w3.alloc (.cells #[.bool B, .slice so L sc] 57) = w4 at *
        generalize w3.heap.size = gs at *
        cases B with
        | true =>
          have hS : ¬ ShapeD (.mk 4 0 false mag text items rest) := fun h => canon_no (by rw [HE.out.1]; decide) ⟨(shape_more h (by decide)).2.1, (shape_more h (by decide)).2.2.1⟩
          have HS := Lib.hid hS
          clear hS
          go_wp2_with fail
          go_ret
          exact HB.out.1 (.inr (.inr HS.out)) _ ((HE.out.2.2.2.1.perm (show _ = blk g _ * (blk gp _ * R) by ac_rfl)).right) HE.out.2.2.2.2
        | false =>
          cases E with
          | false =>
            have hS : ¬ ShapeD (.mk 4 0 false mag text items rest) := fun h => (of_decide_eq_false HE.out.2.1) (shape_more h (by decide)).2.1
            have HS := Lib.hid hS
            clear hS
            go_wp2_with fail
            refine (HE.out.2.2.1 0).mono ?_
            rintro e w' ⟨rfl, j, rfl⟩
            go_wp2_with fail
            go_ret
            exact HB.out.1 (.inr (.inr HS.out)) _ (((HE.out.2.2.2.1.drewN j).perm (show _ = blk g _ * (blk gp _ * R) by ac_rfl)).right) (HE.out.2.2.2.2.trans (drewN_below0 _ _))
          | true =>
            have hcan := canon_sign HE.out.1 (of_decide_eq_true HE.out.2.1)
            have HCN := Lib.hid hcan
            clear hcan
            go_wp2_with fail
            refine (HE.out.2.2.1 0).mono ?_
            rintro e w' ⟨rfl, j0, rfl⟩
            go_upto_region 23 with (fail)
            have h6 := HE.out.2.2.2.1.drewN j0
            have hb6 := HE.out.2.2.2.2.trans (drewN_below0 w4 j0)
            have er1 : decide ((rl : Int) > 1) = false := by rw [decide_eq_false_iff_not]; omega
            have er2 : ((rl : Int) == 1) = false := by rw [beq_eq_false_iff_ne]; omega
            have hshape : ShapeD (.mk 4 0 false mag text items rest) := by
              obtain ⟨q1, q2, q3, q4⟩ := HQ4.out
              unfold ShapeD
              exact ⟨q1, q2, q3, q4, .inr ⟨by decide, rfl, HCN.out.1, HCN.out.2, .inl (eq_empty HG.out.2.2.2.1 hr0)⟩⟩
            have hdks : DKs R items ai 0 ∧ DKs R rest ar 0 := by
              obtain ⟨am', cm', ai', ci', ar', cr', he, _, h7, h8⟩ := HG.out.2.2.2.2.2.2.open
              simp only [List.cons.injEq, Value.slice.injEq, and_true, true_and] at he
              obtain ⟨_, ⟨rfl, _⟩, rfl, _⟩ := he
              exact ⟨h7, h8⟩
            have hdpos : 0 < deep := by simp at ed0; omega
            have hp20 : p + 1 ≤ 20000 := by simp at ep2; omega
            have hif : ¬ (deep = 0 ∨ 20000 < p + 1 ∨ ¬ ShapeD (.mk 4 0 false mag text items rest)) := by
              rintro (h | h | h)
              · omega
              · omega
              · exact h hshape
            have HD := Lib.hid hdks
            have HDP := Lib.hid hdpos
            have HIF := Lib.hid hif
            have h7 := h6.alloc (.cells #[.slice ai il ci, .slice ar rl cr] 35)
            have hb7 := hb6.trans (Below.zero_alloc (w4.drewN j0) (.cells #[.slice ai il ci, .slice ar rl cr] 35))
            obtain ⟨ga, hga⟩ : ∃ ga, (w4.drewN j0).heap.size = ga := ⟨_, rfl⟩
            rw [hga] at h7
            obtain ⟨G, hG⟩ : ∃ G : HP, G = blk ga (.cells #[.slice ai il ci, .slice ar rl cr] 35 (0, 0)) * (blk g (dmO [.int .i64 4, .int .i64 0, .bool false, .slice am ml cm, .string text, .slice ai il ci, .slice ar rl cr]) * R) := ⟨_, rfl⟩
            have hGR : ∀ w, sat w G → sat w R := fun w h => by rw [hG] at h; exact h.right.right
            have hGa : ∀ w, sat w G → w.cell? ⟨ga, 0, none⟩ = some (.slice ai il ci) ∧ w.cell? ⟨ga, 1, none⟩ = some (.slice ar rl cr) := fun w h => by
              rw [hG] at h
              exact ⟨(h.left.cell 0).trans rfl, (h.left.cell 1).trans rfl⟩
            have h8 : sat ((w4.drewN j0).alloc (.cells #[.slice ai il ci, .slice ar rl cr] 35)) (blk gp (.cells #[.int .i64 (p + 1)] 3 (0, 0)) * G) := by rw [hG]; exact h7.perm (by ac_rfl)
            have HGG := Lib.hid (And.intro hG (And.intro hGR hGa))
            have H8 := Lib.hid (And.intro h8 hb7)
            clear hG hGR hGa h7 h8 hb7 hdks hdpos hif hshape h6 hb6
            have c5 : (w4.drewN j0).cell? ⟨g, 5, none⟩ = some (.slice ai il ci) := c5
            have c6 : (w4.drewN j0).cell? ⟨g, 6, none⟩ = some (.slice ar rl cr) := c6
            have hgs : w4.heap.size = ga := hga
            go_wp2_with fail
            go_loopw [150] (DoRel w gp G items rest deep (p + 1)) (fun i _ => 2 - (intOf i).toNat)
            case atStart => exact ⟨0, p + 1, by decide, rfl, by omega, .inl ⟨rfl, rfl⟩, H8.out.1, H8.out.2⟩
            case round =>
              obtain ⟨a, q, ha, rfl, hq, hst, h8, hb8⟩ := hrel
              obtain ⟨ca0, ca1⟩ := HGG.out.2.2 wr h8.right
              rcases hst with ⟨rfl, rfl⟩ | ⟨rfl, h9⟩ | ⟨rfl, r, h9, h10⟩
              · have HA := Lib.hid (And.intro hq (And.intro h8 (And.intro hb8 True.intro)))
                clear h8 hb8
                go_wp2_with fail
                clear ca0 ca1
                go_loopw [156] (DiRel w gp G items deep (p + 1)) (fun i _ => items.length - (intOf i).toNat)
                case atStart => exact ⟨0, (p + 1), Nat.zero_le _, rfl, HA.out.1, by rw [List.take_zero]; unfold okDs; rfl, HA.out.2.1, HA.out.2.2.1⟩
                case round =>
                  obtain ⟨j, q', hj, rfl, hq', hok, h9, hb9⟩ := hrel
                  have hll := HG.out.2.2.1
                  by_cases hlt : j < items.length
                  · exact absurd hlt (by omega)
                  · obtain rfl : j = items.length := by omega
                    rw [List.take_of_length_le (Nat.le_refl _)] at hok
                    have hge : decide ((items.length : Int) < (il : Int)) = false := by rw [decide_eq_false_iff_not]; omega
                    have HN := Lib.hid (And.intro h9 (And.intro hb9 (And.intro hok hq')))
                    clear h9 hb9 hok hq' hj hlt
                    rw [hll]
                    rw [hll] at hge
                    clear hll
                    go_wp2_with fail
                    go_roundw
                    case rel => exact ⟨1, q', by decide, rfl, HN.out.2.2.2, .inr (.inl ⟨rfl, HN.out.2.2.1⟩), HN.out.1, HN.out.2.1⟩
                    case measure => simp [intOf]
              · have HA := Lib.hid (And.intro hq (And.intro h8 (And.intro hb8 h9)))
                clear h8 hb8 h9
                go_wp2_with fail
                clear ca0 ca1
                go_loopw [156] (DiRel w gp G rest deep q) (fun i _ => rest.length - (intOf i).toNat)
                case atStart => exact ⟨0, q, Nat.zero_le _, rfl, HA.out.1, by rw [List.take_zero]; unfold okDs; rfl, HA.out.2.1, HA.out.2.2.1⟩
                case round =>
                  obtain ⟨j, q', hj, rfl, hq', hok, h9, hb9⟩ := hrel
                  have hll := HG.out.2.2.2.1
                  by_cases hlt : j < rest.length
                  · exact absurd hlt (by omega)
                  · obtain rfl : j = rest.length := by omega
                    rw [List.take_of_length_le (Nat.le_refl _)] at hok
                    have hge : decide ((rest.length : Int) < (rl : Int)) = false := by rw [decide_eq_false_iff_not]; omega
                    have HN := Lib.hid (And.intro h9 (And.intro hb9 (And.intro hok hq')))
                    clear h9 hb9 hok hq' hj hlt
                    rw [hll]
                    rw [hll] at hge
                    clear hll
                    go_wp2_with fail
                    go_roundw
                    case rel => exact ⟨2, q', by decide, rfl, HN.out.2.2.2, .inr (.inr ⟨rfl, q, HA.out.2.2.2, HN.out.2.2.1⟩), HN.out.1, HN.out.2.1⟩
                    case measure => simp [intOf]
              · have hyes : okD (.mk 4 0 false mag text items rest) deep p = some q := by
                  unfold okD
                  rw [if_neg HIF.out, h9]
                  exact h10
                have HA := Lib.hid (And.intro h8 (And.intro hb8 hyes))
                clear h8 hb8 h9 h10 hyes ca0 ca1
                go_wp2_with fail
                go_ret
                rw [HA.out.2.2]
                refine ⟨q, rfl, fun q' h => (by cases h; rfl), ?_, HA.out.2.1⟩
                have h14 := HA.out.1
                rw [HGG.out.1] at h14
                exact (h14.perm (show _ = (blk ga _ * blk g _) * (blk gp _ * R) by ac_rfl)).right
set_option maxRecDepth 100000 in
set_option maxHeartbeats 8000000 in
theorem datum_step8 (k n : Int) (neg : Bool) (mag : List Int) (text : ByteArray) (items rest : List Dm) (ml il rl : Nat) (hk0 : k = 8) (hml : mag.length = ml) (hil : items.length = il) (hrl : rest.length = rl) (hsz : ml ≤ 67108864 ∧ il ≤ 67108864 ∧ rl ≤ 67108864) (deep : Int) (hdp : 0 ≤ deep ∧ deep ≤ 100)
    (hP : 0 < deep → ∀ d ∈ items, DatumAt d (deep - 1)) (hP2 : 0 < deep → ∀ d ∈ rest, DatumAt d (deep - 1)) (w : World) (R : HP) (gp : Nat) (p : Int) (hp : 0 ≤ p ∧ p ≤ 20000)
    (am : Option Addr) (cm : Nat) (ai : Option Addr) (ci : Nat) (ar : Option Addr) (cr : Nat)
    (hs : sat w (blk gp (.cells #[.int .i64 p] 3 (0, 0)) * R)) (hd : DK R (.mk k n neg mag text items rest) [.int .i64 k, .int .i64 n, .bool neg, .slice am ml cm, .string text, .slice ai il ci, .slice ar rl cr]) :
    Calls Try.prog 45 #[.agg #[.int .i64 k, .int .i64 n, .bool neg, .slice am ml cm, .string text, .slice ai il ci, .slice ar rl cr], .int .i64 deep, .pointer (some ⟨gp, 0, none⟩)] w (DaPost gp R (okD (.mk k n neg mag text items rest) deep p) w) := by
  have HK0 := Lib.hid hk0
  clear hk0
  have h1 : sat (w.alloc (dmO [.int .i64 k, .int .i64 n, .bool neg, .slice am ml cm, .string text, .slice ai il ci, .slice ar rl cr])) (blk gp (.cells #[.int .i64 p] 3 (0, 0)) * (blk w.heap.size (dmO [.int .i64 k, .int .i64 n, .bool neg, .slice am ml cm, .string text, .slice ai il ci, .slice ar rl cr]) * R)) := (hs.alloc (dmO [.int .i64 k, .int .i64 n, .bool neg, .slice am ml cm, .string text, .slice ai il ci, .slice ar rl cr])).perm (by ac_rfl)
  have hb1 := Below.zero_alloc w (dmO [.int .i64 k, .int .i64 n, .bool neg, .slice am ml cm, .string text, .slice ai il ci, .slice ar rl cr])
  obtain ⟨g, hg⟩ : ∃ g, w.heap.size = g := ⟨_, rfl⟩
  rw [hg] at h1
  have p0 := (h1.left.cell 0).trans (show _ = some (Value.int .i64 p) from rfl)
  have pf := h1.left.frozen 0
  have h2 : sat ((w.alloc (dmO [.int .i64 k, .int .i64 n, .bool neg, .slice am ml cm, .string text, .slice ai il ci, .slice ar rl cr])).setCell ⟨gp, 0, none⟩ (.int .i64 (p + 1))) (blk gp (.cells #[.int .i64 (p + 1)] 3 (0, 0)) * (blk g (dmO [.int .i64 k, .int .i64 n, .bool neg, .slice am ml cm, .string text, .slice ai il ci, .slice ar rl cr]) * R)) := h1.setCell (off := 0) _
  have hb2 := hb1.setCell (p := ⟨gp, 0, none⟩) (Nat.zero_le _) (.int .i64 (p + 1))
  have g0 : IntKind.i64.wrap (p + 1) = p + 1 := IntWalk.i64_in _ (by omega)
  have HG := Lib.hid (And.intro hg (And.intro hml (And.intro hil (And.intro hrl (And.intro hP (And.intro hP2 hd))))))
  have H1 := Lib.hid (And.intro h2 hb2)
  clear hs h1 hb1 h2 hb2 hml hil hrl hP hP2 hd
  go_enter Try.func45, Try.ntmps45
  go_upto_region 1 with (fail)
  clear hg
  generalize w.alloc (dmO [.int .i64 k, .int .i64 n, .bool neg, .slice am ml cm, .string text, .slice ai il ci, .slice ar rl cr]) = w1 at *
  go_upto_region 2 with (fail)
  generalize w1.setCell ⟨gp, 0, none⟩ (.int .i64 (p + 1)) = w2 at *
  clear p0 pf
  have p0 := (H1.out.1.left.cell 0).trans (show _ = some (Value.int .i64 (p + 1)) from rfl)
  have hbad : (deep = 0 ∨ 20000 < p + 1 ∨ ¬ ShapeD (.mk k n neg mag text items rest)) → ∀ w', sat w' (blk gp (.cells #[.int .i64 (p + 1)] 3 (0, 0)) * R) → Below 0 w w' → DaPost gp R (okD (.mk k n neg mag text items rest) deep p) w (.returned (.bool false)) w' := by
    intro hc w' h' hb'
    have e : okD (.mk k n neg mag text items rest) deep p = none := by unfold okD; rw [if_pos hc]
    rw [e]
    exact ⟨p + 1, rfl, fun q' h => (by cases h), h', hb'⟩
  have H2 : sat w2 (blk gp (.cells #[.int .i64 (p + 1)] 3 (0, 0)) * R) := (H1.out.1.perm (show _ = blk g _ * (blk gp _ * R) by ac_rfl)).right
  have HB := Lib.hid (And.intro hbad H2)
  clear hbad H2
  by_cases hd0 : deep = 0
  · subst hd0
    go_wp2_with fail
    go_ret
    exact HB.out.1 (.inl (by trivial)) _ HB.out.2 H1.out.2
  · have ed0 : (deep == 0) = false := by simp [hd0]
    by_cases hp2 : p + 1 > 20000
    · have ep2 : decide (p + 1 > 20000) = true := by simp; omega
      go_wp2_with fail
      go_ret
      exact HB.out.1 (.inr (.inl (by omega))) _ HB.out.2 H1.out.2
    · have ep2 : decide (p + 1 > 20000) = false := by simp; omega
      go_upto_region 4 with (fail)
      have c0 := (H1.out.1.right.left.cell 0).trans (show _ = some (Value.int .i64 k) from rfl)
      have c1 := (H1.out.1.right.left.cell 1).trans (show _ = some (Value.int .i64 n) from rfl)
      have c2 := (H1.out.1.right.left.cell 2).trans (show _ = some (Value.bool neg) from rfl)
      have c3 := (H1.out.1.right.left.cell 3).trans (show _ = some (Value.slice am ml cm) from rfl)
      have c4 := (H1.out.1.right.left.cell 4).trans (show _ = some (Value.string text) from rfl)
      have c5 := (H1.out.1.right.left.cell 5).trans (show _ = some (Value.slice ai il ci) from rfl)
      have c6 := (H1.out.1.right.left.cell 6).trans (show _ = some (Value.slice ar rl cr) from rfl)
      clear hd0 hp2
      have k8 := HK0.out
      subst k8
      cases neg with
      | true =>
        go_wp2_with fail
        go_ret
        exact HB.out.1 (.inr (.inr (fun hS => absurd ((shape_ask hS).1 (by decide)).1 (by decide)))) _ HB.out.2 H1.out.2
      | false =>
        by_cases hm0 : 0 < ml
        case pos =>
          have em0 : decide ((ml : Int) > 0) = true := by rw [decide_eq_true_eq]; omega
          go_wp2_with fail
          go_ret
          exact HB.out.1 (.inr (.inr (fun hS => ne_empty HG.out.2.1 hm0 ((shape_ask hS).1 (by decide)).2))) _ HB.out.2 H1.out.2
        have em0 : decide ((ml : Int) > 0) = false := by rw [decide_eq_false_iff_not]; omega
        by_cases ht0 : text = noT
        case neg =>
          have et1 : ¬ (text.toList = []) := text_none ht0
          have et2 : (text.toList == []) = false := by rw [beq_eq_false_iff_ne]; exact et1
          go_wp2_with fail
          go_ret
          exact HB.out.1 (.inr (.inr (fun hS => ht0 ((shape_ask hS).2.1 (by decide) (by decide))))) _ HB.out.2 H1.out.2
        have et1 : text.toList = [] := by rw [ht0]; exact noT_list
        have HT0 := Lib.hid ht0
        clear ht0
        have et2 : (text.toList == []) = true := by rw [et1]; rfl
        by_cases hi0 : 0 < il
        case pos =>
          have ei0 : decide ((il : Int) > 0) = true := by rw [decide_eq_true_eq]; omega
          go_wp2_with fail
          go_ret
          exact HB.out.1 (.inr (.inr (fun hS => ne_empty HG.out.2.2.1 hi0 ((shape_ask hS).2.2.1 (by decide) (by decide))))) _ HB.out.2 H1.out.2
        have ei0 : decide ((il : Int) > 0) = false := by rw [decide_eq_false_iff_not]; omega
        by_cases hr0 : 0 < rl
        case pos =>
          have er0 : decide ((rl : Int) > 0) = true := by rw [decide_eq_true_eq]; omega
          go_wp2_with fail
          go_ret
          exact HB.out.1 (.inr (.inr (fun hS => ne_empty HG.out.2.2.2.1 hr0 ((shape_ask hS).2.2.2 (by decide))))) _ HB.out.2 H1.out.2
        have er0 : decide ((rl : Int) > 0) = false := by rw [decide_eq_false_iff_not]; omega
        have HQ4 := Lib.hid (show AskD 8 false mag text items rest from ⟨fun _ => ⟨rfl, eq_empty HG.out.2.1 hm0⟩, fun _ _ => HT0.out, fun _ _ => eq_empty HG.out.2.2.1 hi0, fun _ => eq_empty HG.out.2.2.2.1 hr0⟩)
        by_cases hn0 : n = 0
        case neg =>
          have en0 : (n != 0) = true := by simp [hn0]
          go_wp2_with fail
          go_ret
          exact HB.out.1 (.inr (.inr (fun hS => hn0 (shape_more hS (by decide)).1))) _ HB.out.2 H1.out.2
        subst hn0
        obtain ⟨hmag, hlim⟩ : (∀ w, sat w R → MagW w am mag) ∧ ∀ x ∈ mag, 0 ≤ x ∧ x < 4294967296 := by
          obtain ⟨am', cm', ai', ci', ar', cr', he, ⟨_, _, h3, h4, _⟩, _⟩ := HG.out.2.2.2.2.2.2.open
          simp only [List.cons.injEq, Value.slice.injEq, and_true, true_and] at he
          obtain ⟨⟨rfl, _⟩, _⟩ := he
          exact ⟨h3, h4⟩
        have hcap : ml ≤ cm := by
          obtain ⟨am', cm', ai', ci', ar', cr', he, ⟨_, _, _, _, h5, _⟩, _⟩ := HG.out.2.2.2.2.2.2.open
          simp only [List.cons.injEq, Value.slice.injEq, and_true, true_and] at he
          obtain ⟨⟨_, _, rfl⟩, _⟩ := he
          have := HG.out.2.1
          omega
        have h3 := H1.out.1.alloc (.cells #[.bool false, .slice am ml cm] 57)
        have hnc : NumCells (blk gp (.cells #[.int .i64 (p + 1)] 3 (0, 0)) * (blk g (dmO [.int .i64 8, .int .i64 0, .bool false, .slice am ml cm, .string text, .slice ai il ci, .slice ar rl cr]) * R)) #[.bool false, .slice am ml cm] [(false, mag)] := by
          intro j nn l hj
          have hj0 := (List.getElem?_eq_some_iff.1 hj).1
          obtain rfl : j = 0 := by simp at hj0; omega
          simp only [List.getElem?_cons_zero, Option.some.injEq, Prod.mk.injEq] at hj
          obtain ⟨rfl, rfl⟩ := hj
          refine ⟨am, cm, rfl, ?_, ?_, fun w h => hmag w h.right.right, hlim, ?_⟩
          · rw [HG.out.2.1]; rfl
          · have := HG.out.2.1; omega
          · have := HG.out.2.1; unfold topB; omega
        have hA := num_Sum w2.heap.size 1 _ [(false, mag)] h3 hnc (by show 1 ≤ 2; decide)
        have hsum : sumI [(false, mag)] = sgn false (valL mag) := by simp [sumI]
        rw [hsum] at hA
        have HM := Lib.hid (And.intro hmag (And.intro hlim (And.intro hcap (Below.zero_alloc w2 (.cells #[.bool false, .slice am ml cm] 57)))))
        clear hmag hlim hcap h3 hnc hsum
        go_wp2_with fail
        refine hA.mono ?_
        clear hA
        rintro e w3 ⟨sl, rfl, h4, hb4⟩
        rw [sgn_abs] at h4
        obtain ⟨so, sc, rfl⟩ := own_val h4
        obtain ⟨B, hB⟩ : ∃ B, decide (sgn false (valL mag) < 0) = B := ⟨_, rfl⟩
        obtain ⟨L, hL⟩ : ∃ L, (limbsOf (valL mag)).length = L := ⟨_, rfl⟩
        rw [hB, hL]
        have h5 := h4.alloc (.cells #[.bool B, .slice so L sc] 57)
        have hb5 := ((H1.out.2.trans HM.out.2.2.2).trans hb4).trans (Below.zero_alloc w3 (.cells #[.bool B, .slice so L sc] 57))
        rw [hL] at h5
        have hE := fun m => slices_equal ((w3.alloc (.cells #[.bool B, .slice so L sc] 57)).drewN m) so am sc cm (limbsOf (valL mag)) mag (by
          exact mag_own (l := limbsOf (valL mag)) (h5.drewN m).right) (HM.out.1 _ ((h5.drewN m).right.right.right.right)) (by
            have := limbsOf_len_le HM.out.2.1
            have := HG.out.2.1
            omega) (by have := HG.out.2.1; omega)
        rw [hL, HG.out.2.1] at hE
        obtain ⟨E, hE2⟩ : ∃ E, decide (limbsOf (valL mag) = mag) = E := ⟨_, rfl⟩
        rw [hE2] at hE
        have d0 : (w3.alloc (.cells #[.bool B, .slice so L sc] 57)).cell? ⟨w3.heap.size, 0, none⟩ = some (.bool B) := (h5.left.cell 0).trans rfl
        have d1 : (w3.alloc (.cells #[.bool B, .slice so L sc] 57)).cell? ⟨w3.heap.size, 1, none⟩ = some (.slice so L sc) := (h5.left.cell 1).trans rfl
        have h5G : sat (w3.alloc (.cells #[.bool B, .slice so L sc] 57)) (blk gp (.cells #[.int .i64 (p + 1)] 3 (0, 0)) * (blk g (dmO [.int .i64 8, .int .i64 0, .bool false, .slice am ml cm, .string text, .slice ai il ci, .slice ar rl cr]) * R)) := h5.right.right
        have c0 := (h5G.right.left.cell 0).trans (show _ = some (Value.int .i64 8) from rfl)
        have c2 := (h5G.right.left.cell 2).trans (show _ = some (Value.bool false) from rfl)
        have c3 := (h5G.right.left.cell 3).trans (show _ = some (Value.slice am ml cm) from rfl)
        have c5 := (h5G.right.left.cell 5).trans (show _ = some (Value.slice ai il ci) from rfl)
        have c6 := (h5G.right.left.cell 6).trans (show _ = some (Value.slice ar rl cr) from rfl)
        have p0 := (h5G.left.cell 0).trans (show _ = some (Value.int .i64 (p + 1)) from rfl)
        have HE := Lib.hid (And.intro hB (And.intro hE2 (And.intro hE (And.intro h5G hb5))))
        clear hB hE2 hE h5 h4 hb4 hb5 h5G
        go_upto_region 21 with (fail)
        generalize w3.alloc (.cells #[.bool B, .slice so L sc] 57) = w4 at *
        generalize w3.heap.size = gs at *
        cases B with
        | true =>
          have hS : ¬ ShapeD (.mk 8 0 false mag text items rest) := fun h => canon_no (by rw [HE.out.1]; decide) ⟨(shape_more h (by decide)).2.1, (shape_more h (by decide)).2.2.1⟩
          have HS := Lib.hid hS
          clear hS
          go_wp2_with fail
          go_ret
          exact HB.out.1 (.inr (.inr HS.out)) _ ((HE.out.2.2.2.1.perm (show _ = blk g _ * (blk gp _ * R) by ac_rfl)).right) HE.out.2.2.2.2
        | false =>
          cases E with
          | false =>
            have hS : ¬ ShapeD (.mk 8 0 false mag text items rest) := fun h => (of_decide_eq_false HE.out.2.1) (shape_more h (by decide)).2.1
            have HS := Lib.hid hS
            clear hS
            go_wp2_with fail
            refine (HE.out.2.2.1 0).mono ?_
            rintro e w' ⟨rfl, j, rfl⟩
            go_wp2_with fail
            go_ret
            exact HB.out.1 (.inr (.inr HS.out)) _ (((HE.out.2.2.2.1.drewN j).perm (show _ = blk g _ * (blk gp _ * R) by ac_rfl)).right) (HE.out.2.2.2.2.trans (drewN_below0 _ _))
          | true =>
            have hcan := canon_sign HE.out.1 (of_decide_eq_true HE.out.2.1)
            have HCN := Lib.hid hcan
            clear hcan
            go_wp2_with fail
            refine (HE.out.2.2.1 0).mono ?_
            rintro e w' ⟨rfl, j0, rfl⟩
            go_upto_region 23 with (fail)
            have h6 := HE.out.2.2.2.1.drewN j0
            have hb6 := HE.out.2.2.2.2.trans (drewN_below0 w4 j0)
            have er1 : decide ((rl : Int) > 1) = false := by rw [decide_eq_false_iff_not]; omega
            have er2 : ((rl : Int) == 1) = false := by rw [beq_eq_false_iff_ne]; omega
            have hshape : ShapeD (.mk 8 0 false mag text items rest) := by
              obtain ⟨q1, q2, q3, q4⟩ := HQ4.out
              unfold ShapeD
              exact ⟨q1, q2, q3, q4, .inr ⟨by decide, rfl, HCN.out.1, HCN.out.2, .inl (eq_empty HG.out.2.2.2.1 hr0)⟩⟩
            have hdks : DKs R items ai 0 ∧ DKs R rest ar 0 := by
              obtain ⟨am', cm', ai', ci', ar', cr', he, _, h7, h8⟩ := HG.out.2.2.2.2.2.2.open
              simp only [List.cons.injEq, Value.slice.injEq, and_true, true_and] at he
              obtain ⟨_, ⟨rfl, _⟩, rfl, _⟩ := he
              exact ⟨h7, h8⟩
            have hdpos : 0 < deep := by simp at ed0; omega
            have hp20 : p + 1 ≤ 20000 := by simp at ep2; omega
            have hif : ¬ (deep = 0 ∨ 20000 < p + 1 ∨ ¬ ShapeD (.mk 8 0 false mag text items rest)) := by
              rintro (h | h | h)
              · omega
              · omega
              · exact h hshape
            have HD := Lib.hid hdks
            have HDP := Lib.hid hdpos
            have HIF := Lib.hid hif
            have h7 := h6.alloc (.cells #[.slice ai il ci, .slice ar rl cr] 35)
            have hb7 := hb6.trans (Below.zero_alloc (w4.drewN j0) (.cells #[.slice ai il ci, .slice ar rl cr] 35))
            obtain ⟨ga, hga⟩ : ∃ ga, (w4.drewN j0).heap.size = ga := ⟨_, rfl⟩
            rw [hga] at h7
            obtain ⟨G, hG⟩ : ∃ G : HP, G = blk ga (.cells #[.slice ai il ci, .slice ar rl cr] 35 (0, 0)) * (blk g (dmO [.int .i64 8, .int .i64 0, .bool false, .slice am ml cm, .string text, .slice ai il ci, .slice ar rl cr]) * R) := ⟨_, rfl⟩
            have hGR : ∀ w, sat w G → sat w R := fun w h => by rw [hG] at h; exact h.right.right
            have hGa : ∀ w, sat w G → w.cell? ⟨ga, 0, none⟩ = some (.slice ai il ci) ∧ w.cell? ⟨ga, 1, none⟩ = some (.slice ar rl cr) := fun w h => by
              rw [hG] at h
              exact ⟨(h.left.cell 0).trans rfl, (h.left.cell 1).trans rfl⟩
            have h8 : sat ((w4.drewN j0).alloc (.cells #[.slice ai il ci, .slice ar rl cr] 35)) (blk gp (.cells #[.int .i64 (p + 1)] 3 (0, 0)) * G) := by rw [hG]; exact h7.perm (by ac_rfl)
            have HGG := Lib.hid (And.intro hG (And.intro hGR hGa))
            have H8 := Lib.hid (And.intro h8 hb7)
            clear hG hGR hGa h7 h8 hb7 hdks hdpos hif hshape h6 hb6
            have c5 : (w4.drewN j0).cell? ⟨g, 5, none⟩ = some (.slice ai il ci) := c5
            have c6 : (w4.drewN j0).cell? ⟨g, 6, none⟩ = some (.slice ar rl cr) := c6
            have hgs : w4.heap.size = ga := hga
            go_wp2_with fail
            go_loopw [150] (DoRel w gp G items rest deep (p + 1)) (fun i _ => 2 - (intOf i).toNat)
            case atStart => exact ⟨0, p + 1, by decide, rfl, by omega, .inl ⟨rfl, rfl⟩, H8.out.1, H8.out.2⟩
            case round =>
              obtain ⟨a, q, ha, rfl, hq, hst, h8, hb8⟩ := hrel
              obtain ⟨ca0, ca1⟩ := HGG.out.2.2 wr h8.right
              rcases hst with ⟨rfl, rfl⟩ | ⟨rfl, h9⟩ | ⟨rfl, r, h9, h10⟩
              · have HA := Lib.hid (And.intro hq (And.intro h8 (And.intro hb8 True.intro)))
                clear h8 hb8
                go_wp2_with fail
                clear ca0 ca1
                go_loopw [156] (DiRel w gp G items deep (p + 1)) (fun i _ => items.length - (intOf i).toNat)
                case atStart => exact ⟨0, (p + 1), Nat.zero_le _, rfl, HA.out.1, by rw [List.take_zero]; unfold okDs; rfl, HA.out.2.1, HA.out.2.2.1⟩
                case round =>
                  obtain ⟨j, q', hj, rfl, hq', hok, h9, hb9⟩ := hrel
                  have hll := HG.out.2.2.1
                  by_cases hlt : j < items.length
                  · exact absurd hlt (by omega)
                  · obtain rfl : j = items.length := by omega
                    rw [List.take_of_length_le (Nat.le_refl _)] at hok
                    have hge : decide ((items.length : Int) < (il : Int)) = false := by rw [decide_eq_false_iff_not]; omega
                    have HN := Lib.hid (And.intro h9 (And.intro hb9 (And.intro hok hq')))
                    clear h9 hb9 hok hq' hj hlt
                    rw [hll]
                    rw [hll] at hge
                    clear hll
                    go_wp2_with fail
                    go_roundw
                    case rel => exact ⟨1, q', by decide, rfl, HN.out.2.2.2, .inr (.inl ⟨rfl, HN.out.2.2.1⟩), HN.out.1, HN.out.2.1⟩
                    case measure => simp [intOf]
              · have HA := Lib.hid (And.intro hq (And.intro h8 (And.intro hb8 h9)))
                clear h8 hb8 h9
                go_wp2_with fail
                clear ca0 ca1
                go_loopw [156] (DiRel w gp G rest deep q) (fun i _ => rest.length - (intOf i).toNat)
                case atStart => exact ⟨0, q, Nat.zero_le _, rfl, HA.out.1, by rw [List.take_zero]; unfold okDs; rfl, HA.out.2.1, HA.out.2.2.1⟩
                case round =>
                  obtain ⟨j, q', hj, rfl, hq', hok, h9, hb9⟩ := hrel
                  have hll := HG.out.2.2.2.1
                  by_cases hlt : j < rest.length
                  · exact absurd hlt (by omega)
                  · obtain rfl : j = rest.length := by omega
                    rw [List.take_of_length_le (Nat.le_refl _)] at hok
                    have hge : decide ((rest.length : Int) < (rl : Int)) = false := by rw [decide_eq_false_iff_not]; omega
                    have HN := Lib.hid (And.intro h9 (And.intro hb9 (And.intro hok hq')))
                    clear h9 hb9 hok hq' hj hlt
                    rw [hll]
                    rw [hll] at hge
                    clear hll
                    go_wp2_with fail
                    go_roundw
                    case rel => exact ⟨2, q', by decide, rfl, HN.out.2.2.2, .inr (.inr ⟨rfl, q, HA.out.2.2.2, HN.out.2.2.1⟩), HN.out.1, HN.out.2.1⟩
                    case measure => simp [intOf]
              · have hyes : okD (.mk 8 0 false mag text items rest) deep p = some q := by
                  unfold okD
                  rw [if_neg HIF.out, h9]
                  exact h10
                have HA := Lib.hid (And.intro h8 (And.intro hb8 hyes))
                clear h8 hb8 h9 h10 hyes ca0 ca1
                go_wp2_with fail
                go_ret
                rw [HA.out.2.2]
                refine ⟨q, rfl, fun q' h => (by cases h; rfl), ?_, HA.out.2.1⟩
                have h14 := HA.out.1
                rw [HGG.out.1] at h14
                exact (h14.perm (show _ = (blk ga _ * blk g _) * (blk gp _ * R) by ac_rfl)).right
end Go.Proofs.Ytkjfplldfjmbaaa
