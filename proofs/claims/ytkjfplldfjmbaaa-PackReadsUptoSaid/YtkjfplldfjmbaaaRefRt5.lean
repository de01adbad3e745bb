/- tandemref10: L.right of a list. -/
import Derived.Test.YtkjfplldfjmbaaaRefRt0
namespace Go.Proofs.Ytkjfplldfjmbaaa
open Go.RowKit
set_option maxRecDepth 100000 in
set_option maxHeartbeats 8000000 in
theorem right_step6 (k n : Int) (neg : Bool) (mag : List Int) (text : ByteArray) (items rest : List Dm) (ml il rl : Nat) (hk0 : k = 6) (hml : mag.length = ml) (hil : items.length = il) (hrl : rest.length = rl) (hsz : ml ≤ 1048576 ∧ il ≤ 1048576 ∧ rl ≤ 1048576) (deep : Int) (hdp : 0 ≤ deep ∧ deep ≤ 100)
    (hP : 0 < deep → ∀ d ∈ items, RightAt d (deep - 1)) (hP2 : 0 < deep → ∀ d ∈ rest, RightAt d (deep - 1)) (w : World) (R : HP) (gp : Nat) (p lf dp : Int) (hlf : lf = 20000 - p) (hdq : dp = 101 - deep) (hp : 0 ≤ p ∧ p ≤ 20000)
    (am : Option Addr) (cm : Nat) (ai : Option Addr) (ci : Nat) (ar : Option Addr) (cr : Nat)
    (hs : sat w (blk gp (.cells #[.int .i64 lf] 89 (0, 0)) * R)) (hd : DK R (.mk k n neg mag text items rest) [.int .i64 k, .int .i64 n, .bool neg, .slice am ml cm, .string text, .slice ai il ci, .slice ar rl cr]) :
    Calls Try.prog 49 #[.pointer (some ⟨gp, 0, none⟩), .agg #[.int .i64 k, .int .i64 n, .bool neg, .slice am ml cm, .string text, .slice ai il ci, .slice ar rl cr], .int .i64 dp] w (DrPost gp R (okD (.mk k n neg mag text items rest) deep p) w) := by
  have HK0 := Lib.hid hk0
  clear hk0
  have h1 : sat (w.alloc (dmO [.int .i64 k, .int .i64 n, .bool neg, .slice am ml cm, .string text, .slice ai il ci, .slice ar rl cr])) (blk gp (.cells #[.int .i64 lf] 89 (0, 0)) * (blk w.heap.size (dmO [.int .i64 k, .int .i64 n, .bool neg, .slice am ml cm, .string text, .slice ai il ci, .slice ar rl cr]) * R)) := (hs.alloc (dmO [.int .i64 k, .int .i64 n, .bool neg, .slice am ml cm, .string text, .slice ai il ci, .slice ar rl cr])).perm (by ac_rfl)
  have hb1 := Below.zero_alloc w (dmO [.int .i64 k, .int .i64 n, .bool neg, .slice am ml cm, .string text, .slice ai il ci, .slice ar rl cr])
  obtain ⟨g, hg⟩ : ∃ g, w.heap.size = g := ⟨_, rfl⟩
  rw [hg] at h1
  obtain ⟨lf1, hlf1⟩ : ∃ x, lf - 1 = x := ⟨_, rfl⟩
  have p0 := (h1.left.cell 0).trans (show _ = some (Value.int .i64 lf) from rfl)
  have pf := h1.left.frozen 0
  have h2 : sat ((w.alloc (dmO [.int .i64 k, .int .i64 n, .bool neg, .slice am ml cm, .string text, .slice ai il ci, .slice ar rl cr])).setCell ⟨gp, 0, none⟩ (.int .i64 lf1)) (blk gp (.cells #[.int .i64 lf1] 89 (0, 0)) * (blk g (dmO [.int .i64 k, .int .i64 n, .bool neg, .slice am ml cm, .string text, .slice ai il ci, .slice ar rl cr]) * R)) := h1.setCell (off := 0) _
  have hb2 := hb1.setCell (p := ⟨gp, 0, none⟩) (Nat.zero_le _) (.int .i64 lf1)
  have g0 : IntKind.i64.wrap (lf - 1) = lf1 := by rw [IntWalk.i64_in _ (by omega)]; exact hlf1
  have HG := Lib.hid (And.intro hg (And.intro hml (And.intro hil (And.intro hrl (And.intro hP (And.intro hP2 hd))))))
  have HA := Lib.hid (And.intro hlf (And.intro hdq (And.intro hlf1 (And.intro hp hdp))))
  have H1 := Lib.hid (And.intro h2 hb2)
  clear hs h1 hb1 h2 hb2 hml hil hrl hP hP2 hd hlf hdq hlf1 hp hdp
  go_enter Try.func49, Try.ntmps49
  go_upto_region 1 with (fail)
  clear hg
  generalize w.alloc (dmO [.int .i64 k, .int .i64 n, .bool neg, .slice am ml cm, .string text, .slice ai il ci, .slice ar rl cr]) = w1 at *
  go_upto_region 2 with (fail)
  generalize w1.setCell ⟨gp, 0, none⟩ (.int .i64 lf1) = w2 at *
  clear p0 pf g0
  have p0 := (H1.out.1.left.cell 0).trans (show _ = some (Value.int .i64 lf1) from rfl)
  have hbad : (deep = 0 ∨ 20000 < p + 1 ∨ ¬ ShapeD (.mk k n neg mag text items rest)) → ∀ w', sat w' (blk gp (.cells #[.int .i64 lf1] 89 (0, 0)) * R) → Below 0 w w' → DrPost gp R (okD (.mk k n neg mag text items rest) deep p) w (.returned (.bool false)) w' := by
    intro hc w' h' hb'
    have e : okD (.mk k n neg mag text items rest) deep p = none := by unfold okD; rw [if_pos hc]
    rw [e]
    exact ⟨lf1, rfl, fun q' h => (by cases h), h', hb'⟩
  have H2 : sat w2 (blk gp (.cells #[.int .i64 lf1] 89 (0, 0)) * R) := (H1.out.1.perm (show _ = blk g _ * (blk gp _ * R) by ac_rfl)).right
  have HB := Lib.hid (And.intro hbad H2)
  clear hbad H2
  by_cases hl0 : lf1 < 0
  · have el0 : decide (lf1 < 0) = true := by simp [hl0]
    go_wp2_with fail
    go_ret
    exact HB.out.1 (.inr (.inl (by have := HA.out; omega))) _ HB.out.2 H1.out.2
  have el0 : decide (lf1 < 0) = false := by simp; omega
  by_cases hd0 : dp > 100
  · have ed0 : decide (dp > 100) = true := by simp; omega
    go_wp2_with fail
    go_ret
    exact HB.out.1 (.inl (by have := HA.out; omega)) _ HB.out.2 H1.out.2
  have ed0 : decide (dp > 100) = false := by simp; omega
  have c1 := (H1.out.1.right.left.cell 1).trans (show _ = some (Value.int .i64 n) from rfl)
  have hW := refp_half w2 n
  have HN0 := Lib.hid (And.intro hl0 hd0)
  clear hl0 hd0
  cases hw : wholeB n with
  | false =>
    rw [hw] at hW
    have hS : ¬ ShapeD (.mk k n neg mag text items rest) := by
      intro h
      unfold ShapeD at h
      unfold wholeB at hw
      have hw2 := of_decide_eq_false hw
      omega
    have HS := Lib.hid hS
    clear hS hw
    go_wp2_with fail
    refine hW.mono ?_
    clear hW
    rintro e w' ⟨rfl, j, rfl⟩
    go_wp2_with fail
    go_ret
    exact HB.out.1 (.inr (.inr HS.out)) _ (HB.out.2.drewN j) (H1.out.2.trans (drewN_below0 _ _))
  | true =>
    rw [hw] at hW
    have hwh : -549755813888 ≤ n ∧ n ≤ 549755813888 := by unfold wholeB at hw; exact of_decide_eq_true hw
    have HWH := Lib.hid hwh
    clear hw hwh
    go_wp2_with fail
    refine hW.mono ?_
    clear hW c1 p0
    rintro e w3 ⟨rfl, j, hj⟩
    have H3 := Lib.hid (show sat w3 (blk gp (.cells #[.int .i64 lf1] 89 (0, 0)) * (blk g (dmO [.int .i64 k, .int .i64 n, .bool neg, .slice am ml cm, .string text, .slice ai il ci, .slice ar rl cr]) * R)) ∧ Below 0 w w3 ∧ sat w3 (blk gp (.cells #[.int .i64 lf1] 89 (0, 0)) * R) from by rw [hj]; exact ⟨H1.out.1.drewN j, H1.out.2.trans (drewN_below0 _ _), HB.out.2.drewN j⟩)
    clear hj H1
    have c0 := (H3.out.1.right.left.cell 0).trans (show _ = some (Value.int .i64 k) from rfl)
    have c1 := (H3.out.1.right.left.cell 1).trans (show _ = some (Value.int .i64 n) from rfl)
    have c2 := (H3.out.1.right.left.cell 2).trans (show _ = some (Value.bool neg) from rfl)
    have c3 := (H3.out.1.right.left.cell 3).trans (show _ = some (Value.slice am ml cm) from rfl)
    have c4 := (H3.out.1.right.left.cell 4).trans (show _ = some (Value.string text) from rfl)
    have c5 := (H3.out.1.right.left.cell 5).trans (show _ = some (Value.slice ai il ci) from rfl)
    have c6 := (H3.out.1.right.left.cell 6).trans (show _ = some (Value.slice ar rl cr) from rfl)
    have k6 := HK0.out
    subst k6
    by_cases hm0 : 0 < ml
    case pos =>
      have em0 : decide ((ml : Int) > 0) = true := by rw [decide_eq_true_eq]; omega
      go_wp2_with fail
      go_ret
      exact HB.out.1 (.inr (.inr (fun hS => ne_empty HG.out.2.1 hm0 ((shape_ask hS).1 (by decide)).2))) _ H3.out.2.2 H3.out.2.1
    have em0 : decide ((ml : Int) > 0) = false := by rw [decide_eq_false_iff_not]; omega
    cases neg with
    | true =>
      go_wp2_with fail
      go_ret
      exact HB.out.1 (.inr (.inr (fun hS => absurd ((shape_ask hS).1 (by decide)).1 (by decide)))) _ H3.out.2.2 H3.out.2.1
    | false =>
      by_cases hn0 : n = 0
      case neg =>
        have en0 : (n == 0) = false := by simp [hn0]
        have en1 : (n != 0) = true := by simp [hn0]
        go_wp2_with fail
        go_ret
        exact HB.out.1 (.inr (.inr (fun hS => hn0 (shape_more hS (by decide)).1))) _ H3.out.2.2 H3.out.2.1
      subst hn0
      by_cases ht0 : text = noT
      case neg =>
        have et1 : ¬ (text.toList = []) := text_none ht0
        have et2 : (text.toList == []) = false := by rw [beq_eq_false_iff_ne]; exact et1
        go_wp2_with fail
        go_ret
        exact HB.out.1 (.inr (.inr (fun hS => ht0 ((shape_ask hS).2.1 (by decide) (by decide))))) _ H3.out.2.2 H3.out.2.1
      have et1 : text.toList = [] := by rw [ht0]; exact noT_list
      have HT0 := Lib.hid ht0
      clear ht0
      have et2 : (text.toList == []) = true := by rw [et1]; rfl
      by_cases hr0 : 0 < rl
      case neg =>
        have er0 : decide ((rl : Int) > 0) = false := by rw [decide_eq_false_iff_not]; omega
        have hshape : ShapeD (.mk 6 0 false mag text items rest) := by
          unfold ShapeD
          exact ⟨fun _ => ⟨rfl, eq_empty HG.out.2.1 hm0⟩, fun _ _ => HT0.out, fun h1 h2 => absurd rfl h1, fun h => absurd rfl h, .inr ⟨by decide, rfl, by rw [eq_empty HG.out.2.1 hm0]; exact limbs_nil, fun h => (by cases h), .inl (eq_empty HG.out.2.2.2.1 hr0)⟩⟩
        have hdks : DKs R items ai 0 ∧ DKs R rest ar 0 := by
          obtain ⟨am', cm', ai', ci', ar', cr', he, _, h7, h8⟩ := HG.out.2.2.2.2.2.2.open
          simp only [List.cons.injEq, Value.slice.injEq, and_true, true_and] at he
          obtain ⟨_, ⟨rfl, _⟩, rfl, _⟩ := he
          exact ⟨h7, h8⟩
        have hdpos : 0 < deep := by have := HA.out; have := HN0.out; omega
        have hp20 : p + 1 ≤ 20000 := by have := HA.out; have := HN0.out; omega
        have hif : ¬ (deep = 0 ∨ 20000 < p + 1 ∨ ¬ ShapeD (.mk 6 0 false mag text items rest)) := by
          rintro (h | h | h)
          · omega
          · omega
          · exact h hshape
        have HD := Lib.hid hdks
        have HDP := Lib.hid (And.intro hdpos hp20)
        have HIF := Lib.hid hif
        clear hshape hdks hdpos hp20 hif
        obtain ⟨G, hG⟩ : ∃ G : HP, G = blk g (dmO [.int .i64 6, .int .i64 0, .bool false, .slice am ml cm, .string text, .slice ai il ci, .slice ar rl cr]) * R := ⟨_, rfl⟩
        have hGR : ∀ w, sat w G → sat w R := fun w h => by rw [hG] at h; exact h.right
        have hGc : ∀ w, sat w G → w.cell? ⟨g, 4 + 1, none⟩ = some (.slice ai il ci) ∧ w.cell? ⟨g, 5 + 1, none⟩ = some (.slice ar rl cr) := fun w h => by
          rw [hG] at h
          exact ⟨(h.left.cell 5).trans rfl, (h.left.cell 6).trans rfl⟩
        have HGG := Lib.hid (And.intro hG (And.intro hGR hGc))
        have h3 := H3.out.1
        rw [← hG] at h3
        have H4 := Lib.hid (And.intro h3 H3.out.2.1)
        clear hG hGR hGc h3
        go_wp2_with fail
        clear c0 c1 c2 c3 c4 c5 c6
        go_loopw [11] (DrRel w gp G items deep (p + 1)) (fun i _ => items.length - (intOf i).toNat)
        case atStart => exact ⟨0, p + 1, lf1, Nat.zero_le _, rfl, by have := HA.out; have := HDP.out; omega, by have := HA.out; omega, by rw [List.take_zero]; unfold okDs; rfl, H4.out.1, H4.out.2⟩
        case round =>
          obtain ⟨j, q', lf2, hj, rfl, hq', hlf2, hok, h9, hb9⟩ := hrel
          have hll := HG.out.2.2.1
          have c5 := (HGG.out.2.2 wr h9.right).1
          by_cases hlt : j < items.length
          · have hlt2 : j < il := by omega
            have bl : decide ((j : Int) < (il : Int)) = true := by rw [decide_eq_true_eq]; omega
            obtain ⟨d, ex⟩ : ∃ d, items[j]? = some d := ⟨_, List.getElem?_eq_getElem hlt⟩
            obtain ⟨bb, off, ds, hao, hcell, hdd⟩ := HD.out.1.get j d ex
            have hcw := hcell wr (HGG.out.2.1 wr h9.right)
            rw [Nat.zero_add] at hcw
            have hmem := List.mem_of_getElem? ex
            have hC := HG.out.2.2.2.2.1 HDP.out.1 d hmem wr G gp q' lf2 (dp + 1) ds hlf2 (by have := HA.out; omega) hq' h9 (hdd.mono (fun w h => HGG.out.2.1 w h) _)
            obtain ⟨k1, n1, ng1, am1, ml1, cm1, tx1, ai1, il1, ci1, ar1, rl1, cr1, rfl⟩ := hdd.cells
            have i0' := hcw 0 _ rfl
            have i1 := hcw 1 _ rfl
            have i2 := hcw 2 _ rfl
            have i3 := hcw 3 _ rfl
            have i4 := hcw 4 _ rfl
            have i5 := hcw 5 _ rfl
            have i6 := hcw 6 _ rfl
            rw [Nat.add_zero] at i0'
            have g1 : IntKind.i64.wrap (dp + 1) = dp + 1 := IntWalk.i64_in _ (by have := HA.out; omega)
            obtain ⟨o, ho⟩ : ∃ o, okD d (deep - 1) q' = o := ⟨_, rfl⟩
            rw [ho] at hC
            have hqb : ∀ q3, o = some q3 → 0 ≤ q3 ∧ q3 ≤ 20000 := fun q3 h => by have := okD_bd d (deep - 1) q' q3 (by rw [ho, h]); omega
            have HK := Lib.hid (And.intro hb9 (And.intro hok (And.intro ho (And.intro ex (And.intro hC hqb)))))
            cases hao
            clear hcw hcell hdd h9 hb9 hmem ex hC hok ho hqb hll hlt hlf2 hj hq'
            go_wp2_with fail
            refine HK.out.2.2.2.2.1.mono ?_
            clear i0' i1 i2 i3 i4 i5 i6 c5
            rintro e w6 ⟨l2, rfl, hl2, h12, hb12⟩
            cases o with
            | none =>
              have hnone : okD (.mk 6 0 false mag text items rest) deep p = none := by
                unfold okD
                split
                · rfl
                · rw [okDs_none HK.out.2.2.2.1 HK.out.2.1 HK.out.2.2.1]
              have HN := Lib.hid (And.intro h12 (And.intro (HK.out.1.trans hb12) hnone))
              clear h12 hb12 hl2 hnone
              go_wp2_with fail
              go_ret
              rw [HN.out.2.2]
              refine ⟨l2, rfl, fun q' h => (by cases h), ?_, HN.out.2.1⟩
              have h14 := HN.out.1
              rw [HGG.out.1] at h14
              exact (h14.perm (show _ = blk g _ * (blk gp _ * R) by ac_rfl)).right
            | some q3 =>
              have hl3 := hl2 q3 rfl
              have HN := Lib.hid (And.intro h12 (And.intro (HK.out.1.trans hb12) (And.intro (HK.out.2.2.2.2.2 q3 rfl) hl3)))
              clear h12 hb12 hl2 hl3
              go_wp2_with fail
              go_roundw
              case rel =>
                refine ⟨j + 1, q3, l2, by have := HG.out.2.2.1; omega, by go_num, HN.out.2.2.1, HN.out.2.2.2, ?_, HN.out.1, HN.out.2.1⟩
                rw [okDs_next HK.out.2.2.2.1, HK.out.2.1]
                exact HK.out.2.2.1
              case measure =>
                have := HG.out.2.2.1
                simp [intOf]; omega
          · obtain rfl : j = items.length := by omega
            rw [List.take_of_length_le (Nat.le_refl _)] at hok
            have hge : decide ((items.length : Int) < (il : Int)) = false := by rw [decide_eq_false_iff_not]; omega
            have c6 := (HGG.out.2.2 wr h9.right).2
            have hyes : okD (.mk 6 0 false mag text items rest) deep p = some q' := by
              unfold okD
              rw [if_neg HIF.out, hok, eq_empty HG.out.2.2.2.1 hr0]
              unfold okDs
              rfl
            have HN := Lib.hid (And.intro h9 (And.intro hb9 (And.intro hyes hlf2)))
            clear h9 hb9 hok hyes hlf2 hq' hj hlt
            rw [hll]
            rw [hll] at hge
            clear hll
            go_wp2_with fail
            go_ret
            rw [HN.out.2.2.1]
            refine ⟨lf2, rfl, fun q h => (by cases h; exact HN.out.2.2.2), ?_, HN.out.2.1⟩
            have h14 := HN.out.1
            rw [HGG.out.1] at h14
            exact (h14.perm (show _ = blk g _ * (blk gp _ * R) by ac_rfl)).right
      have er0 : decide ((rl : Int) > 0) = true := by rw [decide_eq_true_eq]; omega
      by_cases hi0 : 0 < il
      case neg =>
        have ei0 : decide ((il : Int) > 0) = false := by rw [decide_eq_false_iff_not]; omega
        go_wp2_with fail
        go_ret
        exact HB.out.1 (.inr (.inr (fun hS => by rcases (shape_more hS (by decide)).2.2.2 with h | ⟨r, _, h, _⟩; exact ne_empty HG.out.2.2.2.1 hr0 h; exact h (eq_empty HG.out.2.2.1 hi0)))) _ H3.out.2.2 H3.out.2.1
      have ei0 : decide ((il : Int) > 0) = true := by rw [decide_eq_true_eq]; omega
      by_cases hr1 : rl = 1
      case neg =>
        have er1 : ((rl : Int) == 1) = false := by rw [beq_eq_false_iff_ne]; omega
        have er2 : ((rl : Int) != 1) = true := by rw [bne, er1]; rfl
        go_wp2_with fail
        go_ret
        exact HB.out.1 (.inr (.inr (fun hS => by rcases (shape_more hS (by decide)).2.2.2 with h | ⟨r, h, _, _⟩; exact ne_empty HG.out.2.2.2.1 hr0 h; exact hr1 (by rw [← HG.out.2.2.2.1, h]; rfl)))) _ H3.out.2.2 H3.out.2.1
      subst hr1
      obtain ⟨r, hrr⟩ : ∃ r, rest = [r] := List.length_eq_one_iff.1 HG.out.2.2.2.1
      obtain ⟨bb0, off0, rs, har, hrc, hdr⟩ : ∃ b off cs, ar = some ⟨b, off, none⟩ ∧ (∀ w, sat w R → ∀ (j : Nat) v, cs[j]? = some v → w.cell? ⟨b, off + j, none⟩ = some v) ∧ DK R r cs := by
        obtain ⟨am', cm', ai', ci', ar', cr', he, _, h7, h8⟩ := HG.out.2.2.2.2.2.2.open
        simp only [List.cons.injEq, Value.slice.injEq, and_true, true_and] at he
        obtain ⟨_, ⟨rfl, _⟩, rfl, _⟩ := he
        obtain ⟨b, off, cs, e1, e2, e3⟩ := h8.get 0 r (by rw [hrr]; rfl)
        refine ⟨b, off, cs, e1, fun w h j v hv => ?_, e3⟩
        have := e2 w h j v hv
        rw [show off + (0 + 0) * 7 + j = off + j by omega] at this
        exact this
      cases har
      have x0 : ∃ kr, w3.cell? ⟨bb0, off0, none⟩ = some (.int .i64 kr) ∧ kindD r = kr := by
        have hc := hrc w3 H3.out.2.2.right 0
        cases r with
        | mk kr nr ngr mgr txr itr rsr =>
          obtain ⟨_, _, _, _, _, _, rfl, _⟩ := hdr.open
          exact ⟨kr, hc _ rfl, rfl⟩
      obtain ⟨kr, x0, hkr0⟩ := x0
      have HR0 := Lib.hid (And.intro hrr (And.intro hrc (And.intro hdr hkr0)))
      clear hrr hrc hdr hkr0
      by_cases hkr : kr = 6
      case pos =>
        have ek : (kr == 6) = true := by simp [hkr]
        go_wp2_with fail
        go_ret
        exact HB.out.1 (.inr (.inr (fun hS => by rcases (shape_more hS (by decide)).2.2.2 with h | ⟨r', h, _, h2⟩; exact ne_empty HG.out.2.2.2.1 hr0 h; exact h2 (by rw [HR0.out.1] at h; cases h; rw [HR0.out.2.2.2]; exact hkr)))) _ H3.out.2.2 H3.out.2.1
      have ek : (kr == 6) = false := by simp [hkr]
      obtain ⟨hrr, hrc, hdr, hkr0⟩ := HR0.out
      have hkr : kindD r ≠ 6 := by rw [hkr0]; exact hkr
      have hshape : ShapeD (.mk 6 0 false mag text items rest) := by
        unfold ShapeD
        exact ⟨fun _ => ⟨rfl, eq_empty HG.out.2.1 hm0⟩, fun _ _ => HT0.out, fun h1 h2 => absurd rfl h1, fun h => absurd rfl h, .inr ⟨by decide, rfl, by rw [eq_empty HG.out.2.1 hm0]; exact limbs_nil, fun h => (by cases h), .inr ⟨r, hrr, ne_empty HG.out.2.2.1 hi0, hkr⟩⟩⟩
      have hdks : DKs R items ai 0 ∧ DKs R rest (some ⟨bb0, off0, none⟩) 0 := by
        obtain ⟨am', cm', ai', ci', ar', cr', he, _, h7, h8⟩ := HG.out.2.2.2.2.2.2.open
        simp only [List.cons.injEq, Value.slice.injEq, and_true, true_and] at he
        obtain ⟨_, ⟨rfl, _⟩, rfl, _⟩ := he
        exact ⟨h7, h8⟩
      have hdpos : 0 < deep := by have := HA.out; have := HN0.out; omega
      have hp20 : p + 1 ≤ 20000 := by have := HA.out; have := HN0.out; omega
      have hif : ¬ (deep = 0 ∨ 20000 < p + 1 ∨ ¬ ShapeD (.mk 6 0 false mag text items rest)) := by
        rintro (h | h | h)
        · omega
        · omega
        · exact h hshape
      have HD := Lib.hid hdks
      have HDP := Lib.hid (And.intro hdpos hp20)
      have HIF := Lib.hid hif
      clear hshape hdks hdpos hp20 hif
      obtain ⟨G, hG⟩ : ∃ G : HP, G = blk g (dmO [.int .i64 6, .int .i64 0, .bool false, .slice am ml cm, .string text, .slice ai il ci, .slice (some ⟨bb0, off0, none⟩) 1 cr]) * R := ⟨_, rfl⟩
      have hGR : ∀ w, sat w G → sat w R := fun w h => by rw [hG] at h; exact h.right
      have hGc : ∀ w, sat w G → w.cell? ⟨g, 4 + 1, none⟩ = some (.slice ai il ci) ∧ w.cell? ⟨g, 5 + 1, none⟩ = some (.slice (some ⟨bb0, off0, none⟩) 1 cr) := fun w h => by
        rw [hG] at h
        exact ⟨(h.left.cell 5).trans rfl, (h.left.cell 6).trans rfl⟩
      have HGG := Lib.hid (And.intro hG (And.intro hGR hGc))
      have h3 := H3.out.1
      rw [← hG] at h3
      have H4 := Lib.hid (And.intro h3 H3.out.2.1)
      clear hG hGR hGc h3
      go_wp2_with fail
      clear c0 c1 c2 c3 c4 c5 c6
      go_loopw [11] (DrRel w gp G items deep (p + 1)) (fun i _ => items.length - (intOf i).toNat)
      case atStart => exact ⟨0, p + 1, lf1, Nat.zero_le _, rfl, by have := HA.out; have := HDP.out; omega, by have := HA.out; omega, by rw [List.take_zero]; unfold okDs; rfl, H4.out.1, H4.out.2⟩
      case round =>
        obtain ⟨j, q', lf2, hj, rfl, hq', hlf2, hok, h9, hb9⟩ := hrel
        have hll := HG.out.2.2.1
        have c5 := (HGG.out.2.2 wr h9.right).1
        by_cases hlt : j < items.length
        · have hlt2 : j < il := by omega
          have bl : decide ((j : Int) < (il : Int)) = true := by rw [decide_eq_true_eq]; omega
          obtain ⟨d, ex⟩ : ∃ d, items[j]? = some d := ⟨_, List.getElem?_eq_getElem hlt⟩
          obtain ⟨bb, off, ds, hao, hcell, hdd⟩ := HD.out.1.get j d ex
          have hcw := hcell wr (HGG.out.2.1 wr h9.right)
          rw [Nat.zero_add] at hcw
          have hmem := List.mem_of_getElem? ex
          have hC := HG.out.2.2.2.2.1 HDP.out.1 d hmem wr G gp q' lf2 (dp + 1) ds hlf2 (by have := HA.out; omega) hq' h9 (hdd.mono (fun w h => HGG.out.2.1 w h) _)
          obtain ⟨k1, n1, ng1, am1, ml1, cm1, tx1, ai1, il1, ci1, ar1, rl1, cr1, rfl⟩ := hdd.cells
          have i0' := hcw 0 _ rfl
          have i1 := hcw 1 _ rfl
          have i2 := hcw 2 _ rfl
          have i3 := hcw 3 _ rfl
          have i4 := hcw 4 _ rfl
          have i5 := hcw 5 _ rfl
          have i6 := hcw 6 _ rfl
          rw [Nat.add_zero] at i0'
          have g1 : IntKind.i64.wrap (dp + 1) = dp + 1 := IntWalk.i64_in _ (by have := HA.out; omega)
          obtain ⟨o, ho⟩ : ∃ o, okD d (deep - 1) q' = o := ⟨_, rfl⟩
          rw [ho] at hC
          have hqb : ∀ q3, o = some q3 → 0 ≤ q3 ∧ q3 ≤ 20000 := fun q3 h => by have := okD_bd d (deep - 1) q' q3 (by rw [ho, h]); omega
          have HK := Lib.hid (And.intro hb9 (And.intro hok (And.intro ho (And.intro ex (And.intro hC hqb)))))
          cases hao
          clear hcw hcell hdd h9 hb9 hmem ex hC hok ho hqb hll hlt hlf2 hj hq'
          go_wp2_with fail
          refine HK.out.2.2.2.2.1.mono ?_
          clear i0' i1 i2 i3 i4 i5 i6 c5
          rintro e w6 ⟨l2, rfl, hl2, h12, hb12⟩
          cases o with
          | none =>
            have hnone : okD (.mk 6 0 false mag text items rest) deep p = none := by
              unfold okD
              split
              · rfl
              · rw [okDs_none HK.out.2.2.2.1 HK.out.2.1 HK.out.2.2.1]
            have HN := Lib.hid (And.intro h12 (And.intro (HK.out.1.trans hb12) hnone))
            clear h12 hb12 hl2 hnone
            go_wp2_with fail
            go_ret
            rw [HN.out.2.2]
            refine ⟨l2, rfl, fun q' h => (by cases h), ?_, HN.out.2.1⟩
            have h14 := HN.out.1
            rw [HGG.out.1] at h14
            exact (h14.perm (show _ = blk g _ * (blk gp _ * R) by ac_rfl)).right
          | some q3 =>
            have hl3 := hl2 q3 rfl
            have HN := Lib.hid (And.intro h12 (And.intro (HK.out.1.trans hb12) (And.intro (HK.out.2.2.2.2.2 q3 rfl) hl3)))
            clear h12 hb12 hl2 hl3
            go_wp2_with fail
            go_roundw
            case rel =>
              refine ⟨j + 1, q3, l2, by have := HG.out.2.2.1; omega, by go_num, HN.out.2.2.1, HN.out.2.2.2, ?_, HN.out.1, HN.out.2.1⟩
              rw [okDs_next HK.out.2.2.2.1, HK.out.2.1]
              exact HK.out.2.2.1
            case measure =>
              have := HG.out.2.2.1
              simp [intOf]; omega
        · obtain rfl : j = items.length := by omega
          rw [List.take_of_length_le (Nat.le_refl _)] at hok
          have hge : decide ((items.length : Int) < (il : Int)) = false := by rw [decide_eq_false_iff_not]; omega
          have c6 := (HGG.out.2.2 wr h9.right).2
          have hC := HG.out.2.2.2.2.2.1 HDP.out.1 r (by rw [hrr]; simp) wr G gp q' lf2 (dp + 1) rs hlf2 (by have := HA.out; omega) hq' h9 (hdr.mono (fun w h => HGG.out.2.1 w h) _)
          have hcw := hrc wr (HGG.out.2.1 wr h9.right)
          obtain ⟨k1, n1, ng1, am1, ml1, cm1, tx1, ai1, il1, ci1, ar1, rl1, cr1, rfl⟩ := hdr.cells
          have i0' := hcw 0 _ rfl
          have i1 := hcw 1 _ rfl
          have i2 := hcw 2 _ rfl
          have i3 := hcw 3 _ rfl
          have i4 := hcw 4 _ rfl
          have i5 := hcw 5 _ rfl
          have i6 := hcw 6 _ rfl
          rw [Nat.add_zero] at i0'
          have g1 : IntKind.i64.wrap (dp + 1) = dp + 1 := IntWalk.i64_in _ (by have := HA.out; omega)
          obtain ⟨o, ho⟩ : ∃ o, okD r (deep - 1) q' = o := ⟨_, rfl⟩
          rw [ho] at hC
          have hyes : okD (.mk 6 0 false mag text items rest) deep p = o := by
            unfold okD
            rw [if_neg HIF.out, hok, hrr, ← ho]
            unfold okDs
            show (match okD r (deep - 1) q' with | none => none | some q => okDs [] (deep - 1) q) = _
            cases okD r (deep - 1) q' with
            | none => rfl
            | some q => unfold okDs; rfl
          have HN := Lib.hid (And.intro hb9 (And.intro hyes hC))
          clear h9 hb9 hok hyes hlf2 hq' hj hlt hC hcw ho
          rw [hll]
          rw [hll] at hge
          clear hll
          go_wp2_with fail
          refine HN.out.2.2.mono ?_
          clear i0' i1 i2 i3 i4 i5 i6 c5 c6
          rintro e w6 ⟨l2, rfl, hl2, h12, hb12⟩
          have HZ := Lib.hid (And.intro h12 (And.intro (HN.out.1.trans hb12) hl2))
          clear h12 hb12 hl2
          go_wp2_with fail
          go_ret
          rw [HN.out.2.1]
          refine ⟨l2, rfl, HZ.out.2.2, ?_, HZ.out.2.1⟩
          have h14 := HZ.out.1
          rw [HGG.out.1] at h14
          exact (h14.perm (show _ = blk g _ * (blk gp _ * R) by ac_rfl)).right
end Go.Proofs.Ytkjfplldfjmbaaa
