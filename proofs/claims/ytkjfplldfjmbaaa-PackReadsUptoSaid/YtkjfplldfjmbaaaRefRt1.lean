/- tandemref10: L.right, of kinds 2, 3, 5, 9, and others. -/
import Derived.Test.YtkjfplldfjmbaaaRefRt0
namespace Go.Proofs.Ytkjfplldfjmbaaa
open Go.RowKit
set_option maxRecDepth 100000 in
set_option maxHeartbeats 8000000 in
theorem right_step2 (k n : Int) (neg : Bool) (mag : List Int) (text : ByteArray) (items rest : List Dm) (ml il rl : Nat) (hk0 : k = 2) (hml : mag.length = ml) (hil : items.length = il) (hrl : rest.length = rl) (hsz : ml ≤ 1048576 ∧ il ≤ 1048576 ∧ rl ≤ 1048576) (deep : Int) (hdp : 0 ≤ deep ∧ deep ≤ 100)
    (hP : 0 < deep → ∀ d ∈ items, RightAt d (deep - 1)) (hP2 : 0 < deep → ∀ d ∈ rest, RightAt d (deep - 1)) (w : World) (R : HP) (gp : Nat) (p lf dp : Int) (hlf : lf = 20000 - p) (hdq : dp = 101 - deep) (hp : 0 ≤ p ∧ p ≤ 20000)
    (am : Option Addr) (cm : Nat) (ai : Option Addr) (ci : Nat) (ar : Option Addr) (cr : Nat)
    (hs : sat w (blk gp (.cells #[.int .i64 lf] 89 (0, 0)) * R)) (hd : DK R (.mk k n neg mag text items rest) [.int .i64 k, .int .i64 n, .bool neg, .slice am ml cm, .string text, .slice ai il ci, .slice ar rl cr]) :
    Calls Try.prog 49 #[.pointer (some ⟨gp, 0, none⟩), .agg #[.int .i64 k, .int .i64 n, .bool neg, .slice am ml cm, .string text, .slice ai il ci, .slice ar rl cr], .int .i64 dp] w (DrPost gp R (okD (.mk k n neg mag text items rest) deep p) w) := by
  have HK0 := Lib.hid hk0
  clear hk0
  have h1 : sat (w.alloc (dmO [.int .i64 k, .int .i64 n, .bool neg, .slice am ml cm, .string text, .slice ai il ci, .slice ar rl cr])) (blk gp (.cells #[.int .i64 lf] 89 (0, 0)) * (blk w.heap.size (dmO [.int .i64 k, .int .i64 n, .bool neg, .slice am ml cm, .string text, .slice ai il ci, .slice ar rl cr]) * R)) := (hs.alloc (dmO [.int .i64 k, .int .i64 n, .bool neg, .slice am ml cm, .string text, .slice ai il ci, .slice ar rl cr])).perm (by ac_rfl)
  have hb1 := Below.zero_alloc w (dmO [.int .i64 k, .int .i64 n, .bool neg, .slice am ml cm, .string text, .slice ai il ci, .slice ar rl cr])
  obtain ⟨g, hg⟩ : ∃ g, w.heap.size = g := ⟨_, rfl⟩
  rw [hg] at h1
  obtain ⟨lf1, hlf1⟩ : ∃ x, lf - 1 = x := ⟨_, rfl⟩
  have p0 := (h1.left.cell 0).trans (show _ = some (Value.int .i64 lf) from rfl)
  have pf := h1.left.frozen 0
  have h2 : sat ((w.alloc (dmO [.int .i64 k, .int .i64 n, .bool neg, .slice am ml cm, .string text, .slice ai il ci, .slice ar rl cr])).setCell ⟨gp, 0, none⟩ (.int .i64 lf1)) (blk gp (.cells #[.int .i64 lf1] 89 (0, 0)) * (blk g (dmO [.int .i64 k, .int .i64 n, .bool neg, .slice am ml cm, .string text, .slice ai il ci, .slice ar rl cr]) * R)) := h1.setCell (off := 0) _
  have hb2 := hb1.setCell (p := ⟨gp, 0, none⟩) (Nat.zero_le _) (.int .i64 lf1)
  have g0 : IntKind.i64.wrap (lf - 1) = lf1 := by rw [IntWalk.i64_in _ (by omega)]; exact hlf1
  have HG := Lib.hid (And.intro hg (And.intro hml (And.intro hil (And.intro hrl (And.intro hP (And.intro hP2 hd))))))
  have HA := Lib.hid (And.intro hlf (And.intro hdq (And.intro hlf1 (And.intro hp hdp))))
  have H1 := Lib.hid (And.intro h2 hb2)
  clear hs h1 hb1 h2 hb2 hml hil hrl hP hP2 hd hlf hdq hlf1 hp hdp
  go_enter Try.func49, Try.ntmps49
  go_upto_region 1 with (fail)
  clear hg
  generalize w.alloc (dmO [.int .i64 k, .int .i64 n, .bool neg, .slice am ml cm, .string text, .slice ai il ci, .slice ar rl cr]) = w1 at *
  go_upto_region 2 with (fail)
  generalize w1.setCell ⟨gp, 0, none⟩ (.int .i64 lf1) = w2 at *
  clear p0 pf g0
  have p0 := (H1.out.1.left.cell 0).trans (show _ = some (Value.int .i64 lf1) from rfl)
  have hbad : (deep = 0 ∨ 20000 < p + 1 ∨ ¬ ShapeD (.mk k n neg mag text items rest)) → ∀ w', sat w' (blk gp (.cells #[.int .i64 lf1] 89 (0, 0)) * R) → Below 0 w w' → DrPost gp R (okD (.mk k n neg mag text items rest) deep p) w (.returned (.bool false)) w' := by
    intro hc w' h' hb'
    have e : okD (.mk k n neg mag text items rest) deep p = none := by unfold okD; rw [if_pos hc]
    rw [e]
    exact ⟨lf1, rfl, fun q' h => (by cases h), h', hb'⟩
  have H2 : sat w2 (blk gp (.cells #[.int .i64 lf1] 89 (0, 0)) * R) := (H1.out.1.perm (show _ = blk g _ * (blk gp _ * R) by ac_rfl)).right
  have HB := Lib.hid (And.intro hbad H2)
  clear hbad H2
  by_cases hl0 : lf1 < 0
  · have el0 : decide (lf1 < 0) = true := by simp [hl0]
    go_wp2_with fail
    go_ret
    exact HB.out.1 (.inr (.inl (by have := HA.out; omega))) _ HB.out.2 H1.out.2
  have el0 : decide (lf1 < 0) = false := by simp; omega
  by_cases hd0 : dp > 100
  · have ed0 : decide (dp > 100) = true := by simp; omega
    go_wp2_with fail
    go_ret
    exact HB.out.1 (.inl (by have := HA.out; omega)) _ HB.out.2 H1.out.2
  have ed0 : decide (dp > 100) = false := by simp; omega
  have c1 := (H1.out.1.right.left.cell 1).trans (show _ = some (Value.int .i64 n) from rfl)
  have hW := refp_half w2 n
  have HN0 := Lib.hid (And.intro hl0 hd0)
  clear hl0 hd0
  cases hw : wholeB n with
  | false =>
    rw [hw] at hW
    have hS : ¬ ShapeD (.mk k n neg mag text items rest) := by
      intro h
      unfold ShapeD at h
      unfold wholeB at hw
      have hw2 := of_decide_eq_false hw
      omega
    have HS := Lib.hid hS
    clear hS hw
    go_wp2_with fail
    refine hW.mono ?_
    clear hW
    rintro e w' ⟨rfl, j, rfl⟩
    go_wp2_with fail
    go_ret
    exact HB.out.1 (.inr (.inr HS.out)) _ (HB.out.2.drewN j) (H1.out.2.trans (drewN_below0 _ _))
  | true =>
    rw [hw] at hW
    have hwh : -549755813888 ≤ n ∧ n ≤ 549755813888 := by unfold wholeB at hw; exact of_decide_eq_true hw
    have HWH := Lib.hid hwh
    clear hw hwh
    go_wp2_with fail
    refine hW.mono ?_
    clear hW c1 p0
    rintro e w3 ⟨rfl, j, hj⟩
    have H3 := Lib.hid (show sat w3 (blk gp (.cells #[.int .i64 lf1] 89 (0, 0)) * (blk g (dmO [.int .i64 k, .int .i64 n, .bool neg, .slice am ml cm, .string text, .slice ai il ci, .slice ar rl cr]) * R)) ∧ Below 0 w w3 ∧ sat w3 (blk gp (.cells #[.int .i64 lf1] 89 (0, 0)) * R) from by rw [hj]; exact ⟨H1.out.1.drewN j, H1.out.2.trans (drewN_below0 _ _), HB.out.2.drewN j⟩)
    clear hj H1
    have c0 := (H3.out.1.right.left.cell 0).trans (show _ = some (Value.int .i64 k) from rfl)
    have c1 := (H3.out.1.right.left.cell 1).trans (show _ = some (Value.int .i64 n) from rfl)
    have c2 := (H3.out.1.right.left.cell 2).trans (show _ = some (Value.bool neg) from rfl)
    have c3 := (H3.out.1.right.left.cell 3).trans (show _ = some (Value.slice am ml cm) from rfl)
    have c4 := (H3.out.1.right.left.cell 4).trans (show _ = some (Value.string text) from rfl)
    have c5 := (H3.out.1.right.left.cell 5).trans (show _ = some (Value.slice ai il ci) from rfl)
    have c6 := (H3.out.1.right.left.cell 6).trans (show _ = some (Value.slice ar rl cr) from rfl)
    have k2 := HK0.out
    subst k2
    by_cases hm0 : 0 < ml
    case pos =>
      have em0 : decide ((ml : Int) > 0) = true := by rw [decide_eq_true_eq]; omega
      go_wp2_with fail
      go_ret
      exact HB.out.1 (.inr (.inr (fun hS => ne_empty HG.out.2.1 hm0 ((shape_ask hS).1 (by decide)).2))) _ H3.out.2.2 H3.out.2.1
    have em0 : decide ((ml : Int) > 0) = false := by rw [decide_eq_false_iff_not]; omega
    cases neg with
    | true =>
      go_wp2_with fail
      go_ret
      exact HB.out.1 (.inr (.inr (fun hS => absurd ((shape_ask hS).1 (by decide)).1 (by decide)))) _ H3.out.2.2 H3.out.2.1
    | false =>
      by_cases ht0 : text = noT
      case neg =>
        have et1 : ¬ (text.toList = []) := text_none ht0
        have et2 : (text.toList == []) = false := by rw [beq_eq_false_iff_ne]; exact et1
        go_wp2_with fail
        go_ret
        exact HB.out.1 (.inr (.inr (fun hS => ht0 ((shape_ask hS).2.1 (by decide) (by decide))))) _ H3.out.2.2 H3.out.2.1
      have et1 : text.toList = [] := by rw [ht0]; exact noT_list
      have HT0 := Lib.hid ht0
      clear ht0
      have et2 : (text.toList == []) = true := by rw [et1]; rfl
      by_cases hi0 : 0 < il
      case pos =>
        have ei0 : decide ((il : Int) > 0) = true := by rw [decide_eq_true_eq]; omega
        go_wp2_with fail
        go_ret
        exact HB.out.1 (.inr (.inr (fun hS => ne_empty HG.out.2.2.1 hi0 ((shape_ask hS).2.2.1 (by decide) (by decide))))) _ H3.out.2.2 H3.out.2.1
      have ei0 : decide ((il : Int) > 0) = false := by rw [decide_eq_false_iff_not]; omega
      by_cases hr0 : 0 < rl
      case pos =>
        have er0 : decide ((rl : Int) > 0) = true := by rw [decide_eq_true_eq]; omega
        go_wp2_with fail
        go_ret
        exact HB.out.1 (.inr (.inr (fun hS => ne_empty HG.out.2.2.2.1 hr0 ((shape_ask hS).2.2.2 (by decide))))) _ H3.out.2.2 H3.out.2.1
      have er0 : decide ((rl : Int) > 0) = false := by rw [decide_eq_false_iff_not]; omega
      have hS : okD (.mk 2 n false mag text items rest) deep p = some (p + 1) := by
        have hi : items = [] := eq_empty HG.out.2.2.1 hi0
        have hr : rest = [] := eq_empty HG.out.2.2.2.1 hr0
        unfold okD
        rw [if_neg (by rintro (h | h | h); exact (by have := HA.out; have := HN0.out; omega); exact (by have := HA.out; have := HN0.out; omega); exact h (by unfold ShapeD; exact ⟨fun _ => ⟨rfl, eq_empty HG.out.2.1 hm0⟩, fun _ _ => HT0.out, fun _ _ => eq_empty HG.out.2.2.1 hi0, fun _ => eq_empty HG.out.2.2.2.1 hr0, .inl ⟨by decide, HWH.out⟩⟩)), hi, hr]
        simp [okDs]
      have HS := Lib.hid hS
      clear hS
      go_wp2_with fail
      go_ret
      refine ⟨lf1, ?_, ?_, H3.out.2.2, H3.out.2.1⟩
      · rw [HS.out]; rfl
      · intro q hq; rw [HS.out] at hq; cases hq; have := HA.out; omega
set_option maxRecDepth 100000 in
set_option maxHeartbeats 8000000 in
theorem right_step3 (k n : Int) (neg : Bool) (mag : List Int) (text : ByteArray) (items rest : List Dm) (ml il rl : Nat) (hk0 : k = 3) (hml : mag.length = ml) (hil : items.length = il) (hrl : rest.length = rl) (hsz : ml ≤ 1048576 ∧ il ≤ 1048576 ∧ rl ≤ 1048576) (deep : Int) (hdp : 0 ≤ deep ∧ deep ≤ 100)
    (hP : 0 < deep → ∀ d ∈ items, RightAt d (deep - 1)) (hP2 : 0 < deep → ∀ d ∈ rest, RightAt d (deep - 1)) (w : World) (R : HP) (gp : Nat) (p lf dp : Int) (hlf : lf = 20000 - p) (hdq : dp = 101 - deep) (hp : 0 ≤ p ∧ p ≤ 20000)
    (am : Option Addr) (cm : Nat) (ai : Option Addr) (ci : Nat) (ar : Option Addr) (cr : Nat)
    (hs : sat w (blk gp (.cells #[.int .i64 lf] 89 (0, 0)) * R)) (hd : DK R (.mk k n neg mag text items rest) [.int .i64 k, .int .i64 n, .bool neg, .slice am ml cm, .string text, .slice ai il ci, .slice ar rl cr]) :
    Calls Try.prog 49 #[.pointer (some ⟨gp, 0, none⟩), .agg #[.int .i64 k, .int .i64 n, .bool neg, .slice am ml cm, .string text, .slice ai il ci, .slice ar rl cr], .int .i64 dp] w (DrPost gp R (okD (.mk k n neg mag text items rest) deep p) w) := by
  have HK0 := Lib.hid hk0
  clear hk0
  have h1 : sat (w.alloc (dmO [.int .i64 k, .int .i64 n, .bool neg, .slice am ml cm, .string text, .slice ai il ci, .slice ar rl cr])) (blk gp (.cells #[.int .i64 lf] 89 (0, 0)) * (blk w.heap.size (dmO [.int .i64 k, .int .i64 n, .bool neg, .slice am ml cm, .string text, .slice ai il ci, .slice ar rl cr]) * R)) := (hs.alloc (dmO [.int .i64 k, .int .i64 n, .bool neg, .slice am ml cm, .string text, .slice ai il ci, .slice ar rl cr])).perm (by ac_rfl)
  have hb1 := Below.zero_alloc w (dmO [.int .i64 k, .int .i64 n, .bool neg, .slice am ml cm, .string text, .slice ai il ci, .slice ar rl cr])
  obtain ⟨g, hg⟩ : ∃ g, w.heap.size = g := ⟨_, rfl⟩
  rw [hg] at h1
  obtain ⟨lf1, hlf1⟩ : ∃ x, lf - 1 = x := ⟨_, rfl⟩
  have p0 := (h1.left.cell 0).trans (show _ = some (Value.int .i64 lf) from rfl)
  have pf := h1.left.frozen 0
  have h2 : sat ((w.alloc (dmO [.int .i64 k, .int .i64 n, .bool neg, .slice am ml cm, .string text, .slice ai il ci, .slice ar rl cr])).setCell ⟨gp, 0, none⟩ (.int .i64 lf1)) (blk gp (.cells #[.int .i64 lf1] 89 (0, 0)) * (blk g (dmO [.int .i64 k, .int .i64 n, .bool neg, .slice am ml cm, .string text, .slice ai il ci, .slice ar rl cr]) * R)) := h1.setCell (off := 0) _
  have hb2 := hb1.setCell (p := ⟨gp, 0, none⟩) (Nat.zero_le _) (.int .i64 lf1)
  have g0 : IntKind.i64.wrap (lf - 1) = lf1 := by rw [IntWalk.i64_in _ (by omega)]; exact hlf1
  have HG := Lib.hid (And.intro hg (And.intro hml (And.intro hil (And.intro hrl (And.intro hP (And.intro hP2 hd))))))
  have HA := Lib.hid (And.intro hlf (And.intro hdq (And.intro hlf1 (And.intro hp hdp))))
  have H1 := Lib.hid (And.intro h2 hb2)
  clear hs h1 hb1 h2 hb2 hml hil hrl hP hP2 hd hlf hdq hlf1 hp hdp
  go_enter Try.func49, Try.ntmps49
  go_upto_region 1 with (fail)
  clear hg
  generalize w.alloc (dmO [.int .i64 k, .int .i64 n, .bool neg, .slice am ml cm, .string text, .slice ai il ci, .slice ar rl cr]) = w1 at *
  go_upto_region 2 with (fail)
  generalize w1.setCell ⟨gp, 0, none⟩ (.int .i64 lf1) = w2 at *
  clear p0 pf g0
  have p0 := (H1.out.1.left.cell 0).trans (show _ = some (Value.int .i64 lf1) from rfl)
  have hbad : (deep = 0 ∨ 20000 < p + 1 ∨ ¬ ShapeD (.mk k n neg mag text items rest)) → ∀ w', sat w' (blk gp (.cells #[.int .i64 lf1] 89 (0, 0)) * R) → Below 0 w w' → DrPost gp R (okD (.mk k n neg mag text items rest) deep p) w (.returned (.bool false)) w' := by
    intro hc w' h' hb'
    have e : okD (.mk k n neg mag text items rest) deep p = none := by unfold okD; rw [if_pos hc]
    rw [e]
    exact ⟨lf1, rfl, fun q' h => (by cases h), h', hb'⟩
  have H2 : sat w2 (blk gp (.cells #[.int .i64 lf1] 89 (0, 0)) * R) := (H1.out.1.perm (show _ = blk g _ * (blk gp _ * R) by ac_rfl)).right
  have HB := Lib.hid (And.intro hbad H2)
  clear hbad H2
  by_cases hl0 : lf1 < 0
  · have el0 : decide (lf1 < 0) = true := by simp [hl0]
    go_wp2_with fail
    go_ret
    exact HB.out.1 (.inr (.inl (by have := HA.out; omega))) _ HB.out.2 H1.out.2
  have el0 : decide (lf1 < 0) = false := by simp; omega
  by_cases hd0 : dp > 100
  · have ed0 : decide (dp > 100) = true := by simp; omega
    go_wp2_with fail
    go_ret
    exact HB.out.1 (.inl (by have := HA.out; omega)) _ HB.out.2 H1.out.2
  have ed0 : decide (dp > 100) = false := by simp; omega
  have c1 := (H1.out.1.right.left.cell 1).trans (show _ = some (Value.int .i64 n) from rfl)
  have hW := refp_half w2 n
  have HN0 := Lib.hid (And.intro hl0 hd0)
  clear hl0 hd0
  cases hw : wholeB n with
  | false =>
    rw [hw] at hW
    have hS : ¬ ShapeD (.mk k n neg mag text items rest) := by
      intro h
      unfold ShapeD at h
      unfold wholeB at hw
      have hw2 := of_decide_eq_false hw
      omega
    have HS := Lib.hid hS
    clear hS hw
    go_wp2_with fail
    refine hW.mono ?_
    clear hW
    rintro e w' ⟨rfl, j, rfl⟩
    go_wp2_with fail
    go_ret
    exact HB.out.1 (.inr (.inr HS.out)) _ (HB.out.2.drewN j) (H1.out.2.trans (drewN_below0 _ _))
  | true =>
    rw [hw] at hW
    have hwh : -549755813888 ≤ n ∧ n ≤ 549755813888 := by unfold wholeB at hw; exact of_decide_eq_true hw
    have HWH := Lib.hid hwh
    clear hw hwh
    go_wp2_with fail
    refine hW.mono ?_
    clear hW c1 p0
    rintro e w3 ⟨rfl, j, hj⟩
    have H3 := Lib.hid (show sat w3 (blk gp (.cells #[.int .i64 lf1] 89 (0, 0)) * (blk g (dmO [.int .i64 k, .int .i64 n, .bool neg, .slice am ml cm, .string text, .slice ai il ci, .slice ar rl cr]) * R)) ∧ Below 0 w w3 ∧ sat w3 (blk gp (.cells #[.int .i64 lf1] 89 (0, 0)) * R) from by rw [hj]; exact ⟨H1.out.1.drewN j, H1.out.2.trans (drewN_below0 _ _), HB.out.2.drewN j⟩)
    clear hj H1
    have c0 := (H3.out.1.right.left.cell 0).trans (show _ = some (Value.int .i64 k) from rfl)
    have c1 := (H3.out.1.right.left.cell 1).trans (show _ = some (Value.int .i64 n) from rfl)
    have c2 := (H3.out.1.right.left.cell 2).trans (show _ = some (Value.bool neg) from rfl)
    have c3 := (H3.out.1.right.left.cell 3).trans (show _ = some (Value.slice am ml cm) from rfl)
    have c4 := (H3.out.1.right.left.cell 4).trans (show _ = some (Value.string text) from rfl)
    have c5 := (H3.out.1.right.left.cell 5).trans (show _ = some (Value.slice ai il ci) from rfl)
    have c6 := (H3.out.1.right.left.cell 6).trans (show _ = some (Value.slice ar rl cr) from rfl)
    have k3 := HK0.out
    subst k3
    by_cases hm0 : 0 < ml
    case pos =>
      have em0 : decide ((ml : Int) > 0) = true := by rw [decide_eq_true_eq]; omega
      go_wp2_with fail
      go_ret
      exact HB.out.1 (.inr (.inr (fun hS => ne_empty HG.out.2.1 hm0 ((shape_ask hS).1 (by decide)).2))) _ H3.out.2.2 H3.out.2.1
    have em0 : decide ((ml : Int) > 0) = false := by rw [decide_eq_false_iff_not]; omega
    cases neg with
    | true =>
      go_wp2_with fail
      go_ret
      exact HB.out.1 (.inr (.inr (fun hS => absurd ((shape_ask hS).1 (by decide)).1 (by decide)))) _ H3.out.2.2 H3.out.2.1
    | false =>
      by_cases ht0 : text = noT
      case neg =>
        have et1 : ¬ (text.toList = []) := text_none ht0
        have et2 : (text.toList == []) = false := by rw [beq_eq_false_iff_ne]; exact et1
        go_wp2_with fail
        go_ret
        exact HB.out.1 (.inr (.inr (fun hS => ht0 ((shape_ask hS).2.1 (by decide) (by decide))))) _ H3.out.2.2 H3.out.2.1
      have et1 : text.toList = [] := by rw [ht0]; exact noT_list
      have HT0 := Lib.hid ht0
      clear ht0
      have et2 : (text.toList == []) = true := by rw [et1]; rfl
      by_cases hi0 : 0 < il
      case pos =>
        have ei0 : decide ((il : Int) > 0) = true := by rw [decide_eq_true_eq]; omega
        go_wp2_with fail
        go_ret
        exact HB.out.1 (.inr (.inr (fun hS => ne_empty HG.out.2.2.1 hi0 ((shape_ask hS).2.2.1 (by decide) (by decide))))) _ H3.out.2.2 H3.out.2.1
      have ei0 : decide ((il : Int) > 0) = false := by rw [decide_eq_false_iff_not]; omega
      by_cases hr0 : 0 < rl
      case pos =>
        have er0 : decide ((rl : Int) > 0) = true := by rw [decide_eq_true_eq]; omega
        go_wp2_with fail
        go_ret
        exact HB.out.1 (.inr (.inr (fun hS => ne_empty HG.out.2.2.2.1 hr0 ((shape_ask hS).2.2.2 (by decide))))) _ H3.out.2.2 H3.out.2.1
      have er0 : decide ((rl : Int) > 0) = false := by rw [decide_eq_false_iff_not]; omega
      have hS : okD (.mk 3 n false mag text items rest) deep p = some (p + 1) := by
        have hi : items = [] := eq_empty HG.out.2.2.1 hi0
        have hr : rest = [] := eq_empty HG.out.2.2.2.1 hr0
        unfold okD
        rw [if_neg (by rintro (h | h | h); exact (by have := HA.out; have := HN0.out; omega); exact (by have := HA.out; have := HN0.out; omega); exact h (by unfold ShapeD; exact ⟨fun _ => ⟨rfl, eq_empty HG.out.2.1 hm0⟩, fun _ _ => HT0.out, fun _ _ => eq_empty HG.out.2.2.1 hi0, fun _ => eq_empty HG.out.2.2.2.1 hr0, .inl ⟨by decide, HWH.out⟩⟩)), hi, hr]
        simp [okDs]
      have HS := Lib.hid hS
      clear hS
      go_wp2_with fail
      go_ret
      refine ⟨lf1, ?_, ?_, H3.out.2.2, H3.out.2.1⟩
      · rw [HS.out]; rfl
      · intro q hq; rw [HS.out] at hq; cases hq; have := HA.out; omega
set_option maxRecDepth 100000 in
set_option maxHeartbeats 8000000 in
theorem right_step5 (k n : Int) (neg : Bool) (mag : List Int) (text : ByteArray) (items rest : List Dm) (ml il rl : Nat) (hk0 : k = 5) (hml : mag.length = ml) (hil : items.length = il) (hrl : rest.length = rl) (hsz : ml ≤ 1048576 ∧ il ≤ 1048576 ∧ rl ≤ 1048576) (deep : Int) (hdp : 0 ≤ deep ∧ deep ≤ 100)
    (hP : 0 < deep → ∀ d ∈ items, RightAt d (deep - 1)) (hP2 : 0 < deep → ∀ d ∈ rest, RightAt d (deep - 1)) (w : World) (R : HP) (gp : Nat) (p lf dp : Int) (hlf : lf = 20000 - p) (hdq : dp = 101 - deep) (hp : 0 ≤ p ∧ p ≤ 20000)
    (am : Option Addr) (cm : Nat) (ai : Option Addr) (ci : Nat) (ar : Option Addr) (cr : Nat)
    (hs : sat w (blk gp (.cells #[.int .i64 lf] 89 (0, 0)) * R)) (hd : DK R (.mk k n neg mag text items rest) [.int .i64 k, .int .i64 n, .bool neg, .slice am ml cm, .string text, .slice ai il ci, .slice ar rl cr]) :
    Calls Try.prog 49 #[.pointer (some ⟨gp, 0, none⟩), .agg #[.int .i64 k, .int .i64 n, .bool neg, .slice am ml cm, .string text, .slice ai il ci, .slice ar rl cr], .int .i64 dp] w (DrPost gp R (okD (.mk k n neg mag text items rest) deep p) w) := by
  have HK0 := Lib.hid hk0
  clear hk0
  have h1 : sat (w.alloc (dmO [.int .i64 k, .int .i64 n, .bool neg, .slice am ml cm, .string text, .slice ai il ci, .slice ar rl cr])) (blk gp (.cells #[.int .i64 lf] 89 (0, 0)) * (blk w.heap.size (dmO [.int .i64 k, .int .i64 n, .bool neg, .slice am ml cm, .string text, .slice ai il ci, .slice ar rl cr]) * R)) := (hs.alloc (dmO [.int .i64 k, .int .i64 n, .bool neg, .slice am ml cm, .string text, .slice ai il ci, .slice ar rl cr])).perm (by ac_rfl)
  have hb1 := Below.zero_alloc w (dmO [.int .i64 k, .int .i64 n, .bool neg, .slice am ml cm, .string text, .slice ai il ci, .slice ar rl cr])
  obtain ⟨g, hg⟩ : ∃ g, w.heap.size = g := ⟨_, rfl⟩
  rw [hg] at h1
  obtain ⟨lf1, hlf1⟩ : ∃ x, lf - 1 = x := ⟨_, rfl⟩
  have p0 := (h1.left.cell 0).trans (show _ = some (Value.int .i64 lf) from rfl)
  have pf := h1.left.frozen 0
  have h2 : sat ((w.alloc (dmO [.int .i64 k, .int .i64 n, .bool neg, .slice am ml cm, .string text, .slice ai il ci, .slice ar rl cr])).setCell ⟨gp, 0, none⟩ (.int .i64 lf1)) (blk gp (.cells #[.int .i64 lf1] 89 (0, 0)) * (blk g (dmO [.int .i64 k, .int .i64 n, .bool neg, .slice am ml cm, .string text, .slice ai il ci, .slice ar rl cr]) * R)) := h1.setCell (off := 0) _
  have hb2 := hb1.setCell (p := ⟨gp, 0, none⟩) (Nat.zero_le _) (.int .i64 lf1)
  have g0 : IntKind.i64.wrap (lf - 1) = lf1 := by rw [IntWalk.i64_in _ (by omega)]; exact hlf1
  have HG := Lib.hid (And.intro hg (And.intro hml (And.intro hil (And.intro hrl (And.intro hP (And.intro hP2 hd))))))
  have HA := Lib.hid (And.intro hlf (And.intro hdq (And.intro hlf1 (And.intro hp hdp))))
  have H1 := Lib.hid (And.intro h2 hb2)
  clear hs h1 hb1 h2 hb2 hml hil hrl hP hP2 hd hlf hdq hlf1 hp hdp
  go_enter Try.func49, Try.ntmps49
  go_upto_region 1 with (fail)
  clear hg
  generalize w.alloc (dmO [.int .i64 k, .int .i64 n, .bool neg, .slice am ml cm, .string text, .slice ai il ci, .slice ar rl cr]) = w1 at *
  go_upto_region 2 with (fail)
  generalize w1.setCell ⟨gp, 0, none⟩ (.int .i64 lf1) = w2 at *
  clear p0 pf g0
  have p0 := (H1.out.1.left.cell 0).trans (show _ = some (Value.int .i64 lf1) from rfl)
  have hbad : (deep = 0 ∨ 20000 < p + 1 ∨ ¬ ShapeD (.mk k n neg mag text items rest)) → ∀ w', sat w' (blk gp (.cells #[.int .i64 lf1] 89 (0, 0)) * R) → Below 0 w w' → DrPost gp R (okD (.mk k n neg mag text items rest) deep p) w (.returned (.bool false)) w' := by
    intro hc w' h' hb'
    have e : okD (.mk k n neg mag text items rest) deep p = none := by unfold okD; rw [if_pos hc]
    rw [e]
    exact ⟨lf1, rfl, fun q' h => (by cases h), h', hb'⟩
  have H2 : sat w2 (blk gp (.cells #[.int .i64 lf1] 89 (0, 0)) * R) := (H1.out.1.perm (show _ = blk g _ * (blk gp _ * R) by ac_rfl)).right
  have HB := Lib.hid (And.intro hbad H2)
  clear hbad H2
  by_cases hl0 : lf1 < 0
  · have el0 : decide (lf1 < 0) = true := by simp [hl0]
    go_wp2_with fail
    go_ret
    exact HB.out.1 (.inr (.inl (by have := HA.out; omega))) _ HB.out.2 H1.out.2
  have el0 : decide (lf1 < 0) = false := by simp; omega
  by_cases hd0 : dp > 100
  · have ed0 : decide (dp > 100) = true := by simp; omega
    go_wp2_with fail
    go_ret
    exact HB.out.1 (.inl (by have := HA.out; omega)) _ HB.out.2 H1.out.2
  have ed0 : decide (dp > 100) = false := by simp; omega
  have c1 := (H1.out.1.right.left.cell 1).trans (show _ = some (Value.int .i64 n) from rfl)
  have hW := refp_half w2 n
  have HN0 := Lib.hid (And.intro hl0 hd0)
  clear hl0 hd0
  cases hw : wholeB n with
  | false =>
    rw [hw] at hW
    have hS : ¬ ShapeD (.mk k n neg mag text items rest) := by
      intro h
      unfold ShapeD at h
      unfold wholeB at hw
      have hw2 := of_decide_eq_false hw
      omega
    have HS := Lib.hid hS
    clear hS hw
    go_wp2_with fail
    refine hW.mono ?_
    clear hW
    rintro e w' ⟨rfl, j, rfl⟩
    go_wp2_with fail
    go_ret
    exact HB.out.1 (.inr (.inr HS.out)) _ (HB.out.2.drewN j) (H1.out.2.trans (drewN_below0 _ _))
  | true =>
    rw [hw] at hW
    have hwh : -549755813888 ≤ n ∧ n ≤ 549755813888 := by unfold wholeB at hw; exact of_decide_eq_true hw
    have HWH := Lib.hid hwh
    clear hw hwh
    go_wp2_with fail
    refine hW.mono ?_
    clear hW c1 p0
    rintro e w3 ⟨rfl, j, hj⟩
    have H3 := Lib.hid (show sat w3 (blk gp (.cells #[.int .i64 lf1] 89 (0, 0)) * (blk g (dmO [.int .i64 k, .int .i64 n, .bool neg, .slice am ml cm, .string text, .slice ai il ci, .slice ar rl cr]) * R)) ∧ Below 0 w w3 ∧ sat w3 (blk gp (.cells #[.int .i64 lf1] 89 (0, 0)) * R) from by rw [hj]; exact ⟨H1.out.1.drewN j, H1.out.2.trans (drewN_below0 _ _), HB.out.2.drewN j⟩)
    clear hj H1
    have c0 := (H3.out.1.right.left.cell 0).trans (show _ = some (Value.int .i64 k) from rfl)
    have c1 := (H3.out.1.right.left.cell 1).trans (show _ = some (Value.int .i64 n) from rfl)
    have c2 := (H3.out.1.right.left.cell 2).trans (show _ = some (Value.bool neg) from rfl)
    have c3 := (H3.out.1.right.left.cell 3).trans (show _ = some (Value.slice am ml cm) from rfl)
    have c4 := (H3.out.1.right.left.cell 4).trans (show _ = some (Value.string text) from rfl)
    have c5 := (H3.out.1.right.left.cell 5).trans (show _ = some (Value.slice ai il ci) from rfl)
    have c6 := (H3.out.1.right.left.cell 6).trans (show _ = some (Value.slice ar rl cr) from rfl)
    have k5 := HK0.out
    subst k5
    by_cases hm0 : 0 < ml
    case pos =>
      have em0 : decide ((ml : Int) > 0) = true := by rw [decide_eq_true_eq]; omega
      go_wp2_with fail
      go_ret
      exact HB.out.1 (.inr (.inr (fun hS => ne_empty HG.out.2.1 hm0 ((shape_ask hS).1 (by decide)).2))) _ H3.out.2.2 H3.out.2.1
    have em0 : decide ((ml : Int) > 0) = false := by rw [decide_eq_false_iff_not]; omega
    cases neg with
    | true =>
      go_wp2_with fail
      go_ret
      exact HB.out.1 (.inr (.inr (fun hS => absurd ((shape_ask hS).1 (by decide)).1 (by decide)))) _ H3.out.2.2 H3.out.2.1
    | false =>
      by_cases hi0 : 0 < il
      case pos =>
        have ei0 : decide ((il : Int) > 0) = true := by rw [decide_eq_true_eq]; omega
        go_wp2_with fail
        go_ret
        exact HB.out.1 (.inr (.inr (fun hS => ne_empty HG.out.2.2.1 hi0 ((shape_ask hS).2.2.1 (by decide) (by decide))))) _ H3.out.2.2 H3.out.2.1
      have ei0 : decide ((il : Int) > 0) = false := by rw [decide_eq_false_iff_not]; omega
      by_cases hr0 : 0 < rl
      case pos =>
        have er0 : decide ((rl : Int) > 0) = true := by rw [decide_eq_true_eq]; omega
        go_wp2_with fail
        go_ret
        exact HB.out.1 (.inr (.inr (fun hS => ne_empty HG.out.2.2.2.1 hr0 ((shape_ask hS).2.2.2 (by decide))))) _ H3.out.2.2 H3.out.2.1
      have er0 : decide ((rl : Int) > 0) = false := by rw [decide_eq_false_iff_not]; omega
      have hS : okD (.mk 5 n false mag text items rest) deep p = some (p + 1) := by
        have hi : items = [] := eq_empty HG.out.2.2.1 hi0
        have hr : rest = [] := eq_empty HG.out.2.2.2.1 hr0
        unfold okD
        rw [if_neg (by rintro (h | h | h); exact (by have := HA.out; have := HN0.out; omega); exact (by have := HA.out; have := HN0.out; omega); exact h (by unfold ShapeD; exact ⟨fun _ => ⟨rfl, eq_empty HG.out.2.1 hm0⟩, fun _ h => absurd rfl h, fun _ _ => eq_empty HG.out.2.2.1 hi0, fun _ => eq_empty HG.out.2.2.2.1 hr0, .inl ⟨by decide, HWH.out⟩⟩)), hi, hr]
        simp [okDs]
      have HS := Lib.hid hS
      clear hS
      go_wp2_with fail
      go_ret
      refine ⟨lf1, ?_, ?_, H3.out.2.2, H3.out.2.1⟩
      · rw [HS.out]; rfl
      · intro q hq; rw [HS.out] at hq; cases hq; have := HA.out; omega
set_option maxRecDepth 100000 in
set_option maxHeartbeats 8000000 in
theorem right_step9 (k n : Int) (neg : Bool) (mag : List Int) (text : ByteArray) (items rest : List Dm) (ml il rl : Nat) (hk0 : k = 9) (hml : mag.length = ml) (hil : items.length = il) (hrl : rest.length = rl) (hsz : ml ≤ 1048576 ∧ il ≤ 1048576 ∧ rl ≤ 1048576) (deep : Int) (hdp : 0 ≤ deep ∧ deep ≤ 100)
    (hP : 0 < deep → ∀ d ∈ items, RightAt d (deep - 1)) (hP2 : 0 < deep → ∀ d ∈ rest, RightAt d (deep - 1)) (w : World) (R : HP) (gp : Nat) (p lf dp : Int) (hlf : lf = 20000 - p) (hdq : dp = 101 - deep) (hp : 0 ≤ p ∧ p ≤ 20000)
    (am : Option Addr) (cm : Nat) (ai : Option Addr) (ci : Nat) (ar : Option Addr) (cr : Nat)
    (hs : sat w (blk gp (.cells #[.int .i64 lf] 89 (0, 0)) * R)) (hd : DK R (.mk k n neg mag text items rest) [.int .i64 k, .int .i64 n, .bool neg, .slice am ml cm, .string text, .slice ai il ci, .slice ar rl cr]) :
    Calls Try.prog 49 #[.pointer (some ⟨gp, 0, none⟩), .agg #[.int .i64 k, .int .i64 n, .bool neg, .slice am ml cm, .string text, .slice ai il ci, .slice ar rl cr], .int .i64 dp] w (DrPost gp R (okD (.mk k n neg mag text items rest) deep p) w) := by
  have HK0 := Lib.hid hk0
  clear hk0
  have h1 : sat (w.alloc (dmO [.int .i64 k, .int .i64 n, .bool neg, .slice am ml cm, .string text, .slice ai il ci, .slice ar rl cr])) (blk gp (.cells #[.int .i64 lf] 89 (0, 0)) * (blk w.heap.size (dmO [.int .i64 k, .int .i64 n, .bool neg, .slice am ml cm, .string text, .slice ai il ci, .slice ar rl cr]) * R)) := (hs.alloc (dmO [.int .i64 k, .int .i64 n, .bool neg, .slice am ml cm, .string text, .slice ai il ci, .slice ar rl cr])).perm (by ac_rfl)
  have hb1 := Below.zero_alloc w (dmO [.int .i64 k, .int .i64 n, .bool neg, .slice am ml cm, .string text, .slice ai il ci, .slice ar rl cr])
  obtain ⟨g, hg⟩ : ∃ g, w.heap.size = g := ⟨_, rfl⟩
  rw [hg] at h1
  obtain ⟨lf1, hlf1⟩ : ∃ x, lf - 1 = x := ⟨_, rfl⟩
  have p0 := (h1.left.cell 0).trans (show _ = some (Value.int .i64 lf) from rfl)
  have pf := h1.left.frozen 0
  have h2 : sat ((w.alloc (dmO [.int .i64 k, .int .i64 n, .bool neg, .slice am ml cm, .string text, .slice ai il ci, .slice ar rl cr])).setCell ⟨gp, 0, none⟩ (.int .i64 lf1)) (blk gp (.cells #[.int .i64 lf1] 89 (0, 0)) * (blk g (dmO [.int .i64 k, .int .i64 n, .bool neg, .slice am ml cm, .string text, .slice ai il ci, .slice ar rl cr]) * R)) := h1.setCell (off := 0) _
  have hb2 := hb1.setCell (p := ⟨gp, 0, none⟩) (Nat.zero_le _) (.int .i64 lf1)
  have g0 : IntKind.i64.wrap (lf - 1) = lf1 := by rw [IntWalk.i64_in _ (by omega)]; exact hlf1
  have HG := Lib.hid (And.intro hg (And.intro hml (And.intro hil (And.intro hrl (And.intro hP (And.intro hP2 hd))))))
  have HA := Lib.hid (And.intro hlf (And.intro hdq (And.intro hlf1 (And.intro hp hdp))))
  have H1 := Lib.hid (And.intro h2 hb2)
  clear hs h1 hb1 h2 hb2 hml hil hrl hP hP2 hd hlf hdq hlf1 hp hdp
  go_enter Try.func49, Try.ntmps49
  go_upto_region 1 with (fail)
  clear hg
  generalize w.alloc (dmO [.int .i64 k, .int .i64 n, .bool neg, .slice am ml cm, .string text, .slice ai il ci, .slice ar rl cr]) = w1 at *
  go_upto_region 2 with (fail)
  generalize w1.setCell ⟨gp, 0, none⟩ (.int .i64 lf1) = w2 at *
  clear p0 pf g0
  have p0 := (H1.out.1.left.cell 0).trans (show _ = some (Value.int .i64 lf1) from rfl)
  have hbad : (deep = 0 ∨ 20000 < p + 1 ∨ ¬ ShapeD (.mk k n neg mag text items rest)) → ∀ w', sat w' (blk gp (.cells #[.int .i64 lf1] 89 (0, 0)) * R) → Below 0 w w' → DrPost gp R (okD (.mk k n neg mag text items rest) deep p) w (.returned (.bool false)) w' := by
    intro hc w' h' hb'
    have e : okD (.mk k n neg mag text items rest) deep p = none := by unfold okD; rw [if_pos hc]
    rw [e]
    exact ⟨lf1, rfl, fun q' h => (by cases h), h', hb'⟩
  have H2 : sat w2 (blk gp (.cells #[.int .i64 lf1] 89 (0, 0)) * R) := (H1.out.1.perm (show _ = blk g _ * (blk gp _ * R) by ac_rfl)).right
  have HB := Lib.hid (And.intro hbad H2)
  clear hbad H2
  by_cases hl0 : lf1 < 0
  · have el0 : decide (lf1 < 0) = true := by simp [hl0]
    go_wp2_with fail
    go_ret
    exact HB.out.1 (.inr (.inl (by have := HA.out; omega))) _ HB.out.2 H1.out.2
  have el0 : decide (lf1 < 0) = false := by simp; omega
  by_cases hd0 : dp > 100
  · have ed0 : decide (dp > 100) = true := by simp; omega
    go_wp2_with fail
    go_ret
    exact HB.out.1 (.inl (by have := HA.out; omega)) _ HB.out.2 H1.out.2
  have ed0 : decide (dp > 100) = false := by simp; omega
  have c1 := (H1.out.1.right.left.cell 1).trans (show _ = some (Value.int .i64 n) from rfl)
  have hW := refp_half w2 n
  have HN0 := Lib.hid (And.intro hl0 hd0)
  clear hl0 hd0
  cases hw : wholeB n with
  | false =>
    rw [hw] at hW
    have hS : ¬ ShapeD (.mk k n neg mag text items rest) := by
      intro h
      unfold ShapeD at h
      unfold wholeB at hw
      have hw2 := of_decide_eq_false hw
      omega
    have HS := Lib.hid hS
    clear hS hw
    go_wp2_with fail
    refine hW.mono ?_
    clear hW
    rintro e w' ⟨rfl, j, rfl⟩
    go_wp2_with fail
    go_ret
    exact HB.out.1 (.inr (.inr HS.out)) _ (HB.out.2.drewN j) (H1.out.2.trans (drewN_below0 _ _))
  | true =>
    rw [hw] at hW
    have hwh : -549755813888 ≤ n ∧ n ≤ 549755813888 := by unfold wholeB at hw; exact of_decide_eq_true hw
    have HWH := Lib.hid hwh
    clear hw hwh
    go_wp2_with fail
    refine hW.mono ?_
    clear hW c1 p0
    rintro e w3 ⟨rfl, j, hj⟩
    have H3 := Lib.hid (show sat w3 (blk gp (.cells #[.int .i64 lf1] 89 (0, 0)) * (blk g (dmO [.int .i64 k, .int .i64 n, .bool neg, .slice am ml cm, .string text, .slice ai il ci, .slice ar rl cr]) * R)) ∧ Below 0 w w3 ∧ sat w3 (blk gp (.cells #[.int .i64 lf1] 89 (0, 0)) * R) from by rw [hj]; exact ⟨H1.out.1.drewN j, H1.out.2.trans (drewN_below0 _ _), HB.out.2.drewN j⟩)
    clear hj H1
    have c0 := (H3.out.1.right.left.cell 0).trans (show _ = some (Value.int .i64 k) from rfl)
    have c1 := (H3.out.1.right.left.cell 1).trans (show _ = some (Value.int .i64 n) from rfl)
    have c2 := (H3.out.1.right.left.cell 2).trans (show _ = some (Value.bool neg) from rfl)
    have c3 := (H3.out.1.right.left.cell 3).trans (show _ = some (Value.slice am ml cm) from rfl)
    have c4 := (H3.out.1.right.left.cell 4).trans (show _ = some (Value.string text) from rfl)
    have c5 := (H3.out.1.right.left.cell 5).trans (show _ = some (Value.slice ai il ci) from rfl)
    have c6 := (H3.out.1.right.left.cell 6).trans (show _ = some (Value.slice ar rl cr) from rfl)
    have k9 := HK0.out
    subst k9
    by_cases hm0 : 0 < ml
    case pos =>
      have em0 : decide ((ml : Int) > 0) = true := by rw [decide_eq_true_eq]; omega
      go_wp2_with fail
      go_ret
      exact HB.out.1 (.inr (.inr (fun hS => ne_empty HG.out.2.1 hm0 ((shape_ask hS).1 (by decide)).2))) _ H3.out.2.2 H3.out.2.1
    have em0 : decide ((ml : Int) > 0) = false := by rw [decide_eq_false_iff_not]; omega
    cases neg with
    | true =>
      go_wp2_with fail
      go_ret
      exact HB.out.1 (.inr (.inr (fun hS => absurd ((shape_ask hS).1 (by decide)).1 (by decide)))) _ H3.out.2.2 H3.out.2.1
    | false =>
      by_cases ht0 : text = noT
      case neg =>
        have et1 : ¬ (text.toList = []) := text_none ht0
        have et2 : (text.toList == []) = false := by rw [beq_eq_false_iff_ne]; exact et1
        go_wp2_with fail
        go_ret
        exact HB.out.1 (.inr (.inr (fun hS => ht0 ((shape_ask hS).2.1 (by decide) (by decide))))) _ H3.out.2.2 H3.out.2.1
      have et1 : text.toList = [] := by rw [ht0]; exact noT_list
      have HT0 := Lib.hid ht0
      clear ht0
      have et2 : (text.toList == []) = true := by rw [et1]; rfl
      by_cases hi0 : 0 < il
      case pos =>
        have ei0 : decide ((il : Int) > 0) = true := by rw [decide_eq_true_eq]; omega
        go_wp2_with fail
        go_ret
        exact HB.out.1 (.inr (.inr (fun hS => ne_empty HG.out.2.2.1 hi0 ((shape_ask hS).2.2.1 (by decide) (by decide))))) _ H3.out.2.2 H3.out.2.1
      have ei0 : decide ((il : Int) > 0) = false := by rw [decide_eq_false_iff_not]; omega
      by_cases hr0 : 0 < rl
      case pos =>
        have er0 : decide ((rl : Int) > 0) = true := by rw [decide_eq_true_eq]; omega
        go_wp2_with fail
        go_ret
        exact HB.out.1 (.inr (.inr (fun hS => ne_empty HG.out.2.2.2.1 hr0 ((shape_ask hS).2.2.2 (by decide))))) _ H3.out.2.2 H3.out.2.1
      have er0 : decide ((rl : Int) > 0) = false := by rw [decide_eq_false_iff_not]; omega
      have hS : okD (.mk 9 n false mag text items rest) deep p = some (p + 1) := by
        have hi : items = [] := eq_empty HG.out.2.2.1 hi0
        have hr : rest = [] := eq_empty HG.out.2.2.2.1 hr0
        unfold okD
        rw [if_neg (by rintro (h | h | h); exact (by have := HA.out; have := HN0.out; omega); exact (by have := HA.out; have := HN0.out; omega); exact h (by unfold ShapeD; exact ⟨fun _ => ⟨rfl, eq_empty HG.out.2.1 hm0⟩, fun _ _ => HT0.out, fun _ _ => eq_empty HG.out.2.2.1 hi0, fun _ => eq_empty HG.out.2.2.2.1 hr0, .inl ⟨by decide, HWH.out⟩⟩)), hi, hr]
        simp [okDs]
      have HS := Lib.hid hS
      clear hS
      go_wp2_with fail
      go_ret
      refine ⟨lf1, ?_, ?_, H3.out.2.2, H3.out.2.1⟩
      · rw [HS.out]; rfl
      · intro q hq; rw [HS.out] at hq; cases hq; have := HA.out; omega
set_option maxRecDepth 100000 in
set_option maxHeartbeats 8000000 in
theorem right_step0 (k n : Int) (neg : Bool) (mag : List Int) (text : ByteArray) (items rest : List Dm) (ml il rl : Nat) (hk0 : k ≠ 1 ∧ k ≠ 2 ∧ k ≠ 3 ∧ k ≠ 4 ∧ k ≠ 5 ∧ k ≠ 6 ∧ k ≠ 7 ∧ k ≠ 8 ∧ k ≠ 9) (hml : mag.length = ml) (hil : items.length = il) (hrl : rest.length = rl) (hsz : ml ≤ 1048576 ∧ il ≤ 1048576 ∧ rl ≤ 1048576) (deep : Int) (hdp : 0 ≤ deep ∧ deep ≤ 100)
    (hP : 0 < deep → ∀ d ∈ items, RightAt d (deep - 1)) (hP2 : 0 < deep → ∀ d ∈ rest, RightAt d (deep - 1)) (w : World) (R : HP) (gp : Nat) (p lf dp : Int) (hlf : lf = 20000 - p) (hdq : dp = 101 - deep) (hp : 0 ≤ p ∧ p ≤ 20000)
    (am : Option Addr) (cm : Nat) (ai : Option Addr) (ci : Nat) (ar : Option Addr) (cr : Nat)
    (hs : sat w (blk gp (.cells #[.int .i64 lf] 89 (0, 0)) * R)) (hd : DK R (.mk k n neg mag text items rest) [.int .i64 k, .int .i64 n, .bool neg, .slice am ml cm, .string text, .slice ai il ci, .slice ar rl cr]) :
    Calls Try.prog 49 #[.pointer (some ⟨gp, 0, none⟩), .agg #[.int .i64 k, .int .i64 n, .bool neg, .slice am ml cm, .string text, .slice ai il ci, .slice ar rl cr], .int .i64 dp] w (DrPost gp R (okD (.mk k n neg mag text items rest) deep p) w) := by
  have HK0 := Lib.hid hk0
  clear hk0
  have h1 : sat (w.alloc (dmO [.int .i64 k, .int .i64 n, .bool neg, .slice am ml cm, .string text, .slice ai il ci, .slice ar rl cr])) (blk gp (.cells #[.int .i64 lf] 89 (0, 0)) * (blk w.heap.size (dmO [.int .i64 k, .int .i64 n, .bool neg, .slice am ml cm, .string text, .slice ai il ci, .slice ar rl cr]) * R)) := (hs.alloc (dmO [.int .i64 k, .int .i64 n, .bool neg, .slice am ml cm, .string text, .slice ai il ci, .slice ar rl cr])).perm (by ac_rfl)
  have hb1 := Below.zero_alloc w (dmO [.int .i64 k, .int .i64 n, .bool neg, .slice am ml cm, .string text, .slice ai il ci, .slice ar rl cr])
  obtain ⟨g, hg⟩ : ∃ g, w.heap.size = g := ⟨_, rfl⟩
  rw [hg] at h1
  obtain ⟨lf1, hlf1⟩ : ∃ x, lf - 1 = x := ⟨_, rfl⟩
  have p0 := (h1.left.cell 0).trans (show _ = some (Value.int .i64 lf) from rfl)
  have pf := h1.left.frozen 0
  have h2 : sat ((w.alloc (dmO [.int .i64 k, .int .i64 n, .bool neg, .slice am ml cm, .string text, .slice ai il ci, .slice ar rl cr])).setCell ⟨gp, 0, none⟩ (.int .i64 lf1)) (blk gp (.cells #[.int .i64 lf1] 89 (0, 0)) * (blk g (dmO [.int .i64 k, .int .i64 n, .bool neg, .slice am ml cm, .string text, .slice ai il ci, .slice ar rl cr]) * R)) := h1.setCell (off := 0) _
  have hb2 := hb1.setCell (p := ⟨gp, 0, none⟩) (Nat.zero_le _) (.int .i64 lf1)
  have g0 : IntKind.i64.wrap (lf - 1) = lf1 := by rw [IntWalk.i64_in _ (by omega)]; exact hlf1
  have HG := Lib.hid (And.intro hg (And.intro hml (And.intro hil (And.intro hrl (And.intro hP (And.intro hP2 hd))))))
  have HA := Lib.hid (And.intro hlf (And.intro hdq (And.intro hlf1 (And.intro hp hdp))))
  have H1 := Lib.hid (And.intro h2 hb2)
  clear hs h1 hb1 h2 hb2 hml hil hrl hP hP2 hd hlf hdq hlf1 hp hdp
  go_enter Try.func49, Try.ntmps49
  go_upto_region 1 with (fail)
  clear hg
  generalize w.alloc (dmO [.int .i64 k, .int .i64 n, .bool neg, .slice am ml cm, .string text, .slice ai il ci, .slice ar rl cr]) = w1 at *
  go_upto_region 2 with (fail)
  generalize w1.setCell ⟨gp, 0, none⟩ (.int .i64 lf1) = w2 at *
  clear p0 pf g0
  have p0 := (H1.out.1.left.cell 0).trans (show _ = some (Value.int .i64 lf1) from rfl)
  have hbad : (deep = 0 ∨ 20000 < p + 1 ∨ ¬ ShapeD (.mk k n neg mag text items rest)) → ∀ w', sat w' (blk gp (.cells #[.int .i64 lf1] 89 (0, 0)) * R) → Below 0 w w' → DrPost gp R (okD (.mk k n neg mag text items rest) deep p) w (.returned (.bool false)) w' := by
    intro hc w' h' hb'
    have e : okD (.mk k n neg mag text items rest) deep p = none := by unfold okD; rw [if_pos hc]
    rw [e]
    exact ⟨lf1, rfl, fun q' h => (by cases h), h', hb'⟩
  have H2 : sat w2 (blk gp (.cells #[.int .i64 lf1] 89 (0, 0)) * R) := (H1.out.1.perm (show _ = blk g _ * (blk gp _ * R) by ac_rfl)).right
  have HB := Lib.hid (And.intro hbad H2)
  clear hbad H2
  by_cases hl0 : lf1 < 0
  · have el0 : decide (lf1 < 0) = true := by simp [hl0]
    go_wp2_with fail
    go_ret
    exact HB.out.1 (.inr (.inl (by have := HA.out; omega))) _ HB.out.2 H1.out.2
  have el0 : decide (lf1 < 0) = false := by simp; omega
  by_cases hd0 : dp > 100
  · have ed0 : decide (dp > 100) = true := by simp; omega
    go_wp2_with fail
    go_ret
    exact HB.out.1 (.inl (by have := HA.out; omega)) _ HB.out.2 H1.out.2
  have ed0 : decide (dp > 100) = false := by simp; omega
  have c1 := (H1.out.1.right.left.cell 1).trans (show _ = some (Value.int .i64 n) from rfl)
  have hW := refp_half w2 n
  have HN0 := Lib.hid (And.intro hl0 hd0)
  clear hl0 hd0
  cases hw : wholeB n with
  | false =>
    rw [hw] at hW
    have hS : ¬ ShapeD (.mk k n neg mag text items rest) := by
      intro h
      unfold ShapeD at h
      unfold wholeB at hw
      have hw2 := of_decide_eq_false hw
      omega
    have HS := Lib.hid hS
    clear hS hw
    go_wp2_with fail
    refine hW.mono ?_
    clear hW
    rintro e w' ⟨rfl, j, rfl⟩
    go_wp2_with fail
    go_ret
    exact HB.out.1 (.inr (.inr HS.out)) _ (HB.out.2.drewN j) (H1.out.2.trans (drewN_below0 _ _))
  | true =>
    rw [hw] at hW
    have hwh : -549755813888 ≤ n ∧ n ≤ 549755813888 := by unfold wholeB at hw; exact of_decide_eq_true hw
    have HWH := Lib.hid hwh
    clear hw hwh
    go_wp2_with fail
    refine hW.mono ?_
    clear hW c1 p0
    rintro e w3 ⟨rfl, j, hj⟩
    have H3 := Lib.hid (show sat w3 (blk gp (.cells #[.int .i64 lf1] 89 (0, 0)) * (blk g (dmO [.int .i64 k, .int .i64 n, .bool neg, .slice am ml cm, .string text, .slice ai il ci, .slice ar rl cr]) * R)) ∧ Below 0 w w3 ∧ sat w3 (blk gp (.cells #[.int .i64 lf1] 89 (0, 0)) * R) from by rw [hj]; exact ⟨H1.out.1.drewN j, H1.out.2.trans (drewN_below0 _ _), HB.out.2.drewN j⟩)
    clear hj H1
    have c0 := (H3.out.1.right.left.cell 0).trans (show _ = some (Value.int .i64 k) from rfl)
    have c1 := (H3.out.1.right.left.cell 1).trans (show _ = some (Value.int .i64 n) from rfl)
    have c2 := (H3.out.1.right.left.cell 2).trans (show _ = some (Value.bool neg) from rfl)
    have c3 := (H3.out.1.right.left.cell 3).trans (show _ = some (Value.slice am ml cm) from rfl)
    have c4 := (H3.out.1.right.left.cell 4).trans (show _ = some (Value.string text) from rfl)
    have c5 := (H3.out.1.right.left.cell 5).trans (show _ = some (Value.slice ai il ci) from rfl)
    have c6 := (H3.out.1.right.left.cell 6).trans (show _ = some (Value.slice ar rl cr) from rfl)
    obtain ⟨n1, n2, n3, n4, n5, n6, n7, n8, n9⟩ := HK0.out
    have b1 : (k == 1) = false := by simp [n1]
    have b2 : (k == 2) = false := by simp [n2]
    have b3 : (k == 3) = false := by simp [n3]
    have b4 : (k == 4) = false := by simp [n4]
    have b5 : (k == 5) = false := by simp [n5]
    have b6 : (k == 6) = false := by simp [n6]
    have b7 : (k == 7) = false := by simp [n7]
    have b8 : (k == 8) = false := by simp [n8]
    have b9 : (k == 9) = false := by simp [n9]
    have HBD := Lib.hid (show ¬ ShapeD (.mk k n neg mag text items rest) from fun h => by unfold ShapeD at h; omega)
    clear n1 n2 n3 n4 n5 n6 n7 n8 n9
    by_cases hm0 : 0 < ml
    case' pos =>
      have em0 : decide ((ml : Int) > 0) = true := by rw [decide_eq_true_eq]; omega
      go_upto_region 5 with (fail)
    case' neg =>
      have em0 : decide ((ml : Int) > 0) = false := by rw [decide_eq_false_iff_not]; omega
      go_upto_region 5 with (fail)
    all_goals
      go_wp2_with fail
      go_ret
      exact HB.out.1 (.inr (.inr (fun hS => HBD.out hS))) _ H3.out.2.2 H3.out.2.1
end Go.Proofs.Ytkjfplldfjmbaaa
