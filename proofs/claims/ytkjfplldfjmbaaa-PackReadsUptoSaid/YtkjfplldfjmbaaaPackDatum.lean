/- pack.datum. -/
import Derived.Test.YtkjfplldfjmbaaaPackRight
namespace Go.Proofs.Ytkjfplldfjmbaaa
open Go.RowKit
/-- What datum leaves. -/
def DaPost (gp : Nat) (R : HP) (o : Option Int) (w : World) (e : Ending) (w' : World) : Prop :=
  ∃ q : Int, e = .returned (.bool o.isSome) ∧ (∀ q', o = some q' → q = q') ∧ sat w' (blk gp (.cells #[.int .i64 q] 3 (0, 0)) * R) ∧ Below 0 w w'
def DatumAt (d : Dm) (deep : Int) : Prop := ∀ (w : World) (R : HP) (gp : Nat) (p : Int) (cs : List Value), 0 ≤ p ∧ p ≤ 20000 → sat w (blk gp (.cells #[.int .i64 p] 3 (0, 0)) * R) → DK R d cs →
  Calls Try.prog 45 #[.agg cs.toArray, .int .i64 deep, .pointer (some ⟨gp, 0, none⟩)] w (DaPost gp R (okD d deep p) w)
def DoRel (W : World) (gp : Nat) (G : HP) (items rest : List Dm) (deep p1 : Int) (i : Value) (wr : World) : Prop :=
  ∃ (a : Int) (q : Int), a ≤ 2 ∧ i = .int .i64 a ∧ (0 ≤ q ∧ q ≤ 20000) ∧ ((a = 0 ∧ q = p1) ∨ (a = 1 ∧ okDs items (deep - 1) p1 = some q) ∨ (a = 2 ∧ ∃ r, okDs items (deep - 1) p1 = some r ∧ okDs rest (deep - 1) r = some q)) ∧
    sat wr (blk gp (.cells #[.int .i64 q] 3 (0, 0)) * G) ∧ Below 0 W wr
def DiRel (W : World) (gp : Nat) (G : HP) (l : List Dm) (deep q0 : Int) (i : Value) (wr : World) : Prop :=
  ∃ (j : Nat) (q : Int), j ≤ l.length ∧ i = .int .i64 j ∧ (0 ≤ q ∧ q ≤ 20000) ∧ okDs (l.take j) (deep - 1) q0 = some q ∧ sat wr (blk gp (.cells #[.int .i64 q] 3 (0, 0)) * G) ∧ Below 0 W wr
theorem okDs_next {l : List Dm} {j : Nat} {d : Dm} (h : l[j]? = some d) (deep p : Int) : okDs (l.take (j + 1)) deep p = match okDs (l.take j) deep p with
    | none => none
    | some q => okD d deep q := by
  rw [List.take_add_one, h]
  exact okDs_snoc deep (l.take j) d p
theorem okDs_none {l : List Dm} {j : Nat} {d : Dm} {deep p q : Int} (h : l[j]? = some d) (h1 : okDs (l.take j) deep p = some q) (h2 : okD d deep q = none) : okDs l deep p = none := by
  have key : ∀ (l : List Dm) (j : Nat) (d : Dm) (p q : Int), l[j]? = some d → okDs (l.take j) deep p = some q → okD d deep q = none → okDs l deep p = none := by
    intro l
    induction l with
    | nil => intro j d p q h; simp at h
    | cons e l ih =>
      intro j d p q h h1 h2
      cases j with
      | zero =>
        simp at h
        subst h
        rw [List.take_zero] at h1
        unfold okDs at h1 ⊢
        cases h1
        rw [h2]
      | succ j =>
        rw [List.take_succ_cons] at h1
        unfold okDs at h1 ⊢
        cases he : okD e deep p with
        | none => rfl
        | some r =>
          rw [he] at h1
          exact ih j d r q (by simpa using h) h1 h2
  exact key l j d p q h h1 h2
/-- The four first questions. -/
def AskD (k : Int) (neg : Bool) (mag : List Int) (text : ByteArray) (items rest : List Dm) : Prop :=
  (k ≠ 1 → neg = false ∧ mag = []) ∧ (k ≠ 4 → k ≠ 5 → text = noT) ∧ (k ≠ 6 → k ≠ 7 → items = []) ∧ (k ≠ 6 → rest = [])
theorem shape_ask {k n : Int} {neg : Bool} {mag : List Int} {text : ByteArray} {items rest : List Dm} (h : ShapeD (.mk k n neg mag text items rest)) : AskD k neg mag text items rest := by
  unfold ShapeD at h
  exact ⟨h.1, h.2.1, h.2.2.1, h.2.2.2.1⟩
theorem shape_more {k n : Int} {neg : Bool} {mag : List Int} {text : ByteArray} {items rest : List Dm} (h : ShapeD (.mk k n neg mag text items rest)) (hk : k = 1 ∨ k = 4 ∨ k = 8 ∨ k = 6 ∨ k = 7) :
    n = 0 ∧ limbsOf (valL mag) = mag ∧ (neg = true → mag ≠ []) ∧ (rest = [] ∨ ∃ r, rest = [r] ∧ items ≠ [] ∧ kindD r ≠ 6) := by
  unfold ShapeD at h
  obtain ⟨_, _, _, _, h | h⟩ := h
  · omega
  · exact h.2
theorem noT_list : noT.toList = [] := by rw [ByteArray.toList_eq]; rfl
theorem text_none {t : ByteArray} (h : ¬ t = noT) : ¬ (t.toList = []) := fun h2 => h (text_inj (by rw [h2, noT_list]))
theorem ne_empty {α : Type} {l : List α} {n : Nat} (h : l.length = n) (h0 : 0 < n) : l ≠ [] := by rintro rfl; simp at h; omega
theorem eq_empty {α : Type} {l : List α} {n : Nat} (h : l.length = n) (h0 : ¬ 0 < n) : l = [] := List.eq_nil_of_length_eq_zero (by omega)
theorem canon_sign {neg : Bool} {mag : List Int} (h : decide (sgn neg (valL mag) < 0) = neg) (he : limbsOf (valL mag) = mag) : limbsOf (valL mag) = mag ∧ (neg = true → mag ≠ []) := by
  refine ⟨he, ?_⟩
  rintro rfl rfl
  unfold sgn valL at h
  simp at h
theorem canon_no {neg : Bool} {mag : List Int} (h : decide (sgn neg (valL mag) < 0) ≠ neg) : ¬ (limbsOf (valL mag) = mag ∧ (neg = true → mag ≠ [])) := by
  rintro ⟨h1, h2⟩
  cases neg with
  | false => unfold sgn at h; simp at h
  | true =>
    have h3 := h2 rfl
    unfold sgn at h
    simp at h
    rw [h] at h1
    rw [limbsOf] at h1
    simp at h1
    exact h3 h1
set_option maxRecDepth 100000 in
set_option maxHeartbeats 8000000 in
theorem datum_step2 (k n : Int) (neg : Bool) (mag : List Int) (text : ByteArray) (items rest : List Dm) (ml il rl : Nat) (hk0 : k = 2) (hml : mag.length = ml) (hil : items.length = il) (hrl : rest.length = rl) (hsz : ml ≤ 67108864 ∧ il ≤ 67108864 ∧ rl ≤ 67108864) (deep : Int) (hdp : 0 ≤ deep ∧ deep ≤ 100)
    (hP : 0 < deep → ∀ d ∈ items, DatumAt d (deep - 1)) (hP2 : 0 < deep → ∀ d ∈ rest, DatumAt d (deep - 1)) (w : World) (R : HP) (gp : Nat) (p : Int) (hp : 0 ≤ p ∧ p ≤ 20000)
    (am : Option Addr) (cm : Nat) (ai : Option Addr) (ci : Nat) (ar : Option Addr) (cr : Nat)
    (hs : sat w (blk gp (.cells #[.int .i64 p] 3 (0, 0)) * R)) (hd : DK R (.mk k n neg mag text items rest) [.int .i64 k, .int .i64 n, .bool neg, .slice am ml cm, .string text, .slice ai il ci, .slice ar rl cr]) :
    Calls Try.prog 45 #[.agg #[.int .i64 k, .int .i64 n, .bool neg, .slice am ml cm, .string text, .slice ai il ci, .slice ar rl cr], .int .i64 deep, .pointer (some ⟨gp, 0, none⟩)] w (DaPost gp R (okD (.mk k n neg mag text items rest) deep p) w) := by
  have HK0 := Lib.hid hk0
  clear hk0
  have h1 : sat (w.alloc (dmO [.int .i64 k, .int .i64 n, .bool neg, .slice am ml cm, .string text, .slice ai il ci, .slice ar rl cr])) (blk gp (.cells #[.int .i64 p] 3 (0, 0)) * (blk w.heap.size (dmO [.int .i64 k, .int .i64 n, .bool neg, .slice am ml cm, .string text, .slice ai il ci, .slice ar rl cr]) * R)) := (hs.alloc (dmO [.int .i64 k, .int .i64 n, .bool neg, .slice am ml cm, .string text, .slice ai il ci, .slice ar rl cr])).perm (by ac_rfl)
  have hb1 := Below.zero_alloc w (dmO [.int .i64 k, .int .i64 n, .bool neg, .slice am ml cm, .string text, .slice ai il ci, .slice ar rl cr])
  obtain ⟨g, hg⟩ : ∃ g, w.heap.size = g := ⟨_, rfl⟩
  rw [hg] at h1
  have p0 := (h1.left.cell 0).trans (show _ = some (Value.int .i64 p) from rfl)
  have pf := h1.left.frozen 0
  have h2 : sat ((w.alloc (dmO [.int .i64 k, .int .i64 n, .bool neg, .slice am ml cm, .string text, .slice ai il ci, .slice ar rl cr])).setCell ⟨gp, 0, none⟩ (.int .i64 (p + 1))) (blk gp (.cells #[.int .i64 (p + 1)] 3 (0, 0)) * (blk g (dmO [.int .i64 k, .int .i64 n, .bool neg, .slice am ml cm, .string text, .slice ai il ci, .slice ar rl cr]) * R)) := h1.setCell (off := 0) _
  have hb2 := hb1.setCell (p := ⟨gp, 0, none⟩) (Nat.zero_le _) (.int .i64 (p + 1))
  have g0 : IntKind.i64.wrap (p + 1) = p + 1 := IntWalk.i64_in _ (by omega)
  have HG := Lib.hid (And.intro hg (And.intro hml (And.intro hil (And.intro hrl (And.intro hP (And.intro hP2 hd))))))
  have H1 := Lib.hid (And.intro h2 hb2)
  clear hs h1 hb1 h2 hb2 hml hil hrl hP hP2 hd
  go_enter Try.func45, Try.ntmps45
  go_upto_region 1 with (fail)
  clear hg
  generalize w.alloc (dmO [.int .i64 k, .int .i64 n, .bool neg, .slice am ml cm, .string text, .slice ai il ci, .slice ar rl cr]) = w1 at *
  go_upto_region 2 with (fail)
  generalize w1.setCell ⟨gp, 0, none⟩ (.int .i64 (p + 1)) = w2 at *
  clear p0 pf
  have p0 := (H1.out.1.left.cell 0).trans (show _ = some (Value.int .i64 (p + 1)) from rfl)
  have hbad : (deep = 0 ∨ 20000 < p + 1 ∨ ¬ ShapeD (.mk k n neg mag text items rest)) → ∀ w', sat w' (blk gp (.cells #[.int .i64 (p + 1)] 3 (0, 0)) * R) → Below 0 w w' → DaPost gp R (okD (.mk k n neg mag text items rest) deep p) w (.returned (.bool false)) w' := by
    intro hc w' h' hb'
    have e : okD (.mk k n neg mag text items rest) deep p = none := by unfold okD; rw [if_pos hc]
    rw [e]
    exact ⟨p + 1, rfl, fun q' h => (by cases h), h', hb'⟩
  have H2 : sat w2 (blk gp (.cells #[.int .i64 (p + 1)] 3 (0, 0)) * R) := (H1.out.1.perm (show _ = blk g _ * (blk gp _ * R) by ac_rfl)).right
  have HB := Lib.hid (And.intro hbad H2)
  clear hbad H2
  by_cases hd0 : deep = 0
  · subst hd0
    go_wp2_with fail
    go_ret
    exact HB.out.1 (.inl (by trivial)) _ HB.out.2 H1.out.2
  · have ed0 : (deep == 0) = false := by simp [hd0]
    by_cases hp2 : p + 1 > 20000
    · have ep2 : decide (p + 1 > 20000) = true := by simp; omega
      go_wp2_with fail
      go_ret
      exact HB.out.1 (.inr (.inl (by omega))) _ HB.out.2 H1.out.2
    · have ep2 : decide (p + 1 > 20000) = false := by simp; omega
      go_upto_region 4 with (fail)
      have c0 := (H1.out.1.right.left.cell 0).trans (show _ = some (Value.int .i64 k) from rfl)
      have c1 := (H1.out.1.right.left.cell 1).trans (show _ = some (Value.int .i64 n) from rfl)
      have c2 := (H1.out.1.right.left.cell 2).trans (show _ = some (Value.bool neg) from rfl)
      have c3 := (H1.out.1.right.left.cell 3).trans (show _ = some (Value.slice am ml cm) from rfl)
      have c4 := (H1.out.1.right.left.cell 4).trans (show _ = some (Value.string text) from rfl)
      have c5 := (H1.out.1.right.left.cell 5).trans (show _ = some (Value.slice ai il ci) from rfl)
      have c6 := (H1.out.1.right.left.cell 6).trans (show _ = some (Value.slice ar rl cr) from rfl)
      clear hd0 hp2
      have k2 := HK0.out
      subst k2
      cases neg with
      | true =>
        go_wp2_with fail
        go_ret
        exact HB.out.1 (.inr (.inr (fun hS => absurd ((shape_ask hS).1 (by decide)).1 (by decide)))) _ HB.out.2 H1.out.2
      | false =>
        by_cases hm0 : 0 < ml
        case pos =>
          have em0 : decide ((ml : Int) > 0) = true := by rw [decide_eq_true_eq]; omega
          go_wp2_with fail
          go_ret
          exact HB.out.1 (.inr (.inr (fun hS => ne_empty HG.out.2.1 hm0 ((shape_ask hS).1 (by decide)).2))) _ HB.out.2 H1.out.2
        have em0 : decide ((ml : Int) > 0) = false := by rw [decide_eq_false_iff_not]; omega
        by_cases ht0 : text = noT
        case neg =>
          have et1 : ¬ (text.toList = []) := text_none ht0
          have et2 : (text.toList == []) = false := by rw [beq_eq_false_iff_ne]; exact et1
          go_wp2_with fail
          go_ret
          exact HB.out.1 (.inr (.inr (fun hS => ht0 ((shape_ask hS).2.1 (by decide) (by decide))))) _ HB.out.2 H1.out.2
        have et1 : text.toList = [] := by rw [ht0]; exact noT_list
        have HT0 := Lib.hid ht0
        clear ht0
        have et2 : (text.toList == []) = true := by rw [et1]; rfl
        by_cases hi0 : 0 < il
        case pos =>
          have ei0 : decide ((il : Int) > 0) = true := by rw [decide_eq_true_eq]; omega
          go_wp2_with fail
          go_ret
          exact HB.out.1 (.inr (.inr (fun hS => ne_empty HG.out.2.2.1 hi0 ((shape_ask hS).2.2.1 (by decide) (by decide))))) _ HB.out.2 H1.out.2
        have ei0 : decide ((il : Int) > 0) = false := by rw [decide_eq_false_iff_not]; omega
        by_cases hr0 : 0 < rl
        case pos =>
          have er0 : decide ((rl : Int) > 0) = true := by rw [decide_eq_true_eq]; omega
          go_wp2_with fail
          go_ret
          exact HB.out.1 (.inr (.inr (fun hS => ne_empty HG.out.2.2.2.1 hr0 ((shape_ask hS).2.2.2 (by decide))))) _ HB.out.2 H1.out.2
        have er0 : decide ((rl : Int) > 0) = false := by rw [decide_eq_false_iff_not]; omega
        have HQ4 := Lib.hid (show AskD 2 false mag text items rest from ⟨fun _ => ⟨rfl, eq_empty HG.out.2.1 hm0⟩, fun _ _ => HT0.out, fun _ _ => eq_empty HG.out.2.2.1 hi0, fun _ => eq_empty HG.out.2.2.2.1 hr0⟩)
        have hW := pack_whole w2 n
        cases hw : wholeB n with
        | true =>
          rw [hw] at hW
          have hS : okD (.mk 2 n false mag text items rest) deep p = some (p + 1) := by
            obtain ⟨q1, q2, q3, q4⟩ := HQ4.out
            have hi := q3 (by decide) (by decide)
            have hr := q4 (by decide)
            have hwh : -549755813888 ≤ n ∧ n ≤ 549755813888 := by unfold wholeB at hw; exact of_decide_eq_true hw
            unfold okD
            rw [if_neg (by rintro (h | h | h); exact (by simp at ed0; exact ed0 h); exact (by simp at ep2; omega); exact h (by unfold ShapeD; exact ⟨q1, q2, q3, q4, .inl ⟨by decide, hwh⟩⟩)), hi, hr]
            simp [okDs]
          have HS := Lib.hid hS
          clear hS hw
          go_wp2_with fail
          refine hW.mono ?_
          rintro e w' ⟨rfl, j, rfl⟩
          go_wp2_with fail
          go_ret
          refine ⟨p + 1, ?_, ?_, HB.out.2.drewN j, H1.out.2.trans (drewN_below0 _ _)⟩
          · rw [HS.out]; rfl
          · intro q' hq'; rw [HS.out] at hq'; cases hq'; rfl
        | false =>
          rw [hw] at hW
          have hS : ¬ ShapeD (.mk 2 n false mag text items rest) := by
            intro h
            unfold ShapeD at h
            unfold wholeB at hw
            have hw2 := of_decide_eq_false hw
            omega
          have HS := Lib.hid hS
          clear hS hw
          go_wp2_with fail
          refine hW.mono ?_
          rintro e w' ⟨rfl, j, rfl⟩
          go_wp2_with fail
          go_ret
          exact HB.out.1 (.inr (.inr HS.out)) _ (HB.out.2.drewN j) (H1.out.2.trans (drewN_below0 _ _))
set_option maxRecDepth 100000 in
set_option maxHeartbeats 8000000 in
theorem datum_step3 (k n : Int) (neg : Bool) (mag : List Int) (text : ByteArray) (items rest : List Dm) (ml il rl : Nat) (hk0 : k = 3) (hml : mag.length = ml) (hil : items.length = il) (hrl : rest.length = rl) (hsz : ml ≤ 67108864 ∧ il ≤ 67108864 ∧ rl ≤ 67108864) (deep : Int) (hdp : 0 ≤ deep ∧ deep ≤ 100)
    (hP : 0 < deep → ∀ d ∈ items, DatumAt d (deep - 1)) (hP2 : 0 < deep → ∀ d ∈ rest, DatumAt d (deep - 1)) (w : World) (R : HP) (gp : Nat) (p : Int) (hp : 0 ≤ p ∧ p ≤ 20000)
    (am : Option Addr) (cm : Nat) (ai : Option Addr) (ci : Nat) (ar : Option Addr) (cr : Nat)
    (hs : sat w (blk gp (.cells #[.int .i64 p] 3 (0, 0)) * R)) (hd : DK R (.mk k n neg mag text items rest) [.int .i64 k, .int .i64 n, .bool neg, .slice am ml cm, .string text, .slice ai il ci, .slice ar rl cr]) :
    Calls Try.prog 45 #[.agg #[.int .i64 k, .int .i64 n, .bool neg, .slice am ml cm, .string text, .slice ai il ci, .slice ar rl cr], .int .i64 deep, .pointer (some ⟨gp, 0, none⟩)] w (DaPost gp R (okD (.mk k n neg mag text items rest) deep p) w) := by
  have HK0 := Lib.hid hk0
  clear hk0
  have h1 : sat (w.alloc (dmO [.int .i64 k, .int .i64 n, .bool neg, .slice am ml cm, .string text, .slice ai il ci, .slice ar rl cr])) (blk gp (.cells #[.int .i64 p] 3 (0, 0)) * (blk w.heap.size (dmO [.int .i64 k, .int .i64 n, .bool neg, .slice am ml cm, .string text, .slice ai il ci, .slice ar rl cr]) * R)) := (hs.alloc (dmO [.int .i64 k, .int .i64 n, .bool neg, .slice am ml cm, .string text, .slice ai il ci, .slice ar rl cr])).perm (by ac_rfl)
  have hb1 := Below.zero_alloc w (dmO [.int .i64 k, .int .i64 n, .bool neg, .slice am ml cm, .string text, .slice ai il ci, .slice ar rl cr])
  obtain ⟨g, hg⟩ : ∃ g, w.heap.size = g := ⟨_, rfl⟩
  rw [hg] at h1
  have p0 := (h1.left.cell 0).trans (show _ = some (Value.int .i64 p) from rfl)
  have pf := h1.left.frozen 0
  have h2 : sat ((w.alloc (dmO [.int .i64 k, .int .i64 n, .bool neg, .slice am ml cm, .string text, .slice ai il ci, .slice ar rl cr])).setCell ⟨gp, 0, none⟩ (.int .i64 (p + 1))) (blk gp (.cells #[.int .i64 (p + 1)] 3 (0, 0)) * (blk g (dmO [.int .i64 k, .int .i64 n, .bool neg, .slice am ml cm, .string text, .slice ai il ci, .slice ar rl cr]) * R)) := h1.setCell (off := 0) _
  have hb2 := hb1.setCell (p := ⟨gp, 0, none⟩) (Nat.zero_le _) (.int .i64 (p + 1))
  have g0 : IntKind.i64.wrap (p + 1) = p + 1 := IntWalk.i64_in _ (by omega)
  have HG := Lib.hid (And.intro hg (And.intro hml (And.intro hil (And.intro hrl (And.intro hP (And.intro hP2 hd))))))
  have H1 := Lib.hid (And.intro h2 hb2)
  clear hs h1 hb1 h2 hb2 hml hil hrl hP hP2 hd
  go_enter Try.func45, Try.ntmps45
  go_upto_region 1 with (fail)
  clear hg
  generalize w.alloc (dmO [.int .i64 k, .int .i64 n, .bool neg, .slice am ml cm, .string text, .slice ai il ci, .slice ar rl cr]) = w1 at *
  go_upto_region 2 with (fail)
  generalize w1.setCell ⟨gp, 0, none⟩ (.int .i64 (p + 1)) = w2 at *
  clear p0 pf
  have p0 := (H1.out.1.left.cell 0).trans (show _ = some (Value.int .i64 (p + 1)) from rfl)
  have hbad : (deep = 0 ∨ 20000 < p + 1 ∨ ¬ ShapeD (.mk k n neg mag text items rest)) → ∀ w', sat w' (blk gp (.cells #[.int .i64 (p + 1)] 3 (0, 0)) * R) → Below 0 w w' → DaPost gp R (okD (.mk k n neg mag text items rest) deep p) w (.returned (.bool false)) w' := by
    intro hc w' h' hb'
    have e : okD (.mk k n neg mag text items rest) deep p = none := by unfold okD; rw [if_pos hc]
    rw [e]
    exact ⟨p + 1, rfl, fun q' h => (by cases h), h', hb'⟩
  have H2 : sat w2 (blk gp (.cells #[.int .i64 (p + 1)] 3 (0, 0)) * R) := (H1.out.1.perm (show _ = blk g _ * (blk gp _ * R) by ac_rfl)).right
  have HB := Lib.hid (And.intro hbad H2)
  clear hbad H2
  by_cases hd0 : deep = 0
  · subst hd0
    go_wp2_with fail
    go_ret
    exact HB.out.1 (.inl (by trivial)) _ HB.out.2 H1.out.2
  · have ed0 : (deep == 0) = false := by simp [hd0]
    by_cases hp2 : p + 1 > 20000
    · have ep2 : decide (p + 1 > 20000) = true := by simp; omega
      go_wp2_with fail
      go_ret
      exact HB.out.1 (.inr (.inl (by omega))) _ HB.out.2 H1.out.2
    · have ep2 : decide (p + 1 > 20000) = false := by simp; omega
      go_upto_region 4 with (fail)
      have c0 := (H1.out.1.right.left.cell 0).trans (show _ = some (Value.int .i64 k) from rfl)
      have c1 := (H1.out.1.right.left.cell 1).trans (show _ = some (Value.int .i64 n) from rfl)
      have c2 := (H1.out.1.right.left.cell 2).trans (show _ = some (Value.bool neg) from rfl)
      have c3 := (H1.out.1.right.left.cell 3).trans (show _ = some (Value.slice am ml cm) from rfl)
      have c4 := (H1.out.1.right.left.cell 4).trans (show _ = some (Value.string text) from rfl)
      have c5 := (H1.out.1.right.left.cell 5).trans (show _ = some (Value.slice ai il ci) from rfl)
      have c6 := (H1.out.1.right.left.cell 6).trans (show _ = some (Value.slice ar rl cr) from rfl)
      clear hd0 hp2
      have k3 := HK0.out
      subst k3
      cases neg with
      | true =>
        go_wp2_with fail
        go_ret
        exact HB.out.1 (.inr (.inr (fun hS => absurd ((shape_ask hS).1 (by decide)).1 (by decide)))) _ HB.out.2 H1.out.2
      | false =>
        by_cases hm0 : 0 < ml
        case pos =>
          have em0 : decide ((ml : Int) > 0) = true := by rw [decide_eq_true_eq]; omega
          go_wp2_with fail
          go_ret
          exact HB.out.1 (.inr (.inr (fun hS => ne_empty HG.out.2.1 hm0 ((shape_ask hS).1 (by decide)).2))) _ HB.out.2 H1.out.2
        have em0 : decide ((ml : Int) > 0) = false := by rw [decide_eq_false_iff_not]; omega
        by_cases ht0 : text = noT
        case neg =>
          have et1 : ¬ (text.toList = []) := text_none ht0
          have et2 : (text.toList == []) = false := by rw [beq_eq_false_iff_ne]; exact et1
          go_wp2_with fail
          go_ret
          exact HB.out.1 (.inr (.inr (fun hS => ht0 ((shape_ask hS).2.1 (by decide) (by decide))))) _ HB.out.2 H1.out.2
        have et1 : text.toList = [] := by rw [ht0]; exact noT_list
        have HT0 := Lib.hid ht0
        clear ht0
        have et2 : (text.toList == []) = true := by rw [et1]; rfl
        by_cases hi0 : 0 < il
        case pos =>
          have ei0 : decide ((il : Int) > 0) = true := by rw [decide_eq_true_eq]; omega
          go_wp2_with fail
          go_ret
          exact HB.out.1 (.inr (.inr (fun hS => ne_empty HG.out.2.2.1 hi0 ((shape_ask hS).2.2.1 (by decide) (by decide))))) _ HB.out.2 H1.out.2
        have ei0 : decide ((il : Int) > 0) = false := by rw [decide_eq_false_iff_not]; omega
        by_cases hr0 : 0 < rl
        case pos =>
          have er0 : decide ((rl : Int) > 0) = true := by rw [decide_eq_true_eq]; omega
          go_wp2_with fail
          go_ret
          exact HB.out.1 (.inr (.inr (fun hS => ne_empty HG.out.2.2.2.1 hr0 ((shape_ask hS).2.2.2 (by decide))))) _ HB.out.2 H1.out.2
        have er0 : decide ((rl : Int) > 0) = false := by rw [decide_eq_false_iff_not]; omega
        have HQ4 := Lib.hid (show AskD 3 false mag text items rest from ⟨fun _ => ⟨rfl, eq_empty HG.out.2.1 hm0⟩, fun _ _ => HT0.out, fun _ _ => eq_empty HG.out.2.2.1 hi0, fun _ => eq_empty HG.out.2.2.2.1 hr0⟩)
        have hW := pack_whole w2 n
        cases hw : wholeB n with
        | true =>
          rw [hw] at hW
          have hS : okD (.mk 3 n false mag text items rest) deep p = some (p + 1) := by
            obtain ⟨q1, q2, q3, q4⟩ := HQ4.out
            have hi := q3 (by decide) (by decide)
            have hr := q4 (by decide)
            have hwh : -549755813888 ≤ n ∧ n ≤ 549755813888 := by unfold wholeB at hw; exact of_decide_eq_true hw
            unfold okD
            rw [if_neg (by rintro (h | h | h); exact (by simp at ed0; exact ed0 h); exact (by simp at ep2; omega); exact h (by unfold ShapeD; exact ⟨q1, q2, q3, q4, .inl ⟨by decide, hwh⟩⟩)), hi, hr]
            simp [okDs]
          have HS := Lib.hid hS
          clear hS hw
          go_wp2_with fail
          refine hW.mono ?_
          rintro e w' ⟨rfl, j, rfl⟩
          go_wp2_with fail
          go_ret
          refine ⟨p + 1, ?_, ?_, HB.out.2.drewN j, H1.out.2.trans (drewN_below0 _ _)⟩
          · rw [HS.out]; rfl
          · intro q' hq'; rw [HS.out] at hq'; cases hq'; rfl
        | false =>
          rw [hw] at hW
          have hS : ¬ ShapeD (.mk 3 n false mag text items rest) := by
            intro h
            unfold ShapeD at h
            unfold wholeB at hw
            have hw2 := of_decide_eq_false hw
            omega
          have HS := Lib.hid hS
          clear hS hw
          go_wp2_with fail
          refine hW.mono ?_
          rintro e w' ⟨rfl, j, rfl⟩
          go_wp2_with fail
          go_ret
          exact HB.out.1 (.inr (.inr HS.out)) _ (HB.out.2.drewN j) (H1.out.2.trans (drewN_below0 _ _))
set_option maxRecDepth 100000 in
set_option maxHeartbeats 8000000 in
theorem datum_step5 (k n : Int) (neg : Bool) (mag : List Int) (text : ByteArray) (items rest : List Dm) (ml il rl : Nat) (hk0 : k = 5) (hml : mag.length = ml) (hil : items.length = il) (hrl : rest.length = rl) (hsz : ml ≤ 67108864 ∧ il ≤ 67108864 ∧ rl ≤ 67108864) (deep : Int) (hdp : 0 ≤ deep ∧ deep ≤ 100)
    (hP : 0 < deep → ∀ d ∈ items, DatumAt d (deep - 1)) (hP2 : 0 < deep → ∀ d ∈ rest, DatumAt d (deep - 1)) (w : World) (R : HP) (gp : Nat) (p : Int) (hp : 0 ≤ p ∧ p ≤ 20000)
    (am : Option Addr) (cm : Nat) (ai : Option Addr) (ci : Nat) (ar : Option Addr) (cr : Nat)
    (hs : sat w (blk gp (.cells #[.int .i64 p] 3 (0, 0)) * R)) (hd : DK R (.mk k n neg mag text items rest) [.int .i64 k, .int .i64 n, .bool neg, .slice am ml cm, .string text, .slice ai il ci, .slice ar rl cr]) :
    Calls Try.prog 45 #[.agg #[.int .i64 k, .int .i64 n, .bool neg, .slice am ml cm, .string text, .slice ai il ci, .slice ar rl cr], .int .i64 deep, .pointer (some ⟨gp, 0, none⟩)] w (DaPost gp R (okD (.mk k n neg mag text items rest) deep p) w) := by
  have HK0 := Lib.hid hk0
  clear hk0
  have h1 : sat (w.alloc (dmO [.int .i64 k, .int .i64 n, .bool neg, .slice am ml cm, .string text, .slice ai il ci, .slice ar rl cr])) (blk gp (.cells #[.int .i64 p] 3 (0, 0)) * (blk w.heap.size (dmO [.int .i64 k, .int .i64 n, .bool neg, .slice am ml cm, .string text, .slice ai il ci, .slice ar rl cr]) * R)) := (hs.alloc (dmO [.int .i64 k, .int .i64 n, .bool neg, .slice am ml cm, .string text, .slice ai il ci, .slice ar rl cr])).perm (by ac_rfl)
  have hb1 := Below.zero_alloc w (dmO [.int .i64 k, .int .i64 n, .bool neg, .slice am ml cm, .string text, .slice ai il ci, .slice ar rl cr])
  obtain ⟨g, hg⟩ : ∃ g, w.heap.size = g := ⟨_, rfl⟩
  rw [hg] at h1
  have p0 := (h1.left.cell 0).trans (show _ = some (Value.int .i64 p) from rfl)
  have pf := h1.left.frozen 0
  have h2 : sat ((w.alloc (dmO [.int .i64 k, .int .i64 n, .bool neg, .slice am ml cm, .string text, .slice ai il ci, .slice ar rl cr])).setCell ⟨gp, 0, none⟩ (.int .i64 (p + 1))) (blk gp (.cells #[.int .i64 (p + 1)] 3 (0, 0)) * (blk g (dmO [.int .i64 k, .int .i64 n, .bool neg, .slice am ml cm, .string text, .slice ai il ci, .slice ar rl cr]) * R)) := h1.setCell (off := 0) _
  have hb2 := hb1.setCell (p := ⟨gp, 0, none⟩) (Nat.zero_le _) (.int .i64 (p + 1))
  have g0 : IntKind.i64.wrap (p + 1) = p + 1 := IntWalk.i64_in _ (by omega)
  have HG := Lib.hid (And.intro hg (And.intro hml (And.intro hil (And.intro hrl (And.intro hP (And.intro hP2 hd))))))
  have H1 := Lib.hid (And.intro h2 hb2)
  clear hs h1 hb1 h2 hb2 hml hil hrl hP hP2 hd
  go_enter Try.func45, Try.ntmps45
  go_upto_region 1 with (fail)
  clear hg
  generalize w.alloc (dmO [.int .i64 k, .int .i64 n, .bool neg, .slice am ml cm, .string text, .slice ai il ci, .slice ar rl cr]) = w1 at *
  go_upto_region 2 with (fail)
  generalize w1.setCell ⟨gp, 0, none⟩ (.int .i64 (p + 1)) = w2 at *
  clear p0 pf
  have p0 := (H1.out.1.left.cell 0).trans (show _ = some (Value.int .i64 (p + 1)) from rfl)
  have hbad : (deep = 0 ∨ 20000 < p + 1 ∨ ¬ ShapeD (.mk k n neg mag text items rest)) → ∀ w', sat w' (blk gp (.cells #[.int .i64 (p + 1)] 3 (0, 0)) * R) → Below 0 w w' → DaPost gp R (okD (.mk k n neg mag text items rest) deep p) w (.returned (.bool false)) w' := by
    intro hc w' h' hb'
    have e : okD (.mk k n neg mag text items rest) deep p = none := by unfold okD; rw [if_pos hc]
    rw [e]
    exact ⟨p + 1, rfl, fun q' h => (by cases h), h', hb'⟩
  have H2 : sat w2 (blk gp (.cells #[.int .i64 (p + 1)] 3 (0, 0)) * R) := (H1.out.1.perm (show _ = blk g _ * (blk gp _ * R) by ac_rfl)).right
  have HB := Lib.hid (And.intro hbad H2)
  clear hbad H2
  by_cases hd0 : deep = 0
  · subst hd0
    go_wp2_with fail
    go_ret
    exact HB.out.1 (.inl (by trivial)) _ HB.out.2 H1.out.2
  · have ed0 : (deep == 0) = false := by simp [hd0]
    by_cases hp2 : p + 1 > 20000
    · have ep2 : decide (p + 1 > 20000) = true := by simp; omega
      go_wp2_with fail
      go_ret
      exact HB.out.1 (.inr (.inl (by omega))) _ HB.out.2 H1.out.2
    · have ep2 : decide (p + 1 > 20000) = false := by simp; omega
      go_upto_region 4 with (fail)
      have c0 := (H1.out.1.right.left.cell 0).trans (show _ = some (Value.int .i64 k) from rfl)
      have c1 := (H1.out.1.right.left.cell 1).trans (show _ = some (Value.int .i64 n) from rfl)
      have c2 := (H1.out.1.right.left.cell 2).trans (show _ = some (Value.bool neg) from rfl)
      have c3 := (H1.out.1.right.left.cell 3).trans (show _ = some (Value.slice am ml cm) from rfl)
      have c4 := (H1.out.1.right.left.cell 4).trans (show _ = some (Value.string text) from rfl)
      have c5 := (H1.out.1.right.left.cell 5).trans (show _ = some (Value.slice ai il ci) from rfl)
      have c6 := (H1.out.1.right.left.cell 6).trans (show _ = some (Value.slice ar rl cr) from rfl)
      clear hd0 hp2
      have k5 := HK0.out
      subst k5
      cases neg with
      | true =>
        go_wp2_with fail
        go_ret
        exact HB.out.1 (.inr (.inr (fun hS => absurd ((shape_ask hS).1 (by decide)).1 (by decide)))) _ HB.out.2 H1.out.2
      | false =>
        by_cases hm0 : 0 < ml
        case pos =>
          have em0 : decide ((ml : Int) > 0) = true := by rw [decide_eq_true_eq]; omega
          go_wp2_with fail
          go_ret
          exact HB.out.1 (.inr (.inr (fun hS => ne_empty HG.out.2.1 hm0 ((shape_ask hS).1 (by decide)).2))) _ HB.out.2 H1.out.2
        have em0 : decide ((ml : Int) > 0) = false := by rw [decide_eq_false_iff_not]; omega
        by_cases hi0 : 0 < il
        case pos =>
          have ei0 : decide ((il : Int) > 0) = true := by rw [decide_eq_true_eq]; omega
          go_wp2_with fail
          go_ret
          exact HB.out.1 (.inr (.inr (fun hS => ne_empty HG.out.2.2.1 hi0 ((shape_ask hS).2.2.1 (by decide) (by decide))))) _ HB.out.2 H1.out.2
        have ei0 : decide ((il : Int) > 0) = false := by rw [decide_eq_false_iff_not]; omega
        by_cases hr0 : 0 < rl
        case pos =>
          have er0 : decide ((rl : Int) > 0) = true := by rw [decide_eq_true_eq]; omega
          go_wp2_with fail
          go_ret
          exact HB.out.1 (.inr (.inr (fun hS => ne_empty HG.out.2.2.2.1 hr0 ((shape_ask hS).2.2.2 (by decide))))) _ HB.out.2 H1.out.2
        have er0 : decide ((rl : Int) > 0) = false := by rw [decide_eq_false_iff_not]; omega
        have HQ4 := Lib.hid (show AskD 5 false mag text items rest from ⟨fun _ => ⟨rfl, eq_empty HG.out.2.1 hm0⟩, fun _ h => absurd rfl h, fun _ _ => eq_empty HG.out.2.2.1 hi0, fun _ => eq_empty HG.out.2.2.2.1 hr0⟩)
        have hW := pack_whole w2 n
        cases hw : wholeB n with
        | true =>
          rw [hw] at hW
          have hS : okD (.mk 5 n false mag text items rest) deep p = some (p + 1) := by
            obtain ⟨q1, q2, q3, q4⟩ := HQ4.out
            have hi := q3 (by decide) (by decide)
            have hr := q4 (by decide)
            have hwh : -549755813888 ≤ n ∧ n ≤ 549755813888 := by unfold wholeB at hw; exact of_decide_eq_true hw
            unfold okD
            rw [if_neg (by rintro (h | h | h); exact (by simp at ed0; exact ed0 h); exact (by simp at ep2; omega); exact h (by unfold ShapeD; exact ⟨q1, q2, q3, q4, .inl ⟨by decide, hwh⟩⟩)), hi, hr]
            simp [okDs]
          have HS := Lib.hid hS
          clear hS hw
          go_wp2_with fail
          refine hW.mono ?_
          rintro e w' ⟨rfl, j, rfl⟩
          go_wp2_with fail
          go_ret
          refine ⟨p + 1, ?_, ?_, HB.out.2.drewN j, H1.out.2.trans (drewN_below0 _ _)⟩
          · rw [HS.out]; rfl
          · intro q' hq'; rw [HS.out] at hq'; cases hq'; rfl
        | false =>
          rw [hw] at hW
          have hS : ¬ ShapeD (.mk 5 n false mag text items rest) := by
            intro h
            unfold ShapeD at h
            unfold wholeB at hw
            have hw2 := of_decide_eq_false hw
            omega
          have HS := Lib.hid hS
          clear hS hw
          go_wp2_with fail
          refine hW.mono ?_
          rintro e w' ⟨rfl, j, rfl⟩
          go_wp2_with fail
          go_ret
          exact HB.out.1 (.inr (.inr HS.out)) _ (HB.out.2.drewN j) (H1.out.2.trans (drewN_below0 _ _))
set_option maxRecDepth 100000 in
set_option maxHeartbeats 8000000 in
theorem datum_step9 (k n : Int) (neg : Bool) (mag : List Int) (text : ByteArray) (items rest : List Dm) (ml il rl : Nat) (hk0 : k = 9) (hml : mag.length = ml) (hil : items.length = il) (hrl : rest.length = rl) (hsz : ml ≤ 67108864 ∧ il ≤ 67108864 ∧ rl ≤ 67108864) (deep : Int) (hdp : 0 ≤ deep ∧ deep ≤ 100)
    (hP : 0 < deep → ∀ d ∈ items, DatumAt d (deep - 1)) (hP2 : 0 < deep → ∀ d ∈ rest, DatumAt d (deep - 1)) (w : World) (R : HP) (gp : Nat) (p : Int) (hp : 0 ≤ p ∧ p ≤ 20000)
    (am : Option Addr) (cm : Nat) (ai : Option Addr) (ci : Nat) (ar : Option Addr) (cr : Nat)
    (hs : sat w (blk gp (.cells #[.int .i64 p] 3 (0, 0)) * R)) (hd : DK R (.mk k n neg mag text items rest) [.int .i64 k, .int .i64 n, .bool neg, .slice am ml cm, .string text, .slice ai il ci, .slice ar rl cr]) :
    Calls Try.prog 45 #[.agg #[.int .i64 k, .int .i64 n, .bool neg, .slice am ml cm, .string text, .slice ai il ci, .slice ar rl cr], .int .i64 deep, .pointer (some ⟨gp, 0, none⟩)] w (DaPost gp R (okD (.mk k n neg mag text items rest) deep p) w) := by
  have HK0 := Lib.hid hk0
  clear hk0
  have h1 : sat (w.alloc (dmO [.int .i64 k, .int .i64 n, .bool neg, .slice am ml cm, .string text, .slice ai il ci, .slice ar rl cr])) (blk gp (.cells #[.int .i64 p] 3 (0, 0)) * (blk w.heap.size (dmO [.int .i64 k, .int .i64 n, .bool neg, .slice am ml cm, .string text, .slice ai il ci, .slice ar rl cr]) * R)) := (hs.alloc (dmO [.int .i64 k, .int .i64 n, .bool neg, .slice am ml cm, .string text, .slice ai il ci, .slice ar rl cr])).perm (by ac_rfl)
  have hb1 := Below.zero_alloc w (dmO [.int .i64 k, .int .i64 n, .bool neg, .slice am ml cm, .string text, .slice ai il ci, .slice ar rl cr])
  obtain ⟨g, hg⟩ : ∃ g, w.heap.size = g := ⟨_, rfl⟩
  rw [hg] at h1
  have p0 := (h1.left.cell 0).trans (show _ = some (Value.int .i64 p) from rfl)
  have pf := h1.left.frozen 0
  have h2 : sat ((w.alloc (dmO [.int .i64 k, .int .i64 n, .bool neg, .slice am ml cm, .string text, .slice ai il ci, .slice ar rl cr])).setCell ⟨gp, 0, none⟩ (.int .i64 (p + 1))) (blk gp (.cells #[.int .i64 (p + 1)] 3 (0, 0)) * (blk g (dmO [.int .i64 k, .int .i64 n, .bool neg, .slice am ml cm, .string text, .slice ai il ci, .slice ar rl cr]) * R)) := h1.setCell (off := 0) _
  have hb2 := hb1.setCell (p := ⟨gp, 0, none⟩) (Nat.zero_le _) (.int .i64 (p + 1))
  have g0 : IntKind.i64.wrap (p + 1) = p + 1 := IntWalk.i64_in _ (by omega)
  have HG := Lib.hid (And.intro hg (And.intro hml (And.intro hil (And.intro hrl (And.intro hP (And.intro hP2 hd))))))
  have H1 := Lib.hid (And.intro h2 hb2)
  clear hs h1 hb1 h2 hb2 hml hil hrl hP hP2 hd
  go_enter Try.func45, Try.ntmps45
  go_upto_region 1 with (fail)
  clear hg
  generalize w.alloc (dmO [.int .i64 k, .int .i64 n, .bool neg, .slice am ml cm, .string text, .slice ai il ci, .slice ar rl cr]) = w1 at *
  go_upto_region 2 with (fail)
  generalize w1.setCell ⟨gp, 0, none⟩ (.int .i64 (p + 1)) = w2 at *
  clear p0 pf
  have p0 := (H1.out.1.left.cell 0).trans (show _ = some (Value.int .i64 (p + 1)) from rfl)
  have hbad : (deep = 0 ∨ 20000 < p + 1 ∨ ¬ ShapeD (.mk k n neg mag text items rest)) → ∀ w', sat w' (blk gp (.cells #[.int .i64 (p + 1)] 3 (0, 0)) * R) → Below 0 w w' → DaPost gp R (okD (.mk k n neg mag text items rest) deep p) w (.returned (.bool false)) w' := by
    intro hc w' h' hb'
    have e : okD (.mk k n neg mag text items rest) deep p = none := by unfold okD; rw [if_pos hc]
    rw [e]
    exact ⟨p + 1, rfl, fun q' h => (by cases h), h', hb'⟩
  have H2 : sat w2 (blk gp (.cells #[.int .i64 (p + 1)] 3 (0, 0)) * R) := (H1.out.1.perm (show _ = blk g _ * (blk gp _ * R) by ac_rfl)).right
  have HB := Lib.hid (And.intro hbad H2)
  clear hbad H2
  by_cases hd0 : deep = 0
  · subst hd0
    go_wp2_with fail
    go_ret
    exact HB.out.1 (.inl (by trivial)) _ HB.out.2 H1.out.2
  · have ed0 : (deep == 0) = false := by simp [hd0]
    by_cases hp2 : p + 1 > 20000
    · have ep2 : decide (p + 1 > 20000) = true := by simp; omega
      go_wp2_with fail
      go_ret
      exact HB.out.1 (.inr (.inl (by omega))) _ HB.out.2 H1.out.2
    · have ep2 : decide (p + 1 > 20000) = false := by simp; omega
      go_upto_region 4 with (fail)
      have c0 := (H1.out.1.right.left.cell 0).trans (show _ = some (Value.int .i64 k) from rfl)
      have c1 := (H1.out.1.right.left.cell 1).trans (show _ = some (Value.int .i64 n) from rfl)
      have c2 := (H1.out.1.right.left.cell 2).trans (show _ = some (Value.bool neg) from rfl)
      have c3 := (H1.out.1.right.left.cell 3).trans (show _ = some (Value.slice am ml cm) from rfl)
      have c4 := (H1.out.1.right.left.cell 4).trans (show _ = some (Value.string text) from rfl)
      have c5 := (H1.out.1.right.left.cell 5).trans (show _ = some (Value.slice ai il ci) from rfl)
      have c6 := (H1.out.1.right.left.cell 6).trans (show _ = some (Value.slice ar rl cr) from rfl)
      clear hd0 hp2
      have k9 := HK0.out
      subst k9
      cases neg with
      | true =>
        go_wp2_with fail
        go_ret
        exact HB.out.1 (.inr (.inr (fun hS => absurd ((shape_ask hS).1 (by decide)).1 (by decide)))) _ HB.out.2 H1.out.2
      | false =>
        by_cases hm0 : 0 < ml
        case pos =>
          have em0 : decide ((ml : Int) > 0) = true := by rw [decide_eq_true_eq]; omega
          go_wp2_with fail
          go_ret
          exact HB.out.1 (.inr (.inr (fun hS => ne_empty HG.out.2.1 hm0 ((shape_ask hS).1 (by decide)).2))) _ HB.out.2 H1.out.2
        have em0 : decide ((ml : Int) > 0) = false := by rw [decide_eq_false_iff_not]; omega
        by_cases ht0 : text = noT
        case neg =>
          have et1 : ¬ (text.toList = []) := text_none ht0
          have et2 : (text.toList == []) = false := by rw [beq_eq_false_iff_ne]; exact et1
          go_wp2_with fail
          go_ret
          exact HB.out.1 (.inr (.inr (fun hS => ht0 ((shape_ask hS).2.1 (by decide) (by decide))))) _ HB.out.2 H1.out.2
        have et1 : text.toList = [] := by rw [ht0]; exact noT_list
        have HT0 := Lib.hid ht0
        clear ht0
        have et2 : (text.toList == []) = true := by rw [et1]; rfl
        by_cases hi0 : 0 < il
        case pos =>
          have ei0 : decide ((il : Int) > 0) = true := by rw [decide_eq_true_eq]; omega
          go_wp2_with fail
          go_ret
          exact HB.out.1 (.inr (.inr (fun hS => ne_empty HG.out.2.2.1 hi0 ((shape_ask hS).2.2.1 (by decide) (by decide))))) _ HB.out.2 H1.out.2
        have ei0 : decide ((il : Int) > 0) = false := by rw [decide_eq_false_iff_not]; omega
        by_cases hr0 : 0 < rl
        case pos =>
          have er0 : decide ((rl : Int) > 0) = true := by rw [decide_eq_true_eq]; omega
          go_wp2_with fail
          go_ret
          exact HB.out.1 (.inr (.inr (fun hS => ne_empty HG.out.2.2.2.1 hr0 ((shape_ask hS).2.2.2 (by decide))))) _ HB.out.2 H1.out.2
        have er0 : decide ((rl : Int) > 0) = false := by rw [decide_eq_false_iff_not]; omega
        have HQ4 := Lib.hid (show AskD 9 false mag text items rest from ⟨fun _ => ⟨rfl, eq_empty HG.out.2.1 hm0⟩, fun _ _ => HT0.out, fun _ _ => eq_empty HG.out.2.2.1 hi0, fun _ => eq_empty HG.out.2.2.2.1 hr0⟩)
        have hW := pack_whole w2 n
        cases hw : wholeB n with
        | true =>
          rw [hw] at hW
          have hS : okD (.mk 9 n false mag text items rest) deep p = some (p + 1) := by
            obtain ⟨q1, q2, q3, q4⟩ := HQ4.out
            have hi := q3 (by decide) (by decide)
            have hr := q4 (by decide)
            have hwh : -549755813888 ≤ n ∧ n ≤ 549755813888 := by unfold wholeB at hw; exact of_decide_eq_true hw
            unfold okD
            rw [if_neg (by rintro (h | h | h); exact (by simp at ed0; exact ed0 h); exact (by simp at ep2; omega); exact h (by unfold ShapeD; exact ⟨q1, q2, q3, q4, .inl ⟨by decide, hwh⟩⟩)), hi, hr]
            simp [okDs]
          have HS := Lib.hid hS
          clear hS hw
          go_wp2_with fail
          refine hW.mono ?_
          rintro e w' ⟨rfl, j, rfl⟩
          go_wp2_with fail
          go_ret
          refine ⟨p + 1, ?_, ?_, HB.out.2.drewN j, H1.out.2.trans (drewN_below0 _ _)⟩
          · rw [HS.out]; rfl
          · intro q' hq'; rw [HS.out] at hq'; cases hq'; rfl
        | false =>
          rw [hw] at hW
          have hS : ¬ ShapeD (.mk 9 n false mag text items rest) := by
            intro h
            unfold ShapeD at h
            unfold wholeB at hw
            have hw2 := of_decide_eq_false hw
            omega
          have HS := Lib.hid hS
          clear hS hw
          go_wp2_with fail
          refine hW.mono ?_
          rintro e w' ⟨rfl, j, rfl⟩
          go_wp2_with fail
          go_ret
          exact HB.out.1 (.inr (.inr HS.out)) _ (HB.out.2.drewN j) (H1.out.2.trans (drewN_below0 _ _))
set_option maxRecDepth 100000 in
set_option maxHeartbeats 8000000 in
theorem datum_step0 (k n : Int) (neg : Bool) (mag : List Int) (text : ByteArray) (items rest : List Dm) (ml il rl : Nat) (hk0 : k ≠ 1 ∧ k ≠ 2 ∧ k ≠ 3 ∧ k ≠ 4 ∧ k ≠ 5 ∧ k ≠ 6 ∧ k ≠ 7 ∧ k ≠ 8 ∧ k ≠ 9) (hml : mag.length = ml) (hil : items.length = il) (hrl : rest.length = rl) (hsz : ml ≤ 67108864 ∧ il ≤ 67108864 ∧ rl ≤ 67108864) (deep : Int) (hdp : 0 ≤ deep ∧ deep ≤ 100)
    (hP : 0 < deep → ∀ d ∈ items, DatumAt d (deep - 1)) (hP2 : 0 < deep → ∀ d ∈ rest, DatumAt d (deep - 1)) (w : World) (R : HP) (gp : Nat) (p : Int) (hp : 0 ≤ p ∧ p ≤ 20000)
    (am : Option Addr) (cm : Nat) (ai : Option Addr) (ci : Nat) (ar : Option Addr) (cr : Nat)
    (hs : sat w (blk gp (.cells #[.int .i64 p] 3 (0, 0)) * R)) (hd : DK R (.mk k n neg mag text items rest) [.int .i64 k, .int .i64 n, .bool neg, .slice am ml cm, .string text, .slice ai il ci, .slice ar rl cr]) :
    Calls Try.prog 45 #[.agg #[.int .i64 k, .int .i64 n, .bool neg, .slice am ml cm, .string text, .slice ai il ci, .slice ar rl cr], .int .i64 deep, .pointer (some ⟨gp, 0, none⟩)] w (DaPost gp R (okD (.mk k n neg mag text items rest) deep p) w) := by
  have HK0 := Lib.hid hk0
  clear hk0
  have h1 : sat (w.alloc (dmO [.int .i64 k, .int .i64 n, .bool neg, .slice am ml cm, .string text, .slice ai il ci, .slice ar rl cr])) (blk gp (.cells #[.int .i64 p] 3 (0, 0)) * (blk w.heap.size (dmO [.int .i64 k, .int .i64 n, .bool neg, .slice am ml cm, .string text, .slice ai il ci, .slice ar rl cr]) * R)) := (hs.alloc (dmO [.int .i64 k, .int .i64 n, .bool neg, .slice am ml cm, .string text, .slice ai il ci, .slice ar rl cr])).perm (by ac_rfl)
  have hb1 := Below.zero_alloc w (dmO [.int .i64 k, .int .i64 n, .bool neg, .slice am ml cm, .string text, .slice ai il ci, .slice ar rl cr])
  obtain ⟨g, hg⟩ : ∃ g, w.heap.size = g := ⟨_, rfl⟩
  rw [hg] at h1
  have p0 := (h1.left.cell 0).trans (show _ = some (Value.int .i64 p) from rfl)
  have pf := h1.left.frozen 0
  have h2 : sat ((w.alloc (dmO [.int .i64 k, .int .i64 n, .bool neg, .slice am ml cm, .string text, .slice ai il ci, .slice ar rl cr])).setCell ⟨gp, 0, none⟩ (.int .i64 (p + 1))) (blk gp (.cells #[.int .i64 (p + 1)] 3 (0, 0)) * (blk g (dmO [.int .i64 k, .int .i64 n, .bool neg, .slice am ml cm, .string text, .slice ai il ci, .slice ar rl cr]) * R)) := h1.setCell (off := 0) _
  have hb2 := hb1.setCell (p := ⟨gp, 0, none⟩) (Nat.zero_le _) (.int .i64 (p + 1))
  have g0 : IntKind.i64.wrap (p + 1) = p + 1 := IntWalk.i64_in _ (by omega)
  have HG := Lib.hid (And.intro hg (And.intro hml (And.intro hil (And.intro hrl (And.intro hP (And.intro hP2 hd))))))
  have H1 := Lib.hid (And.intro h2 hb2)
  clear hs h1 hb1 h2 hb2 hml hil hrl hP hP2 hd
  go_enter Try.func45, Try.ntmps45
  go_upto_region 1 with (fail)
  clear hg
  generalize w.alloc (dmO [.int .i64 k, .int .i64 n, .bool neg, .slice am ml cm, .string text, .slice ai il ci, .slice ar rl cr]) = w1 at *
  go_upto_region 2 with (fail)
  generalize w1.setCell ⟨gp, 0, none⟩ (.int .i64 (p + 1)) = w2 at *
  clear p0 pf
  have p0 := (H1.out.1.left.cell 0).trans (show _ = some (Value.int .i64 (p + 1)) from rfl)
  have hbad : (deep = 0 ∨ 20000 < p + 1 ∨ ¬ ShapeD (.mk k n neg mag text items rest)) → ∀ w', sat w' (blk gp (.cells #[.int .i64 (p + 1)] 3 (0, 0)) * R) → Below 0 w w' → DaPost gp R (okD (.mk k n neg mag text items rest) deep p) w (.returned (.bool false)) w' := by
    intro hc w' h' hb'
    have e : okD (.mk k n neg mag text items rest) deep p = none := by unfold okD; rw [if_pos hc]
    rw [e]
    exact ⟨p + 1, rfl, fun q' h => (by cases h), h', hb'⟩
  have H2 : sat w2 (blk gp (.cells #[.int .i64 (p + 1)] 3 (0, 0)) * R) := (H1.out.1.perm (show _ = blk g _ * (blk gp _ * R) by ac_rfl)).right
  have HB := Lib.hid (And.intro hbad H2)
  clear hbad H2
  by_cases hd0 : deep = 0
  · subst hd0
    go_wp2_with fail
    go_ret
    exact HB.out.1 (.inl (by trivial)) _ HB.out.2 H1.out.2
  · have ed0 : (deep == 0) = false := by simp [hd0]
    by_cases hp2 : p + 1 > 20000
    · have ep2 : decide (p + 1 > 20000) = true := by simp; omega
      go_wp2_with fail
      go_ret
      exact HB.out.1 (.inr (.inl (by omega))) _ HB.out.2 H1.out.2
    · have ep2 : decide (p + 1 > 20000) = false := by simp; omega
      go_upto_region 4 with (fail)
      have c0 := (H1.out.1.right.left.cell 0).trans (show _ = some (Value.int .i64 k) from rfl)
      have c1 := (H1.out.1.right.left.cell 1).trans (show _ = some (Value.int .i64 n) from rfl)
      have c2 := (H1.out.1.right.left.cell 2).trans (show _ = some (Value.bool neg) from rfl)
      have c3 := (H1.out.1.right.left.cell 3).trans (show _ = some (Value.slice am ml cm) from rfl)
      have c4 := (H1.out.1.right.left.cell 4).trans (show _ = some (Value.string text) from rfl)
      have c5 := (H1.out.1.right.left.cell 5).trans (show _ = some (Value.slice ai il ci) from rfl)
      have c6 := (H1.out.1.right.left.cell 6).trans (show _ = some (Value.slice ar rl cr) from rfl)
      clear hd0 hp2
      obtain ⟨k1, k2, k3, k4, k5, k6, k7, k8, k9⟩ := HK0.out
      have hS : ¬ ShapeD (.mk k n neg mag text items rest) := by
        intro h
        unfold ShapeD at h
        obtain ⟨_, _, _, _, h | h⟩ := h
        · omega
        · omega
      have HS := Lib.hid hS
      have e1 : (k == 1) = false := by rw [beq_eq_false_iff_ne]; exact k1
      have e2 : (k == 2) = false := by rw [beq_eq_false_iff_ne]; exact k2
      have e3 : (k == 3) = false := by rw [beq_eq_false_iff_ne]; exact k3
      have e4 : (k == 4) = false := by rw [beq_eq_false_iff_ne]; exact k4
      have e5 : (k == 5) = false := by rw [beq_eq_false_iff_ne]; exact k5
      have e6 : (k == 6) = false := by rw [beq_eq_false_iff_ne]; exact k6
      have e7 : (k == 7) = false := by rw [beq_eq_false_iff_ne]; exact k7
      have e8 : (k == 8) = false := by rw [beq_eq_false_iff_ne]; exact k8
      have e9 : (k == 9) = false := by rw [beq_eq_false_iff_ne]; exact k9
      have f1 : (k != 1) = true := by rw [bne, e1]; rfl
      have f4 : (k != 4) = true := by rw [bne, e4]; rfl
      have f5 : (k != 5) = true := by rw [bne, e5]; rfl
      have f6 : (k != 6) = true := by rw [bne, e6]; rfl
      have f7 : (k != 7) = true := by rw [bne, e7]; rfl
      clear hS k1 k2 k3 k4 k5 k6 k7 k8 k9
      go_wp2_with fail
      all_goals
        go_ret
        exact HB.out.1 (.inr (.inr HS.out)) _ HB.out.2 H1.out.2
end Go.Proofs.Ytkjfplldfjmbaaa
