/- pack's reader of constants: a vector. pack's reader of constants: a list. pack's reader of constants. -/
import Derived.Test.YtkjfplldfjmbaaaPackRdC
import Derived.Test.YtkjfplldfjmbaaaPackRdB
/- pack's reader of constants: a vector. -/
namespace Go.Proofs.Ytkjfplldfjmbaaa
open Go.RowKit
def joinM {α : Type} (acc : List α) (o : Option (List α × Int × List Int)) : Option (List α × Int × List Int) := match o with
  | none => none
  | some (xs, q, l) => some (acc ++ xs, q, l)
theorem joinM_next {α : Type} {f : Int → List Int → Option (α × Int × List Int)} {acc : List α} {m : Nat} {p p1 : Int} {l l1 : List Int} {d : α} (h : f p l = some (d, p1, l1)) : joinM acc (rdMany f (m + 1) p l) = joinM (acc ++ [d]) (rdMany f m p1 l1) := by
  have e : rdMany f (m + 1) p l = (match rdMany f m p1 l1 with | none => none | some (ds, p2, l2) => some (d :: ds, p2, l2)) := by
    show (match f p l with | none => none | some (d, p1, l1) => match rdMany f m p1 l1 with | none => none | some (ds, p2, l2) => some (d :: ds, p2, l2)) = _
    rw [h]
  rw [e]
  cases rdMany f m p1 l1 with
  | none => rfl
  | some r => obtain ⟨xs, q, t⟩ := r; simp [joinM]
theorem joinM_no {α : Type} {f : Int → List Int → Option (α × Int × List Int)} {acc : List α} {m : Nat} {p : Int} {l : List Int} (h : f p l = none) : joinM acc (rdMany f (m + 1) p l) = none := by
  have e : rdMany f (m + 1) p l = none := by
    show (match f p l with | none => none | some (d, p1, l1) => match rdMany f m p1 l1 with | none => none | some (ds, p2, l2) => some (d :: ds, p2, l2)) = _
    rw [h]
  rw [e]; rfl
def kO (deep : Nat) (k : Int) (o : Option (List Dm × Int × List Int)) : Option (Dm × Int × List Int) := match o with
  | none => none
  | some (items, q, l3) => if k = 6 then (match rdBool l3 with
      | none => none
      | some (false, l4) => some (.mk k 0 false [] noT items [], q, l4)
      | some (true, l4) => match rdConst deep q l4 with
        | none => none
        | some (r, q2, l5) => some (.mk k 0 false [] noT items [r], q2, l5))
    else some (.mk k 0 false [] noT items [], q, l3)
def RmRel7 (W : World) (B R : HP) (gr g4 g5 : Nat) (deep : Nat) (p : Int) (N : Nat) (l2 : List Int) (i : Value) (wr : World) : Prop :=
  ∃ (m : Nat) (ds : List Dm) (q : Int) (l : List Int) (ai : Option Addr) (ci : Nat) (css : List (List Value)) (M : HP), i = .int .i64 m ∧ m ≤ 1099511627776 ∧ rdMany (rdConst deep) N (p + 1) l2 = joinM ds (rdMany (rdConst deep) m q l) ∧ ds.length + l.length ≤ 67108864 ∧ (0 ≤ q ∧ q ≤ 20000) ∧
    css.length = ds.length ∧ (∀ (i : Nat) d cs, ds[i]? = some d → css[i]? = some cs → DK M d cs) ∧
    RdAt wr B (own 59 7 (.slice ai ds.length ci) ds.length css.flatten * (M * (blk g5 (dmO [.int .i64 7, .int .i64 0, .bool false, .slice none 0 0, .string ⟨#[]⟩, .slice ai ds.length ci, .slice none 0 0]) * (blk g4 (dmO [.int .i64 0, .int .i64 0, .bool false, .slice none 0 0, .string ⟨#[]⟩, .slice none 0 0, .slice none 0 0]) * R)))) gr l q ∧ Below 0 W wr
set_option maxRecDepth 100000 in
set_option maxHeartbeats 4000000 in
theorem rdc_k7_no (deep : Nat) (w : World) (B R : HP) (gr : Nat) (l : List Int) (p : Int) (h : RdAt w B R gr l p) (hp : 0 ≤ p ∧ p ≤ 20000) (hl : l.length ≤ 67108864) (hp1 : ¬ 20000 < p + 1) (k : Int) (l1 : List Int) (hn : rdNum l = some (k, l1)) (hk : k = 7) (hs : rdNum l1 = none) (dp : Int) (hdp : dp = ((deep + 1 : Nat) : Int)) (hdb : deep ≤ 100) :
    Calls Try.prog 54 #[.pointer (some ⟨gr, 0, none⟩), .int .i64 dp] w (RcPost B R gr (rdConst (deep + 1) p l) w) := by
  have hB := h.sub
  have h1 := h.alloc (dmO [.int .i64 0, .int .i64 0, .bool false, .slice none 0 0, .string ⟨#[]⟩, .slice none 0 0, .slice none 0 0])
  have hb1 := Below.zero_alloc w (dmO [.int .i64 0, .int .i64 0, .bool false, .slice none 0 0, .string ⟨#[]⟩, .slice none 0 0, .slice none 0 0])
  obtain ⟨c1, f1, hq1⟩ := h1.parts
  have h2 := hq1 (p + 1)
  have hb2 := hb1.setCell (p := ⟨gr, 1, none⟩) (Nat.zero_le _) (.int .i64 (p + 1))
  have c2 := h2.parts.1
  obtain ⟨g4, hg4⟩ : ∃ g, w.heap.size = g := ⟨_, rfl⟩
  rw [hg4] at h2
  have hN := rd_number _ _ _ gr l (p + 1) h2
  rw [show rdNumF 0 0 l = some (k, l1) from hn] at hN
  have hkb := rdNumF_bd l 0 0 k l1 hn
  have hre : rdConst (deep + 1) p l = none := by subst hk; simp [rdConst, hp1, hn, hs]
  have e0 : (dp == 0) = false := by rw [beq_eq_false_iff_ne]; omega
  have e1 : decide (p + 1 > 20000) = false := by rw [decide_eq_false_iff_not]; omega
  have e2 : IntKind.i64.wrap (p + 1) = p + 1 := IntWalk.i64_in _ (by omega)
  rw [hre]
  have H0 := Lib.hid (And.intro hB (And.intro hb2 (And.intro hkb (And.intro hdp (And.intro hdb (And.intro hp hl))))))
  have HK := Lib.hid hk
  clear h h1 hb1 hq1 h2 hb2 hn hkb hre hB hdp hdb hp hl hp1 hk
  go_enter Try.func54, Try.ntmps54
  go_upto_region 1 with (fail)
  go_upto_region 2 with (fail)
  clear c1 f1
  try rw [hg4]
  clear hg4
  generalize (w.alloc (dmO [.int .i64 0, .int .i64 0, .bool false, .slice none 0 0, .string ⟨#[]⟩, .slice none 0 0, .slice none 0 0])).setCell ⟨gr, 1, none⟩ (.int .i64 (p + 1)) = w2 at *
  go_wp2_with fail
  refine hN.mono ?_
  clear hN c2
  rintro e w3 ⟨rfl, h3, hb3⟩
  have h4 := h3.alloc (dmO [.int .i64 k, .int .i64 0, .bool false, .slice none 0 0, .string ⟨#[]⟩, .slice none 0 0, .slice none 0 0])
  have hb4 := (H0.out.2.1.trans hb3).trans (Below.zero_alloc w3 (dmO [.int .i64 k, .int .i64 0, .bool false, .slice none 0 0, .string ⟨#[]⟩, .slice none 0 0, .slice none 0 0]))
  obtain ⟨g5, hg5⟩ : ∃ g, w3.heap.size = g := ⟨_, rfl⟩
  rw [hg5] at h4
  have c0 := ((show sat _ _ from h4.fr).left.cell 0).trans (show _ = some (Value.int .i64 k) from rfl)
  have H4 := Lib.hid (And.intro h4 hb4)
  clear h3 hb3 h4 hb4
  go_upto_region 5 with (fail)
  try rw [hg5]
  clear hg5
  generalize w3.alloc (dmO [.int .i64 k, .int .i64 0, .bool false, .slice none 0 0, .string ⟨#[]⟩, .slice none 0 0, .slice none 0 0]) = w4 at *
  rw [show rdNum l1 = rdNumF 0 0 l1 from rfl] at hs
  have kk := HK.out
  subst kk
  have hS5 := rd_number w4 B _ gr l1 (p + 1) H4.out.1
  rw [hs] at hS5
  go_wp2_with fail
  refine hS5.mono ?_
  clear hS5 c0
  rintro e w5 ⟨rfl, h5, hb5⟩
  unfold cutE
  go_wp2_with fail
  exact ⟨rfl, rfl, h5.right.right, (H4.out.2).trans hb5⟩
set_option maxRecDepth 100000 in
set_option maxHeartbeats 4000000 in
theorem rdc_k7 (deep : Nat) (w : World) (B R : HP) (gr : Nat) (l : List Int) (p : Int) (h : RdAt w B R gr l p) (hp : 0 ≤ p ∧ p ≤ 20000) (hl : l.length ≤ 67108864) (hp1 : ¬ 20000 < p + 1) (k : Int) (l1 : List Int) (hn : rdNum l = some (k, l1)) (hk : k = 7) (n : Int) (l2 : List Int) (hs : rdNumF 0 0 l1 = some (n, l2)) (hIH : RdConstAt deep) (dp : Int) (hdp : dp = ((deep + 1 : Nat) : Int)) (hdb : deep ≤ 100) :
    Calls Try.prog 54 #[.pointer (some ⟨gr, 0, none⟩), .int .i64 dp] w (RcPost B R gr (rdConst (deep + 1) p l) w) := by
  have hB := h.sub
  have h1 := h.alloc (dmO [.int .i64 0, .int .i64 0, .bool false, .slice none 0 0, .string ⟨#[]⟩, .slice none 0 0, .slice none 0 0])
  have hb1 := Below.zero_alloc w (dmO [.int .i64 0, .int .i64 0, .bool false, .slice none 0 0, .string ⟨#[]⟩, .slice none 0 0, .slice none 0 0])
  obtain ⟨c1, f1, hq1⟩ := h1.parts
  have h2 := hq1 (p + 1)
  have hb2 := hb1.setCell (p := ⟨gr, 1, none⟩) (Nat.zero_le _) (.int .i64 (p + 1))
  have c2 := h2.parts.1
  obtain ⟨g4, hg4⟩ : ∃ g, w.heap.size = g := ⟨_, rfl⟩
  rw [hg4] at h2
  have hN := rd_number _ _ _ gr l (p + 1) h2
  rw [show rdNumF 0 0 l = some (k, l1) from hn] at hN
  have hkb := rdNumF_bd l 0 0 k l1 hn
  have hre : rdConst (deep + 1) p l = kO deep 7 (rdMany (rdConst deep) n.toNat (p + 1) l2) := by subst hk; simp only [rdConst, hn, if_neg hp1, show rdNum l1 = some (n, l2) from hs]; rfl
  have e0 : (dp == 0) = false := by rw [beq_eq_false_iff_ne]; omega
  have e1 : decide (p + 1 > 20000) = false := by rw [decide_eq_false_iff_not]; omega
  have e2 : IntKind.i64.wrap (p + 1) = p + 1 := IntWalk.i64_in _ (by omega)
  rw [hre]
  have H0 := Lib.hid (And.intro hB (And.intro hb2 (And.intro hkb (And.intro hdp (And.intro hdb (And.intro hp hl))))))
  have HK := Lib.hid hk
  clear h h1 hb1 hq1 h2 hb2 hn hkb hre hB hdp hdb hp hl hp1 hk
  go_enter Try.func54, Try.ntmps54
  go_upto_region 1 with (fail)
  go_upto_region 2 with (fail)
  clear c1 f1
  try rw [hg4]
  clear hg4
  generalize (w.alloc (dmO [.int .i64 0, .int .i64 0, .bool false, .slice none 0 0, .string ⟨#[]⟩, .slice none 0 0, .slice none 0 0])).setCell ⟨gr, 1, none⟩ (.int .i64 (p + 1)) = w2 at *
  go_wp2_with fail
  refine hN.mono ?_
  clear hN c2
  rintro e w3 ⟨rfl, h3, hb3⟩
  have h4 := h3.alloc (dmO [.int .i64 k, .int .i64 0, .bool false, .slice none 0 0, .string ⟨#[]⟩, .slice none 0 0, .slice none 0 0])
  have hb4 := (H0.out.2.1.trans hb3).trans (Below.zero_alloc w3 (dmO [.int .i64 k, .int .i64 0, .bool false, .slice none 0 0, .string ⟨#[]⟩, .slice none 0 0, .slice none 0 0]))
  obtain ⟨g5, hg5⟩ : ∃ g, w3.heap.size = g := ⟨_, rfl⟩
  rw [hg5] at h4
  have c0 := ((show sat _ _ from h4.fr).left.cell 0).trans (show _ = some (Value.int .i64 k) from rfl)
  have H4 := Lib.hid (And.intro h4 hb4)
  clear h3 hb3 h4 hb4
  go_upto_region 5 with (fail)
  try rw [hg5]
  clear hg5
  generalize w3.alloc (dmO [.int .i64 k, .int .i64 0, .bool false, .slice none 0 0, .string ⟨#[]⟩, .slice none 0 0, .slice none 0 0]) = w4 at *
  have hnb := rdNumF_bd l1 0 0 n l2 hs
  obtain ⟨nn, hnn⟩ : ∃ x : Nat, n.toNat = x := ⟨_, rfl⟩
  have hnn2 : n = (nn : Int) := by omega
  rw [hnn]
  subst hnn2
  have HNB := Lib.hid hnb
  have HIH := Lib.hid hIH
  clear hnb hnn hIH
  have kk := HK.out
  subst kk
  have hS5 := rd_number w4 B _ gr l1 (p + 1) H4.out.1
  rw [hs] at hS5
  go_wp2_with fail
  refine hS5.mono ?_
  clear hS5 c0
  rintro e w5 ⟨rfl, h5, hb5⟩
  obtain ⟨i0, hi, hz0, hz1, hz2⟩ := info_parts info_dm
  have H7 := Lib.hid (And.intro h5 (H4.out.2.trans hb5))
  have HI := Lib.hid (And.intro hi (And.intro hz0 (And.intro hz1 hz2)))
  clear h5 hb5 hi hz0 hz1 hz2
  obtain ⟨dq, hdq⟩ : ∃ x : Int, (deep : Int) = x := ⟨_, rfl⟩
  have hdec : IntKind.i64.wrap (dp - 1) = dq := by rw [IntWalk.i64_in _ (by have := H0.out.2.2.2; omega)]; have := H0.out.2.2.2; omega
  have HDQ := Lib.hid hdq
  clear hdq
  go_wp2_with fail
  go_loopw [8] (RmRel7 w B R gr g4 g5 deep p nn l2) (fun i _ => (intOf i).toNat)
  case atStart =>
    refine ⟨nn, [], p + 1, l2, none, 0, [], emp, rfl, by have := HNB.out; omega, ?_, by have := HNB.out; have := H0.out; simp only [List.length_nil]; omega, by have := H0.out.2.2.2; simp at e1; omega, rfl, fun i d cs h _ => by simp at h, ?_, H7.out.2⟩
    · cases rdMany (rdConst deep) nn (p + 1) l2 with
      | none => rfl
      | some r => rfl
    · obtain ⟨ao, cap, q1, q2, q3, q4, q5⟩ := H7.out.1
      refine ⟨ao, cap, (q1.nil_own (e := 59) (sz := 7)).perm (by rw [HP.emp_mul]; simp only [List.flatten_nil, List.length_nil]; ac_rfl), q2, q3, q4, fun w' h => H0.out.1 w' h.right.right.right.right⟩
  case round =>
    obtain ⟨m, ds, q, l4, ai, ci, css, M, rfl, hmb, hrd, hlen, hqb, hcl, hdk, h8, hb8⟩ := hrel
    cases m with
    | zero =>
      have hfin : rdMany (rdConst deep) nn (p + 1) l2 = some (ds, q, l4) := by rw [hrd]; simp [rdMany, joinM]
      have hci : ds.length ≤ ci := by
        obtain ⟨ao, cap, q1, _⟩ := h8
        obtain ⟨_, _, e1, e2⟩ := slice_val q1.right
        cases e1
        exact e2
      have hdks : DKs (own 59 7 (.slice ai ds.length ci) ds.length css.flatten * M) ds ai 0 := row_dks hcl rfl hdk wr h8.fr
      have HFN := Lib.hid (And.intro hfin (And.intro hci hdks))
      have hq0 := hqb
      have hE0 : RdAt wr B (blk g5 (dmO [.int .i64 7, .int .i64 0, .bool false, .slice none 0 0, .string ⟨#[]⟩, .slice ai ds.length ci, .slice none 0 0]) * (blk g4 (dmO [.int .i64 0, .int .i64 0, .bool false, .slice none 0 0, .string ⟨#[]⟩, .slice none 0 0, .slice none 0 0]) * ((own 59 7 (.slice ai ds.length ci) ds.length css.flatten * M) * R))) gr l4 q := h8.perm (by ac_rfl)
      have hdk2 : DK (own 59 7 (.slice ai ds.length ci) ds.length css.flatten * M) (.mk 7 0 false [] noT ds []) [.int .i64 7, .int .i64 0, .bool false, .slice none 0 0, .string ⟨#[]⟩, .slice ai ds.length ci, .slice none 0 0] := DK.mk (mag := []) (rest := []) ⟨by omega, by omega⟩ (fun w h j x hx => by simp at hx) (fun x hx => by simp at hx) ⟨Nat.le_refl _, hci, Nat.le_refl _⟩ hdks DKs.nil
      have c0 := (hE0.fr.left.cell 0).trans (show _ = some (Value.int .i64 7) from rfl)
      have HE0 := Lib.hid (And.intro hE0 (And.intro hb8 hdk2))
      clear hE0 hb8 hdk2 hfin hrd hlen h8 hci hdks hcl hdk hqb hq0
      go_upto_region 34 with (fail)
      clear c0
      have hMB : ∀ w', sat w' ((own 59 7 (.slice ai ds.length ci) ds.length css.flatten * M) * R) → sat w' B := fun w' h => H0.out.1 w' h.right
      have hE := HE0.out.1
      have hsE := hE.fr
      obtain ⟨⟨d0, d1, d2, d3, d4, d5, d6⟩, ⟨z0, z1, z2, z3, z4, z5, z6⟩, y0, y1, y2, y3, y4, y5, y6⟩ := fin_cells hsE
      have hE2 : RdAt _ B (blk g4 (dmO [.int .i64 0, .int .i64 0, .bool false, .slice none 0 0, .string ⟨#[]⟩, .slice none 0 0, .slice none 0 0]) * ((own 59 7 (.slice ai ds.length ci) ds.length css.flatten * M) * R)) gr l4 q := hE.drop (fun w' h => hMB w' h.right)
      obtain ⟨hF, hC, hbF⟩ := hE2.put7 (.int .i64 7) (.int .i64 0) (.bool false) (.slice none 0 0) (.string ⟨#[]⟩) (.slice ai ds.length ci) (.slice none 0 0) hMB
      have HT := Lib.hid (And.intro hF (And.intro hC (And.intro ((HE0.out.2.1).trans hbF) HE0.out.2.2)))
      clear hE hsE hE2 hF hC hbF hMB
      go_wp2_with fail
      obtain ⟨r0, r1, r2, r3, r4, r5, r6⟩ := HT.out.2.1 _ rfl
      refine bodyPost_ret (v := .agg #[.int .i64 7, .int .i64 0, .bool false, .slice none 0 0, .string ⟨#[]⟩, .slice ai ds.length ci, .slice none 0 0]) (by simp [results, Try.results54, go_sem, r0, r1, r2, r3, r4, r5, r6]) rfl ?_
      show RcPost B R gr (kO deep 7 (rdMany (rdConst deep) nn (p + 1) l2)) w _ _
      rw [HFN.out.1]
      exact ⟨[.int .i64 7, .int .i64 0, .bool false, .slice none 0 0, .string ⟨#[]⟩, .slice ai ds.length ci, .slice none 0 0], (own 59 7 (.slice ai ds.length ci) ds.length css.flatten * M), rfl, HT.out.2.2.2, HT.out.1, HT.out.2.2.1⟩
    | succ m =>
      have hgt : decide (((m + 1 : Nat) : Int) > 0) = true := by rw [decide_eq_true_eq]; omega
      obtain ⟨mi, hmi⟩ : ∃ x : Int, ((m + 1 : Nat) : Int) = x := ⟨_, rfl⟩
      rw [hmi] at hgt ⊢
      have hdec2 : IntKind.i64.wrap (mi - 1) = mi - 1 := IntWalk.i64_in _ (by omega)
      obtain ⟨FF, hFF⟩ : ∃ FF : HP, FF = own 59 7 (.slice ai ds.length ci) ds.length css.flatten * (M * (blk g5 (dmO [.int .i64 7, .int .i64 0, .bool false, .slice none 0 0, .string ⟨#[]⟩, .slice ai ds.length ci, .slice none 0 0]) * (blk g4 (dmO [.int .i64 0, .int .i64 0, .bool false, .slice none 0 0, .string ⟨#[]⟩, .slice none 0 0, .slice none 0 0]) * R))) := ⟨_, rfl⟩
      rw [← hFF] at h8
      have hFR : ∀ w', sat w' FF → sat w' R := fun w' h => by rw [hFF] at h; exact h.right.right.right.right
      have hF5 : ∀ w', sat w' FF → w'.cell? ⟨g5, 5, none⟩ = some (.slice ai ds.length ci) := fun w' h => by rw [hFF] at h; exact (h.right.right.left.cell 5).trans rfl
      have hC := fun (w' : World) (h : RdAt w' B FF gr l4 q) => HIH.out w' B FF gr l4 q h hqb (by omega)
      rw [HDQ.out] at hC
      cases hr : rdConst deep q l4 with
      | none =>
        rw [hr] at hC
        have hno : rdMany (rdConst deep) nn (p + 1) l2 = none := by rw [hrd]; exact joinM_no hr
        have HNO := Lib.hid (And.intro hno (And.intro hFR hb8))
        have c5 := hF5 wr h8.fr
        have c5d := hF5 wr.drew h8.fr
        have HC := Lib.hid (And.intro hC (show RdAt wr.drew B FF gr l4 q from h8))
        clear hno hr hrd hlen h8 hb8 hFF hFR hF5 hC hcl hdk
        go_wp2_with fail
        refine wp_region_held_drew (S := fun w' => w'.cell? ⟨g5, 5, none⟩ = some (.slice ai ds.length ci)) (by kernel_rfl) ?hS900 (fun hHeld => ?rest900)
        case hS900 => exact c5d
        refine wpAnyH_take (i := 0) (oi := { dst := some 90, op := _, type := _, pos := _, after := _, guard := _ }) (v := ?v901) rfl (by kernel_rfl) (by kernel_rfl) (by kernel_rfl) (fun _ _ _ h => h) (Or.inl ⟨by rfl, ?hy901⟩) hHeld ?rest901
        case hy901 => (intro w hSw; (try dsimp only at hSw); first | (go_simp; done) | (go_simp; with_reducible rfl))
        simp only [Act.put, List.setIfInBounds_toArray, List.set_cons_zero, List.set_cons_succ]
        refine wpAnyH_take (i := 1) (oi := { dst := some 91, op := _, type := _, pos := _, after := _, guard := _ }) (v := ?v902) rfl (by kernel_rfl) (by kernel_rfl) (by kernel_rfl) (fun _ _ _ h => h) (Or.inl ⟨by rfl, ?hy902⟩) hHeld ?rest902
        case hy902 => (intro w hSw; (try dsimp only at hSw); first | (go_simp; done) | (go_simp; with_reducible rfl))
        simp only [Act.put, List.setIfInBounds_toArray, List.set_cons_zero, List.set_cons_succ]
        refine wpAnyH_take (i := 2) (oi := { dst := some 92, op := _, type := _, pos := _, after := _, guard := _ }) (v := ?v903) rfl (by kernel_rfl) (by kernel_rfl) (by kernel_rfl) (fun _ _ _ h => h) (Or.inl ⟨by rfl, ?hy903⟩) hHeld ?rest903
        case hy903 => (intro w hSw; (try dsimp only at hSw); first | (go_simp; done) | (go_simp; with_reducible rfl))
        simp only [Act.put, List.setIfInBounds_toArray, List.set_cons_zero, List.set_cons_succ]
        refine wpAnyH_take (i := 3) (oi := { dst := some 93, op := _, type := _, pos := _, after := _, guard := _ }) (v := ?v904) rfl (by kernel_rfl) (by kernel_rfl) (by kernel_rfl) (fun _ _ _ h => h) (Or.inl ⟨by rfl, ?hy904⟩) hHeld ?rest904
        case hy904 => (intro w hSw; (try dsimp only at hSw); first | (go_simp; done) | (go_simp; with_reducible rfl))
        simp only [Act.put, List.setIfInBounds_toArray, List.set_cons_zero, List.set_cons_succ]
        refine wpAnyH_take (i := 4) (oi := { dst := some 94, op := _, type := _, pos := _, after := _, guard := _ }) (v := ?v905) rfl (by kernel_rfl) (by kernel_rfl) (by kernel_rfl) (fun _ _ _ h => h) (Or.inl ⟨by rfl, ?hy905⟩) hHeld ?rest905
        case hy905 => (intro w hSw; (try dsimp only at hSw); first | (go_simp; done) | (go_simp; with_reducible rfl))
        simp only [Act.put, List.setIfInBounds_toArray, List.set_cons_zero, List.set_cons_succ]
        refine wpAnyH_ready (rs := [5]) (by kernel_rfl) (by simp) ?_
        refine AllReadyH.cons (o := { dst := some 95, op := _, type := _, pos := _, after := _, guard := _ }) rfl (fun K hK => ?step950) ?more950
        case more950 => exact AllReadyH.nil
        clear hHeld
        go_simp
        go_at_call 54
        refine (HC.out.1 _ HC.out.2).mono ?_
        rintro e w9 ⟨rfl, h9, hb9⟩
        unfold cutE
        dsimp only
        refine ⟨rfl, ?_⟩
        show RcPost B R gr (kO deep 7 (rdMany (rdConst deep) nn (p + 1) l2)) w _ _
        rw [HNO.out.1]
        exact ⟨rfl, HNO.out.2.1 _ h9, (HNO.out.2.2.drew).trans hb9⟩
      | some r =>
        obtain ⟨d, q1, l5⟩ := r
        have hxb := rdConst_bd deep q l4 d q1 l5 hr
        rw [hr] at hC
        have o1 : ∀ (w3 : World) (M2 : HP) (v0 v1 v2 v3 v4 v5 v6 : Value), RdAt w3 B (M2 * FF) gr l5 q1 →
            w3.cell? ⟨g5, 5, none⟩ = some (.slice ai ds.length ci) ∧ (w3.alloc (dmO [v0, v1, v2, v3, v4, v5, v6])).cell? ⟨g5, 5, none⟩ = some (.slice ai ds.length ci) ∧
            (∀ (j' : Nat) u, [v0, v1, v2, v3, v4, v5, v6][j']? = some u → (w3.alloc (dmO [v0, v1, v2, v3, v4, v5, v6])).cell? ((⟨w3.heap.size, 0, none⟩ : Addr).add j') = some u) ∧
            ∃ ao cap, sat (w3.alloc (dmO [v0, v1, v2, v3, v4, v5, v6])) (own 59 7 (.slice ai ds.length ci) ds.length css.flatten * (blk w3.heap.size (dmO [v0, v1, v2, v3, v4, v5, v6]) * (blk gr (.cells #[.slice ao l5.length cap, .int .i64 q1] 72 (0, 0)) * (blk g5 (dmO [.int .i64 7, .int .i64 0, .bool false, .slice none 0 0, .string ⟨#[]⟩, .slice ai ds.length ci, .slice none 0 0]) * ((M2 * M) * (blk g4 (dmO [.int .i64 0, .int .i64 0, .bool false, .slice none 0 0, .string ⟨#[]⟩, .slice none 0 0, .slice none 0 0]) * R)))))) ∧ l5.length ≤ cap ∧ (∀ w', sat w' B → CellsAt w' ao (l5.map bv)) ∧ Bytes l5 := by
          rintro w3 M2 v0 v1 v2 v3 v4 v5 v6 ⟨ao, cap, q1', q2, q3, q4, q5⟩
          have h2 := q1'.alloc (dmO [v0, v1, v2, v3, v4, v5, v6])
          refine ⟨hF5 _ q1'.right.right, hF5 _ h2.right.right.right, ?_, ao, cap, h2.perm (by rw [hFF]; ac_rfl), q2, q3, q4⟩
          intro j' u hu
          rw [show ((⟨w3.heap.size, 0, none⟩ : Addr).add j') = ⟨w3.heap.size, j', none⟩ by unfold Addr.add; split <;> simp_all, h2.left.cell j', ← hu]
          simp
        have o2 : ∀ (w9 : World) (bl : Nat) (o o2 : Obj) (b7 c7 : Nat) (xs : List Value) (X : HP), sat w9 (row 59 7 b7 c7 xs * (blk bl o * (blk gr o2 * (blk g5 (dmO [.int .i64 7, .int .i64 0, .bool false, .slice none 0 0, .string ⟨#[]⟩, .slice ai ds.length ci, .slice none 0 0]) * X)))) →
            w9.cell? ⟨g5, 5, none⟩ = some (.slice ai ds.length ci) ∧ w9.frozen? ⟨g5, 5, none⟩ = false := fun w9 bl o o2 b7 c7 xs X h => ⟨(h.right.right.right.left.cell 5).trans rfl, h.right.right.right.left.frozen 5⟩
        have c5 := hF5 wr h8.fr
        have HO := Lib.hid (And.intro o1 o2)
        have HR := Lib.hid (And.intro (hrd.trans (joinM_next hr)) (And.intro hlen (And.intro hcl (And.intro hb8 (And.intro hxb (And.intro hmi (And.intro hmb (And.intro hdk hqb))))))))
        have HC := Lib.hid (And.intro hC (show RdAt wr.drew B FF gr l4 q from h8))
        clear o1 o2 hr hrd hlen h8 hb8 hFF hFR hF5 hC hcl hdk hxb hmi hmb hqb
        go_wp2_with fail
        go_region_law
          (first
            | (go_simp; go_at_call 54; refine (HC.out.1 _ HC.out.2).mono ?_; rintro e w3' ⟨cs2, M2, rfl, hdk2, h3, hb3⟩; obtain ⟨v0, v1, v2, v3, v4, v5, v6, rfl⟩ := hdk2.seven; obtain ⟨y1, y2, y3, ao, cap, y4, y5, y6, y7⟩ := HO.out.1 w3' M2 v0 v1 v2 v3 v4 v5 v6 h3)
            | (refine step_append_sat rfl (.tmp 91) (.tmp 96) 35 rfl 59 i0 zeroDm 7 112 Try.underlying35 HI.out.1 HI.out.2.1 HI.out.2.2.1 HI.out.2.2.2 rfl _ ds.length css.flatten (by rfl) _ y4 ⟨w3'.heap.size, 0, none⟩ 1 1 [v0, v1, v2, v3, v4, v5, v6] (by rfl) rfl y3 hdk2.one (by have := HR.out.2.1; omega) (by have := HR.out.2.1; unfold maxLen; omega) (by omega) ?_; intro b7 c7 w9 hs9 hc9 hb9; obtain ⟨z5, z6⟩ := HO.out.2 _ _ _ _ _ _ _ _ hs9))
        all_goals (
          have hs10 : sat w9 (blk g5 (dmO [.int .i64 7, .int .i64 0, .bool false, .slice none 0 0, .string ⟨#[]⟩, .slice ai ds.length ci, .slice none 0 0]) * (blk gr (.cells #[.slice ao l5.length cap, .int .i64 q1] 72 (0, 0)) * (row 59 7 b7 c7 (css.flatten ++ [v0, v1, v2, v3, v4, v5, v6]) * ((M2 * M) * (blk g4 (dmO [.int .i64 0, .int .i64 0, .bool false, .slice none 0 0, .string ⟨#[]⟩, .slice none 0 0, .slice none 0 0]) * R))))) := (show sat w9 (blk w3'.heap.size (dmO [v0, v1, v2, v3, v4, v5, v6]) * _) from hs9.perm (by ac_rfl)).right
          have hs11 : sat (w9.setCell ⟨g5, 5, none⟩ (.slice (some ⟨b7, 0, none⟩) (ds.length + 1) c7)) (blk g5 (dmO [.int .i64 7, .int .i64 0, .bool false, .slice none 0 0, .string ⟨#[]⟩, .slice (some ⟨b7, 0, none⟩) (ds.length + 1) c7, .slice none 0 0]) * (blk gr (.cells #[.slice ao l5.length cap, .int .i64 q1] 72 (0, 0)) * (row 59 7 b7 c7 (css.flatten ++ [v0, v1, v2, v3, v4, v5, v6]) * ((M2 * M) * (blk g4 (dmO [.int .i64 0, .int .i64 0, .bool false, .slice none 0 0, .string ⟨#[]⟩, .slice none 0 0, .slice none 0 0]) * R))))) := hs10.setCell (off := 5) _
          have hb11 : Below 0 w (w9.setCell ⟨g5, 5, none⟩ (.slice (some ⟨b7, 0, none⟩) (ds.length + 1) c7)) := (((HR.out.2.2.2.1.drew.trans hb3).trans (Below.zero_alloc _ _)).trans hb9).setCell (p := ⟨g5, 5, none⟩) (Nat.zero_le _) _
          have HF := Lib.hid (And.intro hs11 (And.intro hb11 (And.intro hdk2 (And.intro hc9 (And.intro y5 (And.intro y6 y7))))))
          clear hs9 hs10 hs11 hb11 hb3 hb9 h3 y1 y2 y3 y4 y5 y6 y7 z5 z6 hdk2 hc9 HO HC
          go_wp2_with fail
          go_roundw
          case rel =>
            obtain ⟨g1, g2, g3, g4', g5', g6, g7⟩ := HF.out
            obtain ⟨x1, x2, x3, x4, x5, x6, x7, x8, x9⟩ := HR.out
            have hln : (ds ++ [d]).length = ds.length + 1 := by simp
            refine ⟨m, ds ++ [d], q1, l5, some ⟨b7, 0, none⟩, c7, css ++ [[v0, v1, v2, v3, v4, v5, v6]], M2 * M, ?_, by omega, x1, by rw [hln]; omega, by omega, by simp [x3], ?_, ?_, g2⟩
            · congr 1; omega
            · intro i d' cs hd hc
              by_cases hik : i < ds.length
              · rw [List.getElem?_append_left hik] at hd
                rw [List.getElem?_append_left (by rw [x3]; exact hik)] at hc
                exact (x8 i d' cs hd hc).mono (fun w h => h.right) _
              · rw [List.getElem?_append_right (by omega)] at hd
                rw [List.getElem?_append_right (by omega), x3] at hc
                cases hz : i - ds.length with
                | zero =>
                  rw [hz] at hd hc
                  simp at hd hc
                  subst hd
                  subst hc
                  exact g3.mono (fun w h => h.left) _
                | succ z => rw [hz] at hd; simp at hd
            · rw [hln, List.flatten_append, List.flatten_cons, List.flatten_nil, List.append_nil]
              have hfl : (css.flatten ++ [v0, v1, v2, v3, v4, v5, v6]).length = (ds.length + 1) * 7 := by
                have h7 : ∀ cs ∈ css, cs.length = 7 := by
                  intro cs hcs
                  obtain ⟨i, hi⟩ := List.mem_iff_getElem?.1 hcs
                  have hij := (List.getElem?_eq_some_iff.1 hi).1
                  exact (x8 i _ cs (List.getElem?_eq_getElem (by omega)) hi).len
                rw [List.length_append, flat7 h7, x3]
                show _ + 7 = _
                omega
              have g8 := sat.shut_own (n := ds.length + 1) hfl g4' (g1.perm (show _ = row 59 7 b7 c7 _ * (blk g5 _ * (blk gr _ * ((M2 * M) * (blk g4 (dmO [.int .i64 0, .int .i64 0, .bool false, .slice none 0 0, .string ⟨#[]⟩, .slice none 0 0, .slice none 0 0]) * R)))) by ac_rfl))
              exact ⟨ao, cap, g8.perm (by ac_rfl), g5', g6, g7, fun w' h => H0.out.1 w' h.right.right.right.right⟩
          case measure =>
            have := HR.out.2.2.2.2.2.1
            simp [intOf]; omega)
end Go.Proofs.Ytkjfplldfjmbaaa

/- pack's reader of constants: a list. -/
namespace Go.Proofs.Ytkjfplldfjmbaaa
open Go.RowKit
def RmRel6 (W : World) (B R : HP) (gr g4 g5 : Nat) (deep : Nat) (p : Int) (N : Nat) (l2 : List Int) (i : Value) (wr : World) : Prop :=
  ∃ (m : Nat) (ds : List Dm) (q : Int) (l : List Int) (ai : Option Addr) (ci : Nat) (css : List (List Value)) (M : HP), i = .int .i64 m ∧ m ≤ 1099511627776 ∧ rdMany (rdConst deep) N (p + 1) l2 = joinM ds (rdMany (rdConst deep) m q l) ∧ ds.length + l.length ≤ 67108864 ∧ (0 ≤ q ∧ q ≤ 20000) ∧
    css.length = ds.length ∧ (∀ (i : Nat) d cs, ds[i]? = some d → css[i]? = some cs → DK M d cs) ∧
    RdAt wr B (own 59 7 (.slice ai ds.length ci) ds.length css.flatten * (M * (blk g5 (dmO [.int .i64 6, .int .i64 0, .bool false, .slice none 0 0, .string ⟨#[]⟩, .slice ai ds.length ci, .slice none 0 0]) * (blk g4 (dmO [.int .i64 0, .int .i64 0, .bool false, .slice none 0 0, .string ⟨#[]⟩, .slice none 0 0, .slice none 0 0]) * R)))) gr l q ∧ Below 0 W wr
set_option maxRecDepth 100000 in
set_option maxHeartbeats 4000000 in
theorem rdc_k6_no (deep : Nat) (w : World) (B R : HP) (gr : Nat) (l : List Int) (p : Int) (h : RdAt w B R gr l p) (hp : 0 ≤ p ∧ p ≤ 20000) (hl : l.length ≤ 67108864) (hp1 : ¬ 20000 < p + 1) (k : Int) (l1 : List Int) (hn : rdNum l = some (k, l1)) (hk : k = 6) (hs : rdNum l1 = none) (dp : Int) (hdp : dp = ((deep + 1 : Nat) : Int)) (hdb : deep ≤ 100) :
    Calls Try.prog 54 #[.pointer (some ⟨gr, 0, none⟩), .int .i64 dp] w (RcPost B R gr (rdConst (deep + 1) p l) w) := by
  have hB := h.sub
  have h1 := h.alloc (dmO [.int .i64 0, .int .i64 0, .bool false, .slice none 0 0, .string ⟨#[]⟩, .slice none 0 0, .slice none 0 0])
  have hb1 := Below.zero_alloc w (dmO [.int .i64 0, .int .i64 0, .bool false, .slice none 0 0, .string ⟨#[]⟩, .slice none 0 0, .slice none 0 0])
  obtain ⟨c1, f1, hq1⟩ := h1.parts
  have h2 := hq1 (p + 1)
  have hb2 := hb1.setCell (p := ⟨gr, 1, none⟩) (Nat.zero_le _) (.int .i64 (p + 1))
  have c2 := h2.parts.1
  obtain ⟨g4, hg4⟩ : ∃ g, w.heap.size = g := ⟨_, rfl⟩
  rw [hg4] at h2
  have hN := rd_number _ _ _ gr l (p + 1) h2
  rw [show rdNumF 0 0 l = some (k, l1) from hn] at hN
  have hkb := rdNumF_bd l 0 0 k l1 hn
  have hre : rdConst (deep + 1) p l = none := by subst hk; simp [rdConst, hp1, hn, hs]
  have e0 : (dp == 0) = false := by rw [beq_eq_false_iff_ne]; omega
  have e1 : decide (p + 1 > 20000) = false := by rw [decide_eq_false_iff_not]; omega
  have e2 : IntKind.i64.wrap (p + 1) = p + 1 := IntWalk.i64_in _ (by omega)
  rw [hre]
  have H0 := Lib.hid (And.intro hB (And.intro hb2 (And.intro hkb (And.intro hdp (And.intro hdb (And.intro hp hl))))))
  have HK := Lib.hid hk
  clear h h1 hb1 hq1 h2 hb2 hn hkb hre hB hdp hdb hp hl hp1 hk
  go_enter Try.func54, Try.ntmps54
  go_upto_region 1 with (fail)
  go_upto_region 2 with (fail)
  clear c1 f1
  try rw [hg4]
  clear hg4
  generalize (w.alloc (dmO [.int .i64 0, .int .i64 0, .bool false, .slice none 0 0, .string ⟨#[]⟩, .slice none 0 0, .slice none 0 0])).setCell ⟨gr, 1, none⟩ (.int .i64 (p + 1)) = w2 at *
  go_wp2_with fail
  refine hN.mono ?_
  clear hN c2
  rintro e w3 ⟨rfl, h3, hb3⟩
  have h4 := h3.alloc (dmO [.int .i64 k, .int .i64 0, .bool false, .slice none 0 0, .string ⟨#[]⟩, .slice none 0 0, .slice none 0 0])
  have hb4 := (H0.out.2.1.trans hb3).trans (Below.zero_alloc w3 (dmO [.int .i64 k, .int .i64 0, .bool false, .slice none 0 0, .string ⟨#[]⟩, .slice none 0 0, .slice none 0 0]))
  obtain ⟨g5, hg5⟩ : ∃ g, w3.heap.size = g := ⟨_, rfl⟩
  rw [hg5] at h4
  have c0 := ((show sat _ _ from h4.fr).left.cell 0).trans (show _ = some (Value.int .i64 k) from rfl)
  have H4 := Lib.hid (And.intro h4 hb4)
  clear h3 hb3 h4 hb4
  go_upto_region 5 with (fail)
  try rw [hg5]
  clear hg5
  generalize w3.alloc (dmO [.int .i64 k, .int .i64 0, .bool false, .slice none 0 0, .string ⟨#[]⟩, .slice none 0 0, .slice none 0 0]) = w4 at *
  rw [show rdNum l1 = rdNumF 0 0 l1 from rfl] at hs
  have kk := HK.out
  subst kk
  have hS5 := rd_number w4 B _ gr l1 (p + 1) H4.out.1
  rw [hs] at hS5
  go_wp2_with fail
  refine hS5.mono ?_
  clear hS5 c0
  rintro e w5 ⟨rfl, h5, hb5⟩
  unfold cutE
  go_wp2_with fail
  exact ⟨rfl, rfl, h5.right.right, (H4.out.2).trans hb5⟩
set_option maxRecDepth 100000 in
set_option maxHeartbeats 4000000 in
theorem rdc_k6 (deep : Nat) (w : World) (B R : HP) (gr : Nat) (l : List Int) (p : Int) (h : RdAt w B R gr l p) (hp : 0 ≤ p ∧ p ≤ 20000) (hl : l.length ≤ 67108864) (hp1 : ¬ 20000 < p + 1) (k : Int) (l1 : List Int) (hn : rdNum l = some (k, l1)) (hk : k = 6) (n : Int) (l2 : List Int) (hs : rdNumF 0 0 l1 = some (n, l2)) (hIH : RdConstAt deep) (dp : Int) (hdp : dp = ((deep + 1 : Nat) : Int)) (hdb : deep ≤ 100) :
    Calls Try.prog 54 #[.pointer (some ⟨gr, 0, none⟩), .int .i64 dp] w (RcPost B R gr (rdConst (deep + 1) p l) w) := by
  have hB := h.sub
  have h1 := h.alloc (dmO [.int .i64 0, .int .i64 0, .bool false, .slice none 0 0, .string ⟨#[]⟩, .slice none 0 0, .slice none 0 0])
  have hb1 := Below.zero_alloc w (dmO [.int .i64 0, .int .i64 0, .bool false, .slice none 0 0, .string ⟨#[]⟩, .slice none 0 0, .slice none 0 0])
  obtain ⟨c1, f1, hq1⟩ := h1.parts
  have h2 := hq1 (p + 1)
  have hb2 := hb1.setCell (p := ⟨gr, 1, none⟩) (Nat.zero_le _) (.int .i64 (p + 1))
  have c2 := h2.parts.1
  obtain ⟨g4, hg4⟩ : ∃ g, w.heap.size = g := ⟨_, rfl⟩
  rw [hg4] at h2
  have hN := rd_number _ _ _ gr l (p + 1) h2
  rw [show rdNumF 0 0 l = some (k, l1) from hn] at hN
  have hkb := rdNumF_bd l 0 0 k l1 hn
  have hre : rdConst (deep + 1) p l = kO deep 6 (rdMany (rdConst deep) n.toNat (p + 1) l2) := by subst hk; simp only [rdConst, hn, if_neg hp1, show rdNum l1 = some (n, l2) from hs]; rfl
  have e0 : (dp == 0) = false := by rw [beq_eq_false_iff_ne]; omega
  have e1 : decide (p + 1 > 20000) = false := by rw [decide_eq_false_iff_not]; omega
  have e2 : IntKind.i64.wrap (p + 1) = p + 1 := IntWalk.i64_in _ (by omega)
  rw [hre]
  have H0 := Lib.hid (And.intro hB (And.intro hb2 (And.intro hkb (And.intro hdp (And.intro hdb (And.intro hp hl))))))
  have HK := Lib.hid hk
  clear h h1 hb1 hq1 h2 hb2 hn hkb hre hB hdp hdb hp hl hp1 hk
  go_enter Try.func54, Try.ntmps54
  go_upto_region 1 with (fail)
  go_upto_region 2 with (fail)
  clear c1 f1
  try rw [hg4]
  clear hg4
  generalize (w.alloc (dmO [.int .i64 0, .int .i64 0, .bool false, .slice none 0 0, .string ⟨#[]⟩, .slice none 0 0, .slice none 0 0])).setCell ⟨gr, 1, none⟩ (.int .i64 (p + 1)) = w2 at *
  go_wp2_with fail
  refine hN.mono ?_
  clear hN c2
  rintro e w3 ⟨rfl, h3, hb3⟩
  have h4 := h3.alloc (dmO [.int .i64 k, .int .i64 0, .bool false, .slice none 0 0, .string ⟨#[]⟩, .slice none 0 0, .slice none 0 0])
  have hb4 := (H0.out.2.1.trans hb3).trans (Below.zero_alloc w3 (dmO [.int .i64 k, .int .i64 0, .bool false, .slice none 0 0, .string ⟨#[]⟩, .slice none 0 0, .slice none 0 0]))
  obtain ⟨g5, hg5⟩ : ∃ g, w3.heap.size = g := ⟨_, rfl⟩
  rw [hg5] at h4
  have c0 := ((show sat _ _ from h4.fr).left.cell 0).trans (show _ = some (Value.int .i64 k) from rfl)
  have H4 := Lib.hid (And.intro h4 hb4)
  clear h3 hb3 h4 hb4
  go_upto_region 5 with (fail)
  try rw [hg5]
  clear hg5
  generalize w3.alloc (dmO [.int .i64 k, .int .i64 0, .bool false, .slice none 0 0, .string ⟨#[]⟩, .slice none 0 0, .slice none 0 0]) = w4 at *
  have hnb := rdNumF_bd l1 0 0 n l2 hs
  obtain ⟨nn, hnn⟩ : ∃ x : Nat, n.toNat = x := ⟨_, rfl⟩
  have hnn2 : n = (nn : Int) := by omega
  rw [hnn]
  subst hnn2
  have HNB := Lib.hid hnb
  have HIH := Lib.hid hIH
  clear hnb hnn hIH
  have kk := HK.out
  subst kk
  have hS5 := rd_number w4 B _ gr l1 (p + 1) H4.out.1
  rw [hs] at hS5
  go_wp2_with fail
  refine hS5.mono ?_
  clear hS5 c0
  rintro e w5 ⟨rfl, h5, hb5⟩
  obtain ⟨i0, hi, hz0, hz1, hz2⟩ := info_parts info_dm
  have H7 := Lib.hid (And.intro h5 (H4.out.2.trans hb5))
  have HI := Lib.hid (And.intro hi (And.intro hz0 (And.intro hz1 hz2)))
  clear h5 hb5 hi hz0 hz1 hz2
  obtain ⟨dq, hdq⟩ : ∃ x : Int, (deep : Int) = x := ⟨_, rfl⟩
  have hdec : IntKind.i64.wrap (dp - 1) = dq := by rw [IntWalk.i64_in _ (by have := H0.out.2.2.2; omega)]; have := H0.out.2.2.2; omega
  have HDQ := Lib.hid hdq
  clear hdq
  go_wp2_with fail
  go_loopw [8] (RmRel6 w B R gr g4 g5 deep p nn l2) (fun i _ => (intOf i).toNat)
  case atStart =>
    refine ⟨nn, [], p + 1, l2, none, 0, [], emp, rfl, by have := HNB.out; omega, ?_, by have := HNB.out; have := H0.out; simp only [List.length_nil]; omega, by have := H0.out.2.2.2; simp at e1; omega, rfl, fun i d cs h _ => by simp at h, ?_, H7.out.2⟩
    · cases rdMany (rdConst deep) nn (p + 1) l2 with
      | none => rfl
      | some r => rfl
    · obtain ⟨ao, cap, q1, q2, q3, q4, q5⟩ := H7.out.1
      refine ⟨ao, cap, (q1.nil_own (e := 59) (sz := 7)).perm (by rw [HP.emp_mul]; simp only [List.flatten_nil, List.length_nil]; ac_rfl), q2, q3, q4, fun w' h => H0.out.1 w' h.right.right.right.right⟩
  case round =>
    obtain ⟨m, ds, q, l4, ai, ci, css, M, rfl, hmb, hrd, hlen, hqb, hcl, hdk, h8, hb8⟩ := hrel
    cases m with
    | zero =>
      have hfin : rdMany (rdConst deep) nn (p + 1) l2 = some (ds, q, l4) := by rw [hrd]; simp [rdMany, joinM]
      have hci : ds.length ≤ ci := by
        obtain ⟨ao, cap, q1, _⟩ := h8
        obtain ⟨_, _, e1, e2⟩ := slice_val q1.right
        cases e1
        exact e2
      have hdks : DKs (own 59 7 (.slice ai ds.length ci) ds.length css.flatten * M) ds ai 0 := row_dks hcl rfl hdk wr h8.fr
      have HFN := Lib.hid (And.intro hfin (And.intro hci hdks))
      have hq0 := hqb
      have hE0 : RdAt wr B (blk g5 (dmO [.int .i64 6, .int .i64 0, .bool false, .slice none 0 0, .string ⟨#[]⟩, .slice ai ds.length ci, .slice none 0 0]) * (blk g4 (dmO [.int .i64 0, .int .i64 0, .bool false, .slice none 0 0, .string ⟨#[]⟩, .slice none 0 0, .slice none 0 0]) * ((own 59 7 (.slice ai ds.length ci) ds.length css.flatten * M) * R))) gr l4 q := h8.perm (by ac_rfl)
      have c0 := (hE0.fr.left.cell 0).trans (show _ = some (Value.int .i64 6) from rfl)
      have hT := rd_truth wr B _ gr l4 q hE0
      have HB0 := Lib.hid (And.intro hb8 (And.intro hq0 hlen))
      clear hE0 hb8 hfin hrd hlen h8 hci hdks hcl hdk hqb hq0
      cases hb : rdBool l4 with
      | none =>
        rw [hb] at hT
        have HKN := Lib.hid (show kO deep 6 (some (ds, q, l4)) = none by simp [kO, hb])
        clear hb
        go_wp2_with fail
        refine hT.mono ?_
        rintro e w5 ⟨rfl, h5, hb5⟩
        unfold cutE
        go_wp2_with fail
        refine ⟨rfl, ?_⟩
        show RcPost B R gr (kO deep 6 (rdMany (rdConst deep) nn (p + 1) l2)) w _ _
        rw [HFN.out.1, HKN.out]
        exact ⟨rfl, h5.right.right.right, HB0.out.1.trans hb5⟩
      | some r =>
        obtain ⟨b, l5⟩ := r
        have hbl := rdBool_len hb
        rw [hb] at hT
        cases b with
        | false =>
          have HKN := Lib.hid (show kO deep 6 (some (ds, q, l4)) = some (.mk 6 0 false [] noT ds [], q, l5) by simp [kO, hb])
          clear hb hbl
          go_wp2_with fail
          refine hT.mono ?_
          clear hT c0
          rintro e w5 ⟨rfl, h5, hb5⟩
          have hdk2 : DK (own 59 7 (.slice ai ds.length ci) ds.length css.flatten * M) (.mk 6 0 false [] noT ds []) [.int .i64 6, .int .i64 0, .bool false, .slice none 0 0, .string ⟨#[]⟩, .slice ai ds.length ci, .slice none 0 0] := DK.mk (mag := []) (rest := []) ⟨by omega, by omega⟩ (fun w h j x hx => by simp at hx) (fun x hx => by simp at hx) ⟨Nat.le_refl _, HFN.out.2.1, Nat.le_refl _⟩ HFN.out.2.2 DKs.nil
          have HE0 := Lib.hid (And.intro h5 (And.intro (HB0.out.1.trans hb5) hdk2))
          clear h5 hb5 hdk2
          go_upto_region 34 with (fail)
          have hMB : ∀ w', sat w' ((own 59 7 (.slice ai ds.length ci) ds.length css.flatten * M) * R) → sat w' B := fun w' h => H0.out.1 w' h.right
          have hE := HE0.out.1
          have hsE := hE.fr
          obtain ⟨⟨d0, d1, d2, d3, d4, d5, d6⟩, ⟨z0, z1, z2, z3, z4, z5, z6⟩, y0, y1, y2, y3, y4, y5, y6⟩ := fin_cells hsE
          have hE2 : RdAt _ B (blk g4 (dmO [.int .i64 0, .int .i64 0, .bool false, .slice none 0 0, .string ⟨#[]⟩, .slice none 0 0, .slice none 0 0]) * ((own 59 7 (.slice ai ds.length ci) ds.length css.flatten * M) * R)) gr l5 q := hE.drop (fun w' h => hMB w' h.right)
          obtain ⟨hF, hC, hbF⟩ := hE2.put7 (.int .i64 6) (.int .i64 0) (.bool false) (.slice none 0 0) (.string ⟨#[]⟩) (.slice ai ds.length ci) (.slice none 0 0) hMB
          have HT := Lib.hid (And.intro hF (And.intro hC (And.intro ((HE0.out.2.1).trans hbF) HE0.out.2.2)))
          clear hE hsE hE2 hF hC hbF hMB
          go_wp2_with fail
          obtain ⟨r0, r1, r2, r3, r4, r5, r6⟩ := HT.out.2.1 _ rfl
          refine bodyPost_ret (v := .agg #[.int .i64 6, .int .i64 0, .bool false, .slice none 0 0, .string ⟨#[]⟩, .slice ai ds.length ci, .slice none 0 0]) (by simp [results, Try.results54, go_sem, r0, r1, r2, r3, r4, r5, r6]) rfl ?_
          show RcPost B R gr (kO deep 6 (rdMany (rdConst deep) nn (p + 1) l2)) w _ _
          rw [HFN.out.1, HKN.out]
          exact ⟨[.int .i64 6, .int .i64 0, .bool false, .slice none 0 0, .string ⟨#[]⟩, .slice ai ds.length ci, .slice none 0 0], (own 59 7 (.slice ai ds.length ci) ds.length css.flatten * M), rfl, HT.out.2.2.2, HT.out.1, HT.out.2.2.1⟩
        | true =>
          have hI := fun (w' : World) (h : RdAt w' B _ gr l5 q) => HIH.out w' B (blk g5 (dmO [.int .i64 6, .int .i64 0, .bool false, .slice none 0 0, .string ⟨#[]⟩, .slice ai ds.length ci, .slice none 0 0]) * (blk g4 (dmO [.int .i64 0, .int .i64 0, .bool false, .slice none 0 0, .string ⟨#[]⟩, .slice none 0 0, .slice none 0 0]) * ((own 59 7 (.slice ai ds.length ci) ds.length css.flatten * M) * R))) gr l5 q h HB0.out.2.1 (by have := HB0.out.2.2; omega)
          rw [HDQ.out] at hI
          cases hr : rdConst deep q l5 with
          | none =>
            rw [hr] at hI
            have HKN := Lib.hid (show kO deep 6 (some (ds, q, l4)) = none by simp [kO, hb, hr])
            clear hb hr hbl
            go_wp2_with fail
            refine hT.mono ?_
            clear hT c0
            rintro e w5 ⟨rfl, h5, hb5⟩
            have hI5 := hI w5 h5
            clear hI h5
            go_wp2_with fail
            refine hI5.mono ?_
            rintro e w6 ⟨rfl, h6, hb6⟩
            unfold cutE
            go_wp2_with fail
            refine ⟨rfl, ?_⟩
            show RcPost B R gr (kO deep 6 (rdMany (rdConst deep) nn (p + 1) l2)) w _ _
            rw [HFN.out.1, HKN.out]
            exact ⟨rfl, h6.right.right.right, (HB0.out.1.trans hb5).trans hb6⟩
          | some r =>
            obtain ⟨r, q2, l6⟩ := r
            rw [hr] at hI
            have HKN := Lib.hid (show kO deep 6 (some (ds, q, l4)) = some (.mk 6 0 false [] noT ds [r], q2, l6) by simp [kO, hb, hr])
            clear hb hr hbl
            go_wp2_with fail
            refine hT.mono ?_
            clear hT c0
            rintro e w5 ⟨rfl, h5, hb5⟩
            have hI5 := hI w5 h5
            clear hI h5
            go_wp2_with fail
            refine hI5.mono ?_
            clear hI5
            rintro e w6 ⟨cs2, M2, rfl, hdk2, h6, hb6⟩
            obtain ⟨k1, n1, ng1, am1, ml1, cm1, tx1, ai1, il1, ci1, ar1, rl1, cr1, rfl⟩ := hdk2.cells
            have h7 := h6.alloc (dmO [.int .i64 k1, .int .i64 n1, .bool ng1, .slice am1 ml1 cm1, .string tx1, .slice ai1 il1 ci1, .slice ar1 rl1 cr1])
            have hb7 := ((HB0.out.1.trans hb5).trans hb6).trans (Below.zero_alloc w6 (dmO [.int .i64 k1, .int .i64 n1, .bool ng1, .slice am1 ml1 cm1, .string tx1, .slice ai1 il1 ci1, .slice ar1 rl1 cr1]))
            obtain ⟨gz, hgz⟩ : ∃ g, w6.heap.size = g := ⟨_, rfl⟩
            rw [hgz] at h7
            have h8 : RdAt (w6.alloc (dmO [.int .i64 k1, .int .i64 n1, .bool ng1, .slice am1 ml1 cm1, .string tx1, .slice ai1 il1 ci1, .slice ar1 rl1 cr1])) B (blk g5 (dmO [.int .i64 6, .int .i64 0, .bool false, .slice none 0 0, .string ⟨#[]⟩, .slice ai ds.length ci, .slice none 0 0]) * (blk g4 (dmO [.int .i64 0, .int .i64 0, .bool false, .slice none 0 0, .string ⟨#[]⟩, .slice none 0 0, .slice none 0 0]) * ((blk gz (dmO [.int .i64 k1, .int .i64 n1, .bool ng1, .slice am1 ml1 cm1, .string tx1, .slice ai1 il1 ci1, .slice ar1 rl1 cr1]) * (M2 * (own 59 7 (.slice ai ds.length ci) ds.length css.flatten * M))) * R))) gr l6 q2 := h7.perm (by ac_rfl)
            have f6 := h8.fr.left.frozen 6
            have d6 := (h8.fr.left.cell 6).trans (show _ = some (Value.slice none 0 0) from rfl)
            have h9 := h8.put 6 (.slice (some ⟨gz, 0, none⟩) 1 1) (fun w' h => H0.out.1 w' h.right.right)
            have hb9 := hb7.setCell (p := ⟨g5, 6, none⟩) (Nat.zero_le _) (.slice (some ⟨gz, 0, none⟩) 1 1)
            have hdk3 : DK (blk gz (dmO [.int .i64 k1, .int .i64 n1, .bool ng1, .slice am1 ml1 cm1, .string tx1, .slice ai1 il1 ci1, .slice ar1 rl1 cr1]) * (M2 * (own 59 7 (.slice ai ds.length ci) ds.length css.flatten * M))) (.mk 6 0 false [] noT ds [r]) [.int .i64 6, .int .i64 0, .bool false, .slice none 0 0, .string ⟨#[]⟩, .slice ai ds.length ci, .slice (some ⟨gz, 0, none⟩) 1 1] := by
              refine DK.mk (mag := []) (rest := [r]) ⟨by omega, by omega⟩ (fun w h j x hx => by simp at hx) (fun x hx => by simp at hx) ⟨Nat.le_refl _, HFN.out.2.1, Nat.le_refl _⟩ (HFN.out.2.2.mono (fun w h => h.right.right) _) ?_
              unfold DKs
              refine ⟨⟨gz, 0, [.int .i64 k1, .int .i64 n1, .bool ng1, .slice am1 ml1 cm1, .string tx1, .slice ai1 il1 ci1, .slice ar1 rl1 cr1], rfl, ?_, hdk2.mono (fun w h => h.right.left) _⟩, DKs.nil⟩
              intro w' h j u hu
              rw [show 0 + 0 * 7 + j = j by omega, h.left.cell j, ← hu]
              simp
            have HE0 := Lib.hid (And.intro h9 (And.intro hb9 hdk3))
            clear h6 h7 h8 h9 hb5 hb6 hb7 hb9 hdk2 hdk3
            go_upto_region 34 with (fail)
            try rw [hgz]
            clear f6 d6 hgz
            generalize (w6.alloc (dmO [.int .i64 k1, .int .i64 n1, .bool ng1, .slice am1 ml1 cm1, .string tx1, .slice ai1 il1 ci1, .slice ar1 rl1 cr1])).setCell ⟨g5, 6, none⟩ (.slice (some ⟨gz, 0, none⟩) 1 1) = w9 at *
            have hMB : ∀ w', sat w' ((blk gz (dmO [.int .i64 k1, .int .i64 n1, .bool ng1, .slice am1 ml1 cm1, .string tx1, .slice ai1 il1 ci1, .slice ar1 rl1 cr1]) * (M2 * (own 59 7 (.slice ai ds.length ci) ds.length css.flatten * M))) * R) → sat w' B := fun w' h => H0.out.1 w' h.right
            have hE := HE0.out.1
            have hsE := hE.fr
            obtain ⟨⟨d0, d1, d2, d3, d4, d5, d6⟩, ⟨z0, z1, z2, z3, z4, z5, z6⟩, y0, y1, y2, y3, y4, y5, y6⟩ := fin_cells hsE
            have hE2 : RdAt _ B (blk g4 (dmO [.int .i64 0, .int .i64 0, .bool false, .slice none 0 0, .string ⟨#[]⟩, .slice none 0 0, .slice none 0 0]) * ((blk gz (dmO [.int .i64 k1, .int .i64 n1, .bool ng1, .slice am1 ml1 cm1, .string tx1, .slice ai1 il1 ci1, .slice ar1 rl1 cr1]) * (M2 * (own 59 7 (.slice ai ds.length ci) ds.length css.flatten * M))) * R)) gr l6 q2 := hE.drop (fun w' h => hMB w' h.right)
            obtain ⟨hF, hC, hbF⟩ := hE2.put7 (.int .i64 6) (.int .i64 0) (.bool false) (.slice none 0 0) (.string ⟨#[]⟩) (.slice ai ds.length ci) (.slice (some ⟨gz, 0, none⟩) 1 1) hMB
            have HT := Lib.hid (And.intro hF (And.intro hC (And.intro ((HE0.out.2.1).trans hbF) HE0.out.2.2)))
            clear hE hsE hE2 hF hC hbF hMB
            go_wp2_with fail
            obtain ⟨r0, r1, r2, r3, r4, r5, r6⟩ := HT.out.2.1 _ rfl
            refine bodyPost_ret (v := .agg #[.int .i64 6, .int .i64 0, .bool false, .slice none 0 0, .string ⟨#[]⟩, .slice ai ds.length ci, .slice (some ⟨gz, 0, none⟩) 1 1]) (by simp [results, Try.results54, go_sem, r0, r1, r2, r3, r4, r5, r6]) rfl ?_
            show RcPost B R gr (kO deep 6 (rdMany (rdConst deep) nn (p + 1) l2)) w _ _
            rw [HFN.out.1, HKN.out]
            exact ⟨[.int .i64 6, .int .i64 0, .bool false, .slice none 0 0, .string ⟨#[]⟩, .slice ai ds.length ci, .slice (some ⟨gz, 0, none⟩) 1 1], (blk gz (dmO [.int .i64 k1, .int .i64 n1, .bool ng1, .slice am1 ml1 cm1, .string tx1, .slice ai1 il1 ci1, .slice ar1 rl1 cr1]) * (M2 * (own 59 7 (.slice ai ds.length ci) ds.length css.flatten * M))), rfl, HT.out.2.2.2, HT.out.1, HT.out.2.2.1⟩
    | succ m =>
      have hgt : decide (((m + 1 : Nat) : Int) > 0) = true := by rw [decide_eq_true_eq]; omega
      obtain ⟨mi, hmi⟩ : ∃ x : Int, ((m + 1 : Nat) : Int) = x := ⟨_, rfl⟩
      rw [hmi] at hgt ⊢
      have hdec2 : IntKind.i64.wrap (mi - 1) = mi - 1 := IntWalk.i64_in _ (by omega)
      obtain ⟨FF, hFF⟩ : ∃ FF : HP, FF = own 59 7 (.slice ai ds.length ci) ds.length css.flatten * (M * (blk g5 (dmO [.int .i64 6, .int .i64 0, .bool false, .slice none 0 0, .string ⟨#[]⟩, .slice ai ds.length ci, .slice none 0 0]) * (blk g4 (dmO [.int .i64 0, .int .i64 0, .bool false, .slice none 0 0, .string ⟨#[]⟩, .slice none 0 0, .slice none 0 0]) * R))) := ⟨_, rfl⟩
      rw [← hFF] at h8
      have hFR : ∀ w', sat w' FF → sat w' R := fun w' h => by rw [hFF] at h; exact h.right.right.right.right
      have hF5 : ∀ w', sat w' FF → w'.cell? ⟨g5, 5, none⟩ = some (.slice ai ds.length ci) := fun w' h => by rw [hFF] at h; exact (h.right.right.left.cell 5).trans rfl
      have hC := fun (w' : World) (h : RdAt w' B FF gr l4 q) => HIH.out w' B FF gr l4 q h hqb (by omega)
      rw [HDQ.out] at hC
      cases hr : rdConst deep q l4 with
      | none =>
        rw [hr] at hC
        have hno : rdMany (rdConst deep) nn (p + 1) l2 = none := by rw [hrd]; exact joinM_no hr
        have HNO := Lib.hid (And.intro hno (And.intro hFR hb8))
        have c5 := hF5 wr h8.fr
        have c5d := hF5 wr.drew h8.fr
        have HC := Lib.hid (And.intro hC (show RdAt wr.drew B FF gr l4 q from h8))
        clear hno hr hrd hlen h8 hb8 hFF hFR hF5 hC hcl hdk
        go_wp2_with fail
        refine wp_region_held_drew (S := fun w' => w'.cell? ⟨g5, 5, none⟩ = some (.slice ai ds.length ci)) (by kernel_rfl) ?hS900 (fun hHeld => ?rest900)
        case hS900 => exact c5d
        refine wpAnyH_take (i := 0) (oi := { dst := some 90, op := _, type := _, pos := _, after := _, guard := _ }) (v := ?v901) rfl (by kernel_rfl) (by kernel_rfl) (by kernel_rfl) (fun _ _ _ h => h) (Or.inl ⟨by rfl, ?hy901⟩) hHeld ?rest901
        case hy901 => (intro w hSw; (try dsimp only at hSw); first | (go_simp; done) | (go_simp; with_reducible rfl))
        simp only [Act.put, List.setIfInBounds_toArray, List.set_cons_zero, List.set_cons_succ]
        refine wpAnyH_take (i := 1) (oi := { dst := some 91, op := _, type := _, pos := _, after := _, guard := _ }) (v := ?v902) rfl (by kernel_rfl) (by kernel_rfl) (by kernel_rfl) (fun _ _ _ h => h) (Or.inl ⟨by rfl, ?hy902⟩) hHeld ?rest902
        case hy902 => (intro w hSw; (try dsimp only at hSw); first | (go_simp; done) | (go_simp; with_reducible rfl))
        simp only [Act.put, List.setIfInBounds_toArray, List.set_cons_zero, List.set_cons_succ]
        refine wpAnyH_take (i := 2) (oi := { dst := some 92, op := _, type := _, pos := _, after := _, guard := _ }) (v := ?v903) rfl (by kernel_rfl) (by kernel_rfl) (by kernel_rfl) (fun _ _ _ h => h) (Or.inl ⟨by rfl, ?hy903⟩) hHeld ?rest903
        case hy903 => (intro w hSw; (try dsimp only at hSw); first | (go_simp; done) | (go_simp; with_reducible rfl))
        simp only [Act.put, List.setIfInBounds_toArray, List.set_cons_zero, List.set_cons_succ]
        refine wpAnyH_take (i := 3) (oi := { dst := some 93, op := _, type := _, pos := _, after := _, guard := _ }) (v := ?v904) rfl (by kernel_rfl) (by kernel_rfl) (by kernel_rfl) (fun _ _ _ h => h) (Or.inl ⟨by rfl, ?hy904⟩) hHeld ?rest904
        case hy904 => (intro w hSw; (try dsimp only at hSw); first | (go_simp; done) | (go_simp; with_reducible rfl))
        simp only [Act.put, List.setIfInBounds_toArray, List.set_cons_zero, List.set_cons_succ]
        refine wpAnyH_take (i := 4) (oi := { dst := some 94, op := _, type := _, pos := _, after := _, guard := _ }) (v := ?v905) rfl (by kernel_rfl) (by kernel_rfl) (by kernel_rfl) (fun _ _ _ h => h) (Or.inl ⟨by rfl, ?hy905⟩) hHeld ?rest905
        case hy905 => (intro w hSw; (try dsimp only at hSw); first | (go_simp; done) | (go_simp; with_reducible rfl))
        simp only [Act.put, List.setIfInBounds_toArray, List.set_cons_zero, List.set_cons_succ]
        refine wpAnyH_ready (rs := [5]) (by kernel_rfl) (by simp) ?_
        refine AllReadyH.cons (o := { dst := some 95, op := _, type := _, pos := _, after := _, guard := _ }) rfl (fun K hK => ?step950) ?more950
        case more950 => exact AllReadyH.nil
        clear hHeld
        go_simp
        go_at_call 54
        refine (HC.out.1 _ HC.out.2).mono ?_
        rintro e w9 ⟨rfl, h9, hb9⟩
        unfold cutE
        dsimp only
        refine ⟨rfl, ?_⟩
        show RcPost B R gr (kO deep 6 (rdMany (rdConst deep) nn (p + 1) l2)) w _ _
        rw [HNO.out.1]
        exact ⟨rfl, HNO.out.2.1 _ h9, (HNO.out.2.2.drew).trans hb9⟩
      | some r =>
        obtain ⟨d, q1, l5⟩ := r
        have hxb := rdConst_bd deep q l4 d q1 l5 hr
        rw [hr] at hC
        have o1 : ∀ (w3 : World) (M2 : HP) (v0 v1 v2 v3 v4 v5 v6 : Value), RdAt w3 B (M2 * FF) gr l5 q1 →
            w3.cell? ⟨g5, 5, none⟩ = some (.slice ai ds.length ci) ∧ (w3.alloc (dmO [v0, v1, v2, v3, v4, v5, v6])).cell? ⟨g5, 5, none⟩ = some (.slice ai ds.length ci) ∧
            (∀ (j' : Nat) u, [v0, v1, v2, v3, v4, v5, v6][j']? = some u → (w3.alloc (dmO [v0, v1, v2, v3, v4, v5, v6])).cell? ((⟨w3.heap.size, 0, none⟩ : Addr).add j') = some u) ∧
            ∃ ao cap, sat (w3.alloc (dmO [v0, v1, v2, v3, v4, v5, v6])) (own 59 7 (.slice ai ds.length ci) ds.length css.flatten * (blk w3.heap.size (dmO [v0, v1, v2, v3, v4, v5, v6]) * (blk gr (.cells #[.slice ao l5.length cap, .int .i64 q1] 72 (0, 0)) * (blk g5 (dmO [.int .i64 6, .int .i64 0, .bool false, .slice none 0 0, .string ⟨#[]⟩, .slice ai ds.length ci, .slice none 0 0]) * ((M2 * M) * (blk g4 (dmO [.int .i64 0, .int .i64 0, .bool false, .slice none 0 0, .string ⟨#[]⟩, .slice none 0 0, .slice none 0 0]) * R)))))) ∧ l5.length ≤ cap ∧ (∀ w', sat w' B → CellsAt w' ao (l5.map bv)) ∧ Bytes l5 := by
          rintro w3 M2 v0 v1 v2 v3 v4 v5 v6 ⟨ao, cap, q1', q2, q3, q4, q5⟩
          have h2 := q1'.alloc (dmO [v0, v1, v2, v3, v4, v5, v6])
          refine ⟨hF5 _ q1'.right.right, hF5 _ h2.right.right.right, ?_, ao, cap, h2.perm (by rw [hFF]; ac_rfl), q2, q3, q4⟩
          intro j' u hu
          rw [show ((⟨w3.heap.size, 0, none⟩ : Addr).add j') = ⟨w3.heap.size, j', none⟩ by unfold Addr.add; split <;> simp_all, h2.left.cell j', ← hu]
          simp
        have o2 : ∀ (w9 : World) (bl : Nat) (o o2 : Obj) (b7 c7 : Nat) (xs : List Value) (X : HP), sat w9 (row 59 7 b7 c7 xs * (blk bl o * (blk gr o2 * (blk g5 (dmO [.int .i64 6, .int .i64 0, .bool false, .slice none 0 0, .string ⟨#[]⟩, .slice ai ds.length ci, .slice none 0 0]) * X)))) →
            w9.cell? ⟨g5, 5, none⟩ = some (.slice ai ds.length ci) ∧ w9.frozen? ⟨g5, 5, none⟩ = false := fun w9 bl o o2 b7 c7 xs X h => ⟨(h.right.right.right.left.cell 5).trans rfl, h.right.right.right.left.frozen 5⟩
        have c5 := hF5 wr h8.fr
        have HO := Lib.hid (And.intro o1 o2)
        have HR := Lib.hid (And.intro (hrd.trans (joinM_next hr)) (And.intro hlen (And.intro hcl (And.intro hb8 (And.intro hxb (And.intro hmi (And.intro hmb (And.intro hdk hqb))))))))
        have HC := Lib.hid (And.intro hC (show RdAt wr.drew B FF gr l4 q from h8))
        clear o1 o2 hr hrd hlen h8 hb8 hFF hFR hF5 hC hcl hdk hxb hmi hmb hqb
        go_wp2_with fail
        go_region_law
          (first
            | (go_simp; go_at_call 54; refine (HC.out.1 _ HC.out.2).mono ?_; rintro e w3' ⟨cs2, M2, rfl, hdk2, h3, hb3⟩; obtain ⟨v0, v1, v2, v3, v4, v5, v6, rfl⟩ := hdk2.seven; obtain ⟨y1, y2, y3, ao, cap, y4, y5, y6, y7⟩ := HO.out.1 w3' M2 v0 v1 v2 v3 v4 v5 v6 h3)
            | (refine step_append_sat rfl (.tmp 91) (.tmp 96) 35 rfl 59 i0 zeroDm 7 112 Try.underlying35 HI.out.1 HI.out.2.1 HI.out.2.2.1 HI.out.2.2.2 rfl _ ds.length css.flatten (by rfl) _ y4 ⟨w3'.heap.size, 0, none⟩ 1 1 [v0, v1, v2, v3, v4, v5, v6] (by rfl) rfl y3 hdk2.one (by have := HR.out.2.1; omega) (by have := HR.out.2.1; unfold maxLen; omega) (by omega) ?_; intro b7 c7 w9 hs9 hc9 hb9; obtain ⟨z5, z6⟩ := HO.out.2 _ _ _ _ _ _ _ _ hs9))
        all_goals (
          have hs10 : sat w9 (blk g5 (dmO [.int .i64 6, .int .i64 0, .bool false, .slice none 0 0, .string ⟨#[]⟩, .slice ai ds.length ci, .slice none 0 0]) * (blk gr (.cells #[.slice ao l5.length cap, .int .i64 q1] 72 (0, 0)) * (row 59 7 b7 c7 (css.flatten ++ [v0, v1, v2, v3, v4, v5, v6]) * ((M2 * M) * (blk g4 (dmO [.int .i64 0, .int .i64 0, .bool false, .slice none 0 0, .string ⟨#[]⟩, .slice none 0 0, .slice none 0 0]) * R))))) := (show sat w9 (blk w3'.heap.size (dmO [v0, v1, v2, v3, v4, v5, v6]) * _) from hs9.perm (by ac_rfl)).right
          have hs11 : sat (w9.setCell ⟨g5, 5, none⟩ (.slice (some ⟨b7, 0, none⟩) (ds.length + 1) c7)) (blk g5 (dmO [.int .i64 6, .int .i64 0, .bool false, .slice none 0 0, .string ⟨#[]⟩, .slice (some ⟨b7, 0, none⟩) (ds.length + 1) c7, .slice none 0 0]) * (blk gr (.cells #[.slice ao l5.length cap, .int .i64 q1] 72 (0, 0)) * (row 59 7 b7 c7 (css.flatten ++ [v0, v1, v2, v3, v4, v5, v6]) * ((M2 * M) * (blk g4 (dmO [.int .i64 0, .int .i64 0, .bool false, .slice none 0 0, .string ⟨#[]⟩, .slice none 0 0, .slice none 0 0]) * R))))) := hs10.setCell (off := 5) _
          have hb11 : Below 0 w (w9.setCell ⟨g5, 5, none⟩ (.slice (some ⟨b7, 0, none⟩) (ds.length + 1) c7)) := (((HR.out.2.2.2.1.drew.trans hb3).trans (Below.zero_alloc _ _)).trans hb9).setCell (p := ⟨g5, 5, none⟩) (Nat.zero_le _) _
          have HF := Lib.hid (And.intro hs11 (And.intro hb11 (And.intro hdk2 (And.intro hc9 (And.intro y5 (And.intro y6 y7))))))
          clear hs9 hs10 hs11 hb11 hb3 hb9 h3 y1 y2 y3 y4 y5 y6 y7 z5 z6 hdk2 hc9 HO HC
          go_wp2_with fail
          go_roundw
          case rel =>
            obtain ⟨g1, g2, g3, g4', g5', g6, g7⟩ := HF.out
            obtain ⟨x1, x2, x3, x4, x5, x6, x7, x8, x9⟩ := HR.out
            have hln : (ds ++ [d]).length = ds.length + 1 := by simp
            refine ⟨m, ds ++ [d], q1, l5, some ⟨b7, 0, none⟩, c7, css ++ [[v0, v1, v2, v3, v4, v5, v6]], M2 * M, ?_, by omega, x1, by rw [hln]; omega, by omega, by simp [x3], ?_, ?_, g2⟩
            · congr 1; omega
            · intro i d' cs hd hc
              by_cases hik : i < ds.length
              · rw [List.getElem?_append_left hik] at hd
                rw [List.getElem?_append_left (by rw [x3]; exact hik)] at hc
                exact (x8 i d' cs hd hc).mono (fun w h => h.right) _
              · rw [List.getElem?_append_right (by omega)] at hd
                rw [List.getElem?_append_right (by omega), x3] at hc
                cases hz : i - ds.length with
                | zero =>
                  rw [hz] at hd hc
                  simp at hd hc
                  subst hd
                  subst hc
                  exact g3.mono (fun w h => h.left) _
                | succ z => rw [hz] at hd; simp at hd
            · rw [hln, List.flatten_append, List.flatten_cons, List.flatten_nil, List.append_nil]
              have hfl : (css.flatten ++ [v0, v1, v2, v3, v4, v5, v6]).length = (ds.length + 1) * 7 := by
                have h7 : ∀ cs ∈ css, cs.length = 7 := by
                  intro cs hcs
                  obtain ⟨i, hi⟩ := List.mem_iff_getElem?.1 hcs
                  have hij := (List.getElem?_eq_some_iff.1 hi).1
                  exact (x8 i _ cs (List.getElem?_eq_getElem (by omega)) hi).len
                rw [List.length_append, flat7 h7, x3]
                show _ + 7 = _
                omega
              have g8 := sat.shut_own (n := ds.length + 1) hfl g4' (g1.perm (show _ = row 59 7 b7 c7 _ * (blk g5 _ * (blk gr _ * ((M2 * M) * (blk g4 (dmO [.int .i64 0, .int .i64 0, .bool false, .slice none 0 0, .string ⟨#[]⟩, .slice none 0 0, .slice none 0 0]) * R)))) by ac_rfl))
              exact ⟨ao, cap, g8.perm (by ac_rfl), g5', g6, g7, fun w' h => H0.out.1 w' h.right.right.right.right⟩
          case measure =>
            have := HR.out.2.2.2.2.2.1
            simp [intOf]; omega)
end Go.Proofs.Ytkjfplldfjmbaaa

/- pack's reader of constants. -/
namespace Go.Proofs.Ytkjfplldfjmbaaa
open Go.RowKit
set_option maxRecDepth 100000 in
set_option maxHeartbeats 4000000 in
theorem rdc_shut (w : World) (B R : HP) (gr : Nat) (l : List Int) (p : Int) (h : RdAt w B R gr l p) (hp : 0 ≤ p ∧ p ≤ 20000) (dp : Int) (hsh : dp = 0 ∨ 20000 < p + 1) :
    Calls Try.prog 54 #[.pointer (some ⟨gr, 0, none⟩), .int .i64 dp] w (RcPost B R gr none w) := by
  have hB := h.sub
  have h1 := h.alloc (dmO [.int .i64 0, .int .i64 0, .bool false, .slice none 0 0, .string ⟨#[]⟩, .slice none 0 0, .slice none 0 0])
  have hb1 := Below.zero_alloc w (dmO [.int .i64 0, .int .i64 0, .bool false, .slice none 0 0, .string ⟨#[]⟩, .slice none 0 0, .slice none 0 0])
  obtain ⟨c1, f1, hq1⟩ := h1.parts
  have h2 := hq1 (p + 1)
  have hb2 := hb1.setCell (p := ⟨gr, 1, none⟩) (Nat.zero_le _) (.int .i64 (p + 1))
  have c2 := h2.parts.1
  obtain ⟨g4, hg4⟩ : ∃ g, w.heap.size = g := ⟨_, rfl⟩
  rw [hg4] at h2
  have e2 : IntKind.i64.wrap (p + 1) = p + 1 := IntWalk.i64_in _ (by omega)
  have H0 := Lib.hid (And.intro hB (And.intro hb2 h2))
  clear h h1 hb1 hq1 h2 hb2 hB
  go_enter Try.func54, Try.ntmps54
  go_upto_region 1 with (fail)
  go_upto_region 2 with (fail)
  clear c1 f1
  try rw [hg4]
  clear hg4
  generalize (w.alloc (dmO [.int .i64 0, .int .i64 0, .bool false, .slice none 0 0, .string ⟨#[]⟩, .slice none 0 0, .slice none 0 0])).setCell ⟨gr, 1, none⟩ (.int .i64 (p + 1)) = w2 at *
  by_cases hd0 : dp = 0
  · have e0 : (dp == 0) = true := by rw [beq_iff_eq]; exact hd0
    subst hd0
    go_wp2_with fail
    exact ⟨rfl, rfl, H0.out.2.2.fr.right, H0.out.2.1⟩
  · have e0 : (dp == 0) = false := by rw [beq_eq_false_iff_ne]; exact hd0
    have e1 : decide (p + 1 > 20000) = true := by rw [decide_eq_true_eq]; omega
    go_wp2_with fail
    exact ⟨rfl, rfl, H0.out.2.2.fr.right, H0.out.2.1⟩
set_option maxRecDepth 100000 in
set_option maxHeartbeats 4000000 in
theorem rdc_nonum (w : World) (B R : HP) (gr : Nat) (l : List Int) (p : Int) (h : RdAt w B R gr l p) (hp : 0 ≤ p ∧ p ≤ 20000) (dp : Int) (hd0 : dp ≠ 0) (hp1 : ¬ 20000 < p + 1) (hn : rdNumF 0 0 l = none) :
    Calls Try.prog 54 #[.pointer (some ⟨gr, 0, none⟩), .int .i64 dp] w (RcPost B R gr none w) := by
  have hB := h.sub
  have h1 := h.alloc (dmO [.int .i64 0, .int .i64 0, .bool false, .slice none 0 0, .string ⟨#[]⟩, .slice none 0 0, .slice none 0 0])
  have hb1 := Below.zero_alloc w (dmO [.int .i64 0, .int .i64 0, .bool false, .slice none 0 0, .string ⟨#[]⟩, .slice none 0 0, .slice none 0 0])
  obtain ⟨c1, f1, hq1⟩ := h1.parts
  have h2 := hq1 (p + 1)
  have hb2 := hb1.setCell (p := ⟨gr, 1, none⟩) (Nat.zero_le _) (.int .i64 (p + 1))
  have c2 := h2.parts.1
  obtain ⟨g4, hg4⟩ : ∃ g, w.heap.size = g := ⟨_, rfl⟩
  rw [hg4] at h2
  have hN := rd_number _ _ _ gr l (p + 1) h2
  rw [hn] at hN
  have e0 : (dp == 0) = false := by rw [beq_eq_false_iff_ne]; exact hd0
  have e1 : decide (p + 1 > 20000) = false := by rw [decide_eq_false_iff_not]; omega
  have e2 : IntKind.i64.wrap (p + 1) = p + 1 := IntWalk.i64_in _ (by omega)
  have H0 := Lib.hid (And.intro hB hb2)
  clear h h1 hb1 hq1 h2 hb2 hn hB hd0 hp hp1
  go_enter Try.func54, Try.ntmps54
  go_upto_region 1 with (fail)
  go_upto_region 2 with (fail)
  clear c1 f1
  try rw [hg4]
  clear hg4
  generalize (w.alloc (dmO [.int .i64 0, .int .i64 0, .bool false, .slice none 0 0, .string ⟨#[]⟩, .slice none 0 0, .slice none 0 0])).setCell ⟨gr, 1, none⟩ (.int .i64 (p + 1)) = w2 at *
  go_wp2_with fail
  refine hN.mono ?_
  rintro e w3 ⟨rfl, h3, hb3⟩
  unfold cutE
  go_wp2_with fail
  exact ⟨rfl, rfl, h3.right, H0.out.2.trans hb3⟩
/-- The reader of constants, of whatever depth. -/
theorem rd_const : ∀ deep : Nat, deep ≤ 100 → RdConstAt deep
  | 0, _, w, B, R, gr, l, p, h, hp, _ => rdc_shut w B R gr l p h hp _ (.inl rfl)
  | deep + 1, hd, w, B, R, gr, l, p, h, hp, hl => by
    have hIH := rd_const deep (by omega)
    by_cases hp1 : 20000 < p + 1
    · have e : rdConst (deep + 1) p l = none := by unfold rdConst; rw [if_pos hp1]
      rw [e]
      exact rdc_shut w B R gr l p h hp _ (.inr hp1)
    cases hn : rdNum l with
    | none =>
      have e : rdConst (deep + 1) p l = none := by unfold rdConst; rw [if_neg hp1, hn]
      rw [e]
      exact rdc_nonum w B R gr l p h hp _ (by omega) hp1 hn
    | some r =>
      obtain ⟨k, l1⟩ := r
      by_cases k1 : k = 1
      · cases a1 : rdBool l1 with
        | none => exact rdc_k1_no deep w B R gr l p h hp hl hp1 k l1 hn k1 a1 _ rfl (by omega)
        | some r =>
          obtain ⟨neg, l2⟩ := r
          cases a2 : rdNumF 0 0 l2 with
          | none => exact rdc_k1_no2 deep w B R gr l p h hp hl hp1 k l1 hn k1 neg l2 a1 a2 _ rfl (by omega)
          | some r =>
            obtain ⟨n, l3⟩ := r
            exact rdc_k1 deep w B R gr l p h hp hl hp1 k l1 hn k1 neg l2 a1 n l3 a2 _ rfl (by omega)
      by_cases k4 : k = 4
      · cases a1 : rdText l1 with
        | none => exact rdc_k4_no deep w B R gr l p h hp hl hp1 k l1 hn k4 a1 _ rfl (by omega)
        | some r => exact rdc_k4 deep w B R gr l p h hp hl hp1 k l1 hn k4 r.1 r.2 a1 _ rfl (by omega)
      by_cases k5 : k = 5
      · cases a1 : rdText l1 with
        | none => exact rdc_k5_no deep w B R gr l p h hp hl hp1 k l1 hn k5 a1 _ rfl (by omega)
        | some r =>
          cases a2 : rdSign r.2 with
          | none => exact rdc_k5_no2 deep w B R gr l p h hp hl hp1 k l1 hn k5 r.1 r.2 a1 a2 _ rfl (by omega)
          | some s => exact rdc_k5 deep w B R gr l p h hp hl hp1 k l1 hn k5 r.1 r.2 a1 s.1 s.2 a2 _ rfl (by omega)
      by_cases k6 : k = 6
      · cases a1 : rdNumF 0 0 l1 with
        | none => exact rdc_k6_no deep w B R gr l p h hp hl hp1 k l1 hn k6 a1 _ rfl (by omega)
        | some r => exact rdc_k6 deep w B R gr l p h hp hl hp1 k l1 hn k6 r.1 r.2 a1 hIH _ rfl (by omega)
      by_cases k7 : k = 7
      · cases a1 : rdNumF 0 0 l1 with
        | none => exact rdc_k7_no deep w B R gr l p h hp hl hp1 k l1 hn k7 a1 _ rfl (by omega)
        | some r => exact rdc_k7 deep w B R gr l p h hp hl hp1 k l1 hn k7 r.1 r.2 a1 hIH _ rfl (by omega)
      by_cases k8 : k = 8
      · exact rdc_k8 deep w B R gr l p h hp hl hp1 k l1 hn k8 _ rfl (by omega)
      by_cases k2 : k = 2
      · cases a1 : rdSign l1 with
        | none => exact rdc_k2_no deep w B R gr l p h hp hl hp1 k l1 hn k2 a1 _ rfl (by omega)
        | some r => exact rdc_k2 deep w B R gr l p h hp hl hp1 k l1 hn k2 r.1 r.2 a1 _ rfl (by omega)
      by_cases k3 : k = 3
      · cases a1 : rdSign l1 with
        | none => exact rdc_k3_no deep w B R gr l p h hp hl hp1 k l1 hn k3 a1 _ rfl (by omega)
        | some r => exact rdc_k3 deep w B R gr l p h hp hl hp1 k l1 hn k3 r.1 r.2 a1 _ rfl (by omega)
      by_cases k9 : k = 9
      · cases a1 : rdSign l1 with
        | none => exact rdc_k9_no deep w B R gr l p h hp hl hp1 k l1 hn k9 a1 _ rfl (by omega)
        | some r => exact rdc_k9 deep w B R gr l p h hp hl hp1 k l1 hn k9 r.1 r.2 a1 _ rfl (by omega)
      exact rdc_k0 deep w B R gr l p h hp hl hp1 k l1 hn ⟨k1, k2, k3, k4, k5, k6, k7, k8, k9⟩ _ rfl (by omega)
end Go.Proofs.Ytkjfplldfjmbaaa
