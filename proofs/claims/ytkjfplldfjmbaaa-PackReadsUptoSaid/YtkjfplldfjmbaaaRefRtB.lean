/- tandemref10: L.right. tandemref10.Right. -/
import Derived.Test.YtkjfplldfjmbaaaRefRt1
import Derived.Test.YtkjfplldfjmbaaaRefRtA
import Derived.Test.YtkjfplldfjmbaaaRefRt5
import Derived.Test.YtkjfplldfjmbaaaPackRt
/- tandemref10: L.right. -/
namespace Go.Proofs.Ytkjfplldfjmbaaa
open Go.RowKit
/-- right of whatever datum. -/
theorem rights_all : ∀ s : Nat, s ≤ 1048576 → ∀ d : Dm, d.size ≤ s → ∀ deep : Int, 0 ≤ deep ∧ deep ≤ 100 → RightAt d deep := by
  intro s
  induction s with
  | zero => intro _ d hd; have := d.size_pos; omega
  | succ s ih =>
    intro hs d hd deep hdp w R gp p lf dp cs hlf hdq hp h1 hdk
    cases d with
    | mk k n neg mag text items rest =>
    obtain ⟨am, cm, ai, ci, ar, cr, rfl, _⟩ := hdk.open
    unfold Dm.size at hd
    have hl1 := Dm.len_le items
    have hl2 := Dm.len_le rest
    have q1 : 0 < deep → ∀ d ∈ items, RightAt d (deep - 1) := by
      intro h0 d hd'
      obtain ⟨i, hi⟩ := List.mem_iff_getElem?.1 hd'
      have := Dm.size_le hi
      exact ih (by omega) d (by omega) (deep - 1) (by omega)
    have q2 : 0 < deep → ∀ d ∈ rest, RightAt d (deep - 1) := by
      intro h0 d hd'
      obtain ⟨i, hi⟩ := List.mem_iff_getElem?.1 hd'
      have := Dm.size_le hi
      exact ih (by omega) d (by omega) (deep - 1) (by omega)
    have hszz : mag.length ≤ 1048576 ∧ items.length ≤ 1048576 ∧ rest.length ≤ 1048576 := by omega
    by_cases h11 : k = 1
    · exact right_step1 k n neg mag text items rest _ _ _ h11 rfl rfl rfl hszz deep hdp q1 q2 w R gp p lf dp hlf hdq hp am cm ai ci ar cr h1 hdk
    by_cases h12 : k = 2
    · exact right_step2 k n neg mag text items rest _ _ _ h12 rfl rfl rfl hszz deep hdp q1 q2 w R gp p lf dp hlf hdq hp am cm ai ci ar cr h1 hdk
    by_cases h13 : k = 3
    · exact right_step3 k n neg mag text items rest _ _ _ h13 rfl rfl rfl hszz deep hdp q1 q2 w R gp p lf dp hlf hdq hp am cm ai ci ar cr h1 hdk
    by_cases h14 : k = 4
    · exact right_step4 k n neg mag text items rest _ _ _ h14 rfl rfl rfl hszz deep hdp q1 q2 w R gp p lf dp hlf hdq hp am cm ai ci ar cr h1 hdk
    by_cases h15 : k = 5
    · exact right_step5 k n neg mag text items rest _ _ _ h15 rfl rfl rfl hszz deep hdp q1 q2 w R gp p lf dp hlf hdq hp am cm ai ci ar cr h1 hdk
    by_cases h16 : k = 6
    · exact right_step6 k n neg mag text items rest _ _ _ h16 rfl rfl rfl hszz deep hdp q1 q2 w R gp p lf dp hlf hdq hp am cm ai ci ar cr h1 hdk
    by_cases h17 : k = 7
    · exact right_step7 k n neg mag text items rest _ _ _ h17 rfl rfl rfl hszz deep hdp q1 q2 w R gp p lf dp hlf hdq hp am cm ai ci ar cr h1 hdk
    by_cases h18 : k = 8
    · exact right_step8 k n neg mag text items rest _ _ _ h18 rfl rfl rfl hszz deep hdp q1 q2 w R gp p lf dp hlf hdq hp am cm ai ci ar cr h1 hdk
    by_cases h19 : k = 9
    · exact right_step9 k n neg mag text items rest _ _ _ h19 rfl rfl rfl hszz deep hdp q1 q2 w R gp p lf dp hlf hdq hp am cm ai ci ar cr h1 hdk
    exact right_step0 k n neg mag text items rest _ _ _ ⟨h11, h12, h13, h14, h15, h16, h17, h18, h19⟩ rfl rfl rfl hszz deep hdp q1 q2 w R gp p lf dp hlf hdq hp am cm ai ci ar cr h1 hdk
theorem ref_right {d : Dm} (hz : d.size ≤ 1048576) {deep : Int} (hdp : 0 ≤ deep ∧ deep ≤ 100) : RightAt d deep := rights_all 1048576 (Nat.le_refl _) d hz deep hdp
end Go.Proofs.Ytkjfplldfjmbaaa

/- tandemref10.Right. -/
namespace Go.Proofs.Ytkjfplldfjmbaaa
open Go.RowKit
def QiRel (W : World) (gp : Nat) (R : HP) (ps : List Pr) (i : Value) (wr : World) : Prop :=
  ∃ (j : Nat) (q lf : Int), j ≤ ps.length ∧ i = .int .i64 j ∧ (0 ≤ q ∧ q ≤ 20000) ∧ lf = 20000 - q ∧ okPs (ps.take j) 0 = some q ∧ sat wr (blk gp (.cells #[.int .i64 lf] 89 (0, 0)) * R) ∧ Below 0 W wr
def QdRel (W : World) (gp : Nat) (G : HP) (l : List Dm) (q0 : Int) (i : Value) (wr : World) : Prop :=
  ∃ (j : Nat) (q lf : Int), j ≤ l.length ∧ i = .int .i64 j ∧ (0 ≤ q ∧ q ≤ 20000) ∧ lf = 20000 - q ∧ okDs (l.take j) 100 q0 = some q ∧ sat wr (blk gp (.cells #[.int .i64 lf] 89 (0, 0)) * G) ∧ Below 0 W wr
set_option maxRecDepth 100000 in
set_option maxHeartbeats 8000000 in
theorem refp_Right (ps : List Pr) (pl : Nat) (hpl : ps.length = pl) (hsz : pl ≤ 1048576 ∧ ∀ p ∈ ps, p.code.length ≤ 1048576 ∧ Dm.sizes p.consts ≤ 1048576) (w : World) (R : HP) (ao : Option Addr) (cap : Nat) (hs : sat w R) (hd : PrKs R ps ao) :
    Calls Try.prog 25 #[.slice ao pl cap] w (RtPost R (okPs ps 0).isSome w) := by
  have h1 := hs.alloc (.cells #[.int .i64 20000] 89)
  have hb1 := Below.zero_alloc w (.cells #[.int .i64 20000] 89)
  obtain ⟨gp, hgp⟩ : ∃ gp, w.heap.size = gp := ⟨_, rfl⟩
  rw [hgp] at h1
  have H1 := Lib.hid (And.intro h1 (And.intro hb1 (And.intro hpl (And.intro hsz (And.intro hd hgp)))))
  clear h1 hb1 hs hpl hd hgp
  have hpl1 := hsz.1
  clear hsz
  go_enter Try.func25, Try.ntmps25
  go_upto_region 2 with (fail)
  rw [show w.heap.size = gp from H1.out.2.2.2.2.2]
  go_wp2_with fail
  go_loopw [4] (QiRel w gp R ps) (fun i _ => pl - (intOf i).toNat)
  case atStart => exact ⟨0, 0, 20000, Nat.zero_le _, rfl, by decide, by decide, rfl, H1.out.1, H1.out.2.1⟩
  case round =>
    obtain ⟨j, q, lf, hj, rfl, hq, hlf, hok, h2, hb2⟩ := hrel
    have hll := H1.out.2.2.1
    by_cases hlt : j < ps.length
    · have hlt2 : j < pl := by omega
      have bl : decide ((j : Int) < (pl : Int)) = true := by rw [decide_eq_true_eq]; omega
      obtain ⟨p, ex⟩ : ∃ p, ps[j]? = some p := ⟨_, List.getElem?_eq_getElem hlt⟩
      obtain ⟨bb, off, ds, hao, hcell, hpk⟩ := H1.out.2.2.2.2.1 j p ex
      have hmem := List.mem_of_getElem? ex
      obtain ⟨ac, cc, ai, ci, an, cn, hds, hib, hco, hdk, hna, hcc, hci, hcn⟩ := hpk
      obtain ⟨nm, hnm⟩ : ∃ x, p.name = x := ⟨_, rfl⟩
      obtain ⟨pa, hpa⟩ : ∃ x, p.args = x := ⟨_, rfl⟩
      obtain ⟨pf, hpf⟩ : ∃ x, p.free = x := ⟨_, rfl⟩
      obtain ⟨pr, hpr⟩ : ∃ x, p.rest = x := ⟨_, rfl⟩
      obtain ⟨cl, hcl⟩ : ∃ x, p.code.length = x := ⟨_, rfl⟩
      obtain ⟨dl, hdl⟩ : ∃ x, p.consts.length = x := ⟨_, rfl⟩
      obtain ⟨nl, hnl⟩ : ∃ x, p.names.length = x := ⟨_, rfl⟩
      rw [hnm, hpa, hpf, hpr, hcl, hdl, hnl] at hds
      subst hds
      have hcw := hcell wr h2.right
      have i0' := hcw 0 _ rfl
      have i1 := hcw 1 _ rfl
      have i2 := hcw 2 _ rfl
      have i3 := hcw 3 _ rfl
      have i4 := hcw 4 _ rfl
      have i5 := hcw 5 _ rfl
      have i6 := hcw 6 _ rfl
      rw [Nat.add_zero] at i0'
      have h3 := h2.alloc (.cells #[.string nm, .int .i64 pa, .int .i64 pf, .bool pr, .slice ac cl cc, .slice ai dl ci, .slice an nl cn] 38)
      have hb3 := hb2.trans (Below.zero_alloc wr (.cells #[.string nm, .int .i64 pa, .int .i64 pf, .bool pr, .slice ac cl cc, .slice ai dl ci, .slice an nl cn] 38))
      have hszp := H1.out.2.2.2.1.2 p hmem
      have hdl1 := Dm.len_le p.consts
      have HPR := Lib.hid (And.intro hok (And.intro ex (And.intro hpa (And.intro hpf (And.intro hcl (And.intro hdl (And.intro hco (And.intro hdk (And.intro hszp hib)))))))))
      have HQ := Lib.hid (And.intro h3 hb3)
      have hclb : cl ≤ 1048576 := by omega
      have hdlb : dl ≤ 1048576 := by omega
      cases hao
      clear hcw hcell hok ex hmem hnm hpa hpf hpr hcl hdl hnl hco hdk hna hcc hci hcn hib h2 h3 hb2 hb3 hszp hll hlt hdl1
      have hbad : okP p q = none → ∀ w', sat w' (Go.Proofs.Ytkjfplldfjmbaaa.blk gp (.cells #[.int .i64 lf] 89 (0, 0)) * R) → Below 0 w w' → RtPost R (okPs ps 0).isSome w (.returned (.bool false)) w' := by
        intro hn w' h' hb'
        rw [okPs_none HPR.out.2.1 HPR.out.1 hn]
        exact ⟨rfl, h'.right, hb'⟩
      have hbad2 : okP p q = none → ∀ w', sat w' R → Below 0 w w' → RtPost R (okPs ps 0).isSome w (.returned (.bool false)) w' := by
        intro hn w' h' hb'
        rw [okPs_none HPR.out.2.1 HPR.out.1 hn]
        exact ⟨rfl, h', hb'⟩
      have HB := Lib.hid (And.intro hbad hbad2)
      clear hbad hbad2
      have hS1 := fun w' => (show Calls Try.prog 47 #[.int .i64 pa, .int .i64 0, .int .i64 1099511627776] w' (Says (.bool (sizeB pa)) w') from refp_in w' pa 0 1099511627776)
      have hS2 := fun w' => (show Calls Try.prog 47 #[.int .i64 pf, .int .i64 0, .int .i64 1099511627776] w' (Says (.bool (sizeB pf)) w') from refp_in w' pf 0 1099511627776)
      cases ha : sizeB pa with
      | false =>
        have hno : okP p q = none := by unfold okP; rw [HPR.out.2.2.1, ha, Bool.false_and]; rfl
        have HN := Lib.hid hno
        rw [ha] at hS1
        clear hno ha hS2
        go_upto_region 6 with (fail)
        go_wp2_with fail
        refine (hS1 _).mono ?_
        rintro e w' ⟨rfl, m, rfl⟩
        go_wp2_with fail
        go_ret
        exact HB.out.2 HN.out _ ((HQ.out.1.drewN m).right.right) (HQ.out.2.trans (drewN_below0 _ m))
      | true =>
        rw [ha] at hS1
        cases hf : sizeB pf with
        | false =>
          have hno : okP p q = none := by unfold okP; rw [HPR.out.2.2.1, HPR.out.2.2.2.1, ha, hf, Bool.false_and, Bool.and_false]; rfl
          have HN := Lib.hid hno
          rw [hf] at hS2
          clear hno ha hf
          go_upto_region 6 with (fail)
          go_wp2_with fail
          refine (hS1 _).mono ?_
          rintro e w' ⟨rfl, m, rfl⟩
          go_wp2_with fail
          refine (hS2 _).mono ?_
          rintro e w' ⟨rfl, m2, rfl⟩
          go_wp2_with fail
          go_ret
          exact HB.out.2 HN.out _ ((HQ.out.1.drewN _).right.right) (HQ.out.2.trans (drewN_below0 _ _))
        | true =>
          rw [hf] at hS2
          have HAF := Lib.hid (And.intro ha hf)
          clear ha hf
          go_upto_region 6 with (fail)
          go_wp2_with fail
          refine (hS1 _).mono ?_
          rintro e w' ⟨rfl, m, rfl⟩
          go_wp2_with fail
          refine (hS2 _).mono ?_
          rintro e w' ⟨rfl, m2, rfl⟩
          have h4 := (HQ.out.1.drewN m).drewN m2
          have hb4 := (HQ.out.2.trans (drewN_below0 _ m)).trans (drewN_below0 _ m2)
          generalize ((wr.alloc (.cells #[.string nm, .int .i64 pa, .int .i64 pf, .bool pr, .slice ac cl cc, .slice ai dl ci, .slice an nl cn] 38)).drewN m).drewN m2 = w5 at *
          generalize wr.heap.size = gx at *
          obtain ⟨G, hG⟩ : ∃ G : HP, G = Go.Proofs.Ytkjfplldfjmbaaa.blk gx (.cells #[.string nm, .int .i64 pa, .int .i64 pf, .bool pr, .slice ac cl cc, .slice ai dl ci, .slice an nl cn] 38 (0, 0)) * (Go.Proofs.Ytkjfplldfjmbaaa.blk gp (.cells #[.int .i64 lf] 89 (0, 0)) * R) := ⟨_, rfl⟩
          have hGR : ∀ w, sat w G → sat w R := fun w h => by rw [hG] at h; exact h.right.right
          have hGc : ∀ w, sat w G → w.cell? ⟨gx, 4, none⟩ = some (.slice ac cl cc) ∧ w.cell? ⟨gx, 5, none⟩ = some (.slice ai dl ci) := fun w h => by
            rw [hG] at h
            exact ⟨(h.left.cell 4).trans rfl, (h.left.cell 5).trans rfl⟩
          have h4G : sat w5 G := by rw [hG]; exact h4
          have c4 := (hGc w5 h4G).1
          have HGG := Lib.hid (And.intro hG (And.intro hGR hGc))
          have H4 := Lib.hid (And.intro h4G hb4)
          clear hG hGR hGc h4 h4G hb4 hS1 hS2
          clear i0' i1 i2 i3 i4 i5 i6
          go_wp2_with fail
          go_loopw [6] (RcRel w G p.code) (fun i _ => cl - (intOf i).toNat)
          case atStart => exact ⟨0, Nat.zero_le _, rfl, by simp, H4.out.1, H4.out.2⟩
          case round =>
            clear c4
            obtain ⟨j2, hj2, rfl, hall, h6, hb6⟩ := hrel
            have hcl := HPR.out.2.2.2.2.1
            by_cases hlt : j2 < p.code.length
            · have hlt2 : j2 < cl := by omega
              have bl2 : decide ((j2 : Int) < (cl : Int)) = true := by rw [decide_eq_true_eq]; omega
              obtain ⟨t, ex⟩ : ∃ t, p.code[j2]? = some t := ⟨_, List.getElem?_eq_getElem hlt⟩
              obtain ⟨⟨b3, o3, hac, hcell⟩, hb1', hb2', hb3'⟩ := HPR.out.2.2.2.2.2.2.1 j2 t ex
              obtain ⟨x0, x1, x2⟩ := hcell wr (HGG.out.2.1 wr h6)
              have hQ1 := fun w' => (show Calls Try.prog 47 #[.int .i64 t.1, .int .i64 0, .int .i64 1099511627776] w' (Says (.bool (sizeB t.1)) w') from refp_in w' t.1 0 1099511627776)
              have hQ2 := fun w' => refp_half w' t.2.1
              have hQ3 := fun w' => refp_half w' t.2.2
              have HI := Lib.hid (And.intro h6 (And.intro hb6 (And.intro hall ex)))
              have c4 := (HGG.out.2.2 wr h6).1
              cases hac
              clear hcell hb1' hb2' hb3' h6 hb6 hall ex hlt hcl
              cases hb0 : sizeB t.1 with
              | false =>
                have hri : rightI t = false := by unfold rightI; rw [hb0]; rfl
                have HN := Lib.hid hri
                rw [hb0] at hQ1
                clear hri hb0 hQ2 hQ3
                go_wp2_with fail
                refine (hQ1 _).mono ?_
                rintro e w' ⟨rfl, m0, rfl⟩
                go_wp2_with fail
                go_ret
                exact HB.out.2 (by unfold okP; rw [HPR.out.2.2.1, HPR.out.2.2.2.1, HAF.out.1, HAF.out.2, all_none HI.out.2.2.2 HN.out]; rfl) _ (HGG.out.2.1 _ (HI.out.1.drewN _)) (HI.out.2.1.trans (drewN_below0 _ _))
              | true =>
                rw [hb0] at hQ1
                cases hb1 : wholeB t.2.1 with
                | false =>
                  have hri : rightI t = false := by unfold rightI; rw [hb0, hb1]; rfl
                  have HN := Lib.hid hri
                  rw [hb1] at hQ2
                  clear hri hb0 hb1 hQ3
                  go_wp2_with fail
                  refine (hQ1 _).mono ?_
                  rintro e w' ⟨rfl, m0, rfl⟩
                  go_wp2_with fail
                  refine (hQ2 _).mono ?_
                  rintro e w' ⟨rfl, m1, rfl⟩
                  go_wp2_with fail
                  go_ret
                  exact HB.out.2 (by unfold okP; rw [HPR.out.2.2.1, HPR.out.2.2.2.1, HAF.out.1, HAF.out.2, all_none HI.out.2.2.2 HN.out]; rfl) _ (HGG.out.2.1 _ (HI.out.1.drewN _)) (HI.out.2.1.trans (drewN_below0 _ _))
                | true =>
                  rw [hb1] at hQ2
                  cases hb2 : wholeB t.2.2 with
                  | false =>
                    have hri : rightI t = false := by unfold rightI; rw [hb0, hb1, hb2]; rfl
                    have HN := Lib.hid hri
                    rw [hb2] at hQ3
                    clear hri hb0 hb1 hb2
                    go_wp2_with fail
                    refine (hQ1 _).mono ?_
                    rintro e w' ⟨rfl, m0, rfl⟩
                    go_wp2_with fail
                    refine (hQ2 _).mono ?_
                    rintro e w' ⟨rfl, m1, rfl⟩
                    go_wp2_with fail
                    refine (hQ3 _).mono ?_
                    rintro e w' ⟨rfl, m2, rfl⟩
                    go_wp2_with fail
                    go_ret
                    exact HB.out.2 (by unfold okP; rw [HPR.out.2.2.1, HPR.out.2.2.2.1, HAF.out.1, HAF.out.2, all_none HI.out.2.2.2 HN.out]; rfl) _ (HGG.out.2.1 _ (HI.out.1.drewN _)) (HI.out.2.1.trans (drewN_below0 _ _))
                  | true =>
                    rw [hb2] at hQ3
                    have hri : rightI t = true := by unfold rightI; rw [hb0, hb1, hb2]; rfl
                    have HN := Lib.hid hri
                    clear hri hb0 hb1 hb2
                    go_wp2_with fail
                    refine (hQ1 _).mono ?_
                    rintro e w' ⟨rfl, m0, rfl⟩
                    go_wp2_with fail
                    refine (hQ2 _).mono ?_
                    rintro e w' ⟨rfl, m1, rfl⟩
                    go_wp2_with fail
                    refine (hQ3 _).mono ?_
                    rintro e w' ⟨rfl, m2', rfl⟩
                    go_wp2_with fail
                    go_roundw
                    case rel =>
                      refine ⟨j2 + 1, by have := HPR.out.2.2.2.2.1; omega, by go_num, ?_, HI.out.1.drewN _, HI.out.2.1.trans (drewN_below0 _ _)⟩
                      rw [all_next HI.out.2.2.2, HI.out.2.2.1, HN.out]; rfl
                    case measure =>
                      have := HPR.out.2.2.2.2.1
                      simp [intOf]; omega
            · obtain rfl : j2 = p.code.length := by omega
              rw [List.take_of_length_le (Nat.le_refl _)] at hall
              have hge : decide ((p.code.length : Int) < (cl : Int)) = false := by rw [decide_eq_false_iff_not]; omega
              have HC := Lib.hid (And.intro h6 (And.intro hb6 hall))
              have c5 := (HGG.out.2.2 wr h6).2
              have c4 := (HGG.out.2.2 wr h6).1
              rw [hcl]
              rw [hcl] at hge
              clear h6 hb6 hall hlt hj2 hcl
              go_wp2_with fail
              have h8 : sat wr (Go.Proofs.Ytkjfplldfjmbaaa.blk gp (.cells #[.int .i64 lf] 89 (0, 0)) * (Go.Proofs.Ytkjfplldfjmbaaa.blk gx (.cells #[.string nm, .int .i64 pa, .int .i64 pf, .bool pr, .slice ac cl cc, .slice ai dl ci, .slice an nl cn] 38 (0, 0)) * R)) := by have := HC.out.1; rw [HGG.out.1] at this; exact this.perm (by ac_rfl)
              obtain ⟨G2, hG2⟩ : ∃ G2 : HP, G2 = Go.Proofs.Ytkjfplldfjmbaaa.blk gx (.cells #[.string nm, .int .i64 pa, .int .i64 pf, .bool pr, .slice ac cl cc, .slice ai dl ci, .slice an nl cn] 38 (0, 0)) * R := ⟨_, rfl⟩
              rw [← hG2] at h8
              have hG2R : ∀ w, sat w G2 → sat w R := fun w h => by rw [hG2] at h; exact h.right
              have hG2c : ∀ w, sat w G2 → w.cell? ⟨gx, 5, none⟩ = some (.slice ai dl ci) := fun w h => by rw [hG2] at h; exact (h.left.cell 5).trans rfl
              have HG2 := Lib.hid (And.intro hG2 (And.intro hG2R hG2c))
              have H8 := Lib.hid h8
              clear hG2 hG2R hG2c h8 c5 c4
              go_loopw [7] (QdRel w gp G2 p.consts q) (fun i _ => dl - (intOf i).toNat)
              case atStart => exact ⟨0, q, lf, Nat.zero_le _, rfl, hq, hlf, by rw [List.take_zero]; unfold okDs; rfl, H8.out, HC.out.2.1⟩
              case round =>
                obtain ⟨j3, q', lf2, hj3, rfl, hq', hlf2, hok, h9, hb9⟩ := hrel
                have hll := HPR.out.2.2.2.2.2.1
                by_cases hlt : j3 < p.consts.length
                · have hlt2 : j3 < dl := by omega
                  have bl3 : decide ((j3 : Int) < (dl : Int)) = true := by rw [decide_eq_true_eq]; omega
                  obtain ⟨d, ex⟩ : ∃ d, p.consts[j3]? = some d := ⟨_, List.getElem?_eq_getElem hlt⟩
                  obtain ⟨b4, o4, ds, hao, hcell, hdd⟩ := HPR.out.2.2.2.2.2.2.2.1.get j3 d ex
                  have hcw := hcell wr (HG2.out.2.1 wr h9.right)
                  rw [Nat.zero_add] at hcw
                  have hdz : d.size ≤ 1048576 := by have := Dm.size_le ex; have := HPR.out.2.2.2.2.2.2.2.2.1.2; omega
                  obtain ⟨k1, n1, ng1, am1, ml1, cm1, tx1, ai1, il1, ci1, ar1, rl1, cr1, rfl⟩ := hdd.cells
                  have i0' := hcw 0 _ rfl
                  have i1 := hcw 1 _ rfl
                  have i2 := hcw 2 _ rfl
                  have i3 := hcw 3 _ rfl
                  have i4 := hcw 4 _ rfl
                  have i5 := hcw 5 _ rfl
                  have i6 := hcw 6 _ rfl
                  rw [Nat.add_zero] at i0'
                  have hC := ref_right hdz (deep := 100) (by decide) wr G2 gp q' lf2 1 _ hlf2 (by decide) hq' h9 (hdd.mono (fun w h => HG2.out.2.1 w h) _)
                  have c5 := HG2.out.2.2 wr h9.right
                  obtain ⟨o, ho⟩ : ∃ o, okD d 100 q' = o := ⟨_, rfl⟩
                  rw [ho] at hC
                  have hb11 := hb9
                  have hqb : ∀ q3, o = some q3 → 0 ≤ q3 ∧ q3 ≤ 20000 := fun q3 h => by have := okD_bd d 100 q' q3 (by rw [ho, h]); omega
                  have HK := Lib.hid (And.intro hb11 (And.intro hok (And.intro ho (And.intro ex (And.intro hC hqb)))))
                  cases hao
                  clear hcw hcell hdd h9 hb9 hb11 ex hC hok ho hqb hll hlt hdz hlf2 hq' hj3
                  go_wp2_with fail
                  refine HK.out.2.2.2.2.1.mono ?_
                  clear i0' i1 i2 i3 i4 i5 i6 c5
                  rintro e w6 ⟨q2, rfl, hq2, h12, hb12⟩
                  cases o with
                  | none =>
                    have HN := Lib.hid (And.intro h12 (And.intro (HK.out.1.trans hb12) (okDs_none HK.out.2.2.2.1 HK.out.2.1 HK.out.2.2.1)))
                    clear h12 hb12 hq2
                    go_wp2_with fail
                    go_ret
                    exact HB.out.2 (by unfold okP; rw [HPR.out.2.2.1, HPR.out.2.2.2.1, HAF.out.1, HAF.out.2, HC.out.2.2]; exact HN.out.2.2) _ (HG2.out.2.1 _ HN.out.1.right) HN.out.2.1
                  | some q3 =>
                    have hl3 := hq2 q3 rfl
                    have HN := Lib.hid (And.intro h12 (And.intro (HK.out.1.trans hb12) (And.intro (HK.out.2.2.2.2.2 q3 rfl) hl3)))
                    clear hl3
                    clear h12 hb12 hq2
                    go_wp2_with fail
                    go_roundw
                    case rel =>
                      refine ⟨j3 + 1, q3, q2, by have := HPR.out.2.2.2.2.2.1; omega, by go_num, HN.out.2.2.1, HN.out.2.2.2, ?_, HN.out.1, HN.out.2.1⟩
                      rw [okDs_next HK.out.2.2.2.1, HK.out.2.1]
                      exact HK.out.2.2.1
                    case measure =>
                      have := HPR.out.2.2.2.2.2.1
                      simp [intOf]; omega
                · obtain rfl : j3 = p.consts.length := by omega
                  rw [List.take_of_length_le (Nat.le_refl _)] at hok
                  have hge : decide ((p.consts.length : Int) < (dl : Int)) = false := by rw [decide_eq_false_iff_not]; omega
                  have hyes : okP p q = some q' := by unfold okP; rw [HPR.out.2.2.1, HPR.out.2.2.2.1, HAF.out.1, HAF.out.2, HC.out.2.2]; exact hok
                  have HN := Lib.hid (And.intro h9 (And.intro hb9 (And.intro hyes (And.intro hq' hlf2))))
                  have c5 := HG2.out.2.2 wr h9.right
                  rw [hll]
                  rw [hll] at hge
                  clear h9 hb9 hok hq' hj3 hlt hll hyes hlf2
                  go_wp2_with fail
                  go_roundw
                  case rel =>
                    refine ⟨j + 1, q', lf2, by have := H1.out.2.2.1; omega, by go_num, HN.out.2.2.2.1, HN.out.2.2.2.2, ?_, ?_, HN.out.2.1⟩
                    · rw [okPs_next HPR.out.2.1, HPR.out.1]
                      exact HN.out.2.2.1
                    · have := HN.out.1
                      rw [HG2.out.1] at this
                      exact (this.perm (show _ = Go.Proofs.Ytkjfplldfjmbaaa.blk gx (.cells #[.string nm, .int .i64 pa, .int .i64 pf, .bool pr, .slice ac cl cc, .slice ai dl ci, .slice an nl cn] 38 (0, 0)) * (Go.Proofs.Ytkjfplldfjmbaaa.blk gp _ * R) by ac_rfl)).right
                  case measure => simp [intOf]; omega
    · obtain rfl : j = ps.length := by omega
      rw [List.take_of_length_le (Nat.le_refl _)] at hok
      have hge : decide ((ps.length : Int) < (pl : Int)) = false := by rw [decide_eq_false_iff_not]; omega
      have hpost : RtPost R (okPs ps 0).isSome w (.returned (.bool true)) wr := by rw [hok]; exact ⟨rfl, h2.right, hb2⟩
      have HN := Lib.hid hpost
      rw [hll]
      rw [hll] at hge
      clear hpost h2 hb2 hok hlt hj hll
      go_wp2_with fail
      go_ret
      exact HN.out
end Go.Proofs.Ytkjfplldfjmbaaa
