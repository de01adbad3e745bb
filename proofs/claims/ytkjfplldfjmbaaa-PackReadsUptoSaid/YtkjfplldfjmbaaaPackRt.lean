/- pack.right. -/
import Derived.Test.YtkjfplldfjmbaaaPackProto
namespace Go.Proofs.Ytkjfplldfjmbaaa
open Go.RowKit
def RiRel (W : World) (gp : Nat) (R : HP) (ps : List Pr) (i : Value) (wr : World) : Prop :=
  ∃ (j : Nat) (q : Int), j ≤ ps.length ∧ i = .int .i64 j ∧ (0 ≤ q ∧ q ≤ 20000) ∧ okPs (ps.take j) 0 = some q ∧ sat wr (blk gp (.cells #[.int .i64 q] 3 (0, 0)) * R) ∧ Below 0 W wr
def RcRel (W : World) (G : HP) (code : List (Int × Int × Int)) (i : Value) (wr : World) : Prop :=
  ∃ j : Nat, j ≤ code.length ∧ i = .int .i64 j ∧ (code.take j).all rightI = true ∧ sat wr G ∧ Below 0 W wr
def RdRel (W : World) (gp : Nat) (G : HP) (l : List Dm) (q0 : Int) (i : Value) (wr : World) : Prop :=
  ∃ (j : Nat) (q : Int), j ≤ l.length ∧ i = .int .i64 j ∧ (0 ≤ q ∧ q ≤ 20000) ∧ okDs (l.take j) 100 q0 = some q ∧ sat wr (blk gp (.cells #[.int .i64 q] 3 (0, 0)) * G) ∧ Below 0 W wr
/-- What right leaves. -/
def RtPost (R : HP) (b : Bool) (w : World) (e : Ending) (w' : World) : Prop := e = .returned (.bool b) ∧ sat w' R ∧ Below 0 w w'
set_option maxRecDepth 100000 in
set_option maxHeartbeats 8000000 in
theorem pack_right (ps : List Pr) (pl : Nat) (hpl : ps.length = pl) (hsz : pl ≤ 67108864 ∧ ∀ p ∈ ps, p.code.length ≤ 67108864 ∧ Dm.sizes p.consts ≤ 67108864) (w : World) (R : HP) (ao : Option Addr) (cap : Nat) (hs : sat w R) (hd : PrKs R ps ao) :
    Calls Try.prog 18 #[.slice ao pl cap] w (RtPost R (okPs ps 0).isSome w) := by
  have h1 := hs.alloc (.cells #[.int .i64 0] 3)
  have hb1 := Below.zero_alloc w (.cells #[.int .i64 0] 3)
  obtain ⟨gp, hgp⟩ : ∃ gp, w.heap.size = gp := ⟨_, rfl⟩
  rw [hgp] at h1
  have H1 := Lib.hid (And.intro h1 (And.intro hb1 (And.intro hpl (And.intro hsz (And.intro hd hgp)))))
  clear h1 hb1 hs hpl hd hgp
  have hpl1 := hsz.1
  clear hsz
  go_enter Try.func18, Try.ntmps18
  go_upto_region 2 with (fail)
  rw [show w.heap.size = gp from H1.out.2.2.2.2.2]
  go_wp2_with fail
  go_loopw [12] (RiRel w gp R ps) (fun i _ => pl - (intOf i).toNat)
  case atStart => exact ⟨0, 0, Nat.zero_le _, rfl, by decide, rfl, H1.out.1, H1.out.2.1⟩
  case round =>
    obtain ⟨j, q, hj, rfl, hq, hok, h2, hb2⟩ := hrel
    have hll := H1.out.2.2.1
    by_cases hlt : j < ps.length
    · have hlt2 : j < pl := by omega
      have bl : decide ((j : Int) < (pl : Int)) = true := by rw [decide_eq_true_eq]; omega
      obtain ⟨p, ex⟩ : ∃ p, ps[j]? = some p := ⟨_, List.getElem?_eq_getElem hlt⟩
      obtain ⟨bb, off, ds, hao, hcell, hpk⟩ := H1.out.2.2.2.2.1 j p ex
      have hmem := List.mem_of_getElem? ex
      obtain ⟨ac, cc, ai, ci, an, cn, hds, hib, hco, hdk, hna, hcc, hci, hcn⟩ := hpk
      obtain ⟨nm, hnm⟩ : ∃ x, p.name = x := ⟨_, rfl⟩
      obtain ⟨pa, hpa⟩ : ∃ x, p.args = x := ⟨_, rfl⟩
      obtain ⟨pf, hpf⟩ : ∃ x, p.free = x := ⟨_, rfl⟩
      obtain ⟨pr, hpr⟩ : ∃ x, p.rest = x := ⟨_, rfl⟩
      obtain ⟨cl, hcl⟩ : ∃ x, p.code.length = x := ⟨_, rfl⟩
      obtain ⟨dl, hdl⟩ : ∃ x, p.consts.length = x := ⟨_, rfl⟩
      obtain ⟨nl, hnl⟩ : ∃ x, p.names.length = x := ⟨_, rfl⟩
      rw [hnm, hpa, hpf, hpr, hcl, hdl, hnl] at hds
      subst hds
      have hcw := hcell wr h2.right
      have i0' := hcw 0 _ rfl
      have i1 := hcw 1 _ rfl
      have i2 := hcw 2 _ rfl
      have i3 := hcw 3 _ rfl
      have i4 := hcw 4 _ rfl
      have i5 := hcw 5 _ rfl
      have i6 := hcw 6 _ rfl
      rw [Nat.add_zero] at i0'
      have h3 := h2.alloc (.cells #[.string nm, .int .i64 pa, .int .i64 pf, .bool pr, .slice ac cl cc, .slice ai dl ci, .slice an nl cn] 38)
      have hb3 := hb2.trans (Below.zero_alloc wr (.cells #[.string nm, .int .i64 pa, .int .i64 pf, .bool pr, .slice ac cl cc, .slice ai dl ci, .slice an nl cn] 38))
      have hszp := H1.out.2.2.2.1.2 p hmem
      have hdl1 := Dm.len_le p.consts
      have HPR := Lib.hid (And.intro hok (And.intro ex (And.intro hpa (And.intro hpf (And.intro hcl (And.intro hdl (And.intro hco (And.intro hdk (And.intro hszp hib)))))))))
      have HQ := Lib.hid (And.intro h3 hb3)
      have hclb : cl ≤ 67108864 := by omega
      have hdlb : dl ≤ 67108864 := by omega
      cases hao
      clear hcw hcell hok ex hmem hnm hpa hpf hpr hcl hdl hnl hco hdk hna hcc hci hcn hib h2 h3 hb2 hb3 hszp hll hlt hdl1
      have hbad : okP p q = none → ∀ w', sat w' (Go.Proofs.Ytkjfplldfjmbaaa.blk gp (.cells #[.int .i64 q] 3 (0, 0)) * R) → Below 0 w w' → RtPost R (okPs ps 0).isSome w (.returned (.bool false)) w' := by
        intro hn w' h' hb'
        rw [okPs_none HPR.out.2.1 HPR.out.1 hn]
        exact ⟨rfl, h'.right, hb'⟩
      have hbad2 : okP p q = none → ∀ w', sat w' R → Below 0 w w' → RtPost R (okPs ps 0).isSome w (.returned (.bool false)) w' := by
        intro hn w' h' hb'
        rw [okPs_none HPR.out.2.1 HPR.out.1 hn]
        exact ⟨rfl, h', hb'⟩
      have HB := Lib.hid (And.intro hbad hbad2)
      clear hbad hbad2
      have hS1 := fun w' => pack_size w' pa
      have hS2 := fun w' => pack_size w' pf
      cases ha : sizeB pa with
      | false =>
        have hno : okP p q = none := by unfold okP; rw [HPR.out.2.2.1, ha, Bool.false_and]; rfl
        have HN := Lib.hid hno
        rw [ha] at hS1
        clear hno ha hS2
        go_upto_region 5 with (fail)
        go_wp2_with fail
        refine (hS1 _).mono ?_
        rintro e w' ⟨rfl, m, rfl⟩
        go_wp2_with fail
        go_ret
        exact HB.out.2 HN.out _ ((HQ.out.1.drewN m).right.right) (HQ.out.2.trans (drewN_below0 _ m))
      | true =>
        rw [ha] at hS1
        cases hf : sizeB pf with
        | false =>
          have hno : okP p q = none := by unfold okP; rw [HPR.out.2.2.1, HPR.out.2.2.2.1, ha, hf, Bool.false_and, Bool.and_false]; rfl
          have HN := Lib.hid hno
          rw [hf] at hS2
          clear hno ha hf
          go_upto_region 5 with (fail)
          go_wp2_with fail
          refine (hS1 _).mono ?_
          rintro e w' ⟨rfl, m, rfl⟩
          go_wp2_with fail
          refine (hS2 _).mono ?_
          rintro e w' ⟨rfl, m2, rfl⟩
          go_wp2_with fail
          go_ret
          exact HB.out.2 HN.out _ ((HQ.out.1.drewN _).right.right) (HQ.out.2.trans (drewN_below0 _ _))
        | true =>
          rw [hf] at hS2
          have HAF := Lib.hid (And.intro ha hf)
          clear ha hf
          go_upto_region 5 with (fail)
          go_wp2_with fail
          refine (hS1 _).mono ?_
          rintro e w' ⟨rfl, m, rfl⟩
          go_wp2_with fail
          refine (hS2 _).mono ?_
          rintro e w' ⟨rfl, m2, rfl⟩
          have h4 := (HQ.out.1.drewN m).drewN m2
          have hb4 := (HQ.out.2.trans (drewN_below0 _ m)).trans (drewN_below0 _ m2)
          generalize ((wr.alloc (.cells #[.string nm, .int .i64 pa, .int .i64 pf, .bool pr, .slice ac cl cc, .slice ai dl ci, .slice an nl cn] 38)).drewN m).drewN m2 = w5 at *
          generalize wr.heap.size = gx at *
          obtain ⟨G, hG⟩ : ∃ G : HP, G = Go.Proofs.Ytkjfplldfjmbaaa.blk gx (.cells #[.string nm, .int .i64 pa, .int .i64 pf, .bool pr, .slice ac cl cc, .slice ai dl ci, .slice an nl cn] 38 (0, 0)) * (Go.Proofs.Ytkjfplldfjmbaaa.blk gp (.cells #[.int .i64 q] 3 (0, 0)) * R) := ⟨_, rfl⟩
          have hGR : ∀ w, sat w G → sat w R := fun w h => by rw [hG] at h; exact h.right.right
          have hGc : ∀ w, sat w G → w.cell? ⟨gx, 4, none⟩ = some (.slice ac cl cc) ∧ w.cell? ⟨gx, 5, none⟩ = some (.slice ai dl ci) := fun w h => by
            rw [hG] at h
            exact ⟨(h.left.cell 4).trans rfl, (h.left.cell 5).trans rfl⟩
          have h4G : sat w5 G := by rw [hG]; exact h4
          have c4 := (hGc w5 h4G).1
          have HGG := Lib.hid (And.intro hG (And.intro hGR hGc))
          have H4 := Lib.hid (And.intro h4G hb4)
          clear hG hGR hGc h4 h4G hb4 hS1 hS2
          clear i0' i1 i2 i3 i4 i5 i6
          go_wp2_with fail
          go_loopw [29] (RcRel w G p.code) (fun i _ => cl - (intOf i).toNat)
          case atStart => exact ⟨0, Nat.zero_le _, rfl, by simp, H4.out.1, H4.out.2⟩
          case round =>
            clear c4
            obtain ⟨j2, hj2, rfl, hall, h6, hb6⟩ := hrel
            have hcl := HPR.out.2.2.2.2.1
            by_cases hlt : j2 < p.code.length
            · have hlt2 : j2 < cl := by omega
              have bl2 : decide ((j2 : Int) < (cl : Int)) = true := by rw [decide_eq_true_eq]; omega
              obtain ⟨t, ex⟩ : ∃ t, p.code[j2]? = some t := ⟨_, List.getElem?_eq_getElem hlt⟩
              obtain ⟨⟨b3, o3, hac, hcell⟩, hb1', hb2', hb3'⟩ := HPR.out.2.2.2.2.2.2.1 j2 t ex
              obtain ⟨x0, x1, x2⟩ := hcell wr (HGG.out.2.1 wr h6)
              have hQ1 := fun w' => pack_size w' t.1
              have hQ2 := fun w' => pack_whole w' t.2.1
              have hQ3 := fun w' => pack_whole w' t.2.2
              have h7 := h6.alloc (.cells #[.int .i64 t.1, .int .i64 t.2.1, .int .i64 t.2.2] 41)
              have hb7 := hb6.trans (Below.zero_alloc wr (.cells #[.int .i64 t.1, .int .i64 t.2.1, .int .i64 t.2.2] 41))
              have HI := Lib.hid (And.intro h7 (And.intro hb7 (And.intro hall ex)))
              cases hac
              clear hcell hb1' hb2' hb3' h6 h7 hb6 hb7 hall ex hlt hcl
              cases hb0 : sizeB t.1 with
              | false =>
                have hri : rightI t = false := by unfold rightI; rw [hb0]; rfl
                have HN := Lib.hid hri
                rw [hb0] at hQ1
                clear hri hb0 hQ2 hQ3
                go_wp2_with fail
                refine (hQ1 _).mono ?_
                rintro e w' ⟨rfl, m0, rfl⟩
                go_wp2_with fail
                go_ret
                exact HB.out.2 (by unfold okP; rw [HPR.out.2.2.1, HPR.out.2.2.2.1, HAF.out.1, HAF.out.2, all_none HI.out.2.2.2 HN.out]; rfl) _ (HGG.out.2.1 _ ((HI.out.1.drewN _).right)) (HI.out.2.1.trans (drewN_below0 _ _))
              | true =>
                rw [hb0] at hQ1
                cases hb1 : wholeB t.2.1 with
                | false =>
                  have hri : rightI t = false := by unfold rightI; rw [hb0, hb1]; rfl
                  have HN := Lib.hid hri
                  rw [hb1] at hQ2
                  clear hri hb0 hb1 hQ3
                  go_wp2_with fail
                  refine (hQ1 _).mono ?_
                  rintro e w' ⟨rfl, m0, rfl⟩
                  go_wp2_with fail
                  refine (hQ2 _).mono ?_
                  rintro e w' ⟨rfl, m1, rfl⟩
                  go_wp2_with fail
                  go_ret
                  exact HB.out.2 (by unfold okP; rw [HPR.out.2.2.1, HPR.out.2.2.2.1, HAF.out.1, HAF.out.2, all_none HI.out.2.2.2 HN.out]; rfl) _ (HGG.out.2.1 _ ((HI.out.1.drewN _).right)) (HI.out.2.1.trans (drewN_below0 _ _))
                | true =>
                  rw [hb1] at hQ2
                  cases hb2 : wholeB t.2.2 with
                  | false =>
                    have hri : rightI t = false := by unfold rightI; rw [hb0, hb1, hb2]; rfl
                    have HN := Lib.hid hri
                    rw [hb2] at hQ3
                    clear hri hb0 hb1 hb2
                    go_wp2_with fail
                    refine (hQ1 _).mono ?_
                    rintro e w' ⟨rfl, m0, rfl⟩
                    go_wp2_with fail
                    refine (hQ2 _).mono ?_
                    rintro e w' ⟨rfl, m1, rfl⟩
                    go_wp2_with fail
                    refine (hQ3 _).mono ?_
                    rintro e w' ⟨rfl, m2, rfl⟩
                    go_wp2_with fail
                    go_ret
                    exact HB.out.2 (by unfold okP; rw [HPR.out.2.2.1, HPR.out.2.2.2.1, HAF.out.1, HAF.out.2, all_none HI.out.2.2.2 HN.out]; rfl) _ (HGG.out.2.1 _ ((HI.out.1.drewN _).right)) (HI.out.2.1.trans (drewN_below0 _ _))
                  | true =>
                    rw [hb2] at hQ3
                    have hri : rightI t = true := by unfold rightI; rw [hb0, hb1, hb2]; rfl
                    have HN := Lib.hid hri
                    clear hri hb0 hb1 hb2
                    go_wp2_with fail
                    refine (hQ1 _).mono ?_
                    rintro e w' ⟨rfl, m0, rfl⟩
                    go_wp2_with fail
                    refine (hQ2 _).mono ?_
                    rintro e w' ⟨rfl, m1, rfl⟩
                    go_wp2_with fail
                    refine (hQ3 _).mono ?_
                    rintro e w' ⟨rfl, m2', rfl⟩
                    go_wp2_with fail
                    go_roundw
                    case rel =>
                      refine ⟨j2 + 1, by have := HPR.out.2.2.2.2.1; omega, by go_num, ?_, (HI.out.1.drewN _).right, HI.out.2.1.trans (drewN_below0 _ _)⟩
                      rw [all_next HI.out.2.2.2, HI.out.2.2.1, HN.out]; rfl
                    case measure =>
                      have := HPR.out.2.2.2.2.1
                      simp [intOf]; omega
            · obtain rfl : j2 = p.code.length := by omega
              rw [List.take_of_length_le (Nat.le_refl _)] at hall
              have hge : decide ((p.code.length : Int) < (cl : Int)) = false := by rw [decide_eq_false_iff_not]; omega
              have HC := Lib.hid (And.intro h6 (And.intro hb6 hall))
              have c5 := (HGG.out.2.2 wr h6).2
              rw [hcl]
              rw [hcl] at hge
              clear h6 hb6 hall hlt hj2 hcl
              go_wp2_with fail
              have h8 : sat wr (Go.Proofs.Ytkjfplldfjmbaaa.blk gp (.cells #[.int .i64 q] 3 (0, 0)) * (Go.Proofs.Ytkjfplldfjmbaaa.blk gx (.cells #[.string nm, .int .i64 pa, .int .i64 pf, .bool pr, .slice ac cl cc, .slice ai dl ci, .slice an nl cn] 38 (0, 0)) * R)) := by have := HC.out.1; rw [HGG.out.1] at this; exact this.perm (by ac_rfl)
              obtain ⟨G2, hG2⟩ : ∃ G2 : HP, G2 = Go.Proofs.Ytkjfplldfjmbaaa.blk gx (.cells #[.string nm, .int .i64 pa, .int .i64 pf, .bool pr, .slice ac cl cc, .slice ai dl ci, .slice an nl cn] 38 (0, 0)) * R := ⟨_, rfl⟩
              rw [← hG2] at h8
              have hG2R : ∀ w, sat w G2 → sat w R := fun w h => by rw [hG2] at h; exact h.right
              have HG2 := Lib.hid (And.intro hG2 hG2R)
              have H8 := Lib.hid h8
              clear hG2 hG2R h8 c5
              go_loopw [53] (RdRel w gp G2 p.consts q) (fun i _ => dl - (intOf i).toNat)
              case atStart => exact ⟨0, q, Nat.zero_le _, rfl, hq, by rw [List.take_zero]; unfold okDs; rfl, H8.out, HC.out.2.1⟩
              case round =>
                obtain ⟨j3, q', hj3, rfl, hq', hok, h9, hb9⟩ := hrel
                have hll := HPR.out.2.2.2.2.2.1
                by_cases hlt : j3 < p.consts.length
                · have hlt2 : j3 < dl := by omega
                  have bl3 : decide ((j3 : Int) < (dl : Int)) = true := by rw [decide_eq_true_eq]; omega
                  obtain ⟨d, ex⟩ : ∃ d, p.consts[j3]? = some d := ⟨_, List.getElem?_eq_getElem hlt⟩
                  obtain ⟨b4, o4, ds, hao, hcell, hdd⟩ := HPR.out.2.2.2.2.2.2.2.1.get j3 d ex
                  have hcw := hcell wr (HG2.out.2 wr h9.right)
                  rw [Nat.zero_add] at hcw
                  have hdz : d.size ≤ 67108864 := by have := Dm.size_le ex; have := HPR.out.2.2.2.2.2.2.2.2.1.2; omega
                  obtain ⟨k1, n1, ng1, am1, ml1, cm1, tx1, ai1, il1, ci1, ar1, rl1, cr1, rfl⟩ := hdd.cells
                  have i0' := hcw 0 _ rfl
                  have i1 := hcw 1 _ rfl
                  have i2 := hcw 2 _ rfl
                  have i3 := hcw 3 _ rfl
                  have i4 := hcw 4 _ rfl
                  have i5 := hcw 5 _ rfl
                  have i6 := hcw 6 _ rfl
                  rw [Nat.add_zero] at i0'
                  have h10 := h9.alloc (dmO [.int .i64 k1, .int .i64 n1, .bool ng1, .slice am1 ml1 cm1, .string tx1, .slice ai1 il1 ci1, .slice ar1 rl1 cr1])
                  have h11 : sat (wr.alloc (dmO [.int .i64 k1, .int .i64 n1, .bool ng1, .slice am1 ml1 cm1, .string tx1, .slice ai1 il1 ci1, .slice ar1 rl1 cr1])) (Go.Proofs.Ytkjfplldfjmbaaa.blk gp (.cells #[.int .i64 q'] 3 (0, 0)) * (Go.Proofs.Ytkjfplldfjmbaaa.blk wr.heap.size (dmO [.int .i64 k1, .int .i64 n1, .bool ng1, .slice am1 ml1 cm1, .string tx1, .slice ai1 il1 ci1, .slice ar1 rl1 cr1]) * G2)) := h10.perm (by ac_rfl)
                  have hC := pack_datum hdz (deep := 100) (by decide) _ _ gp q' _ hq' h11 (hdd.mono (fun w h => HG2.out.2 w h.right) _)
                  obtain ⟨o, ho⟩ : ∃ o, okD d 100 q' = o := ⟨_, rfl⟩
                  rw [ho] at hC
                  have hb11 := hb9.trans (Below.zero_alloc wr (dmO [.int .i64 k1, .int .i64 n1, .bool ng1, .slice am1 ml1 cm1, .string tx1, .slice ai1 il1 ci1, .slice ar1 rl1 cr1]))
                  have hqb : ∀ q3, o = some q3 → 0 ≤ q3 ∧ q3 ≤ 20000 := fun q3 h => by have := okD_bd d 100 q' q3 (by rw [ho, h]); omega
                  have HK := Lib.hid (And.intro hb11 (And.intro hok (And.intro ho (And.intro ex (And.intro hC hqb)))))
                  cases hao
                  clear hcw hcell hdd h9 h10 h11 hb9 hb11 ex hC hok ho hqb hll hlt hdz
                  go_wp2_with fail
                  refine HK.out.2.2.2.2.1.mono ?_
                  clear i0' i1 i2 i3 i4 i5 i6
                  generalize wr.heap.size = gb at *
                  rintro e w6 ⟨q2, rfl, hq2, h12, hb12⟩
                  cases o with
                  | none =>
                    have HN := Lib.hid (And.intro h12 (And.intro (HK.out.1.trans hb12) (okDs_none HK.out.2.2.2.1 HK.out.2.1 HK.out.2.2.1)))
                    clear h12 hb12 hq2
                    go_wp2_with fail
                    go_ret
                    exact HB.out.2 (by unfold okP; rw [HPR.out.2.2.1, HPR.out.2.2.2.1, HAF.out.1, HAF.out.2, HC.out.2.2]; exact HN.out.2.2) _ (HG2.out.2 _ HN.out.1.right.right) HN.out.2.1
                  | some q3 =>
                    obtain rfl := hq2 q3 rfl
                    have HN := Lib.hid (And.intro h12 (And.intro (HK.out.1.trans hb12) (HK.out.2.2.2.2.2 q2 rfl)))
                    clear h12 hb12 hq2
                    go_wp2_with fail
                    go_roundw
                    case rel =>
                      refine ⟨j3 + 1, q2, by have := HPR.out.2.2.2.2.2.1; omega, by go_num, HN.out.2.2, ?_, ?_, HN.out.2.1⟩
                      · rw [okDs_next HK.out.2.2.2.1, HK.out.2.1]
                        exact HK.out.2.2.1
                      · exact (HN.out.1.perm (show _ = Go.Proofs.Ytkjfplldfjmbaaa.blk gb _ * (Go.Proofs.Ytkjfplldfjmbaaa.blk gp _ * G2) by ac_rfl)).right
                    case measure =>
                      have := HPR.out.2.2.2.2.2.1
                      simp [intOf]; omega
                · obtain rfl : j3 = p.consts.length := by omega
                  rw [List.take_of_length_le (Nat.le_refl _)] at hok
                  have hge : decide ((p.consts.length : Int) < (dl : Int)) = false := by rw [decide_eq_false_iff_not]; omega
                  have hyes : okP p q = some q' := by unfold okP; rw [HPR.out.2.2.1, HPR.out.2.2.2.1, HAF.out.1, HAF.out.2, HC.out.2.2]; exact hok
                  have HN := Lib.hid (And.intro h9 (And.intro hb9 (And.intro hyes hq')))
                  rw [hll]
                  rw [hll] at hge
                  clear h9 hb9 hok hq' hj3 hlt hll hyes
                  go_wp2_with fail
                  go_roundw
                  case rel =>
                    refine ⟨j + 1, q', by have := H1.out.2.2.1; omega, by go_num, HN.out.2.2.2, ?_, ?_, HN.out.2.1⟩
                    · rw [okPs_next HPR.out.2.1, HPR.out.1]
                      exact HN.out.2.2.1
                    · have := HN.out.1
                      rw [HG2.out.1] at this
                      exact (this.perm (show _ = Go.Proofs.Ytkjfplldfjmbaaa.blk gx (.cells #[.string nm, .int .i64 pa, .int .i64 pf, .bool pr, .slice ac cl cc, .slice ai dl ci, .slice an nl cn] 38 (0, 0)) * (Go.Proofs.Ytkjfplldfjmbaaa.blk gp _ * R) by ac_rfl)).right
                  case measure => simp [intOf]; omega
    · obtain rfl : j = ps.length := by omega
      rw [List.take_of_length_le (Nat.le_refl _)] at hok
      have hge : decide ((ps.length : Int) < (pl : Int)) = false := by rw [decide_eq_false_iff_not]; omega
      have hpost : RtPost R (okPs ps 0).isSome w (.returned (.bool true)) wr := by rw [hok]; exact ⟨rfl, h2.right, hb2⟩
      have HN := Lib.hid hpost
      rw [hll]
      rw [hll] at hge
      clear hpost h2 hb2 hok hlt hj hll
      go_wp2_with fail
      go_ret
      exact HN.out
end Go.Proofs.Ytkjfplldfjmbaaa
