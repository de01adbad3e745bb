/- tandemlaw00.SameProtos, by the kind of the first difference (1). -/
import Derived.Test.YtkjfplldfjmbaaaProtoSame0
namespace Go.Proofs.Ytkjfplldfjmbaaa
open Go.RowKit
set_option maxRecDepth 100000 in
set_option maxHeartbeats 40000000 in
theorem same_protos1 {w : World} {R : HP} (hs : sat w R) (ao bo : Option Addr) (ca cb : Nat) (ps qs : List Pr) (hx : PrKs R ps ao) (hy : PrKs R qs bo) (n1 n2 : Nat) (hn1 : ps.length = n1) (hn2 : qs.length = n2) (h1 : n1 ≤ 1048576) (h2 : n2 ≤ 1048576)
    (hz1 : ∀ p ∈ ps, p.code.length ≤ 1048576 ∧ Dm.sizes p.consts ≤ 1048576 ∧ p.names.length ≤ 1048576) (hz2 : ∀ p ∈ qs, p.code.length ≤ 1048576 ∧ Dm.sizes p.consts ≤ 1048576 ∧ p.names.length ≤ 1048576) (hfd : FirstD P1 ps qs) :
    Calls Try.prog 14 #[.slice ao n1 ca, .slice bo n2 cb] w (SaysR R (.bool (samePs ps qs)) w) := by
  obtain ⟨B, hB⟩ : ∃ B, samePs ps qs = B := ⟨_, rfl⟩
  rw [hB]
  have HL := Lib.hid (And.intro hn1 (And.intro hn2 (And.intro hB (And.intro hx (And.intro hy (And.intro hz1 hz2))))))
  clear hn1 hn2 hB hx hy hz1 hz2
  have HFD := Lib.hid hfd
  clear hfd
  go_enter Try.func14, Try.ntmps14
  by_cases hnn : n1 = n2
  · have e0 : ((n1 : Int) == (n2 : Int)) = true := by simp [hnn]
    subst hnn
    go_wp2_with fail
    go_loopw [5] (ScRel w R n1 ps qs) (fun i _ => n1 - (intOf i).toNat)
    case atStart => exact ⟨0, Nat.zero_le _, rfl, hs, Below.refl _ _, rfl⟩
    case round =>
      obtain ⟨k, hk, rfl, hs1, hb1, htk⟩ := hrel
      by_cases hlt : k < n1
      · obtain ⟨p, ex⟩ : ∃ d, ps[k]? = some d := ⟨_, List.getElem?_eq_getElem (by have := HL.out.1; omega)⟩
        obtain ⟨q, ey⟩ : ∃ e, qs[k]? = some e := ⟨_, List.getElem?_eq_getElem (by have := HL.out.2.1; omega)⟩
        obtain ⟨b1, o1, cs, rfl, hcx, hpx⟩ := HL.out.2.2.2.1 k p ex
        obtain ⟨b2, o2, ds, rfl, hcy, hpy⟩ := HL.out.2.2.2.2.1 k q ey
        obtain ⟨sx1, sx2, sx3⟩ := HL.out.2.2.2.2.2.1 p (List.mem_of_getElem? ex)
        obtain ⟨sy1, sy2, sy3⟩ := HL.out.2.2.2.2.2.2 q (List.mem_of_getElem? ey)
        have hsame := take_eq htk ex ey
        have hkd := HFD.out k p q htk ex ey
        have hdiff : ¬ p = q → B = false := fun h => by rw [← HL.out.2.2.1, samePs_false]; exact get_ne ex ey h
        obtain ⟨nm1, pa1, pf1, rs1, code1, consts1, names1⟩ := p
        obtain ⟨nm2, pa2, pf2, rs2, code2, consts2, names2⟩ := q
        obtain ⟨ac1, cc1, ai1, ci1, an1, cn1, rfl, _, hco1, hdk1, hna1, _⟩ := hpx
        obtain ⟨ac2, cc2, ai2, ci2, an2, cn2, rfl, _, hco2, hdk2, hna2, _⟩ := hpy
        dsimp only at sx1 sx2 sx3 sy1 sy2 sy3 hco1 hdk1 hna1 hco2 hdk2 hna2 hcx hcy
        unfold P1 at hkd
        simp only [Pr.mk.injEq] at hsame hdiff hkd
        have hC := fun w' (h : sat w' R) => same_code h ac1 ac2 cc1 cc2 code1 code2 hco1 hco2 _ _ rfl rfl sx1 sy1
        have hI := fun w' (h : sat w' R) => same_dms (ca := ci1) (cb := ci2) h hdk1 hdk2 sx2 sy2
        have hN := fun w' (h : sat w' R) => same_texts h an1 an2 cn1 cn2 names1 names2 hna1 hna2 _ _ rfl rfl sx3 sy3
        obtain ⟨cl1, hcl1⟩ : ∃ x, code1.length = x := ⟨_, rfl⟩
        obtain ⟨cl2, hcl2⟩ : ∃ x, code2.length = x := ⟨_, rfl⟩
        obtain ⟨dl1, hdl1⟩ : ∃ x, consts1.length = x := ⟨_, rfl⟩
        obtain ⟨dl2, hdl2⟩ : ∃ x, consts2.length = x := ⟨_, rfl⟩
        obtain ⟨nl1, hnl1⟩ : ∃ x, names1.length = x := ⟨_, rfl⟩
        obtain ⟨nl2, hnl2⟩ : ∃ x, names2.length = x := ⟨_, rfl⟩
        rw [hcl1, hcl2] at hC
        rw [hdl1, hdl2] at hI
        rw [hnl1, hnl2] at hN
        rw [hcl1, hdl1, hnl1] at hcx
        rw [hcl2, hdl2, hnl2] at hcy
        obtain ⟨qc, hqc⟩ : ∃ x, decide (code1 = code2) = x := ⟨_, rfl⟩
        obtain ⟨qi, hqi⟩ : ∃ x, samesB consts1 consts2 = x := ⟨_, rfl⟩
        obtain ⟨qn, hqn⟩ : ∃ x, decide (names1 = names2) = x := ⟨_, rfl⟩
        rw [hqc] at hC
        rw [hqi] at hI
        rw [hqn] at hN
        have hdc : qc = false → B = false := fun h => hdiff fun e => by rw [h, decide_eq_false_iff_not] at hqc; exact hqc e.2.2.2.2.1
        have hdi : qi = false → B = false := fun h => hdiff fun e => by rw [h, samesB_false] at hqi; exact hqi e.2.2.2.2.2.1
        have hdn : qn = false → B = false := fun h => hdiff fun e => by rw [h, decide_eq_false_iff_not] at hqn; exact hqn e.2.2.2.2.2.2
        have hall : qc = true → qi = true → qn = true → nm1 = nm2 → pa1 = pa2 → pf1 = pf2 → rs1 = rs2 → ps.take (k + 1) = qs.take (k + 1) := fun h1 h2 h3 a b c d => by
          rw [h1, decide_eq_true_eq] at hqc
          rw [h2, samesB_true] at hqi
          rw [h3, decide_eq_true_eq] at hqn
          exact hsame ⟨a, b, c, d, hqc, hqi, hqn⟩
        have hcc : ∀ w', sat w' R → pcells w' b1 (o1 + k * 7) (.string nm1) (.int .i64 pa1) (.int .i64 pf1) (.bool rs1) (.slice ac1 cl1 cc1) (.slice ai1 dl1 ci1) (.slice an1 nl1 cn1) ∧ pcells w' b2 (o2 + k * 7) (.string nm2) (.int .i64 pa2) (.int .i64 pf2) (.bool rs2) (.slice ac2 cl2 cc2) (.slice ai2 dl2 ci2) (.slice an2 nl2 cn2) :=
          fun w' h => ⟨⟨hcx w' h 0 _ rfl, hcx w' h 1 _ rfl, hcx w' h 2 _ rfl, hcx w' h 3 _ rfl, hcx w' h 4 _ rfl, hcx w' h 5 _ rfl, hcx w' h 6 _ rfl⟩, hcy w' h 0 _ rfl, hcy w' h 1 _ rfl, hcy w' h 2 _ rfl, hcy w' h 3 _ rfl, hcy w' h 4 _ rfl, hcy w' h 5 _ rfl, hcy w' h 6 _ rfl⟩
        have HH := Lib.hid (And.intro hC (And.intro hI (And.intro hN (And.intro hcc (And.intro hdiff (And.intro hdc (And.intro hdi (And.intro hdn hall))))))))
        have hkd2 : (nm1 = nm2 → pa1 = pa2 ∧ pf1 = pf2 ∧ rs1 = rs2 ∧ qc = true ∧ qi = true ∧ qn = true) := (fun h => by
          obtain ⟨e1, e2, e3, e4, e5, e6, e7⟩ := hkd h
          exact ⟨e2, e3, e4, (by rw [← hqc, decide_eq_true_eq]; exact e5), (by rw [← hqi, samesB_true]; exact e6), (by rw [← hqn, decide_eq_true_eq]; exact e7)⟩)
        have HK := Lib.hid hkd2
        obtain ⟨T, f, hf1, hf2⟩ := worlds_class (fun w' => sat w' R ∧ Below 0 w w')
        have hcf := fun n => hcc (f n) (hf1 n).1
        have x0 := fun n => (hcf n).1.1
        have x1 := fun n => (hcf n).1.2.1
        have x2 := fun n => (hcf n).1.2.2.1
        have x3 := fun n => (hcf n).1.2.2.2.1
        have x4 := fun n => (hcf n).1.2.2.2.2.1
        have x5 := fun n => (hcf n).1.2.2.2.2.2.1
        have x6 := fun n => (hcf n).1.2.2.2.2.2.2
        have y0 := fun n => (hcf n).2.1
        have y1 := fun n => (hcf n).2.2.1
        have y2 := fun n => (hcf n).2.2.2.1
        have y3 := fun n => (hcf n).2.2.2.2.1
        have y4 := fun n => (hcf n).2.2.2.2.2.1
        have y5 := fun n => (hcf n).2.2.2.2.2.2.1
        have y6 := fun n => (hcf n).2.2.2.2.2.2.2
        have hst : ∃ n, wr.drewN 1 = f n := hf2 _ ⟨hs1.drewN 1, hb1.trans (drewN_low wr 1)⟩
        haveI : Nonempty T := hst.elim fun n _ => ⟨n⟩
        have HF := Lib.hid (And.intro hf1 (And.intro hf2 hst))
        clear hkd hkd2 hC hI hN hcc hdiff hdc hdi hdn hall hqc hqi hqn hcl1 hcl2 hdl1 hdl2 hnl1 hnl2 hsame hcx hcy hco1 hdk1 hna1 hco2 hdk2 hna2 sx1 sx2 sx3 sy1 sy2 sy3 ex ey htk hs1 hb1 hs hcf hf1 hf2 hst
        have cn : (nm1.toList == nm2.toList) = decide (nm1 = nm2) := by
          by_cases e : nm1 = nm2
          · rw [e, decide_eq_true rfl, beq_self_eq_true]
          · rw [decide_eq_false e, beq_eq_false_iff_ne]; exact fun h => e (text_inj h)
        have cn2 : (nm1.toList != nm2.toList) = !decide (nm1 = nm2) := by rw [bne, cn]
        have ca : (pa1 == pa2) = decide (pa1 = pa2) := by by_cases e : pa1 = pa2 <;> simp [e]
        have ca2 : (pa1 != pa2) = !decide (pa1 = pa2) := by rw [bne, ca]
        have cf : (pf1 == pf2) = decide (pf1 = pf2) := by by_cases e : pf1 = pf2 <;> simp [e]
        have cf2 : (pf1 != pf2) = !decide (pf1 = pf2) := by rw [bne, cf]
        have cr : (rs1 == rs2) = decide (rs1 = rs2) := by by_cases e : rs1 = rs2 <;> simp [e]
        have cr2 : (rs1 != rs2) = !decide (rs1 = rs2) := by rw [bne, cr]
        have HX := Lib.hid (And.intro cn (And.intro cn2 (And.intro ca (And.intro ca2 (And.intro cf (And.intro cf2 (And.intro cr cr2)))))))
        clear cn cn2 ca ca2 cf cf2 cr cr2
        obtain ⟨bn, hbn⟩ : ∃ x, decide (nm1 = nm2) = x := ⟨_, rfl⟩
        obtain ⟨ba, hba⟩ : ∃ x, decide (pa1 = pa2) = x := ⟨_, rfl⟩
        obtain ⟨bf, hbf⟩ : ∃ x, decide (pf1 = pf2) = x := ⟨_, rfl⟩
        obtain ⟨br, hbr⟩ : ∃ x, decide (rs1 = rs2) = x := ⟨_, rfl⟩
        rw [hbn, hba, hbf, hbr] at HX
        have HE := Lib.hid (And.intro hbn (And.intro hba (And.intro hbf hbr)))
        clear hbn hba hbf hbr
        cases bn with
        | false =>
          obtain ⟨en, en2, -⟩ := HX.out
          have hb0 : B = false := HH.out.2.2.2.2.1 fun e => of_decide_eq_false HE.out.1 e.1
          clear HX
          subst hb0
          go_wp2_with fail
          try dsimp only [List.append]
          refine wp_region_class f (by kernel_rfl) (by kernel_rfl) HF.out.2.2 ?_
          repeat (go_big_quiet_step (fail))
          refine wpQuiet_nil ?_
          rintro w2 ⟨n2, rfl⟩
          have HE2 := Lib.hid (HF.out.1 n2)
          clear x0 x1 x2 x3 x4 x5 x6 y0 y1 y2 y3 y4 y5 y6
          go_wp2_with fail
          go_ret
          exact ⟨rfl, HE2.out.1, HE2.out.2⟩
        | true =>
        cases ba with
        | false => exact absurd ((HK.out (of_decide_eq_true HE.out.1))).1 (of_decide_eq_false HE.out.2.1)
        | true =>
        cases bf with
        | false => exact absurd ((HK.out (of_decide_eq_true HE.out.1))).2.1 (of_decide_eq_false HE.out.2.2.1)
        | true =>
        cases br with
        | false => exact absurd ((HK.out (of_decide_eq_true HE.out.1))).2.2.1 (of_decide_eq_false HE.out.2.2.2)
        | true =>
        obtain ⟨en, en2, ea, ea2, ef, ef2, er, er2⟩ := HX.out
        clear HX
        obtain ⟨rfl, rfl, rfl⟩ : qc = true ∧ qi = true ∧ qn = true := ⟨((HK.out (of_decide_eq_true HE.out.1))).2.2.2.1, ((HK.out (of_decide_eq_true HE.out.1))).2.2.2.2.1, ((HK.out (of_decide_eq_true HE.out.1))).2.2.2.2.2⟩
        go_wp2_with fail
        try dsimp only [List.append]
        refine wp_region_class f (by kernel_rfl) (by kernel_rfl) HF.out.2.2 ?_
        repeat (go_big_quiet_step (first | (go_at_call 31; refine (HH.out.1 _ (HF.out.1 _).1).mono ?_; rintro e w2 ⟨rfl, n2, rfl⟩; exact ⟨rfl, HF.out.2.1 _ ⟨(HF.out.1 _).1.drewN _, (HF.out.1 _).2.trans (drewN_low _ _)⟩⟩) | (go_at_call 32; refine (HH.out.2.1 _ (HF.out.1 _).1).mono ?_; rintro e w2 ⟨rfl, h2, hb2⟩; exact ⟨rfl, HF.out.2.1 _ ⟨h2, (HF.out.1 _).2.trans hb2⟩⟩) | (go_at_call 33; refine (HH.out.2.2.1 _ (HF.out.1 _).1).mono ?_; rintro e w2 ⟨rfl, n2, rfl⟩; exact ⟨rfl, HF.out.2.1 _ ⟨(HF.out.1 _).1.drewN _, (HF.out.1 _).2.trans (drewN_low _ _)⟩⟩)))
        refine wpQuiet_nil ?_
        rintro w2 ⟨n2, rfl⟩
        have HE2 := Lib.hid (HF.out.1 n2)
        clear x0 x1 x2 x3 x4 x5 x6 y0 y1 y2 y3 y4 y5 y6
        have HE3 := Lib.hid (HH.out.2.2.2.2.2.2.2.2 (by trivial) (by trivial) (by trivial) (of_decide_eq_true HE.out.1) (of_decide_eq_true HE.out.2.1) (of_decide_eq_true HE.out.2.2.1) (of_decide_eq_true HE.out.2.2.2))
        go_wp2_with fail
        go_roundw
        case rel => exact ⟨k + 1, by omega, by go_num, HE2.out.1, HE2.out.2, HE3.out⟩
        case measure => simp [intOf]; omega
      · obtain rfl : k = n1 := by omega
        have hge : decide ((k : Int) < (k : Int)) = false := by simp
        have hb0 : B = true := by rw [← HL.out.2.2.1, samePs_true]; exact take_all htk HL.out.1 HL.out.2.1
        subst hb0
        go_wp2_with fail
        go_ret
        exact ⟨rfl, hs1, hb1⟩
  · have e0 : ((n1 : Int) == (n2 : Int)) = false := by simp; omega
    have hb0 : B = false := by rw [← HL.out.2.2.1, samePs_false]; rintro rfl; have h1 := HL.out.1; have h2 := HL.out.2.1; omega
    subst hb0
    go_wp2_with fail
    go_ret
    exact ⟨rfl, hs, Below.refl _ _⟩
end Go.Proofs.Ytkjfplldfjmbaaa
