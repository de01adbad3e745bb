/- tandemref10.Write, where Right is told. -/
import Derived.Test.YtkjfplldfjmbaaaRefDat3
namespace Go.Proofs.Ytkjfplldfjmbaaa
open Go.RowKit
theorem refp_lit {w : World} {R : HP} (hs : sat w R) (x : Int) (h0 : 0 ≤ x) (hx : x < 9223372036854775808) : Calls Try.prog 26 #[.int .i64 x] w (BytesR R (numB x.toNat) w) := refp_num _ x rfl hs h0 hx
set_option maxRecDepth 100000 in
set_option maxHeartbeats 8000000 in
theorem refp_Write (ps : List Pr) (pl : Nat) (hpl : ps.length = pl) (hsz : prSizes ps ≤ 1048576) (w : World) (R : HP) (ao : Option Addr) (cap : Nat) (hd : PrKs R ps ao)
    (hRt : Calls Try.prog 25 #[.slice ao pl cap] w (RtPost R (okPs ps 0).isSome w)) :
    Calls Try.prog 10 #[.slice ao pl cap] w (WritePost R ps w) := by
  have hlen := prSizes_len ps
  have hplb : pl ≤ 1048576 := by omega
  have H1 := Lib.hid (And.intro hpl (And.intro hsz hd))
  have HDK := Lib.hid hd.dks
  obtain ⟨i0, hi, hz0, hz1, hz2⟩ := info_parts info_b8
  have H1I := Lib.hid (And.intro hi (And.intro hz0 (And.intro hz1 hz2)))
  clear hpl hd hlen hsz hi hz0 hz1 hz2
  go_enter Try.func10, Try.ntmps10
  go_wp2_with fail
  refine hRt.mono ?_
  clear hRt
  rintro e w1 ⟨rfl, h1, hb1⟩
  cases ho : okPs ps 0 with
  | none =>
    have hpost : WritePost R ps w (.returned (.tuple #[.slice none 0 0, .int .i64 1])) w1 := by
      unfold WritePost
      rw [ho, if_neg (by decide)]
      exact ⟨rfl, h1, hb1⟩
    have HN := Lib.hid hpost
    clear hpost h1 hb1 ho
    simp only [Option.isSome_none]
    go_wp2_with fail
    go_ret2
    exact HN.out
  | some q =>
    have hmem := okPs_mem (by decide) ho
    have h2 := h1.alloc (.cells #[.int .u8 84, .int .u8 65, .int .u8 78, .int .u8 68] 5)
    have hb2 := hb1.trans (Below.zero_alloc w1 (.cells #[.int .u8 84, .int .u8 65, .int .u8 78, .int .u8 68] 5))
    have hrow : sat (w1.alloc (.cells #[.int .u8 84, .int .u8 65, .int .u8 78, .int .u8 68] 5)) (row 5 1 w1.heap.size 4 [.int .u8 84, .int .u8 65, .int .u8 78, .int .u8 68] * R) := h2.shut_row rfl (by decide) (by decide) rfl
    have hown : sat (w1.alloc (.cells #[.int .u8 84, .int .u8 65, .int .u8 78, .int .u8 68] 5)) (own 5 1 (.slice (some ⟨w1.heap.size, 0, none⟩) 4 4) ([84, 65, 78, 68] : List Int).length (([84, 65, 78, 68] : List Int).map bv) * R) := sat.shut_own (n := 4) rfl (Nat.le_refl _) hrow
    have hN := refp_len hown pl hplb
    have hnn := numB_nine pl hplb
    have HO := Lib.hid (And.intro ho (And.intro hmem (And.intro hb2 hnn)))
    clear h1 hb1 h2 hb2 hrow hown ho hmem hnn
    simp only [Option.isSome_some]
    go_wp2_with fail
    refine hN.mono ?_
    clear hN
    rintro e w2 ⟨v2, rfl, h3, hb3⟩
    have H2 := Lib.hid (And.intro h3 hb3)
    clear h3 hb3
    go_wp2_with (at_builtin; refine halt ?_)
    refine goon ?_
    obtain ⟨hi, hz0, hz1, hz2⟩ := H1I.out
    refine wpList_append_bytes rfl (.tmp 13) (.tmp 16) rfl i0 hi hz0 hz1 hz2 _ v2 [84, 65, 78, 68] (numB pl) rfl R rfl ?_ H2.out.1 (numB_pos _) (by have := HO.out.2.2.2; simp only [List.length_cons, List.length_nil]; omega)
    clear hi hz0 hz1 hz2
    intro v3 w3 hs3 hb3
    obtain ⟨zs, hzs⟩ : ∃ zs : List Int, [84, 65, 78, 68] ++ numB pl = zs := ⟨_, rfl⟩
    have hzl : zs.length ≤ 13 := by rw [← hzs, List.length_append]; have := HO.out.2.2.2; simp only [List.length_cons, List.length_nil]; omega
    rw [hzs] at hs3
    have H3 := Lib.hid (And.intro hs3 (And.intro ((HO.out.2.2.1.trans H2.out.2).trans hb3) (And.intro hzs hzl)))
    clear hs3 hb3 hzs hzl
    go_wp2_with fail
    go_loopw [4, 5] (WiRel w R ps zs) (fun _ i _ => pl - (intOf i).toNat)
    case atStart => exact ⟨0, Nat.zero_le _, rfl, by simp [protosB], by rw [List.take_zero]; unfold protosB; rw [List.flatMap_nil, List.append_nil]; exact H3.out.1, H3.out.2.1⟩
    case round =>
      obtain ⟨j, hj, rfl, hpb, h4, hb4⟩ := hrel
      have hll := H1.out.1
      by_cases hlt : j < ps.length
      · have hlt2 : j < pl := by omega
        have bl : decide ((j : Int) < (pl : Int)) = true := by rw [decide_eq_true_eq]; omega
        obtain ⟨p, ex⟩ : ∃ p, ps[j]? = some p := ⟨_, List.getElem?_eq_getElem hlt⟩
        obtain ⟨bb, off, ds, hao, hcell, hpk⟩ := H1.out.2.2 j p ex
        have hrt := HO.out.2.1 p (List.mem_of_getElem? ex)
        have hpsz := prSizes_take ex
        obtain ⟨ac, cc, ai, ci, an, cn, hds, hib, hco, hdk, hna, hcc, hci, hcn⟩ := hpk
        have hpz : p.size = 1 + p.name.size + p.code.length + Dm.sizes p.consts + namesZ p.names := rfl
        have hdl1 := Dm.len_le p.consts
        have hnl1 := namesZ_len p.names
        have htot := H1.out.2.1
        obtain ⟨nm, hnm⟩ : ∃ x, p.name = x := ⟨_, rfl⟩
        obtain ⟨pa, hpa⟩ : ∃ x, p.args = x := ⟨_, rfl⟩
        obtain ⟨pf, hpf⟩ : ∃ x, p.free = x := ⟨_, rfl⟩
        obtain ⟨pr, hpr⟩ : ∃ x, p.rest = x := ⟨_, rfl⟩
        obtain ⟨cl, hcl⟩ : ∃ x, p.code.length = x := ⟨_, rfl⟩
        obtain ⟨dl, hdl⟩ : ∃ x, p.consts.length = x := ⟨_, rfl⟩
        obtain ⟨nl, hnl⟩ : ∃ x, p.names.length = x := ⟨_, rfl⟩
        rw [hnm, hpa, hpf, hpr, hcl, hdl, hnl] at hds
        subst hds
        have hcw := hcell wr h4.right
        have i0' := hcw 0 _ rfl
        have i1 := hcw 1 _ rfl
        have i2 := hcw 2 _ rfl
        have i3 := hcw 3 _ rfl
        have i4 := hcw 4 _ rfl
        have i5 := hcw 5 _ rfl
        have i6 := hcw 6 _ rfl
        rw [Nat.add_zero] at i0'
        have ba := size_bd (hpa ▸ hrt.1)
        have bf := size_bd (hpf ▸ hrt.2.1)
        have hclb : cl ≤ 1048576 := by omega
        have hdlb : dl ≤ 1048576 := by omega
        have hnlb : nl ≤ 1048576 := by omega
        have hnmb : nm.size ≤ 1048576 := by rw [← hnm]; omega
        have h5 := h4.alloc (.cells #[.string nm, .int .i64 pa, .int .i64 pf, .bool pr, .slice ac cl cc, .slice ai dl ci, .slice an nl cn] 38)
        have hb5 := hb4.trans (Below.zero_alloc wr (.cells #[.string nm, .int .i64 pa, .int .i64 pf, .bool pr, .slice ac cl cc, .slice ai dl ci, .slice an nl cn] 38))
        obtain ⟨y0, hy0⟩ : ∃ y, zs ++ protosB (ps.take j) = y := ⟨_, rfl⟩
        have ly0 : y0.length ≤ 13 + 60 * prSizes (ps.take j) := by rw [← hy0, List.length_append]; have := H3.out.2.2.2; omega
        rw [hy0] at h5
        have HPR := Lib.hid (And.intro ex (And.intro hco (And.intro hdk (And.intro hna (And.intro hrt (And.intro hib (And.intro hy0 hpb)))))))
        have HNM := Lib.hid (And.intro hnm (And.intro hpa (And.intro hpf (And.intro hpr (And.intro hcl (And.intro hdl (And.intro hnl (And.intro hpz (And.intro hpsz htot)))))))))
        have e1 := textB_len nm (by omega)
        have e2 := numB_ten (n := pa.toNat) (by omega)
        have e3 := numB_ten (n := pf.toNat) (by omega)
        have e4 : (bitB pr).length = 1 := rfl
        have e5 := numB_nine cl hclb
        have e6 := numB_nine dl hdlb
        have e7 := numB_nine nl hnlb
        have ly1 : y0.length ≤ 62914573 := by omega
        have HLN := Lib.hid (And.intro e1 (And.intro e2 (And.intro e3 (And.intro e4 (And.intro e5 (And.intro e6 (And.intro e7 (And.intro ly1 (And.intro hnmb ly0)))))))))
        have H5 := Lib.hid (And.intro h5 hb5)
        cases hao
        clear hcw hcell ex hnm hpa hpf hpr hcl hdl hnl hco hdk hna hcc hci hcn hib h4 h5 hb4 hb5 hll hlt hdl1 hnl1 hrt hpz hpsz htot hy0 ly0 ly1 e1 e2 e3 e4 e5 e6 e7 hpb hnmb
        go_upto_region 8 with (fail)
        generalize wr.alloc (.cells #[.string nm, .int .i64 pa, .int .i64 pf, .bool pr, .slice ac cl cc, .slice ai dl ci, .slice an nl cn] 38) = w5 at *
        generalize wr.heap.size = gx at *
        obtain ⟨G, hG⟩ : ∃ G : HP, G = Go.Proofs.Ytkjfplldfjmbaaa.blk gx (.cells #[.string nm, .int .i64 pa, .int .i64 pf, .bool pr, .slice ac cl cc, .slice ai dl ci, .slice an nl cn] 38 (0, 0)) * R := ⟨_, rfl⟩
        have hGR : ∀ w, sat w G → sat w R := fun w h => by rw [hG] at h; exact h.right
        have hGc : ∀ w', sat w' G → w'.cell? ⟨gx, 0, none⟩ = some (.string nm) ∧ w'.cell? ⟨gx, 1, none⟩ = some (.int .i64 pa) ∧ w'.cell? ⟨gx, 2, none⟩ = some (.int .i64 pf) ∧ w'.cell? ⟨gx, 3, none⟩ = some (.bool pr) ∧ w'.cell? ⟨gx, 4, none⟩ = some (.slice ac cl cc) ∧ w'.cell? ⟨gx, 5, none⟩ = some (.slice ai dl ci) ∧ w'.cell? ⟨gx, 6, none⟩ = some (.slice an nl cn) := fun w' h => by
          rw [hG] at h
          exact ⟨(h.left.cell 0).trans rfl, (h.left.cell 1).trans rfl, (h.left.cell 2).trans rfl, (h.left.cell 3).trans rfl, (h.left.cell 4).trans rfl, (h.left.cell 5).trans rfl, (h.left.cell 6).trans rfl⟩
        have hs5 := H5.out.1.perm (show _ = own _ _ _ _ _ * (Go.Proofs.Ytkjfplldfjmbaaa.blk gx (.cells #[.string nm, .int .i64 pa, .int .i64 pf, .bool pr, .slice ac cl cc, .slice ai dl ci, .slice an nl cn] 38 (0, 0)) * R) by ac_rfl)
        rw [← hG] at hs5
        have HGG := Lib.hid (And.intro hG (And.intro hGR hGc))
        have Hy0 := Lib.hid (And.intro hs5 (And.intro H5.out.2 (show y0.length ≤ 62914573 from HLN.out.2.2.2.2.2.2.2.1)))
        clear hG hGR hGc i0' i1 i2 i3 i4 i5 i6
        obtain ⟨c0, c1, c2, c3, c4, c5, c6⟩ := HGG.out.2.2 _ hs5.right
        clear hs5
        have hS := refp_some Hy0.out.1 nm (by have := HLN.out; omega)
        have hln := textB_len nm (by have := HLN.out; omega)
        have HLL := Lib.hid hln
        clear hln
        go_wp2_with fail
        refine hS.mono ?_
        clear hS
        rintro e w21 ⟨v21, rfl, h21, hb21⟩
        have HT := Lib.hid (And.intro h21 hb21)
        clear h21 hb21
        go_wp2_with (at_builtin; refine halt ?_)
        refine goon ?_
        obtain ⟨hi, hz0, hz1, hz2⟩ := H1I.out
        refine wpList_append_bytes rfl (.tmp 28) (.tmp 31) rfl i0 hi hz0 hz1 hz2 _ v21 y0 (textB nm) rfl G rfl ?_ HT.out.1 (textB_pos nm) (by have := Hy0.out.2.2; have := HLL.out; have := HLN.out; omega)
        clear hi hz0 hz1 hz2
        intro v22 w22 hs22 hb22
        obtain ⟨y1, hres⟩ : ∃ y, y0 ++ textB nm = y := ⟨_, rfl⟩
        rw [hres] at hs22
        clear c0 c1 c2 c3 c4 c5 c6
        obtain ⟨c0, c1, c2, c3, c4, c5, c6⟩ := HGG.out.2.2 _ hs22.right
        have Hy1 := Lib.hid (And.intro hs22 (And.intro ((Hy0.out.2.1.trans HT.out.2).trans hb22) (show y1.length ≤ 64000000 by rw [← hres, List.length_append]; have := Hy0.out.2.2; have := HLL.out; have := HLN.out; omega)))
        have Ey1 := Lib.hid hres
        clear hs22 hb22 hres HLL HT
        have hS := refp_lit Hy1.out.1 pa ba.1 (by omega)
        have hln := numB_ten (n := pa.toNat) (by omega)
        have HLL := Lib.hid hln
        clear hln
        go_wp2_with fail
        refine hS.mono ?_
        clear hS
        rintro e w23 ⟨v23, rfl, h23, hb23⟩
        have HT := Lib.hid (And.intro h23 hb23)
        clear h23 hb23
        go_wp2_with (at_builtin; refine halt ?_)
        refine goon ?_
        obtain ⟨hi, hz0, hz1, hz2⟩ := H1I.out
        refine wpList_append_bytes rfl (.tmp 33) (.tmp 36) rfl i0 hi hz0 hz1 hz2 _ v23 y1 (numB pa.toNat) rfl G rfl ?_ HT.out.1 (numB_pos _) (by have := Hy1.out.2.2; have := HLL.out; omega)
        clear hi hz0 hz1 hz2
        intro v24 w24 hs24 hb24
        obtain ⟨y2, hres⟩ : ∃ y, y1 ++ numB pa.toNat = y := ⟨_, rfl⟩
        rw [hres] at hs24
        clear c0 c1 c2 c3 c4 c5 c6
        obtain ⟨c0, c1, c2, c3, c4, c5, c6⟩ := HGG.out.2.2 _ hs24.right
        have Hy2 := Lib.hid (And.intro hs24 (And.intro ((Hy1.out.2.1.trans HT.out.2).trans hb24) (show y2.length ≤ 64000010 by rw [← hres, List.length_append]; have := Hy1.out.2.2; have := HLL.out; omega)))
        have Ey2 := Lib.hid hres
        clear hs24 hb24 hres HLL HT
        obtain ⟨d, hdd⟩ : ∃ d : Int, (if pr = true then 1 else 0 : Int) = d := ⟨_, rfl⟩
        have hB : ∀ w', Calls Try.prog 28 #[.bool pr] w' (Says (.int .u8 d) w') := fun w' => by rw [← hdd]; exact refp_bit w' pr
        have HD := Lib.hid hdd
        clear hdd
        go_wp2_with fail
        refine (hB _).mono ?_
        clear hB
        rintro e w25' ⟨rfl, m3, rfl⟩
        have h25 := Hy2.out.1.drewN m3
        have hb25 := Hy2.out.2.1.trans (drewN_below0 w24 m3)
        generalize w24.drewN m3 = w25 at *
        have h26 := row_lit h25 d
        have HT := Lib.hid (And.intro h26 (hb25.trans (Below.zero_alloc w25 (.cells #[bv d] 5))))
        clear h25 h26 hb25
        go_wp2_with (at_builtin; refine halt ?_)
        refine goon ?_
        obtain ⟨hi, hz0, hz1, hz2⟩ := H1I.out
        refine wpList_append_bytes rfl (.tmp 38) (.tmp 42) rfl i0 hi hz0 hz1 hz2 _ (.slice (some ⟨w25.heap.size, 0, none⟩) 1 1) y2 ([d]) rfl G rfl ?_ HT.out.1 (by simp) (by have := Hy2.out.2.2; simp only [List.length_cons, List.length_nil]; omega)
        clear hi hz0 hz1 hz2
        intro v27 w27 hs27 hb27
        obtain ⟨y3, hres⟩ : ∃ y, y2 ++ [d] = y := ⟨_, rfl⟩
        rw [hres] at hs27
        clear c0 c1 c2 c3 c4 c5 c6
        obtain ⟨c0, c1, c2, c3, c4, c5, c6⟩ := HGG.out.2.2 _ hs27.right
        have Hy3 := Lib.hid (And.intro hs27 (And.intro (HT.out.2.trans hb27) (show y3.length ≤ 64000011 by rw [← hres, List.length_append]; have := Hy2.out.2.2; simp only [List.length_cons, List.length_nil]; omega)))
        have Ey3 := Lib.hid hres
        clear hs27 hb27 hres HT
        have hS := refp_lit Hy3.out.1 pf bf.1 (by omega)
        have hln := numB_ten (n := pf.toNat) (by omega)
        have HLL := Lib.hid hln
        clear hln
        go_wp2_with fail
        refine hS.mono ?_
        clear hS
        rintro e w28 ⟨v28, rfl, h28, hb28⟩
        have HT := Lib.hid (And.intro h28 hb28)
        clear h28 hb28
        go_wp2_with (at_builtin; refine halt ?_)
        refine goon ?_
        obtain ⟨hi, hz0, hz1, hz2⟩ := H1I.out
        refine wpList_append_bytes rfl (.tmp 44) (.tmp 47) rfl i0 hi hz0 hz1 hz2 _ v28 y3 (numB pf.toNat) rfl G rfl ?_ HT.out.1 (numB_pos _) (by have := Hy3.out.2.2; have := HLL.out; omega)
        clear hi hz0 hz1 hz2
        intro v29 w29 hs29 hb29
        obtain ⟨y4, hres⟩ : ∃ y, y3 ++ numB pf.toNat = y := ⟨_, rfl⟩
        rw [hres] at hs29
        clear c0 c1 c2 c3 c4 c5 c6
        obtain ⟨c0, c1, c2, c3, c4, c5, c6⟩ := HGG.out.2.2 _ hs29.right
        have Hy4 := Lib.hid (And.intro hs29 (And.intro ((Hy3.out.2.1.trans HT.out.2).trans hb29) (show y4.length ≤ 64000020 by rw [← hres, List.length_append]; have := Hy3.out.2.2; have := HLL.out; omega)))
        have Ey4 := Lib.hid hres
        clear hs29 hb29 hres HLL HT
        have hS := refp_len Hy4.out.1 cl hclb
        have hln := numB_nine cl hclb
        have HLL := Lib.hid hln
        clear hln
        go_wp2_with fail
        refine hS.mono ?_
        clear hS
        rintro e w30 ⟨v30, rfl, h30, hb30⟩
        have HT := Lib.hid (And.intro h30 hb30)
        clear h30 hb30
        go_wp2_with (at_builtin; refine halt ?_)
        refine goon ?_
        obtain ⟨hi, hz0, hz1, hz2⟩ := H1I.out
        refine wpList_append_bytes rfl (.tmp 49) (.tmp 53) rfl i0 hi hz0 hz1 hz2 _ v30 y4 (numB cl) rfl G rfl ?_ HT.out.1 (numB_pos _) (by have := Hy4.out.2.2; have := HLL.out; omega)
        clear hi hz0 hz1 hz2
        intro v31 w31 hs31 hb31
        obtain ⟨y5, hres⟩ : ∃ y, y4 ++ numB cl = y := ⟨_, rfl⟩
        rw [hres] at hs31
        clear c0 c1 c2 c3 c4 c5 c6
        obtain ⟨c0, c1, c2, c3, c4, c5, c6⟩ := HGG.out.2.2 _ hs31.right
        have Hy5 := Lib.hid (And.intro hs31 (And.intro ((Hy4.out.2.1.trans HT.out.2).trans hb31) (show y5.length ≤ 64000030 by rw [← hres, List.length_append]; have := Hy4.out.2.2; have := HLL.out; omega)))
        have Ey5 := Lib.hid hres
        clear hs31 hb31 hres HLL HT
        clear c0 c1 c2 c3 c5 c6
        go_wp2_with fail
        go_loopw [4, 7] (WcRel w G p.code y5) (fun _ i _ => cl - (intOf i).toNat)
        case atStart => exact ⟨0, Nat.zero_le _, rfl, by rw [List.take_zero]; unfold codeB; rw [List.flatMap_nil, List.append_nil]; exact Hy5.out.1, Hy5.out.2.1⟩
        case round =>
          clear c4
          obtain ⟨k, hk, rfl, h9, hb9⟩ := hrel
          have hcl := HNM.out.2.2.2.2.1
          have lck : (p.code.take k).length ≤ p.code.length := by rw [List.length_take]; omega
          have lcd := codeB_len (all_take k HPR.out.2.2.2.2.1.2.2.1)
          have c4 := (HGG.out.2.2 _ h9.right).2.2.2.2.1
          by_cases hkl : k < p.code.length
          · have hkl2 : k < cl := by omega
            have bk : decide ((k : Int) < (cl : Int)) = true := by rw [decide_eq_true_eq]; omega
            obtain ⟨t, et⟩ : ∃ t, p.code[k]? = some t := ⟨_, List.getElem?_eq_getElem hkl⟩
            obtain ⟨⟨b3, o3, hac, hcell⟩, _⟩ := HPR.out.2.1 k t et
            obtain ⟨ti, ta, tb⟩ := t
            dsimp only at hcell
            obtain ⟨x0, x1, x2⟩ := hcell wr (HGG.out.2.1 wr h9.right)
            obtain ⟨q1, q2, q3⟩ := rightI_bd (List.all_eq_true.1 HPR.out.2.2.2.2.1.2.2.1 _ (List.mem_of_getElem? et))
            obtain ⟨z0, hz0⟩ : ∃ z, y5 ++ codeB (p.code.take k) = z := ⟨_, rfl⟩
            have lz0 : z0.length ≤ 100000000 := by rw [← hz0, List.length_append]; have := Hy5.out.2.2; omega
            rw [hz0] at h9
            have Hz0 := Lib.hid (And.intro h9 (And.intro hb9 lz0))
            have HK := Lib.hid (And.intro et hz0)
            have HQ := Lib.hid (And.intro q1 (And.intro q2 q3))
            have HCL := Lib.hid hcell
            cases hac
            clear hcell h9 hb9 et hz0 lz0 hkl lck lcd hcl q1 q2 q3
            have hS := refp_lit Hz0.out.1 ti HQ.out.1.1 (by have := HQ.out.1; omega)
            have hln := numB_ten (n := ti.toNat) (by have := HQ.out.1; omega)
            have HLL := Lib.hid hln
            clear hln
            go_wp2_with fail
            refine hS.mono ?_
            clear hS
            rintro e w40 ⟨v40, rfl, h40, hb40⟩
            have HT := Lib.hid (And.intro h40 hb40)
            clear h40 hb40
            go_wp2_with (at_builtin; refine halt ?_)
            refine goon ?_
            obtain ⟨hi, hz0, hz1, hz2⟩ := H1I.out
            refine wpList_append_bytes rfl (.tmp 62) (.tmp 69) rfl i0 hi hz0 hz1 hz2 _ v40 z0 (numB ti.toNat) rfl G rfl ?_ HT.out.1 (numB_pos _) (by have := Hz0.out.2.2; have := HLL.out; omega)
            clear hi hz0 hz1 hz2
            intro v41 w41 hs41 hb41
            obtain ⟨z1, hres⟩ : ∃ y, z0 ++ numB ti.toNat = y := ⟨_, rfl⟩
            rw [hres] at hs41
            clear c4 x0 x1 x2
            obtain ⟨x0, x1, x2⟩ := HCL.out _ (HGG.out.2.1 _ hs41.right)
            have c4 := (HGG.out.2.2 _ hs41.right).2.2.2.2.1
            have Hz1 := Lib.hid (And.intro hs41 (And.intro ((Hz0.out.2.1.trans HT.out.2).trans hb41) (show z1.length ≤ 100000010 by rw [← hres, List.length_append]; have := Hz0.out.2.2; have := HLL.out; omega)))
            have Ez1 := Lib.hid hres
            clear hs41 hb41 hres HLL HT
            have hS := refp_signed Hz1.out.1 ta HQ.out.2.1
            have hln := zigB_len HQ.out.2.1
            have HLL := Lib.hid hln
            clear hln
            go_wp2_with fail
            refine hS.mono ?_
            clear hS
            rintro e w42 ⟨v42, rfl, h42, hb42⟩
            have HT := Lib.hid (And.intro h42 hb42)
            clear h42 hb42
            go_wp2_with (at_builtin; refine halt ?_)
            refine goon ?_
            obtain ⟨hi, hz0, hz1, hz2⟩ := H1I.out
            refine wpList_append_bytes rfl (.tmp 71) (.tmp 78) rfl i0 hi hz0 hz1 hz2 _ v42 z1 (zigB ta) rfl G rfl ?_ HT.out.1 (zigB_pos ta) (by have := Hz1.out.2.2; have := HLL.out; omega)
            clear hi hz0 hz1 hz2
            intro v43 w43 hs43 hb43
            obtain ⟨z2, hres⟩ : ∃ y, z1 ++ zigB ta = y := ⟨_, rfl⟩
            rw [hres] at hs43
            clear c4 x0 x1 x2
            obtain ⟨x0, x1, x2⟩ := HCL.out _ (HGG.out.2.1 _ hs43.right)
            have c4 := (HGG.out.2.2 _ hs43.right).2.2.2.2.1
            have Hz2 := Lib.hid (And.intro hs43 (And.intro ((Hz1.out.2.1.trans HT.out.2).trans hb43) (show z2.length ≤ 100000020 by rw [← hres, List.length_append]; have := Hz1.out.2.2; have := HLL.out; omega)))
            have Ez2 := Lib.hid hres
            clear hs43 hb43 hres HLL HT
            have hS := refp_signed Hz2.out.1 tb HQ.out.2.2
            have hln := zigB_len HQ.out.2.2
            have HLL := Lib.hid hln
            clear hln
            go_wp2_with fail
            refine hS.mono ?_
            clear hS
            rintro e w44 ⟨v44, rfl, h44, hb44⟩
            have HT := Lib.hid (And.intro h44 hb44)
            clear h44 hb44
            go_wp2_with (at_builtin; refine halt ?_)
            refine goon ?_
            obtain ⟨hi, hz0, hz1, hz2⟩ := H1I.out
            refine wpList_append_bytes rfl (.tmp 80) (.tmp 87) rfl i0 hi hz0 hz1 hz2 _ v44 z2 (zigB tb) rfl G rfl ?_ HT.out.1 (zigB_pos tb) (by have := Hz2.out.2.2; have := HLL.out; omega)
            clear hi hz0 hz1 hz2
            intro v45 w45 hs45 hb45
            obtain ⟨z3, hres⟩ : ∃ y, z2 ++ zigB tb = y := ⟨_, rfl⟩
            rw [hres] at hs45
            clear c4 x0 x1 x2
            have Hz3 := Lib.hid (And.intro hs45 (And.intro ((Hz2.out.2.1.trans HT.out.2).trans hb45) (show z3.length ≤ 100000030 by rw [← hres, List.length_append]; have := Hz2.out.2.2; have := HLL.out; omega)))
            have Ez3 := Lib.hid hres
            clear hs45 hb45 hres HLL HT
            go_wp2_with fail
            go_roundw
            case rel =>
              refine ⟨k + 1, by have := HNM.out.2.2.2.2.1; omega, by go_num, ?_, Hz3.out.2.1⟩
              have e9 : y5 ++ codeB (p.code.take (k + 1)) = z3 := by
                rw [codeB_next HK.out.1, ← Ez3.out, ← Ez2.out, ← Ez1.out, ← HK.out.2]
                simp only [List.append_assoc]
              rw [e9]
              exact Hz3.out.1
            case measure => simp [intOf]; omega
          · obtain rfl : k = p.code.length := by omega
            have hge : decide ((p.code.length : Int) < (cl : Int)) = false := by rw [decide_eq_false_iff_not]; omega
            rw [List.take_of_length_le (Nat.le_refl _)] at h9 lcd
            have hSZ : Dm.sizes p.consts ≤ 1048576 ∧ namesZ p.names ≤ 1048576 := by
              obtain ⟨_, _, _, _, _, _, _, a8, a9, a10⟩ := HNM.out
              omega
            have HSZ := Lib.hid hSZ
            obtain ⟨y6, hy6⟩ : ∃ y, y5 ++ codeB p.code = y := ⟨_, rfl⟩
            rw [hy6] at h9
            have c5 := (HGG.out.2.2 wr h9.right).2.2.2.2.2.1
            have ly6 : y6.length ≤ 100000000 := by rw [← hy6, List.length_append]; have := Hy5.out.2.2; omega
            have Hy6 := Lib.hid (And.intro h9 (And.intro hb9 ly6))
            have Ey6 := Lib.hid hy6
            rw [hcl]
            rw [hcl] at hge
            clear h9 hb9 hy6 ly6 lck lcd hcl hk hkl hSZ
            have hS := refp_len Hy6.out.1 dl hdlb
            have hln := numB_nine dl hdlb
            have HLL := Lib.hid hln
            clear hln
            go_wp2_with fail
            refine hS.mono ?_
            clear hS
            rintro e w46 ⟨v46, rfl, h46, hb46⟩
            have HT := Lib.hid (And.intro h46 hb46)
            clear h46 hb46
            go_wp2_with (at_builtin; refine halt ?_)
            refine goon ?_
            obtain ⟨hi, hz0, hz1, hz2⟩ := H1I.out
            refine wpList_append_bytes rfl (.tmp 89) (.tmp 93) rfl i0 hi hz0 hz1 hz2 _ v46 y6 (numB dl) rfl G rfl ?_ HT.out.1 (numB_pos _) (by have := Hy6.out.2.2; have := HLL.out; omega)
            clear hi hz0 hz1 hz2
            intro v47 w47 hs47 hb47
            obtain ⟨y7, hres⟩ : ∃ y, y6 ++ numB dl = y := ⟨_, rfl⟩
            rw [hres] at hs47
            clear c5
            have c5 := (HGG.out.2.2 _ hs47.right).2.2.2.2.2.1
            have Hy7 := Lib.hid (And.intro hs47 (And.intro ((Hy6.out.2.1.trans HT.out.2).trans hb47) (show y7.length ≤ 100000010 by rw [← hres, List.length_append]; have := Hy6.out.2.2; have := HLL.out; omega)))
            have Ey7 := Lib.hid hres
            clear hs47 hb47 hres HLL HT
            clear c4
            go_wp2_with fail
            go_loopw [4, 8] (WdRel w G p.consts y7) (fun _ i _ => dl - (intOf i).toNat)
            case atStart => exact ⟨0, Nat.zero_le _, rfl, by rw [List.take_zero]; simp only [constBs, List.append_nil]; exact Hy7.out.1, Hy7.out.2.1⟩
            case round =>
              clear c5
              obtain ⟨k, hk, rfl, h9, hb9⟩ := hrel
              have hdl := HNM.out.2.2.2.2.2.1
              have c5 := (HGG.out.2.2 _ h9.right).2.2.2.2.2.1
              by_cases hkl : k < p.consts.length
              · have hkl2 : k < dl := by omega
                have bk : decide ((k : Int) < (dl : Int)) = true := by rw [decide_eq_true_eq]; omega
                obtain ⟨e0, et⟩ : ∃ d, p.consts[k]? = some d := ⟨_, List.getElem?_eq_getElem hkl⟩
                obtain ⟨b4, o4, ds, hai, hcell, hdd⟩ := HPR.out.2.2.1.get k e0 et
                have hcw := hcell wr (HGG.out.2.1 wr h9.right)
                rw [Nat.zero_add] at hcw
                have hdz : e0.size ≤ 1048576 := by have := Dm.size_le et; have := HSZ.out; omega
                have hrd := HPR.out.2.2.2.2.1.2.2.2.mem e0 (List.mem_of_getElem? et)
                have hbd := constBs_bd k et HPR.out.2.2.1 HPR.out.2.2.2.2.1.2.2.2 HSZ.out.1
                have hcl := constB_len e0 hdd hrd hdz
                obtain ⟨z0, hz0⟩ : ∃ z, y7 ++ constBs (p.consts.take k) = z := ⟨_, rfl⟩
                have lz0 : z0.length ≤ 150000000 := by rw [← hz0, List.length_append]; have := Hy7.out.2.2; have := HSZ.out; omega
                rw [hz0] at h9
                have Hz0 := Lib.hid (And.intro h9 (And.intro hb9 lz0))
                have hC := ref_datum10 hdz hrd wr _ ds h9 (hdd.mono (fun w h => HGG.out.2.1 w h.right) _)
                obtain ⟨k1, n1, ng1, am1, ml1, cm1, tx1, ai1, il1, ci1, ar1, rl1, cr1, rfl⟩ := hdd.cells
                have i0' := hcw 0 _ rfl
                have i1 := hcw 1 _ rfl
                have i2 := hcw 2 _ rfl
                have i3 := hcw 3 _ rfl
                have i4 := hcw 4 _ rfl
                have i5 := hcw 5 _ rfl
                have i6 := hcw 6 _ rfl
                rw [Nat.add_zero] at i0'
                have HK := Lib.hid (And.intro et (And.intro hz0 (And.intro (show (constB e0).length ≤ 41943040 by omega) hC)))
                cases hai
                clear hcw hcell hdd h9 hb9 et hkl hdl hdz hrd hbd hC hz0 lz0 hcl
                have hS := HK.out.2.2.2
                have hln := HK.out.2.2.1
                have HLL := Lib.hid hln
                clear hln
                go_wp2_with fail
                refine hS.mono ?_
                clear hS
                rintro e w52 ⟨v52, rfl, h52, hb52⟩
                have HT := Lib.hid (And.intro h52 hb52)
                clear h52 hb52
                go_wp2_with (at_builtin; refine halt ?_)
                refine goon ?_
                obtain ⟨hi, hz0, hz1, hz2⟩ := H1I.out
                refine wpList_append_bytes rfl (.tmp 102) (.tmp 108) rfl i0 hi hz0 hz1 hz2 _ v52 z0 (constB e0) rfl G rfl ?_ HT.out.1 (constB_pos e0) (by have := Hz0.out.2.2; have := HLL.out; omega)
                clear hi hz0 hz1 hz2
                intro v53 w53 hs53 hb53
                obtain ⟨z1, hres⟩ : ∃ y, z0 ++ constB e0 = y := ⟨_, rfl⟩
                rw [hres] at hs53
                clear c5 i0' i1 i2 i3 i4 i5 i6
                have Hz1 := Lib.hid (And.intro hs53 (And.intro ((Hz0.out.2.1.trans HT.out.2).trans hb53) (show z1.length ≤ 250000000 by rw [← hres, List.length_append]; have := Hz0.out.2.2; have := HLL.out; omega)))
                have Ez1 := Lib.hid hres
                clear hs53 hb53 hres HLL HT
                go_wp2_with fail
                go_roundw
                case rel =>
                  refine ⟨k + 1, by have := HNM.out.2.2.2.2.2.1; omega, by go_num, ?_, Hz1.out.2.1⟩
                  rw [constBs_take HK.out.1, ← List.append_assoc, HK.out.2.1, Ez1.out]
                  exact Hz1.out.1
                case measure => simp [intOf]; omega
              · obtain rfl : k = p.consts.length := by omega
                have hge : decide ((p.consts.length : Int) < (dl : Int)) = false := by rw [decide_eq_false_iff_not]; omega
                rw [List.take_of_length_le (Nat.le_refl _)] at h9
                have lcd := constBs_len p.consts HPR.out.2.2.1 HPR.out.2.2.2.2.1.2.2.2 HSZ.out.1
                obtain ⟨y8, hy8⟩ : ∃ y, y7 ++ constBs p.consts = y := ⟨_, rfl⟩
                rw [hy8] at h9
                have c6 := (HGG.out.2.2 _ h9.right).2.2.2.2.2.2
                have ly8 : y8.length ≤ 190000000 := by rw [← hy8, List.length_append]; have := Hy7.out.2.2; have := HSZ.out; omega
                have Hy8 := Lib.hid (And.intro h9 (And.intro hb9 ly8))
                have Ey8 := Lib.hid hy8
                rw [hdl]
                rw [hdl] at hge
                clear h9 hb9 hy8 ly8 lcd hk hkl hdl
                have hS := refp_len Hy8.out.1 nl hnlb
                have hln := numB_nine nl hnlb
                have HLL := Lib.hid hln
                clear hln
                go_wp2_with fail
                refine hS.mono ?_
                clear hS
                rintro e w56 ⟨v56, rfl, h56, hb56⟩
                have HT := Lib.hid (And.intro h56 hb56)
                clear h56 hb56
                go_wp2_with (at_builtin; refine halt ?_)
                refine goon ?_
                obtain ⟨hi, hz0, hz1, hz2⟩ := H1I.out
                refine wpList_append_bytes rfl (.tmp 110) (.tmp 114) rfl i0 hi hz0 hz1 hz2 _ v56 y8 (numB nl) rfl G rfl ?_ HT.out.1 (numB_pos _) (by have := Hy8.out.2.2; have := HLL.out; omega)
                clear hi hz0 hz1 hz2
                intro v57 w57 hs57 hb57
                obtain ⟨y9, hres⟩ : ∃ y, y8 ++ numB nl = y := ⟨_, rfl⟩
                rw [hres] at hs57
                clear c6
                have c6 := (HGG.out.2.2 _ hs57.right).2.2.2.2.2.2
                have Hy9 := Lib.hid (And.intro hs57 (And.intro ((Hy8.out.2.1.trans HT.out.2).trans hb57) (show y9.length ≤ 190000010 by rw [← hres, List.length_append]; have := Hy8.out.2.2; have := HLL.out; omega)))
                have Ey9 := Lib.hid hres
                clear hs57 hb57 hres HLL HT
                clear c5
                go_wp2_with fail
                go_loopw [4, 9] (WnRel w G p.names y9) (fun _ i _ => nl - (intOf i).toNat)
                case atStart => exact ⟨0, Nat.zero_le _, rfl, by rw [List.take_zero]; unfold namesB; rw [List.flatMap_nil, List.append_nil]; exact Hy9.out.1, Hy9.out.2.1⟩
                case round =>
                  clear c6
                  obtain ⟨k, hk, rfl, h9, hb9⟩ := hrel
                  have hnl := HNM.out.2.2.2.2.2.2.1
                  have lcd := namesB_len (Nat.le_trans (namesZ_take p.names k) HSZ.out.2)
                  have lce := namesZ_take p.names k
                  have c6 := (HGG.out.2.2 _ h9.right).2.2.2.2.2.2
                  by_cases hkl : k < p.names.length
                  · have hkl2 : k < nl := by omega
                    have bk : decide ((k : Int) < (nl : Int)) = true := by rw [decide_eq_true_eq]; omega
                    obtain ⟨t, et⟩ : ∃ t, p.names[k]? = some t := ⟨_, List.getElem?_eq_getElem hkl⟩
                    obtain ⟨b5, o5, han, hcell⟩ := HPR.out.2.2.2.1 k t et
                    have x0 := hcell wr (HGG.out.2.1 wr h9.right)
                    have ltz := namesZ_mem (List.mem_of_getElem? et)
                    have ltt : t.size ≤ 1048576 := by have := HSZ.out; omega
                    obtain ⟨z0, hz0⟩ : ∃ z, y9 ++ namesB (p.names.take k) = z := ⟨_, rfl⟩
                    have lz0 : z0.length ≤ 300000000 := by rw [← hz0, List.length_append]; have := Hy9.out.2.2; have := HSZ.out; omega
                    rw [hz0] at h9
                    have Hz0 := Lib.hid (And.intro h9 (And.intro hb9 lz0))
                    have HK := Lib.hid (And.intro et (And.intro hz0 ltt))
                    cases han
                    clear hcell h9 hb9 et hkl lcd lce ltz hnl hz0 lz0 ltt
                    have hS := refp_some Hz0.out.1 t (by have := HK.out.2.2; omega)
                    have hln := textB_len t (by have := HK.out.2.2; omega)
                    have HLL := Lib.hid hln
                    clear hln
                    go_wp2_with fail
                    refine hS.mono ?_
                    clear hS
                    rintro e w54 ⟨v54, rfl, h54, hb54⟩
                    have HT := Lib.hid (And.intro h54 hb54)
                    clear h54 hb54
                    go_wp2_with (at_builtin; refine halt ?_)
                    refine goon ?_
                    obtain ⟨hi, hz0, hz1, hz2⟩ := H1I.out
                    refine wpList_append_bytes rfl (.tmp 123) (.tmp 129) rfl i0 hi hz0 hz1 hz2 _ v54 z0 (textB t) rfl G rfl ?_ HT.out.1 (textB_pos t) (by have := Hz0.out.2.2; have := HLL.out; have := HK.out.2.2; omega)
                    clear hi hz0 hz1 hz2
                    intro v55 w55 hs55 hb55
                    obtain ⟨z1, hres⟩ : ∃ y, z0 ++ textB t = y := ⟨_, rfl⟩
                    rw [hres] at hs55
                    clear c6 x0
                    have Hz1 := Lib.hid (And.intro hs55 (And.intro ((Hz0.out.2.1.trans HT.out.2).trans hb55) (show z1.length ≤ 310000000 by rw [← hres, List.length_append]; have := Hz0.out.2.2; have := HLL.out; have := HK.out.2.2; omega)))
                    have Ez1 := Lib.hid hres
                    clear hs55 hb55 hres HLL HT
                    go_wp2_with fail
                    go_roundw
                    case rel =>
                      refine ⟨k + 1, by have := HNM.out.2.2.2.2.2.2.1; omega, by go_num, ?_, Hz1.out.2.1⟩
                      rw [namesB_next HK.out.1, ← List.append_assoc, HK.out.2.1, Ez1.out]
                      exact Hz1.out.1
                    case measure => simp [intOf]; omega
                  · obtain rfl : k = p.names.length := by omega
                    have hge : decide ((p.names.length : Int) < (nl : Int)) = false := by rw [decide_eq_false_iff_not]; omega
                    rw [List.take_of_length_le (Nat.le_refl _)] at h9 lcd
                    have h13 := h9
                    rw [HGG.out.1] at h13
                    have h14 := (h13.perm (show _ = Go.Proofs.Ytkjfplldfjmbaaa.blk gx _ * (own _ _ _ _ _ * R) by ac_rfl)).right
                    have eall : zs ++ protosB (ps.take (j + 1)) = y9 ++ namesB p.names := by
                      rw [protosB_next HPR.out.1]
                      unfold protoB bitB
                      obtain ⟨n1, n2, n3, n4, n5, n6, n7, _⟩ := HNM.out
                      rw [n1, n2, n3, n4, n5, n6, n7, HD.out, ← Ey9.out, ← Ey8.out, ← Ey7.out, ← Ey6.out, ← Ey5.out, ← Ey4.out, ← Ey3.out, ← Ey2.out, ← Ey1.out, ← HPR.out.2.2.2.2.2.2.1]
                      simp only [List.append_assoc]
                    have hbp := protosB_len (ps.take (j + 1)) (fun p' hp' => HO.out.2.1 p' (List.mem_of_mem_take hp')) (fun p' hp' => HDK.out p' (List.mem_of_mem_take hp')) (by have := prSizes_app (ps.take (j + 1)) (ps.drop (j + 1)); rw [List.take_append_drop] at this; have := H1.out.2.1; omega)
                    rw [← eall] at h14
                    have HEND := Lib.hid (And.intro h14 (And.intro hb9 hbp))
                    rw [hnl]
                    rw [hnl] at hge
                    clear h9 hb9 h13 h14 hbp eall hk hkl lcd lce hnl
                    go_wp2_with fail
                    go_roundw
                    case rel =>
                      refine ⟨j + 1, by have := H1.out.1; omega, by go_num, HEND.out.2.2, HEND.out.1, HEND.out.2.1⟩
                    case measure => simp [intOf]; omega
      · have hjj : j = pl := by omega
        subst hjj
        have hge : decide ((j : Int) < (j : Int)) = false := by simp
        have e : zs ++ protosB (ps.take j) = writeB ps := by
          rw [List.take_of_length_le (by omega)]
          unfold writeB
          rw [hll, ← H3.out.2.2.1]
        rw [e] at h4
        have HN := Lib.hid (WritePost.ok HO.out.1 h4 hb4)
        clear h4 hb4 hpb e hll hlt
        go_wp2_with fail
        go_ret2
        exact HN.out
end Go.Proofs.Ytkjfplldfjmbaaa
