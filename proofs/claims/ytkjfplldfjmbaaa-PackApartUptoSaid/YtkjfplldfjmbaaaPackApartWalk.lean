/- PackApart's walk. -/
import Derived.Test.YtkjfplldfjmbaaaApartPure
namespace Go.Proofs.Ytkjfplldfjmbaaa
open Go.RowKit
/-- A program in the call's own memory, one of whose protos is turned. -/
def TurnedAt (W : World) (G : HP) (ps : List Pr) (i : Nat) (p : Pr) (c v : Int) (b pl rc : Nat) (w9 : World) : Prop :=
  ∃ css' M', PrOs (ps.set i (turnP p c v)) css' M' ∧ sat w9 (own 38 7 (.slice (some ⟨b, 0, none⟩) pl rc) pl css'.flatten * (M' * G)) ∧ Below 0 W w9
theorem TurnedAt.tell {W : World} {G : HP} {ps : List Pr} {i : Nat} {p : Pr} {c v q : Int} {b pl rc : Nat} {w9 : World} (h : TurnedAt W G ps i p c v b pl rc w9) (ho : okPs ps 0 = some q) (hi : ps[i]? = some p) :
    ∃ qs css' M', okPs qs 0 = some q ∧ (decide (writeB ps = writeB qs) == samePs ps qs) = true ∧ qs.length = ps.length ∧ prSizes qs ≤ prSizes ps + 1 ∧ PrOs qs css' M' ∧ sat w9 (own 38 7 (.slice (some ⟨b, 0, none⟩) pl rc) pl css'.flatten * (M' * G)) ∧ Below 0 W w9 := by
  obtain ⟨css', M', h1, h2, h3⟩ := h
  obtain ⟨a1, a2⟩ := apart (v := v) (c := c) ho hi
  exact ⟨_, css', M', a1, a2, List.length_set, prSizes_set hi (turn_size p c v), h1, h2, h3⟩
theorem below_whole {W w' : World} (h : sat w' (whole W)) (hb : Below 0 W w') : Below W.heap.size W w' := ⟨hb.os, hb.tape, hb.output, hb.size, fun k hk => h.whole_get k hk⟩
theorem turn0 (p : Pr) (v : Int) : turnP p 0 v = { p with args := place v 300 } := rfl
theorem turn1 (p : Pr) (v : Int) : turnP p 1 v = { p with name := p.name ++ ⟨#[120]⟩ } := rfl
theorem turn2 (p : Pr) (v : Int) : turnP p 2 v = { p with rest := !p.rest } := rfl
theorem turn3 (p : Pr) (v : Int) : turnP p 3 v = { p with code := p.code ++ [(place v 300, v.tmod 1000, 0)] } := rfl
theorem turn4 (p : Pr) (v : Int) : turnP p 4 v = { p with names := p.names ++ [⟨#[]⟩] } := rfl
theorem turn5 (p : Pr) (v : Int) : turnP p 5 v = { p with free := p.free / 2 } := rfl
/-- One cell of one proto is set; all its other memory stands. -/
theorem turned_cell {W w3 : World} {G : HP} {ps : List Pr} {i : Nat} {p : Pr} {c v : Int} {b pl rc : Nat} {css : List (List Value)} {M N2 N1' : HP} {cs : List Value} (j : Nat) (u : Value) (hj : j < 7) (hpl : ps.length = pl) (hrc : pl ≤ rc) (hos : PrOs ps css M) (hic : css[i]? = some cs)
    (hput : ∀ p' cs' N, PrO N p' cs' → PrOs (ps.set i p') (css.set i cs') (N * N2))
    (h : sat w3 (row 38 7 b rc css.flatten * (N1' * (N2 * G)))) (hb : Below 0 W w3) (hp : PrO N1' (turnP p c v) (cs.set j u)) : TurnedAt W G ps i p c v b pl rc (w3.setCell ⟨b, i * 7 + j, none⟩ u) := by
  have h1 := h.row_set (i * 7 + j) u
  rw [flat7_set hos.seven u hic hj] at h1
  refine ⟨css.set i (cs.set j u), N1' * N2, hput _ _ _ hp, ?_, hb.setCell (p := ⟨b, i * 7 + j, none⟩) (Nat.zero_le _) _⟩
  refine (sat.shut_own ?_ hrc h1).perm (by ac_rfl)
  have := (hput _ _ _ hp).seven
  rw [flat7 this, List.length_set, hos.len, hpl]
theorem turned_cell0 {W w3 : World} {G : HP} {ps : List Pr} {i : Nat} {p : Pr} {c v : Int} {b pl rc : Nat} {css : List (List Value)} {M N2 N1' : HP} {cs : List Value} (u : Value) (hpl : ps.length = pl) (hrc : pl ≤ rc) (hos : PrOs ps css M) (hic : css[i]? = some cs)
    (hput : ∀ p' cs' N, PrO N p' cs' → PrOs (ps.set i p') (css.set i cs') (N * N2))
    (h : sat w3 (row 38 7 b rc css.flatten * (N1' * (N2 * G)))) (hb : Below 0 W w3) (hp : PrO N1' (turnP p c v) (cs.set 0 u)) : TurnedAt W G ps i p c v b pl rc (w3.setCell ⟨b, i * 7, none⟩ u) := by
  have := turned_cell 0 u (by omega) hpl hrc hos hic hput h hb hp
  rw [Nat.add_zero] at this
  exact this
set_option maxRecDepth 100000 in
set_option maxHeartbeats 8000000 in
theorem packApart_walk (W : World) (ps : List Pr) (ao : Option Addr) (c : Nat) (what at' v : Int) (hw : PrKs (whole W) ps ao ∧ prSizes ps + 1 ≤ 1048576 ∧ ps.length ≤ c) (_w1 : (Lit.int .i64 what).wf = true) (_w2 : (Lit.int .i64 at').wf = true) (w3 : (Lit.int .i64 v).wf = true) :
    Calls Try.prog 4 #[.slice ao ps.length c, .int .i64 what, .int .i64 at', .int .i64 v] W fun e W' => e = .returned (.bool true) ∧ Below W.heap.size W W' := by
  obtain ⟨hks, hsz, hlc⟩ := hw
  obtain ⟨hz0, hz1⟩ := szs_of (n := 1048575) (show prSizes ps ≤ 1048575 by omega)
  have hzz : ∀ p ∈ ps, p.code.length ≤ 1048576 ∧ Dm.sizes p.consts ≤ 1048576 ∧ p.names.length ≤ 1048576 := fun p hp => by have := hz1 p hp; omega
  have hbv : i64b v := by
    simp [Lit.wf] at w3
    have h0 : IntKind.i64.min = -9223372036854775808 := rfl
    have h1 : IntKind.i64.max = 9223372036854775807 := rfl
    unfold i64b
    omega
  clear _w1 _w2 w3
  obtain ⟨pl, hpl⟩ : ∃ n, ps.length = n := ⟨_, rfl⟩
  rw [hpl] at hlc hz0 ⊢
  have hC1 := copy_protos ps pl hpl (by omega) (by omega) hzz W (whole W) ao c (sat_whole W) hks
  have H0 := Lib.hid (And.intro hpl (And.intro hsz (And.intro hzz (And.intro hks (And.intro hbv hz1)))))
  clear hks hsz hzz hz1 hbv hpl
  go_enter Try.func4, Try.ntmps4
  go_wp2_with fail
  refine hC1.mono ?_
  clear hC1
  rintro e w1 ⟨ro1, rc1, css1, M1, rfl, hrc1, hos1, h1, hb1⟩
  rw [H0.out.1] at hrc1 h1 ⊢
  have hW1 := pack_Write ps pl H0.out.1 (by have := H0.out.2.1; omega) w1 _ ro1 rc1 h1 (hos1.ks h1)
  obtain ⟨F1, hF1⟩ : ∃ F : HP, F = own 38 7 (.slice ro1 pl rc1) pl css1.flatten * (M1 * whole W) := ⟨_, rfl⟩
  rw [← hF1] at hW1
  have hFW : ∀ w', sat w' F1 → sat w' (whole W) := fun w' h => by rw [hF1] at h; exact h.right.right
  have H1 := Lib.hid (And.intro hFW hb1)
  clear hrc1 hos1 h1 hb1 hFW hF1
  go_wp2_with fail
  refine hW1.mono ?_
  clear hW1
  rintro e w2 hW2
  cases ho : okPs ps 0 with
  | none =>
    obtain ⟨rfl, h2, hb2⟩ := hW2.refused ho
    have hA := awake10 w2 F1 h2
    have H2 := Lib.hid (H1.out.2.trans hb2)
    clear hW2 h2 hb2 ho
    go_wp2_with fail
    refine hA.mono ?_
    rintro e w3 ⟨rfl, h3, hb3⟩
    have H3 := Lib.hid (And.intro h3 (H2.out.trans hb3))
    clear h3 hb3 hA
    go_wp2_with fail
    go_ret
    exact ⟨rfl, below_whole (H1.out.1 _ H3.out.1) H3.out.2⟩
  | some q =>
    obtain ⟨va, rfl, h2, hb2⟩ := hW2.told ho
    obtain ⟨ra, ca, rfl, hca⟩ := slice_val h2
    clear hW2
    by_cases hp0 : pl = 0
    · have e0 : ((pl : Int) == 0) = true := by simp [hp0]
      have hA := awake10 w2 F1 h2.right
      have H2 := Lib.hid (H1.out.2.trans hb2)
      clear h2 hb2 ho
      subst hp0
      go_wp2_with fail
      refine hA.mono ?_
      rintro e w3 ⟨rfl, h3, hb3⟩
      have H3 := Lib.hid (And.intro h3 (H2.out.trans hb3))
      clear h3 hb3 hA
      go_wp2_with fail
      go_ret
      exact ⟨rfl, below_whole (H1.out.1 _ H3.out.1) H3.out.2⟩
    have e0 : ((pl : Int) == 0) = false := by simp; omega
    obtain ⟨G, hG⟩ : ∃ G : HP, G = own 5 1 (.slice ra (writeB ps).length ca) (writeB ps).length ((writeB ps).map bv) * F1 := ⟨_, rfl⟩
    have hGW : ∀ w', sat w' G → sat w' (whole W) := fun w' h => by rw [hG] at h; exact H1.out.1 _ h.right
    have hGa : ∀ w', sat w' G → CellsAt w' ra ((writeB ps).map bv) := fun w' h => by rw [hG] at h; exact own_cellsAt h rfl
    rw [← hG] at h2
    have hC2 := copy_protos ps pl H0.out.1 (by have := H0.out.2.1; omega) (by omega) H0.out.2.2.1 w2 G ao c h2 (H0.out.2.2.2.1.mono hGW)
    obtain ⟨la, hla⟩ : ∃ n, (writeB ps).length = n := ⟨_, rfl⟩
    rw [hla] at hca ⊢
    have H2 := Lib.hid (And.intro hGW (And.intro hGa (And.intro (H1.out.2.trans hb2) (And.intro ho (And.intro hla hG)))))
    clear hGW hGa hb2 ho hla hG h2
    go_wp2_with fail
    refine hC2.mono ?_
    clear hC2
    rintro e w3 ⟨ro2, rc2, css, M, rfl, hrc2, hos, h3, hb3⟩
    rw [H0.out.1] at hrc2 h3 ⊢
    obtain ⟨b, rc', hrw, _, _, h3r⟩ := h3.own_some (by omega)
    cases hrw
    have hat := place_bd at' (pl : Int) (by omega)
    obtain ⟨i, hi⟩ : ∃ i : Nat, place at' pl = i := ⟨(place at' pl).toNat, by omega⟩
    have hil : i < pl := by omega
    obtain ⟨p, ex⟩ : ∃ p, ps[i]? = some p := ⟨_, List.getElem?_eq_getElem (by have := H0.out.1; omega)⟩
    obtain ⟨cs, N1, N2, hic, hMM, hpo, hput⟩ := hos.at ex
    have hpo' := hpo
    obtain ⟨ac, cc, ai, ci, an, cn, D, hcs, hib, hco, hdk, hcc, hci, hcn, hN1⟩ := hpo'
    have h4 : sat w3 (row 38 7 b rc2 css.flatten * (N1 * (N2 * G))) := h3r.perm (by rw [hMM]; ac_rfl)
    obtain ⟨nm, hnm⟩ : ∃ x, p.name = x := ⟨_, rfl⟩
    obtain ⟨pa, hpa⟩ : ∃ x, p.args = x := ⟨_, rfl⟩
    obtain ⟨pf, hpf⟩ : ∃ x, p.free = x := ⟨_, rfl⟩
    obtain ⟨pr, hpr⟩ : ∃ x, p.rest = x := ⟨_, rfl⟩
    obtain ⟨cl, hcl⟩ : ∃ x, p.code.length = x := ⟨_, rfl⟩
    obtain ⟨dl, hdl⟩ : ∃ x, p.consts.length = x := ⟨_, rfl⟩
    obtain ⟨nl, hnl⟩ : ∃ x, p.names.length = x := ⟨_, rfl⟩
    have hcs2 := hcs
    rw [hnm, hpa, hpf, hpr, hcl, hdl, hnl] at hcs2
    subst hcs2
    have hcell : ∀ w' Q, sat w' (row 38 7 b rc2 css.flatten * Q) → (w'.cell? ⟨b, i * 7, none⟩ = some (.string nm) ∧ w'.cell? ⟨b, i * 7 + 1, none⟩ = some (.int .i64 pa) ∧ w'.cell? ⟨b, i * 7 + 2, none⟩ = some (.int .i64 pf) ∧ w'.cell? ⟨b, i * 7 + 3, none⟩ = some (.bool pr) ∧ w'.cell? ⟨b, i * 7 + 4, none⟩ = some (.slice ac cl cc) ∧ w'.cell? ⟨b, i * 7 + 6, none⟩ = some (.slice an nl cn)) ∧ (∀ j, w'.frozen? ⟨b, j, none⟩ = false) := fun w' Q h =>
      ⟨⟨h.row_cell (flat7_get hos.seven hic (j := 0) rfl), h.row_cell (flat7_get hos.seven hic (j := 1) rfl), h.row_cell (flat7_get hos.seven hic (j := 2) rfl), h.row_cell (flat7_get hos.seven hic (j := 3) rfl), h.row_cell (flat7_get hos.seven hic (j := 4) rfl), h.row_cell (flat7_get hos.seven hic (j := 6) rfl)⟩, fun j => h.row_frozen j⟩
    have hpm := H0.out.2.2.2.2.2 p (List.mem_of_getElem? ex)
    have hpr' := okPs_mem (by decide) H2.out.2.2.2.1 p (List.mem_of_getElem? ex)
    have H4 := Lib.hid (And.intro h4 (And.intro (H2.out.2.2.1.trans hb3) (And.intro hcell (And.intro ex (And.intro hpo (And.intro hput (And.intro hic hos)))))))
    have HPP := Lib.hid (And.intro hib (And.intro hco (And.intro hdk (And.intro hN1 (And.intro hcs (And.intro hpm (And.intro hpr' hrc2)))))))
    have HL := Lib.hid (And.intro hnm (And.intro hpa (And.intro hpf (And.intro hpr (And.intro hcl (And.intro hdl hnl))))))
    have hP1 := fun w' => place_any at' (pl : Int) w' (by omega) (by omega)
    rw [hi] at hP1
    have hP2 := fun w' => place_any what 6 w' (by omega) (by omega)
    have hct := place_bd what 6 (by omega)
    obtain ⟨ct, hctv⟩ : ∃ x, place what 6 = x := ⟨_, rfl⟩
    rw [hctv] at hP2 hct
    have hil2 : (i : Int) < pl := by omega
    clear h3 h3r hb3 hos hpo hput hic h4 hcell hib hco hdk hN1 hcs hMM hpm hpr' hrc2 hnm hpa hpf hpr hcl hdl hnl ex hat hi hctv
    go_wp2_with fail
    refine (hP1 _).mono ?_
    clear hP1
    rintro e w3' ⟨rfl, rfl⟩
    go_wp2_with fail
    refine (hP2 _).mono ?_
    clear hP2
    rintro e w3' ⟨rfl, rfl⟩
    obtain ⟨⟨c0, c1, c2, c3, c4, c6⟩, hfz⟩ := H4.out.2.2.1 _ _ H4.out.1

    by_cases k0 : ct = 0
    case' pos =>
      subst k0
      have hpv := place_bd v 300 (by omega)
      have hpvb : i64b (place v 300) := by unfold i64b; omega
      have hV := fun w' => place_any v 300 w' (by omega) (by omega)
      clear hpv
      have hf := hfz (i * 7 + 1)
      have hT : TurnedAt W G ps i p 0 v b pl rc2 (w3.setCell ⟨b, i * 7 + 1, none⟩ (.int .i64 (place v 300))) := turned_cell 1 (.int .i64 (place v 300)) (by omega) H0.out.1 HPP.out.2.2.2.2.2.2.2 H4.out.2.2.2.2.2.2.2 H4.out.2.2.2.2.2.2.1 H4.out.2.2.2.2.2.1 H4.out.1 H4.out.2.1 (by obtain ⟨rfl, rfl, rfl, rfl, rfl, rfl, rfl⟩ := HL.out; rw [turn0]; exact ⟨ac, cc, ai, ci, an, cn, D, rfl, ⟨hpvb, HPP.out.1.2⟩, HPP.out.2.1, HPP.out.2.2.1, hcc, hci, hcn, HPP.out.2.2.2.1⟩)
      have HT := Lib.hid hT
      clear hT hfz hpvb
      go_wp2_with fail
      refine (hV _).mono ?_
      clear hV
      rintro e w5 ⟨rfl, rfl⟩
      go_upto_region 19 with (fail)
      generalize w3.setCell ⟨b, i * 7 + 1, none⟩ (.int .i64 (place v 300)) = w9 at *
    case' neg =>
      have n0 : (ct == 0) = false := by simp [k0]
      by_cases k1 : ct = 1
      case' pos =>
        subst k1
        have hnz : nm.size ≤ 1048575 := by rw [← HL.out.1]; exact HPP.out.2.2.2.2.2.1.2.2.2
        have hz1 : ¬ (9223372036854775807 < (nm.size : Int) + 1) := by omega
        have hz2 : ¬ (9223372036854775807 < ((nm.size + 1 : Nat) : Int)) := by omega
        have hz3 : ¬ (((nm.size + 1 : Nat) : Int) > IntKind.i64.max) := by show ¬ (((nm.size + 1 : Nat) : Int) > 9223372036854775807); omega
        have hz4 : ¬ (IntKind.i64.max < (nm.size : Int) + 1) := by show ¬ (9223372036854775807 < (nm.size : Int) + 1); omega
        have hz5 : (ByteArray.mk #[120]).size = 1 := rfl
        have hf := hfz (i * 7)
        have hT : TurnedAt W G ps i p 1 v b pl rc2 (w3.setCell ⟨b, i * 7, none⟩ (.string (nm ++ ⟨#[120]⟩))) := turned_cell0 (.string (nm ++ ⟨#[120]⟩)) H0.out.1 HPP.out.2.2.2.2.2.2.2 H4.out.2.2.2.2.2.2.2 H4.out.2.2.2.2.2.2.1 H4.out.2.2.2.2.2.1 H4.out.1 H4.out.2.1 (by obtain ⟨rfl, rfl, rfl, rfl, rfl, rfl, rfl⟩ := HL.out; rw [turn1]; exact ⟨ac, cc, ai, ci, an, cn, D, rfl, HPP.out.1, HPP.out.2.1, HPP.out.2.2.1, hcc, hci, hcn, HPP.out.2.2.2.1⟩)
        have HT := Lib.hid hT
        clear hT hfz
        go_upto_region 19 with (fail)
        generalize w3.setCell ⟨b, i * 7, none⟩ (.string (nm ++ ⟨#[120]⟩)) = w9 at *
      case' neg =>
        have n1 : (ct == 1) = false := by simp [k1]
        by_cases k2 : ct = 2
        case' pos =>
          subst k2
          have hf := hfz (i * 7 + 3)
          have hT : TurnedAt W G ps i p 2 v b pl rc2 (w3.setCell ⟨b, i * 7 + 3, none⟩ (.bool (!pr))) := turned_cell 3 (.bool (!pr)) (by omega) H0.out.1 HPP.out.2.2.2.2.2.2.2 H4.out.2.2.2.2.2.2.2 H4.out.2.2.2.2.2.2.1 H4.out.2.2.2.2.2.1 H4.out.1 H4.out.2.1 (by obtain ⟨rfl, rfl, rfl, rfl, rfl, rfl, rfl⟩ := HL.out; rw [turn2]; exact ⟨ac, cc, ai, ci, an, cn, D, rfl, HPP.out.1, HPP.out.2.1, HPP.out.2.2.1, hcc, hci, hcn, HPP.out.2.2.2.1⟩)
          have HT := Lib.hid hT
          clear hT hfz
          go_upto_region 19 with (fail)
          generalize w3.setCell ⟨b, i * 7 + 3, none⟩ (.bool (!pr)) = w9 at *
        case' neg =>
          have n2 : (ct == 2) = false := by simp [k2]
          by_cases k3 : ct = 3
          case' pos =>
            subst k3
            obtain ⟨i1, ji, jz0, jz1, jz2⟩ := info_parts info_ins
            have J1 := Lib.hid (And.intro ji (And.intro jz0 (And.intro jz1 jz2)))
            clear ji jz0 jz1 jz2
            obtain ⟨pv, hpv⟩ : ∃ x, place v 300 = x := ⟨_, rfl⟩
            have hV := fun w' => place_any v 300 w' (by omega) (by omega)
            rw [hpv] at hV
            have r1 : v.tmod 1000 < 1000 := Int.tmod_lt_of_pos v (by omega)
            have r2 : -1000 < v.tmod 1000 := Int.lt_tmod_of_pos v (by omega)
            have hrw : IntKind.i64.wrap (v.tmod 1000) = v.tmod 1000 := IntWalk.i64_in _ (by omega)
            have hpvb := place_bd v 300 (by omega)
            rw [hpv] at hpvb
            obtain ⟨NR, hNR⟩ : ∃ X : HP, own 9 1 (.slice an p.names.length cn) p.names.length (namesV p.names) * D = X := ⟨_, rfl⟩
            have hN1' : N1 = own 41 3 (.slice ac cl cc) cl (codeV p.code) * NR := by rw [HPP.out.2.2.2.1, HL.out.2.2.2.2.1, hNR]
            have hclb : cl ≤ 1048575 := by have := HPP.out.2.2.2.2.2.1.1; have := HL.out.2.2.2.2.1; omega
            have o1 : ∀ wx : World, sat wx (row 38 7 b rc2 css.flatten * (N1 * (N2 * G))) →
                (wx.alloc (.cells #[.int .i64 pv, .int .i64 (v.tmod 1000), .int .i64 0] 41)).cell? ⟨b, i * 7 + 4, none⟩ = some (.slice ac cl cc) ∧
                (∀ (j' : Nat) u, [Value.int .i64 pv, .int .i64 (v.tmod 1000), .int .i64 0][j']? = some u → (wx.alloc (.cells #[.int .i64 pv, .int .i64 (v.tmod 1000), .int .i64 0] 41)).cell? ((⟨wx.heap.size, 0, none⟩ : Addr).add j') = some u) ∧
                sat (wx.alloc (.cells #[.int .i64 pv, .int .i64 (v.tmod 1000), .int .i64 0] 41)) (own 41 3 (.slice ac cl cc) cl (codeV p.code) * (row 38 7 b rc2 css.flatten * (Go.Proofs.Ytkjfplldfjmbaaa.blk wx.heap.size (.cells #[.int .i64 pv, .int .i64 (v.tmod 1000), .int .i64 0] 41 (0, 0)) * (NR * (N2 * G))))) := by
              intro wx h
              have h2 := h.alloc (.cells #[.int .i64 pv, .int .i64 (v.tmod 1000), .int .i64 0] 41)
              refine ⟨(H4.out.2.2.1 _ _ (h2.perm (HP.left_comm _ _ _))).1.2.2.2.2.1, ?_, h2.perm (by rw [hN1']; ac_rfl)⟩
              intro j' u hu
              rw [show ((⟨wx.heap.size, 0, none⟩ : Addr).add j') = ⟨wx.heap.size, j', none⟩ by unfold Addr.add; split <;> simp_all, h2.left.cell j', ← hu]
              simp
            have o2 : ∀ (w9 : World) (X Q : HP), sat w9 (X * (row 38 7 b rc2 css.flatten * Q)) → w9.cell? ⟨b, i * 7 + 4, none⟩ = some (.slice ac cl cc) ∧ w9.frozen? ⟨b, i * 7 + 4, none⟩ = false := fun w9 X Q h =>
              ⟨(H4.out.2.2.1 _ _ (h.perm (HP.left_comm _ _ _))).1.2.2.2.2.1, (H4.out.2.2.1 _ _ (h.perm (HP.left_comm _ _ _))).2 _⟩
            have HO := Lib.hid (And.intro o1 o2)
            have HN := Lib.hid (And.intro hN1' (And.intro hNR (And.intro hpv hpv)))
            clear o1 o2 hN1' hNR hpv hfz c0 c1 c2 c3 c6
            go_upto_region 14 with (fail)
            have hs3 := H4.out.1
            obtain ⟨y1, y3, y4⟩ := HO.out.1 w3 hs3
            go_region_law
              (first
                | (go_simp; go_at_call 13; refine (hV _).mono ?_; rintro e w5 ⟨rfl, rfl⟩)
                | (refine step_append_sat rfl (.tmp 72) (.tmp 78) 34 rfl 41 i1 (.agg #[.int .i64 0, .int .i64 0, .int .i64 0]) 3 24 Try.underlying34 J1.out.1 J1.out.2.1 J1.out.2.2.1 J1.out.2.2.2 rfl _ cl (codeV p.code) (by rfl) _ y4.drew ⟨w3.heap.size, 0, none⟩ 1 1 [.int .i64 pv, .int .i64 (v.tmod 1000), .int .i64 0] (by rfl) rfl y3 (by intro u hu; simp at hu; rcases hu with rfl | rfl | rfl <;> rfl) (by omega) (by unfold maxLen; omega) (by omega) ?_; intro b7 c7 w9 hs9 hc9 hb9; obtain ⟨y5, y6⟩ := HO.out.2 _ _ _ hs9))
            all_goals (
              have hpo3 : PrO (own 41 3 (.slice (some ⟨b7, 0, none⟩) (cl + 1) c7) (cl + 1) (codeV (p.code ++ [(place v 300, v.tmod 1000, 0)])) * NR) (turnP p 3 v) ([Value.string nm, .int .i64 pa, .int .i64 pf, .bool pr, .slice ac cl cc, .slice ai dl ci, .slice an nl cn].set 4 (.slice (some ⟨b7, 0, none⟩) (cl + 1) c7)) := by
                obtain ⟨rfl, rfl, rfl, rfl, rfl, rfl, rfl⟩ := HL.out
                rw [turn3]
                refine ⟨some ⟨b7, 0, none⟩, c7, ai, ci, an, cn, D, by simp, HPP.out.1, ?_, HPP.out.2.2.1, by simp; omega, hci, hcn, by rw [← HN.out.2.1]; simp⟩
                intro t ht
                rcases List.mem_append.1 ht with h | h
                · exact HPP.out.2.1 t h
                · simp at h
                  subst h
                  rw [HN.out.2.2.1]
                  unfold i64b
                  dsimp only
                  omega
              have hs10 : sat w9 (row 38 7 b rc2 css.flatten * ((own 41 3 (.slice (some ⟨b7, 0, none⟩) (cl + 1) c7) (cl + 1) (codeV (p.code ++ [(place v 300, v.tmod 1000, 0)])) * NR) * (N2 * G))) := by
                have e9 : codeV p.code ++ [Value.int .i64 pv, .int .i64 (v.tmod 1000), .int .i64 0] = codeV (p.code ++ [(place v 300, v.tmod 1000, 0)]) := by rw [HN.out.2.2.1]; unfold codeV; simp [insV]
                rw [e9] at hs9
                have h10 := sat.shut_own (n := cl + 1) (by rw [codeV_len, List.length_append, HL.out.2.2.2.2.1]; rfl) hc9 hs9
                exact (h10.perm (show _ = Go.Proofs.Ytkjfplldfjmbaaa.blk _ _ * _ by ac_rfl)).right
              have hb10 : Below 0 W w9 := ((H4.out.2.1.trans (Below.zero_alloc w3 _)).drew).trans hb9
              have hT : TurnedAt W G ps i p 3 v b pl rc2 (w9.setCell ⟨b, i * 7 + 4, none⟩ (.slice (some ⟨b7, 0, none⟩) (cl + 1) c7)) := turned_cell 4 (.slice (some ⟨b7, 0, none⟩) (cl + 1) c7) (by omega) H0.out.1 HPP.out.2.2.2.2.2.2.2 H4.out.2.2.2.2.2.2.2 H4.out.2.2.2.2.2.2.1 H4.out.2.2.2.2.2.1 hs10 hb10 hpo3
              have HT := Lib.hid hT
              clear hT hpo3 hs10 hb10 hs9 hb9 hc9 y1 y3 y4 y5 y6 hs3 HO hV hrw r1 r2 hpvb
              go_upto_region 19 with (fail)
              generalize w9.setCell ⟨b, i * 7 + 4, none⟩ (.slice (some ⟨b7, 0, none⟩) (cl + 1) c7) = w10 at *)
          case' neg =>
            have n3 : (ct == 3) = false := by simp [k3]
            by_cases k4 : ct = 4
            case' pos =>
              subst k4
              obtain ⟨i2, ki, kz0, kz1, kz2⟩ := info_parts info_txt
              obtain ⟨NR, hNR⟩ : ∃ X : HP, own 41 3 (.slice ac p.code.length cc) p.code.length (codeV p.code) * D = X := ⟨_, rfl⟩
              have hN1' : N1 = own 9 1 (.slice an nl cn) nl (namesV p.names) * NR := by rw [HPP.out.2.2.2.1, ← HL.out.2.2.2.2.2.2, ← hNR]; ac_rfl
              have hnlb : nl ≤ 1048575 := by have := HPP.out.2.2.2.2.2.1.2.2.1; have := HL.out.2.2.2.2.2.2; omega
              have h5 := H4.out.1.alloc (.cells #[.string ⟨#[]⟩] 9)
              have h6 : sat (w3.alloc (.cells #[.string ⟨#[]⟩] 9)) (own 9 1 (.slice an nl cn) nl (namesV p.names) * (Go.Proofs.Ytkjfplldfjmbaaa.blk w3.heap.size (.cells #[.string ⟨#[]⟩] 9 (0, 0)) * (row 38 7 b rc2 css.flatten * (NR * (N2 * G))))) := h5.perm (by rw [hN1']; ac_rfl)
              have hcl6 : CellsAt (w3.alloc (.cells #[.string ⟨#[]⟩] 9)) (some ⟨w3.heap.size, 0, none⟩) [.string ⟨#[]⟩] := by
                intro j u hj
                refine ⟨_, rfl, ?_⟩
                rw [show ((⟨w3.heap.size, 0, none⟩ : Addr).add j) = ⟨w3.heap.size, j, none⟩ by unfold Addr.add; split <;> simp_all, h5.left.cell j, ← hj]
                simp
              have HN := Lib.hid (And.intro h6 (And.intro hcl6 (And.intro hN1' hNR)))
              have K1 := Lib.hid (And.intro ki (And.intro kz0 (And.intro kz1 kz2)))
              clear h5 h6 hcl6 hN1' hNR ki kz0 kz1 kz2 hfz c0 c1 c2 c3 c4
              go_wp2_with (at_builtin; refine hold ?_)
              refine held ?_
              obtain ⟨ki, kz0, kz1, kz2⟩ := K1.out
              refine wpList_append_opt rfl (.tmp 88) (.tmp 89) 36 rfl 9 i2 (.string ⟨#[]⟩) 1 16 Try.underlying36 ki kz0 kz1 kz2 rfl (by decide) (.slice an nl cn) nl (namesV p.names) rfl _ (some ⟨w3.heap.size, 0, none⟩) 1 1 [.string ⟨#[]⟩] rfl ?_ HN.out.1 rfl HN.out.2.1 (by intro u hu; simp at hu; subst hu; rfl) (by omega) (by unfold maxLen; omega)
              clear ki kz0 kz1 kz2 c6
              intro v7 w9 hs9 hb9
              obtain ⟨an2, cn2, rfl, hcn2⟩ := slice_val hs9
              have h10 : sat w9 (row 38 7 b rc2 css.flatten * ((own 9 1 (.slice an2 (nl + 1) cn2) (nl + 1) (namesV (p.names ++ [⟨#[]⟩])) * NR) * (N2 * G))) := by
                have e9 : namesV p.names ++ [Value.string ⟨#[]⟩] = namesV (p.names ++ [⟨#[]⟩]) := by unfold namesV; simp
                rw [e9] at hs9
                exact (hs9.perm (show _ = Go.Proofs.Ytkjfplldfjmbaaa.blk _ _ * _ by ac_rfl)).right
              obtain ⟨⟨-, -, -, -, -, y6⟩, yf⟩ := H4.out.2.2.1 _ _ h10
              have yf6 := yf (i * 7 + 6)
              have hpo4 : PrO (own 9 1 (.slice an2 (nl + 1) cn2) (nl + 1) (namesV (p.names ++ [⟨#[]⟩])) * NR) (turnP p 4 v) ([Value.string nm, .int .i64 pa, .int .i64 pf, .bool pr, .slice ac cl cc, .slice ai dl ci, .slice an nl cn].set 6 (.slice an2 (nl + 1) cn2)) := by
                obtain ⟨rfl, rfl, rfl, rfl, rfl, rfl, rfl⟩ := HL.out
                rw [turn4]
                refine ⟨ac, cc, ai, ci, an2, cn2, D, by simp, HPP.out.1, HPP.out.2.1, HPP.out.2.2.1, hcc, hci, by simp; omega, ?_⟩
                rw [← HN.out.2.2.2]
                simp only [List.length_append, List.length_cons, List.length_nil]
                ac_rfl
              have hb10 : Below 0 W w9 := (H4.out.2.1.trans (Below.zero_alloc w3 _)).trans hb9
              have hT : TurnedAt W G ps i p 4 v b pl rc2 (w9.setCell ⟨b, i * 7 + 6, none⟩ (.slice an2 (nl + 1) cn2)) := turned_cell 6 (.slice an2 (nl + 1) cn2) (by omega) H0.out.1 HPP.out.2.2.2.2.2.2.2 H4.out.2.2.2.2.2.2.2 H4.out.2.2.2.2.2.2.1 H4.out.2.2.2.2.2.1 h10 hb10 hpo4
              have HT := Lib.hid hT
              clear hT hpo4 h10 hb10 hs9 hb9 yf hcn2
              go_upto_region 19 with (fail)
              generalize w9.setCell ⟨b, i * 7 + 6, none⟩ (.slice an2 (nl + 1) cn2) = w10 at *
            case' neg =>
              have n4 : (ct == 4) = false := by simp [k4]
              obtain rfl : ct = 5 := by omega
              have hpf0 := size_bd HPP.out.2.2.2.2.2.2.1.2.1
              rw [HL.out.2.2.1] at hpf0
              have hp2b : i64b (pf / 2) := by unfold i64b; omega
              have ht1 : pf.tdiv 2 = pf / 2 := Int.tdiv_eq_ediv_of_nonneg hpf0.1
              have ht2 : IntKind.i64.wrap (pf / 2) = pf / 2 := IntWalk.i64_in _ (by omega)
              have hf := hfz (i * 7 + 2)
              have hT : TurnedAt W G ps i p 5 v b pl rc2 (w3.setCell ⟨b, i * 7 + 2, none⟩ (.int .i64 (pf / 2))) := turned_cell 2 (.int .i64 (pf / 2)) (by omega) H0.out.1 HPP.out.2.2.2.2.2.2.2 H4.out.2.2.2.2.2.2.2 H4.out.2.2.2.2.2.2.1 H4.out.2.2.2.2.2.1 H4.out.1 H4.out.2.1 (by obtain ⟨rfl, rfl, rfl, rfl, rfl, rfl, rfl⟩ := HL.out; rw [turn5]; exact ⟨ac, cc, ai, ci, an, cn, D, rfl, ⟨HPP.out.1.1, hp2b⟩, HPP.out.2.1, HPP.out.2.2.1, hcc, hci, hcn, HPP.out.2.2.2.1⟩)
              have HT := Lib.hid hT
              clear hT hfz hp2b
              go_upto_region 19 with (fail)
              generalize w3.setCell ⟨b, i * 7 + 2, none⟩ (.int .i64 (pf / 2)) = w9 at *
    all_goals
      obtain ⟨qs, css', M', g1, g2, g3, g4, q1, q2, q3⟩ := HT.out.tell H2.out.2.2.2.1 H4.out.2.2.2.1
      have hql : qs.length = pl := by rw [g3]; exact H0.out.1
      have hqz : prSizes qs ≤ 1048576 := by have := H0.out.2.1; omega
      obtain ⟨hqz0, hqz1⟩ := szs_of hqz
      have hqzz : ∀ p ∈ qs, p.code.length ≤ 1048576 ∧ Dm.sizes p.consts ≤ 1048576 ∧ p.names.length ≤ 1048576 := fun p hp => by have := hqz1 p hp; omega
      have hqk := q1.ks q2
      have hC3 := copy_protos qs pl hql hqz (by omega) hqzz _ _ (some ⟨b, 0, none⟩) rc2 q2 hqk
      have H9 := Lib.hid (And.intro g1 (And.intro g2 (And.intro hql (And.intro hqz (And.intro hqzz (And.intro hqk q3))))))
      clear g1 g2 g3 g4 q1 q2 q3 hql hqz hqz0 hqz1 hqzz hqk HT
      go_wp2_with fail
      refine hC3.mono ?_
      clear hC3
      rintro e w11 ⟨ro3, rc3, css3, M3, rfl, hrc3, hos3, h11, hb11⟩
      rw [H9.out.2.2.1] at hrc3 h11 ⊢
      have hW3 := pack_Write qs pl H9.out.2.2.1 H9.out.2.2.2.1 w11 _ ro3 rc3 h11 (hos3.ks h11)
      have H11 := Lib.hid (H9.out.2.2.2.2.2.2.trans hb11)
      clear hrc3 hos3 h11 hb11
      go_wp2_with fail
      refine hW3.mono ?_
      clear hW3
      rintro e w12 hW4
      obtain ⟨vb, rfl, h12, hb12⟩ := hW4.told H9.out.1
      obtain ⟨rb, cb, rfl, hcb⟩ := slice_val h12
      have hSB := same_bytes w12 ra rb (writeB ps).length (writeB qs).length ca cb (writeB ps) (writeB qs) (H2.out.2.1 _ h12.right.right.right.right.right) (own_cellsAt h12 rfl) rfl rfl (writeB_u ps) (writeB_u qs)
      rw [H2.out.2.2.2.2.1] at hSB
      have hSP := same_protos (ca := c) (cb := rc2) h12 ao (some ⟨b, 0, none⟩) ps qs (H0.out.2.2.2.1.mono (fun w h => H2.out.1 _ h.right.right.right.right.right)) (H9.out.2.2.2.2.2.1.mono (fun w h => h.right.right.right)) pl pl H0.out.1 H9.out.2.2.1 (by omega) (by omega) H0.out.2.2.1 H9.out.2.2.2.2.1
      obtain ⟨lb, hlb⟩ : ∃ n, (writeB qs).length = n := ⟨_, rfl⟩
      rw [hlb] at hSB
      obtain ⟨sb, hsb⟩ : ∃ x, decide (writeB ps = writeB qs) = x := ⟨_, rfl⟩
      obtain ⟨sp, hsp⟩ : ∃ x, samePs ps qs = x := ⟨_, rfl⟩
      have hss := H9.out.2.1
      rw [hsb, hsp, beq_iff_eq] at hss
      rw [hsb] at hSB
      rw [hsp] at hSP
      have H12 := Lib.hid (And.intro h12 (H11.out.trans hb12))
      rw [hlb]
      clear hW4 h12 hb12 hcb hlb hsb hsp
      subst hss
      go_wp2_with fail
      refine hSB.mono ?_
      clear hSB
      rintro e w13 ⟨rfl, rfl⟩
      go_wp2_with fail
      refine hSP.mono ?_
      clear hSP
      rintro e w14 ⟨rfl, h14, hb14⟩
      have hA := awake10 w14 _ h14
      have H14 := Lib.hid (H12.out.2.trans hb14)
      clear h14 hb14
      have hbb : (sb == sb) = true := by simp
      go_wp2_with fail
      refine hA.mono ?_
      clear hA
      rintro e w15 ⟨rfl, h15, hb15⟩
      have H15 := Lib.hid (And.intro h15 (H14.out.trans hb15))
      clear h15 hb15
      go_wp2_with fail
      go_ret
      exact ⟨rfl, below_whole (H2.out.1 _ H15.out.1.right.right.right.right.right) H15.out.2⟩
end Go.Proofs.Ytkjfplldfjmbaaa
