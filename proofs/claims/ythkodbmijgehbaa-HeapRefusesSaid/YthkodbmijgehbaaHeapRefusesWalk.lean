/- HeapRefuses' walk. -/
import Derived.Test.YthkodbmijgehbaaHeapRefPure
import Derived.Deep.RegionWith
namespace Go.Proofs.Ythkodbmijgehbaa
open Go.RowKit

set_option maxHeartbeats 4000000 in
set_option maxRecDepth 100000 in
theorem heapRefuses_walk (W : World) (n : Int) (ao : Option Addr) (len cap : Nat) (zs : List OpD) (x i : Int) (hz : IsOps W ao len zs) (x0 : 0 ≤ x) (x1 : x < 18446744073709551616) :
    Calls Try.prog 7 #[.int .i64 n, .slice ao len cap, .int .u64 x, .int .i64 i] W fun e w' => e = .returned (.bool true) ∧ Below W.heap.size W w' := by
  go_enter Try.func7, Try.ntmps7
  go_wp2_with fail
  refine (grown_any W n ao len cap zs hz).mono ?_
  rintro e w1 ⟨O, V, V2, S0, rfl, hO, ht, hb1⟩
  have hp := hO.p.p
  have hw := hO.p.hw
  have hu := hO.u
  have hol : O.obj.length ≤ 18000000000000 := by have := hO.l; have := hO.ws; omega
  have hs0 := hO.p.ok.s
  have HP := Lib.hid hp
  have c0 := hw.c hp
  clear hp hO
  go_wp2_with fail
  refine hw.Words.mono ?_
  rintro e w2 ⟨v2, rfl, hs2, hb2⟩
  obtain ⟨bw, cw, rfl, hn2, _, hr2⟩ := hs2.own_some hs0.wf.pos
  have h2 : HeapW w2 V S0 (isOn O * (isRef V2 S0 * (row 28 1 bw cw (S0.ws.map u64) * whole W))) := ⟨hr2.perm (by ac_rfl), hw.ok⟩
  have hb2' := hb1.trans hb2
  clear hs2 hr2 hw c0 hb1 hb2 hn2
  obtain ⟨oa, oc, hvo⟩ := on_vo h2.s.right
  have c0 := h2.c HP.out
  have c2 := h2.c2
  rw [hvo] at c2
  have HV := Lib.hid hvo
  clear hvo
  go_wp2_with fail
  go_loopw [11] (RRel W O V V2 S0 x bw cw) (fun i _ => O.obj.length - (intOf i).toNat)
  case atStart => exact ⟨0, S0, Nat.zero_le _, rfl, h2, rfl, rfl, fun _ => rfl, hb2'⟩
  case round =>
    clear h2 hb2' c0 c2
    obtain ⟨k, S, hk, rfl, hH, hbs, hwl, hsame, hb⟩ := hrel
    have c0 := hH.c HP.out
    have c2 := hH.c2
    rw [HV.out] at c2
    have hmy : S.may x = S0.may x := by unfold HS.may; rw [hbs]
    have HB := Lib.hid (And.intro hbs (And.intro hwl (And.intro hsame hmy)))
    clear hbs hwl hsame hmy
    by_cases hlt : k < O.obj.length
    · obtain ⟨p, ep⟩ : ∃ p, O.obj[k]? = some p := ⟨_, List.getElem?_eq_getElem hlt⟩
      have hpb := hu p (List.mem_of_getElem? ep)
      obtain ⟨ob, rfl, hcp⟩ := obj_reads hH.s.right HV.out k p ep
      clear ep
      have hx : x % 4 = 1 ∨ x % 4 = 2 ∨ (x % 4 ≠ 1 ∧ x % 4 ≠ 2) := by omega
      obtain ⟨y0, y1, y3⟩ := u64_or3 x x0 x1
      have HX := Lib.hid hx
      have HH0 := Lib.hid hH
      clear hx
      go_upto_region 9 with (fail)
      clear hH
      go_cut [13] (fun m w' => m = .bool (S.may x) ∧ HeapW w' V S (isOn O * (isRef V2 S0 * (row 28 1 bw cw (S0.ws.map Go.Proofs.Ythkodbmijgehbaa.u64) * whole W))) ∧ Below 0 W w')
      case first =>
        rcases HX.out with hx | hx | ⟨hx, hx2⟩
        · have hm : S.may x = true := by unfold HS.may mayB; simp [hx]
          have HM := Lib.hid hm
          have hb1 : (x % 4 == 1) = true := by simp [hx]
          clear hm hx
          go_wp2_with fail
          go_meet
          case rel => exact ⟨by rw [HM.out], HH0.out, hb⟩
        · have hm : S.may x = true := by unfold HS.may mayB; simp [hx]
          have HM := Lib.hid hm
          have hb1 : (x % 4 == 1) = false := by simp [hx]
          have hb2 : (x % 4 == 2) = true := by simp [hx]
          clear hm hx
          go_wp2_with fail
          go_meet
          case rel => exact ⟨by rw [HM.out], HH0.out, hb⟩
        · have hm : S.may x = S.is x := by unfold HS.may mayB HS.is; simp [hx, hx2]
          have HM := Lib.hid hm
          have hb1 : (x % 4 == 1) = false := by rw [beq_eq_false_iff_ne]; exact hx
          have hb2 : (x % 4 == 2) = false := by rw [beq_eq_false_iff_ne]; exact hx2
          clear hm hx hx2
          go_wp2_with fail
          refine (HH0.out.v.Is x x0 x1).mono ?_
          rintro e w' ⟨rfl, j1, rfl⟩
          go_wp2_with fail
          go_meet
          case rel => exact ⟨by rw [HM.out], HH0.out.drewN _, hb.trans (drewN_below0 _ _)⟩
      case rest =>
        obtain ⟨rfl, hH, hb⟩ := hcut
        clear HH0
        have c0 := hH.c HP.out
        obtain ⟨q, hq⟩ : ∃ q, S.setOk p i x = q := ⟨_, rfl⟩
        have HQ := Lib.hid hq
        clear hq
        obtain ⟨mm, hmm⟩ : ∃ mm, S.may x = mm := ⟨_, rfl⟩
        have HMM := Lib.hid hmm
        rw [hmm]
        clear hmm
        go_upto_region 10 with (fail)
        have HA := Lib.hid (fun (w' : World) (h' : HeapW w' V S (isOn O * (isRef V2 S0 * (row 28 1 bw cw (S0.ws.map Go.Proofs.Ythkodbmijgehbaa.u64) * whole W)))) => h'.Set p i x hpb.1 hpb.2 x0 x1)
        have hn1 : S.setOk p 0 (bits .or .u64 x 3) = false := setOk_or3 p 0 (bits .or .u64 x 3) y3
        have hn2 : S.setOk p 0 0 = false := setOk_zero hH.ok.wf p 0
        have hn3 : S.setOk p (-1) 2 = false := setOk_neg p 2
        dsimp only [List.append]
        cases q
        · as_aux_lemma =>
          have H1 := Lib.hid (fun (m : Nat) => (hH.drewN m).Set_no p i x hpb.1 hpb.2 x0 x1 HQ.out)
          have H2 := Lib.hid (fun (m : Nat) => (hH.drewN m).Set_no p 0 (bits .or .u64 x 3) hpb.1 hpb.2 y0 y1 hn1)
          have H3 := Lib.hid (fun (m : Nat) => (hH.drewN m).Set_no p 0 0 hpb.1 hpb.2 (by decide) (by decide) hn2)
          have H4 := Lib.hid (fun (m : Nat) => (hH.drewN m).Set_no p (-1) 2 hpb.1 hpb.2 (by decide) (by decide) hn3)
          have H5 := Lib.hid (fun (m : Nat) => (hH.drewN m).v.Raws p hpb.1 hpb.2)
          have H6 := Lib.hid (fun (m : Nat) => (hH.drewN m).raw_end p hpb.1 hpb.2)
          obtain ⟨rr, hrr⟩ : ∃ rr, S.raw p = rr := ⟨_, rfl⟩
          rw [hrr] at H5 H6
          clear hrr
          have HH := Lib.hid hH
          clear hn1 hn2 hn3 HA hH HQ
          go_quiet ((first
            | (go_at_call 24; (with_reducible exact Calls.said (H1.out _)))
            | (go_at_call 24; (with_reducible exact Calls.said (H2.out _)))
            | (go_at_call 24; (with_reducible exact Calls.said (H3.out _)))
            | (go_at_call 24; (with_reducible exact Calls.said (H4.out _)))
            | (go_at_call 19; (with_reducible exact Calls.said (H5.out _)))
            | (go_at_call 25; (with_reducible exact Calls.said (H6.out _)))))
          go_wp2_with fail
          go_roundw
          case rel => exact ⟨k + 1, S, by omega, by go_num, HH.out.drewN _, HB.out.1, HB.out.2.1, HB.out.2.2.1, hb.trans (drewN_below0 _ _)⟩
          case measure => simp [intOf]; omega
        · as_aux_lemma =>
          obtain ⟨i0, i1⟩ := setOk_in HQ.out
          have hm1 : (S.set p i x).setOk p 0 (bits .or .u64 x 3) = false := setOk_or3 p 0 (bits .or .u64 x 3) y3
          have hm3 : (S.set p i x).setOk p (-1) 2 = false := setOk_neg p 2
          have hbs1 := set_bs (S := S) p i x
          have hl1 := (set_ws S p i x).1
          have htg := set_tag hH.ok.s HQ.out
          have hmay := setOk_true_may HQ.out
          obtain rfl : mm = true := HMM.out.symm.trans hmay
          have hAq := HA.out
          rw [HQ.out] at hAq
          generalize S.set p i x = S1 at *
          have HT := Lib.hid (And.intro hbs1 (And.intro hl1 hmay))
          rw [← htg] at i1
          have HN := Lib.hid (And.intro hm1 hm3)
          have HAq := Lib.hid hAq
          have HH := Lib.hid hH
          clear hn1 hn2 hn3 HA hm1 hm3 hbs1 hl1 hmay hAq htg hH
          have HTg := Lib.hid (fun (w' : World) (h' : HeapW w' V S1 (isOn O * (isRef V2 S0 * (row 28 1 bw cw (S0.ws.map Go.Proofs.Ythkodbmijgehbaa.u64) * whole W)))) => h'.v.Tagged p hpb.1 hpb.2)
          have hti : ∃ t, S1.tag p = t := ⟨_, rfl⟩
          obtain ⟨t, ht1⟩ := hti
          rw [ht1] at i1 HTg
          clear ht1
          have hd1 : decide (i < 0) = false := by simp; omega
          have hd2 : decide (t ≤ i) = false := by simp; omega
          go_region_held3 (fun w' => w'.cell? ⟨O.g, 0, none⟩ = some (.pointer (some ⟨V.g, 0, none⟩)))
            (first | go_keep | exact k0)
            (first
              | (go_at_call 24; (with_reducible refine (HAq.out _ ?_).mono ?_); exact ⟨HH.out.s, HH.out.ok⟩; rintro e w5 ⟨rfl, h5, hb5⟩; have k0 := h5.c HP.out)
              | (go_at_call 18; (with_reducible refine (HTg.out _ ?_).mono ?_); exact ⟨h5.s, h5.ok⟩; rintro e w' ⟨rfl, j7, rfl⟩)
              | (go_at_call 24; refine (HeapW.Set_no (V := V) (S := S1) (R := _) (by exact ⟨h5.s, h5.ok⟩) p _ _ hpb.1 hpb.2 (by omega) (by omega) (by first | exact HN.out.1 | exact setOk_zero h5.ok.wf p 0 | exact HN.out.2)).mono ?_; rintro e w' ⟨rfl, j8, rfl⟩)
              | (go_at_call 19; refine (HeapV.Raws (V := V) (S := S1) (by exact HeapW.v ⟨h5.s, h5.ok⟩) p hpb.1 hpb.2).mono ?_; rintro e w' ⟨rfl, j9, rfl⟩)
              | (go_at_call 25; refine (HeapW.raw_end (V := V) (S := S1) (R := _) (by exact ⟨h5.s, h5.ok⟩) p hpb.1 hpb.2).mono ?_; rintro e w' ⟨rfl, j10, rfl⟩))
          rename_i hHeld
          clear hHeld
          go_wp2_with fail
          go_roundw
          case rel =>
            refine ⟨k + 1, S1, by omega, by go_num, ⟨h5.s, h5.ok⟩, HT.out.1.trans HB.out.1, HT.out.2.1.trans HB.out.2.1, ?_, ?_⟩
            · intro e; rw [← HB.out.2.2.2, HT.out.2.2] at e; cases e
            · exact hb.trans (Below.trans (drewN_below0 _ _) (hb5.trans (drewN_below0 _ _)))
          case measure => simp [intOf]; omega
    · obtain rfl : k = O.obj.length := by omega
      have hge : (O.obj.length : Int) ≤ O.obj.length := by omega
      go_wp2_with fail
      refine hH.Words.mono ?_
      rintro e w3 ⟨v3, rfl, hs3, hb3⟩
      obtain ⟨b3, c3, rfl, _, _, hr3⟩ := hs3.own_some hH.ok.wf.pos
      have h3 : HeapW w3 V S (isOn O * (isRef V2 S0 * (row 28 1 bw cw (S0.ws.map Go.Proofs.Ythkodbmijgehbaa.u64) * (row 28 1 b3 c3 (S.ws.map Go.Proofs.Ythkodbmijgehbaa.u64) * whole W)))) := ⟨hr3.perm (by ac_rfl), hH.ok⟩
      have hb3' := hb.trans hb3
      clear hs3 hr3 hH hb hb3 c0 c2
      have c0 := h3.c HP.out
      have hx : x % 4 = 1 ∨ x % 4 = 2 ∨ (x % 4 ≠ 1 ∧ x % 4 ≠ 2) := by omega
      have HX := Lib.hid hx
      have HH0 := Lib.hid h3
      clear hx
      go_upto_region 13 with (fail)
      clear h3
      go_cut [15] (fun m w' => m = .bool (S.may x) ∧ HeapW w' V S (isOn O * (isRef V2 S0 * (row 28 1 bw cw (S0.ws.map Go.Proofs.Ythkodbmijgehbaa.u64) * (row 28 1 b3 c3 (S.ws.map Go.Proofs.Ythkodbmijgehbaa.u64) * whole W)))) ∧ Below 0 W w')
      case first =>
        rcases HX.out with hx | hx | ⟨hx, hx2⟩
        · have hm : S.may x = true := by unfold HS.may mayB; simp [hx]
          have HM := Lib.hid hm
          have hb1 : (x % 4 == 1) = true := by simp [hx]
          clear hm hx
          go_wp2_with fail
          go_meet
          case rel => exact ⟨by rw [HM.out], HH0.out, hb3'⟩
        · have hm : S.may x = true := by unfold HS.may mayB; simp [hx]
          have HM := Lib.hid hm
          have hb1 : (x % 4 == 1) = false := by simp [hx]
          have hb2 : (x % 4 == 2) = true := by simp [hx]
          clear hm hx
          go_wp2_with fail
          go_meet
          case rel => exact ⟨by rw [HM.out], HH0.out, hb3'⟩
        · have hm : S.may x = S.is x := by unfold HS.may mayB HS.is; simp [hx, hx2]
          have HM := Lib.hid hm
          have hb1 : (x % 4 == 1) = false := by rw [beq_eq_false_iff_ne]; exact hx
          have hb2 : (x % 4 == 2) = false := by rw [beq_eq_false_iff_ne]; exact hx2
          clear hm hx hx2
          go_wp2_with fail
          refine (HH0.out.v.Is x x0 x1).mono ?_
          rintro e w' ⟨rfl, j1, rfl⟩
          go_wp2_with fail
          go_meet
          case rel => exact ⟨by rw [HM.out], HH0.out.drewN _, hb3'.trans (drewN_below0 _ _)⟩
      case rest =>
        obtain ⟨rfl, h3, hb⟩ := hcut
        clear HH0 c0 hb3'
        have hwb : S.ws.length < 4611686018427387904 := by have := h3.ok.used; have := h3.ok.hi; omega
        have HF := Lib.hid (And.intro h3.s.right.right.right.right.right hb)
        have hlb : ((S.ws.length : Int) == (S0.ws.length : Int)) = true := by rw [HB.out.2.1]; simp
        cases hm : S.may x
        · have hS := HB.out.2.2.1 (by rw [← HB.out.2.2.2, hm])
          subst hS
          have hsw := same_words wc (some ⟨bw, 0, none⟩) (some ⟨b3, 0, none⟩) cw c3 S.ws S.ws (reads_row h3.s.right.right.right) (reads_row h3.s.right.right.right.right) hwb hwb
          rw [decide_eq_true (rfl : S.ws = S.ws)] at hsw
          clear hm h3 hlb HB
          go_wp2_with fail
          refine hsw.mono ?_
          rintro e w' ⟨rfl, j1, rfl⟩
          go_wp2_with fail
          refine (awake_any _ (HF.out.1.drewN j1)).mono ?_
          rintro e w2 ⟨rfl, h2, hb2⟩
          go_wp2_with fail
          go_ret
          exact ⟨rfl, below_of_whole' h2 ((HF.out.2.trans (drewN_below0 _ _)).trans hb2)⟩
        · clear hm h3
          go_wp2_with fail
          refine (awake_any _ HF.out.1).mono ?_
          rintro e w2 ⟨rfl, h2, hb2⟩
          go_wp2_with fail
          go_ret
          exact ⟨rfl, below_of_whole' h2 (HF.out.2.trans hb2)⟩
/-- In the shell's order. -/
theorem heapRefuses_told (W : World) (a0 : Int) (a1 : Option Addr) (len1 cap1 : Nat) (z1 : List OpD) (a2 a3 : Int) (_ : (Lit.int .i64 a0).wf = true) (w1 : IsOps W a1 len1 z1) (w2 : (Lit.int .u64 a2).wf = true) (_ : (Lit.int .i64 a3).wf = true) :
    Calls Try.prog 7 #[.int .i64 a0, .slice a1 len1 cap1, .int .u64 a2, .int .i64 a3] W fun e w' => e = .returned (.bool true) ∧ Below W.heap.size W w' := heapRefuses_walk W a0 a1 len1 cap1 z1 a2 a3 w1 (u64_of_wf w2).1 (u64_of_wf w2).2
end Go.Proofs.Ythkodbmijgehbaa
