/- PackCuts' walk. -/
import Derived.Test.YtkjfplldfjmbaaaPackRoundWalk
namespace Go.Proofs.Ytkjfplldfjmbaaa
open Go.RowKit
set_option maxRecDepth 100000 in
set_option maxHeartbeats 8000000 in
theorem packCuts_walk (W : World) (ps : List Pr) (ao : Option Addr) (c : Nat) (at' : Int) (b : List Int) (bo : Option Addr) (cb : Nat) (hw : PrKs (whole W) ps ao ∧ prSizes ps + 1 ≤ 1048576 ∧ ps.length ≤ c) (_ : (Lit.int .i64 at').wf = true) (hv : BytesAt (whole W) b bo ∧ b.length + 1 ≤ 1048576 ∧ b.length ≤ cb) :
    Calls Try.prog 7 #[.slice ao ps.length c, .int .i64 at', .slice bo b.length cb] W fun e W' => e = .returned (.bool true) ∧ Below W.heap.size W W' := by
  obtain ⟨hks, hsz, _⟩ := hw
  obtain ⟨hba, hbl, hbc⟩ := hv
  obtain ⟨hz0, hz1⟩ := szs_ofD (n := 1048576) (show prSizes ps ≤ 1048576 by omega)
  obtain ⟨pl, hpl⟩ : ∃ n, ps.length = n := ⟨_, rfl⟩
  obtain ⟨bl, hbln⟩ : ∃ n, b.length = n := ⟨_, rfl⟩
  rw [hpl, hbln]
  rw [hpl] at hz0
  rw [hbln] at hbl hbc
  have hC1 := copy_protos ps pl hpl (by omega) (by omega) hz1 W (whole W) ao c (sat_whole W) hks
  have H0 := Lib.hid (And.intro hpl (And.intro hsz (And.intro hks (And.intro hz0 hz1))))
  have HB := Lib.hid (And.intro hba (And.intro hbln (And.intro hbl hbc)))
  clear hks hsz hz0 hz1 hpl hba hbl hbc hbln
  go_enter Try.func7, Try.ntmps7
  go_wp2_with fail
  refine hC1.mono ?_
  clear hC1
  rintro e w1 ⟨ro1, rc1, css1, M1, rfl, hrc1, hos1, h1, hb1⟩
  rw [H0.out.1] at hrc1 h1 ⊢
  have hW1 := pack_Write ps pl H0.out.1 (by have := H0.out.2.1; omega) w1 _ ro1 rc1 h1 (hos1.ks h1)
  obtain ⟨F1, hF1⟩ : ∃ F : HP, F = own 38 7 (.slice ro1 pl rc1) pl css1.flatten * (M1 * whole W) := ⟨_, rfl⟩
  rw [← hF1] at hW1
  have hFW : ∀ w', sat w' F1 → sat w' (whole W) := fun w' h => by rw [hF1] at h; exact h.right.right
  have H1 := Lib.hid (And.intro hFW hb1)
  clear hrc1 hos1 h1 hb1 hFW hF1
  go_wp2_with fail
  refine hW1.mono ?_
  clear hW1
  rintro e w2 hW2
  cases ho : okPs ps 0 with
  | none =>
    obtain ⟨rfl, h2, hb2⟩ := hW2.refused ho
    have hA := awake10 w2 _ h2
    have H2 := Lib.hid (H1.out.2.trans hb2)
    clear hW2 h2 hb2 ho
    go_wp2_with fail
    refine hA.mono ?_
    clear hA
    rintro e w8 ⟨rfl, h8, hb8⟩
    have H8 := Lib.hid (And.intro (H1.out.1 _ h8) (H2.out.trans hb8))
    clear h8 hb8
    go_wp2_with fail
    go_ret
    exact ⟨rfl, below_wholeD H8.out.1 H8.out.2⟩
  | some q =>
    obtain ⟨va, rfl, h2, hb2⟩ := hW2.told ho
    have hwl := writeB_bound H0.out.2.2.1 ho (by have := H0.out.2.1; omega)
    obtain ⟨gb, ca, rfl, hca, _, _⟩ := h2.own_some (by omega)
    obtain ⟨la, hla⟩ : ∃ n, (writeB ps).length = n := ⟨_, rfl⟩
    have l0 : ((la : Int) == 0) = false := by rw [beq_eq_false_iff_ne]; omega
    have l1 : ¬ la = 0 := by omega
    have hpb := place_bd at' la (by omega)
    obtain ⟨kk, hkk⟩ : ∃ n : Nat, place at' la = n := ⟨(place at' la).toNat, by omega⟩
    have hP := place_any at' la w2 (by omega) (by omega)
    rw [hkk] at hP hpb
    have htk : ((writeB ps).take kk).length = kk := by rw [List.length_take]; omega
    have hR := pack_Read w2 _ (some ⟨gb, 0, none⟩) ca ((writeB ps).take kk) h2 (fun w' h => by
      intro j u hj
      rw [List.getElem?_map, List.getElem?_take] at hj
      split at hj
      · exact own_cellsAt h rfl j u (by rw [List.getElem?_map]; exact hj)
      · simp at hj) (fun x hx => writeB_u ps x (List.mem_of_mem_take hx)) (by omega) (by omega)
    rw [rdRead_cut (a := (writeB ps).take kk) (b := (writeB ps).drop kk) ho (List.take_append_drop _ _).symm (fun h => by have := congrArg List.length h; rw [List.length_drop, List.length_nil] at this; omega), htk] at hR
    have b1 : (kk : Int) ≤ (ca : Int) := by omega
    have b2 : (kk : Int) ≤ (la : Int) := by omega
    have b3 : (la : Int) ≤ (ca : Int) := by omega
    have H2 := Lib.hid (And.intro (H1.out.2.trans hb2) (And.intro ho (And.intro hla hwl)))
    rw [hla] at hR ⊢
    clear hW2 h2 hb2 ho hwl hla hpb hkk htk
    go_wp2_with fail
    refine hP.mono ?_
    clear hP
    rintro e w2' ⟨rfl, rfl⟩
    go_wp2_with fail
    refine hR.mono ?_
    clear hR b1 b2 b3
    rintro e w3 ⟨rfl, h3, hb3⟩
    have hCB := copy_bytes w3 _ (some ⟨gb, 0, none⟩) la ca (writeB ps) H2.out.2.2.1 h3 (own_bytesAt (writeB_u ps)) (by have := H2.out.2.2; omega)
    obtain ⟨F3, hF3⟩ : ∃ F : HP, F = own 5 1 (.slice (some ⟨gb, 0, none⟩) la ca) la ((writeB ps).map bv) * F1 := ⟨_, rfl⟩
    rw [← hF3] at hCB
    have hFW3 : ∀ w', sat w' F3 → sat w' (whole W) := fun w' h => by rw [hF3] at h; exact H1.out.1 _ h.right
    have H3 := Lib.hid (And.intro hFW3 (H2.out.1.trans hb3))
    clear h3 hb3 hF3 hFW3
    go_wp2_with fail
    refine hCB.mono ?_
    clear hCB
    rintro e w4 ⟨ro4, rc4, rfl, hrc4, h4, hb4⟩
    have H4 := Lib.hid (And.intro h4 (And.intro (H3.out.2.trans hb4) hrc4))
    clear h4 hb4 hrc4
    obtain ⟨i0, hi, hz0, hz1, hz2⟩ := info_parts info_b8
    have HI := Lib.hid (And.intro hi (And.intro hz0 (And.intro hz1 hz2)))
    clear hi hz0 hz1 hz2
    go_wp2_with (at_builtin; refine halt ?_)
    refine goon ?_
    obtain ⟨hi, hz0, hz1, hz2⟩ := HI.out
    refine wpList_append_opt rfl (.tmp 37) (.tmp 38) 23 rfl 5 i0 (.int .u8 0) 1 1 Try.underlying23 hi hz0 hz1 hz2 rfl (by decide) (.slice ro4 la rc4) la ((writeB ps).map bv) rfl F3 bo bl cb (b.map bv) rfl ?_ H4.out.1 (by rw [List.length_map, HB.out.2.1]; omega) (HB.out.1.1 _ (H3.out.1 _ H4.out.1.right)) (fun u hu => by obtain ⟨y, _, rfl⟩ := List.mem_map.1 hu; rfl) (by have := H2.out.2.2; have := HB.out.2.2.1; omega) (by have := H2.out.2.2; have := HB.out.2.2.1; unfold maxLen; omega)
    clear hi hz0 hz1 hz2
    intro v5 w5 h5 hb5
    obtain ⟨ro5, rc5, rfl, hrc5⟩ := slice_val h5
    rw [← List.map_append] at h5
    have hll : (writeB ps ++ b).length = la + bl := by rw [List.length_append, H2.out.2.2.1, HB.out.2.1]
    have hR2 := pack_Read w5 _ ro5 rc5 (writeB ps ++ b) h5 (fun w' h => own_cellsAt h rfl) ((writeB_u ps).app HB.out.1.2) (by rw [hll]; exact hrc5) (by have := H2.out.2.2; have := HB.out.2.2.1; omega)
    rw [hll] at hR2
    have H5 := Lib.hid (H4.out.2.1.trans hb5)
    clear h5 hb5 hrc5 hll
    by_cases hbn : b = []
    case pos =>
      have hbl0 : bl = 0 := by rw [← HB.out.2.1, hbn]; rfl
      rw [hbn, List.append_nil, rdRead_writeB H2.out.2.1 (by have := H0.out.2.1; omega)] at hR2
      subst hbl0
      clear hbn
      go_wp2_with fail
      refine hR2.mono ?_
      clear hR2
      rintro e w6 ⟨so, sc, sss, MS, rfl, hsc, hsos, h6, hb6⟩
      rw [H0.out.1] at h6 ⊢
      clear hsc hsos
      have hA := awake10 w6 _ h6
      have H6 := Lib.hid (H5.out.trans hb6)
      clear h6 hb6
      go_wp2_with fail
      refine hA.mono ?_
      clear hA
      rintro e w7 ⟨rfl, h7, hb7⟩
      have H7 := Lib.hid (And.intro (H3.out.1 _ h7.right.right.right) (H6.out.trans hb7))
      clear h7 hb7
      go_wp2_with fail
      go_ret
      exact ⟨rfl, below_wholeD H7.out.1 H7.out.2⟩
    case neg =>
      have hbl0 : ((bl : Int) == 0) = false := by
        rw [beq_eq_false_iff_ne]
        intro h
        apply hbn
        apply List.eq_nil_of_length_eq_zero
        have := HB.out.2.1
        omega
      have hbl1 : ¬ bl = 0 := by
        rw [beq_eq_false_iff_ne] at hbl0
        omega
      rw [rdRead_more H2.out.2.1 HB.out.1.2 hbn] at hR2
      clear hbn
      go_wp2_with fail
      refine hR2.mono ?_
      clear hR2
      rintro e w6 ⟨rfl, h6, hb6⟩
      have hA := awake10 w6 _ h6
      have H6 := Lib.hid (H5.out.trans hb6)
      clear h6 hb6
      go_wp2_with fail
      refine hA.mono ?_
      clear hA
      rintro e w7 ⟨rfl, h7, hb7⟩
      have H7 := Lib.hid (And.intro (H3.out.1 _ h7.right) (H6.out.trans hb7))
      clear h7 hb7
      go_wp2_with fail
      go_ret
      exact ⟨rfl, below_wholeD H7.out.1 H7.out.2⟩
end Go.Proofs.Ytkjfplldfjmbaaa
