/- PackRound's walk. -/
import Derived.Test.YtkjfplldfjmbaaaBytesOpen
import Derived.Test.YtkjfplldfjmbaaaProtoSame7
import Derived.Test.YtkjfplldfjmbaaaPackRd15
namespace Go.Proofs.Ytkjfplldfjmbaaa
open Go.RowKit
theorem szs_ofD {ps : List Pr} {n : Nat} (h : prSizes ps ≤ n) : ps.length ≤ n ∧ ∀ p ∈ ps, p.code.length ≤ n ∧ Dm.sizes p.consts ≤ n ∧ p.names.length ≤ n := by
  have h0 := prSizes_len ps
  refine ⟨by omega, fun p hp => ?_⟩
  obtain ⟨i, hi⟩ := List.mem_iff_getElem?.1 hp
  have h1 := prSizes_take hi
  have h2 : p.size = 1 + p.name.size + p.code.length + Dm.sizes p.consts + namesZ p.names := rfl
  have h3 := namesZ_len p.names
  omega
theorem below_wholeD {W w' : World} (h : sat w' (whole W)) (hb : Below 0 W w') : Below W.heap.size W w' := ⟨hb.os, hb.tape, hb.output, hb.size, fun k hk => h.whole_get k hk⟩
theorem writeB_bound {R : HP} {ps : List Pr} {ao : Option Addr} {q : Int} (hk : PrKs R ps ao) (ho : okPs ps 0 = some q) (hz : prSizes ps ≤ 1048576) : (writeB ps).length ≤ 62914573 ∧ 5 ≤ (writeB ps).length := by
  have h1 := protosB_len ps (okPs_mem (by decide) ho) hk.dks hz
  have h2 := prSizes_len ps
  have h3 := numB_ten (n := ps.length) (by omega)
  have h4 := numB_pos ps.length
  unfold writeB
  simp only [List.length_append, List.length_cons, List.length_nil]
  omega
set_option maxRecDepth 100000 in
set_option maxHeartbeats 8000000 in
theorem packRound_walk (W : World) (ps : List Pr) (ao : Option Addr) (c : Nat) (b : List Int) (bo : Option Addr) (cb : Nat) (hw : PrKs (whole W) ps ao ∧ prSizes ps + 1 ≤ 1048576 ∧ ps.length ≤ c) (hv : BytesAt (whole W) b bo ∧ b.length + 1 ≤ 1048576 ∧ b.length ≤ cb) :
    Calls Try.prog 6 #[.slice ao ps.length c, .slice bo b.length cb] W fun e W' => e = .returned (.bool true) ∧ Below W.heap.size W W' := by
  obtain ⟨hks, hsz, _⟩ := hw
  obtain ⟨hba, hbl, hbc⟩ := hv
  obtain ⟨hz0, hz1⟩ := szs_ofD (n := 1048576) (show prSizes ps ≤ 1048576 by omega)
  obtain ⟨pl, hpl⟩ : ∃ n, ps.length = n := ⟨_, rfl⟩
  obtain ⟨bl, hbln⟩ : ∃ n, b.length = n := ⟨_, rfl⟩
  rw [hpl, hbln]
  rw [hpl] at hz0
  rw [hbln] at hbl hbc
  have hC1 := copy_protos ps pl hpl (by omega) (by omega) hz1 W (whole W) ao c (sat_whole W) hks
  have H0 := Lib.hid (And.intro hpl (And.intro hsz (And.intro hks (And.intro hz0 hz1))))
  have HB := Lib.hid (And.intro hba (And.intro hbln (And.intro hbl hbc)))
  clear hks hsz hz0 hz1 hpl hba hbl hbc hbln
  go_enter Try.func6, Try.ntmps6
  go_wp2_with fail
  refine hC1.mono ?_
  clear hC1
  rintro e w1 ⟨ro1, rc1, css1, M1, rfl, hrc1, hos1, h1, hb1⟩
  rw [H0.out.1] at hrc1 h1 ⊢
  have hW1 := pack_Write ps pl H0.out.1 (by have := H0.out.2.1; omega) w1 _ ro1 rc1 h1 (hos1.ks h1)
  obtain ⟨F1, hF1⟩ : ∃ F : HP, F = own 38 7 (.slice ro1 pl rc1) pl css1.flatten * (M1 * whole W) := ⟨_, rfl⟩
  rw [← hF1] at hW1
  have hFW : ∀ w', sat w' F1 → sat w' (whole W) := fun w' h => by rw [hF1] at h; exact h.right.right
  have H1 := Lib.hid (And.intro hFW hb1)
  clear hrc1 hos1 h1 hb1 hFW hF1
  go_wp2_with fail
  refine hW1.mono ?_
  clear hW1
  rintro e w2 hW2
  cases ho : okPs ps 0 with
  | none =>
    obtain ⟨rfl, h2, hb2⟩ := hW2.refused ho
    have H2 := Lib.hid (And.intro h2 (H1.out.2.trans hb2))
    clear hW2 h2 hb2 ho
    have hCB := copy_bytes w2 (F1) bo bl cb b HB.out.2.1 H2.out.1 (HB.out.1.mono H1.out.1) (by have := HB.out.2.2.1; omega)
    have HX := Lib.hid (And.intro (H2.out.2) H1.out.1)
    go_wp2_with fail
    refine hCB.mono ?_
    clear hCB
    rintro e w6 ⟨ro6, rc6, rfl, hrc6, h6, hb6⟩
    have hRd := pack_Read w6 _ ro6 rc6 b h6 (fun w' h => own_cellsAt h rfl) HB.out.1.2 (by rw [HB.out.2.1]; exact hrc6) (by have := HB.out.2.1; have := HB.out.2.2.1; omega)
    rw [HB.out.2.1] at hRd
    have H6 := Lib.hid (HX.out.1.trans hb6)
    clear h6 hb6 hrc6
    go_wp2_with fail
    refine hRd.mono ?_
    clear hRd
    rintro e w7 hP7
    cases hrd : rdRead b with
    | none =>
      rw [hrd] at hP7
      obtain ⟨rfl, h7, hb7⟩ := hP7
      have hA := awake10 w7 _ h7
      have H7 := Lib.hid (H6.out.trans hb7)
      clear h7 hb7 hrd
      go_wp2_with fail
      refine hA.mono ?_
      clear hA
      rintro e w8 ⟨rfl, h8, hb8⟩
      have H8 := Lib.hid (And.intro (HX.out.2 _ h8.right) (H7.out.trans hb8))
      clear h8 hb8
      go_wp2_with fail
      go_ret
      exact ⟨rfl, below_wholeD H8.out.1 H8.out.2⟩
    | some qs =>
      rw [hrd] at hP7
      obtain ⟨qo, qc, qss, MQ, rfl, hqc, hqos, h7, hb7⟩ := hP7
      obtain ⟨hbw, hbk⟩ := writeB_of_rdRead HB.out.1.2 hrd
      have hqz := rdRead_size hrd
      obtain ⟨ql, hql⟩ : ∃ n, qs.length = n := ⟨_, rfl⟩
      rw [hql] at h7 hqc ⊢
      obtain ⟨rr, hrr⟩ : ∃ r, okPs qs 0 = some r := Option.isSome_iff_exists.1 hbk
      have hW7 := pack_Write qs ql hql (by have := HB.out.2.1; have := HB.out.2.2.1; omega) w7 _ qo qc h7 (hqos.ks h7)
      have H7 := Lib.hid (And.intro (H6.out.trans hb7) (And.intro hbw hrr))
      clear h7 hb7 hrd hqos hqc hql hqz hbw hbk hrr
      go_wp2_with fail
      refine hW7.mono ?_
      clear hW7
      rintro e w8 hP8
      obtain ⟨v8, rfl, h8, hb8⟩ := hP8.told H7.out.2.2
      obtain ⟨r8, c8, rfl, hc8⟩ := slice_val h8
      have hbl8 : (writeB qs).length = bl := by rw [← H7.out.2.1]; exact HB.out.2.1
      have hSB := same_bytes w8 r8 bo (writeB qs).length bl c8 cb (writeB qs) b (own_cellsAt h8 rfl) (HB.out.1.1 _ (HX.out.2 _ h8.right.right.right.right)) rfl HB.out.2.1 (writeB_u qs) HB.out.1.2
      rw [show (decide (writeB qs = b)) = true by rw [decide_eq_true_eq]; exact H7.out.2.1.symm] at hSB
      have hA := awake10 w8 _ h8
      have H8 := Lib.hid (H7.out.1.trans hb8)
      rw [hbl8] at hSB ⊢
      clear hb8 h8 hc8 hP8 hbl8
      go_wp2_with fail
      refine hSB.mono ?_
      clear hSB
      rintro e w9 ⟨rfl, rfl⟩
      go_wp2_with fail
      refine hA.mono ?_
      clear hA
      rintro e w10 ⟨rfl, h10, hb10⟩
      have H10 := Lib.hid (And.intro (HX.out.2 _ h10.right.right.right.right) (H8.out.trans hb10))
      clear h10 hb10
      go_wp2_with fail
      go_ret
      exact ⟨rfl, below_wholeD H10.out.1 H10.out.2⟩
  | some q =>
    obtain ⟨va, rfl, h2, hb2⟩ := hW2.told ho
    obtain ⟨ra, ca, rfl, hca⟩ := slice_val h2
    have hwl := writeB_bound H0.out.2.2.1 ho (by have := H0.out.2.1; omega)
    have hR := pack_Read w2 _ ra ca (writeB ps) h2 (fun w' h => own_cellsAt h rfl) (writeB_u ps) hca (by omega)
    rw [rdRead_writeB ho (by have := H0.out.2.1; omega)] at hR
    have H2 := Lib.hid (H1.out.2.trans hb2)
    obtain ⟨la, hla⟩ : ∃ n, (writeB ps).length = n := ⟨_, rfl⟩
    rw [hla] at hR ⊢
    clear hW2 h2 hb2 ho hca hwl
    go_wp2_with fail
    refine hR.mono ?_
    clear hR
    rintro e w3 ⟨so, sc, sss, MS, rfl, hsc, hsos, h3, hb3⟩
    rw [H0.out.1] at h3 ⊢
    have hSP := same_protos (ca := c) (cb := sc) h3 ao so ps ps (H0.out.2.2.1.mono (fun w' h => H1.out.1 _ h.right.right.right)) (hsos.ks h3) pl pl H0.out.1 H0.out.1 H0.out.2.2.2.1 H0.out.2.2.2.1 H0.out.2.2.2.2 H0.out.2.2.2.2
    rw [samePs_true.2 rfl] at hSP
    obtain ⟨F3, hF3⟩ : ∃ F : HP, F = own 38 7 (.slice so pl sc) pl sss.flatten * (MS * (own 5 1 (.slice ra la ca) la ((writeB ps).map bv) * F1)) := ⟨_, rfl⟩
    rw [← hF3] at hSP
    have hFW3 : ∀ w', sat w' F3 → sat w' (whole W) := fun w' h => by rw [hF3] at h; exact H1.out.1 _ h.right.right.right
    have H3 := Lib.hid (And.intro hFW3 (H2.out.trans hb3))
    clear h3 hb3 hsc hsos hF3 hFW3 hla
    go_wp2_with fail
    refine hSP.mono ?_
    clear hSP
    rintro e w4 ⟨rfl, h4, hb4⟩
    have H4 := Lib.hid (And.intro h4 (H3.out.2.trans hb4))
    clear h4 hb4
    have hCB := copy_bytes w4 (F3) bo bl cb b HB.out.2.1 H4.out.1 (HB.out.1.mono H3.out.1) (by have := HB.out.2.2.1; omega)
    have HX := Lib.hid (And.intro (H4.out.2) H3.out.1)
    go_wp2_with fail
    refine hCB.mono ?_
    clear hCB
    rintro e w6 ⟨ro6, rc6, rfl, hrc6, h6, hb6⟩
    have hRd := pack_Read w6 _ ro6 rc6 b h6 (fun w' h => own_cellsAt h rfl) HB.out.1.2 (by rw [HB.out.2.1]; exact hrc6) (by have := HB.out.2.1; have := HB.out.2.2.1; omega)
    rw [HB.out.2.1] at hRd
    have H6 := Lib.hid (HX.out.1.trans hb6)
    clear h6 hb6 hrc6
    go_wp2_with fail
    refine hRd.mono ?_
    clear hRd
    rintro e w7 hP7
    cases hrd : rdRead b with
    | none =>
      rw [hrd] at hP7
      obtain ⟨rfl, h7, hb7⟩ := hP7
      have hA := awake10 w7 _ h7
      have H7 := Lib.hid (H6.out.trans hb7)
      clear h7 hb7 hrd
      go_wp2_with fail
      refine hA.mono ?_
      clear hA
      rintro e w8 ⟨rfl, h8, hb8⟩
      have H8 := Lib.hid (And.intro (HX.out.2 _ h8.right) (H7.out.trans hb8))
      clear h8 hb8
      go_wp2_with fail
      go_ret
      exact ⟨rfl, below_wholeD H8.out.1 H8.out.2⟩
    | some qs =>
      rw [hrd] at hP7
      obtain ⟨qo, qc, qss, MQ, rfl, hqc, hqos, h7, hb7⟩ := hP7
      obtain ⟨hbw, hbk⟩ := writeB_of_rdRead HB.out.1.2 hrd
      have hqz := rdRead_size hrd
      obtain ⟨ql, hql⟩ : ∃ n, qs.length = n := ⟨_, rfl⟩
      rw [hql] at h7 hqc ⊢
      obtain ⟨rr, hrr⟩ : ∃ r, okPs qs 0 = some r := Option.isSome_iff_exists.1 hbk
      have hW7 := pack_Write qs ql hql (by have := HB.out.2.1; have := HB.out.2.2.1; omega) w7 _ qo qc h7 (hqos.ks h7)
      have H7 := Lib.hid (And.intro (H6.out.trans hb7) (And.intro hbw hrr))
      clear h7 hb7 hrd hqos hqc hql hqz hbw hbk hrr
      go_wp2_with fail
      refine hW7.mono ?_
      clear hW7
      rintro e w8 hP8
      obtain ⟨v8, rfl, h8, hb8⟩ := hP8.told H7.out.2.2
      obtain ⟨r8, c8, rfl, hc8⟩ := slice_val h8
      have hbl8 : (writeB qs).length = bl := by rw [← H7.out.2.1]; exact HB.out.2.1
      have hSB := same_bytes w8 r8 bo (writeB qs).length bl c8 cb (writeB qs) b (own_cellsAt h8 rfl) (HB.out.1.1 _ (HX.out.2 _ h8.right.right.right.right)) rfl HB.out.2.1 (writeB_u qs) HB.out.1.2
      rw [show (decide (writeB qs = b)) = true by rw [decide_eq_true_eq]; exact H7.out.2.1.symm] at hSB
      have hA := awake10 w8 _ h8
      have H8 := Lib.hid (H7.out.1.trans hb8)
      rw [hbl8] at hSB ⊢
      clear hb8 h8 hc8 hP8 hbl8
      go_wp2_with fail
      refine hSB.mono ?_
      clear hSB
      rintro e w9 ⟨rfl, rfl⟩
      go_wp2_with fail
      refine hA.mono ?_
      clear hA
      rintro e w10 ⟨rfl, h10, hb10⟩
      have H10 := Lib.hid (And.intro (HX.out.2 _ h10.right.right.right.right) (H8.out.trans hb10))
      clear h10 hb10
      go_wp2_with fail
      go_ret
      exact ⟨rfl, below_wholeD H10.out.1 H10.out.2⟩
end Go.Proofs.Ytkjfplldfjmbaaa
