/- The reference's reader of data: lists. The reference's reader of data, whole. -/
import Derived.Test.YtkjfplldfjmbaaaRefRdB
/- The reference's reader of data: lists. -/
namespace Go.Proofs.Ytkjfplldfjmbaaa
open Go.RowKit
theorem rdNumF_high : ∀ (l : List Int) (k m : Nat) (n : Int) (t : List Int), 0 < k → Bytes l → rdNumF k m l = some (n, t) → ((128 ^ k : Nat) : Int) ≤ n
  | [], k, m, n, t, hk, hu, h => by cases h
  | v :: l, k, m, n, t, hk, hu, h => by
    have hv := hu v (by simp)
    rw [rd_next] at h
    by_cases hc : 6 < k ∨ 1099511627776 < m + v.toNat % 128 * 128 ^ k ∨ (v = 0 ∧ 0 < k)
    · rw [if_pos hc] at h; cases h
    rw [if_neg hc] at h
    by_cases hl : v < 128
    · rw [if_pos hl] at h
      simp only [Option.some.injEq, Prod.mk.injEq] at h
      have h0 : ¬ v = 0 := fun h0 => hc (.inr (.inr ⟨h0, hk⟩))
      have e1 : v.toNat % 128 = v.toNat := Nat.mod_eq_of_lt (by omega)
      have e2 : 1 * 128 ^ k ≤ v.toNat * 128 ^ k := Nat.mul_le_mul_right _ (by omega)
      rw [e1] at h
      rw [← h.1]
      apply Int.ofNat_le.2
      omega
    · rw [if_neg hl] at h
      have h3 := rdNumF_high l (k + 1) _ n t (by omega) (fun x hx => hu x (by simp [hx])) h
      have h4 : 128 ^ k ≤ 128 ^ (k + 1) := Nat.pow_le_pow_right (by decide) (by omega)
      have h5 := Int.ofNat_le.2 h4
      exact Int.le_trans h5 h3
/-- A number that is written where a truth stands. -/
theorem bit_num {l : List Int} (hu : Bytes l) : (rdNumF 0 0 l = none → rdBool l = none) ∧ ∀ y t, rdNumF 0 0 l = some (y, t) → (1 < y → rdBool l = none) ∧ (y ≤ 1 → rdBool l = some (decide (y = 1), t)) := by
  cases l with
  | nil => exact ⟨fun _ => rfl, fun y t h => by cases h⟩
  | cons v l =>
    have hv := hu v (by simp)
    have hN : rdNumF 0 0 (v :: l) = if v < 128 then some (v, l) else rdNumF 1 (v.toNat % 128) l := by
      rw [rd_next, if_neg (by simp; omega)]
      by_cases hl : v < 128
      · rw [if_pos hl, if_pos hl]
        simp
        omega
      · rw [if_neg hl, if_neg hl]
        simp
    rw [hN]
    by_cases hl : v < 128
    · rw [if_pos hl]
      refine ⟨(fun h => by cases h), fun y t h => ?_⟩
      simp only [Option.some.injEq, Prod.mk.injEq] at h
      obtain ⟨rfl, rfl⟩ := h
      exact ⟨fun h => if_pos h, fun h => if_neg (by omega)⟩
    · rw [if_neg hl]
      have hb : rdBool (v :: l) = none := if_pos (by omega)
      refine ⟨fun _ => hb, fun y t h => ⟨fun _ => hb, fun hy => ?_⟩⟩
      have h3 := rdNumF_high l 1 _ y t (by decide) (fun x hx => hu x (by simp [hx])) h
      exfalso
      have h4 : ((128 ^ 1 : Nat) : Int) = 128 := rfl
      rw [h4] at h3
      omega
theorem end6a {deep : Nat} {p : Int} {l1 l3 : List Int} {n : Nat} {b2 : Bool} (h2 : StepR (rdNumF 0 0 l1) false l1 (n : Int) b2 l3) (h3 : b2 = true ∨ rdMany (rdConst deep) n (p + 1) l3 = none) :
    (match rdNum l1 with | none => none | some (n, l2) => kO deep 6 (rdMany (rdConst deep) n.toNat (p + 1) l2)) = none := by
  cases hn : rdNum l1 with
  | none => rfl
  | some r =>
    obtain ⟨nn, t⟩ := r
    have h7 := h2.2.1 rfl
    rw [show rdNumF 0 0 l1 = some (nn, t) from hn] at h7
    obtain ⟨h8, rfl, rfl⟩ := h7
    simp only [Int.toNat_natCast]
    rcases h3 with h | h
    · rw [h8] at h; cases h
    · rw [h]; rfl
theorem end6b {deep : Nat} {p : Int} {l1 l3 l4 : List Int} {n : Nat} {ds : List Dm} {q : Int} {b2 : Bool} (h2 : StepR (rdNumF 0 0 l1) false l1 (n : Int) b2 l3) (h3 : b2 = false ∧ rdMany (rdConst deep) n (p + 1) l3 = some (ds, q, l4)) :
    (match rdNum l1 with | none => none | some (n, l2) => kO deep 6 (rdMany (rdConst deep) n.toNat (p + 1) l2)) = kO deep 6 (some (ds, q, l4)) := by
  obtain ⟨_, e2⟩ := h2.good h3.1
  rw [show rdNum l1 = some ((n : Int), l3) from e2]
  simp only [Int.toNat_natCast]
  rw [h3.2]
theorem kO_none {deep : Nat} {ds : List Dm} {q : Int} {l : List Int} (h : rdBool l = none) : kO deep 6 (some (ds, q, l)) = none := by simp [kO, h]
theorem kO_false {deep : Nat} {ds : List Dm} {q : Int} {l t : List Int} (h : rdBool l = some (false, t)) : kO deep 6 (some (ds, q, l)) = some (.mk 6 0 false [] noT ds [], q, t) := by simp [kO, h]
theorem kO_true {deep : Nat} {ds : List Dm} {q : Int} {l t : List Int} (h : rdBool l = some (true, t)) : kO deep 6 (some (ds, q, l)) = (match rdConst deep q t with | none => none | some (r, q2, l5) => some (.mk 6 0 false [] noT ds [r], q2, l5)) := by
  simp only [kO, h, if_true]
  cases rdConst deep q t with
  | none => rfl
  | some r => rfl
set_option maxRecDepth 100000 in
set_option maxHeartbeats 8000000 in
theorem rfd_k6 (deep : Nat) (w : World) (B R : HP) (gr : Nat) (l : List Int) (left : Int) (h : RfAt w B R gr false l left) (p : Int) (hp : left = 20000 - p ∧ 0 ≤ p ∧ p ≤ 20000) (hl : l.length ≤ 67108864) (hp1 : ¬ 20000 < p + 1) (k : Int) (l1 : List Int) (hn : rdNumF 0 0 l = some (k, l1)) (hk : k = 6) (hIH : RfDatAt deep) (dp : Int) (hdp : dp = 101 - ((deep + 1 : Nat) : Int)) (hdb : deep ≤ 100) :
    Calls Try.prog 42 #[.pointer (some ⟨gr, 0, none⟩), .int .i64 dp] w (RfdPost B R gr false l (rdConst (deep + 1) p l) w) := by
  have hB := h.sub
  have h1 := h.alloc (dmO [.int .i64 0, .int .i64 0, .bool false, .slice none 0 0, .string ⟨#[]⟩, .slice none 0 0, .slice none 0 0])
  have hb1 := Below.zero_alloc w (dmO [.int .i64 0, .int .i64 0, .bool false, .slice none 0 0, .string ⟨#[]⟩, .slice none 0 0, .slice none 0 0])
  obtain ⟨c1, f1, hq1⟩ := h1.lefts
  obtain ⟨left1, hl1⟩ : ∃ x, left - 1 = x := ⟨_, rfl⟩
  have h2 := hq1 left1
  have hb2 := hb1.setCell (p := ⟨gr, 2, none⟩) (Nat.zero_le _) (.int .i64 left1)
  have c2 := h2.lefts.1
  obtain ⟨g4, hg4⟩ : ∃ g, w.heap.size = g := ⟨_, rfl⟩
  rw [hg4] at h2
  have hN := rf_num _ _ _ gr false l left1 h2
  have hkb := rdNumF_bd l 0 0 k l1 hn
  have hre : rdConst (deep + 1) p l = (match rdNum l1 with | none => none | some (n, l2) => kO deep 6 (rdMany (rdConst deep) n.toNat (p + 1) l2)) := by subst hk; simp only [rdConst, if_neg hp1, show rdNum l = some (6, l1) from hn]; rfl
  have e1 : decide (left1 < 0) = false := by rw [decide_eq_false_iff_not]; omega
  have e3 : decide (dp > 100) = false := by rw [decide_eq_false_iff_not]; omega
  have e4 : decide (100 < dp) = false := by rw [decide_eq_false_iff_not]; omega
  have e2 : IntKind.i64.wrap (left - 1) = left1 := by rw [IntWalk.i64_in _ (by omega)]; exact hl1
  obtain ⟨o, ho⟩ : ∃ o, rdConst (deep + 1) p l = o := ⟨_, rfl⟩
  rw [ho]
  have HO := Lib.hid (ho.symm.trans hre)
  clear ho
  have H0 := Lib.hid (And.intro hB (And.intro hb2 (And.intro hkb (And.intro hdp (And.intro hdb (And.intro hp (And.intro hl (And.intro hl1 hn))))))))
  have HP1 := Lib.hid hp1
  have HK := Lib.hid hk
  clear hk h h1 hb1 hq1 h2 hb2 hn hkb hre hB hdp hdb hp hl hp1 hl1
  go_enter Try.func42, Try.ntmps42
  go_upto_region 1 with (fail)
  go_upto_region 2 with (fail)
  clear c1 f1
  try rw [hg4]
  clear hg4
  generalize (w.alloc (dmO [.int .i64 0, .int .i64 0, .bool false, .slice none 0 0, .string ⟨#[]⟩, .slice none 0 0, .slice none 0 0])).setCell ⟨gr, 2, none⟩ (.int .i64 left1) = w2 at *
  go_wp2_with fail
  refine hN.mono ?_
  clear hN c2
  rintro e w3 ⟨x, bad', l', rfl, hxb, hst, h3, hb3⟩
  have hst2 := hst.2.1 rfl
  rw [H0.out.2.2.2.2.2.2.2.2] at hst2
  obtain ⟨rfl, rfl, rfl⟩ := hst2
  clear hst hxb
  have h4 := h3.alloc (dmO [.int .i64 x, .int .i64 0, .bool false, .slice none 0 0, .string ⟨#[]⟩, .slice none 0 0, .slice none 0 0])
  have hb4 := (H0.out.2.1.trans hb3).trans (Below.zero_alloc w3 (dmO [.int .i64 x, .int .i64 0, .bool false, .slice none 0 0, .string ⟨#[]⟩, .slice none 0 0, .slice none 0 0]))
  obtain ⟨g5, hg5⟩ : ∃ g, w3.heap.size = g := ⟨_, rfl⟩
  rw [hg5] at h4
  have c0 := ((show sat _ _ from h4.fr).left.cell 0).trans (show _ = some (Value.int .i64 x) from rfl)
  have c5 := h4.bads.1
  have H4 := Lib.hid (And.intro h4 hb4)
  clear h3 hb3 h4 hb4
  go_upto_region 5 with (fail)
  try rw [hg5]
  clear hg5
  generalize w3.alloc (dmO [.int .i64 x, .int .i64 0, .bool false, .slice none 0 0, .string ⟨#[]⟩, .slice none 0 0, .slice none 0 0]) = w4 at *
  obtain rfl : x = 6 := HK.out
  have HIH := Lib.hid hIH
  clear hIH
  have hN5 := rf_num w4 B _ gr false l' left1 H4.out.1
  go_wp2_with fail
  refine hN5.mono ?_
  clear hN5 c0 c5
  rintro e w7 ⟨y, bad0, l3, rfl, hyb, hst7, h7, hb7⟩
  obtain ⟨N, rfl⟩ : ∃ n : Nat, y = n := ⟨y.toNat, by omega⟩
  have H7 := Lib.hid (And.intro h7 (And.intro (H4.out.2.trans hb7) (And.intro hst7 hyb.2)))
  clear h7 hb7 hst7 hyb
  obtain ⟨i0, hi, hz0, hz1, hz2⟩ := info_parts info_dm
  have HI := Lib.hid (And.intro hi (And.intro hz0 (And.intro hz1 hz2)))
  clear hi hz0 hz1 hz2
  obtain ⟨dq, hdq⟩ : ∃ x : Int, dp + 1 = x := ⟨_, rfl⟩
  have hdw : IntKind.i64.wrap (dp + 1) = dq := by rw [IntWalk.i64_in _ (by have := H0.out.2.2.2.1; have := H0.out.2.2.2.2.1; omega)]; exact hdq
  have hdw2 : wrap64 (dp + 1) = dq := by rw [IntWalk.wrap64_in _ (by have := H0.out.2.2.2.1; have := H0.out.2.2.2.2.1; omega)]; exact hdq
  have HDQ := Lib.hid (show dq = 101 - (deep : Int) by have := H0.out.2.2.2.1; omega)
  clear hdq
  have HLL := Lib.hid (show l3.length ≤ 67108864 by have := H7.out.2.2.1.2.2; have := H0.out.2.2.1; have := H0.out.2.2.2.2.2.2; omega)
  go_wp2_with fail
  go_loopw [10] (RfmRel w B R gr g4 g5 6 deep p bad0 N l3 l3.length) (fun i _ => N - (intOf i).toNat)
  case atStart =>
    refine ⟨0, [], p + 1, bad0, l3, left1, none, 0, [], emp, rfl, rfl, fun cs h => by simp at h, Nat.le_refl _, fun _ => by have := HLL.out; omega, by decide, ?_, H7.out.2.1, fun hb => ⟨hb, Nat.zero_le _, by have := H0.out.2.2.2.2.2; omega, by have := H0.out.2.2.2.2.2; have := HP1.out; omega, rfl, fun i d cs h _ => by simp at h, ?_⟩, fun hb => .inl hb⟩
    · obtain ⟨ao, cap, q1, q2, q3, q4, q5⟩ := H7.out.1
      exact ⟨ao, cap, (q1.nil_own (e := 59) (sz := 7)).perm (by rw [HP.emp_mul]; simp only [List.flatten_nil]; ac_rfl), q2, q3, q4, fun w' h => q5 w' h.right.right⟩
    · rw [Nat.sub_zero]
      cases rdMany (rdConst deep) N (p + 1) l3 with
      | none => rfl
      | some r => rfl
  case round =>
    obtain ⟨j, ds, q, bad, l4, lf, ai, ci, css, M, rfl, hcl, hc7, hll, hlen, hj5, h8, hb8, hgd, hbd⟩ := hrel
    have hN63 : (N : Int) ≤ 8796093022208 := H7.out.2.2.2
    by_cases hjN : j < N
    case neg =>
      have e0 : decide (j < N) = false := by rw [decide_eq_false_iff_not]; exact hjN
      have e0' : decide ((j : Int) < (N : Int)) = false := by rw [decide_eq_false_iff_not]; omega
      cases hbb : bad with
      | true =>
        rw [hbb] at h8
        have hbad1 := hbb
        clear hbb
        subst hbad1
        have hdead : bad0 = true ∨ rdMany (rdConst deep) N (p + 1) l3 = none := hbd (by trivial)
        have hE0 : RfAt wr B (blk g5 (dmO [.int .i64 6, .int .i64 0, .bool false, .slice none 0 0, .string ⟨#[]⟩, .slice ai j ci, .slice none 0 0]) * (blk g4 (dmO [.int .i64 0, .int .i64 0, .bool false, .slice none 0 0, .string ⟨#[]⟩, .slice none 0 0, .slice none 0 0]) * ((own 59 7 (.slice ai j ci) j css.flatten * M) * R))) gr true l4 lf := h8.perm (by ac_rfl)
        have c1 := hE0.bads.1
        have c2 := (hE0.fr.left.cell 0).trans (show _ = some (Value.int .i64 6) from rfl)
        have HE0 := Lib.hid (And.intro hE0 (And.intro hb8 (And.intro hdead hll)))
        clear hE0 hb8 hdead hbd hll hlen h8 hjN hj5 hN63 hcl hc7 hgd
        go_upto_region 42 with (fail)
        clear c1 c2
        have hMB : ∀ w', sat w' ((own 59 7 (.slice ai j ci) j css.flatten * M) * R) → sat w' B := fun w' h => H0.out.1 w' h.right
        have hE : RfAt wr B (blk g5 (dmO [.int .i64 6, .int .i64 0, .bool false, .slice none 0 0, .string ⟨#[]⟩, .slice ai j ci, .slice none 0 0]) * (blk g4 (dmO [.int .i64 0, .int .i64 0, .bool false, .slice none 0 0, .string ⟨#[]⟩, .slice none 0 0, .slice none 0 0]) * ((own 59 7 (.slice ai j ci) j css.flatten * M) * R))) gr true l4 lf := HE0.out.1
        have hsE := hE.fr
        obtain ⟨⟨d0, d1, d2, d3, d4, d5, d6⟩, ⟨z0, z1, z2, z3, z4, z5, z6⟩, y0, y1, y2, y3, y4, y5, y6⟩ := fin_cells hsE
        have hE2 : RfAt _ B (blk g4 (dmO [.int .i64 0, .int .i64 0, .bool false, .slice none 0 0, .string ⟨#[]⟩, .slice none 0 0, .slice none 0 0]) * ((own 59 7 (.slice ai j ci) j css.flatten * M) * R)) gr true l4 lf := hE.drop (fun w' h => hMB w' h.right)
        obtain ⟨hF, hC, hbF⟩ := hE2.put7 (.int .i64 6) (.int .i64 0) (.bool false) (.slice none 0 0) (.string ⟨#[]⟩) (.slice ai j ci) (.slice none 0 0) hMB
        have HT := Lib.hid (And.intro hF (And.intro hC ((HE0.out.2.1).trans hbF)))
        clear hE hsE hE2 hF hC hbF hMB
        go_wp2_with fail
        obtain ⟨r0, r1, r2, r3, r4, r5, r6⟩ := HT.out.2.1 _ rfl
        refine bodyPost_ret (v := .agg #[.int .i64 6, .int .i64 0, .bool false, .slice none 0 0, .string ⟨#[]⟩, .slice ai j ci, .slice none 0 0]) (by simp [results, Try.results42, go_sem, r0, r1, r2, r3, r4, r5, r6]) rfl ?_
        refine ⟨_, _, _, _, _, _, _, true, l4, lf, own 59 7 (.slice ai j ci) j css.flatten * M, rfl, (by intro u hu; simp at hu; rcases hu with rfl | rfl | rfl | rfl | rfl | rfl | rfl <;> rfl), HT.out.1, HT.out.2.2, ?_, fun h => (by cases h), fun _ => ?_⟩
        · have := H7.out.2.2.1.2.2; have := HE0.out.2.2.2; have := H0.out.2.2.1; omega
        · rw [HO.out, end6a H7.out.2.2.1 HE0.out.2.2.1]
      | false =>
        rw [hbb] at h8
        have hbad1 := hbb
        clear hbb
        subst hbad1
        have hci : j ≤ ci := by
          obtain ⟨ao, cap, q1, _⟩ := h8
          obtain ⟨_, _, e1, e2⟩ := slice_val q1.right
          cases e1
          exact e2
        have hu4 : Bytes l4 := by obtain ⟨_, _, _, _, _, hu, _⟩ := h8; exact hu
        obtain ⟨q1, q2, q3, q4, q5, q6, q7⟩ := hgd (by trivial)
        have hdks : DKs (own 59 7 (.slice ai j ci) j css.flatten * M) ds ai 0 := row_dks (by omega) (by omega) q6 wr h8.fr
        rw [show N - j = 0 by omega] at q7
        have hko := end6b H7.out.2.2.1 ⟨q1, q7.trans (by simp [rdMany, joinM] : _ = some (ds, q, l4))⟩
        rw [← HO.out] at hko
        have hE0 : RfAt wr B (blk g5 (dmO [.int .i64 6, .int .i64 0, .bool false, .slice none 0 0, .string ⟨#[]⟩, .slice ai j ci, .slice none 0 0]) * (blk g4 (dmO [.int .i64 0, .int .i64 0, .bool false, .slice none 0 0, .string ⟨#[]⟩, .slice none 0 0, .slice none 0 0]) * ((own 59 7 (.slice ai j ci) j css.flatten * M) * R))) gr false l4 lf := h8.perm (by ac_rfl)
        have c1 := hE0.bads.1
        have c2 := (hE0.fr.left.cell 0).trans (show _ = some (Value.int .i64 6) from rfl)
        have hN9 := rf_num wr B _ gr false l4 lf hE0
        have HE0 := Lib.hid (And.intro hko (And.intro hb8 (And.intro hdks (And.intro hci (And.intro hll (And.intro q3 (And.intro q4 (And.intro q5 (And.intro hu4 (hlen (by trivial)))))))))))
        clear hE0 hb8 hko hbd hll hlen h8 hjN hj5 hN63 hcl hc7 hgd hci q1 q2 q3 q4 q5 q6 q7 hdks hu4
        go_upto_region 37 with (fail)
        clear c1 c2
        go_wp2_with fail
        refine hN9.mono ?_
        clear hN9
        rintro e w9 ⟨y, bad9, l5, rfl, hyb, hst9, h9, hb9⟩
        have c1 := h9.bads.1
        have H9 := Lib.hid (And.intro h9 (And.intro (HE0.out.2.1.trans hb9) (And.intro hst9 hyb)))
        clear h9 hb9 hst9 hyb
        by_cases hy1 : 1 < y
        · have eb : decide (y > 1) = true := by rw [decide_eq_true_eq]; omega
          have eb' : decide (1 < y) = true := by rw [decide_eq_true_eq]; omega
          have ec : (y == 1) = false := by rw [beq_eq_false_iff_ne]; omega
          have hko2 : o = none := by
            rw [HE0.out.1]
            apply kO_none
            have hbn := bit_num HE0.out.2.2.2.2.2.2.2.2.1
            cases hb : bad9 with
            | true =>
              rcases H9.out.2.2.1.ofBad hb with h | h
              · cases h
              · exact hbn.1 h
            | false => exact (hbn.2 _ _ (H9.out.2.2.1.good hb).2).1 hy1
          obtain ⟨b1, b2, b3⟩ := H9.out.1.bads
          have HX := Lib.hid (And.intro (b3 true) (And.intro (H9.out.2.1.setCell (p := ⟨gr, 1, none⟩) (Nat.zero_le _) (.bool true)) hko2))
          clear b3 hy1 hko2
          go_upto_region 42 with (fail)
          clear b1 b2 eb eb' ec c1
          generalize w9.setCell ⟨gr, 1, none⟩ (.bool true) = w10 at *
          have hMB : ∀ w', sat w' ((own 59 7 (.slice ai j ci) j css.flatten * M) * R) → sat w' B := fun w' h => H0.out.1 w' h.right
          have hE : RfAt w10 B (blk g5 (dmO [.int .i64 6, .int .i64 0, .bool false, .slice none 0 0, .string ⟨#[]⟩, .slice ai j ci, .slice none 0 0]) * (blk g4 (dmO [.int .i64 0, .int .i64 0, .bool false, .slice none 0 0, .string ⟨#[]⟩, .slice none 0 0, .slice none 0 0]) * ((own 59 7 (.slice ai j ci) j css.flatten * M) * R))) gr true l5 lf := HX.out.1
          have hsE := hE.fr
          obtain ⟨⟨d0, d1, d2, d3, d4, d5, d6⟩, ⟨z0, z1, z2, z3, z4, z5, z6⟩, y0, y1, y2, y3, y4, y5, y6⟩ := fin_cells hsE
          have hE2 : RfAt _ B (blk g4 (dmO [.int .i64 0, .int .i64 0, .bool false, .slice none 0 0, .string ⟨#[]⟩, .slice none 0 0, .slice none 0 0]) * ((own 59 7 (.slice ai j ci) j css.flatten * M) * R)) gr true l5 lf := hE.drop (fun w' h => hMB w' h.right)
          obtain ⟨hF, hC, hbF⟩ := hE2.put7 (.int .i64 6) (.int .i64 0) (.bool false) (.slice none 0 0) (.string ⟨#[]⟩) (.slice ai j ci) (.slice none 0 0) hMB
          have HT := Lib.hid (And.intro hF (And.intro hC ((HX.out.2.1).trans hbF)))
          clear hE hsE hE2 hF hC hbF hMB
          go_wp2_with fail
          obtain ⟨r0, r1, r2, r3, r4, r5, r6⟩ := HT.out.2.1 _ rfl
          refine bodyPost_ret (v := .agg #[.int .i64 6, .int .i64 0, .bool false, .slice none 0 0, .string ⟨#[]⟩, .slice ai j ci, .slice none 0 0]) (by simp [results, Try.results42, go_sem, r0, r1, r2, r3, r4, r5, r6]) rfl ?_
          refine ⟨_, _, _, _, _, _, _, true, l5, lf, own 59 7 (.slice ai j ci) j css.flatten * M, rfl, (by intro u hu; simp at hu; rcases hu with rfl | rfl | rfl | rfl | rfl | rfl | rfl <;> rfl), HT.out.1, HT.out.2.2, ?_, fun h => (by cases h), fun _ => ?_⟩
          · have := H7.out.2.2.1.2.2; have := HE0.out.2.2.2.2.1; have := H9.out.2.2.1.2.2; have := H0.out.2.2.1; omega
          · rw [HX.out.2.2]
        have eb : decide (y > 1) = false := by rw [decide_eq_false_iff_not]; omega
        have eb' : decide (1 < y) = false := by rw [decide_eq_false_iff_not]; omega
        by_cases hy : y = 1
        case neg =>
          have ec : (y == 1) = false := by rw [beq_eq_false_iff_ne]; exact hy
          have HY := Lib.hid (And.intro hy1 hy)
          clear hy1 hy
          go_upto_region 42 with (fail)
          clear eb eb' ec c1
          have hMB : ∀ w', sat w' ((own 59 7 (.slice ai j ci) j css.flatten * M) * R) → sat w' B := fun w' h => H0.out.1 w' h.right
          have hE : RfAt w9 B (blk g5 (dmO [.int .i64 6, .int .i64 0, .bool false, .slice none 0 0, .string ⟨#[]⟩, .slice ai j ci, .slice none 0 0]) * (blk g4 (dmO [.int .i64 0, .int .i64 0, .bool false, .slice none 0 0, .string ⟨#[]⟩, .slice none 0 0, .slice none 0 0]) * ((own 59 7 (.slice ai j ci) j css.flatten * M) * R))) gr bad9 l5 lf := H9.out.1
          have hsE := hE.fr
          obtain ⟨⟨d0, d1, d2, d3, d4, d5, d6⟩, ⟨z0, z1, z2, z3, z4, z5, z6⟩, y0, y1, y2, y3, y4, y5, y6⟩ := fin_cells hsE
          have hE2 : RfAt _ B (blk g4 (dmO [.int .i64 0, .int .i64 0, .bool false, .slice none 0 0, .string ⟨#[]⟩, .slice none 0 0, .slice none 0 0]) * ((own 59 7 (.slice ai j ci) j css.flatten * M) * R)) gr bad9 l5 lf := hE.drop (fun w' h => hMB w' h.right)
          obtain ⟨hF, hC, hbF⟩ := hE2.put7 (.int .i64 6) (.int .i64 0) (.bool false) (.slice none 0 0) (.string ⟨#[]⟩) (.slice ai j ci) (.slice none 0 0) hMB
          have HT := Lib.hid (And.intro hF (And.intro hC ((H9.out.2.1).trans hbF)))
          clear hE hsE hE2 hF hC hbF hMB
          go_wp2_with fail
          obtain ⟨r0, r1, r2, r3, r4, r5, r6⟩ := HT.out.2.1 _ rfl
          refine bodyPost_ret (v := .agg #[.int .i64 6, .int .i64 0, .bool false, .slice none 0 0, .string ⟨#[]⟩, .slice ai j ci, .slice none 0 0]) (by simp [results, Try.results42, go_sem, r0, r1, r2, r3, r4, r5, r6]) rfl ?_
          refine ⟨_, _, _, _, _, _, _, bad9, l5, lf, own 59 7 (.slice ai j ci) j css.flatten * M, rfl, (by intro u hu; simp at hu; rcases hu with rfl | rfl | rfl | rfl | rfl | rfl | rfl <;> rfl), HT.out.1, HT.out.2.2, ?_, fun h => (by cases h), fun _ => ?_⟩
          · have := H7.out.2.2.1.2.2; have := HE0.out.2.2.2.2.1; have := H9.out.2.2.1.2.2; have := H0.out.2.2.1; omega
          · rw [HE0.out.1]
            have hbn := bit_num HE0.out.2.2.2.2.2.2.2.2.1
            cases hb : bad9 with
            | true =>
              have hn : rdBool l4 = none := by
                rcases H9.out.2.2.1.ofBad hb with h | h
                · cases h
                · exact hbn.1 h
              rw [kO_none hn]
            | false =>
              have hn := (hbn.2 _ _ (H9.out.2.2.1.good hb).2).2 (by have := HY.out; omega)
              rw [decide_eq_false (by exact HY.out.2)] at hn
              rw [kO_false hn]
              refine ⟨rfl, rfl, HE0.out.2.2.2.2.2.1, ?_⟩
              have hh := DK.mk (kind := 6) (n := 0) (neg := false) (mag := []) (text := noT) (items := ds) (rest := []) (am := none) (ai := ai) (ar := none) (cm := 0) (ci := ci) (cr := 0) (R := own 59 7 (.slice ai j ci) j css.flatten * M) ⟨by omega, by omega⟩ (fun w h j x hx => by simp at hx) (fun x hx => by simp at hx) ⟨Nat.le_refl _, by have := HE0.out.2.2.2.1; have := HE0.out.2.2.2.2.2.2.2.1; omega, Nat.le_refl _⟩ HE0.out.2.2.1 DKs.nil
              rw [HE0.out.2.2.2.2.2.2.2.1] at hh
              exact hh
        subst hy
        cases hb : bad9 with
        | true =>
          have hko2 : o = none := by
            rw [HE0.out.1]
            apply kO_none
            rcases H9.out.2.2.1.ofBad hb with h | h
            · cases h
            · exact (bit_num HE0.out.2.2.2.2.2.2.2.2.1).1 h
          rw [hb] at c1
          have HX := Lib.hid (And.intro (show RfAt w9 B _ gr true l5 lf from hb ▸ H9.out.1) hko2)
          clear hko2 hb hy1
          go_upto_region 42 with (fail)
          clear eb eb' c1
          have hMB : ∀ w', sat w' ((own 59 7 (.slice ai j ci) j css.flatten * M) * R) → sat w' B := fun w' h => H0.out.1 w' h.right
          have hE : RfAt w9 B (blk g5 (dmO [.int .i64 6, .int .i64 0, .bool false, .slice none 0 0, .string ⟨#[]⟩, .slice ai j ci, .slice none 0 0]) * (blk g4 (dmO [.int .i64 0, .int .i64 0, .bool false, .slice none 0 0, .string ⟨#[]⟩, .slice none 0 0, .slice none 0 0]) * ((own 59 7 (.slice ai j ci) j css.flatten * M) * R))) gr true l5 lf := HX.out.1
          have hsE := hE.fr
          obtain ⟨⟨d0, d1, d2, d3, d4, d5, d6⟩, ⟨z0, z1, z2, z3, z4, z5, z6⟩, y0, y1, y2, y3, y4, y5, y6⟩ := fin_cells hsE
          have hE2 : RfAt _ B (blk g4 (dmO [.int .i64 0, .int .i64 0, .bool false, .slice none 0 0, .string ⟨#[]⟩, .slice none 0 0, .slice none 0 0]) * ((own 59 7 (.slice ai j ci) j css.flatten * M) * R)) gr true l5 lf := hE.drop (fun w' h => hMB w' h.right)
          obtain ⟨hF, hC, hbF⟩ := hE2.put7 (.int .i64 6) (.int .i64 0) (.bool false) (.slice none 0 0) (.string ⟨#[]⟩) (.slice ai j ci) (.slice none 0 0) hMB
          have HT := Lib.hid (And.intro hF (And.intro hC ((H9.out.2.1).trans hbF)))
          clear hE hsE hE2 hF hC hbF hMB
          go_wp2_with fail
          obtain ⟨r0, r1, r2, r3, r4, r5, r6⟩ := HT.out.2.1 _ rfl
          refine bodyPost_ret (v := .agg #[.int .i64 6, .int .i64 0, .bool false, .slice none 0 0, .string ⟨#[]⟩, .slice ai j ci, .slice none 0 0]) (by simp [results, Try.results42, go_sem, r0, r1, r2, r3, r4, r5, r6]) rfl ?_
          refine ⟨_, _, _, _, _, _, _, true, l5, lf, own 59 7 (.slice ai j ci) j css.flatten * M, rfl, (by intro u hu; simp at hu; rcases hu with rfl | rfl | rfl | rfl | rfl | rfl | rfl <;> rfl), HT.out.1, HT.out.2.2, ?_, fun h => (by cases h), fun _ => ?_⟩
          · have := H7.out.2.2.1.2.2; have := HE0.out.2.2.2.2.1; have := H9.out.2.2.1.2.2; have := H0.out.2.2.1; omega
          · rw [HX.out.2]
        | false =>
          have hn := ((bit_num HE0.out.2.2.2.2.2.2.2.2.1).2 _ _ (H9.out.2.2.1.good hb).2).2 (by omega)
          rw [decide_eq_true rfl] at hn
          have hko2 := HE0.out.1.trans (kO_true hn)
          rw [hb] at c1
          have h9 : RfAt w9 B _ gr false l5 lf := hb ▸ H9.out.1
          obtain ⟨FF, hFF⟩ : ∃ FF : HP, FF = blk g5 (dmO [.int .i64 6, .int .i64 0, .bool false, .slice none 0 0, .string ⟨#[]⟩, .slice ai j ci, .slice none 0 0]) * (blk g4 (dmO [.int .i64 0, .int .i64 0, .bool false, .slice none 0 0, .string ⟨#[]⟩, .slice none 0 0, .slice none 0 0]) * ((own 59 7 (.slice ai j ci) j css.flatten * M) * R)) := ⟨_, rfl⟩
          rw [← hFF] at h9
          have hFR : ∀ w', sat w' FF → sat w' R := fun w' h => by rw [hFF] at h; exact h.right.right.right
          have hF5 : ∀ w', sat w' FF → w'.cell? ⟨g5, 6, none⟩ = some (.slice none 0 0) := fun w' h => by rw [hFF] at h; exact (h.left.cell 6).trans rfl
          have hC := fun (w' : World) (h : RfAt w' B FF gr false l5 lf) => HIH.out w' B FF gr false l5 lf q h ⟨rfl, HE0.out.2.2.2.2.2.1, HE0.out.2.2.2.2.2.2.1⟩ (by have := HE0.out.2.2.2.2.2.2.2.2.2; have := H9.out.2.2.1.2.2; omega) dq HDQ.out
          have o1 : ∀ (w3 : World) (M2 : HP) (v0 v1 v2 v3 v4 v5 v6 : Value) (bad8 : Bool) (l8 : List Int) (lf8 : Int), RfAt w3 B (M2 * FF) gr bad8 l8 lf8 →
              w3.cell? ⟨g5, 6, none⟩ = some (.slice none 0 0) ∧ (w3.alloc (dmO [v0, v1, v2, v3, v4, v5, v6])).cell? ⟨g5, 6, none⟩ = some (.slice none 0 0) ∧
              (∀ (j' : Nat) u, [v0, v1, v2, v3, v4, v5, v6][j']? = some u → (w3.alloc (dmO [v0, v1, v2, v3, v4, v5, v6])).cell? ((⟨w3.heap.size, 0, none⟩ : Addr).add j') = some u) ∧
              ∃ ao cap, sat (w3.alloc (dmO [v0, v1, v2, v3, v4, v5, v6])) (own 59 7 (.slice none 0 0) 0 [] * (blk w3.heap.size (dmO [v0, v1, v2, v3, v4, v5, v6]) * (blk gr (.cells #[.slice ao l8.length cap, .bool bad8, .int .i64 lf8] 80 (0, 0)) * (blk g5 (dmO [.int .i64 6, .int .i64 0, .bool false, .slice none 0 0, .string ⟨#[]⟩, .slice ai j ci, .slice none 0 0]) * ((M2 * (own 59 7 (.slice ai j ci) j css.flatten * M)) * (blk g4 (dmO [.int .i64 0, .int .i64 0, .bool false, .slice none 0 0, .string ⟨#[]⟩, .slice none 0 0, .slice none 0 0]) * R)))))) ∧ l8.length ≤ cap ∧ (∀ w', sat w' B → CellsAt w' ao (l8.map bv)) ∧ Bytes l8 := by
            rintro w3 M2 v0 v1 v2 v3 v4 v5 v6 bad8 l8 lf8 ⟨ao, cap, q1', q2, q3, q4, q5⟩
            have h2 := q1'.alloc (dmO [v0, v1, v2, v3, v4, v5, v6])
            refine ⟨hF5 _ q1'.right.right, hF5 _ h2.right.right.right, ?_, ao, cap, (h2.nil_own (e := 59) (sz := 7)).perm (by rw [hFF]; ac_rfl), q2, q3, q4⟩
            intro j' u hu
            rw [show ((⟨w3.heap.size, 0, none⟩ : Addr).add j') = ⟨w3.heap.size, j', none⟩ by unfold Addr.add; split <;> simp_all, h2.left.cell j', ← hu]
            simp
          have o2 : ∀ (w9 : World) (bl : Nat) (o o2 : Obj) (b7 c7 : Nat) (xs : List Value) (X : HP), sat w9 (row 59 7 b7 c7 xs * (blk bl o * (blk gr o2 * (blk g5 (dmO [.int .i64 6, .int .i64 0, .bool false, .slice none 0 0, .string ⟨#[]⟩, .slice ai j ci, .slice none 0 0]) * X)))) →
              w9.cell? ⟨g5, 6, none⟩ = some (.slice none 0 0) ∧ w9.frozen? ⟨g5, 6, none⟩ = false := fun w9 bl o o2 b7 c7 xs X h => ⟨(h.right.right.right.left.cell 6).trans rfl, h.right.right.right.left.frozen 6⟩
          have c5 := hF5 w9 h9.fr
          have HO1 := Lib.hid (And.intro o1 o2)
          have HKO := Lib.hid hko2
          have HC := Lib.hid (And.intro hC (show RfAt w9.drew B FF gr false l5 lf from h9))
          clear o1 o2 hFF hFR hF5 hC hko2 hn hb h9 hy1
          go_upto_region 41 with (fail)
          clear c1 eb eb'
          go_wp2_with fail
          go_region_law
            (first
              | (go_simp; go_at_call 42; refine (HC.out.1 _ HC.out.2).mono ?_; rintro e w3' ⟨v0, v1, v2, v3, v4, v5, v6, bad8, l8, lf8, M2, rfl, hone, h3, hb3, hl5, hbb, hgg⟩; obtain ⟨y1, y2, y3, ao, cap, y4, y5, y6, y7⟩ := HO1.out.1 w3' M2 v0 v1 v2 v3 v4 v5 v6 bad8 l8 lf8 h3)
              | (refine step_append_sat rfl (.tmp 160) (.tmp 165) 35 rfl 59 i0 zeroDm 7 112 Try.underlying35 HI.out.1 HI.out.2.1 HI.out.2.2.1 HI.out.2.2.2 rfl _ 0 [] (by rfl) _ y4 ⟨w3'.heap.size, 0, none⟩ 1 1 [v0, v1, v2, v3, v4, v5, v6] (by rfl) rfl y3 hone (by decide) (by decide) (by omega) ?_; intro b7 c7 w11 hs9 hc9 hb11; obtain ⟨z5, z6⟩ := HO1.out.2 _ _ _ _ _ _ _ _ hs9))
          all_goals (
            rw [List.nil_append, Nat.zero_add] at *
            have hrow := sat.shut_own (n := 1) rfl hc9 hs9
            have hs10 : sat w11 (blk g5 (dmO [.int .i64 6, .int .i64 0, .bool false, .slice none 0 0, .string ⟨#[]⟩, .slice ai j ci, .slice none 0 0]) * (blk gr (.cells #[.slice ao l8.length cap, .bool bad8, .int .i64 lf8] 80 (0, 0)) * (own 59 7 (.slice (some ⟨b7, 0, none⟩) 1 c7) 1 [v0, v1, v2, v3, v4, v5, v6] * ((M2 * (own 59 7 (.slice ai j ci) j css.flatten * M)) * (blk g4 (dmO [.int .i64 0, .int .i64 0, .bool false, .slice none 0 0, .string ⟨#[]⟩, .slice none 0 0, .slice none 0 0]) * R))))) := (show sat w11 (blk w3'.heap.size (dmO [v0, v1, v2, v3, v4, v5, v6]) * _) from hrow.perm (by ac_rfl)).right
            have hs12 : sat (w11.setCell ⟨g5, 6, none⟩ (.slice (some ⟨b7, 0, none⟩) 1 c7)) (blk g5 (dmO [.int .i64 6, .int .i64 0, .bool false, .slice none 0 0, .string ⟨#[]⟩, .slice ai j ci, .slice (some ⟨b7, 0, none⟩) 1 c7]) * (blk gr (.cells #[.slice ao l8.length cap, .bool bad8, .int .i64 lf8] 80 (0, 0)) * (own 59 7 (.slice (some ⟨b7, 0, none⟩) 1 c7) 1 [v0, v1, v2, v3, v4, v5, v6] * ((M2 * (own 59 7 (.slice ai j ci) j css.flatten * M)) * (blk g4 (dmO [.int .i64 0, .int .i64 0, .bool false, .slice none 0 0, .string ⟨#[]⟩, .slice none 0 0, .slice none 0 0]) * R))))) := hs10.setCell (off := 6) _
            have hb12 : Below 0 w (w11.setCell ⟨g5, 6, none⟩ (.slice (some ⟨b7, 0, none⟩) 1 c7)) := (((H9.out.2.1.drew.trans hb3).trans (Below.zero_alloc _ _)).trans hb11).setCell (p := ⟨g5, 6, none⟩) (Nat.zero_le _) _
            have hRF : RfAt (w11.setCell ⟨g5, 6, none⟩ (.slice (some ⟨b7, 0, none⟩) 1 c7)) B (blk g5 (dmO [.int .i64 6, .int .i64 0, .bool false, .slice none 0 0, .string ⟨#[]⟩, .slice ai j ci, .slice (some ⟨b7, 0, none⟩) 1 c7]) * (blk g4 (dmO [.int .i64 0, .int .i64 0, .bool false, .slice none 0 0, .string ⟨#[]⟩, .slice none 0 0, .slice none 0 0]) * ((own 59 7 (.slice (some ⟨b7, 0, none⟩) 1 c7) 1 [v0, v1, v2, v3, v4, v5, v6] * (M2 * (own 59 7 (.slice ai j ci) j css.flatten * M))) * R))) gr bad8 l8 lf8 := ⟨ao, cap, hs12.perm (by ac_rfl), y5, y6, y7, fun w' h => H0.out.1 w' h.right.right.right⟩
            have HF := Lib.hid (And.intro hRF (And.intro hb12 (And.intro hl5 (And.intro hgg hc9))))
            clear hs9 hs10 hs12 hb12 hb3 hb11 h3 y1 y2 y3 y4 y5 y6 y7 hl5 hbb hgg hc9 hone HO1 HC hrow hRF
            go_upto_region 42 with (fail)
            clear z5 z6 c5
            generalize w11.setCell ⟨g5, 6, none⟩ (.slice (some ⟨b7, 0, none⟩) 1 c7) = w12 at *
            have hMB : ∀ w', sat w' ((own 59 7 (.slice (some ⟨b7, 0, none⟩) 1 c7) 1 [v0, v1, v2, v3, v4, v5, v6] * (M2 * (own 59 7 (.slice ai j ci) j css.flatten * M))) * R) → sat w' B := fun w' h => H0.out.1 w' h.right
            have hE : RfAt w12 B (blk g5 (dmO [.int .i64 6, .int .i64 0, .bool false, .slice none 0 0, .string ⟨#[]⟩, .slice ai j ci, .slice (some ⟨b7, 0, none⟩) 1 c7]) * (blk g4 (dmO [.int .i64 0, .int .i64 0, .bool false, .slice none 0 0, .string ⟨#[]⟩, .slice none 0 0, .slice none 0 0]) * ((own 59 7 (.slice (some ⟨b7, 0, none⟩) 1 c7) 1 [v0, v1, v2, v3, v4, v5, v6] * (M2 * (own 59 7 (.slice ai j ci) j css.flatten * M))) * R))) gr bad8 l8 lf8 := HF.out.1
            have hsE := hE.fr
            obtain ⟨⟨d0, d1, d2, d3, d4, d5, d6⟩, ⟨z0, z1, z2, z3, z4, z5, z6⟩, y0, y1, y2, y3, y4, y5, y6⟩ := fin_cells hsE
            have hE2 : RfAt _ B (blk g4 (dmO [.int .i64 0, .int .i64 0, .bool false, .slice none 0 0, .string ⟨#[]⟩, .slice none 0 0, .slice none 0 0]) * ((own 59 7 (.slice (some ⟨b7, 0, none⟩) 1 c7) 1 [v0, v1, v2, v3, v4, v5, v6] * (M2 * (own 59 7 (.slice ai j ci) j css.flatten * M))) * R)) gr bad8 l8 lf8 := hE.drop (fun w' h => hMB w' h.right)
            obtain ⟨hF, hC, hbF⟩ := hE2.put7 (.int .i64 6) (.int .i64 0) (.bool false) (.slice none 0 0) (.string ⟨#[]⟩) (.slice ai j ci) (.slice (some ⟨b7, 0, none⟩) 1 c7) hMB
            have HT := Lib.hid (And.intro hF (And.intro hC ((HF.out.2.1).trans hbF)))
            clear hE hsE hE2 hF hC hbF hMB
            go_wp2_with fail
            obtain ⟨r0, r1, r2, r3, r4, r5, r6⟩ := HT.out.2.1 _ rfl
            refine bodyPost_ret (v := .agg #[.int .i64 6, .int .i64 0, .bool false, .slice none 0 0, .string ⟨#[]⟩, .slice ai j ci, .slice (some ⟨b7, 0, none⟩) 1 c7]) (by simp [results, Try.results42, go_sem, r0, r1, r2, r3, r4, r5, r6]) rfl ?_
            refine ⟨_, _, _, _, _, _, _, bad8, l8, lf8, (own 59 7 (.slice (some ⟨b7, 0, none⟩) 1 c7) 1 [v0, v1, v2, v3, v4, v5, v6] * (M2 * (own 59 7 (.slice ai j ci) j css.flatten * M))), rfl, (by intro u hu; simp at hu; rcases hu with rfl | rfl | rfl | rfl | rfl | rfl | rfl <;> rfl), HT.out.1, HT.out.2.2, ?_, fun h => (by cases h), fun _ => ?_⟩
            · have := H7.out.2.2.1.2.2; have := HE0.out.2.2.2.2.1; have := H9.out.2.2.1.2.2; have := H0.out.2.2.1; have := HF.out.2.2.1; omega
            · rw [HKO.out]
              have hg9 := HF.out.2.2.2.1 (by trivial)
              cases hr : rdConst deep q l5 with
              | none => rw [hr] at hg9; exact hg9
              | some r =>
                obtain ⟨d, q1, t⟩ := r
                rw [hr] at hg9
                obtain ⟨u1, u2, u3, u4⟩ := hg9
                refine ⟨u1, u2, u3, ?_⟩
                have hdr : DKs (own 59 7 (.slice (some ⟨b7, 0, none⟩) 1 c7) 1 [v0, v1, v2, v3, v4, v5, v6] * M2) [d] (some ⟨b7, 0, none⟩) 0 := by
                  have := row_dks (l := [d]) (css := [[v0, v1, v2, v3, v4, v5, v6]]) (ao := some ⟨b7, 0, none⟩) (n := 1) (c := c7) (M := M2) rfl rfl (fun i d' cs hd hc => by
                    cases i with
                    | zero => simp at hd hc; subst hd; subst hc; exact u4
                    | succ i => simp at hd) w12 (Q := emp) (by
                      obtain ⟨_, _, hs, _⟩ := HF.out.1
                      rw [HP.mul_emp]
                      exact hs.right.right.right.left.left)
                  exact this
                have hh := DK.mk (kind := 6) (n := 0) (neg := false) (mag := []) (text := noT) (items := ds) (rest := [d]) (am := none) (ai := ai) (ar := some ⟨b7, 0, none⟩) (cm := 0) (ci := ci) (cr := c7) (R := (own 59 7 (.slice (some ⟨b7, 0, none⟩) 1 c7) 1 [v0, v1, v2, v3, v4, v5, v6] * (M2 * (own 59 7 (.slice ai j ci) j css.flatten * M)))) ⟨by omega, by omega⟩ (fun w h j x hx => by simp at hx) (fun x hx => by simp at hx) ⟨Nat.le_refl _, by have := HE0.out.2.2.2.1; have := HE0.out.2.2.2.2.2.2.2.1; omega, HF.out.2.2.2.2⟩ (HE0.out.2.2.1.mono (fun w h => h.right.right) _) (hdr.mono (fun w h => (show sat w ((own 59 7 (.slice (some ⟨b7, 0, none⟩) 1 c7) 1 [v0, v1, v2, v3, v4, v5, v6] * M2) * (own 59 7 (.slice ai j ci) j css.flatten * M)) from h.perm (by ac_rfl)).left) _)
                rw [HE0.out.2.2.2.2.2.2.2.1] at hh
                exact hh)
    have e0 : decide (j < N) = true := by rw [decide_eq_true_eq]; exact hjN
    have e0' : decide ((j : Int) < (N : Int)) = true := by rw [decide_eq_true_eq]; omega
    cases hbb : bad with
    | true =>
      rw [hbb] at h8
      have hbad1 := hbb
      clear hbb
      subst hbad1
      have hdead : bad0 = true ∨ rdMany (rdConst deep) N (p + 1) l3 = none := hbd (by trivial)
      have hE0 : RfAt wr B (blk g5 (dmO [.int .i64 6, .int .i64 0, .bool false, .slice none 0 0, .string ⟨#[]⟩, .slice ai j ci, .slice none 0 0]) * (blk g4 (dmO [.int .i64 0, .int .i64 0, .bool false, .slice none 0 0, .string ⟨#[]⟩, .slice none 0 0, .slice none 0 0]) * ((own 59 7 (.slice ai j ci) j css.flatten * M) * R))) gr true l4 lf := h8.perm (by ac_rfl)
      have c1 := hE0.bads.1
      have c2 := (hE0.fr.left.cell 0).trans (show _ = some (Value.int .i64 6) from rfl)
      have HE0 := Lib.hid (And.intro hE0 (And.intro hb8 (And.intro hdead hll)))
      clear hE0 hb8 hdead hbd hll hlen h8 hjN hj5 hN63 hcl hc7 hgd
      go_upto_region 42 with (fail)
      clear c1 c2
      have hMB : ∀ w', sat w' ((own 59 7 (.slice ai j ci) j css.flatten * M) * R) → sat w' B := fun w' h => H0.out.1 w' h.right
      have hE : RfAt wr B (blk g5 (dmO [.int .i64 6, .int .i64 0, .bool false, .slice none 0 0, .string ⟨#[]⟩, .slice ai j ci, .slice none 0 0]) * (blk g4 (dmO [.int .i64 0, .int .i64 0, .bool false, .slice none 0 0, .string ⟨#[]⟩, .slice none 0 0, .slice none 0 0]) * ((own 59 7 (.slice ai j ci) j css.flatten * M) * R))) gr true l4 lf := HE0.out.1
      have hsE := hE.fr
      obtain ⟨⟨d0, d1, d2, d3, d4, d5, d6⟩, ⟨z0, z1, z2, z3, z4, z5, z6⟩, y0, y1, y2, y3, y4, y5, y6⟩ := fin_cells hsE
      have hE2 : RfAt _ B (blk g4 (dmO [.int .i64 0, .int .i64 0, .bool false, .slice none 0 0, .string ⟨#[]⟩, .slice none 0 0, .slice none 0 0]) * ((own 59 7 (.slice ai j ci) j css.flatten * M) * R)) gr true l4 lf := hE.drop (fun w' h => hMB w' h.right)
      obtain ⟨hF, hC, hbF⟩ := hE2.put7 (.int .i64 6) (.int .i64 0) (.bool false) (.slice none 0 0) (.string ⟨#[]⟩) (.slice ai j ci) (.slice none 0 0) hMB
      have HT := Lib.hid (And.intro hF (And.intro hC ((HE0.out.2.1).trans hbF)))
      clear hE hsE hE2 hF hC hbF hMB
      go_wp2_with fail
      obtain ⟨r0, r1, r2, r3, r4, r5, r6⟩ := HT.out.2.1 _ rfl
      refine bodyPost_ret (v := .agg #[.int .i64 6, .int .i64 0, .bool false, .slice none 0 0, .string ⟨#[]⟩, .slice ai j ci, .slice none 0 0]) (by simp [results, Try.results42, go_sem, r0, r1, r2, r3, r4, r5, r6]) rfl ?_
      refine ⟨_, _, _, _, _, _, _, true, l4, lf, own 59 7 (.slice ai j ci) j css.flatten * M, rfl, (by intro u hu; simp at hu; rcases hu with rfl | rfl | rfl | rfl | rfl | rfl | rfl <;> rfl), HT.out.1, HT.out.2.2, ?_, fun h => (by cases h), fun _ => ?_⟩
      · have := H7.out.2.2.1.2.2; have := HE0.out.2.2.2; have := H0.out.2.2.1; omega
      · rw [HO.out, end6a H7.out.2.2.1 HE0.out.2.2.1]
    | false =>
      rw [hbb] at h8
      have hbad1 := hbb
      clear hbb
      subst hbad1
      have c1 := h8.bads.1
      obtain ⟨hg1, hg2, hg3, hg4, hg5, hg6, hg7⟩ := hgd rfl
      have hlen1 := hlen rfl
      obtain ⟨FF, hFF⟩ : ∃ FF : HP, FF = own 59 7 (.slice ai j ci) j css.flatten * (M * (blk g5 (dmO [.int .i64 6, .int .i64 0, .bool false, .slice none 0 0, .string ⟨#[]⟩, .slice ai j ci, .slice none 0 0]) * (blk g4 (dmO [.int .i64 0, .int .i64 0, .bool false, .slice none 0 0, .string ⟨#[]⟩, .slice none 0 0, .slice none 0 0]) * R))) := ⟨_, rfl⟩
      rw [← hFF] at h8
      have hFR : ∀ w', sat w' FF → sat w' R := fun w' h => by rw [hFF] at h; exact h.right.right.right.right
      have hF5 : ∀ w', sat w' FF → w'.cell? ⟨g5, 5, none⟩ = some (.slice ai j ci) := fun w' h => by rw [hFF] at h; exact (h.right.right.left.cell 5).trans rfl
      have hC := fun (w' : World) (h : RfAt w' B FF gr false l4 lf) => HIH.out w' B FF gr false l4 lf q h ⟨rfl, hg3, hg4⟩ (by omega) dq HDQ.out
      have o1 : ∀ (w3 : World) (M2 : HP) (v0 v1 v2 v3 v4 v5 v6 : Value) (bad9 : Bool) (l5 : List Int) (lf9 : Int), RfAt w3 B (M2 * FF) gr bad9 l5 lf9 →
          w3.cell? ⟨g5, 5, none⟩ = some (.slice ai j ci) ∧ (w3.alloc (dmO [v0, v1, v2, v3, v4, v5, v6])).cell? ⟨g5, 5, none⟩ = some (.slice ai j ci) ∧
          (∀ (j' : Nat) u, [v0, v1, v2, v3, v4, v5, v6][j']? = some u → (w3.alloc (dmO [v0, v1, v2, v3, v4, v5, v6])).cell? ((⟨w3.heap.size, 0, none⟩ : Addr).add j') = some u) ∧
          ∃ ao cap, sat (w3.alloc (dmO [v0, v1, v2, v3, v4, v5, v6])) (own 59 7 (.slice ai j ci) j css.flatten * (blk w3.heap.size (dmO [v0, v1, v2, v3, v4, v5, v6]) * (blk gr (.cells #[.slice ao l5.length cap, .bool bad9, .int .i64 lf9] 80 (0, 0)) * (blk g5 (dmO [.int .i64 6, .int .i64 0, .bool false, .slice none 0 0, .string ⟨#[]⟩, .slice ai j ci, .slice none 0 0]) * ((M2 * M) * (blk g4 (dmO [.int .i64 0, .int .i64 0, .bool false, .slice none 0 0, .string ⟨#[]⟩, .slice none 0 0, .slice none 0 0]) * R)))))) ∧ l5.length ≤ cap ∧ (∀ w', sat w' B → CellsAt w' ao (l5.map bv)) ∧ Bytes l5 := by
        rintro w3 M2 v0 v1 v2 v3 v4 v5 v6 bad9 l5 lf9 ⟨ao, cap, q1', q2, q3, q4, q5⟩
        have h2 := q1'.alloc (dmO [v0, v1, v2, v3, v4, v5, v6])
        refine ⟨hF5 _ q1'.right.right, hF5 _ h2.right.right.right, ?_, ao, cap, h2.perm (by rw [hFF]; ac_rfl), q2, q3, q4⟩
        intro j' u hu
        rw [show ((⟨w3.heap.size, 0, none⟩ : Addr).add j') = ⟨w3.heap.size, j', none⟩ by unfold Addr.add; split <;> simp_all, h2.left.cell j', ← hu]
        simp
      have o2 : ∀ (w9 : World) (bl : Nat) (o o2 : Obj) (b7 c7 : Nat) (xs : List Value) (X : HP), sat w9 (row 59 7 b7 c7 xs * (blk bl o * (blk gr o2 * (blk g5 (dmO [.int .i64 6, .int .i64 0, .bool false, .slice none 0 0, .string ⟨#[]⟩, .slice ai j ci, .slice none 0 0]) * X)))) →
          w9.cell? ⟨g5, 5, none⟩ = some (.slice ai j ci) ∧ w9.frozen? ⟨g5, 5, none⟩ = false := fun w9 bl o o2 b7 c7 xs X h => ⟨(h.right.right.right.left.cell 5).trans rfl, h.right.right.right.left.frozen 5⟩
      have c5 := hF5 wr h8.fr
      have HO1 := Lib.hid (And.intro o1 o2)
      have HR := Lib.hid (And.intro hg1 (And.intro hg2 (And.intro hg3 (And.intro hg4 (And.intro hg5 (And.intro hg6 (And.intro hg7 (And.intro hlen1 (And.intro hcl (And.intro hc7 (And.intro hll (And.intro hb8 hjN))))))))))))
      have HC := Lib.hid (And.intro hC (show RfAt wr.drew B FF gr false l4 lf from h8))
      clear hg1 hg2 hg3 hg4 hg5 hg6 hg7 hlen1 hcl hc7 hll hb8 hjN hgd hbd hlen h8 hj5 o1 o2 hFF hFR hF5 hC
      go_upto_region 35 with (fail)
      clear c1 e0 e0'
      go_wp2_with fail
      go_region_law
        (first
          | (go_simp; go_at_call 42; refine (HC.out.1 _ HC.out.2).mono ?_; rintro e w3' ⟨v0, v1, v2, v3, v4, v5, v6, bad9, l5, lf9, M2, rfl, hone, h3, hb3, hl5, hbb, hgg⟩; obtain ⟨y1, y2, y3, ao, cap, y4, y5, y6, y7⟩ := HO1.out.1 w3' M2 v0 v1 v2 v3 v4 v5 v6 bad9 l5 lf9 h3)
          | (refine step_append_sat rfl (.tmp 125) (.tmp 130) 35 rfl 59 i0 zeroDm 7 112 Try.underlying35 HI.out.1 HI.out.2.1 HI.out.2.2.1 HI.out.2.2.2 rfl _ j css.flatten (by rfl) _ y4 ⟨w3'.heap.size, 0, none⟩ 1 1 [v0, v1, v2, v3, v4, v5, v6] (by rfl) rfl y3 hone (by have := HR.out.2.2.2.2.2.2.2.1; omega) (by have := HR.out.2.2.2.2.2.2.2.1; unfold maxLen; omega) (by omega) ?_; intro b7 c7 w9 hs9 hc9 hb9; obtain ⟨z5, z6⟩ := HO1.out.2 _ _ _ _ _ _ _ _ hs9))
      all_goals (
        have hs10 : sat w9 (blk g5 (dmO [.int .i64 6, .int .i64 0, .bool false, .slice none 0 0, .string ⟨#[]⟩, .slice ai j ci, .slice none 0 0]) * (blk gr (.cells #[.slice ao l5.length cap, .bool bad9, .int .i64 lf9] 80 (0, 0)) * (row 59 7 b7 c7 (css.flatten ++ [v0, v1, v2, v3, v4, v5, v6]) * ((M2 * M) * (blk g4 (dmO [.int .i64 0, .int .i64 0, .bool false, .slice none 0 0, .string ⟨#[]⟩, .slice none 0 0, .slice none 0 0]) * R))))) := (show sat w9 (blk w3'.heap.size (dmO [v0, v1, v2, v3, v4, v5, v6]) * _) from hs9.perm (by ac_rfl)).right
        have hs11 : sat (w9.setCell ⟨g5, 5, none⟩ (.slice (some ⟨b7, 0, none⟩) (j + 1) c7)) (blk g5 (dmO [.int .i64 6, .int .i64 0, .bool false, .slice none 0 0, .string ⟨#[]⟩, .slice (some ⟨b7, 0, none⟩) (j + 1) c7, .slice none 0 0]) * (blk gr (.cells #[.slice ao l5.length cap, .bool bad9, .int .i64 lf9] 80 (0, 0)) * (row 59 7 b7 c7 (css.flatten ++ [v0, v1, v2, v3, v4, v5, v6]) * ((M2 * M) * (blk g4 (dmO [.int .i64 0, .int .i64 0, .bool false, .slice none 0 0, .string ⟨#[]⟩, .slice none 0 0, .slice none 0 0]) * R))))) := hs10.setCell (off := 5) _
        have hb11 : Below 0 w (w9.setCell ⟨g5, 5, none⟩ (.slice (some ⟨b7, 0, none⟩) (j + 1) c7)) := (((HR.out.2.2.2.2.2.2.2.2.2.2.2.1.drew.trans hb3).trans (Below.zero_alloc _ _)).trans hb9).setCell (p := ⟨g5, 5, none⟩) (Nat.zero_le _) _
        have HF := Lib.hid (And.intro hs11 (And.intro hb11 (And.intro (And.intro hl5 hgg) (And.intro hc9 (And.intro y5 (And.intro y6 y7))))))
        clear hs9 hs10 hs11 hb11 hb3 hb9 h3 y1 y2 y3 y4 y5 y6 y7 z5 z6 hl5 hbb hgg hc9 hone HO1 HC
        have hjw : IntKind.i64.wrap ((j : Int) + 1) = (j : Int) + 1 := IntWalk.i64_in _ (by have := HR.out.2.2.2.2.2.2.2.1; omega)
        have hjw2 : wrap64 ((j : Int) + 1) = (j : Int) + 1 := IntWalk.wrap64_in _ (by have := HR.out.2.2.2.2.2.2.2.1; omega)
        go_wp2_with fail
        go_roundw
        case rel =>
          obtain ⟨g1, g2', ⟨g3, g3'⟩, g4', g5', g6, g7⟩ := HF.out
          obtain ⟨x1, x2, x3, x4, x5, x6, x7, x8, x9, x10, x11, x12, x13⟩ := HR.out
          have hg9 := g3' rfl
          cases hr : rdConst deep q l4 with
          | none =>
            rw [hr] at hg9
            obtain rfl : bad9 = true := hg9
            refine ⟨j + 1, ds, q, true, l5, lf9, some ⟨b7, 0, none⟩, c7, css ++ [[v0, v1, v2, v3, v4, v5, v6]], M2 * M, rfl, by simp [x9], ?_, by omega, (fun h => by cases h), by omega, ?_, g2', (fun h => by cases h), fun _ => .inr ?_⟩
            · intro cs hcs
              rcases List.mem_append.1 hcs with h | h
              · exact x10 cs h
              · simp at h; subst h; rfl
            · rw [List.flatten_append, List.flatten_cons, List.flatten_nil, List.append_nil]
              have hfl : (css.flatten ++ [v0, v1, v2, v3, v4, v5, v6]).length = (j + 1) * 7 := by
                rw [List.length_append, flat7 x10, x9]
                show _ + 7 = _
                omega
              have g8 := sat.shut_own (n := j + 1) hfl g4' (g1.perm (show _ = row 59 7 b7 c7 _ * (blk g5 _ * (blk gr _ * ((M2 * M) * (blk g4 (dmO [.int .i64 0, .int .i64 0, .bool false, .slice none 0 0, .string ⟨#[]⟩, .slice none 0 0, .slice none 0 0]) * R)))) by ac_rfl))
              exact ⟨ao, cap, g8.perm (by ac_rfl), g5', g6, g7, fun w' h => H0.out.1 w' h.right.right.right.right⟩
            · rw [x7, show N - j = (N - (j + 1)) + 1 by omega]
              exact joinM_no hr
          | some r =>
            obtain ⟨d, q1, t⟩ := r
            rw [hr] at hg9
            obtain ⟨rfl, rfl, hlf, hdk2⟩ := hg9
            have hxb := rdConst_bd deep q l4 d q1 l5 hr
            refine ⟨j + 1, ds ++ [d], q1, false, l5, lf9, some ⟨b7, 0, none⟩, c7, css ++ [[v0, v1, v2, v3, v4, v5, v6]], M2 * M, rfl, by simp [x9], ?_, by omega, fun _ => by omega, by omega, ?_, g2', fun _ => ⟨x1, by omega, hlf, by omega, by simp [x5], ?_, ?_⟩, (fun h => by cases h)⟩
            · intro cs hcs
              rcases List.mem_append.1 hcs with h | h
              · exact x10 cs h
              · simp at h; subst h; rfl
            · rw [List.flatten_append, List.flatten_cons, List.flatten_nil, List.append_nil]
              have hfl : (css.flatten ++ [v0, v1, v2, v3, v4, v5, v6]).length = (j + 1) * 7 := by
                rw [List.length_append, flat7 x10, x9]
                show _ + 7 = _
                omega
              have g8 := sat.shut_own (n := j + 1) hfl g4' (g1.perm (show _ = row 59 7 b7 c7 _ * (blk g5 _ * (blk gr _ * ((M2 * M) * (blk g4 (dmO [.int .i64 0, .int .i64 0, .bool false, .slice none 0 0, .string ⟨#[]⟩, .slice none 0 0, .slice none 0 0]) * R)))) by ac_rfl))
              exact ⟨ao, cap, g8.perm (by ac_rfl), g5', g6, g7, fun w' h => H0.out.1 w' h.right.right.right.right⟩
            · intro i d' cs hd hc
              by_cases hik : i < ds.length
              · rw [List.getElem?_append_left hik] at hd
                rw [List.getElem?_append_left (by omega)] at hc
                exact (x6 i d' cs hd hc).mono (fun w h => h.right) _
              · rw [List.getElem?_append_right (by omega)] at hd
                rw [List.getElem?_append_right (by omega), show i - css.length = i - ds.length by omega] at hc
                cases hz : i - ds.length with
                | zero =>
                  rw [hz] at hd hc
                  simp at hd hc
                  subst hd
                  subst hc
                  exact hdk2.mono (fun w h => h.left) _
                | succ z => rw [hz] at hd; simp at hd
            · rw [x7, show N - j = (N - (j + 1)) + 1 by omega]
              exact joinM_next hr
        case measure =>
          have := HR.out.2.2.2.2.2.2.2.2.2.2.2.2
          simp [intOf]; omega)
end Go.Proofs.Ytkjfplldfjmbaaa

/- The reference's reader of data, whole. -/
namespace Go.Proofs.Ytkjfplldfjmbaaa
open Go.RowKit
theorem rf_datum : ∀ deep : Nat, deep ≤ 100 → RfDatAt deep
  | 0, _ => by
    rintro w B R gr bad l left p h ⟨rfl, hp⟩ hl dp hdp
    by_cases hc : left - 1 < 0
    · exact rfd_shut1 w B R gr false l left _ h (by omega) dp hc (fun _ => rfl)
    · exact rfd_shut2 w B R gr false l left _ h (by omega) dp ⟨hc, by omega⟩ (fun _ => rfl)
  | deep + 1, hd => by
    have hIH := rf_datum deep (by omega)
    rintro w B R gr bad l left p h ⟨rfl, hp⟩ hl dp hdp
    by_cases hc : left - 1 < 0
    · refine rfd_shut1 w B R gr false l left _ h (by omega) dp hc (fun _ => ?_)
      unfold rdConst
      rw [if_pos (by omega)]
    have hp1 : ¬ 20000 < p + 1 := by omega
    cases hn : rdNumF 0 0 l with
    | none =>
      refine rfd_shut3 w B R gr false l left _ h (by omega) dp ⟨hc, by omega⟩ (.inr hn) (fun _ => ?_)
      unfold rdConst
      rw [if_neg hp1, show rdNum l = none from hn]
    | some r =>
      obtain ⟨k, l1⟩ := r
      by_cases k1 : k = 1
      · exact rfd_k1 deep w B R gr l left h p hp hl hp1 k l1 hn k1 dp hdp (by omega)
      by_cases k2 : k = 2
      · exact rfd_k2 deep w B R gr l left h p hp hl hp1 k l1 hn k2 dp hdp (by omega)
      by_cases k3 : k = 3
      · exact rfd_k3 deep w B R gr l left h p hp hl hp1 k l1 hn k3 dp hdp (by omega)
      by_cases k4 : k = 4
      · exact rfd_k4 deep w B R gr l left h p hp hl hp1 k l1 hn k4 dp hdp (by omega)
      by_cases k5 : k = 5
      · exact rfd_k5 deep w B R gr l left h p hp hl hp1 k l1 hn k5 dp hdp (by omega)
      by_cases k6 : k = 6
      · exact rfd_k6 deep w B R gr l left h p hp hl hp1 k l1 hn k6 hIH dp hdp (by omega)
      by_cases k7 : k = 7
      · exact rfd_k7 deep w B R gr l left h p hp hl hp1 k l1 hn k7 hIH dp hdp (by omega)
      by_cases k8 : k = 8
      · exact rfd_k8 deep w B R gr l left h p hp hl hp1 k l1 hn k8 dp hdp (by omega)
      by_cases k9 : k = 9
      · exact rfd_k9 deep w B R gr l left h p hp hl hp1 k l1 hn k9 dp hdp (by omega)
      exact rfd_k0 deep w B R gr l left h p hp hl hp1 k l1 hn ⟨k1, k2, k3, k4, k5, k6, k7, k8, k9⟩ dp hdp (by omega)
end Go.Proofs.Ytkjfplldfjmbaaa
