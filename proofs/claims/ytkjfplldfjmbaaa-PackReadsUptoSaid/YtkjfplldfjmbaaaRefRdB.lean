/- The reference's reader of data: texts, symbols, integers. The reference's reader of data: vectors. -/
import Derived.Test.YtkjfplldfjmbaaaRefRdA
/- The reference's reader of data: texts, symbols, integers. -/
namespace Go.Proofs.Ytkjfplldfjmbaaa
open Go.RowKit
theorem end4 {k : Int} {p : Int} {l1 l5 l6 : List Int} {y : Nat} {s : ByteArray} {bad5 bad6 : Bool} {v : List Value} (h1 : StepR (rdNumF 0 0 l1) false l1 (y : Int) bad5 l5) (h2 : StepR (takeP l5 y) bad5 l5 s bad6 l6) {left1 : Int} (hl : left1 = 20000 - (p + 1))
    (hdk : DK emp (.mk k 0 false [] s [] []) v) :
    match (match rdText l1 with | none => none | some (s, l2) => some (Dm.mk k 0 false [] s [] [], p + 1, l2)) with | none => bad6 = true | some (d, q, t) => bad6 = false ∧ l6 = t ∧ left1 = 20000 - q ∧ DK emp d v := by
  have h3 := h1.bind (f := fun a t => takeP t a.toNat) (by rw [Int.toNat_natCast]; exact h2)
  rw [show ((rdNumF 0 0 l1).bind fun r => takeP r.2 r.1.toNat) = rdText l1 from (rdText_bind l1).symm] at h3
  have h4 := h3.2.1 rfl
  cases hc : rdText l1 with
  | none => rw [hc] at h4; exact h4
  | some r =>
    obtain ⟨s', t⟩ := r
    rw [hc] at h4
    obtain ⟨h5, rfl, rfl⟩ := h4
    exact ⟨h5, rfl, hl, hdk⟩
theorem end5 {p : Int} {l1 l5 l6 l7 : List Int} {y : Nat} {s : ByteArray} {n : Int} {bad5 bad6 bad7 : Bool} {v : List Value} (h1 : StepR (rdNumF 0 0 l1) false l1 (y : Int) bad5 l5) (h2 : StepR (takeP l5 y) bad5 l5 s bad6 l6) (h6 : StepR (rdSign l6) bad6 l6 n bad7 l7) {left1 : Int} (hl : left1 = 20000 - (p + 1))
    (hdk : DK emp (.mk 5 n false [] s [] []) v) :
    match (match rdText l1 with | none => none | some (s, l2) => match rdSign l2 with | none => none | some (n, l3) => some (Dm.mk 5 n false [] s [] [], p + 1, l3)) with | none => bad7 = true | some (d, q, t) => bad7 = false ∧ l7 = t ∧ left1 = 20000 - q ∧ DK emp d v := by
  have h3 := h1.bind (f := fun a t => takeP t a.toNat) (by rw [Int.toNat_natCast]; exact h2)
  rw [show ((rdNumF 0 0 l1).bind fun r => takeP r.2 r.1.toNat) = rdText l1 from (rdText_bind l1).symm] at h3
  have h4 := h3.2.1 rfl
  cases hc : rdText l1 with
  | none => rw [hc] at h4; exact h6.1 h4
  | some r =>
    obtain ⟨s', t⟩ := r
    rw [hc] at h4
    obtain ⟨h5, rfl, rfl⟩ := h4
    have h7 := h6.2.1 h5
    simp only []
    cases hd : rdSign l6 with
    | none => rw [hd] at h7; exact h7
    | some r =>
      obtain ⟨n', t⟩ := r
      rw [hd] at h7
      obtain ⟨h8, rfl, rfl⟩ := h7
      exact ⟨h8, rfl, hl, hdk⟩
theorem end1 {p : Int} {l1 l2 l3 l4 : List Int} {n : Nat} {neg : Bool} {acc : List Int} {b1 b2 b3 : Bool} {v : List Value} {M : HP} (h1 : StepR (rdBool l1) false l1 neg b1 l2) (h2 : StepR (rdNumF 0 0 l2) b1 l2 (n : Int) b2 l3) (h3 : (b3 = false → b2 = false ∧ rdLimbs n l3 = some (acc, l4)) ∧ (b3 = true → b2 = true ∨ rdLimbs n l3 = none)) {left1 : Int} (hl : left1 = 20000 - (p + 1))
    (hdk : DK M (.mk 1 0 neg acc noT [] []) v) :
    match (match rdBool l1 with | none => none | some (neg, l2) => match rdNum l2 with | none => none | some (n, l3) => match rdLimbs n.toNat l3 with | none => none | some (mag, l4) => some (Dm.mk 1 0 neg mag noT [] [], p + 1, l4)) with | none => b3 = true | some (d, q, t) => b3 = false ∧ l4 = t ∧ left1 = 20000 - q ∧ DK M d v := by
  cases hb : b3 with
  | false =>
    obtain ⟨e3, e4⟩ := h3.1 hb
    obtain ⟨e1, e2⟩ := h2.good e3
    obtain ⟨_, e0⟩ := h1.good e1
    rw [e0]
    simp only []
    rw [show rdNum l2 = some ((n : Int), l3) from e2]
    simp only [Int.toNat_natCast]
    rw [e4]
    exact ⟨by trivial, rfl, hl, hdk⟩
  | true =>
    have h4 := h3.2 hb
    cases hb1 : rdBool l1 with
    | none => simp
    | some r =>
      obtain ⟨ng, t⟩ := r
      have h5 := h1.2.1 rfl
      rw [hb1] at h5
      obtain ⟨h6, rfl, rfl⟩ := h5
      simp only []
      cases hn : rdNum l2 with
      | none => simp
      | some r =>
        obtain ⟨nn, t⟩ := r
        have h7 := h2.2.1 h6
        rw [show rdNumF 0 0 l2 = some (nn, t) from hn] at h7
        obtain ⟨h8, rfl, rfl⟩ := h7
        simp only [Int.toNat_natCast]
        rcases h4 with h | h
        · rw [h8] at h; cases h
        · rw [h]; simp
set_option maxRecDepth 100000 in
set_option maxHeartbeats 8000000 in
theorem rfd_k4 (deep : Nat) (w : World) (B R : HP) (gr : Nat) (l : List Int) (left : Int) (h : RfAt w B R gr false l left) (p : Int) (hp : left = 20000 - p ∧ 0 ≤ p ∧ p ≤ 20000) (hl : l.length ≤ 67108864) (hp1 : ¬ 20000 < p + 1) (k : Int) (l1 : List Int) (hn : rdNumF 0 0 l = some (k, l1)) (hk : k = 4) (dp : Int) (hdp : dp = 101 - ((deep + 1 : Nat) : Int)) (hdb : deep ≤ 100) :
    Calls Try.prog 42 #[.pointer (some ⟨gr, 0, none⟩), .int .i64 dp] w (RfdPost B R gr false l (rdConst (deep + 1) p l) w) := by
  have hB := h.sub
  have h1 := h.alloc (dmO [.int .i64 0, .int .i64 0, .bool false, .slice none 0 0, .string ⟨#[]⟩, .slice none 0 0, .slice none 0 0])
  have hb1 := Below.zero_alloc w (dmO [.int .i64 0, .int .i64 0, .bool false, .slice none 0 0, .string ⟨#[]⟩, .slice none 0 0, .slice none 0 0])
  obtain ⟨c1, f1, hq1⟩ := h1.lefts
  obtain ⟨left1, hl1⟩ : ∃ x, left - 1 = x := ⟨_, rfl⟩
  have h2 := hq1 left1
  have hb2 := hb1.setCell (p := ⟨gr, 2, none⟩) (Nat.zero_le _) (.int .i64 left1)
  have c2 := h2.lefts.1
  obtain ⟨g4, hg4⟩ : ∃ g, w.heap.size = g := ⟨_, rfl⟩
  rw [hg4] at h2
  have hN := rf_num _ _ _ gr false l left1 h2
  have hkb := rdNumF_bd l 0 0 k l1 hn
  have hre : rdConst (deep + 1) p l = (match rdText l1 with | none => none | some (s, l2) => some (Dm.mk 4 0 false [] s [] [], p + 1, l2)) := by subst hk; simp only [rdConst, if_neg hp1, show rdNum l = some (4, l1) from hn]; rfl
  have e1 : decide (left1 < 0) = false := by rw [decide_eq_false_iff_not]; omega
  have e3 : decide (dp > 100) = false := by rw [decide_eq_false_iff_not]; omega
  have e4 : decide (100 < dp) = false := by rw [decide_eq_false_iff_not]; omega
  have e2 : IntKind.i64.wrap (left - 1) = left1 := by rw [IntWalk.i64_in _ (by omega)]; exact hl1
  obtain ⟨o, ho⟩ : ∃ o, rdConst (deep + 1) p l = o := ⟨_, rfl⟩
  rw [ho]
  have HO := Lib.hid (ho.symm.trans hre)
  clear ho
  have H0 := Lib.hid (And.intro hB (And.intro hb2 (And.intro hkb (And.intro hdp (And.intro hdb (And.intro hp (And.intro hl (And.intro hl1 hn))))))))
  have HP1 := Lib.hid hp1
  have HK := Lib.hid hk
  clear hk h h1 hb1 hq1 h2 hb2 hn hkb hre hB hdp hdb hp hl hp1 hl1
  go_enter Try.func42, Try.ntmps42
  go_upto_region 1 with (fail)
  go_upto_region 2 with (fail)
  clear c1 f1
  try rw [hg4]
  clear hg4
  generalize (w.alloc (dmO [.int .i64 0, .int .i64 0, .bool false, .slice none 0 0, .string ⟨#[]⟩, .slice none 0 0, .slice none 0 0])).setCell ⟨gr, 2, none⟩ (.int .i64 left1) = w2 at *
  go_wp2_with fail
  refine hN.mono ?_
  clear hN c2
  rintro e w3 ⟨x, bad', l', rfl, hxb, hst, h3, hb3⟩
  have hst2 := hst.2.1 rfl
  rw [H0.out.2.2.2.2.2.2.2.2] at hst2
  obtain ⟨rfl, rfl, rfl⟩ := hst2
  clear hst hxb
  have h4 := h3.alloc (dmO [.int .i64 x, .int .i64 0, .bool false, .slice none 0 0, .string ⟨#[]⟩, .slice none 0 0, .slice none 0 0])
  have hb4 := (H0.out.2.1.trans hb3).trans (Below.zero_alloc w3 (dmO [.int .i64 x, .int .i64 0, .bool false, .slice none 0 0, .string ⟨#[]⟩, .slice none 0 0, .slice none 0 0]))
  obtain ⟨g5, hg5⟩ : ∃ g, w3.heap.size = g := ⟨_, rfl⟩
  rw [hg5] at h4
  have c0 := ((show sat _ _ from h4.fr).left.cell 0).trans (show _ = some (Value.int .i64 x) from rfl)
  have c5 := h4.bads.1
  have H4 := Lib.hid (And.intro h4 hb4)
  clear h3 hb3 h4 hb4
  go_upto_region 5 with (fail)
  try rw [hg5]
  clear hg5
  generalize w3.alloc (dmO [.int .i64 x, .int .i64 0, .bool false, .slice none 0 0, .string ⟨#[]⟩, .slice none 0 0, .slice none 0 0]) = w4 at *
  obtain rfl : x = 4 := HK.out
  have hN2 := rf_num w4 B _ gr false l' left1 H4.out.1
  go_wp2_with fail
  refine hN2.mono ?_
  clear hN2 c0 c5
  rintro e w5 ⟨y, bad5, l5, rfl, hyb, hst, h5, hb5⟩
  obtain ⟨yn, rfl⟩ : ∃ n : Nat, y = n := ⟨y.toNat, by omega⟩
  have hT := rf_take_any w5 B _ gr bad5 l5 left1 yn _ rfl h5
  have H5 := Lib.hid (And.intro (H4.out.2.trans hb5) hst)
  clear h5 hb5 hst hyb
  go_wp2_with fail
  refine hT.mono ?_
  clear hT
  rintro e w6 ⟨ro, kz, rc, zs, bad6, l6, rfl, hzl, hzc, hst6, h6, hb6⟩
  have hcv := run_bytes_any (P := Try.prog) (cap := rc) 23 9 5 Try.underlying23 Try.underlying5 Try.underlying9 (w := w6) hzl (hzc w6 (h6.sub _ h6.fr))
  obtain ⟨s, hs⟩ : ∃ s, strOfNums zs = s := ⟨_, rfl⟩
  rw [hs] at hcv hst6
  have f1 := h6.fr.left.frozen 4
  have d1 := (h6.fr.left.cell 4).trans (show _ = some (Value.string ⟨#[]⟩) from rfl)
  have h7 := h6.put 4 (.string s) (fun w' h => H0.out.1 w' h.right)
  have hb7 := (H5.out.1.trans hb6).setCell (p := ⟨g5, 4, none⟩) (Nat.zero_le _) (.string s)
  have H7 := Lib.hid (And.intro h7 (And.intro hb7 hst6))
  clear h6 hb6 h7 hb7 hst6 hs hzl hzc
  go_upto_region 42 with (fail)
  clear f1 d1 hcv
  generalize w6.setCell ⟨g5, 4, none⟩ (.string s) = w7 at *
  have hMB : ∀ w', sat w' (R) → sat w' B := H0.out.1
  have hE : RfAt w7 B (blk g5 (dmO [.int .i64 4, .int .i64 0, .bool false, .slice none 0 0, .string s, .slice none 0 0, .slice none 0 0]) * (blk g4 (dmO [.int .i64 0, .int .i64 0, .bool false, .slice none 0 0, .string ⟨#[]⟩, .slice none 0 0, .slice none 0 0]) * (R))) gr bad6 l6 left1 := H7.out.1
  have hsE := hE.fr
  obtain ⟨⟨d0, d1, d2, d3, d4, d5, d6⟩, ⟨z0, z1, z2, z3, z4, z5, z6⟩, y0, y1, y2, y3, y4, y5, y6⟩ := fin_cells hsE
  have hE2 : RfAt _ B (blk g4 (dmO [.int .i64 0, .int .i64 0, .bool false, .slice none 0 0, .string ⟨#[]⟩, .slice none 0 0, .slice none 0 0]) * (R)) gr bad6 l6 left1 := hE.drop (fun w' h => hMB w' h.right)
  obtain ⟨hF, hC, hbF⟩ := hE2.put7 (.int .i64 4) (.int .i64 0) (.bool false) (.slice none 0 0) (.string s) (.slice none 0 0) (.slice none 0 0) hMB
  have HT := Lib.hid (And.intro hF (And.intro hC ((H7.out.2.1).trans hbF)))
  clear hE hsE hE2 hF hC hbF hMB
  go_wp2_with fail
  obtain ⟨r0, r1, r2, r3, r4, r5, r6⟩ := HT.out.2.1 _ rfl
  refine bodyPost_ret (v := .agg #[.int .i64 4, .int .i64 0, .bool false, .slice none 0 0, .string s, .slice none 0 0, .slice none 0 0]) (by simp [results, Try.results42, go_sem, r0, r1, r2, r3, r4, r5, r6]) rfl ?_
  refine ⟨_, _, _, _, _, _, _, bad6, l6, left1, emp, rfl, (by intro u hu; simp at hu; rcases hu with rfl | rfl | rfl | rfl | rfl | rfl | rfl <;> rfl), HT.out.1.perm (by rw [HP.emp_mul]), HT.out.2.2, ?_, fun h => (by cases h), fun _ => ?_⟩
  · have := H5.out.2.2.2; have := H7.out.2.2.2.2; have := H0.out.2.2.1; omega
  · rw [HO.out]
    exact end4 H5.out.2 H7.out.2.2 (by have := H0.out.2.2.2.2.2; omega) (DK.leaf (by decide) (by decide))
set_option maxRecDepth 100000 in
set_option maxHeartbeats 8000000 in
theorem rfd_k5 (deep : Nat) (w : World) (B R : HP) (gr : Nat) (l : List Int) (left : Int) (h : RfAt w B R gr false l left) (p : Int) (hp : left = 20000 - p ∧ 0 ≤ p ∧ p ≤ 20000) (hl : l.length ≤ 67108864) (hp1 : ¬ 20000 < p + 1) (k : Int) (l1 : List Int) (hn : rdNumF 0 0 l = some (k, l1)) (hk : k = 5) (dp : Int) (hdp : dp = 101 - ((deep + 1 : Nat) : Int)) (hdb : deep ≤ 100) :
    Calls Try.prog 42 #[.pointer (some ⟨gr, 0, none⟩), .int .i64 dp] w (RfdPost B R gr false l (rdConst (deep + 1) p l) w) := by
  have hB := h.sub
  have h1 := h.alloc (dmO [.int .i64 0, .int .i64 0, .bool false, .slice none 0 0, .string ⟨#[]⟩, .slice none 0 0, .slice none 0 0])
  have hb1 := Below.zero_alloc w (dmO [.int .i64 0, .int .i64 0, .bool false, .slice none 0 0, .string ⟨#[]⟩, .slice none 0 0, .slice none 0 0])
  obtain ⟨c1, f1, hq1⟩ := h1.lefts
  obtain ⟨left1, hl1⟩ : ∃ x, left - 1 = x := ⟨_, rfl⟩
  have h2 := hq1 left1
  have hb2 := hb1.setCell (p := ⟨gr, 2, none⟩) (Nat.zero_le _) (.int .i64 left1)
  have c2 := h2.lefts.1
  obtain ⟨g4, hg4⟩ : ∃ g, w.heap.size = g := ⟨_, rfl⟩
  rw [hg4] at h2
  have hN := rf_num _ _ _ gr false l left1 h2
  have hkb := rdNumF_bd l 0 0 k l1 hn
  have hre : rdConst (deep + 1) p l = (match rdText l1 with | none => none | some (s, l2) => match rdSign l2 with | none => none | some (n, l3) => some (Dm.mk 5 n false [] s [] [], p + 1, l3)) := by subst hk; simp only [rdConst, if_neg hp1, show rdNum l = some (5, l1) from hn]; rfl
  have e1 : decide (left1 < 0) = false := by rw [decide_eq_false_iff_not]; omega
  have e3 : decide (dp > 100) = false := by rw [decide_eq_false_iff_not]; omega
  have e4 : decide (100 < dp) = false := by rw [decide_eq_false_iff_not]; omega
  have e2 : IntKind.i64.wrap (left - 1) = left1 := by rw [IntWalk.i64_in _ (by omega)]; exact hl1
  obtain ⟨o, ho⟩ : ∃ o, rdConst (deep + 1) p l = o := ⟨_, rfl⟩
  rw [ho]
  have HO := Lib.hid (ho.symm.trans hre)
  clear ho
  have H0 := Lib.hid (And.intro hB (And.intro hb2 (And.intro hkb (And.intro hdp (And.intro hdb (And.intro hp (And.intro hl (And.intro hl1 hn))))))))
  have HP1 := Lib.hid hp1
  have HK := Lib.hid hk
  clear hk h h1 hb1 hq1 h2 hb2 hn hkb hre hB hdp hdb hp hl hp1 hl1
  go_enter Try.func42, Try.ntmps42
  go_upto_region 1 with (fail)
  go_upto_region 2 with (fail)
  clear c1 f1
  try rw [hg4]
  clear hg4
  generalize (w.alloc (dmO [.int .i64 0, .int .i64 0, .bool false, .slice none 0 0, .string ⟨#[]⟩, .slice none 0 0, .slice none 0 0])).setCell ⟨gr, 2, none⟩ (.int .i64 left1) = w2 at *
  go_wp2_with fail
  refine hN.mono ?_
  clear hN c2
  rintro e w3 ⟨x, bad', l', rfl, hxb, hst, h3, hb3⟩
  have hst2 := hst.2.1 rfl
  rw [H0.out.2.2.2.2.2.2.2.2] at hst2
  obtain ⟨rfl, rfl, rfl⟩ := hst2
  clear hst hxb
  have h4 := h3.alloc (dmO [.int .i64 x, .int .i64 0, .bool false, .slice none 0 0, .string ⟨#[]⟩, .slice none 0 0, .slice none 0 0])
  have hb4 := (H0.out.2.1.trans hb3).trans (Below.zero_alloc w3 (dmO [.int .i64 x, .int .i64 0, .bool false, .slice none 0 0, .string ⟨#[]⟩, .slice none 0 0, .slice none 0 0]))
  obtain ⟨g5, hg5⟩ : ∃ g, w3.heap.size = g := ⟨_, rfl⟩
  rw [hg5] at h4
  have c0 := ((show sat _ _ from h4.fr).left.cell 0).trans (show _ = some (Value.int .i64 x) from rfl)
  have c5 := h4.bads.1
  have H4 := Lib.hid (And.intro h4 hb4)
  clear h3 hb3 h4 hb4
  go_upto_region 5 with (fail)
  try rw [hg5]
  clear hg5
  generalize w3.alloc (dmO [.int .i64 x, .int .i64 0, .bool false, .slice none 0 0, .string ⟨#[]⟩, .slice none 0 0, .slice none 0 0]) = w4 at *
  obtain rfl : x = 5 := HK.out
  have hN2 := rf_num w4 B _ gr false l' left1 H4.out.1
  go_wp2_with fail
  refine hN2.mono ?_
  clear hN2 c0 c5
  rintro e w5 ⟨y, bad5, l5, rfl, hyb, hst, h5, hb5⟩
  obtain ⟨yn, rfl⟩ : ∃ n : Nat, y = n := ⟨y.toNat, by omega⟩
  have hT := rf_take_any w5 B _ gr bad5 l5 left1 yn _ rfl h5
  have H5 := Lib.hid (And.intro (H4.out.2.trans hb5) hst)
  clear h5 hb5 hst hyb
  go_wp2_with fail
  refine hT.mono ?_
  clear hT
  rintro e w6 ⟨ro, kz, rc, zs, bad6, l6, rfl, hzl, hzc, hst6, h6, hb6⟩
  have hcv := run_bytes_any (P := Try.prog) (cap := rc) 23 9 5 Try.underlying23 Try.underlying5 Try.underlying9 (w := w6) hzl (hzc w6 (h6.sub _ h6.fr))
  obtain ⟨s, hs⟩ : ∃ s, strOfNums zs = s := ⟨_, rfl⟩
  rw [hs] at hcv hst6
  have f1 := h6.fr.left.frozen 4
  have d1 := (h6.fr.left.cell 4).trans (show _ = some (Value.string ⟨#[]⟩) from rfl)
  have h7 := h6.put 4 (.string s) (fun w' h => H0.out.1 w' h.right)
  have hb7 := (H5.out.1.trans hb6).setCell (p := ⟨g5, 4, none⟩) (Nat.zero_le _) (.string s)
  have H7 := Lib.hid (And.intro h7 (And.intro hb7 hst6))
  clear h6 hb6 h7 hb7 hst6 hs hzl hzc
  go_upto_region 27 with (fail)
  clear f1 d1 hcv
  generalize w6.setCell ⟨g5, 4, none⟩ (.string s) = w7 at *
  have hS := rf_signed w7 B _ gr bad6 l6 left1 H7.out.1
  go_wp2_with fail
  refine hS.mono ?_
  clear hS
  rintro e w8 ⟨y, bad8, l8, rfl, hyb, hst8, h8, hb8⟩
  have f1 := h8.fr.left.frozen 1
  have d1 := (h8.fr.left.cell 1).trans (show _ = some (Value.int .i64 0) from rfl)
  have h9 := h8.put 1 (.int .i64 y) (fun w' h => H0.out.1 w' h.right)
  have hb9 := (H7.out.2.1.trans hb8).setCell (p := ⟨g5, 1, none⟩) (Nat.zero_le _) (.int .i64 y)
  have H9 := Lib.hid (And.intro h9 (And.intro hb9 (And.intro hst8 hyb)))
  clear h8 hb8 h9 hb9 hst8 hyb
  go_upto_region 42 with (fail)
  clear f1 d1
  generalize w8.setCell ⟨g5, 1, none⟩ (.int .i64 y) = w9 at *
  have hMB : ∀ w', sat w' (R) → sat w' B := H0.out.1
  have hE : RfAt w9 B (blk g5 (dmO [.int .i64 5, .int .i64 y, .bool false, .slice none 0 0, .string s, .slice none 0 0, .slice none 0 0]) * (blk g4 (dmO [.int .i64 0, .int .i64 0, .bool false, .slice none 0 0, .string ⟨#[]⟩, .slice none 0 0, .slice none 0 0]) * (R))) gr bad8 l8 left1 := H9.out.1
  have hsE := hE.fr
  obtain ⟨⟨d0, d1, d2, d3, d4, d5, d6⟩, ⟨z0, z1, z2, z3, z4, z5, z6⟩, y0, y1, y2, y3, y4, y5, y6⟩ := fin_cells hsE
  have hE2 : RfAt _ B (blk g4 (dmO [.int .i64 0, .int .i64 0, .bool false, .slice none 0 0, .string ⟨#[]⟩, .slice none 0 0, .slice none 0 0]) * (R)) gr bad8 l8 left1 := hE.drop (fun w' h => hMB w' h.right)
  obtain ⟨hF, hC, hbF⟩ := hE2.put7 (.int .i64 5) (.int .i64 y) (.bool false) (.slice none 0 0) (.string s) (.slice none 0 0) (.slice none 0 0) hMB
  have HT := Lib.hid (And.intro hF (And.intro hC ((H9.out.2.1).trans hbF)))
  clear hE hsE hE2 hF hC hbF hMB
  go_wp2_with fail
  obtain ⟨r0, r1, r2, r3, r4, r5, r6⟩ := HT.out.2.1 _ rfl
  refine bodyPost_ret (v := .agg #[.int .i64 5, .int .i64 y, .bool false, .slice none 0 0, .string s, .slice none 0 0, .slice none 0 0]) (by simp [results, Try.results42, go_sem, r0, r1, r2, r3, r4, r5, r6]) rfl ?_
  refine ⟨_, _, _, _, _, _, _, bad8, l8, left1, emp, rfl, (by intro u hu; simp at hu; rcases hu with rfl | rfl | rfl | rfl | rfl | rfl | rfl <;> rfl), HT.out.1.perm (by rw [HP.emp_mul]), HT.out.2.2, ?_, fun h => (by cases h), fun _ => ?_⟩
  · have := H5.out.2.2.2; have := H7.out.2.2.2.2; have := H9.out.2.2.1.2.2; have := H0.out.2.2.1; omega
  · rw [HO.out]
    exact end5 H5.out.2 H7.out.2.2 H9.out.2.2.1 (by have := H0.out.2.2.2.2.2; omega) (DK.leaf (by decide) (by have := H9.out.2.2.2; omega))
def RflRel (W : World) (B R : HP) (gr g4 g5 : Nat) (neg : Bool) (left1 : Int) (bad0 : Bool) (N : Nat) (l3 : List Int) (ll : Nat) (i : Value) (wr : World) : Prop :=
  ∃ (j : Nat) (acc : List Int) (bad : Bool) (l : List Int) (am : Option Addr) (cm : Nat), i = .int .i64 j ∧ acc.length = j ∧ (∀ x ∈ acc, 0 ≤ x ∧ x < 4294967296) ∧ l.length ≤ ll ∧ (bad = false → j + l.length ≤ 67108864) ∧ j ≤ 67108865 ∧
    RfAt wr B (own 66 1 (.slice am j cm) j (acc.map fun x => .int .u32 x) * (blk g5 (dmO [.int .i64 1, .int .i64 0, .bool neg, .slice am j cm, .string ⟨#[]⟩, .slice none 0 0, .slice none 0 0]) * (blk g4 (dmO [.int .i64 0, .int .i64 0, .bool false, .slice none 0 0, .string ⟨#[]⟩, .slice none 0 0, .slice none 0 0]) * R))) gr bad l left1 ∧ Below 0 W wr ∧
    (bad = false → bad0 = false ∧ j ≤ N ∧ rdLimbs N l3 = joinL acc (rdLimbs (N - j) l)) ∧ (bad = true → bad0 = true ∨ rdLimbs N l3 = none)
set_option maxRecDepth 100000 in
set_option maxHeartbeats 8000000 in
theorem rfd_k1 (deep : Nat) (w : World) (B R : HP) (gr : Nat) (l : List Int) (left : Int) (h : RfAt w B R gr false l left) (p : Int) (hp : left = 20000 - p ∧ 0 ≤ p ∧ p ≤ 20000) (hl : l.length ≤ 67108864) (hp1 : ¬ 20000 < p + 1) (k : Int) (l1 : List Int) (hn : rdNumF 0 0 l = some (k, l1)) (hk : k = 1) (dp : Int) (hdp : dp = 101 - ((deep + 1 : Nat) : Int)) (hdb : deep ≤ 100) :
    Calls Try.prog 42 #[.pointer (some ⟨gr, 0, none⟩), .int .i64 dp] w (RfdPost B R gr false l (rdConst (deep + 1) p l) w) := by
  have hB := h.sub
  have h1 := h.alloc (dmO [.int .i64 0, .int .i64 0, .bool false, .slice none 0 0, .string ⟨#[]⟩, .slice none 0 0, .slice none 0 0])
  have hb1 := Below.zero_alloc w (dmO [.int .i64 0, .int .i64 0, .bool false, .slice none 0 0, .string ⟨#[]⟩, .slice none 0 0, .slice none 0 0])
  obtain ⟨c1, f1, hq1⟩ := h1.lefts
  obtain ⟨left1, hl1⟩ : ∃ x, left - 1 = x := ⟨_, rfl⟩
  have h2 := hq1 left1
  have hb2 := hb1.setCell (p := ⟨gr, 2, none⟩) (Nat.zero_le _) (.int .i64 left1)
  have c2 := h2.lefts.1
  obtain ⟨g4, hg4⟩ : ∃ g, w.heap.size = g := ⟨_, rfl⟩
  rw [hg4] at h2
  have hN := rf_num _ _ _ gr false l left1 h2
  have hkb := rdNumF_bd l 0 0 k l1 hn
  have hre : rdConst (deep + 1) p l = (match rdBool l1 with | none => none | some (neg, l2) => match rdNum l2 with | none => none | some (n, l3) => match rdLimbs n.toNat l3 with | none => none | some (mag, l4) => some (Dm.mk 1 0 neg mag noT [] [], p + 1, l4)) := by subst hk; simp only [rdConst, if_neg hp1, show rdNum l = some (1, l1) from hn]; rfl
  have e1 : decide (left1 < 0) = false := by rw [decide_eq_false_iff_not]; omega
  have e3 : decide (dp > 100) = false := by rw [decide_eq_false_iff_not]; omega
  have e4 : decide (100 < dp) = false := by rw [decide_eq_false_iff_not]; omega
  have e2 : IntKind.i64.wrap (left - 1) = left1 := by rw [IntWalk.i64_in _ (by omega)]; exact hl1
  obtain ⟨o, ho⟩ : ∃ o, rdConst (deep + 1) p l = o := ⟨_, rfl⟩
  rw [ho]
  have HO := Lib.hid (ho.symm.trans hre)
  clear ho
  have H0 := Lib.hid (And.intro hB (And.intro hb2 (And.intro hkb (And.intro hdp (And.intro hdb (And.intro hp (And.intro hl (And.intro hl1 hn))))))))
  have HP1 := Lib.hid hp1
  have HK := Lib.hid hk
  clear hk h h1 hb1 hq1 h2 hb2 hn hkb hre hB hdp hdb hp hl hp1 hl1
  go_enter Try.func42, Try.ntmps42
  go_upto_region 1 with (fail)
  go_upto_region 2 with (fail)
  clear c1 f1
  try rw [hg4]
  clear hg4
  generalize (w.alloc (dmO [.int .i64 0, .int .i64 0, .bool false, .slice none 0 0, .string ⟨#[]⟩, .slice none 0 0, .slice none 0 0])).setCell ⟨gr, 2, none⟩ (.int .i64 left1) = w2 at *
  go_wp2_with fail
  refine hN.mono ?_
  clear hN c2
  rintro e w3 ⟨x, bad', l', rfl, hxb, hst, h3, hb3⟩
  have hst2 := hst.2.1 rfl
  rw [H0.out.2.2.2.2.2.2.2.2] at hst2
  obtain ⟨rfl, rfl, rfl⟩ := hst2
  clear hst hxb
  have h4 := h3.alloc (dmO [.int .i64 x, .int .i64 0, .bool false, .slice none 0 0, .string ⟨#[]⟩, .slice none 0 0, .slice none 0 0])
  have hb4 := (H0.out.2.1.trans hb3).trans (Below.zero_alloc w3 (dmO [.int .i64 x, .int .i64 0, .bool false, .slice none 0 0, .string ⟨#[]⟩, .slice none 0 0, .slice none 0 0]))
  obtain ⟨g5, hg5⟩ : ∃ g, w3.heap.size = g := ⟨_, rfl⟩
  rw [hg5] at h4
  have c0 := ((show sat _ _ from h4.fr).left.cell 0).trans (show _ = some (Value.int .i64 x) from rfl)
  have c5 := h4.bads.1
  have H4 := Lib.hid (And.intro h4 hb4)
  clear h3 hb3 h4 hb4
  go_upto_region 5 with (fail)
  try rw [hg5]
  clear hg5
  generalize w3.alloc (dmO [.int .i64 x, .int .i64 0, .bool false, .slice none 0 0, .string ⟨#[]⟩, .slice none 0 0, .slice none 0 0]) = w4 at *
  obtain rfl : x = 1 := HK.out
  have hS := rf_bit w4 B _ gr false l' left1 H4.out.1
  go_wp2_with fail
  refine hS.mono ?_
  clear hS c0 c5
  rintro e w5 ⟨neg, bad5, l5, rfl, hst, h5, hb5⟩
  have f1 := h5.fr.left.frozen 2
  have d1 := (h5.fr.left.cell 2).trans (show _ = some (Value.bool false) from rfl)
  have h6 := h5.put 2 (.bool neg) (fun w' h => H0.out.1 w' h.right)
  have hb6 := (H4.out.2.trans hb5).setCell (p := ⟨g5, 2, none⟩) (Nat.zero_le _) (.bool neg)
  have H6 := Lib.hid (And.intro h6 (And.intro hb6 hst))
  clear h5 hb5 h6 hb6 hst
  go_upto_region 11 with (fail)
  clear f1 d1
  generalize w5.setCell ⟨g5, 2, none⟩ (.bool neg) = w6 at *
  have hN7 := rf_num w6 B _ gr bad5 l5 left1 H6.out.1
  go_wp2_with fail
  refine hN7.mono ?_
  clear hN7
  rintro e w7 ⟨y, bad0, l3, rfl, hyb, hst7, h7, hb7⟩
  obtain ⟨N, rfl⟩ : ∃ n : Nat, y = n := ⟨y.toNat, by omega⟩
  have H7 := Lib.hid (And.intro h7 (And.intro (H6.out.2.1.trans hb7) (And.intro hst7 hyb.2)))
  clear h7 hb7 hst7 hyb
  obtain ⟨i0, hi, hz0, hz1, hz2⟩ := info_parts info_lim
  have HI := Lib.hid (And.intro hi (And.intro hz0 (And.intro hz1 hz2)))
  clear hi hz0 hz1 hz2
  have HLL := Lib.hid (show l3.length ≤ 67108864 by have := H7.out.2.2.1.2.2; have := H6.out.2.2.2.2; have := H0.out.2.2.1; have := H0.out.2.2.2.2.2.2; omega)
  go_wp2_with fail
  go_loopw [7] (RflRel w B R gr g4 g5 neg left1 bad0 N l3 l3.length) (fun i _ => N - (intOf i).toNat)
  case atStart =>
    refine ⟨0, [], bad0, l3, none, 0, rfl, rfl, fun x hx => by simp at hx, Nat.le_refl _, fun _ => by have := HLL.out; omega, by decide, ?_, H7.out.2.1, fun hb => ⟨hb, Nat.zero_le _, ?_⟩, fun hb => .inl hb⟩
    · obtain ⟨ao, cap, q1, q2, q3, q4, q5⟩ := H7.out.1
      exact ⟨ao, cap, (q1.nil_own (e := 66) (sz := 1)).perm (by ac_rfl), q2, q3, q4, fun w' h => q5 w' h.right⟩
    · rw [Nat.sub_zero]
      cases rdLimbs N l3 with
      | none => rfl
      | some r => rfl
  case round =>
    obtain ⟨j, acc, bad, l4, am, cm, rfl, haj, hacc, hll, hlen, hj5, h8, hb8, hgd, hbd⟩ := hrel
    have hN63 : (N : Int) ≤ 8796093022208 := H7.out.2.2.2
    by_cases hjN : j < N
    case neg =>
      have e0 : decide (j < N) = false := by rw [decide_eq_false_iff_not]; exact hjN
      have e0' : decide ((j : Int) < (N : Int)) = false := by rw [decide_eq_false_iff_not]; omega
      have hex : (bad = false → bad0 = false ∧ rdLimbs N l3 = some (acc, l4)) ∧ (bad = true → bad0 = true ∨ rdLimbs N l3 = none) := by
        refine ⟨fun hb => ?_, hbd⟩
        obtain ⟨q1, q2, q3⟩ := hgd hb
        refine ⟨q1, ?_⟩
        first
          | (rw [show N - j = 0 by omega] at q3; rw [q3]; simp [rdLimbs, joinL]; done)
          | (exfalso; simp_all; done)
      have hcm : j ≤ cm := by
        obtain ⟨ao, cap, q1, _⟩ := h8
        obtain ⟨_, _, e1, e2⟩ := slice_val q1.right
        cases e1
        exact e2
      have hdk : DK (own 66 1 (.slice am j cm) j (acc.map fun x => .int .u32 x)) (.mk 1 0 neg acc noT [] []) [.int .i64 1, .int .i64 0, .bool neg, .slice am j cm, .string ⟨#[]⟩, .slice none 0 0, .slice none 0 0] := by
        have hh := DK.mk (kind := 1) (n := 0) (neg := neg) (mag := acc) (text := noT) (items := []) (rest := []) (am := am) (ai := none) (ar := none) (cm := cm) (ci := 0) (cr := 0) (R := own 66 1 (.slice am j cm) j (acc.map fun x => .int .u32 x)) ⟨by omega, by omega⟩ (fun w h => by subst haj; exact mag_own (R := emp) (h.perm (HP.mul_emp _).symm)) hacc ⟨by omega, Nat.le_refl _, Nat.le_refl _⟩ DKs.nil DKs.nil
        rw [haj] at hh
        exact hh
      have hE0 : RfAt wr B (blk g5 (dmO [.int .i64 1, .int .i64 0, .bool neg, .slice am j cm, .string ⟨#[]⟩, .slice none 0 0, .slice none 0 0]) * (blk g4 (dmO [.int .i64 0, .int .i64 0, .bool false, .slice none 0 0, .string ⟨#[]⟩, .slice none 0 0, .slice none 0 0]) * (own 66 1 (.slice am j cm) j (acc.map fun x => .int .u32 x) * R))) gr bad l4 left1 := h8.perm (by ac_rfl)
      have c1 := hE0.bads.1
      have HE0 := Lib.hid (And.intro hE0 (And.intro hb8 (And.intro hdk (And.intro hex hll))))
      clear hE0 hb8 hdk hex hgd hbd hll hlen hacc h8 hcm hjN haj hj5 hN63
      go_upto_region 42 with (fail)
      clear c1
      have hMB : ∀ w', sat w' (own 66 1 (.slice am j cm) j (acc.map fun x => .int .u32 x) * R) → sat w' B := fun w' h => H0.out.1 w' h.right
      have hE : RfAt wr B (blk g5 (dmO [.int .i64 1, .int .i64 0, .bool neg, .slice am j cm, .string ⟨#[]⟩, .slice none 0 0, .slice none 0 0]) * (blk g4 (dmO [.int .i64 0, .int .i64 0, .bool false, .slice none 0 0, .string ⟨#[]⟩, .slice none 0 0, .slice none 0 0]) * (own 66 1 (.slice am j cm) j (acc.map fun x => .int .u32 x) * R))) gr bad l4 left1 := HE0.out.1
      have hsE := hE.fr
      obtain ⟨⟨d0, d1, d2, d3, d4, d5, d6⟩, ⟨z0, z1, z2, z3, z4, z5, z6⟩, y0, y1, y2, y3, y4, y5, y6⟩ := fin_cells hsE
      have hE2 : RfAt _ B (blk g4 (dmO [.int .i64 0, .int .i64 0, .bool false, .slice none 0 0, .string ⟨#[]⟩, .slice none 0 0, .slice none 0 0]) * (own 66 1 (.slice am j cm) j (acc.map fun x => .int .u32 x) * R)) gr bad l4 left1 := hE.drop (fun w' h => hMB w' h.right)
      obtain ⟨hF, hC, hbF⟩ := hE2.put7 (.int .i64 1) (.int .i64 0) (.bool neg) (.slice am j cm) (.string ⟨#[]⟩) (.slice none 0 0) (.slice none 0 0) hMB
      have HT := Lib.hid (And.intro hF (And.intro hC ((HE0.out.2.1).trans hbF)))
      clear hE hsE hE2 hF hC hbF hMB
      go_wp2_with fail
      obtain ⟨r0, r1, r2, r3, r4, r5, r6⟩ := HT.out.2.1 _ rfl
      refine bodyPost_ret (v := .agg #[.int .i64 1, .int .i64 0, .bool neg, .slice am j cm, .string ⟨#[]⟩, .slice none 0 0, .slice none 0 0]) (by simp [results, Try.results42, go_sem, r0, r1, r2, r3, r4, r5, r6]) rfl ?_
      refine ⟨_, _, _, _, _, _, _, bad, l4, left1, own 66 1 (.slice am j cm) j (acc.map fun x => .int .u32 x), rfl, (by intro u hu; simp at hu; rcases hu with rfl | rfl | rfl | rfl | rfl | rfl | rfl <;> rfl), HT.out.1, HT.out.2.2, ?_, fun h => (by cases h), fun _ => ?_⟩
      · have := H6.out.2.2.2.2; have := H7.out.2.2.1.2.2; have := HE0.out.2.2.2.2; have := H0.out.2.2.1; omega
      · rw [HO.out]
        exact end1 H6.out.2.2 H7.out.2.2.1 HE0.out.2.2.2.1 (by have := H0.out.2.2.2.2.2; omega) HE0.out.2.2.1
    have e0 : decide (j < N) = true := by rw [decide_eq_true_eq]; exact hjN
    have e0' : decide ((j : Int) < (N : Int)) = true := by rw [decide_eq_true_eq]; omega
    cases hbb : bad with
    | true =>
      rw [hbb] at h8
      have hbad1 := hbb
      clear hbb
      subst hbad1
      have hgd : true = false → bad0 = false ∧ j ≤ N ∧ rdLimbs N l3 = joinL acc (rdLimbs (N - j) l4) := fun h => by cases h
      have hex : (true = false → bad0 = false ∧ rdLimbs N l3 = some (acc, l4)) ∧ (true = true → bad0 = true ∨ rdLimbs N l3 = none) := by
        refine ⟨fun hb => ?_, hbd⟩
        obtain ⟨q1, q2, q3⟩ := hgd hb
        refine ⟨q1, ?_⟩
        first
          | (rw [show N - j = 0 by omega] at q3; rw [q3]; simp [rdLimbs, joinL]; done)
          | (exfalso; simp_all; done)
      have hcm : j ≤ cm := by
        obtain ⟨ao, cap, q1, _⟩ := h8
        obtain ⟨_, _, e1, e2⟩ := slice_val q1.right
        cases e1
        exact e2
      have hdk : DK (own 66 1 (.slice am j cm) j (acc.map fun x => .int .u32 x)) (.mk 1 0 neg acc noT [] []) [.int .i64 1, .int .i64 0, .bool neg, .slice am j cm, .string ⟨#[]⟩, .slice none 0 0, .slice none 0 0] := by
        have hh := DK.mk (kind := 1) (n := 0) (neg := neg) (mag := acc) (text := noT) (items := []) (rest := []) (am := am) (ai := none) (ar := none) (cm := cm) (ci := 0) (cr := 0) (R := own 66 1 (.slice am j cm) j (acc.map fun x => .int .u32 x)) ⟨by omega, by omega⟩ (fun w h => by subst haj; exact mag_own (R := emp) (h.perm (HP.mul_emp _).symm)) hacc ⟨by omega, Nat.le_refl _, Nat.le_refl _⟩ DKs.nil DKs.nil
        rw [haj] at hh
        exact hh
      have hE0 : RfAt wr B (blk g5 (dmO [.int .i64 1, .int .i64 0, .bool neg, .slice am j cm, .string ⟨#[]⟩, .slice none 0 0, .slice none 0 0]) * (blk g4 (dmO [.int .i64 0, .int .i64 0, .bool false, .slice none 0 0, .string ⟨#[]⟩, .slice none 0 0, .slice none 0 0]) * (own 66 1 (.slice am j cm) j (acc.map fun x => .int .u32 x) * R))) gr true l4 left1 := h8.perm (by ac_rfl)
      have c1 := hE0.bads.1
      have HE0 := Lib.hid (And.intro hE0 (And.intro hb8 (And.intro hdk (And.intro hex hll))))
      clear hE0 hb8 hdk hex hgd hbd hll hlen hacc h8 hcm hjN haj hj5 hN63
      go_upto_region 42 with (fail)
      clear c1
      have hMB : ∀ w', sat w' (own 66 1 (.slice am j cm) j (acc.map fun x => .int .u32 x) * R) → sat w' B := fun w' h => H0.out.1 w' h.right
      have hE : RfAt wr B (blk g5 (dmO [.int .i64 1, .int .i64 0, .bool neg, .slice am j cm, .string ⟨#[]⟩, .slice none 0 0, .slice none 0 0]) * (blk g4 (dmO [.int .i64 0, .int .i64 0, .bool false, .slice none 0 0, .string ⟨#[]⟩, .slice none 0 0, .slice none 0 0]) * (own 66 1 (.slice am j cm) j (acc.map fun x => .int .u32 x) * R))) gr true l4 left1 := HE0.out.1
      have hsE := hE.fr
      obtain ⟨⟨d0, d1, d2, d3, d4, d5, d6⟩, ⟨z0, z1, z2, z3, z4, z5, z6⟩, y0, y1, y2, y3, y4, y5, y6⟩ := fin_cells hsE
      have hE2 : RfAt _ B (blk g4 (dmO [.int .i64 0, .int .i64 0, .bool false, .slice none 0 0, .string ⟨#[]⟩, .slice none 0 0, .slice none 0 0]) * (own 66 1 (.slice am j cm) j (acc.map fun x => .int .u32 x) * R)) gr true l4 left1 := hE.drop (fun w' h => hMB w' h.right)
      obtain ⟨hF, hC, hbF⟩ := hE2.put7 (.int .i64 1) (.int .i64 0) (.bool neg) (.slice am j cm) (.string ⟨#[]⟩) (.slice none 0 0) (.slice none 0 0) hMB
      have HT := Lib.hid (And.intro hF (And.intro hC ((HE0.out.2.1).trans hbF)))
      clear hE hsE hE2 hF hC hbF hMB
      go_wp2_with fail
      obtain ⟨r0, r1, r2, r3, r4, r5, r6⟩ := HT.out.2.1 _ rfl
      refine bodyPost_ret (v := .agg #[.int .i64 1, .int .i64 0, .bool neg, .slice am j cm, .string ⟨#[]⟩, .slice none 0 0, .slice none 0 0]) (by simp [results, Try.results42, go_sem, r0, r1, r2, r3, r4, r5, r6]) rfl ?_
      refine ⟨_, _, _, _, _, _, _, true, l4, left1, own 66 1 (.slice am j cm) j (acc.map fun x => .int .u32 x), rfl, (by intro u hu; simp at hu; rcases hu with rfl | rfl | rfl | rfl | rfl | rfl | rfl <;> rfl), HT.out.1, HT.out.2.2, ?_, fun h => (by cases h), fun _ => ?_⟩
      · have := H6.out.2.2.2.2; have := H7.out.2.2.1.2.2; have := HE0.out.2.2.2.2; have := H0.out.2.2.1; omega
      · rw [HO.out]
        exact end1 H6.out.2.2 H7.out.2.2.1 ⟨HE0.out.2.2.2.1.1, fun _ => HE0.out.2.2.2.1.2 (by trivial)⟩ (by have := H0.out.2.2.2.2.2; omega) HE0.out.2.2.1
    | false =>
      rw [hbb] at h8
      have hbad1 := hbb
      clear hbb
      subst hbad1
      have c1 := h8.bads.1
      obtain ⟨hg1, hg2, hg3⟩ := hgd rfl
      have hlen1 := hlen rfl
      have hN8 := rf_num wr B _ gr false l4 left1 h8
      have HG := Lib.hid (And.intro hg1 (And.intro hg2 (And.intro hg3 (And.intro hlen1 (And.intro haj (And.intro hacc (And.intro hll (And.intro hb8 hjN))))))))
      clear hg1 hg2 hg3 hlen1 haj hacc hll hb8 hjN hgd hbd hlen h8 hj5
      go_upto_region 15 with (fail)
      go_wp2_with fail
      refine hN8.mono ?_
      clear hN8 c1
      rintro e wX ⟨x, bad9, l5, rfl, hxb, hst9, h9, hb9⟩
      have HST := Lib.hid (And.intro hst9 hxb)
      obtain ⟨z, hz⟩ : ∃ z, IntKind.u32.wrap x = z := ⟨_, rfl⟩
      have hzb : 0 ≤ z ∧ z < 4294967296 := by rw [← hz, IntKind.wrap_u32]; omega
      have hzx : x < 4294967296 → z = x := by intro h; rw [← hz, IntKind.wrap_u32]; omega
      have HZ := Lib.hid (And.intro hzb hzx)
      clear hzb hzx hst9
      have hb9' := HG.out.2.2.2.2.2.2.2.1.trans hb9
      clear hb9
      by_cases hbig : 4294967296 ≤ x
      case' pos =>
        have eb : decide (x ≥ 4294967296) = true := by rw [decide_eq_true_eq]; omega
        have eb' : decide (4294967296 ≤ x) = true := by rw [decide_eq_true_eq]; omega
        obtain ⟨b1, b2, b3⟩ := h9.bads
        obtain ⟨bY, hbY⟩ : ∃ b, b = true := ⟨_, rfl⟩
        have h9' := b3 true
        have h9b : RfAt (wX.setCell ⟨gr, 1, none⟩ (.bool true)) B (own 66 1 (.slice am j cm) j (acc.map fun x => .int .u32 x) * (blk g5 (dmO [.int .i64 1, .int .i64 0, .bool neg, .slice am j cm, .string ⟨#[]⟩, .slice none 0 0, .slice none 0 0]) * (blk g4 (dmO [.int .i64 0, .int .i64 0, .bool false, .slice none 0 0, .string ⟨#[]⟩, .slice none 0 0, .slice none 0 0]) * R))) gr bY l5 left1 := by rw [hbY]; exact h9'
        have hb9a := hb9'.setCell (p := ⟨gr, 1, none⟩) (Nat.zero_le _) (.bool true)
        have HX := Lib.hid (And.intro h9b (And.intro hb9a (And.intro (show bY = false → bad9 = false ∧ x < 4294967296 from fun h => by rw [hbY] at h; cases h) (show bY = true → bad9 = true ∨ 4294967296 ≤ x from fun _ => .inr hbig))))
        clear h9 b3 h9' hb9' hb9a hbig hxb h9b hbY
        go_upto_region 18 with (fail)
        clear b1 b2 eb eb'
        generalize wX.setCell ⟨gr, 1, none⟩ (.bool true) = wY at *
      case' neg =>
        have eb : decide (x ≥ 4294967296) = false := by rw [decide_eq_false_iff_not]; omega
        have eb' : decide (4294967296 ≤ x) = false := by rw [decide_eq_false_iff_not]; omega
        obtain ⟨bY, hbY⟩ : ∃ b, b = bad9 := ⟨_, rfl⟩
        rw [← hbY] at h9
        have HX := Lib.hid (And.intro h9 (And.intro hb9' (And.intro (show bY = false → bad9 = false ∧ x < 4294967296 from fun h => ⟨hbY.symm.trans h, by omega⟩) (show bY = true → bad9 = true ∨ 4294967296 ≤ x from fun h => .inl (hbY.symm.trans h)))))
        clear h9 hb9' hbig hxb hbY
        go_upto_region 18 with (fail)
        clear eb eb'
        obtain ⟨wY, hwY⟩ : ∃ y, y = wX := ⟨_, rfl⟩
        subst hwY
      all_goals (
        have h9 := HX.out.1
        have f3 := h9.fr.right.left.frozen 3
        have c3 := (h9.fr.right.left.cell 3).trans (show _ = some (Value.slice am j cm) from rfl)
        obtain ⟨ao, cap, q1, q2, q3, q4, q5⟩ := h9
        have q6 := q1.alloc (.cells #[.int .u32 z] 66)
        have q7 : sat (wY.alloc (.cells #[.int .u32 z] 66)) (own 66 1 (.slice am j cm) j (acc.map fun x => .int .u32 x) * (blk wY.heap.size (.cells #[.int .u32 z] 66 (0, 0)) * (blk gr (.cells #[.slice ao l5.length cap, .bool bY, .int .i64 left1] 80 (0, 0)) * (blk g5 (dmO [.int .i64 1, .int .i64 0, .bool neg, .slice am j cm, .string ⟨#[]⟩, .slice none 0 0, .slice none 0 0]) * (blk g4 (dmO [.int .i64 0, .int .i64 0, .bool false, .slice none 0 0, .string ⟨#[]⟩, .slice none 0 0, .slice none 0 0]) * R))))) := q6.perm (by ac_rfl)
        have hcl : CellsAt (wY.alloc (.cells #[.int .u32 z] 66)) (some ⟨wY.heap.size, 0, none⟩) [.int .u32 z] := by
          intro j u hj
          refine ⟨_, rfl, ?_⟩
          rw [show ((⟨wY.heap.size, 0, none⟩ : Addr).add j) = ⟨wY.heap.size, j, none⟩ by unfold Addr.add; split <;> simp_all, q6.left.cell j, ← hj]
          simp
        have HQ := Lib.hid (And.intro q7 (And.intro hcl (And.intro q2 (And.intro q3 (And.intro q4 (HX.out.2.1.trans (Below.zero_alloc wY (.cells #[.int .u32 z] 66))))))))
        clear q1 q2 q3 q4 q5 q6 q7 hcl
        go_wp2_with (at_builtin; refine hold ?_)
        refine held ?_
        obtain ⟨hi, hz0, hz1, hz2⟩ := HI.out
        refine wpList_append_opt rfl (.tmp 72) (.tmp 75) 55 rfl 66 i0 (.int .u32 0) 1 4 Try.underlying55 hi hz0 hz1 hz2 rfl (by decide) (.slice am j cm) j (acc.map fun x => .int .u32 x) rfl _ (some ⟨wY.heap.size, 0, none⟩) 1 1 [.int .u32 z] rfl ?_ HQ.out.1 rfl HQ.out.2.1 (by intro u hu; simp at hu; subst hu; rfl) (by have := HG.out.2.2.2.1; omega) (by have := HG.out.2.2.2.1; unfold maxLen; omega)
        clear hi hz0 hz1 hz2 f3 c3
        intro v10 w10 h10 hb10
        obtain ⟨am2, cm2, rfl, hcm2⟩ := slice_val h10
        have h11 := h10.perm (show _ = blk g5 (dmO [.int .i64 1, .int .i64 0, .bool neg, .slice am j cm, .string ⟨#[]⟩, .slice none 0 0, .slice none 0 0]) * (blk wY.heap.size (.cells #[.int .u32 z] 66 (0, 0)) * (own 66 1 (.slice am2 (j + 1) cm2) (j + 1) ((acc.map fun x => .int .u32 x) ++ [.int .u32 z]) * (blk gr (.cells #[.slice ao l5.length cap, .bool bY, .int .i64 left1] 80 (0, 0)) * (blk g4 (dmO [.int .i64 0, .int .i64 0, .bool false, .slice none 0 0, .string ⟨#[]⟩, .slice none 0 0, .slice none 0 0]) * R)))) by ac_rfl)
        have f3 := h11.left.frozen 3
        have c3 := (h11.left.cell 3).trans (show _ = some (Value.slice am j cm) from rfl)
        have h12 : sat (w10.setCell ⟨g5, 3, none⟩ (.slice am2 (j + 1) cm2)) (blk g5 (dmO [.int .i64 1, .int .i64 0, .bool neg, .slice am2 (j + 1) cm2, .string ⟨#[]⟩, .slice none 0 0, .slice none 0 0]) * (blk wY.heap.size (.cells #[.int .u32 z] 66 (0, 0)) * (own 66 1 (.slice am2 (j + 1) cm2) (j + 1) ((acc.map fun x => .int .u32 x) ++ [.int .u32 z]) * (blk gr (.cells #[.slice ao l5.length cap, .bool bY, .int .i64 left1] 80 (0, 0)) * (blk g4 (dmO [.int .i64 0, .int .i64 0, .bool false, .slice none 0 0, .string ⟨#[]⟩, .slice none 0 0, .slice none 0 0]) * R))))) := h11.setCell (off := 3) _
        have hb12 : Below 0 w (w10.setCell ⟨g5, 3, none⟩ (.slice am2 (j + 1) cm2)) := (HQ.out.2.2.2.2.2.trans hb10).setCell (p := ⟨g5, 3, none⟩) (Nat.zero_le _) _
        have H12 := Lib.hid (And.intro h12 hb12)
        clear h10 hb10 h11 h12 hb12 hcm2
        have hjw : IntKind.i64.wrap ((j : Int) + 1) = (j : Int) + 1 := IntWalk.i64_in _ (by have := HG.out.2.2.2.1; omega)
        have hjw2 : wrap64 ((j : Int) + 1) = (j : Int) + 1 := IntWalk.wrap64_in _ (by have := HG.out.2.2.2.1; omega)
        go_wp2_with fail
        refine ⟨?relx, ?measurex⟩
        case relx =>
          first
            | (show RflRel _ _ _ _ _ _ _ _ _ _ _ _ _ _)
            | (refine ⟨_, _, _, _, _, _, _, _, _, _, _, _, _, _, _, _, _, _, _, _, _, _, _, _, _, _, _, _, _, _, ?_, rfl⟩)
          obtain ⟨k1, k2, k3, k4, k5, k6, k7, k8, k9⟩ := HG.out
          have hst := HST.out.1
          refine ⟨j + 1, acc ++ [z], bY, l5, am2, cm2, rfl, by simp [k5], ?_, by have := hst.2.2; omega, fun hb => ?_, by omega, ?_, H12.out.2, fun hb => ?_, fun hb => ?_⟩
          · intro y hy
            rcases List.mem_append.1 hy with h | h
            · exact k6 y h
            · simp at h; subst h; exact HZ.out.1
          · obtain ⟨e1, e2⟩ := hst.good (HX.out.2.2.1 hb).1
            have := rdNumF_bd l4 0 0 x l5 e2
            omega
          · rw [List.map_append]
            refine ⟨ao, cap, ?_, HQ.out.2.2.1, HQ.out.2.2.2.1, HQ.out.2.2.2.2.1, fun w' h => H0.out.1 w' h.right.right.right⟩
            exact (H12.out.1.perm (show _ = blk wY.heap.size _ * (blk gr _ * (own 66 1 _ _ ((acc.map fun x => .int .u32 x) ++ [.int .u32 z]) * (blk g5 _ * (blk g4 _ * R)))) by ac_rfl)).right
          · obtain ⟨e1, e2⟩ := HX.out.2.2.1 hb
            obtain ⟨_, e3⟩ := hst.good e1
            refine ⟨k1, by omega, ?_⟩
            rw [k3, show N - j = (N - (j + 1)) + 1 by omega, HZ.out.2 e2]
            exact joinL_next e3 (by omega)
          · right
            rw [k3, show N - j = (N - (j + 1)) + 1 by omega]
            rcases HX.out.2.2.2 hb with h | h
            · rcases hst.ofBad h with h2 | h2
              · cases h2
              · exact joinL_no h2
            · cases h3 : bad9 with
              | false => exact joinL_big (hst.good h3).2 h
              | true =>
                rcases hst.ofBad h3 with h2 | h2
                · cases h2
                · exact joinL_no h2
        case measurex =>
          have := HG.out.2.2.2.2.2.2.2.2
          simp [intOf]; omega)
end Go.Proofs.Ytkjfplldfjmbaaa

/- The reference's reader of data: vectors. -/
namespace Go.Proofs.Ytkjfplldfjmbaaa
open Go.RowKit
def RfmRel (W : World) (B R : HP) (gr g4 g5 : Nat) (kd : Int) (deep : Nat) (p : Int) (bad0 : Bool) (N : Nat) (l3 : List Int) (ll : Nat) (i : Value) (wr : World) : Prop :=
  ∃ (j : Nat) (ds : List Dm) (q : Int) (bad : Bool) (l : List Int) (lf : Int) (ai : Option Addr) (ci : Nat) (css : List (List Value)) (M : HP), i = .int .i64 j ∧ css.length = j ∧ (∀ cs ∈ css, cs.length = 7) ∧ l.length ≤ ll ∧ (bad = false → j + l.length ≤ 67108864) ∧ j ≤ 67108865 ∧
    RfAt wr B (own 59 7 (.slice ai j ci) j css.flatten * (M * (blk g5 (dmO [.int .i64 kd, .int .i64 0, .bool false, .slice none 0 0, .string ⟨#[]⟩, .slice ai j ci, .slice none 0 0]) * (blk g4 (dmO [.int .i64 0, .int .i64 0, .bool false, .slice none 0 0, .string ⟨#[]⟩, .slice none 0 0, .slice none 0 0]) * R)))) gr bad l lf ∧ Below 0 W wr ∧
    (bad = false → bad0 = false ∧ j ≤ N ∧ lf = 20000 - q ∧ (0 ≤ q ∧ q ≤ 20000) ∧ ds.length = j ∧ (∀ (i : Nat) d cs, ds[i]? = some d → css[i]? = some cs → DK M d cs) ∧ rdMany (rdConst deep) N (p + 1) l3 = joinM ds (rdMany (rdConst deep) (N - j) q l)) ∧
    (bad = true → bad0 = true ∨ rdMany (rdConst deep) N (p + 1) l3 = none)
theorem end7 {deep : Nat} {p : Int} {l1 l3 l4 : List Int} {n : Nat} {ds : List Dm} {q lf : Int} {b2 b3 : Bool} {v : List Value} {M : HP} (h2 : StepR (rdNumF 0 0 l1) false l1 (n : Int) b2 l3) (h3 : (b3 = false → b2 = false ∧ rdMany (rdConst deep) n (p + 1) l3 = some (ds, q, l4) ∧ lf = 20000 - q ∧ (0 ≤ q ∧ q ≤ 20000) ∧ DK M (.mk 7 0 false [] noT ds []) v) ∧ (b3 = true → b2 = true ∨ rdMany (rdConst deep) n (p + 1) l3 = none)) :
    match (match rdNum l1 with | none => none | some (n, l2) => kO deep 7 (rdMany (rdConst deep) n.toNat (p + 1) l2)) with | none => b3 = true | some (d, q, t) => b3 = false ∧ l4 = t ∧ lf = 20000 - q ∧ DK M d v := by
  cases hb : b3 with
  | false =>
    obtain ⟨e3, e4, e5, _, e6⟩ := h3.1 hb
    obtain ⟨_, e2⟩ := h2.good e3
    rw [show rdNum l1 = some ((n : Int), l3) from e2]
    simp only [Int.toNat_natCast]
    rw [e4]
    simp only [kO, show ¬ ((7 : Int) = 6) by decide, if_false]
    exact ⟨by trivial, by first | rfl | trivial, e5, e6⟩
  | true =>
    have h4 := h3.2 hb
    cases hn : rdNum l1 with
    | none => simp
    | some r =>
      obtain ⟨nn, t⟩ := r
      have h7 := h2.2.1 rfl
      rw [show rdNumF 0 0 l1 = some (nn, t) from hn] at h7
      obtain ⟨h8, rfl, rfl⟩ := h7
      simp only [Int.toNat_natCast]
      rcases h4 with h | h
      · rw [h8] at h; cases h
      · rw [h]; simp [kO]
set_option maxRecDepth 100000 in
set_option maxHeartbeats 8000000 in
theorem rfd_k7 (deep : Nat) (w : World) (B R : HP) (gr : Nat) (l : List Int) (left : Int) (h : RfAt w B R gr false l left) (p : Int) (hp : left = 20000 - p ∧ 0 ≤ p ∧ p ≤ 20000) (hl : l.length ≤ 67108864) (hp1 : ¬ 20000 < p + 1) (k : Int) (l1 : List Int) (hn : rdNumF 0 0 l = some (k, l1)) (hk : k = 7) (hIH : RfDatAt deep) (dp : Int) (hdp : dp = 101 - ((deep + 1 : Nat) : Int)) (hdb : deep ≤ 100) :
    Calls Try.prog 42 #[.pointer (some ⟨gr, 0, none⟩), .int .i64 dp] w (RfdPost B R gr false l (rdConst (deep + 1) p l) w) := by
  have hB := h.sub
  have h1 := h.alloc (dmO [.int .i64 0, .int .i64 0, .bool false, .slice none 0 0, .string ⟨#[]⟩, .slice none 0 0, .slice none 0 0])
  have hb1 := Below.zero_alloc w (dmO [.int .i64 0, .int .i64 0, .bool false, .slice none 0 0, .string ⟨#[]⟩, .slice none 0 0, .slice none 0 0])
  obtain ⟨c1, f1, hq1⟩ := h1.lefts
  obtain ⟨left1, hl1⟩ : ∃ x, left - 1 = x := ⟨_, rfl⟩
  have h2 := hq1 left1
  have hb2 := hb1.setCell (p := ⟨gr, 2, none⟩) (Nat.zero_le _) (.int .i64 left1)
  have c2 := h2.lefts.1
  obtain ⟨g4, hg4⟩ : ∃ g, w.heap.size = g := ⟨_, rfl⟩
  rw [hg4] at h2
  have hN := rf_num _ _ _ gr false l left1 h2
  have hkb := rdNumF_bd l 0 0 k l1 hn
  have hre : rdConst (deep + 1) p l = (match rdNum l1 with | none => none | some (n, l2) => kO deep 7 (rdMany (rdConst deep) n.toNat (p + 1) l2)) := by subst hk; simp only [rdConst, if_neg hp1, show rdNum l = some (7, l1) from hn]; rfl
  have e1 : decide (left1 < 0) = false := by rw [decide_eq_false_iff_not]; omega
  have e3 : decide (dp > 100) = false := by rw [decide_eq_false_iff_not]; omega
  have e4 : decide (100 < dp) = false := by rw [decide_eq_false_iff_not]; omega
  have e2 : IntKind.i64.wrap (left - 1) = left1 := by rw [IntWalk.i64_in _ (by omega)]; exact hl1
  obtain ⟨o, ho⟩ : ∃ o, rdConst (deep + 1) p l = o := ⟨_, rfl⟩
  rw [ho]
  have HO := Lib.hid (ho.symm.trans hre)
  clear ho
  have H0 := Lib.hid (And.intro hB (And.intro hb2 (And.intro hkb (And.intro hdp (And.intro hdb (And.intro hp (And.intro hl (And.intro hl1 hn))))))))
  have HP1 := Lib.hid hp1
  have HK := Lib.hid hk
  clear hk h h1 hb1 hq1 h2 hb2 hn hkb hre hB hdp hdb hp hl hp1 hl1
  go_enter Try.func42, Try.ntmps42
  go_upto_region 1 with (fail)
  go_upto_region 2 with (fail)
  clear c1 f1
  try rw [hg4]
  clear hg4
  generalize (w.alloc (dmO [.int .i64 0, .int .i64 0, .bool false, .slice none 0 0, .string ⟨#[]⟩, .slice none 0 0, .slice none 0 0])).setCell ⟨gr, 2, none⟩ (.int .i64 left1) = w2 at *
  go_wp2_with fail
  refine hN.mono ?_
  clear hN c2
  rintro e w3 ⟨x, bad', l', rfl, hxb, hst, h3, hb3⟩
  have hst2 := hst.2.1 rfl
  rw [H0.out.2.2.2.2.2.2.2.2] at hst2
  obtain ⟨rfl, rfl, rfl⟩ := hst2
  clear hst hxb
  have h4 := h3.alloc (dmO [.int .i64 x, .int .i64 0, .bool false, .slice none 0 0, .string ⟨#[]⟩, .slice none 0 0, .slice none 0 0])
  have hb4 := (H0.out.2.1.trans hb3).trans (Below.zero_alloc w3 (dmO [.int .i64 x, .int .i64 0, .bool false, .slice none 0 0, .string ⟨#[]⟩, .slice none 0 0, .slice none 0 0]))
  obtain ⟨g5, hg5⟩ : ∃ g, w3.heap.size = g := ⟨_, rfl⟩
  rw [hg5] at h4
  have c0 := ((show sat _ _ from h4.fr).left.cell 0).trans (show _ = some (Value.int .i64 x) from rfl)
  have c5 := h4.bads.1
  have H4 := Lib.hid (And.intro h4 hb4)
  clear h3 hb3 h4 hb4
  go_upto_region 5 with (fail)
  try rw [hg5]
  clear hg5
  generalize w3.alloc (dmO [.int .i64 x, .int .i64 0, .bool false, .slice none 0 0, .string ⟨#[]⟩, .slice none 0 0, .slice none 0 0]) = w4 at *
  obtain rfl : x = 7 := HK.out
  have HIH := Lib.hid hIH
  clear hIH
  have hN5 := rf_num w4 B _ gr false l' left1 H4.out.1
  go_wp2_with fail
  refine hN5.mono ?_
  clear hN5 c0 c5
  rintro e w7 ⟨y, bad0, l3, rfl, hyb, hst7, h7, hb7⟩
  obtain ⟨N, rfl⟩ : ∃ n : Nat, y = n := ⟨y.toNat, by omega⟩
  have H7 := Lib.hid (And.intro h7 (And.intro (H4.out.2.trans hb7) (And.intro hst7 hyb.2)))
  clear h7 hb7 hst7 hyb
  obtain ⟨i0, hi, hz0, hz1, hz2⟩ := info_parts info_dm
  have HI := Lib.hid (And.intro hi (And.intro hz0 (And.intro hz1 hz2)))
  clear hi hz0 hz1 hz2
  obtain ⟨dq, hdq⟩ : ∃ x : Int, dp + 1 = x := ⟨_, rfl⟩
  have hdw : IntKind.i64.wrap (dp + 1) = dq := by rw [IntWalk.i64_in _ (by have := H0.out.2.2.2.1; have := H0.out.2.2.2.2.1; omega)]; exact hdq
  have hdw2 : wrap64 (dp + 1) = dq := by rw [IntWalk.wrap64_in _ (by have := H0.out.2.2.2.1; have := H0.out.2.2.2.2.1; omega)]; exact hdq
  have HDQ := Lib.hid (show dq = 101 - (deep : Int) by have := H0.out.2.2.2.1; omega)
  clear hdq
  have HLL := Lib.hid (show l3.length ≤ 67108864 by have := H7.out.2.2.1.2.2; have := H0.out.2.2.1; have := H0.out.2.2.2.2.2.2; omega)
  go_wp2_with fail
  go_loopw [10] (RfmRel w B R gr g4 g5 7 deep p bad0 N l3 l3.length) (fun i _ => N - (intOf i).toNat)
  case atStart =>
    refine ⟨0, [], p + 1, bad0, l3, left1, none, 0, [], emp, rfl, rfl, fun cs h => by simp at h, Nat.le_refl _, fun _ => by have := HLL.out; omega, by decide, ?_, H7.out.2.1, fun hb => ⟨hb, Nat.zero_le _, by have := H0.out.2.2.2.2.2; omega, by have := H0.out.2.2.2.2.2; have := HP1.out; omega, rfl, fun i d cs h _ => by simp at h, ?_⟩, fun hb => .inl hb⟩
    · obtain ⟨ao, cap, q1, q2, q3, q4, q5⟩ := H7.out.1
      exact ⟨ao, cap, (q1.nil_own (e := 59) (sz := 7)).perm (by rw [HP.emp_mul]; simp only [List.flatten_nil]; ac_rfl), q2, q3, q4, fun w' h => q5 w' h.right.right⟩
    · rw [Nat.sub_zero]
      cases rdMany (rdConst deep) N (p + 1) l3 with
      | none => rfl
      | some r => rfl
  case round =>
    obtain ⟨j, ds, q, bad, l4, lf, ai, ci, css, M, rfl, hcl, hc7, hll, hlen, hj5, h8, hb8, hgd, hbd⟩ := hrel
    have hN63 : (N : Int) ≤ 8796093022208 := H7.out.2.2.2
    by_cases hjN : j < N
    case neg =>
      have e0 : decide (j < N) = false := by rw [decide_eq_false_iff_not]; exact hjN
      have e0' : decide ((j : Int) < (N : Int)) = false := by rw [decide_eq_false_iff_not]; omega
      have hci : j ≤ ci := by
        obtain ⟨ao, cap, q1, _⟩ := h8
        obtain ⟨_, _, e1, e2⟩ := slice_val q1.right
        cases e1
        exact e2
      have hex : (bad = false → bad0 = false ∧ rdMany (rdConst deep) N (p + 1) l3 = some (ds, q, l4) ∧ lf = 20000 - q ∧ (0 ≤ q ∧ q ≤ 20000) ∧ DKs (own 59 7 (.slice ai j ci) j css.flatten * M) ds ai 0 ∧ ds.length = j) ∧ (bad = true → bad0 = true ∨ rdMany (rdConst deep) N (p + 1) l3 = none) := by
        refine ⟨fun hb => ?_, hbd⟩
        first
          | (cases hb; done)
          | (
            obtain ⟨q1, q2, q3, q4, q5, q6, q7⟩ := hgd hb
            refine ⟨q1, ?_, q3, q4, row_dks (by omega) (by omega) q6 wr h8.fr, q5⟩
            rw [show N - j = 0 by omega] at q7
            rw [q7]
            simp [rdMany, joinM])
      have hE0 : RfAt wr B (blk g5 (dmO [.int .i64 7, .int .i64 0, .bool false, .slice none 0 0, .string ⟨#[]⟩, .slice ai j ci, .slice none 0 0]) * (blk g4 (dmO [.int .i64 0, .int .i64 0, .bool false, .slice none 0 0, .string ⟨#[]⟩, .slice none 0 0, .slice none 0 0]) * ((own 59 7 (.slice ai j ci) j css.flatten * M) * R))) gr bad l4 lf := h8.perm (by ac_rfl)
      have c1 := hE0.bads.1
      have c2 := (hE0.fr.left.cell 0).trans (show _ = some (Value.int .i64 7) from rfl)
      have HE0 := Lib.hid (And.intro hE0 (And.intro hb8 (And.intro hex (And.intro hci hll))))
      clear hE0 hb8 hex hgd hbd hll hlen h8 hci hjN hj5 hN63 hcl hc7
      go_upto_region 42 with (fail)
      clear c1 c2
      have hMB : ∀ w', sat w' ((own 59 7 (.slice ai j ci) j css.flatten * M) * R) → sat w' B := fun w' h => H0.out.1 w' h.right
      have hE : RfAt wr B (blk g5 (dmO [.int .i64 7, .int .i64 0, .bool false, .slice none 0 0, .string ⟨#[]⟩, .slice ai j ci, .slice none 0 0]) * (blk g4 (dmO [.int .i64 0, .int .i64 0, .bool false, .slice none 0 0, .string ⟨#[]⟩, .slice none 0 0, .slice none 0 0]) * ((own 59 7 (.slice ai j ci) j css.flatten * M) * R))) gr bad l4 lf := HE0.out.1
      have hsE := hE.fr
      obtain ⟨⟨d0, d1, d2, d3, d4, d5, d6⟩, ⟨z0, z1, z2, z3, z4, z5, z6⟩, y0, y1, y2, y3, y4, y5, y6⟩ := fin_cells hsE
      have hE2 : RfAt _ B (blk g4 (dmO [.int .i64 0, .int .i64 0, .bool false, .slice none 0 0, .string ⟨#[]⟩, .slice none 0 0, .slice none 0 0]) * ((own 59 7 (.slice ai j ci) j css.flatten * M) * R)) gr bad l4 lf := hE.drop (fun w' h => hMB w' h.right)
      obtain ⟨hF, hC, hbF⟩ := hE2.put7 (.int .i64 7) (.int .i64 0) (.bool false) (.slice none 0 0) (.string ⟨#[]⟩) (.slice ai j ci) (.slice none 0 0) hMB
      have HT := Lib.hid (And.intro hF (And.intro hC ((HE0.out.2.1).trans hbF)))
      clear hE hsE hE2 hF hC hbF hMB
      go_wp2_with fail
      obtain ⟨r0, r1, r2, r3, r4, r5, r6⟩ := HT.out.2.1 _ rfl
      refine bodyPost_ret (v := .agg #[.int .i64 7, .int .i64 0, .bool false, .slice none 0 0, .string ⟨#[]⟩, .slice ai j ci, .slice none 0 0]) (by simp [results, Try.results42, go_sem, r0, r1, r2, r3, r4, r5, r6]) rfl ?_
      refine ⟨_, _, _, _, _, _, _, bad, l4, lf, own 59 7 (.slice ai j ci) j css.flatten * M, rfl, (by intro u hu; simp at hu; rcases hu with rfl | rfl | rfl | rfl | rfl | rfl | rfl <;> rfl), HT.out.1, HT.out.2.2, ?_, fun h => (by cases h), fun _ => ?_⟩
      · have := H7.out.2.2.1.2.2; have := HE0.out.2.2.2.2; have := H0.out.2.2.1; omega
      · rw [HO.out]
        have hex := HE0.out.2.2.1
        refine end7 (ds := ds) (q := q) H7.out.2.2.1 ⟨fun hb => ?_, hex.2⟩
        obtain ⟨u1, u2, u3, u4, u5, u6⟩ := hex.1 hb
        refine ⟨u1, u2, u3, u4, ?_⟩
        have hh := DK.mk (kind := 7) (n := 0) (neg := false) (mag := []) (text := noT) (items := ds) (rest := []) (am := none) (ai := ai) (ar := none) (cm := 0) (ci := ci) (cr := 0) (R := own 59 7 (.slice ai j ci) j css.flatten * M) ⟨by omega, by omega⟩ (fun w h j x hx => by simp at hx) (fun x hx => by simp at hx) ⟨Nat.le_refl _, by have := HE0.out.2.2.2.1; omega, Nat.le_refl _⟩ u5 DKs.nil
        rw [u6] at hh
        exact hh
    have e0 : decide (j < N) = true := by rw [decide_eq_true_eq]; exact hjN
    have e0' : decide ((j : Int) < (N : Int)) = true := by rw [decide_eq_true_eq]; omega
    cases hbb : bad with
    | true =>
      rw [hbb] at h8
      have hbad1 := hbb
      clear hbb
      subst hbad1
      have hgd : true = false → bad0 = false ∧ rdMany (rdConst deep) N (p + 1) l3 = some (ds, q, l4) := fun h => by cases h
      have hci : j ≤ ci := by
        obtain ⟨ao, cap, q1, _⟩ := h8
        obtain ⟨_, _, e1, e2⟩ := slice_val q1.right
        cases e1
        exact e2
      have hex : (true = false → bad0 = false ∧ rdMany (rdConst deep) N (p + 1) l3 = some (ds, q, l4) ∧ lf = 20000 - q ∧ (0 ≤ q ∧ q ≤ 20000) ∧ DKs (own 59 7 (.slice ai j ci) j css.flatten * M) ds ai 0 ∧ ds.length = j) ∧ (true = true → bad0 = true ∨ rdMany (rdConst deep) N (p + 1) l3 = none) := by
        refine ⟨fun hb => ?_, hbd⟩
        first
          | (cases hb; done)
          | (
            obtain ⟨q1, q2, q3, q4, q5, q6, q7⟩ := hgd hb
            refine ⟨q1, ?_, q3, q4, row_dks (by omega) (by omega) q6 wr h8.fr, q5⟩
            rw [show N - j = 0 by omega] at q7
            rw [q7]
            simp [rdMany, joinM])
      have hE0 : RfAt wr B (blk g5 (dmO [.int .i64 7, .int .i64 0, .bool false, .slice none 0 0, .string ⟨#[]⟩, .slice ai j ci, .slice none 0 0]) * (blk g4 (dmO [.int .i64 0, .int .i64 0, .bool false, .slice none 0 0, .string ⟨#[]⟩, .slice none 0 0, .slice none 0 0]) * ((own 59 7 (.slice ai j ci) j css.flatten * M) * R))) gr true l4 lf := h8.perm (by ac_rfl)
      have c1 := hE0.bads.1
      have c2 := (hE0.fr.left.cell 0).trans (show _ = some (Value.int .i64 7) from rfl)
      have HE0 := Lib.hid (And.intro hE0 (And.intro hb8 (And.intro hex (And.intro hci hll))))
      clear hE0 hb8 hex hgd hbd hll hlen h8 hci hjN hj5 hN63 hcl hc7
      go_upto_region 42 with (fail)
      clear c1 c2
      have hMB : ∀ w', sat w' ((own 59 7 (.slice ai j ci) j css.flatten * M) * R) → sat w' B := fun w' h => H0.out.1 w' h.right
      have hE : RfAt wr B (blk g5 (dmO [.int .i64 7, .int .i64 0, .bool false, .slice none 0 0, .string ⟨#[]⟩, .slice ai j ci, .slice none 0 0]) * (blk g4 (dmO [.int .i64 0, .int .i64 0, .bool false, .slice none 0 0, .string ⟨#[]⟩, .slice none 0 0, .slice none 0 0]) * ((own 59 7 (.slice ai j ci) j css.flatten * M) * R))) gr true l4 lf := HE0.out.1
      have hsE := hE.fr
      obtain ⟨⟨d0, d1, d2, d3, d4, d5, d6⟩, ⟨z0, z1, z2, z3, z4, z5, z6⟩, y0, y1, y2, y3, y4, y5, y6⟩ := fin_cells hsE
      have hE2 : RfAt _ B (blk g4 (dmO [.int .i64 0, .int .i64 0, .bool false, .slice none 0 0, .string ⟨#[]⟩, .slice none 0 0, .slice none 0 0]) * ((own 59 7 (.slice ai j ci) j css.flatten * M) * R)) gr true l4 lf := hE.drop (fun w' h => hMB w' h.right)
      obtain ⟨hF, hC, hbF⟩ := hE2.put7 (.int .i64 7) (.int .i64 0) (.bool false) (.slice none 0 0) (.string ⟨#[]⟩) (.slice ai j ci) (.slice none 0 0) hMB
      have HT := Lib.hid (And.intro hF (And.intro hC ((HE0.out.2.1).trans hbF)))
      clear hE hsE hE2 hF hC hbF hMB
      go_wp2_with fail
      obtain ⟨r0, r1, r2, r3, r4, r5, r6⟩ := HT.out.2.1 _ rfl
      refine bodyPost_ret (v := .agg #[.int .i64 7, .int .i64 0, .bool false, .slice none 0 0, .string ⟨#[]⟩, .slice ai j ci, .slice none 0 0]) (by simp [results, Try.results42, go_sem, r0, r1, r2, r3, r4, r5, r6]) rfl ?_
      refine ⟨_, _, _, _, _, _, _, true, l4, lf, own 59 7 (.slice ai j ci) j css.flatten * M, rfl, (by intro u hu; simp at hu; rcases hu with rfl | rfl | rfl | rfl | rfl | rfl | rfl <;> rfl), HT.out.1, HT.out.2.2, ?_, fun h => (by cases h), fun _ => ?_⟩
      · have := H7.out.2.2.1.2.2; have := HE0.out.2.2.2.2; have := H0.out.2.2.1; omega
      · rw [HO.out]
        have hex := And.intro HE0.out.2.2.1.1 (fun (_ : true = true) => HE0.out.2.2.1.2 (by trivial))
        refine end7 (ds := ds) (q := q) H7.out.2.2.1 ⟨fun hb => ?_, hex.2⟩
        obtain ⟨u1, u2, u3, u4, u5, u6⟩ := hex.1 hb
        refine ⟨u1, u2, u3, u4, ?_⟩
        have hh := DK.mk (kind := 7) (n := 0) (neg := false) (mag := []) (text := noT) (items := ds) (rest := []) (am := none) (ai := ai) (ar := none) (cm := 0) (ci := ci) (cr := 0) (R := own 59 7 (.slice ai j ci) j css.flatten * M) ⟨by omega, by omega⟩ (fun w h j x hx => by simp at hx) (fun x hx => by simp at hx) ⟨Nat.le_refl _, by have := HE0.out.2.2.2.1; omega, Nat.le_refl _⟩ u5 DKs.nil
        rw [u6] at hh
        exact hh
    | false =>
      rw [hbb] at h8
      have hbad1 := hbb
      clear hbb
      subst hbad1
      have c1 := h8.bads.1
      obtain ⟨hg1, hg2, hg3, hg4, hg5, hg6, hg7⟩ := hgd rfl
      have hlen1 := hlen rfl
      obtain ⟨FF, hFF⟩ : ∃ FF : HP, FF = own 59 7 (.slice ai j ci) j css.flatten * (M * (blk g5 (dmO [.int .i64 7, .int .i64 0, .bool false, .slice none 0 0, .string ⟨#[]⟩, .slice ai j ci, .slice none 0 0]) * (blk g4 (dmO [.int .i64 0, .int .i64 0, .bool false, .slice none 0 0, .string ⟨#[]⟩, .slice none 0 0, .slice none 0 0]) * R))) := ⟨_, rfl⟩
      rw [← hFF] at h8
      have hFR : ∀ w', sat w' FF → sat w' R := fun w' h => by rw [hFF] at h; exact h.right.right.right.right
      have hF5 : ∀ w', sat w' FF → w'.cell? ⟨g5, 5, none⟩ = some (.slice ai j ci) := fun w' h => by rw [hFF] at h; exact (h.right.right.left.cell 5).trans rfl
      have hC := fun (w' : World) (h : RfAt w' B FF gr false l4 lf) => HIH.out w' B FF gr false l4 lf q h ⟨rfl, hg3, hg4⟩ (by omega) dq HDQ.out
      have o1 : ∀ (w3 : World) (M2 : HP) (v0 v1 v2 v3 v4 v5 v6 : Value) (bad9 : Bool) (l5 : List Int) (lf9 : Int), RfAt w3 B (M2 * FF) gr bad9 l5 lf9 →
          w3.cell? ⟨g5, 5, none⟩ = some (.slice ai j ci) ∧ (w3.alloc (dmO [v0, v1, v2, v3, v4, v5, v6])).cell? ⟨g5, 5, none⟩ = some (.slice ai j ci) ∧
          (∀ (j' : Nat) u, [v0, v1, v2, v3, v4, v5, v6][j']? = some u → (w3.alloc (dmO [v0, v1, v2, v3, v4, v5, v6])).cell? ((⟨w3.heap.size, 0, none⟩ : Addr).add j') = some u) ∧
          ∃ ao cap, sat (w3.alloc (dmO [v0, v1, v2, v3, v4, v5, v6])) (own 59 7 (.slice ai j ci) j css.flatten * (blk w3.heap.size (dmO [v0, v1, v2, v3, v4, v5, v6]) * (blk gr (.cells #[.slice ao l5.length cap, .bool bad9, .int .i64 lf9] 80 (0, 0)) * (blk g5 (dmO [.int .i64 7, .int .i64 0, .bool false, .slice none 0 0, .string ⟨#[]⟩, .slice ai j ci, .slice none 0 0]) * ((M2 * M) * (blk g4 (dmO [.int .i64 0, .int .i64 0, .bool false, .slice none 0 0, .string ⟨#[]⟩, .slice none 0 0, .slice none 0 0]) * R)))))) ∧ l5.length ≤ cap ∧ (∀ w', sat w' B → CellsAt w' ao (l5.map bv)) ∧ Bytes l5 := by
        rintro w3 M2 v0 v1 v2 v3 v4 v5 v6 bad9 l5 lf9 ⟨ao, cap, q1', q2, q3, q4, q5⟩
        have h2 := q1'.alloc (dmO [v0, v1, v2, v3, v4, v5, v6])
        refine ⟨hF5 _ q1'.right.right, hF5 _ h2.right.right.right, ?_, ao, cap, h2.perm (by rw [hFF]; ac_rfl), q2, q3, q4⟩
        intro j' u hu
        rw [show ((⟨w3.heap.size, 0, none⟩ : Addr).add j') = ⟨w3.heap.size, j', none⟩ by unfold Addr.add; split <;> simp_all, h2.left.cell j', ← hu]
        simp
      have o2 : ∀ (w9 : World) (bl : Nat) (o o2 : Obj) (b7 c7 : Nat) (xs : List Value) (X : HP), sat w9 (row 59 7 b7 c7 xs * (blk bl o * (blk gr o2 * (blk g5 (dmO [.int .i64 7, .int .i64 0, .bool false, .slice none 0 0, .string ⟨#[]⟩, .slice ai j ci, .slice none 0 0]) * X)))) →
          w9.cell? ⟨g5, 5, none⟩ = some (.slice ai j ci) ∧ w9.frozen? ⟨g5, 5, none⟩ = false := fun w9 bl o o2 b7 c7 xs X h => ⟨(h.right.right.right.left.cell 5).trans rfl, h.right.right.right.left.frozen 5⟩
      have c5 := hF5 wr h8.fr
      have HO1 := Lib.hid (And.intro o1 o2)
      have HR := Lib.hid (And.intro hg1 (And.intro hg2 (And.intro hg3 (And.intro hg4 (And.intro hg5 (And.intro hg6 (And.intro hg7 (And.intro hlen1 (And.intro hcl (And.intro hc7 (And.intro hll (And.intro hb8 hjN))))))))))))
      have HC := Lib.hid (And.intro hC (show RfAt wr.drew B FF gr false l4 lf from h8))
      clear hg1 hg2 hg3 hg4 hg5 hg6 hg7 hlen1 hcl hc7 hll hb8 hjN hgd hbd hlen h8 hj5 o1 o2 hFF hFR hF5 hC
      go_upto_region 35 with (fail)
      clear c1 e0 e0'
      go_wp2_with fail
      go_region_law
        (first
          | (go_simp; go_at_call 42; refine (HC.out.1 _ HC.out.2).mono ?_; rintro e w3' ⟨v0, v1, v2, v3, v4, v5, v6, bad9, l5, lf9, M2, rfl, hone, h3, hb3, hl5, hbb, hgg⟩; obtain ⟨y1, y2, y3, ao, cap, y4, y5, y6, y7⟩ := HO1.out.1 w3' M2 v0 v1 v2 v3 v4 v5 v6 bad9 l5 lf9 h3)
          | (refine step_append_sat rfl (.tmp 125) (.tmp 130) 35 rfl 59 i0 zeroDm 7 112 Try.underlying35 HI.out.1 HI.out.2.1 HI.out.2.2.1 HI.out.2.2.2 rfl _ j css.flatten (by rfl) _ y4 ⟨w3'.heap.size, 0, none⟩ 1 1 [v0, v1, v2, v3, v4, v5, v6] (by rfl) rfl y3 hone (by have := HR.out.2.2.2.2.2.2.2.1; omega) (by have := HR.out.2.2.2.2.2.2.2.1; unfold maxLen; omega) (by omega) ?_; intro b7 c7 w9 hs9 hc9 hb9; obtain ⟨z5, z6⟩ := HO1.out.2 _ _ _ _ _ _ _ _ hs9))
      all_goals (
        have hs10 : sat w9 (blk g5 (dmO [.int .i64 7, .int .i64 0, .bool false, .slice none 0 0, .string ⟨#[]⟩, .slice ai j ci, .slice none 0 0]) * (blk gr (.cells #[.slice ao l5.length cap, .bool bad9, .int .i64 lf9] 80 (0, 0)) * (row 59 7 b7 c7 (css.flatten ++ [v0, v1, v2, v3, v4, v5, v6]) * ((M2 * M) * (blk g4 (dmO [.int .i64 0, .int .i64 0, .bool false, .slice none 0 0, .string ⟨#[]⟩, .slice none 0 0, .slice none 0 0]) * R))))) := (show sat w9 (blk w3'.heap.size (dmO [v0, v1, v2, v3, v4, v5, v6]) * _) from hs9.perm (by ac_rfl)).right
        have hs11 : sat (w9.setCell ⟨g5, 5, none⟩ (.slice (some ⟨b7, 0, none⟩) (j + 1) c7)) (blk g5 (dmO [.int .i64 7, .int .i64 0, .bool false, .slice none 0 0, .string ⟨#[]⟩, .slice (some ⟨b7, 0, none⟩) (j + 1) c7, .slice none 0 0]) * (blk gr (.cells #[.slice ao l5.length cap, .bool bad9, .int .i64 lf9] 80 (0, 0)) * (row 59 7 b7 c7 (css.flatten ++ [v0, v1, v2, v3, v4, v5, v6]) * ((M2 * M) * (blk g4 (dmO [.int .i64 0, .int .i64 0, .bool false, .slice none 0 0, .string ⟨#[]⟩, .slice none 0 0, .slice none 0 0]) * R))))) := hs10.setCell (off := 5) _
        have hb11 : Below 0 w (w9.setCell ⟨g5, 5, none⟩ (.slice (some ⟨b7, 0, none⟩) (j + 1) c7)) := (((HR.out.2.2.2.2.2.2.2.2.2.2.2.1.drew.trans hb3).trans (Below.zero_alloc _ _)).trans hb9).setCell (p := ⟨g5, 5, none⟩) (Nat.zero_le _) _
        have HF := Lib.hid (And.intro hs11 (And.intro hb11 (And.intro (And.intro hl5 hgg) (And.intro hc9 (And.intro y5 (And.intro y6 y7))))))
        clear hs9 hs10 hs11 hb11 hb3 hb9 h3 y1 y2 y3 y4 y5 y6 y7 z5 z6 hl5 hbb hgg hc9 hone HO1 HC
        have hjw : IntKind.i64.wrap ((j : Int) + 1) = (j : Int) + 1 := IntWalk.i64_in _ (by have := HR.out.2.2.2.2.2.2.2.1; omega)
        have hjw2 : wrap64 ((j : Int) + 1) = (j : Int) + 1 := IntWalk.wrap64_in _ (by have := HR.out.2.2.2.2.2.2.2.1; omega)
        go_wp2_with fail
        go_roundw
        case rel =>
          obtain ⟨g1, g2', ⟨g3, g3'⟩, g4', g5', g6, g7⟩ := HF.out
          obtain ⟨x1, x2, x3, x4, x5, x6, x7, x8, x9, x10, x11, x12, x13⟩ := HR.out
          have hg9 := g3' rfl
          cases hr : rdConst deep q l4 with
          | none =>
            rw [hr] at hg9
            obtain rfl : bad9 = true := hg9
            refine ⟨j + 1, ds, q, true, l5, lf9, some ⟨b7, 0, none⟩, c7, css ++ [[v0, v1, v2, v3, v4, v5, v6]], M2 * M, rfl, by simp [x9], ?_, by omega, (fun h => by cases h), by omega, ?_, g2', (fun h => by cases h), fun _ => .inr ?_⟩
            · intro cs hcs
              rcases List.mem_append.1 hcs with h | h
              · exact x10 cs h
              · simp at h; subst h; rfl
            · rw [List.flatten_append, List.flatten_cons, List.flatten_nil, List.append_nil]
              have hfl : (css.flatten ++ [v0, v1, v2, v3, v4, v5, v6]).length = (j + 1) * 7 := by
                rw [List.length_append, flat7 x10, x9]
                show _ + 7 = _
                omega
              have g8 := sat.shut_own (n := j + 1) hfl g4' (g1.perm (show _ = row 59 7 b7 c7 _ * (blk g5 _ * (blk gr _ * ((M2 * M) * (blk g4 (dmO [.int .i64 0, .int .i64 0, .bool false, .slice none 0 0, .string ⟨#[]⟩, .slice none 0 0, .slice none 0 0]) * R)))) by ac_rfl))
              exact ⟨ao, cap, g8.perm (by ac_rfl), g5', g6, g7, fun w' h => H0.out.1 w' h.right.right.right.right⟩
            · rw [x7, show N - j = (N - (j + 1)) + 1 by omega]
              exact joinM_no hr
          | some r =>
            obtain ⟨d, q1, t⟩ := r
            rw [hr] at hg9
            obtain ⟨rfl, rfl, hlf, hdk2⟩ := hg9
            have hxb := rdConst_bd deep q l4 d q1 l5 hr
            refine ⟨j + 1, ds ++ [d], q1, false, l5, lf9, some ⟨b7, 0, none⟩, c7, css ++ [[v0, v1, v2, v3, v4, v5, v6]], M2 * M, rfl, by simp [x9], ?_, by omega, fun _ => by omega, by omega, ?_, g2', fun _ => ⟨x1, by omega, hlf, by omega, by simp [x5], ?_, ?_⟩, (fun h => by cases h)⟩
            · intro cs hcs
              rcases List.mem_append.1 hcs with h | h
              · exact x10 cs h
              · simp at h; subst h; rfl
            · rw [List.flatten_append, List.flatten_cons, List.flatten_nil, List.append_nil]
              have hfl : (css.flatten ++ [v0, v1, v2, v3, v4, v5, v6]).length = (j + 1) * 7 := by
                rw [List.length_append, flat7 x10, x9]
                show _ + 7 = _
                omega
              have g8 := sat.shut_own (n := j + 1) hfl g4' (g1.perm (show _ = row 59 7 b7 c7 _ * (blk g5 _ * (blk gr _ * ((M2 * M) * (blk g4 (dmO [.int .i64 0, .int .i64 0, .bool false, .slice none 0 0, .string ⟨#[]⟩, .slice none 0 0, .slice none 0 0]) * R)))) by ac_rfl))
              exact ⟨ao, cap, g8.perm (by ac_rfl), g5', g6, g7, fun w' h => H0.out.1 w' h.right.right.right.right⟩
            · intro i d' cs hd hc
              by_cases hik : i < ds.length
              · rw [List.getElem?_append_left hik] at hd
                rw [List.getElem?_append_left (by omega)] at hc
                exact (x6 i d' cs hd hc).mono (fun w h => h.right) _
              · rw [List.getElem?_append_right (by omega)] at hd
                rw [List.getElem?_append_right (by omega), show i - css.length = i - ds.length by omega] at hc
                cases hz : i - ds.length with
                | zero =>
                  rw [hz] at hd hc
                  simp at hd hc
                  subst hd
                  subst hc
                  exact hdk2.mono (fun w h => h.left) _
                | succ z => rw [hz] at hd; simp at hd
            · rw [x7, show N - j = (N - (j + 1)) + 1 by omega]
              exact joinM_next hr
        case measure =>
          have := HR.out.2.2.2.2.2.2.2.2.2.2.2.2
          simp [intOf]; omega)
end Go.Proofs.Ytkjfplldfjmbaaa
