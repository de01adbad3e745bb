/- pack's reader of constants: kinds 2, 3, 9. pack's reader of constants: kinds 4, 5, 8, and no kind. -/
import Derived.Test.YtkjfplldfjmbaaaPackRdA
/- pack's reader of constants: kinds 2, 3, 9. -/
namespace Go.Proofs.Ytkjfplldfjmbaaa
open Go.RowKit
set_option maxRecDepth 100000 in
set_option maxHeartbeats 4000000 in
theorem rdc_k2_no (deep : Nat) (w : World) (B R : HP) (gr : Nat) (l : List Int) (p : Int) (h : RdAt w B R gr l p) (hp : 0 ≤ p ∧ p ≤ 20000) (hl : l.length ≤ 67108864) (hp1 : ¬ 20000 < p + 1) (k : Int) (l1 : List Int) (hn : rdNum l = some (k, l1)) (hk : k = 2) (hs : rdSign l1 = none) (dp : Int) (hdp : dp = ((deep + 1 : Nat) : Int)) (hdb : deep ≤ 100) :
    Calls Try.prog 54 #[.pointer (some ⟨gr, 0, none⟩), .int .i64 dp] w (RcPost B R gr (rdConst (deep + 1) p l) w) := by
  have hB := h.sub
  have h1 := h.alloc (dmO [.int .i64 0, .int .i64 0, .bool false, .slice none 0 0, .string ⟨#[]⟩, .slice none 0 0, .slice none 0 0])
  have hb1 := Below.zero_alloc w (dmO [.int .i64 0, .int .i64 0, .bool false, .slice none 0 0, .string ⟨#[]⟩, .slice none 0 0, .slice none 0 0])
  obtain ⟨c1, f1, hq1⟩ := h1.parts
  have h2 := hq1 (p + 1)
  have hb2 := hb1.setCell (p := ⟨gr, 1, none⟩) (Nat.zero_le _) (.int .i64 (p + 1))
  have c2 := h2.parts.1
  obtain ⟨g4, hg4⟩ : ∃ g, w.heap.size = g := ⟨_, rfl⟩
  rw [hg4] at h2
  have hN := rd_number _ _ _ gr l (p + 1) h2
  rw [show rdNumF 0 0 l = some (k, l1) from hn] at hN
  have hkb := rdNumF_bd l 0 0 k l1 hn
  have hre : rdConst (deep + 1) p l = none := by subst hk; simp [rdConst, hp1, hn, hs]
  have e0 : (dp == 0) = false := by rw [beq_eq_false_iff_ne]; omega
  have e1 : decide (p + 1 > 20000) = false := by rw [decide_eq_false_iff_not]; omega
  have e2 : IntKind.i64.wrap (p + 1) = p + 1 := IntWalk.i64_in _ (by omega)
  rw [hre]
  have H0 := Lib.hid (And.intro hB (And.intro hb2 (And.intro hkb (And.intro hdp (And.intro hdb (And.intro hp hl))))))
  have HK := Lib.hid hk
  clear h h1 hb1 hq1 h2 hb2 hn hkb hre hB hdp hdb hp hl hp1 hk
  go_enter Try.func54, Try.ntmps54
  go_upto_region 1 with (fail)
  go_upto_region 2 with (fail)
  clear c1 f1
  try rw [hg4]
  clear hg4
  generalize (w.alloc (dmO [.int .i64 0, .int .i64 0, .bool false, .slice none 0 0, .string ⟨#[]⟩, .slice none 0 0, .slice none 0 0])).setCell ⟨gr, 1, none⟩ (.int .i64 (p + 1)) = w2 at *
  go_wp2_with fail
  refine hN.mono ?_
  clear hN c2
  rintro e w3 ⟨rfl, h3, hb3⟩
  have h4 := h3.alloc (dmO [.int .i64 k, .int .i64 0, .bool false, .slice none 0 0, .string ⟨#[]⟩, .slice none 0 0, .slice none 0 0])
  have hb4 := (H0.out.2.1.trans hb3).trans (Below.zero_alloc w3 (dmO [.int .i64 k, .int .i64 0, .bool false, .slice none 0 0, .string ⟨#[]⟩, .slice none 0 0, .slice none 0 0]))
  obtain ⟨g5, hg5⟩ : ∃ g, w3.heap.size = g := ⟨_, rfl⟩
  rw [hg5] at h4
  have c0 := ((show sat _ _ from h4.fr).left.cell 0).trans (show _ = some (Value.int .i64 k) from rfl)
  have H4 := Lib.hid (And.intro h4 hb4)
  clear h3 hb3 h4 hb4
  go_upto_region 5 with (fail)
  try rw [hg5]
  clear hg5
  generalize w3.alloc (dmO [.int .i64 k, .int .i64 0, .bool false, .slice none 0 0, .string ⟨#[]⟩, .slice none 0 0, .slice none 0 0]) = w4 at *
  have kk := HK.out
  subst kk
  have hS5 := rd_sign w4 B _ gr l1 (p + 1) H4.out.1
  rw [hs] at hS5
  go_wp2_with fail
  refine hS5.mono ?_
  clear hS5 c0
  rintro e w5 ⟨rfl, h5, hb5⟩
  unfold cutE
  go_wp2_with fail
  exact ⟨rfl, rfl, h5.right.right, (H4.out.2).trans hb5⟩
set_option maxRecDepth 100000 in
set_option maxHeartbeats 4000000 in
theorem rdc_k2 (deep : Nat) (w : World) (B R : HP) (gr : Nat) (l : List Int) (p : Int) (h : RdAt w B R gr l p) (hp : 0 ≤ p ∧ p ≤ 20000) (hl : l.length ≤ 67108864) (hp1 : ¬ 20000 < p + 1) (k : Int) (l1 : List Int) (hn : rdNum l = some (k, l1)) (hk : k = 2) (n : Int) (l2 : List Int) (hs : rdSign l1 = some (n, l2)) (dp : Int) (hdp : dp = ((deep + 1 : Nat) : Int)) (hdb : deep ≤ 100) :
    Calls Try.prog 54 #[.pointer (some ⟨gr, 0, none⟩), .int .i64 dp] w (RcPost B R gr (rdConst (deep + 1) p l) w) := by
  have hB := h.sub
  have h1 := h.alloc (dmO [.int .i64 0, .int .i64 0, .bool false, .slice none 0 0, .string ⟨#[]⟩, .slice none 0 0, .slice none 0 0])
  have hb1 := Below.zero_alloc w (dmO [.int .i64 0, .int .i64 0, .bool false, .slice none 0 0, .string ⟨#[]⟩, .slice none 0 0, .slice none 0 0])
  obtain ⟨c1, f1, hq1⟩ := h1.parts
  have h2 := hq1 (p + 1)
  have hb2 := hb1.setCell (p := ⟨gr, 1, none⟩) (Nat.zero_le _) (.int .i64 (p + 1))
  have c2 := h2.parts.1
  obtain ⟨g4, hg4⟩ : ∃ g, w.heap.size = g := ⟨_, rfl⟩
  rw [hg4] at h2
  have hN := rd_number _ _ _ gr l (p + 1) h2
  rw [show rdNumF 0 0 l = some (k, l1) from hn] at hN
  have hkb := rdNumF_bd l 0 0 k l1 hn
  have hre : rdConst (deep + 1) p l = some (.mk 2 n false [] noT [] [], p + 1, l2) := by subst hk; simp [rdConst, hp1, hn, hs]
  have e0 : (dp == 0) = false := by rw [beq_eq_false_iff_ne]; omega
  have e1 : decide (p + 1 > 20000) = false := by rw [decide_eq_false_iff_not]; omega
  have e2 : IntKind.i64.wrap (p + 1) = p + 1 := IntWalk.i64_in _ (by omega)
  rw [hre]
  have H0 := Lib.hid (And.intro hB (And.intro hb2 (And.intro hkb (And.intro hdp (And.intro hdb (And.intro hp hl))))))
  have HK := Lib.hid hk
  clear h h1 hb1 hq1 h2 hb2 hn hkb hre hB hdp hdb hp hl hp1 hk
  go_enter Try.func54, Try.ntmps54
  go_upto_region 1 with (fail)
  go_upto_region 2 with (fail)
  clear c1 f1
  try rw [hg4]
  clear hg4
  generalize (w.alloc (dmO [.int .i64 0, .int .i64 0, .bool false, .slice none 0 0, .string ⟨#[]⟩, .slice none 0 0, .slice none 0 0])).setCell ⟨gr, 1, none⟩ (.int .i64 (p + 1)) = w2 at *
  go_wp2_with fail
  refine hN.mono ?_
  clear hN c2
  rintro e w3 ⟨rfl, h3, hb3⟩
  have h4 := h3.alloc (dmO [.int .i64 k, .int .i64 0, .bool false, .slice none 0 0, .string ⟨#[]⟩, .slice none 0 0, .slice none 0 0])
  have hb4 := (H0.out.2.1.trans hb3).trans (Below.zero_alloc w3 (dmO [.int .i64 k, .int .i64 0, .bool false, .slice none 0 0, .string ⟨#[]⟩, .slice none 0 0, .slice none 0 0]))
  obtain ⟨g5, hg5⟩ : ∃ g, w3.heap.size = g := ⟨_, rfl⟩
  rw [hg5] at h4
  have c0 := ((show sat _ _ from h4.fr).left.cell 0).trans (show _ = some (Value.int .i64 k) from rfl)
  have H4 := Lib.hid (And.intro h4 hb4)
  clear h3 hb3 h4 hb4
  go_upto_region 5 with (fail)
  try rw [hg5]
  clear hg5
  generalize w3.alloc (dmO [.int .i64 k, .int .i64 0, .bool false, .slice none 0 0, .string ⟨#[]⟩, .slice none 0 0, .slice none 0 0]) = w4 at *
  have kk := HK.out
  subst kk
  have hsb := rdSign_bd hs
  have hS5 := rd_sign w4 B _ gr l1 (p + 1) H4.out.1
  rw [hs] at hS5
  go_wp2_with fail
  refine hS5.mono ?_
  clear hS5 c0
  rintro e w5 ⟨rfl, h5, hb5⟩
  have f5 := h5.fr.left.frozen 1
  have d5 := (h5.fr.left.cell 1).trans (show _ = some (Value.int .i64 0) from rfl)
  have hh5 := h5.put 1 (.int .i64 n) (fun w' h => H0.out.1 w' h.right)
  have hbb5 := ((H4.out.2).trans hb5).setCell (p := ⟨g5, 1, none⟩) (Nat.zero_le _) (.int .i64 n)
  have HH5 := Lib.hid (And.intro hh5 hbb5)
  clear h5 hb5 hh5 hbb5
  go_upto_region 34 with (fail)
  clear f5 d5
  generalize w5.setCell ⟨g5, 1, none⟩ (.int .i64 n) = w6 at *
  have hdk : DK emp (.mk 2 n false [] noT [] []) [.int .i64 2, .int .i64 n, .bool false, .slice none 0 0, .string ⟨#[]⟩, .slice none 0 0, .slice none 0 0] := DK.mk (mag := []) (items := []) (rest := []) ⟨by omega, by omega⟩ (fun w h j x hx => by simp at hx) (fun x hx => by simp at hx) ⟨Nat.le_refl _, Nat.le_refl _, Nat.le_refl _⟩ DKs.nil DKs.nil
  have hE0 : RdAt w6 B (Go.Proofs.Ytkjfplldfjmbaaa.blk g5 (dmO [.int .i64 2, .int .i64 n, .bool false, .slice none 0 0, .string ⟨#[]⟩, .slice none 0 0, .slice none 0 0]) * (Go.Proofs.Ytkjfplldfjmbaaa.blk g4 (dmO [.int .i64 0, .int .i64 0, .bool false, .slice none 0 0, .string ⟨#[]⟩, .slice none 0 0, .slice none 0 0]) * (emp * R))) gr l2 (p + 1) := by rw [HP.emp_mul]; exact HH5.out.1
  have hMB : ∀ w', sat w' (emp * R) → sat w' B := fun w' h => H0.out.1 w' h.right
  have hE := hE0
  have hsE := hE.fr
  obtain ⟨⟨d0, d1, d2, d3, d4, d5, d6⟩, ⟨z0, z1, z2, z3, z4, z5, z6⟩, y0, y1, y2, y3, y4, y5, y6⟩ := fin_cells hsE
  have hE2 : RdAt _ B (Go.Proofs.Ytkjfplldfjmbaaa.blk g4 (dmO [.int .i64 0, .int .i64 0, .bool false, .slice none 0 0, .string ⟨#[]⟩, .slice none 0 0, .slice none 0 0]) * (emp * R)) gr l2 (p + 1) := hE.drop (fun w' h => hMB w' h.right)
  obtain ⟨hF, hC, hbF⟩ := hE2.put7 (.int .i64 2) (.int .i64 n) (.bool false) (.slice none 0 0) (.string ⟨#[]⟩) (.slice none 0 0) (.slice none 0 0) hMB
  have HT := Lib.hid (And.intro hF (And.intro hC (And.intro ((HH5.out.2).trans hbF) hdk)))
  clear hE hsE hE2 hF hC hbF hMB
  go_wp2_with fail
  obtain ⟨r0, r1, r2, r3, r4, r5, r6⟩ := HT.out.2.1 _ rfl
  refine bodyPost_ret (v := .agg #[.int .i64 2, .int .i64 n, .bool false, .slice none 0 0, .string ⟨#[]⟩, .slice none 0 0, .slice none 0 0]) (by simp [results, Try.results54, go_sem, r0, r1, r2, r3, r4, r5, r6]) rfl ?_
  exact ⟨[.int .i64 2, .int .i64 n, .bool false, .slice none 0 0, .string ⟨#[]⟩, .slice none 0 0, .slice none 0 0], emp, rfl, HT.out.2.2.2, HT.out.1, HT.out.2.2.1⟩
set_option maxRecDepth 100000 in
set_option maxHeartbeats 4000000 in
theorem rdc_k3_no (deep : Nat) (w : World) (B R : HP) (gr : Nat) (l : List Int) (p : Int) (h : RdAt w B R gr l p) (hp : 0 ≤ p ∧ p ≤ 20000) (hl : l.length ≤ 67108864) (hp1 : ¬ 20000 < p + 1) (k : Int) (l1 : List Int) (hn : rdNum l = some (k, l1)) (hk : k = 3) (hs : rdSign l1 = none) (dp : Int) (hdp : dp = ((deep + 1 : Nat) : Int)) (hdb : deep ≤ 100) :
    Calls Try.prog 54 #[.pointer (some ⟨gr, 0, none⟩), .int .i64 dp] w (RcPost B R gr (rdConst (deep + 1) p l) w) := by
  have hB := h.sub
  have h1 := h.alloc (dmO [.int .i64 0, .int .i64 0, .bool false, .slice none 0 0, .string ⟨#[]⟩, .slice none 0 0, .slice none 0 0])
  have hb1 := Below.zero_alloc w (dmO [.int .i64 0, .int .i64 0, .bool false, .slice none 0 0, .string ⟨#[]⟩, .slice none 0 0, .slice none 0 0])
  obtain ⟨c1, f1, hq1⟩ := h1.parts
  have h2 := hq1 (p + 1)
  have hb2 := hb1.setCell (p := ⟨gr, 1, none⟩) (Nat.zero_le _) (.int .i64 (p + 1))
  have c2 := h2.parts.1
  obtain ⟨g4, hg4⟩ : ∃ g, w.heap.size = g := ⟨_, rfl⟩
  rw [hg4] at h2
  have hN := rd_number _ _ _ gr l (p + 1) h2
  rw [show rdNumF 0 0 l = some (k, l1) from hn] at hN
  have hkb := rdNumF_bd l 0 0 k l1 hn
  have hre : rdConst (deep + 1) p l = none := by subst hk; simp [rdConst, hp1, hn, hs]
  have e0 : (dp == 0) = false := by rw [beq_eq_false_iff_ne]; omega
  have e1 : decide (p + 1 > 20000) = false := by rw [decide_eq_false_iff_not]; omega
  have e2 : IntKind.i64.wrap (p + 1) = p + 1 := IntWalk.i64_in _ (by omega)
  rw [hre]
  have H0 := Lib.hid (And.intro hB (And.intro hb2 (And.intro hkb (And.intro hdp (And.intro hdb (And.intro hp hl))))))
  have HK := Lib.hid hk
  clear h h1 hb1 hq1 h2 hb2 hn hkb hre hB hdp hdb hp hl hp1 hk
  go_enter Try.func54, Try.ntmps54
  go_upto_region 1 with (fail)
  go_upto_region 2 with (fail)
  clear c1 f1
  try rw [hg4]
  clear hg4
  generalize (w.alloc (dmO [.int .i64 0, .int .i64 0, .bool false, .slice none 0 0, .string ⟨#[]⟩, .slice none 0 0, .slice none 0 0])).setCell ⟨gr, 1, none⟩ (.int .i64 (p + 1)) = w2 at *
  go_wp2_with fail
  refine hN.mono ?_
  clear hN c2
  rintro e w3 ⟨rfl, h3, hb3⟩
  have h4 := h3.alloc (dmO [.int .i64 k, .int .i64 0, .bool false, .slice none 0 0, .string ⟨#[]⟩, .slice none 0 0, .slice none 0 0])
  have hb4 := (H0.out.2.1.trans hb3).trans (Below.zero_alloc w3 (dmO [.int .i64 k, .int .i64 0, .bool false, .slice none 0 0, .string ⟨#[]⟩, .slice none 0 0, .slice none 0 0]))
  obtain ⟨g5, hg5⟩ : ∃ g, w3.heap.size = g := ⟨_, rfl⟩
  rw [hg5] at h4
  have c0 := ((show sat _ _ from h4.fr).left.cell 0).trans (show _ = some (Value.int .i64 k) from rfl)
  have H4 := Lib.hid (And.intro h4 hb4)
  clear h3 hb3 h4 hb4
  go_upto_region 5 with (fail)
  try rw [hg5]
  clear hg5
  generalize w3.alloc (dmO [.int .i64 k, .int .i64 0, .bool false, .slice none 0 0, .string ⟨#[]⟩, .slice none 0 0, .slice none 0 0]) = w4 at *
  have kk := HK.out
  subst kk
  have hS5 := rd_sign w4 B _ gr l1 (p + 1) H4.out.1
  rw [hs] at hS5
  go_wp2_with fail
  refine hS5.mono ?_
  clear hS5 c0
  rintro e w5 ⟨rfl, h5, hb5⟩
  unfold cutE
  go_wp2_with fail
  exact ⟨rfl, rfl, h5.right.right, (H4.out.2).trans hb5⟩
set_option maxRecDepth 100000 in
set_option maxHeartbeats 4000000 in
theorem rdc_k3 (deep : Nat) (w : World) (B R : HP) (gr : Nat) (l : List Int) (p : Int) (h : RdAt w B R gr l p) (hp : 0 ≤ p ∧ p ≤ 20000) (hl : l.length ≤ 67108864) (hp1 : ¬ 20000 < p + 1) (k : Int) (l1 : List Int) (hn : rdNum l = some (k, l1)) (hk : k = 3) (n : Int) (l2 : List Int) (hs : rdSign l1 = some (n, l2)) (dp : Int) (hdp : dp = ((deep + 1 : Nat) : Int)) (hdb : deep ≤ 100) :
    Calls Try.prog 54 #[.pointer (some ⟨gr, 0, none⟩), .int .i64 dp] w (RcPost B R gr (rdConst (deep + 1) p l) w) := by
  have hB := h.sub
  have h1 := h.alloc (dmO [.int .i64 0, .int .i64 0, .bool false, .slice none 0 0, .string ⟨#[]⟩, .slice none 0 0, .slice none 0 0])
  have hb1 := Below.zero_alloc w (dmO [.int .i64 0, .int .i64 0, .bool false, .slice none 0 0, .string ⟨#[]⟩, .slice none 0 0, .slice none 0 0])
  obtain ⟨c1, f1, hq1⟩ := h1.parts
  have h2 := hq1 (p + 1)
  have hb2 := hb1.setCell (p := ⟨gr, 1, none⟩) (Nat.zero_le _) (.int .i64 (p + 1))
  have c2 := h2.parts.1
  obtain ⟨g4, hg4⟩ : ∃ g, w.heap.size = g := ⟨_, rfl⟩
  rw [hg4] at h2
  have hN := rd_number _ _ _ gr l (p + 1) h2
  rw [show rdNumF 0 0 l = some (k, l1) from hn] at hN
  have hkb := rdNumF_bd l 0 0 k l1 hn
  have hre : rdConst (deep + 1) p l = some (.mk 3 n false [] noT [] [], p + 1, l2) := by subst hk; simp [rdConst, hp1, hn, hs]
  have e0 : (dp == 0) = false := by rw [beq_eq_false_iff_ne]; omega
  have e1 : decide (p + 1 > 20000) = false := by rw [decide_eq_false_iff_not]; omega
  have e2 : IntKind.i64.wrap (p + 1) = p + 1 := IntWalk.i64_in _ (by omega)
  rw [hre]
  have H0 := Lib.hid (And.intro hB (And.intro hb2 (And.intro hkb (And.intro hdp (And.intro hdb (And.intro hp hl))))))
  have HK := Lib.hid hk
  clear h h1 hb1 hq1 h2 hb2 hn hkb hre hB hdp hdb hp hl hp1 hk
  go_enter Try.func54, Try.ntmps54
  go_upto_region 1 with (fail)
  go_upto_region 2 with (fail)
  clear c1 f1
  try rw [hg4]
  clear hg4
  generalize (w.alloc (dmO [.int .i64 0, .int .i64 0, .bool false, .slice none 0 0, .string ⟨#[]⟩, .slice none 0 0, .slice none 0 0])).setCell ⟨gr, 1, none⟩ (.int .i64 (p + 1)) = w2 at *
  go_wp2_with fail
  refine hN.mono ?_
  clear hN c2
  rintro e w3 ⟨rfl, h3, hb3⟩
  have h4 := h3.alloc (dmO [.int .i64 k, .int .i64 0, .bool false, .slice none 0 0, .string ⟨#[]⟩, .slice none 0 0, .slice none 0 0])
  have hb4 := (H0.out.2.1.trans hb3).trans (Below.zero_alloc w3 (dmO [.int .i64 k, .int .i64 0, .bool false, .slice none 0 0, .string ⟨#[]⟩, .slice none 0 0, .slice none 0 0]))
  obtain ⟨g5, hg5⟩ : ∃ g, w3.heap.size = g := ⟨_, rfl⟩
  rw [hg5] at h4
  have c0 := ((show sat _ _ from h4.fr).left.cell 0).trans (show _ = some (Value.int .i64 k) from rfl)
  have H4 := Lib.hid (And.intro h4 hb4)
  clear h3 hb3 h4 hb4
  go_upto_region 5 with (fail)
  try rw [hg5]
  clear hg5
  generalize w3.alloc (dmO [.int .i64 k, .int .i64 0, .bool false, .slice none 0 0, .string ⟨#[]⟩, .slice none 0 0, .slice none 0 0]) = w4 at *
  have kk := HK.out
  subst kk
  have hsb := rdSign_bd hs
  have hS5 := rd_sign w4 B _ gr l1 (p + 1) H4.out.1
  rw [hs] at hS5
  go_wp2_with fail
  refine hS5.mono ?_
  clear hS5 c0
  rintro e w5 ⟨rfl, h5, hb5⟩
  have f5 := h5.fr.left.frozen 1
  have d5 := (h5.fr.left.cell 1).trans (show _ = some (Value.int .i64 0) from rfl)
  have hh5 := h5.put 1 (.int .i64 n) (fun w' h => H0.out.1 w' h.right)
  have hbb5 := ((H4.out.2).trans hb5).setCell (p := ⟨g5, 1, none⟩) (Nat.zero_le _) (.int .i64 n)
  have HH5 := Lib.hid (And.intro hh5 hbb5)
  clear h5 hb5 hh5 hbb5
  go_upto_region 34 with (fail)
  clear f5 d5
  generalize w5.setCell ⟨g5, 1, none⟩ (.int .i64 n) = w6 at *
  have hdk : DK emp (.mk 3 n false [] noT [] []) [.int .i64 3, .int .i64 n, .bool false, .slice none 0 0, .string ⟨#[]⟩, .slice none 0 0, .slice none 0 0] := DK.mk (mag := []) (items := []) (rest := []) ⟨by omega, by omega⟩ (fun w h j x hx => by simp at hx) (fun x hx => by simp at hx) ⟨Nat.le_refl _, Nat.le_refl _, Nat.le_refl _⟩ DKs.nil DKs.nil
  have hE0 : RdAt w6 B (Go.Proofs.Ytkjfplldfjmbaaa.blk g5 (dmO [.int .i64 3, .int .i64 n, .bool false, .slice none 0 0, .string ⟨#[]⟩, .slice none 0 0, .slice none 0 0]) * (Go.Proofs.Ytkjfplldfjmbaaa.blk g4 (dmO [.int .i64 0, .int .i64 0, .bool false, .slice none 0 0, .string ⟨#[]⟩, .slice none 0 0, .slice none 0 0]) * (emp * R))) gr l2 (p + 1) := by rw [HP.emp_mul]; exact HH5.out.1
  have hMB : ∀ w', sat w' (emp * R) → sat w' B := fun w' h => H0.out.1 w' h.right
  have hE := hE0
  have hsE := hE.fr
  obtain ⟨⟨d0, d1, d2, d3, d4, d5, d6⟩, ⟨z0, z1, z2, z3, z4, z5, z6⟩, y0, y1, y2, y3, y4, y5, y6⟩ := fin_cells hsE
  have hE2 : RdAt _ B (Go.Proofs.Ytkjfplldfjmbaaa.blk g4 (dmO [.int .i64 0, .int .i64 0, .bool false, .slice none 0 0, .string ⟨#[]⟩, .slice none 0 0, .slice none 0 0]) * (emp * R)) gr l2 (p + 1) := hE.drop (fun w' h => hMB w' h.right)
  obtain ⟨hF, hC, hbF⟩ := hE2.put7 (.int .i64 3) (.int .i64 n) (.bool false) (.slice none 0 0) (.string ⟨#[]⟩) (.slice none 0 0) (.slice none 0 0) hMB
  have HT := Lib.hid (And.intro hF (And.intro hC (And.intro ((HH5.out.2).trans hbF) hdk)))
  clear hE hsE hE2 hF hC hbF hMB
  go_wp2_with fail
  obtain ⟨r0, r1, r2, r3, r4, r5, r6⟩ := HT.out.2.1 _ rfl
  refine bodyPost_ret (v := .agg #[.int .i64 3, .int .i64 n, .bool false, .slice none 0 0, .string ⟨#[]⟩, .slice none 0 0, .slice none 0 0]) (by simp [results, Try.results54, go_sem, r0, r1, r2, r3, r4, r5, r6]) rfl ?_
  exact ⟨[.int .i64 3, .int .i64 n, .bool false, .slice none 0 0, .string ⟨#[]⟩, .slice none 0 0, .slice none 0 0], emp, rfl, HT.out.2.2.2, HT.out.1, HT.out.2.2.1⟩
set_option maxRecDepth 100000 in
set_option maxHeartbeats 4000000 in
theorem rdc_k9_no (deep : Nat) (w : World) (B R : HP) (gr : Nat) (l : List Int) (p : Int) (h : RdAt w B R gr l p) (hp : 0 ≤ p ∧ p ≤ 20000) (hl : l.length ≤ 67108864) (hp1 : ¬ 20000 < p + 1) (k : Int) (l1 : List Int) (hn : rdNum l = some (k, l1)) (hk : k = 9) (hs : rdSign l1 = none) (dp : Int) (hdp : dp = ((deep + 1 : Nat) : Int)) (hdb : deep ≤ 100) :
    Calls Try.prog 54 #[.pointer (some ⟨gr, 0, none⟩), .int .i64 dp] w (RcPost B R gr (rdConst (deep + 1) p l) w) := by
  have hB := h.sub
  have h1 := h.alloc (dmO [.int .i64 0, .int .i64 0, .bool false, .slice none 0 0, .string ⟨#[]⟩, .slice none 0 0, .slice none 0 0])
  have hb1 := Below.zero_alloc w (dmO [.int .i64 0, .int .i64 0, .bool false, .slice none 0 0, .string ⟨#[]⟩, .slice none 0 0, .slice none 0 0])
  obtain ⟨c1, f1, hq1⟩ := h1.parts
  have h2 := hq1 (p + 1)
  have hb2 := hb1.setCell (p := ⟨gr, 1, none⟩) (Nat.zero_le _) (.int .i64 (p + 1))
  have c2 := h2.parts.1
  obtain ⟨g4, hg4⟩ : ∃ g, w.heap.size = g := ⟨_, rfl⟩
  rw [hg4] at h2
  have hN := rd_number _ _ _ gr l (p + 1) h2
  rw [show rdNumF 0 0 l = some (k, l1) from hn] at hN
  have hkb := rdNumF_bd l 0 0 k l1 hn
  have hre : rdConst (deep + 1) p l = none := by subst hk; simp [rdConst, hp1, hn, hs]
  have e0 : (dp == 0) = false := by rw [beq_eq_false_iff_ne]; omega
  have e1 : decide (p + 1 > 20000) = false := by rw [decide_eq_false_iff_not]; omega
  have e2 : IntKind.i64.wrap (p + 1) = p + 1 := IntWalk.i64_in _ (by omega)
  rw [hre]
  have H0 := Lib.hid (And.intro hB (And.intro hb2 (And.intro hkb (And.intro hdp (And.intro hdb (And.intro hp hl))))))
  have HK := Lib.hid hk
  clear h h1 hb1 hq1 h2 hb2 hn hkb hre hB hdp hdb hp hl hp1 hk
  go_enter Try.func54, Try.ntmps54
  go_upto_region 1 with (fail)
  go_upto_region 2 with (fail)
  clear c1 f1
  try rw [hg4]
  clear hg4
  generalize (w.alloc (dmO [.int .i64 0, .int .i64 0, .bool false, .slice none 0 0, .string ⟨#[]⟩, .slice none 0 0, .slice none 0 0])).setCell ⟨gr, 1, none⟩ (.int .i64 (p + 1)) = w2 at *
  go_wp2_with fail
  refine hN.mono ?_
  clear hN c2
  rintro e w3 ⟨rfl, h3, hb3⟩
  have h4 := h3.alloc (dmO [.int .i64 k, .int .i64 0, .bool false, .slice none 0 0, .string ⟨#[]⟩, .slice none 0 0, .slice none 0 0])
  have hb4 := (H0.out.2.1.trans hb3).trans (Below.zero_alloc w3 (dmO [.int .i64 k, .int .i64 0, .bool false, .slice none 0 0, .string ⟨#[]⟩, .slice none 0 0, .slice none 0 0]))
  obtain ⟨g5, hg5⟩ : ∃ g, w3.heap.size = g := ⟨_, rfl⟩
  rw [hg5] at h4
  have c0 := ((show sat _ _ from h4.fr).left.cell 0).trans (show _ = some (Value.int .i64 k) from rfl)
  have H4 := Lib.hid (And.intro h4 hb4)
  clear h3 hb3 h4 hb4
  go_upto_region 5 with (fail)
  try rw [hg5]
  clear hg5
  generalize w3.alloc (dmO [.int .i64 k, .int .i64 0, .bool false, .slice none 0 0, .string ⟨#[]⟩, .slice none 0 0, .slice none 0 0]) = w4 at *
  have kk := HK.out
  subst kk
  have hS5 := rd_sign w4 B _ gr l1 (p + 1) H4.out.1
  rw [hs] at hS5
  go_wp2_with fail
  refine hS5.mono ?_
  clear hS5 c0
  rintro e w5 ⟨rfl, h5, hb5⟩
  unfold cutE
  go_wp2_with fail
  exact ⟨rfl, rfl, h5.right.right, (H4.out.2).trans hb5⟩
set_option maxRecDepth 100000 in
set_option maxHeartbeats 4000000 in
theorem rdc_k9 (deep : Nat) (w : World) (B R : HP) (gr : Nat) (l : List Int) (p : Int) (h : RdAt w B R gr l p) (hp : 0 ≤ p ∧ p ≤ 20000) (hl : l.length ≤ 67108864) (hp1 : ¬ 20000 < p + 1) (k : Int) (l1 : List Int) (hn : rdNum l = some (k, l1)) (hk : k = 9) (n : Int) (l2 : List Int) (hs : rdSign l1 = some (n, l2)) (dp : Int) (hdp : dp = ((deep + 1 : Nat) : Int)) (hdb : deep ≤ 100) :
    Calls Try.prog 54 #[.pointer (some ⟨gr, 0, none⟩), .int .i64 dp] w (RcPost B R gr (rdConst (deep + 1) p l) w) := by
  have hB := h.sub
  have h1 := h.alloc (dmO [.int .i64 0, .int .i64 0, .bool false, .slice none 0 0, .string ⟨#[]⟩, .slice none 0 0, .slice none 0 0])
  have hb1 := Below.zero_alloc w (dmO [.int .i64 0, .int .i64 0, .bool false, .slice none 0 0, .string ⟨#[]⟩, .slice none 0 0, .slice none 0 0])
  obtain ⟨c1, f1, hq1⟩ := h1.parts
  have h2 := hq1 (p + 1)
  have hb2 := hb1.setCell (p := ⟨gr, 1, none⟩) (Nat.zero_le _) (.int .i64 (p + 1))
  have c2 := h2.parts.1
  obtain ⟨g4, hg4⟩ : ∃ g, w.heap.size = g := ⟨_, rfl⟩
  rw [hg4] at h2
  have hN := rd_number _ _ _ gr l (p + 1) h2
  rw [show rdNumF 0 0 l = some (k, l1) from hn] at hN
  have hkb := rdNumF_bd l 0 0 k l1 hn
  have hre : rdConst (deep + 1) p l = some (.mk 9 n false [] noT [] [], p + 1, l2) := by subst hk; simp [rdConst, hp1, hn, hs]
  have e0 : (dp == 0) = false := by rw [beq_eq_false_iff_ne]; omega
  have e1 : decide (p + 1 > 20000) = false := by rw [decide_eq_false_iff_not]; omega
  have e2 : IntKind.i64.wrap (p + 1) = p + 1 := IntWalk.i64_in _ (by omega)
  rw [hre]
  have H0 := Lib.hid (And.intro hB (And.intro hb2 (And.intro hkb (And.intro hdp (And.intro hdb (And.intro hp hl))))))
  have HK := Lib.hid hk
  clear h h1 hb1 hq1 h2 hb2 hn hkb hre hB hdp hdb hp hl hp1 hk
  go_enter Try.func54, Try.ntmps54
  go_upto_region 1 with (fail)
  go_upto_region 2 with (fail)
  clear c1 f1
  try rw [hg4]
  clear hg4
  generalize (w.alloc (dmO [.int .i64 0, .int .i64 0, .bool false, .slice none 0 0, .string ⟨#[]⟩, .slice none 0 0, .slice none 0 0])).setCell ⟨gr, 1, none⟩ (.int .i64 (p + 1)) = w2 at *
  go_wp2_with fail
  refine hN.mono ?_
  clear hN c2
  rintro e w3 ⟨rfl, h3, hb3⟩
  have h4 := h3.alloc (dmO [.int .i64 k, .int .i64 0, .bool false, .slice none 0 0, .string ⟨#[]⟩, .slice none 0 0, .slice none 0 0])
  have hb4 := (H0.out.2.1.trans hb3).trans (Below.zero_alloc w3 (dmO [.int .i64 k, .int .i64 0, .bool false, .slice none 0 0, .string ⟨#[]⟩, .slice none 0 0, .slice none 0 0]))
  obtain ⟨g5, hg5⟩ : ∃ g, w3.heap.size = g := ⟨_, rfl⟩
  rw [hg5] at h4
  have c0 := ((show sat _ _ from h4.fr).left.cell 0).trans (show _ = some (Value.int .i64 k) from rfl)
  have H4 := Lib.hid (And.intro h4 hb4)
  clear h3 hb3 h4 hb4
  go_upto_region 5 with (fail)
  try rw [hg5]
  clear hg5
  generalize w3.alloc (dmO [.int .i64 k, .int .i64 0, .bool false, .slice none 0 0, .string ⟨#[]⟩, .slice none 0 0, .slice none 0 0]) = w4 at *
  have kk := HK.out
  subst kk
  have hsb := rdSign_bd hs
  have hS5 := rd_sign w4 B _ gr l1 (p + 1) H4.out.1
  rw [hs] at hS5
  go_wp2_with fail
  refine hS5.mono ?_
  clear hS5 c0
  rintro e w5 ⟨rfl, h5, hb5⟩
  have f5 := h5.fr.left.frozen 1
  have d5 := (h5.fr.left.cell 1).trans (show _ = some (Value.int .i64 0) from rfl)
  have hh5 := h5.put 1 (.int .i64 n) (fun w' h => H0.out.1 w' h.right)
  have hbb5 := ((H4.out.2).trans hb5).setCell (p := ⟨g5, 1, none⟩) (Nat.zero_le _) (.int .i64 n)
  have HH5 := Lib.hid (And.intro hh5 hbb5)
  clear h5 hb5 hh5 hbb5
  go_upto_region 34 with (fail)
  clear f5 d5
  generalize w5.setCell ⟨g5, 1, none⟩ (.int .i64 n) = w6 at *
  have hdk : DK emp (.mk 9 n false [] noT [] []) [.int .i64 9, .int .i64 n, .bool false, .slice none 0 0, .string ⟨#[]⟩, .slice none 0 0, .slice none 0 0] := DK.mk (mag := []) (items := []) (rest := []) ⟨by omega, by omega⟩ (fun w h j x hx => by simp at hx) (fun x hx => by simp at hx) ⟨Nat.le_refl _, Nat.le_refl _, Nat.le_refl _⟩ DKs.nil DKs.nil
  have hE0 : RdAt w6 B (Go.Proofs.Ytkjfplldfjmbaaa.blk g5 (dmO [.int .i64 9, .int .i64 n, .bool false, .slice none 0 0, .string ⟨#[]⟩, .slice none 0 0, .slice none 0 0]) * (Go.Proofs.Ytkjfplldfjmbaaa.blk g4 (dmO [.int .i64 0, .int .i64 0, .bool false, .slice none 0 0, .string ⟨#[]⟩, .slice none 0 0, .slice none 0 0]) * (emp * R))) gr l2 (p + 1) := by rw [HP.emp_mul]; exact HH5.out.1
  have hMB : ∀ w', sat w' (emp * R) → sat w' B := fun w' h => H0.out.1 w' h.right
  have hE := hE0
  have hsE := hE.fr
  obtain ⟨⟨d0, d1, d2, d3, d4, d5, d6⟩, ⟨z0, z1, z2, z3, z4, z5, z6⟩, y0, y1, y2, y3, y4, y5, y6⟩ := fin_cells hsE
  have hE2 : RdAt _ B (Go.Proofs.Ytkjfplldfjmbaaa.blk g4 (dmO [.int .i64 0, .int .i64 0, .bool false, .slice none 0 0, .string ⟨#[]⟩, .slice none 0 0, .slice none 0 0]) * (emp * R)) gr l2 (p + 1) := hE.drop (fun w' h => hMB w' h.right)
  obtain ⟨hF, hC, hbF⟩ := hE2.put7 (.int .i64 9) (.int .i64 n) (.bool false) (.slice none 0 0) (.string ⟨#[]⟩) (.slice none 0 0) (.slice none 0 0) hMB
  have HT := Lib.hid (And.intro hF (And.intro hC (And.intro ((HH5.out.2).trans hbF) hdk)))
  clear hE hsE hE2 hF hC hbF hMB
  go_wp2_with fail
  obtain ⟨r0, r1, r2, r3, r4, r5, r6⟩ := HT.out.2.1 _ rfl
  refine bodyPost_ret (v := .agg #[.int .i64 9, .int .i64 n, .bool false, .slice none 0 0, .string ⟨#[]⟩, .slice none 0 0, .slice none 0 0]) (by simp [results, Try.results54, go_sem, r0, r1, r2, r3, r4, r5, r6]) rfl ?_
  exact ⟨[.int .i64 9, .int .i64 n, .bool false, .slice none 0 0, .string ⟨#[]⟩, .slice none 0 0, .slice none 0 0], emp, rfl, HT.out.2.2.2, HT.out.1, HT.out.2.2.1⟩
end Go.Proofs.Ytkjfplldfjmbaaa

/- pack's reader of constants: kinds 4, 5, 8, and no kind. -/
namespace Go.Proofs.Ytkjfplldfjmbaaa
open Go.RowKit
set_option maxRecDepth 100000 in
set_option maxHeartbeats 4000000 in
theorem rdc_k4_no (deep : Nat) (w : World) (B R : HP) (gr : Nat) (l : List Int) (p : Int) (h : RdAt w B R gr l p) (hp : 0 ≤ p ∧ p ≤ 20000) (hl : l.length ≤ 67108864) (hp1 : ¬ 20000 < p + 1) (k : Int) (l1 : List Int) (hn : rdNum l = some (k, l1)) (hk : k = 4) (hs : rdText l1 = none) (dp : Int) (hdp : dp = ((deep + 1 : Nat) : Int)) (hdb : deep ≤ 100) :
    Calls Try.prog 54 #[.pointer (some ⟨gr, 0, none⟩), .int .i64 dp] w (RcPost B R gr (rdConst (deep + 1) p l) w) := by
  have hB := h.sub
  have h1 := h.alloc (dmO [.int .i64 0, .int .i64 0, .bool false, .slice none 0 0, .string ⟨#[]⟩, .slice none 0 0, .slice none 0 0])
  have hb1 := Below.zero_alloc w (dmO [.int .i64 0, .int .i64 0, .bool false, .slice none 0 0, .string ⟨#[]⟩, .slice none 0 0, .slice none 0 0])
  obtain ⟨c1, f1, hq1⟩ := h1.parts
  have h2 := hq1 (p + 1)
  have hb2 := hb1.setCell (p := ⟨gr, 1, none⟩) (Nat.zero_le _) (.int .i64 (p + 1))
  have c2 := h2.parts.1
  obtain ⟨g4, hg4⟩ : ∃ g, w.heap.size = g := ⟨_, rfl⟩
  rw [hg4] at h2
  have hN := rd_number _ _ _ gr l (p + 1) h2
  rw [show rdNumF 0 0 l = some (k, l1) from hn] at hN
  have hkb := rdNumF_bd l 0 0 k l1 hn
  have hre : rdConst (deep + 1) p l = none := by subst hk; simp [rdConst, hp1, hn, hs]
  have e0 : (dp == 0) = false := by rw [beq_eq_false_iff_ne]; omega
  have e1 : decide (p + 1 > 20000) = false := by rw [decide_eq_false_iff_not]; omega
  have e2 : IntKind.i64.wrap (p + 1) = p + 1 := IntWalk.i64_in _ (by omega)
  rw [hre]
  have H0 := Lib.hid (And.intro hB (And.intro hb2 (And.intro hkb (And.intro hdp (And.intro hdb (And.intro hp hl))))))
  have HK := Lib.hid hk
  clear h h1 hb1 hq1 h2 hb2 hn hkb hre hB hdp hdb hp hl hp1 hk
  go_enter Try.func54, Try.ntmps54
  go_upto_region 1 with (fail)
  go_upto_region 2 with (fail)
  clear c1 f1
  try rw [hg4]
  clear hg4
  generalize (w.alloc (dmO [.int .i64 0, .int .i64 0, .bool false, .slice none 0 0, .string ⟨#[]⟩, .slice none 0 0, .slice none 0 0])).setCell ⟨gr, 1, none⟩ (.int .i64 (p + 1)) = w2 at *
  go_wp2_with fail
  refine hN.mono ?_
  clear hN c2
  rintro e w3 ⟨rfl, h3, hb3⟩
  have h4 := h3.alloc (dmO [.int .i64 k, .int .i64 0, .bool false, .slice none 0 0, .string ⟨#[]⟩, .slice none 0 0, .slice none 0 0])
  have hb4 := (H0.out.2.1.trans hb3).trans (Below.zero_alloc w3 (dmO [.int .i64 k, .int .i64 0, .bool false, .slice none 0 0, .string ⟨#[]⟩, .slice none 0 0, .slice none 0 0]))
  obtain ⟨g5, hg5⟩ : ∃ g, w3.heap.size = g := ⟨_, rfl⟩
  rw [hg5] at h4
  have c0 := ((show sat _ _ from h4.fr).left.cell 0).trans (show _ = some (Value.int .i64 k) from rfl)
  have H4 := Lib.hid (And.intro h4 hb4)
  clear h3 hb3 h4 hb4
  go_upto_region 5 with (fail)
  try rw [hg5]
  clear hg5
  generalize w3.alloc (dmO [.int .i64 k, .int .i64 0, .bool false, .slice none 0 0, .string ⟨#[]⟩, .slice none 0 0, .slice none 0 0]) = w4 at *
  have kk := HK.out
  subst kk
  have hS5 := rd_text w4 B _ gr l1 (p + 1) H4.out.1
  rw [hs] at hS5
  go_wp2_with fail
  refine hS5.mono ?_
  clear hS5 c0
  rintro e w5 ⟨rfl, h5, hb5⟩
  unfold cutE
  go_wp2_with fail
  exact ⟨rfl, rfl, h5.right.right, (H4.out.2).trans hb5⟩
set_option maxRecDepth 100000 in
set_option maxHeartbeats 4000000 in
theorem rdc_k4 (deep : Nat) (w : World) (B R : HP) (gr : Nat) (l : List Int) (p : Int) (h : RdAt w B R gr l p) (hp : 0 ≤ p ∧ p ≤ 20000) (hl : l.length ≤ 67108864) (hp1 : ¬ 20000 < p + 1) (k : Int) (l1 : List Int) (hn : rdNum l = some (k, l1)) (hk : k = 4) (s : ByteArray) (l2 : List Int) (hs : rdText l1 = some (s, l2)) (dp : Int) (hdp : dp = ((deep + 1 : Nat) : Int)) (hdb : deep ≤ 100) :
    Calls Try.prog 54 #[.pointer (some ⟨gr, 0, none⟩), .int .i64 dp] w (RcPost B R gr (rdConst (deep + 1) p l) w) := by
  have hB := h.sub
  have h1 := h.alloc (dmO [.int .i64 0, .int .i64 0, .bool false, .slice none 0 0, .string ⟨#[]⟩, .slice none 0 0, .slice none 0 0])
  have hb1 := Below.zero_alloc w (dmO [.int .i64 0, .int .i64 0, .bool false, .slice none 0 0, .string ⟨#[]⟩, .slice none 0 0, .slice none 0 0])
  obtain ⟨c1, f1, hq1⟩ := h1.parts
  have h2 := hq1 (p + 1)
  have hb2 := hb1.setCell (p := ⟨gr, 1, none⟩) (Nat.zero_le _) (.int .i64 (p + 1))
  have c2 := h2.parts.1
  obtain ⟨g4, hg4⟩ : ∃ g, w.heap.size = g := ⟨_, rfl⟩
  rw [hg4] at h2
  have hN := rd_number _ _ _ gr l (p + 1) h2
  rw [show rdNumF 0 0 l = some (k, l1) from hn] at hN
  have hkb := rdNumF_bd l 0 0 k l1 hn
  have hre : rdConst (deep + 1) p l = some (.mk 4 0 false [] s [] [], p + 1, l2) := by subst hk; simp [rdConst, hp1, hn, hs]
  have e0 : (dp == 0) = false := by rw [beq_eq_false_iff_ne]; omega
  have e1 : decide (p + 1 > 20000) = false := by rw [decide_eq_false_iff_not]; omega
  have e2 : IntKind.i64.wrap (p + 1) = p + 1 := IntWalk.i64_in _ (by omega)
  rw [hre]
  have H0 := Lib.hid (And.intro hB (And.intro hb2 (And.intro hkb (And.intro hdp (And.intro hdb (And.intro hp hl))))))
  have HK := Lib.hid hk
  clear h h1 hb1 hq1 h2 hb2 hn hkb hre hB hdp hdb hp hl hp1 hk
  go_enter Try.func54, Try.ntmps54
  go_upto_region 1 with (fail)
  go_upto_region 2 with (fail)
  clear c1 f1
  try rw [hg4]
  clear hg4
  generalize (w.alloc (dmO [.int .i64 0, .int .i64 0, .bool false, .slice none 0 0, .string ⟨#[]⟩, .slice none 0 0, .slice none 0 0])).setCell ⟨gr, 1, none⟩ (.int .i64 (p + 1)) = w2 at *
  go_wp2_with fail
  refine hN.mono ?_
  clear hN c2
  rintro e w3 ⟨rfl, h3, hb3⟩
  have h4 := h3.alloc (dmO [.int .i64 k, .int .i64 0, .bool false, .slice none 0 0, .string ⟨#[]⟩, .slice none 0 0, .slice none 0 0])
  have hb4 := (H0.out.2.1.trans hb3).trans (Below.zero_alloc w3 (dmO [.int .i64 k, .int .i64 0, .bool false, .slice none 0 0, .string ⟨#[]⟩, .slice none 0 0, .slice none 0 0]))
  obtain ⟨g5, hg5⟩ : ∃ g, w3.heap.size = g := ⟨_, rfl⟩
  rw [hg5] at h4
  have c0 := ((show sat _ _ from h4.fr).left.cell 0).trans (show _ = some (Value.int .i64 k) from rfl)
  have H4 := Lib.hid (And.intro h4 hb4)
  clear h3 hb3 h4 hb4
  go_upto_region 5 with (fail)
  try rw [hg5]
  clear hg5
  generalize w3.alloc (dmO [.int .i64 k, .int .i64 0, .bool false, .slice none 0 0, .string ⟨#[]⟩, .slice none 0 0, .slice none 0 0]) = w4 at *
  have kk := HK.out
  subst kk
  have hS5 := rd_text w4 B _ gr l1 (p + 1) H4.out.1
  rw [hs] at hS5
  go_wp2_with fail
  refine hS5.mono ?_
  clear hS5 c0
  rintro e w5 ⟨rfl, h5, hb5⟩
  have f5 := h5.fr.left.frozen 4
  have d5 := (h5.fr.left.cell 4).trans (show _ = some (Value.string ⟨#[]⟩) from rfl)
  have hh5 := h5.put 4 (.string s) (fun w' h => H0.out.1 w' h.right)
  have hbb5 := ((H4.out.2).trans hb5).setCell (p := ⟨g5, 4, none⟩) (Nat.zero_le _) (.string s)
  have HH5 := Lib.hid (And.intro hh5 hbb5)
  clear h5 hb5 hh5 hbb5
  go_upto_region 34 with (fail)
  clear f5 d5
  generalize w5.setCell ⟨g5, 4, none⟩ (.string s) = w6 at *
  have hdk : DK emp (.mk 4 0 false [] s [] []) [.int .i64 4, .int .i64 0, .bool false, .slice none 0 0, .string s, .slice none 0 0, .slice none 0 0] := DK.mk (mag := []) (items := []) (rest := []) ⟨by omega, by omega⟩ (fun w h j x hx => by simp at hx) (fun x hx => by simp at hx) ⟨Nat.le_refl _, Nat.le_refl _, Nat.le_refl _⟩ DKs.nil DKs.nil
  have hE0 : RdAt w6 B (Go.Proofs.Ytkjfplldfjmbaaa.blk g5 (dmO [.int .i64 4, .int .i64 0, .bool false, .slice none 0 0, .string s, .slice none 0 0, .slice none 0 0]) * (Go.Proofs.Ytkjfplldfjmbaaa.blk g4 (dmO [.int .i64 0, .int .i64 0, .bool false, .slice none 0 0, .string ⟨#[]⟩, .slice none 0 0, .slice none 0 0]) * (emp * R))) gr l2 (p + 1) := by rw [HP.emp_mul]; exact HH5.out.1
  have hMB : ∀ w', sat w' (emp * R) → sat w' B := fun w' h => H0.out.1 w' h.right
  have hE := hE0
  have hsE := hE.fr
  obtain ⟨⟨d0, d1, d2, d3, d4, d5, d6⟩, ⟨z0, z1, z2, z3, z4, z5, z6⟩, y0, y1, y2, y3, y4, y5, y6⟩ := fin_cells hsE
  have hE2 : RdAt _ B (Go.Proofs.Ytkjfplldfjmbaaa.blk g4 (dmO [.int .i64 0, .int .i64 0, .bool false, .slice none 0 0, .string ⟨#[]⟩, .slice none 0 0, .slice none 0 0]) * (emp * R)) gr l2 (p + 1) := hE.drop (fun w' h => hMB w' h.right)
  obtain ⟨hF, hC, hbF⟩ := hE2.put7 (.int .i64 4) (.int .i64 0) (.bool false) (.slice none 0 0) (.string s) (.slice none 0 0) (.slice none 0 0) hMB
  have HT := Lib.hid (And.intro hF (And.intro hC (And.intro ((HH5.out.2).trans hbF) hdk)))
  clear hE hsE hE2 hF hC hbF hMB
  go_wp2_with fail
  obtain ⟨r0, r1, r2, r3, r4, r5, r6⟩ := HT.out.2.1 _ rfl
  refine bodyPost_ret (v := .agg #[.int .i64 4, .int .i64 0, .bool false, .slice none 0 0, .string s, .slice none 0 0, .slice none 0 0]) (by simp [results, Try.results54, go_sem, r0, r1, r2, r3, r4, r5, r6]) rfl ?_
  exact ⟨[.int .i64 4, .int .i64 0, .bool false, .slice none 0 0, .string s, .slice none 0 0, .slice none 0 0], emp, rfl, HT.out.2.2.2, HT.out.1, HT.out.2.2.1⟩
set_option maxRecDepth 100000 in
set_option maxHeartbeats 4000000 in
theorem rdc_k5_no (deep : Nat) (w : World) (B R : HP) (gr : Nat) (l : List Int) (p : Int) (h : RdAt w B R gr l p) (hp : 0 ≤ p ∧ p ≤ 20000) (hl : l.length ≤ 67108864) (hp1 : ¬ 20000 < p + 1) (k : Int) (l1 : List Int) (hn : rdNum l = some (k, l1)) (hk : k = 5) (hs : rdText l1 = none) (dp : Int) (hdp : dp = ((deep + 1 : Nat) : Int)) (hdb : deep ≤ 100) :
    Calls Try.prog 54 #[.pointer (some ⟨gr, 0, none⟩), .int .i64 dp] w (RcPost B R gr (rdConst (deep + 1) p l) w) := by
  have hB := h.sub
  have h1 := h.alloc (dmO [.int .i64 0, .int .i64 0, .bool false, .slice none 0 0, .string ⟨#[]⟩, .slice none 0 0, .slice none 0 0])
  have hb1 := Below.zero_alloc w (dmO [.int .i64 0, .int .i64 0, .bool false, .slice none 0 0, .string ⟨#[]⟩, .slice none 0 0, .slice none 0 0])
  obtain ⟨c1, f1, hq1⟩ := h1.parts
  have h2 := hq1 (p + 1)
  have hb2 := hb1.setCell (p := ⟨gr, 1, none⟩) (Nat.zero_le _) (.int .i64 (p + 1))
  have c2 := h2.parts.1
  obtain ⟨g4, hg4⟩ : ∃ g, w.heap.size = g := ⟨_, rfl⟩
  rw [hg4] at h2
  have hN := rd_number _ _ _ gr l (p + 1) h2
  rw [show rdNumF 0 0 l = some (k, l1) from hn] at hN
  have hkb := rdNumF_bd l 0 0 k l1 hn
  have hre : rdConst (deep + 1) p l = none := by subst hk; simp [rdConst, hp1, hn, hs]
  have e0 : (dp == 0) = false := by rw [beq_eq_false_iff_ne]; omega
  have e1 : decide (p + 1 > 20000) = false := by rw [decide_eq_false_iff_not]; omega
  have e2 : IntKind.i64.wrap (p + 1) = p + 1 := IntWalk.i64_in _ (by omega)
  rw [hre]
  have H0 := Lib.hid (And.intro hB (And.intro hb2 (And.intro hkb (And.intro hdp (And.intro hdb (And.intro hp hl))))))
  have HK := Lib.hid hk
  clear h h1 hb1 hq1 h2 hb2 hn hkb hre hB hdp hdb hp hl hp1 hk
  go_enter Try.func54, Try.ntmps54
  go_upto_region 1 with (fail)
  go_upto_region 2 with (fail)
  clear c1 f1
  try rw [hg4]
  clear hg4
  generalize (w.alloc (dmO [.int .i64 0, .int .i64 0, .bool false, .slice none 0 0, .string ⟨#[]⟩, .slice none 0 0, .slice none 0 0])).setCell ⟨gr, 1, none⟩ (.int .i64 (p + 1)) = w2 at *
  go_wp2_with fail
  refine hN.mono ?_
  clear hN c2
  rintro e w3 ⟨rfl, h3, hb3⟩
  have h4 := h3.alloc (dmO [.int .i64 k, .int .i64 0, .bool false, .slice none 0 0, .string ⟨#[]⟩, .slice none 0 0, .slice none 0 0])
  have hb4 := (H0.out.2.1.trans hb3).trans (Below.zero_alloc w3 (dmO [.int .i64 k, .int .i64 0, .bool false, .slice none 0 0, .string ⟨#[]⟩, .slice none 0 0, .slice none 0 0]))
  obtain ⟨g5, hg5⟩ : ∃ g, w3.heap.size = g := ⟨_, rfl⟩
  rw [hg5] at h4
  have c0 := ((show sat _ _ from h4.fr).left.cell 0).trans (show _ = some (Value.int .i64 k) from rfl)
  have H4 := Lib.hid (And.intro h4 hb4)
  clear h3 hb3 h4 hb4
  go_upto_region 5 with (fail)
  try rw [hg5]
  clear hg5
  generalize w3.alloc (dmO [.int .i64 k, .int .i64 0, .bool false, .slice none 0 0, .string ⟨#[]⟩, .slice none 0 0, .slice none 0 0]) = w4 at *
  have kk := HK.out
  subst kk
  have hS5 := rd_text w4 B _ gr l1 (p + 1) H4.out.1
  rw [hs] at hS5
  go_wp2_with fail
  refine hS5.mono ?_
  clear hS5 c0
  rintro e w5 ⟨rfl, h5, hb5⟩
  unfold cutE
  go_wp2_with fail
  exact ⟨rfl, rfl, h5.right.right, (H4.out.2).trans hb5⟩
set_option maxRecDepth 100000 in
set_option maxHeartbeats 4000000 in
theorem rdc_k5_no2 (deep : Nat) (w : World) (B R : HP) (gr : Nat) (l : List Int) (p : Int) (h : RdAt w B R gr l p) (hp : 0 ≤ p ∧ p ≤ 20000) (hl : l.length ≤ 67108864) (hp1 : ¬ 20000 < p + 1) (k : Int) (l1 : List Int) (hn : rdNum l = some (k, l1)) (hk : k = 5) (s : ByteArray) (l2 : List Int) (hs : rdText l1 = some (s, l2)) (hs2 : rdSign l2 = none) (dp : Int) (hdp : dp = ((deep + 1 : Nat) : Int)) (hdb : deep ≤ 100) :
    Calls Try.prog 54 #[.pointer (some ⟨gr, 0, none⟩), .int .i64 dp] w (RcPost B R gr (rdConst (deep + 1) p l) w) := by
  have hB := h.sub
  have h1 := h.alloc (dmO [.int .i64 0, .int .i64 0, .bool false, .slice none 0 0, .string ⟨#[]⟩, .slice none 0 0, .slice none 0 0])
  have hb1 := Below.zero_alloc w (dmO [.int .i64 0, .int .i64 0, .bool false, .slice none 0 0, .string ⟨#[]⟩, .slice none 0 0, .slice none 0 0])
  obtain ⟨c1, f1, hq1⟩ := h1.parts
  have h2 := hq1 (p + 1)
  have hb2 := hb1.setCell (p := ⟨gr, 1, none⟩) (Nat.zero_le _) (.int .i64 (p + 1))
  have c2 := h2.parts.1
  obtain ⟨g4, hg4⟩ : ∃ g, w.heap.size = g := ⟨_, rfl⟩
  rw [hg4] at h2
  have hN := rd_number _ _ _ gr l (p + 1) h2
  rw [show rdNumF 0 0 l = some (k, l1) from hn] at hN
  have hkb := rdNumF_bd l 0 0 k l1 hn
  have hre : rdConst (deep + 1) p l = none := by subst hk; simp [rdConst, hp1, hn, hs, hs2]
  have e0 : (dp == 0) = false := by rw [beq_eq_false_iff_ne]; omega
  have e1 : decide (p + 1 > 20000) = false := by rw [decide_eq_false_iff_not]; omega
  have e2 : IntKind.i64.wrap (p + 1) = p + 1 := IntWalk.i64_in _ (by omega)
  rw [hre]
  have H0 := Lib.hid (And.intro hB (And.intro hb2 (And.intro hkb (And.intro hdp (And.intro hdb (And.intro hp hl))))))
  have HK := Lib.hid hk
  clear h h1 hb1 hq1 h2 hb2 hn hkb hre hB hdp hdb hp hl hp1 hk
  go_enter Try.func54, Try.ntmps54
  go_upto_region 1 with (fail)
  go_upto_region 2 with (fail)
  clear c1 f1
  try rw [hg4]
  clear hg4
  generalize (w.alloc (dmO [.int .i64 0, .int .i64 0, .bool false, .slice none 0 0, .string ⟨#[]⟩, .slice none 0 0, .slice none 0 0])).setCell ⟨gr, 1, none⟩ (.int .i64 (p + 1)) = w2 at *
  go_wp2_with fail
  refine hN.mono ?_
  clear hN c2
  rintro e w3 ⟨rfl, h3, hb3⟩
  have h4 := h3.alloc (dmO [.int .i64 k, .int .i64 0, .bool false, .slice none 0 0, .string ⟨#[]⟩, .slice none 0 0, .slice none 0 0])
  have hb4 := (H0.out.2.1.trans hb3).trans (Below.zero_alloc w3 (dmO [.int .i64 k, .int .i64 0, .bool false, .slice none 0 0, .string ⟨#[]⟩, .slice none 0 0, .slice none 0 0]))
  obtain ⟨g5, hg5⟩ : ∃ g, w3.heap.size = g := ⟨_, rfl⟩
  rw [hg5] at h4
  have c0 := ((show sat _ _ from h4.fr).left.cell 0).trans (show _ = some (Value.int .i64 k) from rfl)
  have H4 := Lib.hid (And.intro h4 hb4)
  clear h3 hb3 h4 hb4
  go_upto_region 5 with (fail)
  try rw [hg5]
  clear hg5
  generalize w3.alloc (dmO [.int .i64 k, .int .i64 0, .bool false, .slice none 0 0, .string ⟨#[]⟩, .slice none 0 0, .slice none 0 0]) = w4 at *
  have kk := HK.out
  subst kk
  have hS5 := rd_text w4 B _ gr l1 (p + 1) H4.out.1
  rw [hs] at hS5
  go_wp2_with fail
  refine hS5.mono ?_
  clear hS5 c0
  rintro e w5 ⟨rfl, h5, hb5⟩
  have f5 := h5.fr.left.frozen 4
  have d5 := (h5.fr.left.cell 4).trans (show _ = some (Value.string ⟨#[]⟩) from rfl)
  have hh5 := h5.put 4 (.string s) (fun w' h => H0.out.1 w' h.right)
  have hbb5 := ((H4.out.2).trans hb5).setCell (p := ⟨g5, 4, none⟩) (Nat.zero_le _) (.string s)
  have HH5 := Lib.hid (And.intro hh5 hbb5)
  clear h5 hb5 hh5 hbb5
  go_upto_region 24 with (fail)
  clear f5 d5
  generalize w5.setCell ⟨g5, 4, none⟩ (.string s) = w6 at *
  have hS7 := rd_sign w6 B _ gr l2 (p + 1) HH5.out.1
  rw [hs2] at hS7
  go_wp2_with fail
  refine hS7.mono ?_
  clear hS7 
  rintro e w7 ⟨rfl, h7, hb7⟩
  unfold cutE
  go_wp2_with fail
  exact ⟨rfl, rfl, h7.right.right, (HH5.out.2).trans hb7⟩
set_option maxRecDepth 100000 in
set_option maxHeartbeats 4000000 in
theorem rdc_k5 (deep : Nat) (w : World) (B R : HP) (gr : Nat) (l : List Int) (p : Int) (h : RdAt w B R gr l p) (hp : 0 ≤ p ∧ p ≤ 20000) (hl : l.length ≤ 67108864) (hp1 : ¬ 20000 < p + 1) (k : Int) (l1 : List Int) (hn : rdNum l = some (k, l1)) (hk : k = 5) (s : ByteArray) (l2 : List Int) (hs : rdText l1 = some (s, l2)) (n : Int) (l3 : List Int) (hs2 : rdSign l2 = some (n, l3)) (dp : Int) (hdp : dp = ((deep + 1 : Nat) : Int)) (hdb : deep ≤ 100) :
    Calls Try.prog 54 #[.pointer (some ⟨gr, 0, none⟩), .int .i64 dp] w (RcPost B R gr (rdConst (deep + 1) p l) w) := by
  have hB := h.sub
  have h1 := h.alloc (dmO [.int .i64 0, .int .i64 0, .bool false, .slice none 0 0, .string ⟨#[]⟩, .slice none 0 0, .slice none 0 0])
  have hb1 := Below.zero_alloc w (dmO [.int .i64 0, .int .i64 0, .bool false, .slice none 0 0, .string ⟨#[]⟩, .slice none 0 0, .slice none 0 0])
  obtain ⟨c1, f1, hq1⟩ := h1.parts
  have h2 := hq1 (p + 1)
  have hb2 := hb1.setCell (p := ⟨gr, 1, none⟩) (Nat.zero_le _) (.int .i64 (p + 1))
  have c2 := h2.parts.1
  obtain ⟨g4, hg4⟩ : ∃ g, w.heap.size = g := ⟨_, rfl⟩
  rw [hg4] at h2
  have hN := rd_number _ _ _ gr l (p + 1) h2
  rw [show rdNumF 0 0 l = some (k, l1) from hn] at hN
  have hkb := rdNumF_bd l 0 0 k l1 hn
  have hre : rdConst (deep + 1) p l = some (.mk 5 n false [] s [] [], p + 1, l3) := by subst hk; simp [rdConst, hp1, hn, hs, hs2]
  have e0 : (dp == 0) = false := by rw [beq_eq_false_iff_ne]; omega
  have e1 : decide (p + 1 > 20000) = false := by rw [decide_eq_false_iff_not]; omega
  have e2 : IntKind.i64.wrap (p + 1) = p + 1 := IntWalk.i64_in _ (by omega)
  rw [hre]
  have H0 := Lib.hid (And.intro hB (And.intro hb2 (And.intro hkb (And.intro hdp (And.intro hdb (And.intro hp hl))))))
  have HK := Lib.hid hk
  clear h h1 hb1 hq1 h2 hb2 hn hkb hre hB hdp hdb hp hl hp1 hk
  go_enter Try.func54, Try.ntmps54
  go_upto_region 1 with (fail)
  go_upto_region 2 with (fail)
  clear c1 f1
  try rw [hg4]
  clear hg4
  generalize (w.alloc (dmO [.int .i64 0, .int .i64 0, .bool false, .slice none 0 0, .string ⟨#[]⟩, .slice none 0 0, .slice none 0 0])).setCell ⟨gr, 1, none⟩ (.int .i64 (p + 1)) = w2 at *
  go_wp2_with fail
  refine hN.mono ?_
  clear hN c2
  rintro e w3 ⟨rfl, h3, hb3⟩
  have h4 := h3.alloc (dmO [.int .i64 k, .int .i64 0, .bool false, .slice none 0 0, .string ⟨#[]⟩, .slice none 0 0, .slice none 0 0])
  have hb4 := (H0.out.2.1.trans hb3).trans (Below.zero_alloc w3 (dmO [.int .i64 k, .int .i64 0, .bool false, .slice none 0 0, .string ⟨#[]⟩, .slice none 0 0, .slice none 0 0]))
  obtain ⟨g5, hg5⟩ : ∃ g, w3.heap.size = g := ⟨_, rfl⟩
  rw [hg5] at h4
  have c0 := ((show sat _ _ from h4.fr).left.cell 0).trans (show _ = some (Value.int .i64 k) from rfl)
  have H4 := Lib.hid (And.intro h4 hb4)
  clear h3 hb3 h4 hb4
  go_upto_region 5 with (fail)
  try rw [hg5]
  clear hg5
  generalize w3.alloc (dmO [.int .i64 k, .int .i64 0, .bool false, .slice none 0 0, .string ⟨#[]⟩, .slice none 0 0, .slice none 0 0]) = w4 at *
  have hsb := rdSign_bd hs2
  have kk := HK.out
  subst kk
  have hS5 := rd_text w4 B _ gr l1 (p + 1) H4.out.1
  rw [hs] at hS5
  go_wp2_with fail
  refine hS5.mono ?_
  clear hS5 c0
  rintro e w5 ⟨rfl, h5, hb5⟩
  have f5 := h5.fr.left.frozen 4
  have d5 := (h5.fr.left.cell 4).trans (show _ = some (Value.string ⟨#[]⟩) from rfl)
  have hh5 := h5.put 4 (.string s) (fun w' h => H0.out.1 w' h.right)
  have hbb5 := ((H4.out.2).trans hb5).setCell (p := ⟨g5, 4, none⟩) (Nat.zero_le _) (.string s)
  have HH5 := Lib.hid (And.intro hh5 hbb5)
  clear h5 hb5 hh5 hbb5
  go_upto_region 24 with (fail)
  clear f5 d5
  generalize w5.setCell ⟨g5, 4, none⟩ (.string s) = w6 at *
  have hS7 := rd_sign w6 B _ gr l2 (p + 1) HH5.out.1
  rw [hs2] at hS7
  go_wp2_with fail
  refine hS7.mono ?_
  clear hS7 
  rintro e w7 ⟨rfl, h7, hb7⟩
  have f7 := h7.fr.left.frozen 1
  have d7 := (h7.fr.left.cell 1).trans (show _ = some (Value.int .i64 0) from rfl)
  have hh7 := h7.put 1 (.int .i64 n) (fun w' h => H0.out.1 w' h.right)
  have hbb7 := ((HH5.out.2).trans hb7).setCell (p := ⟨g5, 1, none⟩) (Nat.zero_le _) (.int .i64 n)
  have HH7 := Lib.hid (And.intro hh7 hbb7)
  clear h7 hb7 hh7 hbb7
  go_upto_region 34 with (fail)
  clear f7 d7
  generalize w7.setCell ⟨g5, 1, none⟩ (.int .i64 n) = w8 at *
  have hdk : DK emp (.mk 5 n false [] s [] []) [.int .i64 5, .int .i64 n, .bool false, .slice none 0 0, .string s, .slice none 0 0, .slice none 0 0] := DK.mk (mag := []) (items := []) (rest := []) ⟨by omega, by omega⟩ (fun w h j x hx => by simp at hx) (fun x hx => by simp at hx) ⟨Nat.le_refl _, Nat.le_refl _, Nat.le_refl _⟩ DKs.nil DKs.nil
  have hE0 : RdAt w8 B (Go.Proofs.Ytkjfplldfjmbaaa.blk g5 (dmO [.int .i64 5, .int .i64 n, .bool false, .slice none 0 0, .string s, .slice none 0 0, .slice none 0 0]) * (Go.Proofs.Ytkjfplldfjmbaaa.blk g4 (dmO [.int .i64 0, .int .i64 0, .bool false, .slice none 0 0, .string ⟨#[]⟩, .slice none 0 0, .slice none 0 0]) * (emp * R))) gr l3 (p + 1) := by rw [HP.emp_mul]; exact HH7.out.1
  have hMB : ∀ w', sat w' (emp * R) → sat w' B := fun w' h => H0.out.1 w' h.right
  have hE := hE0
  have hsE := hE.fr
  obtain ⟨⟨d0, d1, d2, d3, d4, d5, d6⟩, ⟨z0, z1, z2, z3, z4, z5, z6⟩, y0, y1, y2, y3, y4, y5, y6⟩ := fin_cells hsE
  have hE2 : RdAt _ B (Go.Proofs.Ytkjfplldfjmbaaa.blk g4 (dmO [.int .i64 0, .int .i64 0, .bool false, .slice none 0 0, .string ⟨#[]⟩, .slice none 0 0, .slice none 0 0]) * (emp * R)) gr l3 (p + 1) := hE.drop (fun w' h => hMB w' h.right)
  obtain ⟨hF, hC, hbF⟩ := hE2.put7 (.int .i64 5) (.int .i64 n) (.bool false) (.slice none 0 0) (.string s) (.slice none 0 0) (.slice none 0 0) hMB
  have HT := Lib.hid (And.intro hF (And.intro hC (And.intro ((HH7.out.2).trans hbF) hdk)))
  clear hE hsE hE2 hF hC hbF hMB
  go_wp2_with fail
  obtain ⟨r0, r1, r2, r3, r4, r5, r6⟩ := HT.out.2.1 _ rfl
  refine bodyPost_ret (v := .agg #[.int .i64 5, .int .i64 n, .bool false, .slice none 0 0, .string s, .slice none 0 0, .slice none 0 0]) (by simp [results, Try.results54, go_sem, r0, r1, r2, r3, r4, r5, r6]) rfl ?_
  exact ⟨[.int .i64 5, .int .i64 n, .bool false, .slice none 0 0, .string s, .slice none 0 0, .slice none 0 0], emp, rfl, HT.out.2.2.2, HT.out.1, HT.out.2.2.1⟩
set_option maxRecDepth 100000 in
set_option maxHeartbeats 4000000 in
theorem rdc_k8 (deep : Nat) (w : World) (B R : HP) (gr : Nat) (l : List Int) (p : Int) (h : RdAt w B R gr l p) (hp : 0 ≤ p ∧ p ≤ 20000) (hl : l.length ≤ 67108864) (hp1 : ¬ 20000 < p + 1) (k : Int) (l1 : List Int) (hn : rdNum l = some (k, l1)) (hk : k = 8) (dp : Int) (hdp : dp = ((deep + 1 : Nat) : Int)) (hdb : deep ≤ 100) :
    Calls Try.prog 54 #[.pointer (some ⟨gr, 0, none⟩), .int .i64 dp] w (RcPost B R gr (rdConst (deep + 1) p l) w) := by
  have hB := h.sub
  have h1 := h.alloc (dmO [.int .i64 0, .int .i64 0, .bool false, .slice none 0 0, .string ⟨#[]⟩, .slice none 0 0, .slice none 0 0])
  have hb1 := Below.zero_alloc w (dmO [.int .i64 0, .int .i64 0, .bool false, .slice none 0 0, .string ⟨#[]⟩, .slice none 0 0, .slice none 0 0])
  obtain ⟨c1, f1, hq1⟩ := h1.parts
  have h2 := hq1 (p + 1)
  have hb2 := hb1.setCell (p := ⟨gr, 1, none⟩) (Nat.zero_le _) (.int .i64 (p + 1))
  have c2 := h2.parts.1
  obtain ⟨g4, hg4⟩ : ∃ g, w.heap.size = g := ⟨_, rfl⟩
  rw [hg4] at h2
  have hN := rd_number _ _ _ gr l (p + 1) h2
  rw [show rdNumF 0 0 l = some (k, l1) from hn] at hN
  have hkb := rdNumF_bd l 0 0 k l1 hn
  have hre : rdConst (deep + 1) p l = some (.mk 8 0 false [] noT [] [], p + 1, l1) := by subst hk; simp [rdConst, hp1, hn]
  have e0 : (dp == 0) = false := by rw [beq_eq_false_iff_ne]; omega
  have e1 : decide (p + 1 > 20000) = false := by rw [decide_eq_false_iff_not]; omega
  have e2 : IntKind.i64.wrap (p + 1) = p + 1 := IntWalk.i64_in _ (by omega)
  rw [hre]
  have H0 := Lib.hid (And.intro hB (And.intro hb2 (And.intro hkb (And.intro hdp (And.intro hdb (And.intro hp hl))))))
  have HK := Lib.hid hk
  clear h h1 hb1 hq1 h2 hb2 hn hkb hre hB hdp hdb hp hl hp1 hk
  go_enter Try.func54, Try.ntmps54
  go_upto_region 1 with (fail)
  go_upto_region 2 with (fail)
  clear c1 f1
  try rw [hg4]
  clear hg4
  generalize (w.alloc (dmO [.int .i64 0, .int .i64 0, .bool false, .slice none 0 0, .string ⟨#[]⟩, .slice none 0 0, .slice none 0 0])).setCell ⟨gr, 1, none⟩ (.int .i64 (p + 1)) = w2 at *
  go_wp2_with fail
  refine hN.mono ?_
  clear hN c2
  rintro e w3 ⟨rfl, h3, hb3⟩
  have h4 := h3.alloc (dmO [.int .i64 k, .int .i64 0, .bool false, .slice none 0 0, .string ⟨#[]⟩, .slice none 0 0, .slice none 0 0])
  have hb4 := (H0.out.2.1.trans hb3).trans (Below.zero_alloc w3 (dmO [.int .i64 k, .int .i64 0, .bool false, .slice none 0 0, .string ⟨#[]⟩, .slice none 0 0, .slice none 0 0]))
  obtain ⟨g5, hg5⟩ : ∃ g, w3.heap.size = g := ⟨_, rfl⟩
  rw [hg5] at h4
  have c0 := ((show sat _ _ from h4.fr).left.cell 0).trans (show _ = some (Value.int .i64 k) from rfl)
  have H4 := Lib.hid (And.intro h4 hb4)
  clear h3 hb3 h4 hb4
  go_upto_region 5 with (fail)
  try rw [hg5]
  clear hg5
  generalize w3.alloc (dmO [.int .i64 k, .int .i64 0, .bool false, .slice none 0 0, .string ⟨#[]⟩, .slice none 0 0, .slice none 0 0]) = w4 at *
  have k8 := HK.out
  subst k8
  have hdk : DK emp (.mk 8 0 false [] noT [] []) [.int .i64 8, .int .i64 0, .bool false, .slice none 0 0, .string ⟨#[]⟩, .slice none 0 0, .slice none 0 0] := DK.mk (mag := []) (items := []) (rest := []) ⟨by omega, by omega⟩ (fun w h j x hx => by simp at hx) (fun x hx => by simp at hx) ⟨Nat.le_refl _, Nat.le_refl _, Nat.le_refl _⟩ DKs.nil DKs.nil
  have hE0 : RdAt w4 B (Go.Proofs.Ytkjfplldfjmbaaa.blk g5 (dmO [.int .i64 8, .int .i64 0, .bool false, .slice none 0 0, .string ⟨#[]⟩, .slice none 0 0, .slice none 0 0]) * (Go.Proofs.Ytkjfplldfjmbaaa.blk g4 (dmO [.int .i64 0, .int .i64 0, .bool false, .slice none 0 0, .string ⟨#[]⟩, .slice none 0 0, .slice none 0 0]) * (emp * R))) gr l1 (p + 1) := by rw [HP.emp_mul]; exact H4.out.1
  clear c0
  have hMB : ∀ w', sat w' (emp * R) → sat w' B := fun w' h => H0.out.1 w' h.right
  have hE := hE0
  have hsE := hE.fr
  obtain ⟨⟨d0, d1, d2, d3, d4, d5, d6⟩, ⟨z0, z1, z2, z3, z4, z5, z6⟩, y0, y1, y2, y3, y4, y5, y6⟩ := fin_cells hsE
  have hE2 : RdAt _ B (Go.Proofs.Ytkjfplldfjmbaaa.blk g4 (dmO [.int .i64 0, .int .i64 0, .bool false, .slice none 0 0, .string ⟨#[]⟩, .slice none 0 0, .slice none 0 0]) * (emp * R)) gr l1 (p + 1) := hE.drop (fun w' h => hMB w' h.right)
  obtain ⟨hF, hC, hbF⟩ := hE2.put7 (.int .i64 8) (.int .i64 0) (.bool false) (.slice none 0 0) (.string ⟨#[]⟩) (.slice none 0 0) (.slice none 0 0) hMB
  have HT := Lib.hid (And.intro hF (And.intro hC (And.intro ((H4.out.2).trans hbF) hdk)))
  clear hE hsE hE2 hF hC hbF hMB
  go_wp2_with fail
  obtain ⟨r0, r1, r2, r3, r4, r5, r6⟩ := HT.out.2.1 _ rfl
  refine bodyPost_ret (v := .agg #[.int .i64 8, .int .i64 0, .bool false, .slice none 0 0, .string ⟨#[]⟩, .slice none 0 0, .slice none 0 0]) (by simp [results, Try.results54, go_sem, r0, r1, r2, r3, r4, r5, r6]) rfl ?_
  exact ⟨[.int .i64 8, .int .i64 0, .bool false, .slice none 0 0, .string ⟨#[]⟩, .slice none 0 0, .slice none 0 0], emp, rfl, HT.out.2.2.2, HT.out.1, HT.out.2.2.1⟩
set_option maxRecDepth 100000 in
set_option maxHeartbeats 4000000 in
theorem rdc_k0 (deep : Nat) (w : World) (B R : HP) (gr : Nat) (l : List Int) (p : Int) (h : RdAt w B R gr l p) (hp : 0 ≤ p ∧ p ≤ 20000) (hl : l.length ≤ 67108864) (hp1 : ¬ 20000 < p + 1) (k : Int) (l1 : List Int) (hn : rdNum l = some (k, l1)) (hk : k ≠ 1 ∧ k ≠ 2 ∧ k ≠ 3 ∧ k ≠ 4 ∧ k ≠ 5 ∧ k ≠ 6 ∧ k ≠ 7 ∧ k ≠ 8 ∧ k ≠ 9) (dp : Int) (hdp : dp = ((deep + 1 : Nat) : Int)) (hdb : deep ≤ 100) :
    Calls Try.prog 54 #[.pointer (some ⟨gr, 0, none⟩), .int .i64 dp] w (RcPost B R gr (rdConst (deep + 1) p l) w) := by
  have hB := h.sub
  have h1 := h.alloc (dmO [.int .i64 0, .int .i64 0, .bool false, .slice none 0 0, .string ⟨#[]⟩, .slice none 0 0, .slice none 0 0])
  have hb1 := Below.zero_alloc w (dmO [.int .i64 0, .int .i64 0, .bool false, .slice none 0 0, .string ⟨#[]⟩, .slice none 0 0, .slice none 0 0])
  obtain ⟨c1, f1, hq1⟩ := h1.parts
  have h2 := hq1 (p + 1)
  have hb2 := hb1.setCell (p := ⟨gr, 1, none⟩) (Nat.zero_le _) (.int .i64 (p + 1))
  have c2 := h2.parts.1
  obtain ⟨g4, hg4⟩ : ∃ g, w.heap.size = g := ⟨_, rfl⟩
  rw [hg4] at h2
  have hN := rd_number _ _ _ gr l (p + 1) h2
  rw [show rdNumF 0 0 l = some (k, l1) from hn] at hN
  have hkb := rdNumF_bd l 0 0 k l1 hn
  have hre : rdConst (deep + 1) p l = none := by obtain ⟨n1, n2, n3, n4, n5, n6, n7, n8, n9⟩ := hk; simp [rdConst, hp1, hn, n1, n2, n3, n4, n5, n6, n7, n8, n9]
  have e0 : (dp == 0) = false := by rw [beq_eq_false_iff_ne]; omega
  have e1 : decide (p + 1 > 20000) = false := by rw [decide_eq_false_iff_not]; omega
  have e2 : IntKind.i64.wrap (p + 1) = p + 1 := IntWalk.i64_in _ (by omega)
  rw [hre]
  have H0 := Lib.hid (And.intro hB (And.intro hb2 (And.intro hkb (And.intro hdp (And.intro hdb (And.intro hp hl))))))
  have HK := Lib.hid hk
  clear h h1 hb1 hq1 h2 hb2 hn hkb hre hB hdp hdb hp hl hp1 hk
  go_enter Try.func54, Try.ntmps54
  go_upto_region 1 with (fail)
  go_upto_region 2 with (fail)
  clear c1 f1
  try rw [hg4]
  clear hg4
  generalize (w.alloc (dmO [.int .i64 0, .int .i64 0, .bool false, .slice none 0 0, .string ⟨#[]⟩, .slice none 0 0, .slice none 0 0])).setCell ⟨gr, 1, none⟩ (.int .i64 (p + 1)) = w2 at *
  go_wp2_with fail
  refine hN.mono ?_
  clear hN c2
  rintro e w3 ⟨rfl, h3, hb3⟩
  have h4 := h3.alloc (dmO [.int .i64 k, .int .i64 0, .bool false, .slice none 0 0, .string ⟨#[]⟩, .slice none 0 0, .slice none 0 0])
  have hb4 := (H0.out.2.1.trans hb3).trans (Below.zero_alloc w3 (dmO [.int .i64 k, .int .i64 0, .bool false, .slice none 0 0, .string ⟨#[]⟩, .slice none 0 0, .slice none 0 0]))
  obtain ⟨g5, hg5⟩ : ∃ g, w3.heap.size = g := ⟨_, rfl⟩
  rw [hg5] at h4
  have c0 := ((show sat _ _ from h4.fr).left.cell 0).trans (show _ = some (Value.int .i64 k) from rfl)
  have H4 := Lib.hid (And.intro h4 hb4)
  clear h3 hb3 h4 hb4
  go_upto_region 5 with (fail)
  try rw [hg5]
  clear hg5
  generalize w3.alloc (dmO [.int .i64 k, .int .i64 0, .bool false, .slice none 0 0, .string ⟨#[]⟩, .slice none 0 0, .slice none 0 0]) = w4 at *
  obtain ⟨n1, n2, n3, n4, n5, n6, n7, n8, n9⟩ := HK.out
  have b1 : (k == 1) = false := by simp [n1]
  have b2 : (k == 2) = false := by simp [n2]
  have b3 : (k == 3) = false := by simp [n3]
  have b4 : (k == 4) = false := by simp [n4]
  have b5 : (k == 5) = false := by simp [n5]
  have b6 : (k == 6) = false := by simp [n6]
  have b7 : (k == 7) = false := by simp [n7]
  have b8 : (k == 8) = false := by simp [n8]
  have b9 : (k == 9) = false := by simp [n9]
  clear n1 n2 n3 n4 n5 n6 n7 n8 n9
  go_wp2_with fail
  exact ⟨rfl, rfl, H4.out.1.fr.right.right, H4.out.2⟩
end Go.Proofs.Ytkjfplldfjmbaaa
