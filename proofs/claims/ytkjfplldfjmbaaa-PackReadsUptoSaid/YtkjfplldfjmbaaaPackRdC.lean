/- pack's reader of constants: a number. pack's reader of constants, plainly: it takes bytes and parts. -/
import Derived.Test.YtkjfplldfjmbaaaPackRdA
/- pack's reader of constants: a number. -/
namespace Go.Proofs.Ytkjfplldfjmbaaa
open Go.RowKit
theorem rdBool_len {l : List Int} {b : Bool} {l' : List Int} (h : rdBool l = some (b, l')) : l'.length < l.length := by
  cases l with
  | nil => cases h
  | cons v l =>
    have h' : (if 1 < v then none else some (decide (v = 1), l)) = some (b, l') := h
    split at h'
    · cases h'
    · simp only [Option.some.injEq, Prod.mk.injEq] at h'
      obtain ⟨_, rfl⟩ := h'
      simp
def k1O (p : Int) (neg : Bool) (o : Option (List Int × List Int)) : Option (Dm × Int × List Int) := match o with
  | none => none
  | some (mag, l4) => some (.mk 1 0 neg mag noT [] [], p + 1, l4)
def joinL (acc : List Int) (o : Option (List Int × List Int)) : Option (List Int × List Int) := match o with
  | none => none
  | some (xs, l) => some (acc ++ xs, l)
def RlRel (W : World) (B R : HP) (gr g4 g5 : Nat) (neg : Bool) (p : Int) (N : Nat) (l3 : List Int) (i : Value) (wr : World) : Prop :=
  ∃ (m : Nat) (acc l : List Int) (am : Option Addr) (cm : Nat), i = .int .i64 m ∧ m ≤ 1099511627776 ∧ rdLimbs N l3 = joinL acc (rdLimbs m l) ∧ acc.length + l.length ≤ 67108864 ∧ (∀ x ∈ acc, 0 ≤ x ∧ x < 4294967296) ∧
    RdAt wr B (own 66 1 (.slice am acc.length cm) acc.length (acc.map fun x => .int .u32 x) * (blk g5 (dmO [.int .i64 1, .int .i64 0, .bool neg, .slice am acc.length cm, .string ⟨#[]⟩, .slice none 0 0, .slice none 0 0]) * (blk g4 (dmO [.int .i64 0, .int .i64 0, .bool false, .slice none 0 0, .string ⟨#[]⟩, .slice none 0 0, .slice none 0 0]) * R))) gr l (p + 1) ∧ Below 0 W wr
theorem joinL_next {acc : List Int} {m : Nat} {l l1 : List Int} {x : Int} (h : rdNum l = some (x, l1)) (hx : ¬ 4294967296 ≤ x) : joinL acc (rdLimbs (m + 1) l) = joinL (acc ++ [x]) (rdLimbs m l1) := by
  have e : rdLimbs (m + 1) l = (match rdLimbs m l1 with | none => none | some (xs, l2) => some (x :: xs, l2)) := by
    show (match rdNum l with | none => none | some (x, l1) => if 4294967296 ≤ x then none else match rdLimbs m l1 with | none => none | some (xs, l2) => some (x :: xs, l2)) = _
    rw [h]
    show (if 4294967296 ≤ x then none else match rdLimbs m l1 with | none => none | some (xs, l2) => some (x :: xs, l2)) = _
    rw [if_neg hx]
  rw [e]
  cases rdLimbs m l1 with
  | none => rfl
  | some r => obtain ⟨xs, t⟩ := r; simp [joinL]
theorem joinL_no {acc : List Int} {m : Nat} {l : List Int} (h : rdNum l = none) : joinL acc (rdLimbs (m + 1) l) = none := by
  have e : rdLimbs (m + 1) l = none := by
    show (match rdNum l with | none => none | some (x, l1) => if 4294967296 ≤ x then none else match rdLimbs m l1 with | none => none | some (xs, l2) => some (x :: xs, l2)) = _
    rw [h]
  rw [e]; rfl
theorem joinL_big {acc : List Int} {m : Nat} {l l1 : List Int} {x : Int} (h : rdNum l = some (x, l1)) (hx : 4294967296 ≤ x) : joinL acc (rdLimbs (m + 1) l) = none := by
  have e : rdLimbs (m + 1) l = none := by
    show (match rdNum l with | none => none | some (x, l1) => if 4294967296 ≤ x then none else match rdLimbs m l1 with | none => none | some (xs, l2) => some (x :: xs, l2)) = _
    rw [h]
    show (if 4294967296 ≤ x then none else match rdLimbs m l1 with | none => none | some (xs, l2) => some (x :: xs, l2)) = _
    rw [if_pos hx]
  rw [e]; rfl
set_option maxRecDepth 100000 in
set_option maxHeartbeats 4000000 in
theorem rdc_k1_no (deep : Nat) (w : World) (B R : HP) (gr : Nat) (l : List Int) (p : Int) (h : RdAt w B R gr l p) (hp : 0 ≤ p ∧ p ≤ 20000) (hl : l.length ≤ 67108864) (hp1 : ¬ 20000 < p + 1) (k : Int) (l1 : List Int) (hn : rdNum l = some (k, l1)) (hk : k = 1) (hs : rdBool l1 = none) (dp : Int) (hdp : dp = ((deep + 1 : Nat) : Int)) (hdb : deep ≤ 100) :
    Calls Try.prog 54 #[.pointer (some ⟨gr, 0, none⟩), .int .i64 dp] w (RcPost B R gr (rdConst (deep + 1) p l) w) := by
  have hB := h.sub
  have h1 := h.alloc (dmO [.int .i64 0, .int .i64 0, .bool false, .slice none 0 0, .string ⟨#[]⟩, .slice none 0 0, .slice none 0 0])
  have hb1 := Below.zero_alloc w (dmO [.int .i64 0, .int .i64 0, .bool false, .slice none 0 0, .string ⟨#[]⟩, .slice none 0 0, .slice none 0 0])
  obtain ⟨c1, f1, hq1⟩ := h1.parts
  have h2 := hq1 (p + 1)
  have hb2 := hb1.setCell (p := ⟨gr, 1, none⟩) (Nat.zero_le _) (.int .i64 (p + 1))
  have c2 := h2.parts.1
  obtain ⟨g4, hg4⟩ : ∃ g, w.heap.size = g := ⟨_, rfl⟩
  rw [hg4] at h2
  have hN := rd_number _ _ _ gr l (p + 1) h2
  rw [show rdNumF 0 0 l = some (k, l1) from hn] at hN
  have hkb := rdNumF_bd l 0 0 k l1 hn
  have hre : rdConst (deep + 1) p l = none := by subst hk; simp [rdConst, hp1, hn, hs]
  have e0 : (dp == 0) = false := by rw [beq_eq_false_iff_ne]; omega
  have e1 : decide (p + 1 > 20000) = false := by rw [decide_eq_false_iff_not]; omega
  have e2 : IntKind.i64.wrap (p + 1) = p + 1 := IntWalk.i64_in _ (by omega)
  rw [hre]
  have H0 := Lib.hid (And.intro hB (And.intro hb2 (And.intro hkb (And.intro hdp (And.intro hdb (And.intro hp hl))))))
  have HK := Lib.hid hk
  clear h h1 hb1 hq1 h2 hb2 hn hkb hre hB hdp hdb hp hl hp1 hk
  go_enter Try.func54, Try.ntmps54
  go_upto_region 1 with (fail)
  go_upto_region 2 with (fail)
  clear c1 f1
  try rw [hg4]
  clear hg4
  generalize (w.alloc (dmO [.int .i64 0, .int .i64 0, .bool false, .slice none 0 0, .string ⟨#[]⟩, .slice none 0 0, .slice none 0 0])).setCell ⟨gr, 1, none⟩ (.int .i64 (p + 1)) = w2 at *
  go_wp2_with fail
  refine hN.mono ?_
  clear hN c2
  rintro e w3 ⟨rfl, h3, hb3⟩
  have h4 := h3.alloc (dmO [.int .i64 k, .int .i64 0, .bool false, .slice none 0 0, .string ⟨#[]⟩, .slice none 0 0, .slice none 0 0])
  have hb4 := (H0.out.2.1.trans hb3).trans (Below.zero_alloc w3 (dmO [.int .i64 k, .int .i64 0, .bool false, .slice none 0 0, .string ⟨#[]⟩, .slice none 0 0, .slice none 0 0]))
  obtain ⟨g5, hg5⟩ : ∃ g, w3.heap.size = g := ⟨_, rfl⟩
  rw [hg5] at h4
  have c0 := ((show sat _ _ from h4.fr).left.cell 0).trans (show _ = some (Value.int .i64 k) from rfl)
  have H4 := Lib.hid (And.intro h4 hb4)
  clear h3 hb3 h4 hb4
  go_upto_region 5 with (fail)
  try rw [hg5]
  clear hg5
  generalize w3.alloc (dmO [.int .i64 k, .int .i64 0, .bool false, .slice none 0 0, .string ⟨#[]⟩, .slice none 0 0, .slice none 0 0]) = w4 at *
  have kk := HK.out
  subst kk
  have hS5 := rd_truth w4 B _ gr l1 (p + 1) H4.out.1
  rw [hs] at hS5
  go_wp2_with fail
  refine hS5.mono ?_
  clear hS5 c0
  rintro e w5 ⟨rfl, h5, hb5⟩
  unfold cutE
  go_wp2_with fail
  exact ⟨rfl, rfl, h5.right.right, (H4.out.2).trans hb5⟩
set_option maxRecDepth 100000 in
set_option maxHeartbeats 4000000 in
theorem rdc_k1_no2 (deep : Nat) (w : World) (B R : HP) (gr : Nat) (l : List Int) (p : Int) (h : RdAt w B R gr l p) (hp : 0 ≤ p ∧ p ≤ 20000) (hl : l.length ≤ 67108864) (hp1 : ¬ 20000 < p + 1) (k : Int) (l1 : List Int) (hn : rdNum l = some (k, l1)) (hk : k = 1) (neg : Bool) (l2 : List Int) (hs : rdBool l1 = some (neg, l2)) (hs2 : rdNum l2 = none) (dp : Int) (hdp : dp = ((deep + 1 : Nat) : Int)) (hdb : deep ≤ 100) :
    Calls Try.prog 54 #[.pointer (some ⟨gr, 0, none⟩), .int .i64 dp] w (RcPost B R gr (rdConst (deep + 1) p l) w) := by
  have hB := h.sub
  have h1 := h.alloc (dmO [.int .i64 0, .int .i64 0, .bool false, .slice none 0 0, .string ⟨#[]⟩, .slice none 0 0, .slice none 0 0])
  have hb1 := Below.zero_alloc w (dmO [.int .i64 0, .int .i64 0, .bool false, .slice none 0 0, .string ⟨#[]⟩, .slice none 0 0, .slice none 0 0])
  obtain ⟨c1, f1, hq1⟩ := h1.parts
  have h2 := hq1 (p + 1)
  have hb2 := hb1.setCell (p := ⟨gr, 1, none⟩) (Nat.zero_le _) (.int .i64 (p + 1))
  have c2 := h2.parts.1
  obtain ⟨g4, hg4⟩ : ∃ g, w.heap.size = g := ⟨_, rfl⟩
  rw [hg4] at h2
  have hN := rd_number _ _ _ gr l (p + 1) h2
  rw [show rdNumF 0 0 l = some (k, l1) from hn] at hN
  have hkb := rdNumF_bd l 0 0 k l1 hn
  have hre : rdConst (deep + 1) p l = none := by subst hk; simp [rdConst, hp1, hn, hs, hs2]
  have e0 : (dp == 0) = false := by rw [beq_eq_false_iff_ne]; omega
  have e1 : decide (p + 1 > 20000) = false := by rw [decide_eq_false_iff_not]; omega
  have e2 : IntKind.i64.wrap (p + 1) = p + 1 := IntWalk.i64_in _ (by omega)
  rw [hre]
  have H0 := Lib.hid (And.intro hB (And.intro hb2 (And.intro hkb (And.intro hdp (And.intro hdb (And.intro hp hl))))))
  have HK := Lib.hid hk
  clear h h1 hb1 hq1 h2 hb2 hn hkb hre hB hdp hdb hp hl hp1 hk
  go_enter Try.func54, Try.ntmps54
  go_upto_region 1 with (fail)
  go_upto_region 2 with (fail)
  clear c1 f1
  try rw [hg4]
  clear hg4
  generalize (w.alloc (dmO [.int .i64 0, .int .i64 0, .bool false, .slice none 0 0, .string ⟨#[]⟩, .slice none 0 0, .slice none 0 0])).setCell ⟨gr, 1, none⟩ (.int .i64 (p + 1)) = w2 at *
  go_wp2_with fail
  refine hN.mono ?_
  clear hN c2
  rintro e w3 ⟨rfl, h3, hb3⟩
  have h4 := h3.alloc (dmO [.int .i64 k, .int .i64 0, .bool false, .slice none 0 0, .string ⟨#[]⟩, .slice none 0 0, .slice none 0 0])
  have hb4 := (H0.out.2.1.trans hb3).trans (Below.zero_alloc w3 (dmO [.int .i64 k, .int .i64 0, .bool false, .slice none 0 0, .string ⟨#[]⟩, .slice none 0 0, .slice none 0 0]))
  obtain ⟨g5, hg5⟩ : ∃ g, w3.heap.size = g := ⟨_, rfl⟩
  rw [hg5] at h4
  have c0 := ((show sat _ _ from h4.fr).left.cell 0).trans (show _ = some (Value.int .i64 k) from rfl)
  have H4 := Lib.hid (And.intro h4 hb4)
  clear h3 hb3 h4 hb4
  go_upto_region 5 with (fail)
  try rw [hg5]
  clear hg5
  generalize w3.alloc (dmO [.int .i64 k, .int .i64 0, .bool false, .slice none 0 0, .string ⟨#[]⟩, .slice none 0 0, .slice none 0 0]) = w4 at *
  rw [show rdNum l2 = rdNumF 0 0 l2 from rfl] at hs2
  have kk := HK.out
  subst kk
  have hS5 := rd_truth w4 B _ gr l1 (p + 1) H4.out.1
  rw [hs] at hS5
  go_wp2_with fail
  refine hS5.mono ?_
  clear hS5 c0
  rintro e w5 ⟨rfl, h5, hb5⟩
  have f5 := h5.fr.left.frozen 2
  have d5 := (h5.fr.left.cell 2).trans (show _ = some (Value.bool false) from rfl)
  have hh5 := h5.put 2 (.bool neg) (fun w' h => H0.out.1 w' h.right)
  have hbb5 := ((H4.out.2).trans hb5).setCell (p := ⟨g5, 2, none⟩) (Nat.zero_le _) (.bool neg)
  have HH5 := Lib.hid (And.intro hh5 hbb5)
  clear h5 hb5 hh5 hbb5
  go_upto_region 9 with (fail)
  clear f5 d5
  generalize w5.setCell ⟨g5, 2, none⟩ (.bool neg) = w6 at *
  have hS7 := rd_number w6 B _ gr l2 (p + 1) HH5.out.1
  rw [hs2] at hS7
  go_wp2_with fail
  refine hS7.mono ?_
  clear hS7 
  rintro e w7 ⟨rfl, h7, hb7⟩
  unfold cutE
  go_wp2_with fail
  exact ⟨rfl, rfl, h7.right.right, (HH5.out.2).trans hb7⟩
set_option maxRecDepth 100000 in
set_option maxHeartbeats 4000000 in
theorem rdc_k1 (deep : Nat) (w : World) (B R : HP) (gr : Nat) (l : List Int) (p : Int) (h : RdAt w B R gr l p) (hp : 0 ≤ p ∧ p ≤ 20000) (hl : l.length ≤ 67108864) (hp1 : ¬ 20000 < p + 1) (k : Int) (l1 : List Int) (hn : rdNum l = some (k, l1)) (hk : k = 1) (neg : Bool) (l2 : List Int) (hs : rdBool l1 = some (neg, l2)) (n : Int) (l3 : List Int) (hs2 : rdNumF 0 0 l2 = some (n, l3)) (dp : Int) (hdp : dp = ((deep + 1 : Nat) : Int)) (hdb : deep ≤ 100) :
    Calls Try.prog 54 #[.pointer (some ⟨gr, 0, none⟩), .int .i64 dp] w (RcPost B R gr (rdConst (deep + 1) p l) w) := by
  have hB := h.sub
  have h1 := h.alloc (dmO [.int .i64 0, .int .i64 0, .bool false, .slice none 0 0, .string ⟨#[]⟩, .slice none 0 0, .slice none 0 0])
  have hb1 := Below.zero_alloc w (dmO [.int .i64 0, .int .i64 0, .bool false, .slice none 0 0, .string ⟨#[]⟩, .slice none 0 0, .slice none 0 0])
  obtain ⟨c1, f1, hq1⟩ := h1.parts
  have h2 := hq1 (p + 1)
  have hb2 := hb1.setCell (p := ⟨gr, 1, none⟩) (Nat.zero_le _) (.int .i64 (p + 1))
  have c2 := h2.parts.1
  obtain ⟨g4, hg4⟩ : ∃ g, w.heap.size = g := ⟨_, rfl⟩
  rw [hg4] at h2
  have hN := rd_number _ _ _ gr l (p + 1) h2
  rw [show rdNumF 0 0 l = some (k, l1) from hn] at hN
  have hkb := rdNumF_bd l 0 0 k l1 hn
  have hre : rdConst (deep + 1) p l = k1O p neg (rdLimbs n.toNat l3) := by subst hk; simp only [rdConst, hn, hs, if_neg hp1, show rdNum l2 = some (n, l3) from hs2]; rfl
  have e0 : (dp == 0) = false := by rw [beq_eq_false_iff_ne]; omega
  have e1 : decide (p + 1 > 20000) = false := by rw [decide_eq_false_iff_not]; omega
  have e2 : IntKind.i64.wrap (p + 1) = p + 1 := IntWalk.i64_in _ (by omega)
  rw [hre]
  have H0 := Lib.hid (And.intro hB (And.intro hb2 (And.intro hkb (And.intro hdp (And.intro hdb (And.intro hp hl))))))
  have HK := Lib.hid hk
  clear h h1 hb1 hq1 h2 hb2 hn hkb hre hB hdp hdb hp hl hp1 hk
  go_enter Try.func54, Try.ntmps54
  go_upto_region 1 with (fail)
  go_upto_region 2 with (fail)
  clear c1 f1
  try rw [hg4]
  clear hg4
  generalize (w.alloc (dmO [.int .i64 0, .int .i64 0, .bool false, .slice none 0 0, .string ⟨#[]⟩, .slice none 0 0, .slice none 0 0])).setCell ⟨gr, 1, none⟩ (.int .i64 (p + 1)) = w2 at *
  go_wp2_with fail
  refine hN.mono ?_
  clear hN c2
  rintro e w3 ⟨rfl, h3, hb3⟩
  have h4 := h3.alloc (dmO [.int .i64 k, .int .i64 0, .bool false, .slice none 0 0, .string ⟨#[]⟩, .slice none 0 0, .slice none 0 0])
  have hb4 := (H0.out.2.1.trans hb3).trans (Below.zero_alloc w3 (dmO [.int .i64 k, .int .i64 0, .bool false, .slice none 0 0, .string ⟨#[]⟩, .slice none 0 0, .slice none 0 0]))
  obtain ⟨g5, hg5⟩ : ∃ g, w3.heap.size = g := ⟨_, rfl⟩
  rw [hg5] at h4
  have c0 := ((show sat _ _ from h4.fr).left.cell 0).trans (show _ = some (Value.int .i64 k) from rfl)
  have H4 := Lib.hid (And.intro h4 hb4)
  clear h3 hb3 h4 hb4
  go_upto_region 5 with (fail)
  try rw [hg5]
  clear hg5
  generalize w3.alloc (dmO [.int .i64 k, .int .i64 0, .bool false, .slice none 0 0, .string ⟨#[]⟩, .slice none 0 0, .slice none 0 0]) = w4 at *
  have hnb := rdNumF_bd l2 0 0 n l3 hs2
  have hlb := rdBool_len hs
  obtain ⟨nn, hnn⟩ : ∃ x : Nat, n.toNat = x := ⟨_, rfl⟩
  have hnn2 : n = (nn : Int) := by omega
  rw [hnn]
  subst hnn2
  have HNB := Lib.hid (And.intro hnb hlb)
  clear hnb hlb hnn
  have kk := HK.out
  subst kk
  have hS5 := rd_truth w4 B _ gr l1 (p + 1) H4.out.1
  rw [hs] at hS5
  go_wp2_with fail
  refine hS5.mono ?_
  clear hS5 c0
  rintro e w5 ⟨rfl, h5, hb5⟩
  have f5 := h5.fr.left.frozen 2
  have d5 := (h5.fr.left.cell 2).trans (show _ = some (Value.bool false) from rfl)
  have hh5 := h5.put 2 (.bool neg) (fun w' h => H0.out.1 w' h.right)
  have hbb5 := ((H4.out.2).trans hb5).setCell (p := ⟨g5, 2, none⟩) (Nat.zero_le _) (.bool neg)
  have HH5 := Lib.hid (And.intro hh5 hbb5)
  clear h5 hb5 hh5 hbb5
  go_upto_region 9 with (fail)
  clear f5 d5
  generalize w5.setCell ⟨g5, 2, none⟩ (.bool neg) = w6 at *
  have hS7 := rd_number w6 B _ gr l2 (p + 1) HH5.out.1
  rw [hs2] at hS7
  go_wp2_with fail
  refine hS7.mono ?_
  clear hS7 
  rintro e w7 ⟨rfl, h7, hb7⟩
  obtain ⟨i0, hi, hz0, hz1, hz2⟩ := info_parts info_lim
  have H7 := Lib.hid (And.intro h7 (HH5.out.2.trans hb7))
  have HI := Lib.hid (And.intro hi (And.intro hz0 (And.intro hz1 hz2)))
  clear h7 hb7 hi hz0 hz1 hz2
  go_wp2_with fail
  go_loopw [6] (RlRel w B R gr g4 g5 neg p nn l3) (fun i _ => (intOf i).toNat)
  case atStart =>
    refine ⟨nn, [], l3, none, 0, rfl, by have := HNB.out; omega, ?_, by have := HNB.out; have := H0.out; simp only [List.length_nil]; omega, fun x hx => by simp at hx, ?_, H7.out.2⟩
    · cases rdLimbs nn l3 with
      | none => rfl
      | some r => rfl
    · obtain ⟨ao, cap, q1, q2, q3, q4, q5⟩ := H7.out.1
      exact ⟨ao, cap, (q1.nil_own (e := 66) (sz := 1)).perm (by ac_rfl), q2, q3, q4, fun w' h => q5 w' h.right⟩
  case round =>
    obtain ⟨m, acc, l4, am, cm, rfl, hmb, hrd, hlen, hacc, h8, hb8⟩ := hrel
    cases m with
    | zero =>
      have hfin : rdLimbs nn l3 = some (acc, l4) := by rw [hrd]; simp [rdLimbs, joinL]
      have HFN := Lib.hid hfin
      have hcm : acc.length ≤ cm := by
        obtain ⟨ao, cap, q1, _⟩ := h8
        obtain ⟨_, _, e1, e2⟩ := slice_val q1.right
        cases e1
        exact e2
      have hdk : DK (own 66 1 (.slice am acc.length cm) acc.length (acc.map fun x => .int .u32 x)) (.mk 1 0 neg acc noT [] []) [.int .i64 1, .int .i64 0, .bool neg, .slice am acc.length cm, .string ⟨#[]⟩, .slice none 0 0, .slice none 0 0] :=
        DK.mk (items := []) (rest := []) ⟨by omega, by omega⟩ (fun w h => mag_own (R := emp) (h.perm (HP.mul_emp _).symm)) hacc ⟨hcm, Nat.le_refl _, Nat.le_refl _⟩ DKs.nil DKs.nil
      have hE0 : RdAt wr B (Go.Proofs.Ytkjfplldfjmbaaa.blk g5 (dmO [.int .i64 1, .int .i64 0, .bool neg, .slice am acc.length cm, .string ⟨#[]⟩, .slice none 0 0, .slice none 0 0]) * (Go.Proofs.Ytkjfplldfjmbaaa.blk g4 (dmO [.int .i64 0, .int .i64 0, .bool false, .slice none 0 0, .string ⟨#[]⟩, .slice none 0 0, .slice none 0 0]) * (own 66 1 (.slice am acc.length cm) acc.length (acc.map fun x => .int .u32 x) * R))) gr l4 (p + 1) := h8.perm (by ac_rfl)
      have HE0 := Lib.hid (And.intro hE0 (And.intro hb8 hdk))
      clear hE0 hb8 hdk hfin hrd hlen hacc h8 hcm
      go_upto_region 34 with (fail)
      have hMB : ∀ w', sat w' ((own 66 1 (.slice am acc.length cm) acc.length (acc.map fun x => .int .u32 x)) * R) → sat w' B := fun w' h => H0.out.1 w' h.right
      have hE := HE0.out.1
      have hsE := hE.fr
      obtain ⟨⟨d0, d1, d2, d3, d4, d5, d6⟩, ⟨z0, z1, z2, z3, z4, z5, z6⟩, y0, y1, y2, y3, y4, y5, y6⟩ := fin_cells hsE
      have hE2 : RdAt _ B (Go.Proofs.Ytkjfplldfjmbaaa.blk g4 (dmO [.int .i64 0, .int .i64 0, .bool false, .slice none 0 0, .string ⟨#[]⟩, .slice none 0 0, .slice none 0 0]) * ((own 66 1 (.slice am acc.length cm) acc.length (acc.map fun x => .int .u32 x)) * R)) gr l4 (p + 1) := hE.drop (fun w' h => hMB w' h.right)
      obtain ⟨hF, hC, hbF⟩ := hE2.put7 (.int .i64 1) (.int .i64 0) (.bool neg) (.slice am acc.length cm) (.string ⟨#[]⟩) (.slice none 0 0) (.slice none 0 0) hMB
      have HT := Lib.hid (And.intro hF (And.intro hC (And.intro ((HE0.out.2.1).trans hbF) HE0.out.2.2)))
      clear hE hsE hE2 hF hC hbF hMB
      go_wp2_with fail
      obtain ⟨r0, r1, r2, r3, r4, r5, r6⟩ := HT.out.2.1 _ rfl
      refine bodyPost_ret (v := .agg #[.int .i64 1, .int .i64 0, .bool neg, .slice am acc.length cm, .string ⟨#[]⟩, .slice none 0 0, .slice none 0 0]) (by simp [results, Try.results54, go_sem, r0, r1, r2, r3, r4, r5, r6]) rfl ?_
      show RcPost B R gr (k1O p neg (rdLimbs nn l3)) w _ _
      rw [HFN.out]
      exact ⟨[.int .i64 1, .int .i64 0, .bool neg, .slice am acc.length cm, .string ⟨#[]⟩, .slice none 0 0, .slice none 0 0], (own 66 1 (.slice am acc.length cm) acc.length (acc.map fun x => .int .u32 x)), rfl, HT.out.2.2.2, HT.out.1, HT.out.2.2.1⟩
    | succ m =>
      have hgt : decide (((m + 1 : Nat) : Int) > 0) = true := by rw [decide_eq_true_eq]; omega
      obtain ⟨mi, hmi⟩ : ∃ x : Int, ((m + 1 : Nat) : Int) = x := ⟨_, rfl⟩
      rw [hmi] at hgt ⊢
      have hN8 := rd_number wr B _ gr l4 (p + 1) h8
      have hdec : IntKind.i64.wrap (mi - 1) = mi - 1 := IntWalk.i64_in _ (by omega)
      cases hr : rdNumF 0 0 l4 with
      | none =>
        rw [hr] at hN8
        have hno : rdLimbs nn l3 = none := by rw [hrd]; exact joinL_no hr
        have HNO := Lib.hid hno
        have HB8 := Lib.hid hb8
        clear hno hr hrd hlen hacc h8 hb8
        go_wp2_with fail
        refine hN8.mono ?_
        rintro e w9 ⟨rfl, h9, hb9⟩
        unfold cutE
        go_wp2_with fail
        refine ⟨rfl, ?_⟩
        show RcPost B R gr (k1O p neg (rdLimbs nn l3)) w _ _
        rw [HNO.out]
        exact ⟨rfl, h9.right.right.right, HB8.out.trans hb9⟩
      | some r =>
        obtain ⟨x, l5⟩ := r
        have hxb := rdNumF_bd l4 0 0 x l5 hr
        rw [hr] at hN8
        by_cases hbig : 4294967296 ≤ x
        · have hno : rdLimbs nn l3 = none := by rw [hrd]; exact joinL_big hr hbig
          have HNO := Lib.hid hno
          have eb : decide (x ≥ 4294967296) = true := by rw [decide_eq_true_eq]; omega
          have HB8 := Lib.hid hb8
          clear hno hr hrd hlen hacc h8 hb8 hbig
          go_wp2_with fail
          refine hN8.mono ?_
          rintro e w9 ⟨rfl, h9, hb9⟩
          go_wp2_with fail
          refine ⟨rfl, ?_⟩
          show RcPost B R gr (k1O p neg (rdLimbs nn l3)) w _ _
          rw [HNO.out]
          exact ⟨rfl, h9.fr.right.right.right, HB8.out.trans hb9⟩
        · have eb : decide (x ≥ 4294967296) = false := by rw [decide_eq_false_iff_not]; omega
          have hw32 : IntKind.u32.wrap x = x := by rw [IntKind.wrap_u32]; omega
          have HR := Lib.hid (And.intro (hrd.trans (joinL_next hr hbig)) (And.intro hlen (And.intro hacc (And.intro hb8 (And.intro hxb (And.intro hmi hmb))))))
          have HX := Lib.hid (And.intro hbig True.intro)
          clear hr hrd hlen hacc h8 hb8 hxb hmi hbig hmb
          go_wp2_with fail
          refine hN8.mono ?_
          clear hN8
          rintro e w9 ⟨rfl, h9, hb9⟩
          have f3 := h9.fr.right.left.frozen 3
          have c3 := (h9.fr.right.left.cell 3).trans (show _ = some (Value.slice am acc.length cm) from rfl)
          obtain ⟨ao, cap, q1, q2, q3, q4, q5⟩ := h9
          have q6 := q1.alloc (.cells #[.int .u32 x] 66)
          have q7 : sat (w9.alloc (.cells #[.int .u32 x] 66)) (own 66 1 (.slice am acc.length cm) acc.length (acc.map fun x => .int .u32 x) * (Go.Proofs.Ytkjfplldfjmbaaa.blk w9.heap.size (.cells #[.int .u32 x] 66 (0, 0)) * (Go.Proofs.Ytkjfplldfjmbaaa.blk gr (.cells #[.slice ao l5.length cap, .int .i64 (p + 1)] 72 (0, 0)) * (Go.Proofs.Ytkjfplldfjmbaaa.blk g5 (dmO [.int .i64 1, .int .i64 0, .bool neg, .slice am acc.length cm, .string ⟨#[]⟩, .slice none 0 0, .slice none 0 0]) * (Go.Proofs.Ytkjfplldfjmbaaa.blk g4 (dmO [.int .i64 0, .int .i64 0, .bool false, .slice none 0 0, .string ⟨#[]⟩, .slice none 0 0, .slice none 0 0]) * R))))) := q6.perm (by ac_rfl)
          have hcl : CellsAt (w9.alloc (.cells #[.int .u32 x] 66)) (some ⟨w9.heap.size, 0, none⟩) [.int .u32 x] := by
            intro j u hj
            refine ⟨_, rfl, ?_⟩
            rw [show ((⟨w9.heap.size, 0, none⟩ : Addr).add j) = ⟨w9.heap.size, j, none⟩ by unfold Addr.add; split <;> simp_all, q6.left.cell j, ← hj]
            simp
          have HQ := Lib.hid (And.intro q7 (And.intro hcl (And.intro q2 (And.intro q3 (And.intro q4 (And.intro q5 ((HR.out.2.2.2.1.trans hb9).trans (Below.zero_alloc w9 (.cells #[.int .u32 x] 66)))))))))
          clear q1 q2 q3 q4 q5 q6 q7 hcl hb9
          go_wp2_with (at_builtin; refine hold ?_)
          refine held ?_
          obtain ⟨hi, hz0, hz1, hz2⟩ := HI.out
          refine wpList_append_opt rfl (.tmp 54) (.tmp 57) 55 rfl 66 i0 (.int .u32 0) 1 4 Try.underlying55 hi hz0 hz1 hz2 rfl (by decide) (.slice am acc.length cm) acc.length (acc.map fun x => .int .u32 x) rfl _ (some ⟨w9.heap.size, 0, none⟩) 1 1 [.int .u32 x] rfl ?_ HQ.out.1 rfl HQ.out.2.1 (by intro u hu; simp at hu; subst hu; rfl) (by have := HR.out.2.1; omega) (by have := HR.out.2.1; unfold maxLen; omega)
          clear hi hz0 hz1 hz2 f3 c3
          intro v10 w10 h10 hb10
          obtain ⟨am2, cm2, rfl, hcm2⟩ := slice_val h10
          have h11 := h10.perm (show _ = Go.Proofs.Ytkjfplldfjmbaaa.blk g5 (dmO [.int .i64 1, .int .i64 0, .bool neg, .slice am acc.length cm, .string ⟨#[]⟩, .slice none 0 0, .slice none 0 0]) * (Go.Proofs.Ytkjfplldfjmbaaa.blk w9.heap.size (.cells #[.int .u32 x] 66 (0, 0)) * (own 66 1 (.slice am2 (acc.length + 1) cm2) (acc.length + 1) ((acc.map fun x => .int .u32 x) ++ [.int .u32 x]) * (Go.Proofs.Ytkjfplldfjmbaaa.blk gr (.cells #[.slice ao l5.length cap, .int .i64 (p + 1)] 72 (0, 0)) * (Go.Proofs.Ytkjfplldfjmbaaa.blk g4 (dmO [.int .i64 0, .int .i64 0, .bool false, .slice none 0 0, .string ⟨#[]⟩, .slice none 0 0, .slice none 0 0]) * R)))) by ac_rfl)
          have f3 := h11.left.frozen 3
          have c3 := (h11.left.cell 3).trans (show _ = some (Value.slice am acc.length cm) from rfl)
          have h12 : sat (w10.setCell ⟨g5, 3, none⟩ (.slice am2 (acc.length + 1) cm2)) (Go.Proofs.Ytkjfplldfjmbaaa.blk g5 (dmO [.int .i64 1, .int .i64 0, .bool neg, .slice am2 (acc.length + 1) cm2, .string ⟨#[]⟩, .slice none 0 0, .slice none 0 0]) * (Go.Proofs.Ytkjfplldfjmbaaa.blk w9.heap.size (.cells #[.int .u32 x] 66 (0, 0)) * (own 66 1 (.slice am2 (acc.length + 1) cm2) (acc.length + 1) ((acc.map fun x => .int .u32 x) ++ [.int .u32 x]) * (Go.Proofs.Ytkjfplldfjmbaaa.blk gr (.cells #[.slice ao l5.length cap, .int .i64 (p + 1)] 72 (0, 0)) * (Go.Proofs.Ytkjfplldfjmbaaa.blk g4 (dmO [.int .i64 0, .int .i64 0, .bool false, .slice none 0 0, .string ⟨#[]⟩, .slice none 0 0, .slice none 0 0]) * R))))) := h11.setCell (off := 3) _
          have hb12 : Below 0 w (w10.setCell ⟨g5, 3, none⟩ (.slice am2 (acc.length + 1) cm2)) := (HQ.out.2.2.2.2.2.2.trans hb10).setCell (p := ⟨g5, 3, none⟩) (Nat.zero_le _) _
          have H12 := Lib.hid (And.intro h12 hb12)
          clear h10 hb10 h11 h12 hb12 hcm2
          go_wp2_with fail
          go_roundw
          case rel =>
            refine ⟨m, acc ++ [x], l5, am2, cm2, ?_, by have := HR.out.2.2.2.2.2.2; omega, HR.out.1, by have := HR.out.2.1; have := HR.out.2.2.2.2.1; simp only [List.length_append, List.length_cons, List.length_nil]; omega, ?_, ?_, H12.out.2⟩
            · have := HR.out.2.2.2.2.2.1; congr 1; omega
            · intro y hy
              rcases List.mem_append.1 hy with h | h
              · exact HR.out.2.2.1 y h
              · simp at h; subst h; have := HR.out.2.2.2.2.1; have := HX.out.1; omega
            · have hlen2 : (acc ++ [x]).length = acc.length + 1 := by simp
              rw [hlen2, List.map_append]
              refine ⟨ao, cap, ?_, HQ.out.2.2.1, HQ.out.2.2.2.1, HQ.out.2.2.2.2.1, fun w' h => H0.out.1 w' h.right.right.right⟩
              exact (H12.out.1.perm (show _ = Go.Proofs.Ytkjfplldfjmbaaa.blk w9.heap.size _ * (Go.Proofs.Ytkjfplldfjmbaaa.blk gr _ * (own 66 1 _ _ ((acc.map fun x => .int .u32 x) ++ [.int .u32 x]) * (Go.Proofs.Ytkjfplldfjmbaaa.blk g5 _ * (Go.Proofs.Ytkjfplldfjmbaaa.blk g4 _ * R)))) by ac_rfl)).right
          case measure =>
            have := HR.out.2.2.2.2.2.1
            simp [intOf]; omega
end Go.Proofs.Ytkjfplldfjmbaaa

/- pack's reader of constants, plainly: it takes bytes and parts. -/
namespace Go.Proofs.Ytkjfplldfjmbaaa
open Go.RowKit
theorem rdText_len {l : List Int} {s : ByteArray} {l' : List Int} (h : rdText l = some (s, l')) : l'.length < l.length := by
  unfold rdText rdNum at h
  cases ho : rdNumF 0 0 l with
  | none => rw [ho] at h; cases h
  | some r =>
    obtain ⟨x, m⟩ := r
    rw [ho] at h
    have := rdNumF_bd l 0 0 x m ho
    have h' : takeP m x.toNat = some (s, l') := h
    unfold takeP at h'
    split at h'
    · simp only [Option.some.injEq, Prod.mk.injEq] at h'
      obtain ⟨_, rfl⟩ := h'
      rw [List.length_drop]; omega
    · cases h'
theorem rdLimbs_len : ∀ (n : Nat) {l : List Int} {xs l' : List Int}, rdLimbs n l = some (xs, l') → l'.length ≤ l.length
  | 0, l, xs, l', h => by
    simp only [rdLimbs, Option.some.injEq, Prod.mk.injEq] at h
    obtain ⟨_, rfl⟩ := h
    exact Nat.le_refl _
  | n + 1, l, xs, l', h => by
    unfold rdLimbs at h
    cases hn : rdNum l with
    | none => rw [hn] at h; cases h
    | some r =>
      obtain ⟨x, m⟩ := r
      rw [hn] at h
      have hb := rdNumF_bd l 0 0 x m hn
      have h2 : (if 4294967296 ≤ x then none else match rdLimbs n m with | none => none | some (xs, l2) => some (x :: xs, l2)) = some (xs, l') := h
      split at h2
      · cases h2
      · cases hm : rdLimbs n m with
        | none => rw [hm] at h2; cases h2
        | some r =>
          obtain ⟨ys, t⟩ := r
          rw [hm] at h2
          have h3 := rdLimbs_len n hm
          simp only [Option.some.injEq, Prod.mk.injEq] at h2
          obtain ⟨_, rfl⟩ := h2
          omega
theorem rdMany_bd {α : Type} {f : Int → List Int → Option (α × Int × List Int)} (hf : ∀ p l d q l', f p l = some (d, q, l') → p < q ∧ q ≤ 20000 ∧ l'.length < l.length) :
    ∀ (n : Nat) {p : Int} {l : List Int} {ds : List α} {q : Int} {l' : List Int}, rdMany f n p l = some (ds, q, l') → p ≤ q ∧ (p ≤ 20000 → q ≤ 20000) ∧ l'.length + ds.length ≤ l.length
  | 0, p, l, ds, q, l', h => by
    simp only [rdMany, Option.some.injEq, Prod.mk.injEq] at h
    obtain ⟨rfl, rfl, rfl⟩ := h
    simp
  | n + 1, p, l, ds, q, l', h => by
    unfold rdMany at h
    cases hn : f p l with
    | none => rw [hn] at h; cases h
    | some r =>
      obtain ⟨d, p1, l1⟩ := r
      rw [hn] at h
      have hb := hf p l d p1 l1 hn
      have h2 : (match rdMany f n p1 l1 with | none => none | some (ds, p2, l2) => some (d :: ds, p2, l2)) = some (ds, q, l') := h
      cases hm : rdMany f n p1 l1 with
      | none => rw [hm] at h2; cases h2
      | some r =>
        obtain ⟨es, p2, l2⟩ := r
        rw [hm] at h2
        have h3 := rdMany_bd hf n hm
        simp only [Option.some.injEq, Prod.mk.injEq] at h2
        obtain ⟨rfl, rfl, rfl⟩ := h2
        simp only [List.length_cons]
        omega
theorem rdConst_bd : ∀ (deep : Nat) (p : Int) (l : List Int) (d : Dm) (q : Int) (l' : List Int), rdConst deep p l = some (d, q, l') → p < q ∧ q ≤ 20000 ∧ l'.length < l.length
  | 0, p, l, d, q, l', h => by cases h
  | deep + 1, p, l, d, q, l', h => by
    unfold rdConst at h
    by_cases hp : 20000 < p + 1
    · rw [if_pos hp] at h; cases h
    rw [if_neg hp] at h
    cases hn : rdNum l with
    | none => rw [hn] at h; cases h
    | some r =>
      obtain ⟨k, l1⟩ := r
      rw [hn] at h
      have hb := rdNumF_bd l 0 0 k l1 hn
      simp only [] at h
      by_cases h1 : k = 1
      · rw [if_pos h1] at h
        cases a1 : rdBool l1 with
        | none => rw [a1] at h; cases h
        | some r =>
          obtain ⟨neg, l2⟩ := r
          rw [a1] at h
          have b1 := rdBool_len a1
          simp only [] at h
          cases a2 : rdNum l2 with
          | none => rw [a2] at h; cases h
          | some r =>
            obtain ⟨n, l3⟩ := r
            rw [a2] at h
            have b2 := rdNumF_bd l2 0 0 n l3 a2
            simp only [] at h
            cases a3 : rdLimbs n.toNat l3 with
            | none => rw [a3] at h; cases h
            | some r =>
              obtain ⟨mag, l4⟩ := r
              rw [a3] at h
              have b3 := rdLimbs_len _ a3
              simp only [Option.some.injEq, Prod.mk.injEq] at h
              obtain ⟨_, rfl, rfl⟩ := h
              omega
      rw [if_neg h1] at h
      by_cases h2 : k = 2 ∨ k = 3 ∨ k = 9
      · rw [if_pos h2] at h
        cases a1 : rdSign l1 with
        | none => rw [a1] at h; cases h
        | some r =>
          obtain ⟨n, l2⟩ := r
          rw [a1] at h
          have b1 := (rdSign_bd a1).2.2
          simp only [Option.some.injEq, Prod.mk.injEq] at h
          obtain ⟨_, rfl, rfl⟩ := h
          omega
      rw [if_neg h2] at h
      by_cases h4 : k = 4
      · rw [if_pos h4] at h
        cases a1 : rdText l1 with
        | none => rw [a1] at h; cases h
        | some r =>
          obtain ⟨s, l2⟩ := r
          rw [a1] at h
          have b1 := rdText_len a1
          simp only [Option.some.injEq, Prod.mk.injEq] at h
          obtain ⟨_, rfl, rfl⟩ := h
          omega
      rw [if_neg h4] at h
      by_cases h5 : k = 5
      · rw [if_pos h5] at h
        cases a1 : rdText l1 with
        | none => rw [a1] at h; cases h
        | some r =>
          obtain ⟨s, l2⟩ := r
          rw [a1] at h
          have b1 := rdText_len a1
          simp only [] at h
          cases a2 : rdSign l2 with
          | none => rw [a2] at h; cases h
          | some r =>
            obtain ⟨n, l3⟩ := r
            rw [a2] at h
            have b2 := (rdSign_bd a2).2.2
            simp only [Option.some.injEq, Prod.mk.injEq] at h
            obtain ⟨_, rfl, rfl⟩ := h
            omega
      rw [if_neg h5] at h
      by_cases h6 : k = 6 ∨ k = 7
      · rw [if_pos h6] at h
        cases a1 : rdNum l1 with
        | none => rw [a1] at h; cases h
        | some r =>
          obtain ⟨n, l2⟩ := r
          rw [a1] at h
          have b1 := rdNumF_bd l1 0 0 n l2 a1
          simp only [] at h
          cases a2 : rdMany (rdConst deep) n.toNat (p + 1) l2 with
          | none => rw [a2] at h; cases h
          | some r =>
            obtain ⟨items, q1, l3⟩ := r
            rw [a2] at h
            have b2 := rdMany_bd (rdConst_bd deep) _ a2
            simp only [] at h
            by_cases h66 : k = 6
            · rw [if_pos h66] at h
              cases a3 : rdBool l3 with
              | none => rw [a3] at h; cases h
              | some r =>
                obtain ⟨b, l4⟩ := r
                rw [a3] at h
                have b3 := rdBool_len a3
                cases b with
                | false =>
                  simp only [Option.some.injEq, Prod.mk.injEq] at h
                  obtain ⟨_, rfl, rfl⟩ := h
                  omega
                | true =>
                  simp only [] at h
                  cases a4 : rdConst deep q1 l4 with
                  | none => rw [a4] at h; cases h
                  | some r =>
                    obtain ⟨r, q2, l5⟩ := r
                    rw [a4] at h
                    have b4 := rdConst_bd deep _ _ _ _ _ a4
                    simp only [Option.some.injEq, Prod.mk.injEq] at h
                    obtain ⟨_, rfl, rfl⟩ := h
                    omega
            · rw [if_neg h66] at h
              simp only [Option.some.injEq, Prod.mk.injEq] at h
              obtain ⟨_, rfl, rfl⟩ := h
              omega
      rw [if_neg h6] at h
      by_cases h8 : k = 8
      · rw [if_pos h8] at h
        simp only [Option.some.injEq, Prod.mk.injEq] at h
        obtain ⟨_, rfl, rfl⟩ := h
        omega
      · rw [if_neg h8] at h; cases h
end Go.Proofs.Ytkjfplldfjmbaaa
