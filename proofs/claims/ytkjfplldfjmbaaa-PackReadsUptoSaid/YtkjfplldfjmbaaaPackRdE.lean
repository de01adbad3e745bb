/- pack's reader of protos (all). pack.Read's deferred closure: its two contracts. -/
import Derived.Test.YtkjfplldfjmbaaaPackRdD
import Derived.Test.YtkjfplldfjmbaaaPackRtS
import Derived.Test.YtkjfplldfjmbaaaProtoCopy
import Derived.Tactics
import Derived.Tactics2
import Derived.Defers
import Derived.Recover
import Derived.Laws.Pointers
/- pack's reader of protos (all). -/
namespace Go.Proofs.Ytkjfplldfjmbaaa
open Go.RowKit
/-- What the reader of protos leaves. -/
def RpPost (B R : HP) (gr : Nat) (o : Option (Pr × Int × List Int)) (w : World) (e : Ending) (w' : World) : Prop :=
  match o with
  | none => e = cutE ∧ sat w' R ∧ Below 0 w w'
  | some (x, q, l') => ∃ cs M, e = .returned (.agg cs.toArray) ∧ PrO M x cs ∧ RdAt w' B (M * R) gr l' q ∧ Below 0 w w'
theorem RdAt.put7p {w : World} {B X : HP} {gr g : Nat} {l : List Int} {p : Int} (a0 a1 a2 a3 a4 a5 a6 : Value) (h : RdAt w B (blk g (prO [.string ⟨#[]⟩, .int .i64 0, .int .i64 0, .bool false, .slice none 0 0, .slice none 0 0, .slice none 0 0]) * X) gr l p) (hX : ∀ w', sat w' X → sat w' B) :
    RdAt (((((((w.setCell ⟨g, 0, none⟩ a0).setCell ⟨g, 1, none⟩ a1).setCell ⟨g, 2, none⟩ a2).setCell ⟨g, 3, none⟩ a3).setCell ⟨g, 4, none⟩ a4).setCell ⟨g, 5, none⟩ a5).setCell ⟨g, 6, none⟩ a6) B X gr l p ∧
    (∀ w9, (((((((w.setCell ⟨g, 0, none⟩ a0).setCell ⟨g, 1, none⟩ a1).setCell ⟨g, 2, none⟩ a2).setCell ⟨g, 3, none⟩ a3).setCell ⟨g, 4, none⟩ a4).setCell ⟨g, 5, none⟩ a5).setCell ⟨g, 6, none⟩ a6) = w9 →
      w9.cell? ⟨g, 0, none⟩ = some a0 ∧ w9.cell? ⟨g, 1, none⟩ = some a1 ∧ w9.cell? ⟨g, 2, none⟩ = some a2 ∧ w9.cell? ⟨g, 3, none⟩ = some a3 ∧ w9.cell? ⟨g, 4, none⟩ = some a4 ∧ w9.cell? ⟨g, 5, none⟩ = some a5 ∧ w9.cell? ⟨g, 6, none⟩ = some a6) ∧
    Below 0 w (((((((w.setCell ⟨g, 0, none⟩ a0).setCell ⟨g, 1, none⟩ a1).setCell ⟨g, 2, none⟩ a2).setCell ⟨g, 3, none⟩ a3).setCell ⟨g, 4, none⟩ a4).setCell ⟨g, 5, none⟩ a5).setCell ⟨g, 6, none⟩ a6) := by
  have h9 := ((((((h.put 0 a0 hX).put 1 a1 hX).put 2 a2 hX).put 3 a3 hX).put 4 a4 hX).put 5 a5 hX).put 6 a6 hX
  refine ⟨h9.drop hX, ?_, (((((((Below.refl 0 w).setCell (p := ⟨g, 0, none⟩) (Nat.zero_le _) a0).setCell (p := ⟨g, 1, none⟩) (Nat.zero_le _) a1).setCell (p := ⟨g, 2, none⟩) (Nat.zero_le _) a2).setCell (p := ⟨g, 3, none⟩) (Nat.zero_le _) a3).setCell (p := ⟨g, 4, none⟩) (Nat.zero_le _) a4).setCell (p := ⟨g, 5, none⟩) (Nat.zero_le _) a5).setCell (p := ⟨g, 6, none⟩) (Nat.zero_le _) a6⟩
  intro w9 hw9
  rw [hw9] at h9
  rw [show (((((((#[Value.string ⟨#[]⟩, .int .i64 0, .int .i64 0, .bool false, .slice none 0 0, .slice none 0 0, .slice none 0 0] : Array Value).setIfInBounds 0 a0).setIfInBounds 1 a1).setIfInBounds 2 a2).setIfInBounds 3 a3).setIfInBounds 4 a4).setIfInBounds 5 a5).setIfInBounds 6 a6 = #[a0, a1, a2, a3, a4, a5, a6] from arr7 _ _ _ _ _ _ _ _ _ _ _ _ _ _] at h9
  have hs := h9.fr
  exact ⟨hs.left.cell 0, hs.left.cell 1, hs.left.cell 2, hs.left.cell 3, hs.left.cell 4, hs.left.cell 5, hs.left.cell 6⟩
def RpcRel (W : World) (B R : HP) (gr g2 g3 : Nat) (nm : ByteArray) (pa pf : Int) (pr : Bool) (p : Int) (N : Nat) (l5 : List Int) (i : Value) (wr : World) : Prop :=
  ∃ (m : Nat) (acc : List (Int × Int × Int)) (l : List Int) (ac : Option Addr) (cc : Nat), i = .int .i64 m ∧ m ≤ 1099511627776 ∧ rdMany rdIns N p l5 = joinM acc (rdMany rdIns m p l) ∧ acc.length + l.length ≤ 67108864 ∧ (∀ t ∈ acc, i64b t.1 ∧ i64b t.2.1 ∧ i64b t.2.2) ∧
    RdAt wr B (own 41 3 (.slice ac acc.length cc) acc.length (codeV acc) * (blk g3 (prO [.string nm, .int .i64 pa, .int .i64 pf, .bool pr, .slice ac acc.length cc, .slice none 0 0, .slice none 0 0]) * (blk g2 (prO [.string ⟨#[]⟩, .int .i64 0, .int .i64 0, .bool false, .slice none 0 0, .slice none 0 0, .slice none 0 0]) * R))) gr l p ∧ Below 0 W wr
def RpdRel (W : World) (B RR : HP) (gr g2 g3 : Nat) (nm : ByteArray) (pa pf : Int) (pr : Bool) (acc : List (Int × Int × Int)) (ac : Option Addr) (cc : Nat) (p : Int) (N : Nat) (l7 : List Int) (i : Value) (wr : World) : Prop :=
  ∃ (m : Nat) (ds : List Dm) (q : Int) (l : List Int) (ai : Option Addr) (ci : Nat) (css : List (List Value)) (M : HP), i = .int .i64 m ∧ m ≤ 1099511627776 ∧ rdMany (rdConst 100) N p l7 = joinM ds (rdMany (rdConst 100) m q l) ∧ ds.length + l.length ≤ 67108864 ∧ (0 ≤ q ∧ q ≤ 20000) ∧
    css.length = ds.length ∧ (∀ (i : Nat) d cs, ds[i]? = some d → css[i]? = some cs → DK M d cs) ∧
    RdAt wr B (own 59 7 (.slice ai ds.length ci) ds.length css.flatten * (M * (blk g3 (prO [.string nm, .int .i64 pa, .int .i64 pf, .bool pr, .slice ac acc.length cc, .slice ai ds.length ci, .slice none 0 0]) * (blk g2 (prO [.string ⟨#[]⟩, .int .i64 0, .int .i64 0, .bool false, .slice none 0 0, .slice none 0 0, .slice none 0 0]) * RR)))) gr l q ∧ Below 0 W wr
def RpnRel (W : World) (B RS : HP) (gr g2 g3 : Nat) (nm : ByteArray) (pa pf : Int) (pr : Bool) (acc : List (Int × Int × Int)) (ac : Option Addr) (cc : Nat) (ds : List Dm) (ai : Option Addr) (ci : Nat) (q : Int) (N : Nat) (lb : List Int) (i : Value) (wr : World) : Prop :=
  ∃ (m : Nat) (ns : List ByteArray) (l : List Int) (an : Option Addr) (cn : Nat), i = .int .i64 m ∧ m ≤ 1099511627776 ∧ rdMany rdName N q lb = joinM ns (rdMany rdName m q l) ∧ ns.length + l.length ≤ 67108864 ∧
    RdAt wr B (own 9 1 (.slice an ns.length cn) ns.length (namesV ns) * (blk g3 (prO [.string nm, .int .i64 pa, .int .i64 pf, .bool pr, .slice ac acc.length cc, .slice ai ds.length ci, .slice an ns.length cn]) * (blk g2 (prO [.string ⟨#[]⟩, .int .i64 0, .int .i64 0, .bool false, .slice none 0 0, .slice none 0 0, .slice none 0 0]) * RS))) gr l q ∧ Below 0 W wr
set_option maxRecDepth 100000 in
set_option maxHeartbeats 8000000 in
theorem rd_proto (w : World) (B R : HP) (gr : Nat) (l : List Int) (p : Int) (h : RdAt w B R gr l p) (hp : 0 ≤ p ∧ p ≤ 20000) (hl : l.length ≤ 67108864) :
    Calls Try.prog 37 #[.pointer (some ⟨gr, 0, none⟩)] w (RpPost B R gr (rdProto p l) w) := by
  have hB := h.sub
  have h1 := h.alloc (prO [.string ⟨#[]⟩, .int .i64 0, .int .i64 0, .bool false, .slice none 0 0, .slice none 0 0, .slice none 0 0])
  have hb1 := Below.zero_alloc w (prO [.string ⟨#[]⟩, .int .i64 0, .int .i64 0, .bool false, .slice none 0 0, .slice none 0 0, .slice none 0 0])
  obtain ⟨g2, hg2⟩ : ∃ g, w.heap.size = g := ⟨_, rfl⟩
  rw [hg2] at h1
  have hT := rd_text _ B _ gr l p h1
  have H0 := Lib.hid (And.intro hB (And.intro hb1 (And.intro hp hl)))
  clear h h1 hb1 hB hp hl
  cases a1 : rdText l with
  | none =>
    rw [a1] at hT
    have HNO := Lib.hid (show rdProto p l = none by unfold rdProto; rw [a1])
    clear a1
    rw [HNO.out]
    go_enter Try.func37, Try.ntmps37
    go_wp2_with fail
    refine hT.mono ?_
    rintro e w2 ⟨rfl, h2, hb2⟩
    unfold cutE
    go_wp2_with fail
    exact ⟨rfl, rfl, h2.right, H0.out.2.1.trans hb2⟩
  | some r =>
  obtain ⟨nm, l1⟩ := r
  rw [a1] at hT
  have HA1 := Lib.hid (And.intro a1 (rdText_len a1))
  clear a1
  obtain ⟨o, ho⟩ : ∃ o, rdProto p l = o := ⟨_, rfl⟩
  rw [ho]
  have HO := Lib.hid ho
  clear ho
  go_enter Try.func37, Try.ntmps37
  go_wp2_with fail
  refine hT.mono ?_
  clear hT
  rintro e w2 ⟨rfl, h2, hb2⟩
  have h3 := h2.alloc (prO [.string nm, .int .i64 0, .int .i64 0, .bool false, .slice none 0 0, .slice none 0 0, .slice none 0 0])
  have hb3 := (H0.out.2.1.trans hb2).trans (Below.zero_alloc w2 (prO [.string nm, .int .i64 0, .int .i64 0, .bool false, .slice none 0 0, .slice none 0 0, .slice none 0 0]))
  obtain ⟨g3, hg3⟩ : ∃ g, w2.heap.size = g := ⟨_, rfl⟩
  rw [hg3] at h3
  have H3 := Lib.hid (And.intro h3 hb3)
  clear h2 hb2 h3 hb3
  go_upto_region 2 with (fail)
  try rw [hg3]
  clear hg3
  try rw [hg2]
  clear hg2
  generalize w2.alloc (prO [.string nm, .int .i64 0, .int .i64 0, .bool false, .slice none 0 0, .slice none 0 0, .slice none 0 0]) = w3 at *
  have hS2 := rd_number w3 B _ gr l1 p H3.out.1
  cases b2 : rdNum l1 with
  | none =>
    rw [show rdNumF 0 0 l1 = _ from b2] at hS2
    have HNO := Lib.hid (show o = none by rw [← HO.out]; unfold rdProto; simp only [HA1.out.1, b2])
    clear b2
    go_wp2_with fail
    refine hS2.mono ?_
    rintro e wx ⟨rfl, hx, hbx⟩
    unfold cutE
    go_wp2_with fail
    rw [HNO.out]
    exact ⟨rfl, rfl, hx.right.right, H3.out.2.trans hbx⟩
  | some r =>
  obtain ⟨pa, l2⟩ := r
  rw [show rdNumF 0 0 l1 = _ from b2] at hS2
  have HB2 := Lib.hid b2
  clear b2
  go_wp2_with fail
  refine hS2.mono ?_
  clear hS2
  rintro e wx ⟨rfl, hx, hbx⟩
  have f2 := hx.fr.left.frozen 1
  have d2 := (hx.fr.left.cell 1).trans (show _ = some (Value.int .i64 0) from rfl)
  have hh2 := hx.put 1 (.int .i64 pa) (fun w' h => H0.out.1 w' h.right)
  have hbb2 := ((H3.out.2).trans hbx).setCell (p := ⟨g3, 1, none⟩) (Nat.zero_le _) (.int .i64 pa)
  have HH2 := Lib.hid (And.intro hh2 hbb2)
  clear hx hbx hh2 hbb2
  go_upto_region 3 with (fail)
  clear f2 d2
  generalize wx.setCell ⟨g3, 1, none⟩ (.int .i64 pa) = w4 at *
  have hS3 := rd_truth w4 B _ gr l2 p HH2.out.1
  cases b3 : rdBool l2 with
  | none =>
    rw [b3] at hS3
    have HNO := Lib.hid (show o = none by rw [← HO.out]; unfold rdProto; simp only [HA1.out.1, HB2.out, b3])
    clear b3
    go_wp2_with fail
    refine hS3.mono ?_
    rintro e wx ⟨rfl, hx, hbx⟩
    unfold cutE
    go_wp2_with fail
    rw [HNO.out]
    exact ⟨rfl, rfl, hx.right.right, HH2.out.2.trans hbx⟩
  | some r =>
  obtain ⟨pr, l3⟩ := r
  rw [b3] at hS3
  have HB3 := Lib.hid b3
  clear b3
  go_wp2_with fail
  refine hS3.mono ?_
  clear hS3
  rintro e wx ⟨rfl, hx, hbx⟩
  have f3 := hx.fr.left.frozen 3
  have d3 := (hx.fr.left.cell 3).trans (show _ = some (Value.bool false) from rfl)
  have hh3 := hx.put 3 (.bool pr) (fun w' h => H0.out.1 w' h.right)
  have hbb3 := ((HH2.out.2).trans hbx).setCell (p := ⟨g3, 3, none⟩) (Nat.zero_le _) (.bool pr)
  have HH3 := Lib.hid (And.intro hh3 hbb3)
  clear hx hbx hh3 hbb3
  go_upto_region 4 with (fail)
  clear f3 d3
  generalize wx.setCell ⟨g3, 3, none⟩ (.bool pr) = w5 at *
  have hS4 := rd_number w5 B _ gr l3 p HH3.out.1
  cases b4 : rdNum l3 with
  | none =>
    rw [show rdNumF 0 0 l3 = _ from b4] at hS4
    have HNO := Lib.hid (show o = none by rw [← HO.out]; unfold rdProto; simp only [HA1.out.1, HB2.out, HB3.out, b4])
    clear b4
    go_wp2_with fail
    refine hS4.mono ?_
    rintro e wx ⟨rfl, hx, hbx⟩
    unfold cutE
    go_wp2_with fail
    rw [HNO.out]
    exact ⟨rfl, rfl, hx.right.right, HH3.out.2.trans hbx⟩
  | some r =>
  obtain ⟨pf, l4⟩ := r
  rw [show rdNumF 0 0 l3 = _ from b4] at hS4
  have HB4 := Lib.hid b4
  clear b4
  go_wp2_with fail
  refine hS4.mono ?_
  clear hS4
  rintro e wx ⟨rfl, hx, hbx⟩
  have f4 := hx.fr.left.frozen 2
  have d4 := (hx.fr.left.cell 2).trans (show _ = some (Value.int .i64 0) from rfl)
  have hh4 := hx.put 2 (.int .i64 pf) (fun w' h => H0.out.1 w' h.right)
  have hbb4 := ((HH3.out.2).trans hbx).setCell (p := ⟨g3, 2, none⟩) (Nat.zero_le _) (.int .i64 pf)
  have HH4 := Lib.hid (And.intro hh4 hbb4)
  clear hx hbx hh4 hbb4
  go_upto_region 5 with (fail)
  clear f4 d4
  generalize wx.setCell ⟨g3, 2, none⟩ (.int .i64 pf) = w6 at *
  have hS5 := rd_number w6 B _ gr l4 p HH4.out.1
  cases b5 : rdNum l4 with
  | none =>
    rw [show rdNumF 0 0 l4 = _ from b5] at hS5
    have HNO := Lib.hid (show o = none by rw [← HO.out]; unfold rdProto; simp only [HA1.out.1, HB2.out, HB3.out, HB4.out, b5])
    clear b5
    go_wp2_with fail
    refine hS5.mono ?_
    rintro e wx ⟨rfl, hx, hbx⟩
    unfold cutE
    go_wp2_with fail
    rw [HNO.out]
    exact ⟨rfl, rfl, hx.right.right, HH4.out.2.trans hbx⟩
  | some r =>
  obtain ⟨cn, l5⟩ := r
  rw [show rdNumF 0 0 l4 = _ from b5] at hS5
  have HB5 := Lib.hid b5
  clear b5
  go_wp2_with fail
  refine hS5.mono ?_
  clear hS5
  rintro e wx ⟨rfl, hx, hbx⟩
  have hcb := rdNumF_bd l4 0 0 cn l5 HB5.out
  obtain ⟨cnn, rfl⟩ : ∃ x : Nat, cn = x := ⟨cn.toNat, by omega⟩
  have hlb : l5.length ≤ 67108864 := by
    have q1 := HA1.out.2
    have q2 := (rdNumF_bd l1 0 0 pa l2 HB2.out).2.2
    have q3 := rdBool_len HB3.out
    have q4 := (rdNumF_bd l3 0 0 pf l4 HB4.out).2.2
    have := H0.out.2.2.2
    omega
  obtain ⟨i0, hi, hz0, hz1, hz2⟩ := info_parts info_ins
  have HI := Lib.hid (And.intro hi (And.intro hz0 (And.intro hz1 hz2)))
  have H7 := Lib.hid (And.intro hx (And.intro (HH4.out.2.trans hbx) (And.intro hcb hlb)))
  clear hx hbx hi hz0 hz1 hz2 hcb hlb
  go_wp2_with fail
  go_loopw [4] (RpcRel w B R gr g2 g3 nm pa pf pr p cnn l5) (fun i _ => (intOf i).toNat)
  case atStart =>
    refine ⟨cnn, [], l5, none, 0, rfl, by have := H7.out.2.2.1; omega, ?_, by have := H7.out.2.2.2; simp only [List.length_nil]; omega, fun x hx => by simp at hx, ?_, H7.out.2.1⟩
    · cases rdMany rdIns cnn p l5 with
      | none => rfl
      | some r => rfl
    · obtain ⟨ao, cap, q1, q2, q3, q4, q5⟩ := H7.out.1
      exact ⟨ao, cap, (q1.nil_own (e := 41) (sz := 3)).perm (by ac_rfl), q2, q3, q4, fun w' h => q5 w' h.right⟩
  case round =>
    obtain ⟨m, acc, l6, ac, cc, rfl, hmb, hrd, hlen, hacc, h8, hb8⟩ := hrel
    cases m with
    | zero =>
      have hfin : rdMany rdIns cnn p l5 = some (acc, p, l6) := by rw [hrd]; simp [rdMany, joinM]
      obtain ⟨RR, hRR⟩ : ∃ RR : HP, RR = own 41 3 (.slice ac acc.length cc) acc.length (codeV acc) * R := ⟨_, rfl⟩
      have h8b : RdAt wr B (blk g3 (prO [.string nm, .int .i64 pa, .int .i64 pf, .bool pr, .slice ac acc.length cc, .slice none 0 0, .slice none 0 0]) * (blk g2 (prO [.string ⟨#[]⟩, .int .i64 0, .int .i64 0, .bool false, .slice none 0 0, .slice none 0 0, .slice none 0 0]) * RR)) gr l6 p := h8.perm (by rw [hRR]; ac_rfl)
      have hRB : ∀ w', sat w' RR → sat w' B := fun w' h => by rw [hRR] at h; exact H0.out.1 w' h.right
      have hRR2 : ∀ w', sat w' RR → sat w' R := fun w' h => by rw [hRR] at h; exact h.right
      have HC0 := Lib.hid (And.intro hfin (And.intro hacc (And.intro hlen (And.intro hRR (And.intro hRB hRR2)))))
      have HB9 := Lib.hid (And.intro h8b hb8)
      clear hfin hacc hlen hrd hRR hRB hRR2 h8 hb8 h8b
      go_upto_region 12 with (fail)
      have hI4 := rd_number wr B _ gr l6 p HB9.out.1
      cases r4 : rdNumF 0 0 l6 with
      | none =>
        rw [r4] at hI4
        have HNO := Lib.hid (show o = none by rw [← HO.out]; unfold rdProto; simp only [HA1.out.1, HB2.out, HB3.out, HB4.out, HB5.out, Int.toNat_natCast, HC0.out.1, show rdNum l6 = none from r4])
        go_wp2_with fail
        refine hI4.mono ?_
        rintro e wy ⟨rfl, hy, hby⟩
        unfold cutE
        go_wp2_with fail
        refine ⟨rfl, ?_⟩
        show RpPost B R gr o w _ _
        rw [HNO.out]
        exact ⟨rfl, HC0.out.2.2.2.2.2 _ hy.right.right, HB9.out.2.trans hby⟩
      | some r =>
      obtain ⟨dn, l7⟩ := r
      have hdb := rdNumF_bd l6 0 0 dn l7 r4
      rw [r4] at hI4
      obtain ⟨dnn, rfl⟩ : ∃ x : Nat, dn = x := ⟨dn.toNat, by omega⟩
      have HR4 := Lib.hid (And.intro r4 hdb)
      clear r4 hdb
      go_wp2_with fail
      refine hI4.mono ?_
      clear hI4
      rintro e wy ⟨rfl, hy, hby⟩
      have HY4 := Lib.hid (And.intro hy (HB9.out.2.trans hby))
      clear hy hby
      obtain ⟨j0, ji, jz0, jz1, jz2⟩ := info_parts info_dm
      have HJ := Lib.hid (And.intro ji (And.intro jz0 (And.intro jz1 jz2)))
      clear ji jz0 jz1 jz2
      go_wp2_with fail
      go_loopw [6] (RpdRel w B RR gr g2 g3 nm pa pf pr acc ac cc p dnn l7) (fun i _ => (intOf i).toNat)
      case atStart =>
        refine ⟨dnn, [], p, l7, none, 0, [], emp, rfl, by have := HR4.out.2; omega, ?_, by have := HR4.out.2; have := HC0.out.2.2.1; simp only [List.length_nil]; omega, H0.out.2.2.1, rfl, fun i d cs h _ => by simp at h, ?_, HY4.out.2⟩
        · cases rdMany (rdConst 100) dnn p l7 with
          | none => rfl
          | some r => rfl
        · obtain ⟨ao, cap, q1, q2, q3, q4, q5⟩ := HY4.out.1
          exact ⟨ao, cap, (q1.nil_own (e := 59) (sz := 7)).perm (by rw [HP.emp_mul]; simp only [List.flatten_nil, List.length_nil]; ac_rfl), q2, q3, q4, fun w' h => HC0.out.2.2.2.2.1 w' h.right.right.right.right⟩
      case round =>
        obtain ⟨m, ds, q, la, ai, ci, css, M, rfl, hmb, hrd, hlen, hqb, hcl, hdk, h8, hb8⟩ := hrel
        cases m with
        | zero =>
          have hfd : rdMany (rdConst 100) dnn p l7 = some (ds, q, la) := by rw [hrd]; simp [rdMany, joinM]
          have hci : ds.length ≤ ci := by
            obtain ⟨ao, cap, q1, _⟩ := h8
            obtain ⟨_, _, e1, e2⟩ := slice_val q1.right
            cases e1
            exact e2
          have hdks : DKs (own 59 7 (.slice ai ds.length ci) ds.length css.flatten * M) ds ai 0 := row_dks hcl rfl hdk wr h8.fr
          obtain ⟨RS, hRS⟩ : ∃ X : HP, X = (own 59 7 (.slice ai ds.length ci) ds.length css.flatten * M) * RR := ⟨_, rfl⟩
          have h8c : RdAt wr B (blk g3 (prO [.string nm, .int .i64 pa, .int .i64 pf, .bool pr, .slice ac acc.length cc, .slice ai ds.length ci, .slice none 0 0]) * (blk g2 (prO [.string ⟨#[]⟩, .int .i64 0, .int .i64 0, .bool false, .slice none 0 0, .slice none 0 0, .slice none 0 0]) * RS)) gr la q := h8.perm (by rw [hRS]; ac_rfl)
          have hSB : ∀ w', sat w' RS → sat w' B := fun w' h => by rw [hRS] at h; exact HC0.out.2.2.2.2.1 w' h.right
          have hSR : ∀ w', sat w' RS → sat w' R := fun w' h => by rw [hRS] at h; exact HC0.out.2.2.2.2.2 w' h.right
          have HD0 := Lib.hid (And.intro hfd (And.intro hci (And.intro hdks (And.intro hRS (And.intro hSB (And.intro hSR (And.intro hlen hqb)))))))
          have HB9 := Lib.hid (And.intro h8c hb8)
          clear hfd hci hdks hRS hSB hSR hlen hqb hrd hcl hdk h8 hb8 h8c
          go_upto_region 16 with (fail)
          have hI6 := rd_number wr B _ gr la q HB9.out.1
          cases r6 : rdNumF 0 0 la with
          | none =>
            rw [r6] at hI6
            have HNO := Lib.hid (show o = none by rw [← HO.out]; unfold rdProto; simp only [HA1.out.1, HB2.out, HB3.out, HB4.out, HB5.out, Int.toNat_natCast, HC0.out.1, show rdNum l6 = some ((dnn : Int), l7) from HR4.out.1, HD0.out.1, show rdNum la = none from r6])
            go_wp2_with fail
            refine hI6.mono ?_
            rintro e wy ⟨rfl, hy, hby⟩
            unfold cutE
            go_wp2_with fail
            refine ⟨rfl, ?_⟩
            show RpPost B R gr o w _ _
            rw [HNO.out]
            exact ⟨rfl, HD0.out.2.2.2.2.2.1 _ hy.right.right, HB9.out.2.trans hby⟩
          | some r =>
          obtain ⟨nn, lb⟩ := r
          have hnb := rdNumF_bd la 0 0 nn lb r6
          rw [r6] at hI6
          obtain ⟨nnn, rfl⟩ : ∃ x : Nat, nn = x := ⟨nn.toNat, by omega⟩
          have HR6 := Lib.hid (And.intro r6 hnb)
          clear r6 hnb
          go_wp2_with fail
          refine hI6.mono ?_
          clear hI6
          rintro e wy ⟨rfl, hy, hby⟩
          have HY6 := Lib.hid (And.intro hy (HB9.out.2.trans hby))
          clear hy hby
          obtain ⟨k0, ki, kz0, kz1, kz2⟩ := info_parts info_txt
          have HKT := Lib.hid (And.intro ki (And.intro kz0 (And.intro kz1 kz2)))
          clear ki kz0 kz1 kz2
          go_wp2_with fail
          go_loopw [7] (RpnRel w B RS gr g2 g3 nm pa pf pr acc ac cc ds ai ci q nnn lb) (fun i _ => (intOf i).toNat)
          case atStart =>
            refine ⟨nnn, [], lb, none, 0, rfl, by have := HR6.out.2; omega, ?_, by have := HR6.out.2; have := HD0.out.2.2.2.2.2.2.1; simp only [List.length_nil]; omega, ?_, HY6.out.2⟩
            · cases rdMany rdName nnn q lb with
              | none => rfl
              | some r => rfl
            · obtain ⟨ao, cap, q1, q2, q3, q4, q5⟩ := HY6.out.1
              exact ⟨ao, cap, (q1.nil_own (e := 9) (sz := 1)).perm (by show _ = _; simp only [namesV, List.map_nil, List.length_nil]; ac_rfl), q2, q3, q4, fun w' h => HD0.out.2.2.2.2.1 w' h.right.right.right⟩
          case round =>
            obtain ⟨m, ns, lc, an, cn, rfl, hmb, hrd, hlen, h8, hb8⟩ := hrel
            cases m with
            | zero =>
              have hfn : rdMany rdName nnn q lb = some (ns, q, lc) := by rw [hrd]; simp [rdMany, joinM]
              have hoo : o = some (⟨nm, pa, pf, pr, acc, ds, ns⟩, q, lc) := by rw [← HO.out]; unfold rdProto; simp only [HA1.out.1, HB2.out, HB3.out, HB4.out, HB5.out, Int.toNat_natCast, HC0.out.1, show rdNum l6 = some ((dnn : Int), l7) from HR4.out.1, HD0.out.1, show rdNum la = some ((nnn : Int), lb) from HR6.out.1, hfn]
              obtain ⟨X, hX⟩ : ∃ X : HP, X = (own 41 3 (.slice ac acc.length cc) acc.length (codeV acc)) * ((own 9 1 (.slice an ns.length cn) ns.length (namesV ns)) * ((own 59 7 (.slice ai ds.length ci) ds.length css.flatten) * M)) := ⟨_, rfl⟩
              have hE0 : RdAt wr B (blk g3 (prO [.string nm, .int .i64 pa, .int .i64 pf, .bool pr, .slice ac acc.length cc, .slice ai ds.length ci, .slice an ns.length cn]) * (blk g2 (prO [.string ⟨#[]⟩, .int .i64 0, .int .i64 0, .bool false, .slice none 0 0, .slice none 0 0, .slice none 0 0]) * (X * R))) gr lc q := h8.perm (by rw [hX, HD0.out.2.2.2.1, HC0.out.2.2.2.1]; ac_rfl)
              have hsX := hE0.fr.right.right
              have hcn : ns.length ≤ cn := by
                rw [hX] at hsX
                obtain ⟨_, _, e1, e2⟩ := slice_val (hsX.perm (show _ = (own 9 1 (.slice an ns.length cn) ns.length (namesV ns)) * ((own 41 3 (.slice ac acc.length cc) acc.length (codeV acc)) * (((own 59 7 (.slice ai ds.length ci) ds.length css.flatten) * M) * R)) by ac_rfl))
                cases e1
                exact e2
              have hcc : acc.length ≤ cc := by
                rw [hX] at hsX
                obtain ⟨_, _, e1, e2⟩ := slice_val (hsX.perm (show _ = (own 41 3 (.slice ac acc.length cc) acc.length (codeV acc)) * ((own 9 1 (.slice an ns.length cn) ns.length (namesV ns)) * (((own 59 7 (.slice ai ds.length ci) ds.length css.flatten) * M) * R)) by ac_rfl))
                cases e1
                exact e2
              have hpo : PrO X ⟨nm, pa, pf, pr, acc, ds, ns⟩ [.string nm, .int .i64 pa, .int .i64 pf, .bool pr, .slice ac acc.length cc, .slice ai ds.length ci, .slice an ns.length cn] := by
                have b1 := rdNumF_bd l1 0 0 pa l2 HB2.out
                have b2 := rdNumF_bd l3 0 0 pf l4 HB4.out
                exact ⟨ac, cc, ai, ci, an, cn, (own 59 7 (.slice ai ds.length ci) ds.length css.flatten) * M, rfl, ⟨by unfold i64b; simp only []; omega, by unfold i64b; simp only []; omega⟩, HC0.out.2.1, HD0.out.2.2.1, hcc, HD0.out.2.1, hcn, hX⟩
              have hXB : ∀ w', sat w' (X * R) → sat w' B := fun w' h => H0.out.1 w' h.right
              have hsE := hE0.fr
              have d0 := (hsE.left.cell 0).trans (show _ = some (Value.string nm) from rfl)
              have d1 := (hsE.left.cell 1).trans (show _ = some (Value.int .i64 pa) from rfl)
              have d2 := (hsE.left.cell 2).trans (show _ = some (Value.int .i64 pf) from rfl)
              have d3 := (hsE.left.cell 3).trans (show _ = some (Value.bool pr) from rfl)
              have d4 := (hsE.left.cell 4).trans (show _ = some (Value.slice ac acc.length cc) from rfl)
              have d5 := (hsE.left.cell 5).trans (show _ = some (Value.slice ai ds.length ci) from rfl)
              have d6 := (hsE.left.cell 6).trans (show _ = some (Value.slice an ns.length cn) from rfl)
              have z0 := (hsE.right.left.cell 0).trans rfl
              have z1 := (hsE.right.left.cell 1).trans rfl
              have z2 := (hsE.right.left.cell 2).trans rfl
              have z3 := (hsE.right.left.cell 3).trans rfl
              have z4 := (hsE.right.left.cell 4).trans rfl
              have z5 := (hsE.right.left.cell 5).trans rfl
              have z6 := (hsE.right.left.cell 6).trans rfl
              have y0 := hsE.right.left.frozen 0
              have y1 := hsE.right.left.frozen 1
              have y2 := hsE.right.left.frozen 2
              have y3 := hsE.right.left.frozen 3
              have y4 := hsE.right.left.frozen 4
              have y5 := hsE.right.left.frozen 5
              have y6 := hsE.right.left.frozen 6
              have hE2 : RdAt wr B (blk g2 (prO [.string ⟨#[]⟩, .int .i64 0, .int .i64 0, .bool false, .slice none 0 0, .slice none 0 0, .slice none 0 0]) * (X * R)) gr lc q := hE0.drop (fun w' h => hXB w' h.right)
              obtain ⟨hF, hCC, hbF⟩ := hE2.put7p (.string nm) (.int .i64 pa) (.int .i64 pf) (.bool pr) (.slice ac acc.length cc) (.slice ai ds.length ci) (.slice an ns.length cn) hXB
              have HT := Lib.hid (And.intro hF (And.intro hCC (And.intro (hb8.trans hbF) (And.intro hpo hoo))))
              clear hfn hoo hE0 hsX hcn hcc hpo hXB hsE hE2 hF hCC hbF hrd hlen h8 hb8 hX
              go_wp2_with fail
              obtain ⟨r0, r1, r2, r3, r4, r5, r6⟩ := HT.out.2.1 _ rfl
              refine bodyPost_ret (v := .agg #[.string nm, .int .i64 pa, .int .i64 pf, .bool pr, .slice ac acc.length cc, .slice ai ds.length ci, .slice an ns.length cn]) (by simp [results, Try.results37, go_sem, r0, r1, r2, r3, r4, r5, r6]) rfl ?_
              show RpPost B R gr o w _ _
              rw [HT.out.2.2.2.2]
              exact ⟨[.string nm, .int .i64 pa, .int .i64 pf, .bool pr, .slice ac acc.length cc, .slice ai ds.length ci, .slice an ns.length cn], X, rfl, HT.out.2.2.2.1, HT.out.1, HT.out.2.2.1⟩
            | succ m =>
              have hgt : decide (((m + 1 : Nat) : Int) > 0) = true := by rw [decide_eq_true_eq]; omega
              obtain ⟨mi, hmi⟩ : ∃ x : Int, ((m + 1 : Nat) : Int) = x := ⟨_, rfl⟩
              rw [hmi] at hgt ⊢
              have hdec2 : IntKind.i64.wrap (mi - 1) = mi - 1 := IntWalk.i64_in _ (by omega)
              obtain ⟨FF, hFF⟩ : ∃ FF : HP, FF = own 9 1 (.slice an ns.length cn) ns.length (namesV ns) * (blk g3 (prO [.string nm, .int .i64 pa, .int .i64 pf, .bool pr, .slice ac acc.length cc, .slice ai ds.length ci, .slice an ns.length cn]) * (blk g2 (prO [.string ⟨#[]⟩, .int .i64 0, .int .i64 0, .bool false, .slice none 0 0, .slice none 0 0, .slice none 0 0]) * RS)) := ⟨_, rfl⟩
              rw [← hFF] at h8
              have hFR : ∀ w', sat w' FF → sat w' RS := fun w' h => by rw [hFF] at h; exact h.right.right.right
              have hF6 : ∀ w', sat w' FF → w'.cell? ⟨g3, 6, none⟩ = some (.slice an ns.length cn) := fun w' h => by rw [hFF] at h; exact (h.right.left.cell 6).trans rfl
              have hC := fun (w' : World) (h : RdAt w' B FF gr lc q) => rd_text w' B FF gr lc q h
              cases hr : rdText lc with
              | none =>
                rw [hr] at hC
                have hno : rdMany rdName nnn q lb = none := by rw [hrd]; exact joinM_no (by unfold rdName; rw [hr])
                have hno2 : o = none := by rw [← HO.out]; unfold rdProto; simp only [HA1.out.1, HB2.out, HB3.out, HB4.out, HB5.out, Int.toNat_natCast, HC0.out.1, show rdNum l6 = some ((dnn : Int), l7) from HR4.out.1, HD0.out.1, show rdNum la = some ((nnn : Int), lb) from HR6.out.1, hno]
                have HNO := Lib.hid (And.intro hno2 (And.intro hFR hb8))
                have c6d := hF6 wr.drew h8.fr
                have c6 := hF6 wr h8.fr
                have HC := Lib.hid (And.intro hC (show RdAt wr.drew B FF gr lc q from h8))
                clear hno hno2 hr hrd hlen h8 hb8 hFF hFR hF6 hC
                go_wp2_with fail
                refine wp_region_held_drew (S := fun w' => w'.cell? ⟨g3, 6, none⟩ = some (.slice an ns.length cn)) (by kernel_rfl) ?hS950 (fun hHeld => ?rest950)
                case hS950 => exact c6d
                refine wpAnyH_take (i := 0) (oi := { dst := some 60, op := _, type := _, pos := _, after := _, guard := _ }) (v := ?v951) rfl (by kernel_rfl) (by kernel_rfl) (by kernel_rfl) (fun _ _ _ h => h) (Or.inl ⟨by rfl, ?hy951⟩) hHeld ?rest951
                case hy951 => (intro w hSw; (try dsimp only at hSw); first | (go_simp; done) | (go_simp; with_reducible rfl))
                simp only [Act.put, List.setIfInBounds_toArray, List.set_cons_zero, List.set_cons_succ]
                refine wpAnyH_take (i := 1) (oi := { dst := some 61, op := _, type := _, pos := _, after := _, guard := _ }) (v := ?v952) rfl (by kernel_rfl) (by kernel_rfl) (by kernel_rfl) (fun _ _ _ h => h) (Or.inl ⟨by rfl, ?hy952⟩) hHeld ?rest952
                case hy952 => (intro w hSw; (try dsimp only at hSw); first | (go_simp; done) | (go_simp; with_reducible rfl))
                simp only [Act.put, List.setIfInBounds_toArray, List.set_cons_zero, List.set_cons_succ]
                refine wpAnyH_take (i := 2) (oi := { dst := some 62, op := _, type := _, pos := _, after := _, guard := _ }) (v := ?v953) rfl (by kernel_rfl) (by kernel_rfl) (by kernel_rfl) (fun _ _ _ h => h) (Or.inl ⟨by rfl, ?hy953⟩) hHeld ?rest953
                case hy953 => (intro w hSw; (try dsimp only at hSw); first | (go_simp; done) | (go_simp; with_reducible rfl))
                simp only [Act.put, List.setIfInBounds_toArray, List.set_cons_zero, List.set_cons_succ]
                refine wpAnyH_ready (rs := [3]) (by kernel_rfl) (by simp) ?_
                refine AllReadyH.cons (o := { dst := some 63, op := _, type := _, pos := _, after := _, guard := _ }) rfl (fun K hK => ?step990) ?more990
                case more990 => exact AllReadyH.nil
                clear hHeld
                go_simp
                go_at_call 51
                refine (HC.out.1 _ HC.out.2).mono ?_
                rintro e w9 ⟨rfl, h9, hb9⟩
                unfold cutE
                dsimp only
                refine ⟨rfl, ?_⟩
                show RpPost B R gr o w _ _
                rw [HNO.out.1]
                exact ⟨rfl, HD0.out.2.2.2.2.2.1 _ (HNO.out.2.1 _ h9), (HNO.out.2.2.drew).trans hb9⟩
              | some r =>
                obtain ⟨s, ld⟩ := r
                have hxb := rdText_len hr
                rw [hr] at hC
                have hri : rdName q lc = some (s, q, ld) := by unfold rdName; rw [hr]
                have o1 : ∀ w3 : World, RdAt w3 B FF gr ld q →
                    w3.cell? ⟨g3, 6, none⟩ = some (.slice an ns.length cn) ∧ (w3.alloc (.cells #[.string s] 9)).cell? ⟨g3, 6, none⟩ = some (.slice an ns.length cn) ∧
                    (∀ (j' : Nat) u, [Value.string s][j']? = some u → (w3.alloc (.cells #[.string s] 9)).cell? ((⟨w3.heap.size, 0, none⟩ : Addr).add j') = some u) ∧
                    ∃ ao cap, sat (w3.alloc (.cells #[.string s] 9)) (own 9 1 (.slice an ns.length cn) ns.length (namesV ns) * (blk w3.heap.size (.cells #[.string s] 9 (0, 0)) * (blk gr (.cells #[.slice ao ld.length cap, .int .i64 q] 72 (0, 0)) * (blk g3 (prO [.string nm, .int .i64 pa, .int .i64 pf, .bool pr, .slice ac acc.length cc, .slice ai ds.length ci, .slice an ns.length cn]) * (blk g2 (prO [.string ⟨#[]⟩, .int .i64 0, .int .i64 0, .bool false, .slice none 0 0, .slice none 0 0, .slice none 0 0]) * RS))))) ∧ ld.length ≤ cap ∧ (∀ w', sat w' B → CellsAt w' ao (ld.map bv)) ∧ Bytes ld := by
                  rintro w3 ⟨ao, cap, q1', q2, q3, q4, q5⟩
                  have h2 := q1'.alloc (.cells #[.string s] 9)
                  refine ⟨hF6 _ q1'.right, hF6 _ h2.right.right, ?_, ao, cap, h2.perm (by rw [hFF]; ac_rfl), q2, q3, q4⟩
                  intro j' u hu
                  rw [show ((⟨w3.heap.size, 0, none⟩ : Addr).add j') = ⟨w3.heap.size, j', none⟩ by unfold Addr.add; split <;> simp_all, h2.left.cell j', ← hu]
                  simp
                have o2 : ∀ (w9 : World) (bl : Nat) (o o2 : Obj) (b7 c7 : Nat) (xs : List Value) (X : HP), sat w9 (row 9 1 b7 c7 xs * (blk bl o * (blk gr o2 * (blk g3 (prO [.string nm, .int .i64 pa, .int .i64 pf, .bool pr, .slice ac acc.length cc, .slice ai ds.length ci, .slice an ns.length cn]) * X)))) →
                    w9.cell? ⟨g3, 6, none⟩ = some (.slice an ns.length cn) ∧ w9.frozen? ⟨g3, 6, none⟩ = false := fun w9 bl o o2 b7 c7 xs X h => ⟨(h.right.right.right.left.cell 6).trans rfl, h.right.right.right.left.frozen 6⟩
                have c6 := hF6 wr h8.fr
                have HO2 := Lib.hid (And.intro o1 o2)
                have HR := Lib.hid (And.intro (hrd.trans (joinM_next hri)) (And.intro hlen (And.intro hb8 (And.intro hxb (And.intro hmi hmb)))))
                have HC := Lib.hid (And.intro hC (show RdAt wr.drew B FF gr lc q from h8))
                clear o1 o2 hr hri hrd hlen h8 hb8 hFF hFR hF6 hC hxb hmi hmb
                go_wp2_with fail
                go_region_law
                  (first
                    | (go_simp; go_at_call 51; refine (HC.out.1 _ HC.out.2).mono ?_; rintro e w3' ⟨rfl, h3, hb3⟩; obtain ⟨y1, y2, y3, ao, cap, y4, y5, y6, y7⟩ := HO2.out.1 w3' h3)
                    | (refine step_append_sat rfl (.tmp 61) (.tmp 64) 36 rfl 9 k0 (.string ⟨#[]⟩) 1 16 Try.underlying36 HKT.out.1 HKT.out.2.1 HKT.out.2.2.1 HKT.out.2.2.2 rfl _ ns.length (namesV ns) (by rfl) _ y4 ⟨w3'.heap.size, 0, none⟩ 1 1 [.string s] (by rfl) rfl y3 (by intro u hu; simp at hu; subst hu; rfl) (by have := HR.out.2.1; omega) (by have := HR.out.2.1; unfold maxLen; omega) (by omega) ?_; intro b7 c7 w9 hs9 hc9 hb9; obtain ⟨z5, z6⟩ := HO2.out.2 _ _ _ _ _ _ _ _ hs9))
                all_goals (
                  have hs10 : sat w9 (blk g3 (prO [.string nm, .int .i64 pa, .int .i64 pf, .bool pr, .slice ac acc.length cc, .slice ai ds.length ci, .slice an ns.length cn]) * (blk gr (.cells #[.slice ao ld.length cap, .int .i64 q] 72 (0, 0)) * (row 9 1 b7 c7 (namesV ns ++ [.string s]) * (blk g2 (prO [.string ⟨#[]⟩, .int .i64 0, .int .i64 0, .bool false, .slice none 0 0, .slice none 0 0, .slice none 0 0]) * RS)))) := (show sat w9 (blk w3'.heap.size (.cells #[.string s] 9 (0, 0)) * _) from hs9.perm (by ac_rfl)).right
                  have hs11 : sat (w9.setCell ⟨g3, 6, none⟩ (.slice (some ⟨b7, 0, none⟩) (ns.length + 1) c7)) (blk g3 (prO [.string nm, .int .i64 pa, .int .i64 pf, .bool pr, .slice ac acc.length cc, .slice ai ds.length ci, .slice (some ⟨b7, 0, none⟩) (ns.length + 1) c7]) * (blk gr (.cells #[.slice ao ld.length cap, .int .i64 q] 72 (0, 0)) * (row 9 1 b7 c7 (namesV ns ++ [.string s]) * (blk g2 (prO [.string ⟨#[]⟩, .int .i64 0, .int .i64 0, .bool false, .slice none 0 0, .slice none 0 0, .slice none 0 0]) * RS)))) := hs10.setCell (off := 6) _
                  have hb11 : Below 0 w (w9.setCell ⟨g3, 6, none⟩ (.slice (some ⟨b7, 0, none⟩) (ns.length + 1) c7)) := (((HR.out.2.2.1.drew.trans hb3).trans (Below.zero_alloc _ _)).trans hb9).setCell (p := ⟨g3, 6, none⟩) (Nat.zero_le _) _
                  have HF := Lib.hid (And.intro hs11 (And.intro hb11 (And.intro hc9 (And.intro y5 (And.intro y6 y7)))))
                  clear hs9 hs10 hs11 hb11 hb3 hb9 h3 y1 y2 y3 y4 y5 y6 y7 z5 z6 hc9 HO2 HC
                  go_wp2_with fail
                  go_roundw
                  case rel =>
                    obtain ⟨gg1, gg2, gg4, gg5, gg6, gg7⟩ := HF.out
                    obtain ⟨x1, x2, x4, x5, x6, x7⟩ := HR.out
                    have hln : (ns ++ [s]).length = ns.length + 1 := by simp
                    have hnv : namesV (ns ++ [s]) = namesV ns ++ [.string s] := by unfold namesV; simp
                    refine ⟨m, ns ++ [s], ld, some ⟨b7, 0, none⟩, c7, ?_, by omega, x1, by rw [hln]; omega, ?_, gg2⟩
                    · congr 1; omega
                    · rw [hln, hnv]
                      have hfl : (namesV ns ++ [Value.string s]).length = (ns.length + 1) * 1 := by unfold namesV; simp
                      have gg8 := sat.shut_own (n := ns.length + 1) hfl gg4 (gg1.perm (show _ = row 9 1 b7 c7 _ * (blk g3 _ * (blk gr _ * (blk g2 (prO [.string ⟨#[]⟩, .int .i64 0, .int .i64 0, .bool false, .slice none 0 0, .slice none 0 0, .slice none 0 0]) * RS))) by ac_rfl))
                      exact ⟨ao, cap, gg8.perm (by ac_rfl), gg5, gg6, gg7, fun w' h => HD0.out.2.2.2.2.1 w' h.right.right.right⟩
                  case measure =>
                    have := HR.out.2.2.2.2.1
                    simp [intOf]; omega)
        | succ m =>
          have hgt : decide (((m + 1 : Nat) : Int) > 0) = true := by rw [decide_eq_true_eq]; omega
          obtain ⟨mi, hmi⟩ : ∃ x : Int, ((m + 1 : Nat) : Int) = x := ⟨_, rfl⟩
          rw [hmi] at hgt ⊢
          have hdec2 : IntKind.i64.wrap (mi - 1) = mi - 1 := IntWalk.i64_in _ (by omega)
          obtain ⟨FF, hFF⟩ : ∃ FF : HP, FF = own 59 7 (.slice ai ds.length ci) ds.length css.flatten * (M * (blk g3 (prO [.string nm, .int .i64 pa, .int .i64 pf, .bool pr, .slice ac acc.length cc, .slice ai ds.length ci, .slice none 0 0]) * (blk g2 (prO [.string ⟨#[]⟩, .int .i64 0, .int .i64 0, .bool false, .slice none 0 0, .slice none 0 0, .slice none 0 0]) * RR))) := ⟨_, rfl⟩
          rw [← hFF] at h8
          have hFR : ∀ w', sat w' FF → sat w' RR := fun w' h => by rw [hFF] at h; exact h.right.right.right.right
          have hF5 : ∀ w', sat w' FF → w'.cell? ⟨g3, 5, none⟩ = some (.slice ai ds.length ci) := fun w' h => by rw [hFF] at h; exact (h.right.right.left.cell 5).trans rfl
          have hC := fun (w' : World) (h : RdAt w' B FF gr la q) => (show Calls Try.prog 54 #[.pointer (some ⟨gr, 0, none⟩), .int .i64 100] w' (RcPost B FF gr (rdConst 100 q la) w') from rd_const 100 (by decide) w' B FF gr la q h hqb (by omega))
          cases hr : rdConst 100 q la with
          | none =>
            rw [hr] at hC
            have hno : rdMany (rdConst 100) dnn p l7 = none := by rw [hrd]; exact joinM_no hr
            have hno2 : o = none := by rw [← HO.out]; unfold rdProto; simp only [HA1.out.1, HB2.out, HB3.out, HB4.out, HB5.out, Int.toNat_natCast, HC0.out.1, show rdNum l6 = some ((dnn : Int), l7) from HR4.out.1, hno]
            have HNO := Lib.hid (And.intro hno2 (And.intro hFR hb8))
            clear hno2
            have c5 := hF5 wr h8.fr
            have c5d := hF5 wr.drew h8.fr
            have HC := Lib.hid (And.intro hC (show RdAt wr.drew B FF gr la q from h8))
            clear hno hr hrd hlen h8 hb8 hFF hFR hF5 hC hcl hdk
            go_wp2_with fail
            refine wp_region_held_drew (S := fun w' => w'.cell? ⟨g3, 5, none⟩ = some (.slice ai ds.length ci)) (by kernel_rfl) ?hS900 (fun hHeld => ?rest900)
            case hS900 => exact c5d
            refine wpAnyH_take (i := 0) (oi := { dst := some 47, op := _, type := _, pos := _, after := _, guard := _ }) (v := ?v901) rfl (by kernel_rfl) (by kernel_rfl) (by kernel_rfl) (fun _ _ _ h => h) (Or.inl ⟨by rfl, ?hy901⟩) hHeld ?rest901
            case hy901 => (intro w hSw; (try dsimp only at hSw); first | (go_simp; done) | (go_simp; with_reducible rfl))
            simp only [Act.put, List.setIfInBounds_toArray, List.set_cons_zero, List.set_cons_succ]
            refine wpAnyH_take (i := 1) (oi := { dst := some 48, op := _, type := _, pos := _, after := _, guard := _ }) (v := ?v902) rfl (by kernel_rfl) (by kernel_rfl) (by kernel_rfl) (fun _ _ _ h => h) (Or.inl ⟨by rfl, ?hy902⟩) hHeld ?rest902
            case hy902 => (intro w hSw; (try dsimp only at hSw); first | (go_simp; done) | (go_simp; with_reducible rfl))
            simp only [Act.put, List.setIfInBounds_toArray, List.set_cons_zero, List.set_cons_succ]
            refine wpAnyH_take (i := 2) (oi := { dst := some 49, op := _, type := _, pos := _, after := _, guard := _ }) (v := ?v903) rfl (by kernel_rfl) (by kernel_rfl) (by kernel_rfl) (fun _ _ _ h => h) (Or.inl ⟨by rfl, ?hy903⟩) hHeld ?rest903
            case hy903 => (intro w hSw; (try dsimp only at hSw); first | (go_simp; done) | (go_simp; with_reducible rfl))
            simp only [Act.put, List.setIfInBounds_toArray, List.set_cons_zero, List.set_cons_succ]
            refine wpAnyH_ready (rs := [3]) (by kernel_rfl) (by simp) ?_
            refine AllReadyH.cons (o := { dst := some 50, op := _, type := _, pos := _, after := _, guard := _ }) rfl (fun K hK => ?step950) ?more950
            case more950 => exact AllReadyH.nil
            clear hHeld
            go_simp
            go_at_call 54
            refine (HC.out.1 _ HC.out.2).mono ?_
            rintro e w9 ⟨rfl, h9, hb9⟩
            unfold cutE
            dsimp only
            refine ⟨rfl, ?_⟩
            show RpPost B R gr o w _ _
            rw [HNO.out.1]
            exact ⟨rfl, HC0.out.2.2.2.2.2 _ (HNO.out.2.1 _ h9), (HNO.out.2.2.drew).trans hb9⟩
          | some r =>
            obtain ⟨d, q1, lb⟩ := r
            have hxb := rdConst_bd 100 q la d q1 lb hr
            rw [hr] at hC
            have o1 : ∀ (w3 : World) (M2 : HP) (v0 v1 v2 v3 v4 v5 v6 : Value), RdAt w3 B (M2 * FF) gr lb q1 →
                w3.cell? ⟨g3, 5, none⟩ = some (.slice ai ds.length ci) ∧ (w3.alloc (dmO [v0, v1, v2, v3, v4, v5, v6])).cell? ⟨g3, 5, none⟩ = some (.slice ai ds.length ci) ∧
                (∀ (j' : Nat) u, [v0, v1, v2, v3, v4, v5, v6][j']? = some u → (w3.alloc (dmO [v0, v1, v2, v3, v4, v5, v6])).cell? ((⟨w3.heap.size, 0, none⟩ : Addr).add j') = some u) ∧
                ∃ ao cap, sat (w3.alloc (dmO [v0, v1, v2, v3, v4, v5, v6])) (own 59 7 (.slice ai ds.length ci) ds.length css.flatten * (blk w3.heap.size (dmO [v0, v1, v2, v3, v4, v5, v6]) * (blk gr (.cells #[.slice ao lb.length cap, .int .i64 q1] 72 (0, 0)) * (blk g3 (prO [.string nm, .int .i64 pa, .int .i64 pf, .bool pr, .slice ac acc.length cc, .slice ai ds.length ci, .slice none 0 0]) * ((M2 * M) * (blk g2 (prO [.string ⟨#[]⟩, .int .i64 0, .int .i64 0, .bool false, .slice none 0 0, .slice none 0 0, .slice none 0 0]) * RR)))))) ∧ lb.length ≤ cap ∧ (∀ w', sat w' B → CellsAt w' ao (lb.map bv)) ∧ Bytes lb := by
              rintro w3 M2 v0 v1 v2 v3 v4 v5 v6 ⟨ao, cap, q1', q2, q3, q4, q5⟩
              have h2 := q1'.alloc (dmO [v0, v1, v2, v3, v4, v5, v6])
              refine ⟨hF5 _ q1'.right.right, hF5 _ h2.right.right.right, ?_, ao, cap, h2.perm (by rw [hFF]; ac_rfl), q2, q3, q4⟩
              intro j' u hu
              rw [show ((⟨w3.heap.size, 0, none⟩ : Addr).add j') = ⟨w3.heap.size, j', none⟩ by unfold Addr.add; split <;> simp_all, h2.left.cell j', ← hu]
              simp
            have o2 : ∀ (w9 : World) (bl : Nat) (o o2 : Obj) (b7 c7 : Nat) (xs : List Value) (X : HP), sat w9 (row 59 7 b7 c7 xs * (blk bl o * (blk gr o2 * (blk g3 (prO [.string nm, .int .i64 pa, .int .i64 pf, .bool pr, .slice ac acc.length cc, .slice ai ds.length ci, .slice none 0 0]) * X)))) →
                w9.cell? ⟨g3, 5, none⟩ = some (.slice ai ds.length ci) ∧ w9.frozen? ⟨g3, 5, none⟩ = false := fun w9 bl o o2 b7 c7 xs X h => ⟨(h.right.right.right.left.cell 5).trans rfl, h.right.right.right.left.frozen 5⟩
            have c5 := hF5 wr h8.fr
            have HO := Lib.hid (And.intro o1 o2)
            have HR := Lib.hid (And.intro (hrd.trans (joinM_next hr)) (And.intro hlen (And.intro hcl (And.intro hb8 (And.intro hxb (And.intro hmi (And.intro hmb (And.intro hdk hqb))))))))
            have HC := Lib.hid (And.intro hC (show RdAt wr.drew B FF gr la q from h8))
            clear o1 o2 hr hrd hlen h8 hb8 hFF hFR hF5 hC hcl hdk hxb hmi hmb hqb
            go_wp2_with fail
            go_region_law
              (first
                | (go_simp; go_at_call 54; refine (HC.out.1 _ HC.out.2).mono ?_; rintro e w3' ⟨cs2, M2, rfl, hdk2, h3, hb3⟩; obtain ⟨v0, v1, v2, v3, v4, v5, v6, rfl⟩ := hdk2.seven; obtain ⟨y1, y2, y3, ao, cap, y4, y5, y6, y7⟩ := HO.out.1 w3' M2 v0 v1 v2 v3 v4 v5 v6 h3)
                | (refine step_append_sat rfl (.tmp 48) (.tmp 51) 35 rfl 59 j0 zeroDm 7 112 Try.underlying35 HJ.out.1 HJ.out.2.1 HJ.out.2.2.1 HJ.out.2.2.2 rfl _ ds.length css.flatten (by rfl) _ y4 ⟨w3'.heap.size, 0, none⟩ 1 1 [v0, v1, v2, v3, v4, v5, v6] (by rfl) rfl y3 hdk2.one (by have := HR.out.2.1; omega) (by have := HR.out.2.1; unfold maxLen; omega) (by omega) ?_; intro b7 c7 w9 hs9 hc9 hb9; obtain ⟨z5, z6⟩ := HO.out.2 _ _ _ _ _ _ _ _ hs9))
            all_goals (
              have hs10 : sat w9 (blk g3 (prO [.string nm, .int .i64 pa, .int .i64 pf, .bool pr, .slice ac acc.length cc, .slice ai ds.length ci, .slice none 0 0]) * (blk gr (.cells #[.slice ao lb.length cap, .int .i64 q1] 72 (0, 0)) * (row 59 7 b7 c7 (css.flatten ++ [v0, v1, v2, v3, v4, v5, v6]) * ((M2 * M) * (blk g2 (prO [.string ⟨#[]⟩, .int .i64 0, .int .i64 0, .bool false, .slice none 0 0, .slice none 0 0, .slice none 0 0]) * RR))))) := (show sat w9 (blk w3'.heap.size (dmO [v0, v1, v2, v3, v4, v5, v6]) * _) from hs9.perm (by ac_rfl)).right
              have hs11 : sat (w9.setCell ⟨g3, 5, none⟩ (.slice (some ⟨b7, 0, none⟩) (ds.length + 1) c7)) (blk g3 (prO [.string nm, .int .i64 pa, .int .i64 pf, .bool pr, .slice ac acc.length cc, .slice (some ⟨b7, 0, none⟩) (ds.length + 1) c7, .slice none 0 0]) * (blk gr (.cells #[.slice ao lb.length cap, .int .i64 q1] 72 (0, 0)) * (row 59 7 b7 c7 (css.flatten ++ [v0, v1, v2, v3, v4, v5, v6]) * ((M2 * M) * (blk g2 (prO [.string ⟨#[]⟩, .int .i64 0, .int .i64 0, .bool false, .slice none 0 0, .slice none 0 0, .slice none 0 0]) * RR))))) := hs10.setCell (off := 5) _
              have hb11 : Below 0 w (w9.setCell ⟨g3, 5, none⟩ (.slice (some ⟨b7, 0, none⟩) (ds.length + 1) c7)) := (((HR.out.2.2.2.1.drew.trans hb3).trans (Below.zero_alloc _ _)).trans hb9).setCell (p := ⟨g3, 5, none⟩) (Nat.zero_le _) _
              have HF := Lib.hid (And.intro hs11 (And.intro hb11 (And.intro hdk2 (And.intro hc9 (And.intro y5 (And.intro y6 y7))))))
              clear hs9 hs10 hs11 hb11 hb3 hb9 h3 y1 y2 y3 y4 y5 y6 y7 z5 z6 hdk2 hc9 HO HC
              go_wp2_with fail
              go_roundw
              case rel =>
                obtain ⟨gg1, gg2, gg3, gg4, gg5, gg6, gg7⟩ := HF.out
                obtain ⟨x1, x2, x3, x4, x5, x6, x7, x8, x9⟩ := HR.out
                have hln : (ds ++ [d]).length = ds.length + 1 := by simp
                refine ⟨m, ds ++ [d], q1, lb, some ⟨b7, 0, none⟩, c7, css ++ [[v0, v1, v2, v3, v4, v5, v6]], M2 * M, ?_, by omega, x1, by rw [hln]; omega, by omega, by simp [x3], ?_, ?_, gg2⟩
                · congr 1; omega
                · intro i d' cs hd hc
                  by_cases hik : i < ds.length
                  · rw [List.getElem?_append_left hik] at hd
                    rw [List.getElem?_append_left (by rw [x3]; exact hik)] at hc
                    exact (x8 i d' cs hd hc).mono (fun w h => h.right) _
                  · rw [List.getElem?_append_right (by omega)] at hd
                    rw [List.getElem?_append_right (by omega), x3] at hc
                    cases hz : i - ds.length with
                    | zero =>
                      rw [hz] at hd hc
                      simp at hd hc
                      subst hd
                      subst hc
                      exact gg3.mono (fun w h => h.left) _
                    | succ z => rw [hz] at hd; simp at hd
                · rw [hln, List.flatten_append, List.flatten_cons, List.flatten_nil, List.append_nil]
                  have hfl : (css.flatten ++ [v0, v1, v2, v3, v4, v5, v6]).length = (ds.length + 1) * 7 := by
                    have h7 : ∀ cs ∈ css, cs.length = 7 := by
                      intro cs hcs
                      obtain ⟨i, hi⟩ := List.mem_iff_getElem?.1 hcs
                      have hij := (List.getElem?_eq_some_iff.1 hi).1
                      exact (x8 i _ cs (List.getElem?_eq_getElem (by omega)) hi).len
                    rw [List.length_append, flat7 h7, x3]
                    show _ + 7 = _
                    omega
                  have gg8 := sat.shut_own (n := ds.length + 1) hfl gg4 (gg1.perm (show _ = row 59 7 b7 c7 _ * (blk g3 _ * (blk gr _ * ((M2 * M) * (blk g2 (prO [.string ⟨#[]⟩, .int .i64 0, .int .i64 0, .bool false, .slice none 0 0, .slice none 0 0, .slice none 0 0]) * RR)))) by ac_rfl))
                  exact ⟨ao, cap, gg8.perm (by ac_rfl), gg5, gg6, gg7, fun w' h => HC0.out.2.2.2.2.1 w' h.right.right.right.right⟩
              case measure =>
                have := HR.out.2.2.2.2.2.1
                simp [intOf]; omega)
    | succ m =>
      have hgt : decide (((m + 1 : Nat) : Int) > 0) = true := by rw [decide_eq_true_eq]; omega
      obtain ⟨mi, hmi⟩ : ∃ x : Int, ((m + 1 : Nat) : Int) = x := ⟨_, rfl⟩
      rw [hmi] at hgt ⊢
      have hdec : IntKind.i64.wrap (mi - 1) = mi - 1 := IntWalk.i64_in _ (by omega)
      have hI1 := rd_number wr B _ gr l6 p h8
      cases r1 : rdNumF 0 0 l6 with
      | none =>
        rw [r1] at hI1
        have hno : rdMany rdIns cnn p l5 = none := by rw [hrd]; exact joinM_no (by unfold rdIns; rw [show rdNum l6 = none from r1])
        have HNO := Lib.hid (show o = none by rw [← HO.out]; unfold rdProto; simp only [HA1.out.1, HB2.out, HB3.out, HB4.out, HB5.out, Int.toNat_natCast, hno])
        go_wp2_with fail
        refine hI1.mono ?_
        rintro e wy ⟨rfl, hy, hby⟩
        unfold cutE
        go_wp2_with fail
        refine ⟨rfl, ?_⟩
        show RpPost B R gr o w _ _
        rw [HNO.out]
        exact ⟨rfl, hy.right.right.right, hb8.trans hby⟩
      | some r =>
      obtain ⟨iop, l7⟩ := r
      have hob := rdNumF_bd l6 0 0 iop l7 r1
      rw [r1] at hI1
      have HR1 := Lib.hid (And.intro r1 (And.intro hob (And.intro hrd (And.intro hlen (And.intro hacc (And.intro hmb hmi))))))
      have HB8 := Lib.hid hb8
      clear r1 hob hrd hlen hacc h8 hb8 hmb hmi
      go_wp2_with fail
      refine hI1.mono ?_
      clear hI1
      rintro e wy ⟨rfl, hy, hby⟩
      have hy1 := hy.alloc (.cells #[.int .i64 iop, .int .i64 0, .int .i64 0] 41)
      have hby1 := (HB8.out.trans hby).trans (Below.zero_alloc wy (.cells #[.int .i64 iop, .int .i64 0, .int .i64 0] 41))
      obtain ⟨g6, hg6⟩ : ∃ g, wy.heap.size = g := ⟨_, rfl⟩
      rw [hg6] at hy1
      have HY1 := Lib.hid (And.intro hy1 hby1)
      clear hy hby hy1 hby1
      go_upto_region 9 with (fail)
      try rw [hg6]
      clear hg6
      generalize wy.alloc (.cells #[.int .i64 iop, .int .i64 0, .int .i64 0] 41) = wz at *
      have hI2 := rd_sign wz B _ gr l7 p HY1.out.1
      cases r2 : rdSign l7 with
      | none =>
        rw [r2] at hI2
        have hno : rdMany rdIns cnn p l5 = none := by rw [HR1.out.2.2.1]; exact joinM_no (by unfold rdIns; rw [show rdNum l6 = some (iop, l7) from HR1.out.1]; simp only [r2])
        have HNO := Lib.hid (show o = none by rw [← HO.out]; unfold rdProto; simp only [HA1.out.1, HB2.out, HB3.out, HB4.out, HB5.out, Int.toNat_natCast, hno])
        go_wp2_with fail
        refine hI2.mono ?_
        rintro e wy ⟨rfl, hy, hby⟩
        unfold cutE
        go_wp2_with fail
        refine ⟨rfl, ?_⟩
        show RpPost B R gr o w _ _
        rw [HNO.out]
        exact ⟨rfl, hy.right.right.right.right, HY1.out.2.trans hby⟩
      | some r =>
      obtain ⟨ia, l8⟩ := r
      have hab := rdSign_bd r2
      rw [r2] at hI2
      have HR2 := Lib.hid (And.intro r2 hab)
      clear r2 hab
      go_wp2_with fail
      refine hI2.mono ?_
      clear hI2
      rintro e wx ⟨rfl, hx, hbx⟩
      have f21 := hx.fr.left.frozen 1
      have d21 := (hx.fr.left.cell 1).trans (show _ = some (Value.int .i64 0) from rfl)
      have hx2 := hx.put 1 (.int .i64 ia) (fun w' h => H0.out.1 w' h.right.right.right)
      have hbx2 := (HY1.out.2.trans hbx).setCell (p := ⟨g6, 1, none⟩) (Nat.zero_le _) (.int .i64 ia)
      have HY2 := Lib.hid (And.intro hx2 hbx2)
      clear hx hbx hx2 hbx2
      go_upto_region 10 with (fail)
      clear f21 d21
      generalize wx.setCell ⟨g6, 1, none⟩ (.int .i64 ia) = wu at *
      have hI3 := rd_sign wu B _ gr l8 p HY2.out.1
      cases r3 : rdSign l8 with
      | none =>
        rw [r3] at hI3
        have hno : rdMany rdIns cnn p l5 = none := by rw [HR1.out.2.2.1]; exact joinM_no (by unfold rdIns; rw [show rdNum l6 = some (iop, l7) from HR1.out.1]; simp only [HR2.out.1, r3])
        have HNO := Lib.hid (show o = none by rw [← HO.out]; unfold rdProto; simp only [HA1.out.1, HB2.out, HB3.out, HB4.out, HB5.out, Int.toNat_natCast, hno])
        go_wp2_with fail
        refine hI3.mono ?_
        rintro e wy ⟨rfl, hy, hby⟩
        unfold cutE
        go_wp2_with fail
        refine ⟨rfl, ?_⟩
        show RpPost B R gr o w _ _
        rw [HNO.out]
        exact ⟨rfl, hy.right.right.right.right, HY2.out.2.trans hby⟩
      | some r =>
      obtain ⟨ib, l9⟩ := r
      have hbb3 := rdSign_bd r3
      rw [r3] at hI3
      have HR3 := Lib.hid (And.intro r3 hbb3)
      clear r3 hbb3
      go_wp2_with fail
      refine hI3.mono ?_
      clear hI3
      rintro e wx ⟨rfl, hx, hbx⟩
      have f22 := hx.fr.left.frozen 2
      have d22 := (hx.fr.left.cell 2).trans (show _ = some (Value.int .i64 0) from rfl)
      have hx2 := hx.put 2 (.int .i64 ib) (fun w' h => H0.out.1 w' h.right.right.right)
      have hbx2 := (HY2.out.2.trans hbx).setCell (p := ⟨g6, 2, none⟩) (Nat.zero_le _) (.int .i64 ib)
      have HY3 := Lib.hid (And.intro hx2 hbx2)
      clear hx hbx hx2 hbx2
      go_upto_region 11 with (fail)
      clear f22 d22
      generalize wx.setCell ⟨g6, 2, none⟩ (.int .i64 ib) = wv at *
      have c4 := (HY3.out.1.fr.right.right.left.cell 4).trans (show _ = some (Value.slice ac acc.length cc) from rfl)
      have i0c := (HY3.out.1.fr.left.cell 0).trans (show _ = some (Value.int .i64 iop) from rfl)
      have i1c := (HY3.out.1.fr.left.cell 1).trans (show _ = some (Value.int .i64 ia) from rfl)
      have i2c := (HY3.out.1.fr.left.cell 2).trans (show _ = some (Value.int .i64 ib) from rfl)
      obtain ⟨ao, cap, q1, q2, q3, q4, q5⟩ := HY3.out.1
      have q6 := q1.alloc (.cells #[.int .i64 iop, .int .i64 ia, .int .i64 ib] 41)
      have q7 : sat (wv.alloc (.cells #[.int .i64 iop, .int .i64 ia, .int .i64 ib] 41)) (own 41 3 (.slice ac acc.length cc) acc.length (codeV acc) * ((blk wv.heap.size (.cells #[.int .i64 iop, .int .i64 ia, .int .i64 ib] 41 (0, 0)) * blk g6 (.cells #[.int .i64 iop, .int .i64 ia, .int .i64 ib] 41 (0, 0))) * (blk gr (.cells #[.slice ao l9.length cap, .int .i64 p] 72 (0, 0)) * (blk g3 (prO [.string nm, .int .i64 pa, .int .i64 pf, .bool pr, .slice ac acc.length cc, .slice none 0 0, .slice none 0 0]) * (blk g2 (prO [.string ⟨#[]⟩, .int .i64 0, .int .i64 0, .bool false, .slice none 0 0, .slice none 0 0, .slice none 0 0]) * R))))) := q6.perm (by show _ = own 41 3 (.slice ac acc.length cc) acc.length (codeV acc) * ((_ * blk g6 (.cells ((#[.int .i64 iop, .int .i64 0, .int .i64 0].setIfInBounds 1 (.int .i64 ia)).setIfInBounds 2 (.int .i64 ib)) 41 (0, 0))) * _); ac_rfl)
      have hcl : CellsAt (wv.alloc (.cells #[.int .i64 iop, .int .i64 ia, .int .i64 ib] 41)) (some ⟨wv.heap.size, 0, none⟩) [.int .i64 iop, .int .i64 ia, .int .i64 ib] := by
        intro j u hj
        refine ⟨_, rfl, ?_⟩
        rw [show ((⟨wv.heap.size, 0, none⟩ : Addr).add j) = ⟨wv.heap.size, j, none⟩ by unfold Addr.add; split <;> simp_all, q6.left.cell j, ← hj]
        simp
      have HQ := Lib.hid (And.intro q7 (And.intro hcl (And.intro q2 (And.intro q3 (And.intro q4 (HY3.out.2.trans (Below.zero_alloc wv (.cells #[.int .i64 iop, .int .i64 ia, .int .i64 ib] 41))))))))
      clear q1 q2 q3 q4 q5 q6 q7 hcl
      go_wp2_with (at_builtin; refine hold ?_)
      refine held ?_
      obtain ⟨hi, hz0, hz1, hz2⟩ := HI.out
      refine wpList_append_opt rfl (.tmp 36) (.tmp 38) 34 rfl 41 i0 (.agg #[.int .i64 0, .int .i64 0, .int .i64 0]) 3 24 Try.underlying34 hi hz0 hz1 hz2 rfl (by decide) (.slice ac acc.length cc) acc.length (codeV acc) rfl _ (some ⟨wv.heap.size, 0, none⟩) 1 1 [.int .i64 iop, .int .i64 ia, .int .i64 ib] rfl ?_ HQ.out.1 rfl HQ.out.2.1 (by intro u hu; simp at hu; rcases hu with rfl | rfl | rfl <;> rfl) (by have := HR1.out.2.2.2.1; omega) (by have := HR1.out.2.2.2.1; unfold maxLen; omega)
      clear hi hz0 hz1 hz2 c4 i0c i1c i2c
      intro v10 w10 h10 hb10
      obtain ⟨ac2, cc2, rfl, hcc2⟩ := slice_val h10
      have h11 := h10.perm (show _ = blk g3 (prO [.string nm, .int .i64 pa, .int .i64 pf, .bool pr, .slice ac acc.length cc, .slice none 0 0, .slice none 0 0]) * (own 41 3 (.slice ac2 (acc.length + 1) cc2) (acc.length + 1) (codeV acc ++ [.int .i64 iop, .int .i64 ia, .int .i64 ib]) * ((blk wv.heap.size (.cells #[.int .i64 iop, .int .i64 ia, .int .i64 ib] 41 (0, 0)) * blk g6 (.cells #[.int .i64 iop, .int .i64 ia, .int .i64 ib] 41 (0, 0))) * (blk gr (.cells #[.slice ao l9.length cap, .int .i64 p] 72 (0, 0)) * (blk g2 (prO [.string ⟨#[]⟩, .int .i64 0, .int .i64 0, .bool false, .slice none 0 0, .slice none 0 0, .slice none 0 0]) * R)))) by ac_rfl)
      have f4 := h11.left.frozen 4
      have c4 := (h11.left.cell 4).trans (show _ = some (Value.slice ac acc.length cc) from rfl)
      have h12 := h11.setCell (off := 4) (.slice ac2 (acc.length + 1) cc2)
      have hb12 : Below 0 w (w10.setCell ⟨g3, 4, none⟩ (.slice ac2 (acc.length + 1) cc2)) := (HQ.out.2.2.2.2.2.trans hb10).setCell (p := ⟨g3, 4, none⟩) (Nat.zero_le _) _
      have H12 := Lib.hid (And.intro h12 hb12)
      clear h10 hb10 h11 h12 hb12 hcc2
      go_wp2_with fail
      go_roundw
      case rel =>
        have hri : rdIns p l6 = some ((iop, ia, ib), p, l9) := by unfold rdIns; rw [show rdNum l6 = some (iop, l7) from HR1.out.1]; simp only [HR2.out.1, HR3.out.1]
        refine ⟨m, acc ++ [(iop, ia, ib)], l9, ac2, cc2, ?_, by have := HR1.out.2.2.2.2.2.1; omega, HR1.out.2.2.1.trans (joinM_next hri), by have := HR1.out.2.2.2.1; have := HR1.out.2.1; have := HR2.out.2; have := HR3.out.2; simp only [List.length_append, List.length_cons, List.length_nil]; omega, ?_, ?_, H12.out.2⟩
        · have := HR1.out.2.2.2.2.2.2; congr 1; omega
        · intro y hy
          rcases List.mem_append.1 hy with h | h
          · exact HR1.out.2.2.2.2.1 y h
          · simp at h; subst h; have := HR1.out.2.1; have := HR2.out.2; have := HR3.out.2; unfold i64b; simp only []; omega
        · have hlen2 : (acc ++ [(iop, ia, ib)]).length = acc.length + 1 := by simp
          have hcv : codeV (acc ++ [(iop, ia, ib)]) = codeV acc ++ [.int .i64 iop, .int .i64 ia, .int .i64 ib] := by unfold codeV; simp [insV]
          rw [hlen2, hcv]
          refine ⟨ao, cap, ?_, HQ.out.2.2.1, HQ.out.2.2.2.1, HQ.out.2.2.2.2.1, fun w' h => H0.out.1 w' h.right.right.right⟩
          have h13 : sat _ (blk g3 (prO [.string nm, .int .i64 pa, .int .i64 pf, .bool pr, .slice ac2 (acc.length + 1) cc2, .slice none 0 0, .slice none 0 0]) * (own 41 3 (.slice ac2 (acc.length + 1) cc2) (acc.length + 1) (codeV acc ++ [.int .i64 iop, .int .i64 ia, .int .i64 ib]) * ((blk wv.heap.size (.cells #[.int .i64 iop, .int .i64 ia, .int .i64 ib] 41 (0, 0)) * blk g6 (.cells #[.int .i64 iop, .int .i64 ia, .int .i64 ib] 41 (0, 0))) * (blk gr (.cells #[.slice ao l9.length cap, .int .i64 p] 72 (0, 0)) * (blk g2 (prO [.string ⟨#[]⟩, .int .i64 0, .int .i64 0, .bool false, .slice none 0 0, .slice none 0 0, .slice none 0 0]) * R))))) := H12.out.1
          exact (h13.perm (show _ = (blk wv.heap.size _ * blk g6 _) * (blk gr _ * (own 41 3 _ _ (codeV acc ++ _) * (blk g3 _ * (blk g2 _ * R)))) by ac_rfl)).right
      case measure =>
        have := HR1.out.2.2.2.2.2.2
        simp [intOf]; omega
end Go.Proofs.Ytkjfplldfjmbaaa

/- pack.Read's deferred closure: its two contracts. -/
namespace Go.Proofs.Ytkjfplldfjmbaaa
open Go.RowKit
theorem read_catch (p q : Addr) (x y : Value) (u : TypeId) (pv : Value) (older : List PanicEntry) (w : World) (hc : w.cell? p = some x) (hz : w.frozen? p = false) (hc2 : (w.setCell p (.slice none 0 0)).cell? q = some y) (hz2 : (w.setCell p (.slice none 0 0)).frozen? q = false) :
    CallsD Try.prog 34 #[.pointer (some p), .pointer (some q)] (.panicking ({ v := .iface u pv, recovered := false } :: older)) w fun e u' w' =>
      e = .returned (.tuple #[]) ∧ u' = .panicking ({ v := .iface u pv, recovered := true } :: older) ∧ w' = (w.setCell p (.slice none 0 0)).setCell q (.int .i64 30) := by
  refine callsD_of_wpS Try.func34 rfl fun c₀ cs hu => ?_
  apply wpS_seq
  apply wpS_region
  simp [wpOpsS, go_sem, recoverD, hu, Try.ntmps34, Exit.thenS]
  apply wpS_seq
  apply wpS_region
  simp [wpOpsS, go_sem, Exit.thenS]
  refine wpS_cond (t := true) (by simp [Act.eval, Array.replicate]) ?_
  simp only [if_true]
  apply wpS_region
  simp [wpOpsS, go_sem, hc, hz, hc2, hz2, bodyPostS, results, Try.results34]
theorem read_idle (p q : Addr) (w : World) :
    CallsD Try.prog 34 #[.pointer (some p), .pointer (some q)] .returning w fun e u' w' => e = .returned (.tuple #[]) ∧ u' = .returning ∧ w' = w := by
  refine callsD_of_wpS Try.func34 rfl fun c₀ cs hu => ?_
  apply wpS_seq
  apply wpS_region
  simp [wpOpsS, go_sem, recoverD, hu, Try.ntmps34, Exit.thenS]
  apply wpS_seq
  apply wpS_region
  simp [wpOpsS, go_sem, Exit.thenS]
  refine wpS_cond (t := false) (by simp [Act.eval, Array.replicate]) ?_
  simp only [Bool.false_eq_true, if_false]
  refine wpS_of_wp (wp_skip ?_)
  cases c₀
  simp_all [bodyPostS, results, Try.results34]
end Go.Proofs.Ytkjfplldfjmbaaa
