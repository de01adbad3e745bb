/- The reference's reader of programs. -/
import Derived.Test.YtkjfplldfjmbaaaRefRdC
import Derived.Test.YtkjfplldfjmbaaaPackRd15
import Derived.Test.YtkjfplldfjmbaaaRefRtB
import Derived.Deep.CutBlock
namespace Go.Proofs.Ytkjfplldfjmbaaa
open Go.RowKit
theorem proto_end {q q2 : Int} {l l1 l2 l3 l4 l5 l6 l7 l8 l9 l10 : List Int} {nm : ByteArray} {pa pf : Int} {pr : Bool} {cn dn nn : Nat} {code : List (Int × Int × Int)} {ds : List Dm} {ns : List ByteArray} {b1 b2 b3 b4 b5 b6 b7 b8 b9 b10 : Bool}
    (s1 : StepR (rdText l) false l nm b1 l1) (s2 : StepR (rdNumF 0 0 l1) b1 l1 pa b2 l2) (s3 : StepR (rdBool l2) b2 l2 pr b3 l3) (s4 : StepR (rdNumF 0 0 l3) b3 l3 pf b4 l4) (s5 : StepR (rdNumF 0 0 l4) b4 l4 (cn : Int) b5 l5)
    (c : (b6 = false → b5 = false ∧ rdMany rdIns cn q l5 = some (code, q, l6)) ∧ (b6 = true → b5 = true ∨ rdMany rdIns cn q l5 = none)) (s7 : StepR (rdNumF 0 0 l6) b6 l6 (dn : Int) b7 l7)
    (d : (b8 = false → b7 = false ∧ rdMany (rdConst 100) dn q l7 = some (ds, q2, l8)) ∧ (b8 = true → b7 = true ∨ rdMany (rdConst 100) dn q l7 = none)) (s9 : StepR (rdNumF 0 0 l8) b8 l8 (nn : Int) b9 l9)
    (e : (b10 = false → b9 = false ∧ rdMany rdName nn q2 l9 = some (ns, q2, l10)) ∧ (b10 = true → b9 = true ∨ rdMany rdName nn q2 l9 = none)) :
    (b10 = false → rdProto q l = some (⟨nm, pa, pf, pr, code, ds, ns⟩, q2, l10)) ∧ (b10 = true → rdProto q l = none) := by
  constructor
  · intro hb
    obtain ⟨e1, e2⟩ := e.1 hb
    obtain ⟨e3, e4⟩ := s9.good e1
    obtain ⟨e5, e6⟩ := d.1 e3
    obtain ⟨e7, e8⟩ := s7.good e5
    obtain ⟨e9, e10⟩ := c.1 e7
    obtain ⟨f1, f2⟩ := s5.good e9
    obtain ⟨f3, f4⟩ := s4.good f1
    obtain ⟨f5, f6⟩ := s3.good f3
    obtain ⟨f7, f8⟩ := s2.good f5
    obtain ⟨_, f9⟩ := s1.good f7
    unfold rdProto
    rw [f9]
    simp only []
    rw [show rdNum l1 = _ from f8]
    simp only []
    rw [f6]
    simp only []
    rw [show rdNum l3 = _ from f4]
    simp only []
    rw [show rdNum l4 = _ from f2]
    simp only [Int.toNat_natCast]
    rw [e10]
    simp only []
    rw [show rdNum l6 = _ from e8]
    simp only [Int.toNat_natCast]
    rw [e6]
    simp only []
    rw [show rdNum l8 = _ from e4]
    simp only [Int.toNat_natCast]
    rw [e2]
  · intro hb
    cases hr : rdProto q l with
    | none => rfl
    | some r =>
      exfalso
      unfold rdProto at hr
      cases a1 : rdText l with
      | none => rw [a1] at hr; cases hr
      | some r1 =>
      obtain ⟨x1, t1⟩ := r1
      rw [a1] at hr
      have g1 := s1.2.1 rfl
      rw [a1] at g1
      obtain ⟨g1, rfl, rfl⟩ := g1
      simp only [] at hr
      cases a2 : rdNum l1 with
      | none => rw [a2] at hr; cases hr
      | some r2 =>
      obtain ⟨x2, t2⟩ := r2
      rw [a2] at hr
      have g2 := s2.2.1 g1
      rw [show rdNumF 0 0 l1 = _ from a2] at g2
      obtain ⟨g2, rfl, rfl⟩ := g2
      simp only [] at hr
      cases a3 : rdBool l2 with
      | none => rw [a3] at hr; cases hr
      | some r3 =>
      obtain ⟨x3, t3⟩ := r3
      rw [a3] at hr
      have g3 := s3.2.1 g2
      rw [a3] at g3
      obtain ⟨g3, rfl, rfl⟩ := g3
      simp only [] at hr
      cases a4 : rdNum l3 with
      | none => rw [a4] at hr; cases hr
      | some r4 =>
      obtain ⟨x4, t4⟩ := r4
      rw [a4] at hr
      have g4 := s4.2.1 g3
      rw [show rdNumF 0 0 l3 = _ from a4] at g4
      obtain ⟨g4, rfl, rfl⟩ := g4
      simp only [] at hr
      cases a5 : rdNum l4 with
      | none => rw [a5] at hr; cases hr
      | some r5 =>
      obtain ⟨x5, t5⟩ := r5
      rw [a5] at hr
      have g5 := s5.2.1 g4
      rw [show rdNumF 0 0 l4 = _ from a5] at g5
      obtain ⟨g5, rfl, rfl⟩ := g5
      simp only [Int.toNat_natCast] at hr
      cases a6 : rdMany rdIns cn q l5 with
      | none => rw [a6] at hr; cases hr
      | some r6 =>
      obtain ⟨x6, p6, t6⟩ := r6
      rw [a6] at hr
      cases h6 : b6 with
      | true =>
        rcases c.2 h6 with h | h
        · rw [g5] at h; cases h
        · rw [a6] at h; cases h
      | false =>
      obtain ⟨_, k6⟩ := c.1 h6
      rw [a6] at k6
      simp only [Option.some.injEq, Prod.mk.injEq] at k6
      obtain ⟨rfl, rfl, rfl⟩ := k6
      simp only [] at hr
      cases a7 : rdNum t6 with
      | none => rw [a7] at hr; cases hr
      | some r7 =>
      obtain ⟨x7, t7⟩ := r7
      rw [a7] at hr
      have g7 := s7.2.1 h6
      rw [show rdNumF 0 0 t6 = _ from a7] at g7
      obtain ⟨g7, rfl, rfl⟩ := g7
      simp only [Int.toNat_natCast] at hr
      cases a8 : rdMany (rdConst 100) dn p6 l7 with
      | none => rw [a8] at hr; cases hr
      | some r8 =>
      obtain ⟨x8, p8, t8⟩ := r8
      rw [a8] at hr
      cases h8 : b8 with
      | true =>
        rcases d.2 h8 with h | h
        · rw [g7] at h; cases h
        · rw [a8] at h; cases h
      | false =>
      obtain ⟨_, k8⟩ := d.1 h8
      rw [a8] at k8
      simp only [Option.some.injEq, Prod.mk.injEq] at k8
      obtain ⟨rfl, rfl, rfl⟩ := k8
      simp only [] at hr
      cases a9 : rdNum t8 with
      | none => rw [a9] at hr; cases hr
      | some r9 =>
      obtain ⟨x9, t9⟩ := r9
      rw [a9] at hr
      have g9 := s9.2.1 h8
      rw [show rdNumF 0 0 t8 = _ from a9] at g9
      obtain ⟨g9, rfl, rfl⟩ := g9
      simp only [Int.toNat_natCast] at hr
      rcases e.2 hb with h | h
      · rw [g9] at h; cases h
      · rw [h] at hr; cases hr
def RroRel (W : World) (R : HP) (gr : Nat) (bad0 : Bool) (N : Nat) (l2 : List Int) (sv i : Value) (wr : World) : Prop :=
  ∃ (j : Nat) (ps : List Pr) (q : Int) (bad : Bool) (l : List Int) (lf : Int) (so : Option Addr) (sc : Nat) (css : List (List Value)) (M : HP), i = .int .i64 j ∧ sv = .slice so j sc ∧ css.length = j ∧ (∀ cs ∈ css, cs.length = 7) ∧ l.length ≤ l2.length ∧ (bad = false → prSizes ps + l.length ≤ 1048576) ∧ j ≤ 1048577 ∧
    RfAt wr R (own 38 7 (.slice so j sc) j css.flatten * (M * R)) gr bad l lf ∧ Below 0 W wr ∧
    (bad = false → bad0 = false ∧ j ≤ N ∧ lf = 20000 - q ∧ (0 ≤ q ∧ q ≤ 20000) ∧ ps.length = j ∧ PrOs ps css M ∧ rdMany rdProto N 0 l2 = joinM ps (rdMany rdProto (N - j) q l)) ∧
    (bad = true → bad0 = true ∨ rdMany rdProto N 0 l2 = none)
def RcoRel (W : World) (B F : HP) (gr g9 : Nat) (nm : ByteArray) (pa pf : Int) (pr : Bool) (lf p : Int) (bad0 : Bool) (N : Nat) (l5 : List Int) (i : Value) (wr : World) : Prop :=
  ∃ (j : Nat) (acc : List (Int × Int × Int)) (bad : Bool) (l : List Int) (ac : Option Addr) (cc : Nat), i = .int .i64 j ∧ acc.length = j ∧ (∀ t ∈ acc, i64b t.1 ∧ i64b t.2.1 ∧ i64b t.2.2) ∧ l.length ≤ l5.length ∧ (bad = false → j + l.length ≤ 1048576) ∧ j ≤ 1048577 ∧
    RfAt wr B (own 41 3 (.slice ac j cc) j (codeV acc) * (blk g9 (prO [.string nm, .int .i64 pa, .int .i64 pf, .bool pr, .slice ac j cc, .slice none 0 0, .slice none 0 0]) * F)) gr bad l lf ∧ Below 0 W wr ∧
    (bad = false → bad0 = false ∧ j ≤ N ∧ rdMany rdIns N p l5 = joinM acc (rdMany rdIns (N - j) p l)) ∧ (bad = true → bad0 = true ∨ rdMany rdIns N p l5 = none)
def RdoRel (W : World) (B F : HP) (gr g9 : Nat) (nm : ByteArray) (pa pf : Int) (pr : Bool) (cv : Value) (p : Int) (bad0 : Bool) (N : Nat) (l5 : List Int) (i : Value) (wr : World) : Prop :=
  ∃ (j : Nat) (ds : List Dm) (q : Int) (bad : Bool) (l : List Int) (lf : Int) (ai : Option Addr) (ci : Nat) (css : List (List Value)) (M : HP), i = .int .i64 j ∧ css.length = j ∧ (∀ cs ∈ css, cs.length = 7) ∧ l.length ≤ l5.length ∧ (bad = false → j + l.length ≤ 1048576) ∧ j ≤ 1048577 ∧
    RfAt wr B (own 59 7 (.slice ai j ci) j css.flatten * (M * (blk g9 (prO [.string nm, .int .i64 pa, .int .i64 pf, .bool pr, cv, .slice ai j ci, .slice none 0 0]) * F))) gr bad l lf ∧ Below 0 W wr ∧
    (bad = false → bad0 = false ∧ j ≤ N ∧ lf = 20000 - q ∧ (0 ≤ q ∧ q ≤ 20000) ∧ ds.length = j ∧ (∀ (i : Nat) d cs, ds[i]? = some d → css[i]? = some cs → DK M d cs) ∧ rdMany (rdConst 100) N p l5 = joinM ds (rdMany (rdConst 100) (N - j) q l)) ∧
    (bad = true → bad0 = true ∨ rdMany (rdConst 100) N p l5 = none)
def RnoRel (W : World) (B F : HP) (gr g9 : Nat) (nm : ByteArray) (pa pf : Int) (pr : Bool) (cv dv : Value) (lf p : Int) (bad0 : Bool) (N : Nat) (l5 : List Int) (i : Value) (wr : World) : Prop :=
  ∃ (j : Nat) (acc : List ByteArray) (bad : Bool) (l : List Int) (an : Option Addr) (cn : Nat), i = .int .i64 j ∧ acc.length = j ∧ l.length ≤ l5.length ∧ (bad = false → j + l.length ≤ 1048576) ∧ j ≤ 1048577 ∧
    RfAt wr B (own 9 1 (.slice an j cn) j (namesV acc) * (blk g9 (prO [.string nm, .int .i64 pa, .int .i64 pf, .bool pr, cv, dv, .slice an j cn]) * F)) gr bad l lf ∧ Below 0 W wr ∧
    (bad = false → bad0 = false ∧ j ≤ N ∧ rdMany rdName N p l5 = joinM acc (rdMany rdName (N - j) p l)) ∧ (bad = true → bad0 = true ∨ rdMany rdName N p l5 = none)
def RcoEnd (W : World) (B F : HP) (gr g9 : Nat) (nm : ByteArray) (pa pf : Int) (pr : Bool) (lf p : Int) (bad0 : Bool) (N : Nat) (l5 : List Int) (wr : World) : Prop :=
  ∃ (j : Nat) (acc : List (Int × Int × Int)) (bad : Bool) (l : List Int) (ac : Option Addr) (cc : Nat), acc.length = j ∧ (∀ t ∈ acc, i64b t.1 ∧ i64b t.2.1 ∧ i64b t.2.2) ∧ l.length ≤ l5.length ∧ j ≤ cc ∧ j ≤ 1048577 ∧
    RfAt wr B (own 41 3 (.slice ac j cc) j (codeV acc) * (blk g9 (prO [.string nm, .int .i64 pa, .int .i64 pf, .bool pr, .slice ac j cc, .slice none 0 0, .slice none 0 0]) * F)) gr bad l lf ∧ Below 0 W wr ∧
    ((bad = false → bad0 = false ∧ rdMany rdIns N p l5 = some (acc, p, l)) ∧ (bad = true → bad0 = true ∨ rdMany rdIns N p l5 = none))
def RdoEnd (W : World) (B F : HP) (gr g9 : Nat) (nm : ByteArray) (pa pf : Int) (pr : Bool) (cv : Value) (p : Int) (bad0 : Bool) (N : Nat) (l5 : List Int) (wr : World) : Prop :=
  ∃ (j : Nat) (ds : List Dm) (q : Int) (bad : Bool) (l : List Int) (lf : Int) (ai : Option Addr) (ci : Nat) (css : List (List Value)) (M : HP), css.length = j ∧ (∀ cs ∈ css, cs.length = 7) ∧ l.length ≤ l5.length ∧ j ≤ ci ∧ j ≤ 1048577 ∧
    RfAt wr B (own 59 7 (.slice ai j ci) j css.flatten * (M * (blk g9 (prO [.string nm, .int .i64 pa, .int .i64 pf, .bool pr, cv, .slice ai j ci, .slice none 0 0]) * F))) gr bad l lf ∧ Below 0 W wr ∧
    ((bad = false → bad0 = false ∧ rdMany (rdConst 100) N p l5 = some (ds, q, l)) ∧ (bad = true → bad0 = true ∨ rdMany (rdConst 100) N p l5 = none)) ∧
    (bad = false → lf = 20000 - q ∧ (0 ≤ q ∧ q ≤ 20000) ∧ ds.length = j ∧ DKs (own 59 7 (.slice ai j ci) j css.flatten * M) ds ai 0)
def RnoEnd (W : World) (B F : HP) (gr g9 : Nat) (nm : ByteArray) (pa pf : Int) (pr : Bool) (cv dv : Value) (lf p : Int) (bad0 : Bool) (N : Nat) (l5 : List Int) (wr : World) : Prop :=
  ∃ (j : Nat) (acc : List ByteArray) (bad : Bool) (l : List Int) (an : Option Addr) (cn : Nat), acc.length = j ∧ l.length ≤ l5.length ∧ j ≤ cn ∧ j ≤ 1048577 ∧
    RfAt wr B (own 9 1 (.slice an j cn) j (namesV acc) * (blk g9 (prO [.string nm, .int .i64 pa, .int .i64 pf, .bool pr, cv, dv, .slice an j cn]) * F)) gr bad l lf ∧ Below 0 W wr ∧
    ((bad = false → bad0 = false ∧ rdMany rdName N p l5 = some (acc, p, l)) ∧ (bad = true → bad0 = true ∨ rdMany rdName N p l5 = none))
theorem ins_end {p : Int} {l m1 m2 m3 : List Int} {x a b : Int} {b1 b2 b3 : Bool} (s1 : StepR (rdNumF 0 0 l) false l x b1 m1) (s2 : StepR (rdSign m1) b1 m1 a b2 m2) (s3 : StepR (rdSign m2) b2 m2 b b3 m3) :
    (b3 = false → rdIns p l = some ((x, a, b), p, m3) ∧ m3.length < l.length) ∧ (b3 = true → rdIns p l = none) := by
  constructor
  · intro hb
    obtain ⟨e1, e2⟩ := s3.good hb
    obtain ⟨e3, e4⟩ := s2.good e1
    obtain ⟨_, e6⟩ := s1.good e3
    have h1 := rdNumF_bd l 0 0 x m1 e6
    have h2 := s2.2.2
    have h3 := s3.2.2
    refine ⟨?_, by omega⟩
    unfold rdIns
    rw [show rdNum l = _ from e6]
    simp only []
    rw [e4]
    simp only []
    rw [e2]
  · intro hb
    cases hr : rdIns p l with
    | none => rfl
    | some r =>
      exfalso
      unfold rdIns at hr
      cases a1 : rdNum l with
      | none => rw [a1] at hr; cases hr
      | some r1 =>
      obtain ⟨x1, t1⟩ := r1
      rw [a1] at hr
      have g1 := s1.2.1 rfl
      rw [show rdNumF 0 0 l = _ from a1] at g1
      obtain ⟨g1, rfl, rfl⟩ := g1
      simp only [] at hr
      cases a2 : rdSign m1 with
      | none => rw [a2] at hr; cases hr
      | some r2 =>
      obtain ⟨x2, t2⟩ := r2
      rw [a2] at hr
      have g2 := s2.2.1 g1
      rw [a2] at g2
      obtain ⟨g2, rfl, rfl⟩ := g2
      simp only [] at hr
      rcases s3.ofBad hb with h | h
      · rw [g2] at h; cases h
      · rw [h] at hr; cases hr
theorem name_end {p : Int} {l m1 m2 : List Int} {y : Nat} {s : ByteArray} {b1 b2 : Bool} (s1 : StepR (rdNumF 0 0 l) false l (y : Int) b1 m1) (s2 : StepR (takeP m1 y) b1 m1 s b2 m2) :
    (b2 = false → rdName p l = some (s, p, m2) ∧ m2.length < l.length) ∧ (b2 = true → rdName p l = none) := by
  have h3 := s1.bind (f := fun a t => takeP t a.toNat) (by rw [Int.toNat_natCast]; exact s2)
  rw [show ((rdNumF 0 0 l).bind fun r => takeP r.2 r.1.toNat) = rdText l from (rdText_bind l).symm] at h3
  constructor
  · intro hb
    obtain ⟨_, e2⟩ := h3.good hb
    refine ⟨?_, rdText_len e2⟩
    unfold rdName
    rw [e2]
  · intro hb
    rcases h3.ofBad hb with h | h
    · cases h
    · unfold rdName; rw [h]
theorem addz_j {b j : Nat} : (⟨b, 0, none⟩ : Addr).add j = ⟨b, j, none⟩ := by unfold Addr.add; split <;> simp_all
theorem magic4 {l : List Int} {x0 x1 x2 x3 : Int} {t : List Int} (hl : l = x0 :: x1 :: x2 :: x3 :: t) (hu : Bytes l) : takeP l 4 = some (strOfNums [x0, x1, x2, x3], t) ∧ (strOfNums [x0, x1, x2, x3] = magicS ↔ x0 = 84 ∧ x1 = 65 ∧ x2 = 78 ∧ x3 = 68) := by
  subst hl
  refine ⟨by unfold takeP; rw [if_pos (by simp)]; rfl, fun h => ?_, ?_⟩
  · have h2 := strOf_inj (l := [x0, x1, x2, x3]) (m := [84, 65, 78, 68]) (fun x hx => hu x (by simp at hx ⊢; omega)) (fun x hx => by simp at hx; omega) (by rw [h]; rfl)
    simp at h2
    exact h2
  · rintro ⟨rfl, rfl, rfl, rfl⟩
    rfl
set_option maxRecDepth 100000 in
set_option maxHeartbeats 16000000 in
theorem ref_Read (w : World) (R : HP) (ao : Option Addr) (cap : Nat) (l : List Int) (hs : sat w R) (hx : ∀ w', sat w' R → CellsAt w' ao (l.map bv)) (hu : Bytes l) (hlc : l.length ≤ cap) (hl : l.length ≤ 1048576) :
    Calls Try.prog 17 #[.slice ao l.length cap] w (ReadPost R (rdRead l) w) := by
  have h1 := hs.alloc (.cells #[.slice ao l.length cap, .bool false, .int .i64 20000] 80)
  have hb1 := Below.zero_alloc w (.cells #[.slice ao l.length cap, .bool false, .int .i64 20000] 80)
  obtain ⟨gr, hgr⟩ : ∃ g, w.heap.size = g := ⟨_, rfl⟩
  rw [hgr] at h1
  have hR : RfAt (w.alloc (.cells #[.slice ao l.length cap, .bool false, .int .i64 20000] 80)) R R gr false l 20000 := ⟨ao, cap, h1, hlc, hx, hu, fun w' h => h⟩
  have hT := rf_take _ R R gr false l 20000 4 4 rfl hR
  obtain ⟨oo, hoo⟩ : ∃ oo, rdRead l = oo := ⟨_, rfl⟩
  rw [hoo]
  have HOO := Lib.hid hoo
  have H0 := Lib.hid (And.intro hb1 (And.intro hu hl))
  clear h1 hb1 hs hx hu hlc hl hR hoo
  go_enter Try.func17, Try.ntmps17
  go_wp2_with fail
  refine hT.mono ?_
  clear hT
  intro e w1 hP
  unfold RtkPost at hP
  by_cases hc : (false = true) ∨ l.length < 4
  · rw [if_pos hc] at hP
    obtain ⟨rfl, h1, hb1⟩ := hP
    have hno : oo = none := by
      rw [← HOO.out]
      have : l.length < 4 := by
        rcases hc with h | h
        · cases h
        · exact h
      unfold rdRead takeP
      rw [if_neg (by omega)]
    have c1 := h1.bads.1
    have H1 := Lib.hid (And.intro h1.fr (And.intro (H0.out.1.trans hb1) hno))
    clear h1 hb1 hno hc
    go_wp2_with fail
    go_ret2
    rw [H1.out.2.2]
    exact ⟨rfl, H1.out.1, H1.out.2.1⟩
  · rw [if_neg hc] at hP
    obtain ⟨a4, cap4, rfl, hcx, h1, hb1⟩ := hP
    have hu := H0.out.2.1
    obtain ⟨x0, x1, x2, x3, t, hlt⟩ : ∃ x0 x1 x2 x3 t, l = x0 :: x1 :: x2 :: x3 :: t := by
      match l, hc with
      | [], h => exact absurd (.inr (by decide)) h
      | [_], h => exact absurd (.inr (by simp)) h
      | [_, _], h => exact absurd (.inr (by simp)) h
      | [_, _, _], h => exact absurd (.inr (by simp)) h
      | a :: b :: c :: d :: t, _ => exact ⟨a, b, c, d, t, rfl⟩
    obtain ⟨hm1, hm2⟩ := magic4 hlt hu
    have hcc := hcx w1 h1.fr
    have ht4 : l.take 4 = [x0, x1, x2, x3] := by rw [hlt]; rfl
    have hd4 : l.drop 4 = t := by rw [hlt]; rfl
    rw [ht4] at hcc
    rw [hd4] at h1
    obtain ⟨a, rfl, hca⟩ := hcc 0 (bv x0) rfl
    rw [show a.add 0 = a by simp [Addr.add]] at hca
    obtain ⟨ab, ai, rfl⟩ : ∃ b o, a = ⟨b, o, none⟩ := ⟨_, _, dm_addr hca⟩
    have k0 : w1.cell? ⟨ab, ai, none⟩ = some (.int .u8 x0) := hca
    have k1 : w1.cell? ⟨ab, ai + 1, none⟩ = some (.int .u8 x1) := by
      obtain ⟨a', e1, e2⟩ := hcc 1 (bv x1) rfl
      cases e1
      rw [dm_add] at e2
      exact e2
    have k2 : w1.cell? ⟨ab, ai + 2, none⟩ = some (.int .u8 x2) := by
      obtain ⟨a', e1, e2⟩ := hcc 2 (bv x2) rfl
      cases e1
      rw [dm_add] at e2
      exact e2
    have k3 : w1.cell? ⟨ab, ai + 3, none⟩ = some (.int .u8 x3) := by
      obtain ⟨a', e1, e2⟩ := hcc 3 (bv x3) rfl
      cases e1
      rw [dm_add] at e2
      exact e2
    have c1 := h1.bads.1
    have hno : ¬ (x0 = 84 ∧ x1 = 65 ∧ x2 = 78 ∧ x3 = 68) → oo = none := by
      intro h
      rw [← HOO.out]
      unfold rdRead
      rw [hm1]
      simp only []
      rw [if_neg (fun h2 => h (hm2.1 h2))]
    have hye : (x0 = 84 ∧ x1 = 65 ∧ x2 = 78 ∧ x3 = 68) → takeP l 4 = some (magicS, t) := fun h => by rw [hm1, hm2.2 h]
    have htl : t.length + 4 = l.length := by rw [hlt]; simp
    have H1 := Lib.hid (And.intro h1 (And.intro (H0.out.1.trans hb1) (And.intro hno (And.intro hye htl))))
    clear h1 hb1 hno hye hcx hcc hm1 hm2 hca ht4 hd4 hu hc hlt htl
    by_cases q0 : x0 = 84
    case neg =>
      have e0 : (x0 == 84) = false := by rw [beq_eq_false_iff_ne]; exact q0
      have e0b : (x0 != 84) = true := bne_iff_ne.2 q0
      have H2 := Lib.hid (H1.out.2.2.1 (by rintro ⟨u0, u1, u2, u3⟩; exact q0 u0))
      clear q0
      go_wp2_with fail
      go_ret2
      rw [H2.out]
      exact ⟨rfl, H1.out.1.fr, H1.out.2.1⟩
    subst q0
    by_cases q1 : x1 = 65
    case neg =>
      have e0 : (x1 == 65) = false := by rw [beq_eq_false_iff_ne]; exact q1
      have e0b : (x1 != 65) = true := bne_iff_ne.2 q1
      have H2 := Lib.hid (H1.out.2.2.1 (by rintro ⟨u0, u1, u2, u3⟩; exact q1 u1))
      clear q1
      go_wp2_with fail
      go_ret2
      rw [H2.out]
      exact ⟨rfl, H1.out.1.fr, H1.out.2.1⟩
    subst q1
    by_cases q2 : x2 = 78
    case neg =>
      have e0 : (x2 == 78) = false := by rw [beq_eq_false_iff_ne]; exact q2
      have e0b : (x2 != 78) = true := bne_iff_ne.2 q2
      have H2 := Lib.hid (H1.out.2.2.1 (by rintro ⟨u0, u1, u2, u3⟩; exact q2 u2))
      clear q2
      go_wp2_with fail
      go_ret2
      rw [H2.out]
      exact ⟨rfl, H1.out.1.fr, H1.out.2.1⟩
    subst q2
    by_cases q3 : x3 = 68
    case neg =>
      have e0 : (x3 == 68) = false := by rw [beq_eq_false_iff_ne]; exact q3
      have e0b : (x3 != 68) = true := bne_iff_ne.2 q3
      have H2 := Lib.hid (H1.out.2.2.1 (by rintro ⟨u0, u1, u2, u3⟩; exact q3 u3))
      clear q3
      go_wp2_with fail
      go_ret2
      rw [H2.out]
      exact ⟨rfl, H1.out.1.fr, H1.out.2.1⟩
    subst q3
    have hye := H1.out.2.2.2.1 ⟨rfl, rfl, rfl, rfl⟩
    go_upto_region 6 with (fail)
    clear k0 k1 k2 k3 c1
    have HYE := Lib.hid hye
    clear hye
    have hN := rf_num w1 R R gr false t 20000 H1.out.1
    go_wp2_with fail
    refine hN.mono ?_
    clear hN
    rintro e w2 ⟨y, bad0, l2, rfl, hyb, hst, h2, hb2⟩
    obtain ⟨N, rfl⟩ : ∃ n : Nat, y = n := ⟨y.toNat, by omega⟩
    have H2 := Lib.hid (And.intro h2 (And.intro (H1.out.2.1.trans hb2) (And.intro hst hyb.2)))
    clear h2 hb2 hst hyb
    obtain ⟨i0, hi, hz0, hz1, hz2⟩ := info_parts info_pr
    have HI := Lib.hid (And.intro hi (And.intro hz0 (And.intro hz1 hz2)))
    clear hi hz0 hz1 hz2
    obtain ⟨i1, ji, jz0, jz1, jz2⟩ := info_parts info_ins
    have JI := Lib.hid (And.intro ji (And.intro jz0 (And.intro jz1 jz2)))
    clear ji jz0 jz1 jz2
    obtain ⟨i2, ki, kz0, kz1, kz2⟩ := info_parts info_txt
    have KI := Lib.hid (And.intro ki (And.intro kz0 (And.intro kz1 kz2)))
    clear ki kz0 kz1 kz2
    obtain ⟨i3, li, lz0, lz1, lz2⟩ := info_parts info_dm
    have LI := Lib.hid (And.intro li (And.intro lz0 (And.intro lz1 lz2)))
    clear li lz0 lz1 lz2
    have HLL := Lib.hid (show l2.length + 4 ≤ 1048576 by have := H2.out.2.2.1.2.2; have := H0.out.2.2; have := H1.out.2.2.2.2; omega)
    go_wp2_with fail
    go_loopw [6, 8] (RroRel w R gr bad0 N l2) (fun _ i _ => N - (intOf i).toNat)
    case atStart =>
      refine ⟨0, [], 0, bad0, l2, 20000, none, 0, [], emp, rfl, rfl, rfl, fun cs h => by simp at h, Nat.le_refl _, fun _ => by have := HLL.out; show 0 + _ ≤ _; omega, by decide, ?_, H2.out.2.1, fun hb => ⟨hb, Nat.zero_le _, rfl, by decide, rfl, rfl, ?_⟩, fun hb => .inl hb⟩
      · obtain ⟨ao, cap, q1, q2, q3, q4, q5⟩ := H2.out.1
        exact ⟨ao, cap, (q1.nil_own (e := 38) (sz := 7)).perm (by rw [HP.emp_mul]; simp only [List.flatten_nil]; ac_rfl), q2, q3, q4, fun w' h => h.right.right⟩
      · rw [Nat.sub_zero]
        cases rdMany rdProto N 0 l2 with
        | none => rfl
        | some r => rfl
    case round =>
      obtain ⟨j, ps, q, bad, l4, lf, so, sc, css, M, rfl, rfl, hcl, hc7, hll, hlen, hj5, h8, hb8, hgd, hbd⟩ := hrel
      have hN63 : (N : Int) ≤ 8796093022208 := H2.out.2.2.2
      by_cases hjN : j < N
      case neg =>
        have e0 : decide (j < N) = false := by rw [decide_eq_false_iff_not]; exact hjN
        have e0' : decide ((j : Int) < (N : Int)) = false := by rw [decide_eq_false_iff_not]; omega
        cases hbb : bad with
        | true =>
          rw [hbb] at h8
          have hbad1 := hbb
          clear hbb
          subst hbad1
          have hdead : bad0 = true ∨ rdMany rdProto N 0 l2 = none := hbd (by trivial)
          have hno : oo = none := by
            rw [← HOO.out]
            rcases hdead with h | h
            · unfold rdRead
              rw [HYE.out]
              simp only [if_true]
              rcases H2.out.2.2.1.ofBad h with h2 | h2
              · cases h2
              · rw [show rdNum t = none from h2]
            · cases hn : rdNumF 0 0 t with
              | none =>
                unfold rdRead
                rw [HYE.out]
                simp only [if_true]
                rw [show rdNum t = none from hn]
              | some r =>
                obtain ⟨x, t'⟩ := r
                have h3 := H2.out.2.2.1.2.1 rfl
                rw [hn] at h3
                obtain ⟨_, rfl, rfl⟩ := h3
                rw [rdRead_end HYE.out hn, Int.toNat_natCast, h]
                rfl
          have c1 := h8.bads.1
          have H8 := Lib.hid (And.intro h8 (And.intro hb8 hno))
          clear h8 hb8 hno hdead hbd hgd hlen hll hcl hc7 hj5 hjN
          go_wp2_with fail
          go_ret2
          rw [H8.out.2.2]
          exact ⟨rfl, H8.out.1.fr.right.right, H8.out.2.1⟩
        | false =>
          rw [hbb] at h8
          have hbad1 := hbb
          clear hbb
          subst hbad1
          obtain ⟨q1, q2, q3, q4, q5, q6, q7⟩ := hgd (by trivial)
          rw [show N - j = 0 by omega] at q7
          have hre : oo = if l4 = [] ∧ (okPs ps 0).isSome = true then some ps else none := by
            rw [← HOO.out]
            obtain ⟨_, hn⟩ := H2.out.2.2.1.good q1
            rw [rdRead_end HYE.out hn, Int.toNat_natCast, q7]
            show endO (some (ps ++ [], q, l4)) = _
            rw [List.append_nil]
            rfl
          have hsc : j ≤ sc := by
            obtain ⟨ao, cap, q1, _⟩ := h8
            obtain ⟨_, _, e1, e2⟩ := slice_val q1.right
            cases e1
            exact e2
          have c1 := h8.bads.1
          obtain ⟨ao', cap', s1, _, _, _, _⟩ := h8
          have hd := q6.ks (R := R) s1.right
          have c0 := (s1.left.cell 0).trans (show _ = some (Value.slice ao' l4.length cap') from rfl)
          have hd2 : PrKs (blk gr (.cells #[.slice ao' l4.length cap', .bool false, .int .i64 lf] 80 (0, 0)) * (own 38 7 (.slice so j sc) j css.flatten * (M * R))) ps so := hd.mono (fun w' h => h.right)
          obtain ⟨L4, hL4⟩ : ∃ x, l4.length = x := ⟨_, rfl⟩
          rw [hL4] at s1 hd2 c0
          have HF := Lib.hid (And.intro hre (And.intro hsc (And.intro q6 (And.intro q5 (And.intro hb8 (And.intro hL4 (And.intro hd2 s1)))))))
          have hsz : j ≤ 1048576 ∧ ∀ p ∈ ps, p.code.length ≤ 1048576 ∧ Dm.sizes p.consts ≤ 1048576 := by
            have hlen' := hlen (by trivial)
            refine ⟨by have := prSizes_len ps; omega, fun p hp => ?_⟩
            obtain ⟨i, hi⟩ := List.mem_iff_getElem?.1 hp
            have h1 := prSizes_take hi
            unfold Pr.size at h1
            omega
          by_cases hnil : L4 = 0
          case neg =>
            have e4 : decide (0 < L4) = true := by rw [decide_eq_true_eq]; omega
            have e4' : decide ((L4 : Int) > 0) = true := by rw [decide_eq_true_eq]; omega
            have HNO := Lib.hid (show oo = none by rw [hre, if_neg]; rintro ⟨h, _⟩; apply hnil; rw [← hL4, h]; rfl)
            clear hre hsc q1 q2 q3 q4 q5 q6 q7 hd hd2 hb8 hL4 hnil hlen hgd hbd hll hcl hc7 hj5 hjN s1 hsz
            go_wp2_with fail
            go_ret2
            rw [HNO.out]
            exact ⟨rfl, HF.out.2.2.2.2.2.2.2.right.right.right, HF.out.2.2.2.2.1⟩
          subst hnil
          have hRt := refp_Right ps j q5 hsz wr _ so sc s1 hd2
          have hln : l4 = [] := List.eq_nil_of_length_eq_zero hL4
          cases hok : (okPs ps 0).isSome with
          | false =>
            rw [hok] at hRt
            have HNO := Lib.hid (show oo = none by rw [hre, if_neg]; rintro ⟨_, h⟩; rw [hok] at h; cases h)
            clear hre hsc q1 q2 q3 q4 q5 q6 q7 hd hd2 hb8 hL4 hlen hgd hbd hll hcl hc7 hj5 hjN s1 hsz hok hln
            go_wp2_with fail
            refine hRt.mono ?_
            clear hRt
            rintro e w9 ⟨rfl, h9, hb9⟩
            clear c0 c1
            have H9 := Lib.hid (And.intro h9 (HF.out.2.2.2.2.1.trans hb9))
            clear h9 hb9
            go_wp2_with fail
            go_ret2
            rw [HNO.out]
            exact ⟨rfl, H9.out.1.right.right.right, H9.out.2⟩
          | true =>
            rw [hok] at hRt
            have HYS := Lib.hid (show oo = some ps by rw [hre, if_pos ⟨hln, hok⟩])
            clear hre hsc q1 q2 q3 q4 q5 q6 q7 hd hd2 hb8 hL4 hlen hgd hbd hll hcl hc7 hj5 hjN s1 hsz hok hln
            go_wp2_with fail
            refine hRt.mono ?_
            clear hRt
            rintro e w9 ⟨rfl, h9, hb9⟩
            clear c0 c1
            have H9 := Lib.hid (And.intro h9 (HF.out.2.2.2.2.1.trans hb9))
            clear h9 hb9
            go_wp2_with fail
            go_ret2
            rw [HYS.out]
            obtain ⟨f1, f2, f3, f4, f5, f6, f7, f8⟩ := HF.out
            refine ⟨so, sc, css, M, by rw [f4]; rfl, by rw [f4]; exact f2, f3, ?_, H9.out.2⟩
            rw [f4]
            exact H9.out.1.right
      have e0 : decide (j < N) = true := by rw [decide_eq_true_eq]; exact hjN
      have e0' : decide ((j : Int) < (N : Int)) = true := by rw [decide_eq_true_eq]; omega
      cases hbb : bad with
      | true =>
        rw [hbb] at h8
        have hbad1 := hbb
        clear hbb
        subst hbad1
        have hdead : bad0 = true ∨ rdMany rdProto N 0 l2 = none := hbd (by trivial)
        have hno : oo = none := by
          rw [← HOO.out]
          rcases hdead with h | h
          · unfold rdRead
            rw [HYE.out]
            simp only [if_true]
            rcases H2.out.2.2.1.ofBad h with h2 | h2
            · cases h2
            · rw [show rdNum t = none from h2]
          · cases hn : rdNumF 0 0 t with
            | none =>
              unfold rdRead
              rw [HYE.out]
              simp only [if_true]
              rw [show rdNum t = none from hn]
            | some r =>
              obtain ⟨x, t'⟩ := r
              have h3 := H2.out.2.2.1.2.1 rfl
              rw [hn] at h3
              obtain ⟨_, rfl, rfl⟩ := h3
              rw [rdRead_end HYE.out hn, Int.toNat_natCast, h]
              rfl
        have c1 := h8.bads.1
        have H8 := Lib.hid (And.intro h8 (And.intro hb8 hno))
        clear h8 hb8 hno hdead hbd hgd hlen hll hcl hc7 hj5 hjN
        go_wp2_with fail
        go_ret2
        rw [H8.out.2.2]
        exact ⟨rfl, H8.out.1.fr.right.right, H8.out.2.1⟩
      | false =>
        rw [hbb] at h8
        have hbad1 := hbb
        clear hbb
        subst hbad1
        obtain ⟨q1, q2, q3, q4, q5, q6, q7⟩ := hgd (by trivial)
        have hlen1 := hlen (by trivial)
        have hpl := prSizes_len ps
        have hjb : j + l4.length ≤ 1048576 := by omega
        have HG := Lib.hid (And.intro q1 (And.intro q2 (And.intro q3 (And.intro q4 (And.intro q5 (And.intro q6 (And.intro q7 (And.intro hlen1 (And.intro hcl (And.intro hc7 (And.intro hll (And.intro hb8 (And.intro hjN hjb)))))))))))))
        obtain ⟨FF, hFF⟩ : ∃ FF : HP, FF = own 38 7 (.slice so j sc) j css.flatten * (M * R) := ⟨_, rfl⟩
        rw [← hFF] at h8
        have hFR : ∀ w', sat w' FF → sat w' R := fun w' h => by rw [hFF] at h; exact h.right.right
        have HFF := Lib.hid (And.intro hFF hFR)
        have hA := rf_num wr R FF gr false l4 lf h8
        have c1 := h8.bads.1
        clear q1 q2 q3 q4 q5 q6 q7 hlen1 hpl hjb hcl hc7 hll hb8 hjN hgd hbd hlen hj5 hFF hFR h8
        go_upto_region 10 with (fail)
        clear c1 e0 e0'
        go_wp2_with fail
        refine hA.mono ?_
        clear hA
        rintro e w3 ⟨y, b0, m0, rfl, hyb, hst, h3, hb3⟩
        obtain ⟨yn, rfl⟩ : ∃ n : Nat, y = n := ⟨y.toNat, by omega⟩
        have hT := rf_take_any w3 R FF gr b0 m0 lf yn _ rfl h3
        have H3 := Lib.hid (And.intro (HG.out.2.2.2.2.2.2.2.2.2.2.2.1.trans hb3) hst)
        clear h3 hb3 hst hyb
        go_wp2_with fail
        refine hT.mono ?_
        clear hT
        rintro e w4 ⟨ro, kz, rc, zs, b1, l1, rfl, hzl, hzc, hst6, h4, hb4⟩
        have hcv := run_bytes_any (P := Try.prog) (cap := rc) 23 9 5 Try.underlying23 Try.underlying5 Try.underlying9 (w := w4) hzl (hzc w4 (h4.sub _ h4.fr))
        obtain ⟨nm, hnm⟩ : ∃ s, strOfNums zs = s := ⟨_, rfl⟩
        rw [hnm] at hcv hst6
        have hs1 := H3.out.2.bind (f := fun a t => takeP t a.toNat) (by rw [Int.toNat_natCast]; exact hst6)
        rw [show ((rdNumF 0 0 l4).bind fun r => takeP r.2 r.1.toNat) = rdText l4 from (rdText_bind l4).symm] at hs1
        have h5 := h4.alloc (prO [.string nm, .int .i64 0, .int .i64 0, .bool false, .slice none 0 0, .slice none 0 0, .slice none 0 0])
        have hb5 := (H3.out.1.trans hb4).trans (Below.zero_alloc w4 (prO [.string nm, .int .i64 0, .int .i64 0, .bool false, .slice none 0 0, .slice none 0 0, .slice none 0 0]))
        obtain ⟨g9, hg9⟩ : ∃ g, w4.heap.size = g := ⟨_, rfl⟩
        rw [hg9] at h5
        have H5 := Lib.hid (And.intro h5 (And.intro hb5 hs1))
        clear h4 hb4 h5 hb5 hs1 hst6 hnm hzl hzc
        go_upto_region 11 with (fail)
        try rw [hg9]
        clear hg9 hcv
        generalize w4.alloc (prO [.string nm, .int .i64 0, .int .i64 0, .bool false, .slice none 0 0, .slice none 0 0, .slice none 0 0]) = w5 at *
        have hN5 := rf_num w5 R _ gr b1 l1 lf H5.out.1
        go_wp2_with fail
        refine hN5.mono ?_
        clear hN5
        rintro e w6 ⟨pa, b2, l2', rfl, hpa, hs2, h6, hb6⟩
        have f1 := h6.fr.left.frozen 1
        have d1 := (h6.fr.left.cell 1).trans (show _ = some (Value.int .i64 0) from rfl)
        have h7 := h6.put 1 (.int .i64 pa) HFF.out.2
        have hb7 := (H5.out.2.1.trans hb6).setCell (p := ⟨g9, 1, none⟩) (Nat.zero_le _) (.int .i64 pa)
        have H7 := Lib.hid (And.intro h7 (And.intro hb7 (And.intro hs2 hpa)))
        clear h6 hb6 h7 hb7 hs2 hpa
        go_upto_region 12 with (fail)
        clear f1 d1
        generalize w6.setCell ⟨g9, 1, none⟩ (.int .i64 pa) = w7 at *
        have hB7 := rf_bit w7 R _ gr b2 l2' lf H7.out.1
        go_wp2_with fail
        refine hB7.mono ?_
        clear hB7
        rintro e w8 ⟨pr, b3, l3', rfl, hs3, h8, hb8⟩
        have f1 := h8.fr.left.frozen 3
        have d1 := (h8.fr.left.cell 3).trans (show _ = some (Value.bool false) from rfl)
        have h9 := h8.put 3 (.bool pr) HFF.out.2
        have hb9 := (H7.out.2.1.trans hb8).setCell (p := ⟨g9, 3, none⟩) (Nat.zero_le _) (.bool pr)
        have H9 := Lib.hid (And.intro h9 (And.intro hb9 hs3))
        clear h8 hb8 h9 hb9 hs3
        go_upto_region 13 with (fail)
        clear f1 d1
        generalize w8.setCell ⟨g9, 3, none⟩ (.bool pr) = w9 at *
        have hN9 := rf_num w9 R _ gr b3 l3' lf H9.out.1
        go_wp2_with fail
        refine hN9.mono ?_
        clear hN9
        rintro e w10 ⟨pf, b4, l4', rfl, hpf, hs4, h10, hb10⟩
        have f1 := h10.fr.left.frozen 2
        have d1 := (h10.fr.left.cell 2).trans (show _ = some (Value.int .i64 0) from rfl)
        have h11 := h10.put 2 (.int .i64 pf) HFF.out.2
        have hb11 := (H9.out.2.1.trans hb10).setCell (p := ⟨g9, 2, none⟩) (Nat.zero_le _) (.int .i64 pf)
        have H11 := Lib.hid (And.intro h11 (And.intro hb11 (And.intro hs4 hpf)))
        clear h10 hb10 h11 hb11 hs4 hpf
        go_upto_region 14 with (fail)
        clear f1 d1
        generalize w10.setCell ⟨g9, 2, none⟩ (.int .i64 pf) = w11 at *
        have hN11 := rf_num w11 R _ gr b4 l4' lf H11.out.1
        go_wp2_with fail
        refine hN11.mono ?_
        clear hN11
        rintro e w12 ⟨y, b5, l5, rfl, hyb, hs5, h12, hb12⟩
        obtain ⟨N5, rfl⟩ : ∃ n : Nat, y = n := ⟨y.toNat, by omega⟩
        have h12' : RfAt w12 R (blk g9 (prO [.string nm, .int .i64 pa, .int .i64 pf, .bool pr, .slice none 0 0, .slice none 0 0, .slice none 0 0]) * FF) gr b5 l5 lf := h12
        have H12 := Lib.hid (And.intro h12' (And.intro (H11.out.2.1.trans hb12) (And.intro hs5 hyb.2)))
        clear h12 h12' hb12 hs5 hyb
        skip
        have HL5 := Lib.hid (show l5.length ≤ 1048576 by have := H12.out.2.2.1.2.2; have := H11.out.2.2.1.2.2; have := H9.out.2.2.2.2; have := H7.out.2.2.1.2.2; have := H5.out.2.2.2.2; have := HG.out.2.2.2.2.2.2.2.2.2.2.2.2.2; omega)
        go_upto_block 2 with fail
        go_cut [11, 12] from 50 to 154 (fun _ _ wx => RcoEnd w R FF gr g9 nm pa pf pr lf q b5 N5 l5 wx)
        case first =>
          go_wp2_with fail
          go_loopw [11] (RcoRel w R FF gr g9 nm pa pf pr lf q b5 N5 l5) (fun i _ => N5 - (intOf i).toNat)
          case atStart =>
            refine ⟨0, [], b5, l5, none, 0, rfl, rfl, fun x hx => by simp at hx, Nat.le_refl _, fun _ => by have := HL5.out; omega, by decide, ?_, H12.out.2.1, fun hb => ⟨hb, Nat.zero_le _, ?_⟩, fun hb => .inl hb⟩
            · obtain ⟨ao, cap, q1, q2, q3, q4, q5⟩ := H12.out.1
              exact ⟨ao, cap, (q1.nil_own (e := 41) (sz := 3)).perm (show own 41 3 (.slice none 0 0) 0 [] * _ = _ * (own 41 3 (.slice none 0 0) 0 (codeV []) * _) by rw [show codeV [] = [] from rfl]; ac_rfl), q2, q3, q4, fun w' h => q5 w' h.right⟩
            · rw [Nat.sub_zero]
              cases rdMany rdIns N5 q l5 with
              | none => rfl
              | some r => rfl
          case round =>
            obtain ⟨k, acc, bad, l6, ac, cc, rfl, hak, hacc, hll6, hlen6, hk5, h9', hb9', hgd6, hbd6⟩ := hrel
            have hN63' : (N5 : Int) ≤ 8796093022208 := H12.out.2.2.2
            have key : ¬ (k < N5 ∧ bad = false) → RcoEnd w R FF gr g9 nm pa pf pr lf q b5 N5 l5 wr := by
              intro hne
              have hcc : k ≤ cc := by
                obtain ⟨_, _, q1, _⟩ := h9'
                obtain ⟨_, _, e1, e2⟩ := slice_val q1.right
                cases e1
                exact e2
              refine ⟨k, acc, bad, l6, ac, cc, hak, hacc, hll6, hcc, hk5, h9', hb9', fun hb => ?_, hbd6⟩
              obtain ⟨u1, u2, u3⟩ := hgd6 hb
              refine ⟨u1, ?_⟩
              rw [u3, show N5 - k = 0 by have : ¬ k < N5 := fun h => hne ⟨h, hb⟩; omega]
              simp [rdMany, joinM]
            have HKEY := Lib.hid key
            clear key
            by_cases hkN : k < N5
            case neg =>
              have e0 : decide (k < N5) = false := by rw [decide_eq_false_iff_not]; exact hkN
              have e0' : decide ((k : Int) < (N5 : Int)) = false := by rw [decide_eq_false_iff_not]; omega
              have HE := Lib.hid (HKEY.out (fun h => hkN h.1))
              clear hkN hak hacc hll6 hlen6 hk5 h9' hb9' hgd6 hbd6 HKEY
              go_wp2_with fail
              go_meet
              case rel => exact HE.out
            have e0 : decide (k < N5) = true := by rw [decide_eq_true_eq]; exact hkN
            have e0' : decide ((k : Int) < (N5 : Int)) = true := by rw [decide_eq_true_eq]; omega
            cases hbb : bad with
            | true =>
              have c1 := h9'.bads.1
              rw [hbb] at c1
              have HE := Lib.hid (HKEY.out (fun h => by rw [hbb] at h; cases h.2))
              clear hkN hak hacc hll6 hlen6 hk5 h9' hb9' hgd6 hbd6 HKEY hbb
              go_wp2_with fail
              go_meet
              case rel => exact HE.out
            | false =>
              rw [hbb] at h9'
              have hbad1 := hbb
              clear hbb HKEY
              subst hbad1
              have c1 := h9'.bads.1
              obtain ⟨u1, u2, u3⟩ := hgd6 (by trivial)
              have hlen6' := hlen6 (by trivial)
              have hA := rf_num wr R _ gr false l6 lf h9'
              have HR := Lib.hid (And.intro u1 (And.intro u2 (And.intro u3 (And.intro hlen6' (And.intro hak (And.intro hacc (And.intro hll6 (And.intro hb9' (And.intro hkN hN63')))))))))
              clear u1 u2 u3 hlen6' hkN hak hacc hll6 hlen6 hk5 h9' hb9' hgd6 hbd6 hN63'
              go_upto_region 18 with (fail)
              clear c1 e0 e0'
              go_wp2_with fail
              refine hA.mono ?_
              clear hA
              rintro e w13 ⟨x, b6, m1, rfl, hxb, hst, h13, hb13⟩
              have h14 := h13.alloc (.cells #[.int .i64 x, .int .i64 0, .int .i64 0] 41)
              have hb14 := (HR.out.2.2.2.2.2.2.2.1.trans hb13).trans (Below.zero_alloc w13 (.cells #[.int .i64 x, .int .i64 0, .int .i64 0] 41))
              obtain ⟨g12, hg12⟩ : ∃ g, w13.heap.size = g := ⟨_, rfl⟩
              rw [hg12] at h14
              have H14 := Lib.hid (And.intro h14 (And.intro hb14 (And.intro hst hxb)))
              clear h13 hb13 h14 hb14 hst hxb
              go_upto_region 19 with (fail)
              try rw [hg12]
              clear hg12
              generalize w13.alloc (.cells #[.int .i64 x, .int .i64 0, .int .i64 0] 41) = w14 at *
              have hS := rf_signed w14 R _ gr b6 m1 lf H14.out.1
              go_wp2_with fail
              refine hS.mono ?_
              clear hS
              rintro e w15 ⟨ia, b7, m2, rfl, hab, hst, h15, hb15⟩
              have f1 := h15.fr.left.frozen 1
              have d1 := (h15.fr.left.cell 1).trans (show _ = some (Value.int .i64 0) from rfl)
              have h16 := h15.put 1 (.int .i64 ia) (fun w' h => HFF.out.2 w' h.right.right)
              have hb16 := (H14.out.2.1.trans hb15).setCell (p := ⟨g12, 1, none⟩) (Nat.zero_le _) (.int .i64 ia)
              have H16 := Lib.hid (And.intro h16 (And.intro hb16 (And.intro hst hab)))
              clear h15 hb15 h16 hb16 hst hab
              go_upto_region 20 with (fail)
              clear f1 d1
              generalize w15.setCell ⟨g12, 1, none⟩ (.int .i64 ia) = w16 at *
              have hS := rf_signed w16 R _ gr b7 m2 lf H16.out.1
              go_wp2_with fail
              refine hS.mono ?_
              clear hS
              rintro e w17 ⟨ib, b8, m3, rfl, hbb, hst, h17, hb17⟩
              have f1 := h17.fr.left.frozen 2
              have d1 := (h17.fr.left.cell 2).trans (show _ = some (Value.int .i64 0) from rfl)
              have h18 := h17.put 2 (.int .i64 ib) (fun w' h => HFF.out.2 w' h.right.right)
              have hb18 := (H16.out.2.1.trans hb17).setCell (p := ⟨g12, 2, none⟩) (Nat.zero_le _) (.int .i64 ib)
              have H18 := Lib.hid (And.intro h18 (And.intro hb18 (And.intro hst hbb)))
              clear h17 hb17 h18 hb18 hst hbb
              go_upto_region 21 with (fail)
              clear f1 d1
              generalize w17.setCell ⟨g12, 2, none⟩ (.int .i64 ib) = wv at *
              have c4 := (H18.out.1.fr.right.right.left.cell 4).trans (show _ = some (Value.slice ac k cc) from rfl)
              have i0c := (H18.out.1.fr.left.cell 0).trans (show _ = some (Value.int .i64 x) from rfl)
              have i1c := (H18.out.1.fr.left.cell 1).trans (show _ = some (Value.int .i64 ia) from rfl)
              have i2c := (H18.out.1.fr.left.cell 2).trans (show _ = some (Value.int .i64 ib) from rfl)
              obtain ⟨ao, cap, q1, q2, q3, q4, q5⟩ := H18.out.1
              have q6 := q1.alloc (.cells #[.int .i64 x, .int .i64 ia, .int .i64 ib] 41)
              have q7 : sat (wv.alloc (.cells #[.int .i64 x, .int .i64 ia, .int .i64 ib] 41)) (own 41 3 (.slice ac k cc) k (codeV acc) * ((blk wv.heap.size (.cells #[.int .i64 x, .int .i64 ia, .int .i64 ib] 41 (0, 0)) * blk g12 (.cells #[.int .i64 x, .int .i64 ia, .int .i64 ib] 41 (0, 0))) * (blk gr (.cells #[.slice ao m3.length cap, .bool b8, .int .i64 lf] 80 (0, 0)) * (blk g9 (prO [.string nm, .int .i64 pa, .int .i64 pf, .bool pr, .slice ac k cc, .slice none 0 0, .slice none 0 0]) * FF)))) := q6.perm (by show _ = own 41 3 (.slice ac k cc) k (codeV acc) * ((_ * blk g12 (.cells ((#[.int .i64 x, .int .i64 0, .int .i64 0].setIfInBounds 1 (.int .i64 ia)).setIfInBounds 2 (.int .i64 ib)) 41 (0, 0))) * _); ac_rfl)
              have hcl : CellsAt (wv.alloc (.cells #[.int .i64 x, .int .i64 ia, .int .i64 ib] 41)) (some ⟨wv.heap.size, 0, none⟩) [.int .i64 x, .int .i64 ia, .int .i64 ib] := by
                intro j u hj
                refine ⟨_, rfl, ?_⟩
                rw [addz_j, q6.left.cell j, ← hj]
                simp
              have HQ := Lib.hid (And.intro q7 (And.intro hcl (And.intro q2 (And.intro q3 (And.intro q4 (H18.out.2.1.trans (Below.zero_alloc wv (.cells #[.int .i64 x, .int .i64 ia, .int .i64 ib] 41))))))))
              clear q1 q2 q3 q4 q5 q6 q7 hcl
              go_wp2_with (at_builtin; refine hold ?_)
              refine held ?_
              obtain ⟨ji, jz0, jz1, jz2⟩ := JI.out
              refine wpList_append_opt rfl (.tmp 101) (.tmp 103) 34 rfl 41 i1 (.agg #[.int .i64 0, .int .i64 0, .int .i64 0]) 3 24 Try.underlying34 ji jz0 jz1 jz2 rfl (by decide) (.slice ac k cc) k (codeV acc) rfl _ (some ⟨wv.heap.size, 0, none⟩) 1 1 [.int .i64 x, .int .i64 ia, .int .i64 ib] rfl ?_ HQ.out.1 rfl HQ.out.2.1 (by intro u hu; simp at hu; rcases hu with rfl | rfl | rfl <;> rfl) (by have := HR.out.2.2.2.1; omega) (by have := HR.out.2.2.2.1; unfold maxLen; omega)
              clear ji jz0 jz1 jz2 c4 i0c i1c i2c
              intro v10 w10 h10 hb10
              obtain ⟨ac2, cc2, rfl, hcc2⟩ := slice_val h10
              have h11 := h10.perm (show _ = blk g9 (prO [.string nm, .int .i64 pa, .int .i64 pf, .bool pr, .slice ac k cc, .slice none 0 0, .slice none 0 0]) * (own 41 3 (.slice ac2 (k + 1) cc2) (k + 1) (codeV acc ++ [.int .i64 x, .int .i64 ia, .int .i64 ib]) * ((blk wv.heap.size (.cells #[.int .i64 x, .int .i64 ia, .int .i64 ib] 41 (0, 0)) * blk g12 (.cells #[.int .i64 x, .int .i64 ia, .int .i64 ib] 41 (0, 0))) * (blk gr (.cells #[.slice ao m3.length cap, .bool b8, .int .i64 lf] 80 (0, 0)) * FF))) by ac_rfl)
              have f4 := h11.left.frozen 4
              have c4 := (h11.left.cell 4).trans (show _ = some (Value.slice ac k cc) from rfl)
              have h12 : sat (w10.setCell ⟨g9, 4, none⟩ (.slice ac2 (k + 1) cc2)) (blk g9 (prO [.string nm, .int .i64 pa, .int .i64 pf, .bool pr, .slice ac2 (k + 1) cc2, .slice none 0 0, .slice none 0 0]) * (own 41 3 (.slice ac2 (k + 1) cc2) (k + 1) (codeV acc ++ [.int .i64 x, .int .i64 ia, .int .i64 ib]) * ((blk wv.heap.size (.cells #[.int .i64 x, .int .i64 ia, .int .i64 ib] 41 (0, 0)) * blk g12 (.cells #[.int .i64 x, .int .i64 ia, .int .i64 ib] 41 (0, 0))) * (blk gr (.cells #[.slice ao m3.length cap, .bool b8, .int .i64 lf] 80 (0, 0)) * FF)))) := h11.setCell (off := 4) _
              have hb12 : Below 0 w (w10.setCell ⟨g9, 4, none⟩ (.slice ac2 (k + 1) cc2)) := (HQ.out.2.2.2.2.2.trans hb10).setCell (p := ⟨g9, 4, none⟩) (Nat.zero_le _) _
              have HX := Lib.hid (And.intro h12 hb12)
              clear h10 hb10 h11 h12 hb12 hcc2
              have hkw : IntKind.i64.wrap ((k : Int) + 1) = (k : Int) + 1 := IntWalk.i64_in _ (by have := HR.out.2.2.2.1; omega)
              have hkw2 : wrap64 ((k : Int) + 1) = (k : Int) + 1 := IntWalk.wrap64_in _ (by have := HR.out.2.2.2.1; omega)
              go_wp2_with fail
              go_roundw
              case rel =>
                obtain ⟨u1, u2, u3, u4, u5, u6, u7, u8, u9, u10⟩ := HR.out
                have hie := ins_end (p := q) H14.out.2.2.1 H16.out.2.2.1 H18.out.2.2.1
                have hm3 : m3.length ≤ l6.length := by have := H14.out.2.2.1.2.2; have := H16.out.2.2.1.2.2; have := H18.out.2.2.1.2.2; omega
                refine ⟨k + 1, acc ++ [(x, ia, ib)], b8, m3, ac2, cc2, rfl, by simp [u5], ?_, by omega, fun hb => by have := (hie.1 hb).2; omega, by omega, ?_, HX.out.2, fun hb => ⟨u1, by omega, ?_⟩, fun hb => .inr ?_⟩
                · intro y hy
                  rcases List.mem_append.1 hy with h | h
                  · exact u6 y h
                  · simp at h; subst h; have := H14.out.2.2.2; have := H16.out.2.2.2; have := H18.out.2.2.2; unfold i64b; simp only []; omega
                · have hcv : codeV (acc ++ [(x, ia, ib)]) = codeV acc ++ [.int .i64 x, .int .i64 ia, .int .i64 ib] := by unfold codeV; simp [insV]
                  rw [hcv]
                  refine ⟨ao, cap, ?_, HQ.out.2.2.1, HQ.out.2.2.2.1, HQ.out.2.2.2.2.1, fun w' h => HFF.out.2 w' h.right.right⟩
                  exact (HX.out.1.perm (show _ = (blk wv.heap.size _ * blk g12 _) * (blk gr _ * (own 41 3 _ _ (codeV acc ++ _) * (blk g9 _ * FF))) by ac_rfl)).right
                · rw [u3, show N5 - k = (N5 - (k + 1)) + 1 by omega]
                  exact joinM_next (hie.1 hb).1
                · rw [u3, show N5 - k = (N5 - (k + 1)) + 1 by omega]
                  exact joinM_no (hie.2 hb)
              case measure =>
                have := HR.out.2.2.2.2.2.2.2.2.1
                simp [intOf]; omega
        case rest =>
        obtain ⟨kc, code, b6, l6, ac, cc, hc1, hc2, hc3, hc4, hc5, h13, hb13, hc8⟩ := hcut
        obtain ⟨F3, hF3⟩ : ∃ F : HP, F = own 41 3 (.slice ac kc cc) kc (codeV code) * FF := ⟨_, rfl⟩
        have h13' : RfAt wc R (blk g9 (prO [.string nm, .int .i64 pa, .int .i64 pf, .bool pr, .slice ac kc cc, .slice none 0 0, .slice none 0 0]) * F3) gr b6 l6 lf := h13.perm (by rw [hF3]; ac_rfl)
        have hF3R : ∀ w', sat w' F3 → sat w' R := fun w' h => by rw [hF3] at h; exact HFF.out.2 w' h.right
        have HC2 := Lib.hid (And.intro hc1 (And.intro hc2 (And.intro hc3 (And.intro hc4 (And.intro hc5 (And.intro hc8 (And.intro hF3 (And.intro hF3R (And.intro h13' hb13)))))))))
        clear hc1 hc2 hc3 hc4 hc5 hc8 h13 hb13 hF3 hF3R h13' 
        have hN := rf_num wc R _ gr b6 l6 lf HC2.out.2.2.2.2.2.2.2.2.1
        go_wp2_with fail
        refine hN.mono ?_
        clear hN
        rintro e w20 ⟨y, b7, l7, rfl, hyb, hst, h20, hb20⟩
        obtain ⟨N7, rfl⟩ : ∃ n : Nat, y = n := ⟨y.toNat, by omega⟩
        have H20 := Lib.hid (And.intro h20 (And.intro (HC2.out.2.2.2.2.2.2.2.2.2.trans hb20) (And.intro hst hyb.2)))
        clear h20 hb20 hst hyb
        have HL7 := Lib.hid (show l7.length ≤ l5.length ∧ l7.length ≤ 1048576 by have := H20.out.2.2.1.2.2; have := HC2.out.2.2.1; have := HL5.out; omega)
        go_upto_block 4 with fail
        go_cut [13] from 50 to 154 (fun _ wx => RdoEnd w R F3 gr g9 nm pa pf pr (.slice ac kc cc) q b7 N7 l7 wx)
        case first =>
          go_wp2_with fail
          go_loopw [13] (RdoRel w R F3 gr g9 nm pa pf pr (.slice ac kc cc) q b7 N7 l7) (fun i _ => N7 - (intOf i).toNat)
          case atStart =>
            refine ⟨0, [], q, b7, l7, lf, none, 0, [], emp, rfl, rfl, fun cs h => by simp at h, Nat.le_refl _, fun _ => by have := HL7.out; omega, by decide, ?_, H20.out.2.1, fun hb => ⟨hb, Nat.zero_le _, HG.out.2.2.1, HG.out.2.2.2.1, rfl, fun i d cs h _ => by simp at h, ?_⟩, fun hb => .inl hb⟩
            · obtain ⟨ao, cap, q1, q2, q3, q4, q5⟩ := H20.out.1
              exact ⟨ao, cap, (q1.nil_own (e := 59) (sz := 7)).perm (by rw [HP.emp_mul]; simp only [List.flatten_nil]; ac_rfl), q2, q3, q4, fun w' h => q5 w' h.right.right⟩
            · rw [Nat.sub_zero]
              cases rdMany (rdConst 100) N7 q l7 with
              | none => rfl
              | some r => rfl
          case round =>
            obtain ⟨k, ds, q8, bad, l8, lf8, ai, ci, css2, MD, rfl, hcl, hc7, hll8, hlen8, hk5, h9', hb9', hgd8, hbd8⟩ := hrel
            have hN63' : (N7 : Int) ≤ 8796093022208 := H20.out.2.2.2
            have key : ¬ (k < N7 ∧ bad = false) → RdoEnd w R F3 gr g9 nm pa pf pr (.slice ac kc cc) q b7 N7 l7 wr := by
              intro hne
              have hci : k ≤ ci := by
                obtain ⟨_, _, q1, _⟩ := h9'
                obtain ⟨_, _, e1, e2⟩ := slice_val q1.right
                cases e1
                exact e2
              refine ⟨k, ds, q8, bad, l8, lf8, ai, ci, css2, MD, hcl, hc7, hll8, hci, hk5, h9', hb9', ⟨fun hb => ?_, hbd8⟩, fun hb => ?_⟩
              · obtain ⟨u1, u2, u3, u4, u5, u6, u7⟩ := hgd8 hb
                refine ⟨u1, ?_⟩
                rw [u7, show N7 - k = 0 by have : ¬ k < N7 := fun h => hne ⟨h, hb⟩; omega]
                simp [rdMany, joinM]
              · obtain ⟨u1, u2, u3, u4, u5, u6, u7⟩ := hgd8 hb
                exact ⟨u3, u4, u5, row_dks (by omega) (by omega) u6 wr h9'.fr⟩
            have HKEY := Lib.hid key
            clear key
            by_cases hkN : k < N7
            case neg =>
              have e0 : decide (k < N7) = false := by rw [decide_eq_false_iff_not]; exact hkN
              have e0' : decide ((k : Int) < (N7 : Int)) = false := by rw [decide_eq_false_iff_not]; omega
              have HE := Lib.hid (HKEY.out (fun h => hkN h.1))
              clear hkN hcl hc7 hll8 hlen8 hk5 h9' hb9' hgd8 hbd8 HKEY
              go_wp2_with fail
              go_meet
              case rel => exact HE.out
            have e0 : decide (k < N7) = true := by rw [decide_eq_true_eq]; exact hkN
            have e0' : decide ((k : Int) < (N7 : Int)) = true := by rw [decide_eq_true_eq]; omega
            cases hbb : bad with
            | true =>
              have c1 := h9'.bads.1
              rw [hbb] at c1
              have HE := Lib.hid (HKEY.out (fun h => by rw [hbb] at h; cases h.2))
              clear hkN hcl hc7 hll8 hlen8 hk5 h9' hb9' hgd8 hbd8 HKEY hbb
              go_wp2_with fail
              go_meet
              case rel => exact HE.out
            | false =>
              rw [hbb] at h9'
              have hbad1 := hbb
              clear hbb HKEY
              subst hbad1
              have c1 := h9'.bads.1
              obtain ⟨hg1, hg2, hg3, hg4, hg5, hg6, hg7⟩ := hgd8 (by trivial)
              have hlen8' := hlen8 (by trivial)
              obtain ⟨F5, hF5⟩ : ∃ F : HP, F = own 59 7 (.slice ai k ci) k css2.flatten * (MD * (blk g9 (prO [.string nm, .int .i64 pa, .int .i64 pf, .bool pr, .slice ac kc cc, .slice ai k ci, .slice none 0 0]) * F3)) := ⟨_, rfl⟩
              rw [← hF5] at h9'
              have hF5c : ∀ w', sat w' F5 → w'.cell? ⟨g9, 5, none⟩ = some (.slice ai k ci) := fun w' h => by rw [hF5] at h; exact (h.right.right.left.cell 5).trans rfl
              have hC := fun (w' : World) (h : RfAt w' R F5 gr false l8 lf8) => rf_datum 100 (Nat.le_refl _) w' R F5 gr false l8 lf8 q8 h ⟨rfl, hg3, hg4⟩ (by omega) 1 (by decide)
              have o1 : ∀ (w3 : World) (M2 : HP) (v0 v1 v2 v3 v4 v5 v6 : Value) (bad9 : Bool) (m5 : List Int) (lf9 : Int), RfAt w3 R (M2 * F5) gr bad9 m5 lf9 →
                  w3.cell? ⟨g9, 5, none⟩ = some (.slice ai k ci) ∧ (w3.alloc (dmO [v0, v1, v2, v3, v4, v5, v6])).cell? ⟨g9, 5, none⟩ = some (.slice ai k ci) ∧
                  (∀ (j' : Nat) u, [v0, v1, v2, v3, v4, v5, v6][j']? = some u → (w3.alloc (dmO [v0, v1, v2, v3, v4, v5, v6])).cell? ((⟨w3.heap.size, 0, none⟩ : Addr).add j') = some u) ∧
                  ∃ ao cap, sat (w3.alloc (dmO [v0, v1, v2, v3, v4, v5, v6])) (own 59 7 (.slice ai k ci) k css2.flatten * (blk w3.heap.size (dmO [v0, v1, v2, v3, v4, v5, v6]) * (blk gr (.cells #[.slice ao m5.length cap, .bool bad9, .int .i64 lf9] 80 (0, 0)) * (blk g9 (prO [.string nm, .int .i64 pa, .int .i64 pf, .bool pr, .slice ac kc cc, .slice ai k ci, .slice none 0 0]) * ((M2 * MD) * F3))))) ∧ m5.length ≤ cap ∧ (∀ w', sat w' R → CellsAt w' ao (m5.map bv)) ∧ Bytes m5 := by
                rintro w3 M2 v0 v1 v2 v3 v4 v5 v6 bad9 m5 lf9 ⟨ao, cap, q1', q2, q3, q4, q5⟩
                have h2 := q1'.alloc (dmO [v0, v1, v2, v3, v4, v5, v6])
                refine ⟨hF5c _ q1'.right.right, hF5c _ h2.right.right.right, ?_, ao, cap, h2.perm (by rw [hF5]; ac_rfl), q2, q3, q4⟩
                intro j' u hu
                rw [addz_j, h2.left.cell j', ← hu]
                simp
              have o2 : ∀ (w9 : World) (bl : Nat) (o o2 : Obj) (b7 c7 : Nat) (xs : List Value) (X : HP), sat w9 (row 59 7 b7 c7 xs * (blk bl o * (blk gr o2 * (blk g9 (prO [.string nm, .int .i64 pa, .int .i64 pf, .bool pr, .slice ac kc cc, .slice ai k ci, .slice none 0 0]) * X)))) →
                  w9.cell? ⟨g9, 5, none⟩ = some (.slice ai k ci) ∧ w9.frozen? ⟨g9, 5, none⟩ = false := fun w9 bl o o2 b7 c7 xs X h => ⟨(h.right.right.right.left.cell 5).trans rfl, h.right.right.right.left.frozen 5⟩
              have c5 := hF5c wr h9'.fr
              have HO1 := Lib.hid (And.intro o1 o2)
              have HR := Lib.hid (And.intro hg1 (And.intro hg2 (And.intro hg3 (And.intro hg4 (And.intro hg5 (And.intro hg6 (And.intro hg7 (And.intro hlen8' (And.intro hcl (And.intro hc7 (And.intro hll8 (And.intro hb9' hkN))))))))))))
              have HC := Lib.hid (And.intro hC (show RfAt wr.drew R F5 gr false l8 lf8 from h9'))
              clear hg1 hg2 hg3 hg4 hg5 hg6 hg7 hlen8' hcl hc7 hll8 hb9' hkN hgd8 hbd8 hlen8 h9' hk5 o1 o2 hF5 hF5c hC hN63'
              go_upto_region 26 with (fail)
              clear c1 e0 e0'
              go_wp2_with fail
              go_region_law
                (first
                  | (go_simp; go_at_call 42; refine (HC.out.1 _ HC.out.2).mono ?_; rintro e w3' ⟨v0, v1, v2, v3, v4, v5, v6, bad9, m5, lf9, M2, rfl, hone, h3, hb3, hl5, hbb, hgg⟩; obtain ⟨y1, y2, y3, ao, cap, y4, y5, y6, y7⟩ := HO1.out.1 w3' M2 v0 v1 v2 v3 v4 v5 v6 bad9 m5 lf9 h3)
                  | (refine step_append_sat rfl (.tmp 121) (.tmp 124) 35 rfl 59 i3 zeroDm 7 112 Try.underlying35 LI.out.1 LI.out.2.1 LI.out.2.2.1 LI.out.2.2.2 rfl _ k css2.flatten (by rfl) _ y4 ⟨w3'.heap.size, 0, none⟩ 1 1 [v0, v1, v2, v3, v4, v5, v6] (by rfl) rfl y3 hone (by have := HR.out.2.2.2.2.2.2.2.1; omega) (by have := HR.out.2.2.2.2.2.2.2.1; unfold maxLen; omega) (by omega) ?_; intro bb7 c7 w9' hs9 hc9 hb9; obtain ⟨z5, z6⟩ := HO1.out.2 _ _ _ _ _ _ _ _ hs9))
              all_goals (
                have hs10 : sat w9' (blk g9 (prO [.string nm, .int .i64 pa, .int .i64 pf, .bool pr, .slice ac kc cc, .slice ai k ci, .slice none 0 0]) * (blk gr (.cells #[.slice ao m5.length cap, .bool bad9, .int .i64 lf9] 80 (0, 0)) * (row 59 7 bb7 c7 (css2.flatten ++ [v0, v1, v2, v3, v4, v5, v6]) * ((M2 * MD) * F3)))) := (show sat w9' (blk w3'.heap.size (dmO [v0, v1, v2, v3, v4, v5, v6]) * _) from hs9.perm (by ac_rfl)).right
                have hs11 : sat (w9'.setCell ⟨g9, 5, none⟩ (.slice (some ⟨bb7, 0, none⟩) (k + 1) c7)) (blk g9 (prO [.string nm, .int .i64 pa, .int .i64 pf, .bool pr, .slice ac kc cc, .slice (some ⟨bb7, 0, none⟩) (k + 1) c7, .slice none 0 0]) * (blk gr (.cells #[.slice ao m5.length cap, .bool bad9, .int .i64 lf9] 80 (0, 0)) * (row 59 7 bb7 c7 (css2.flatten ++ [v0, v1, v2, v3, v4, v5, v6]) * ((M2 * MD) * F3)))) := hs10.setCell (off := 5) _
                have hb11 : Below 0 w (w9'.setCell ⟨g9, 5, none⟩ (.slice (some ⟨bb7, 0, none⟩) (k + 1) c7)) := (((HR.out.2.2.2.2.2.2.2.2.2.2.2.1.drew.trans hb3).trans (Below.zero_alloc _ _)).trans hb9).setCell (p := ⟨g9, 5, none⟩) (Nat.zero_le _) _
                have HF := Lib.hid (And.intro hs11 (And.intro hb11 (And.intro (And.intro hl5 hgg) (And.intro hc9 (And.intro y5 (And.intro y6 y7))))))
                clear hs9 hs10 hs11 hb11 hb3 hb9 h3 y1 y2 y3 y4 y5 y6 y7 z5 z6 hl5 hbb hgg hc9 hone HO1 HC
                have hkw : IntKind.i64.wrap ((k : Int) + 1) = (k : Int) + 1 := IntWalk.i64_in _ (by have := HR.out.2.2.2.2.2.2.2.1; omega)
                have hkw2 : wrap64 ((k : Int) + 1) = (k : Int) + 1 := IntWalk.wrap64_in _ (by have := HR.out.2.2.2.2.2.2.2.1; omega)
                go_wp2_with fail
                go_roundw
                case rel =>
                  obtain ⟨g1, g2', ⟨g3, g3'⟩, g4', g5', g6, g7⟩ := HF.out
                  obtain ⟨x1, x2, x3, x4, x5, x6, x7, x8, x9, x10, x11, x12, x13⟩ := HR.out
                  have hg9 := g3' rfl
                  have hfl : (css2.flatten ++ [v0, v1, v2, v3, v4, v5, v6]).length = (k + 1) * 7 := by
                    rw [List.length_append, flat7 x10, x9]
                    show _ + 7 = _
                    omega
                  have g8 := sat.shut_own (n := k + 1) hfl g4' (g1.perm (show _ = row 59 7 bb7 c7 _ * (blk g9 _ * (blk gr _ * ((M2 * MD) * F3))) by ac_rfl))
                  have hRF : RfAt (w9'.setCell ⟨g9, 5, none⟩ (.slice (some ⟨bb7, 0, none⟩) (k + 1) c7)) R (own 59 7 (.slice (some ⟨bb7, 0, none⟩) (k + 1) c7) (k + 1) (css2 ++ [[v0, v1, v2, v3, v4, v5, v6]]).flatten * ((M2 * MD) * (blk g9 (prO [.string nm, .int .i64 pa, .int .i64 pf, .bool pr, .slice ac kc cc, .slice (some ⟨bb7, 0, none⟩) (k + 1) c7, .slice none 0 0]) * F3))) gr bad9 m5 lf9 := by
                    rw [List.flatten_append, List.flatten_cons, List.flatten_nil, List.append_nil]
                    exact ⟨ao, cap, g8.perm (by ac_rfl), g5', g6, g7, fun w' h => HC2.out.2.2.2.2.2.2.2.1 w' h.right.right.right⟩
                  have hc77 : ∀ cs ∈ css2 ++ [[v0, v1, v2, v3, v4, v5, v6]], cs.length = 7 := by
                    intro cs hcs
                    rcases List.mem_append.1 hcs with h | h
                    · exact x10 cs h
                    · simp at h; subst h; rfl
                  cases hr : rdConst 100 q8 l8 with
                  | none =>
                    rw [hr] at hg9
                    obtain rfl : bad9 = true := hg9
                    refine ⟨k + 1, ds, q8, true, m5, lf9, some ⟨bb7, 0, none⟩, c7, css2 ++ [[v0, v1, v2, v3, v4, v5, v6]], M2 * MD, rfl, by simp [x9], hc77, by omega, (fun h => by cases h), by omega, hRF, g2', (fun h => by cases h), fun _ => .inr ?_⟩
                    rw [x7, show N7 - k = (N7 - (k + 1)) + 1 by omega]
                    exact joinM_no hr
                  | some r =>
                    obtain ⟨d, q1, t'⟩ := r
                    rw [hr] at hg9
                    obtain ⟨rfl, rfl, hlf, hdk2⟩ := hg9
                    have hxb := rdConst_bd 100 q8 l8 d q1 m5 hr
                    refine ⟨k + 1, ds ++ [d], q1, false, m5, lf9, some ⟨bb7, 0, none⟩, c7, css2 ++ [[v0, v1, v2, v3, v4, v5, v6]], M2 * MD, rfl, by simp [x9], hc77, by omega, fun _ => by omega, by omega, hRF, g2', fun _ => ⟨x1, by omega, hlf, by omega, by simp [x5], ?_, ?_⟩, (fun h => by cases h)⟩
                    · intro i d' cs hd hc
                      by_cases hik : i < ds.length
                      · rw [List.getElem?_append_left hik] at hd
                        rw [List.getElem?_append_left (by omega)] at hc
                        exact (x6 i d' cs hd hc).mono (fun w h => h.right) _
                      · rw [List.getElem?_append_right (by omega)] at hd
                        rw [List.getElem?_append_right (by omega), show i - css2.length = i - ds.length by omega] at hc
                        cases hz : i - ds.length with
                        | zero =>
                          rw [hz] at hd hc
                          simp at hd hc
                          subst hd
                          subst hc
                          exact hdk2.mono (fun w h => h.left) _
                        | succ z => rw [hz] at hd; simp at hd
                    · rw [x7, show N7 - k = (N7 - (k + 1)) + 1 by omega]
                      exact joinM_next hr
                case measure =>
                  have := HR.out.2.2.2.2.2.2.2.2.2.2.2.2
                  simp [intOf]; omega)
        case rest =>
        obtain ⟨kd, ds, q2, b8, l8, lf2, ai, ci, css2, MD, hd1, hd2, hd3, hd4, hd5, h23, hb23, hd8, hd9⟩ := hcut
        obtain ⟨F4, hF4⟩ : ∃ F : HP, F = own 59 7 (.slice ai kd ci) kd css2.flatten * (MD * F3) := ⟨_, rfl⟩
        have h23' : RfAt wc R (blk g9 (prO [.string nm, .int .i64 pa, .int .i64 pf, .bool pr, .slice ac kc cc, .slice ai kd ci, .slice none 0 0]) * F4) gr b8 l8 lf2 := h23.perm (by rw [hF4]; ac_rfl)
        have hF4R : ∀ w', sat w' F4 → sat w' R := fun w' h => by rw [hF4] at h; exact HC2.out.2.2.2.2.2.2.2.1 w' h.right.right
        have HC3 := Lib.hid (And.intro hd1 (And.intro hd2 (And.intro hd3 (And.intro hd4 (And.intro hd5 (And.intro hd8 (And.intro hd9 (And.intro hF4 (And.intro hF4R (And.intro h23' hb23))))))))))
        clear hd1 hd2 hd3 hd4 hd5 hd8 hd9 h23 hb23 hF4 hF4R h23' 
        have hN := rf_num wc R _ gr b8 l8 lf2 HC3.out.2.2.2.2.2.2.2.2.2.1
        go_wp2_with fail
        refine hN.mono ?_
        clear hN
        rintro e w30 ⟨y, b9, l9, rfl, hyb, hst, h30, hb30⟩
        obtain ⟨N9, rfl⟩ : ∃ n : Nat, y = n := ⟨y.toNat, by omega⟩
        have H30 := Lib.hid (And.intro h30 (And.intro (HC3.out.2.2.2.2.2.2.2.2.2.2.trans hb30) (And.intro hst hyb.2)))
        clear h30 hb30 hst hyb
        have HL9 := Lib.hid (show l9.length ≤ l7.length ∧ l9.length ≤ 1048576 by have := H30.out.2.2.1.2.2; have := HC3.out.2.2.1; have := HL7.out; omega)
        go_upto_block 6 with fail
        go_cut [14] from 50 to 154 (fun _ wx => RnoEnd w R F4 gr g9 nm pa pf pr (.slice ac kc cc) (.slice ai kd ci) lf2 q2 b9 N9 l9 wx)
        case first =>
          go_wp2_with fail
          go_loopw [14] (RnoRel w R F4 gr g9 nm pa pf pr (.slice ac kc cc) (.slice ai kd ci) lf2 q2 b9 N9 l9) (fun i _ => N9 - (intOf i).toNat)
          case atStart =>
            refine ⟨0, [], b9, l9, none, 0, rfl, rfl, Nat.le_refl _, fun _ => by have := HL9.out; omega, by decide, ?_, H30.out.2.1, fun hb => ⟨hb, Nat.zero_le _, ?_⟩, fun hb => .inl hb⟩
            · obtain ⟨ao, cap, q1, q2, q3, q4, q5⟩ := H30.out.1
              exact ⟨ao, cap, (q1.nil_own (e := 9) (sz := 1)).perm (show own 9 1 (.slice none 0 0) 0 [] * _ = _ * (own 9 1 (.slice none 0 0) 0 (namesV []) * _) by rw [show namesV [] = [] from rfl]; ac_rfl), q2, q3, q4, fun w' h => q5 w' h.right⟩
            · rw [Nat.sub_zero]
              cases rdMany rdName N9 q2 l9 with
              | none => rfl
              | some r => rfl
          case round =>
            obtain ⟨k, ns, bad, m0, an, cn, rfl, hak, hll, hlen, hk5, h9', hb9', hgd, hbd⟩ := hrel
            have hN63' : (N9 : Int) ≤ 8796093022208 := H30.out.2.2.2
            have key : ¬ (k < N9 ∧ bad = false) → RnoEnd w R F4 gr g9 nm pa pf pr (.slice ac kc cc) (.slice ai kd ci) lf2 q2 b9 N9 l9 wr := by
              intro hne
              have hcn : k ≤ cn := by
                obtain ⟨_, _, q1, _⟩ := h9'
                obtain ⟨_, _, e1, e2⟩ := slice_val q1.right
                cases e1
                exact e2
              refine ⟨k, ns, bad, m0, an, cn, hak, hll, hcn, hk5, h9', hb9', fun hb => ?_, hbd⟩
              obtain ⟨u1, u2, u3⟩ := hgd hb
              refine ⟨u1, ?_⟩
              rw [u3, show N9 - k = 0 by have : ¬ k < N9 := fun h => hne ⟨h, hb⟩; omega]
              simp [rdMany, joinM]
            have HKEY := Lib.hid key
            clear key
            by_cases hkN : k < N9
            case neg =>
              have e0 : decide (k < N9) = false := by rw [decide_eq_false_iff_not]; exact hkN
              have e0' : decide ((k : Int) < (N9 : Int)) = false := by rw [decide_eq_false_iff_not]; omega
              have HE := Lib.hid (HKEY.out (fun h => hkN h.1))
              clear hkN hak hll hlen hk5 h9' hb9' hgd hbd HKEY
              go_wp2_with fail
              go_meet
              case rel => exact HE.out
            have e0 : decide (k < N9) = true := by rw [decide_eq_true_eq]; exact hkN
            have e0' : decide ((k : Int) < (N9 : Int)) = true := by rw [decide_eq_true_eq]; omega
            cases hbb : bad with
            | true =>
              have c1 := h9'.bads.1
              rw [hbb] at c1
              have HE := Lib.hid (HKEY.out (fun h => by rw [hbb] at h; cases h.2))
              clear hkN hak hll hlen hk5 h9' hb9' hgd hbd HKEY hbb
              go_wp2_with fail
              go_meet
              case rel => exact HE.out
            | false =>
              rw [hbb] at h9'
              have hbad1 := hbb
              clear hbb HKEY
              subst hbad1
              have c1 := h9'.bads.1
              obtain ⟨hg1, hg2, hg3⟩ := hgd (by trivial)
              have hlen' := hlen (by trivial)
              obtain ⟨F5, hF5⟩ : ∃ F : HP, F = own 9 1 (.slice an k cn) k (namesV ns) * (blk g9 (prO [.string nm, .int .i64 pa, .int .i64 pf, .bool pr, .slice ac kc cc, .slice ai kd ci, .slice an k cn]) * F4) := ⟨_, rfl⟩
              rw [← hF5] at h9'
              have hF5c : ∀ w', sat w' F5 → w'.cell? ⟨g9, 6, none⟩ = some (.slice an k cn) := fun w' h => by rw [hF5] at h; exact (h.right.left.cell 6).trans rfl
              have hA := fun (w' : World) (h : RfAt w' R F5 gr false m0 lf2) => rf_num w' R F5 gr false m0 lf2 h
              have hT := fun (w' : World) (bx : Bool) (m1 : List Int) (yn : Nat) (h : RfAt w' R F5 gr bx m1 lf2) => rf_take_any w' R F5 gr bx m1 lf2 yn (yn : Int) rfl h
              have o1 : ∀ (w3 : World) (s : ByteArray) (bad9 : Bool) (m5 : List Int), RfAt w3 R F5 gr bad9 m5 lf2 →
                  w3.cell? ⟨g9, 6, none⟩ = some (.slice an k cn) ∧ (w3.alloc (.cells #[.string s] 9)).cell? ⟨g9, 6, none⟩ = some (.slice an k cn) ∧
                  (∀ (j' : Nat) u, [Value.string s][j']? = some u → (w3.alloc (.cells #[.string s] 9)).cell? ((⟨w3.heap.size, 0, none⟩ : Addr).add j') = some u) ∧
                  ∃ ao cap, sat (w3.alloc (.cells #[.string s] 9)) (own 9 1 (.slice an k cn) k (namesV ns) * (blk w3.heap.size (.cells #[.string s] 9 (0, 0)) * (blk gr (.cells #[.slice ao m5.length cap, .bool bad9, .int .i64 lf2] 80 (0, 0)) * (blk g9 (prO [.string nm, .int .i64 pa, .int .i64 pf, .bool pr, .slice ac kc cc, .slice ai kd ci, .slice an k cn]) * F4)))) ∧ m5.length ≤ cap ∧ (∀ w', sat w' R → CellsAt w' ao (m5.map bv)) ∧ Bytes m5 := by
                rintro w3 s bad9 m5 ⟨ao, cap, q1', q2, q3, q4, q5⟩
                have h2 := q1'.alloc (.cells #[.string s] 9)
                refine ⟨hF5c _ q1'.right, hF5c _ h2.right.right, ?_, ao, cap, h2.perm (by rw [hF5]; ac_rfl), q2, q3, q4⟩
                intro j' u hu
                rw [addz_j, h2.left.cell j', ← hu]
                simp
              have o2 : ∀ (w9 : World) (bl : Nat) (o o2 : Obj) (b7 c7 : Nat) (xs : List Value) (X : HP), sat w9 (row 9 1 b7 c7 xs * (blk bl o * (blk gr o2 * (blk g9 (prO [.string nm, .int .i64 pa, .int .i64 pf, .bool pr, .slice ac kc cc, .slice ai kd ci, .slice an k cn]) * X)))) →
                  w9.cell? ⟨g9, 6, none⟩ = some (.slice an k cn) ∧ w9.frozen? ⟨g9, 6, none⟩ = false := fun w9 bl o o2 b7 c7 xs X h => ⟨(h.right.right.right.left.cell 6).trans rfl, h.right.right.right.left.frozen 6⟩
              have c5 := hF5c wr h9'.fr
              have HO1 := Lib.hid (And.intro o1 (And.intro o2 hF5c))
              have HR := Lib.hid (And.intro hg1 (And.intro hg2 (And.intro hg3 (And.intro hlen' (And.intro hak (And.intro hll (And.intro hb9' hkN)))))))
              have HC := Lib.hid (And.intro hA (And.intro (show RfAt wr.drew R F5 gr false m0 lf2 from h9') hT))
              clear hg1 hg2 hg3 hlen' hak hll hb9' hkN hgd hbd hlen h9' hk5 o1 o2 hF5 hF5c hA hT hN63'
              go_upto_region 31 with (fail)
              clear c1 e0 e0'
              go_wp2_with fail
              go_region_law
                (first
                  | (go_simp; go_at_call 39; refine (HC.out.1 _ HC.out.2.1).mono ?_; rintro e w3' ⟨yi, bad8, m1, rfl, hyb, hsA, h3, hb3⟩; obtain ⟨yn, rfl⟩ : ∃ n : Nat, yi = n := ⟨yi.toNat, by omega⟩; have y1 := HO1.out.2.2 _ h3.fr)
                  | (go_simp; go_at_call 38; refine (HC.out.2.2 w3' bad8 m1 yn h3).mono ?_; rintro e w4' ⟨ro, kz, rc, zs, bad9, m5, rfl, hzl, hzc, hsB, h4, hb4⟩; have hcv := run_bytes_any (P := Try.prog) (cap := rc) 23 9 5 Try.underlying23 Try.underlying5 Try.underlying9 (w := w4') hzl (hzc w4' (h4.sub _ h4.fr)); obtain ⟨sn, hsn⟩ : ∃ s, strOfNums zs = s := ⟨_, rfl⟩; rw [hsn] at hcv hsB; obtain ⟨y2, y3, y4, ao, cap, y5, y6, y7, y8⟩ := HO1.out.1 w4' sn bad9 m5 h4)
                  | (refine step_append_sat rfl (.tmp 142) (.tmp 148) 36 rfl 9 i2 (.string ⟨#[]⟩) 1 16 Try.underlying36 KI.out.1 KI.out.2.1 KI.out.2.2.1 KI.out.2.2.2 rfl _ k (namesV ns) (by rfl) _ y5 ⟨w4'.heap.size, 0, none⟩ 1 1 [.string sn] (by rfl) rfl y4 (by intro u hu; simp at hu; subst hu; rfl) (by have := HR.out.2.2.2.1; omega) (by have := HR.out.2.2.2.1; unfold maxLen; omega) (by omega) ?_; intro bb7 c7 w9' hs9 hc9 hb9; obtain ⟨z5, z6⟩ := HO1.out.2.1 _ _ _ _ _ _ _ _ hs9))
              all_goals (
                have hs10 : sat w9' (blk g9 (prO [.string nm, .int .i64 pa, .int .i64 pf, .bool pr, .slice ac kc cc, .slice ai kd ci, .slice an k cn]) * (blk gr (.cells #[.slice ao m5.length cap, .bool bad9, .int .i64 lf2] 80 (0, 0)) * (row 9 1 bb7 c7 (namesV ns ++ [.string sn]) * F4))) := (show sat w9' (blk w4'.heap.size (.cells #[.string sn] 9 (0, 0)) * _) from hs9.perm (by ac_rfl)).right
                have hs11 : sat (w9'.setCell ⟨g9, 6, none⟩ (.slice (some ⟨bb7, 0, none⟩) (k + 1) c7)) (blk g9 (prO [.string nm, .int .i64 pa, .int .i64 pf, .bool pr, .slice ac kc cc, .slice ai kd ci, .slice (some ⟨bb7, 0, none⟩) (k + 1) c7]) * (blk gr (.cells #[.slice ao m5.length cap, .bool bad9, .int .i64 lf2] 80 (0, 0)) * (row 9 1 bb7 c7 (namesV ns ++ [.string sn]) * F4))) := hs10.setCell (off := 6) _
                have hb11 : Below 0 w (w9'.setCell ⟨g9, 6, none⟩ (.slice (some ⟨bb7, 0, none⟩) (k + 1) c7)) := ((((HR.out.2.2.2.2.2.2.1.drew.trans hb3).trans hb4).trans (Below.zero_alloc _ _)).trans hb9).setCell (p := ⟨g9, 6, none⟩) (Nat.zero_le _) _
                have HF := Lib.hid (And.intro hs11 (And.intro hb11 (And.intro (name_end (p := q2) hsA hsB) (And.intro hc9 (And.intro y6 (And.intro y7 (And.intro y8 (And.intro hsA.2.2 hsB.2.2))))))))
                clear hs9 hs10 hs11 hb11 hb3 hb4 hb9 h3 h4 y1 y2 y3 y4 y5 y6 y7 y8 z5 z6 hsA hsB hyb hzl hzc hcv hsn hc9 HO1 HC
                have hkw : IntKind.i64.wrap ((k : Int) + 1) = (k : Int) + 1 := IntWalk.i64_in _ (by have := HR.out.2.2.2.1; omega)
                have hkw2 : wrap64 ((k : Int) + 1) = (k : Int) + 1 := IntWalk.wrap64_in _ (by have := HR.out.2.2.2.1; omega)
                go_wp2_with fail
                go_roundw
                case rel =>
                  obtain ⟨g1, g2', g3, g4', g5', g6, g7, g8', g9'⟩ := HF.out
                  obtain ⟨x1, x2, x3, x4, x5, x6, x7, x8⟩ := HR.out
                  have hnv : namesV (ns ++ [sn]) = namesV ns ++ [.string sn] := by unfold namesV; simp
                  have hfl : (namesV ns ++ [Value.string sn]).length = (k + 1) * 1 := by rw [← hnv]; unfold namesV; simp [x5]
                  have g8 := sat.shut_own (n := k + 1) hfl g4' (g1.perm (show _ = row 9 1 bb7 c7 _ * (blk g9 _ * (blk gr _ * F4)) by ac_rfl))
                  have hRF : RfAt (w9'.setCell ⟨g9, 6, none⟩ (.slice (some ⟨bb7, 0, none⟩) (k + 1) c7)) R (own 9 1 (.slice (some ⟨bb7, 0, none⟩) (k + 1) c7) (k + 1) (namesV (ns ++ [sn])) * (blk g9 (prO [.string nm, .int .i64 pa, .int .i64 pf, .bool pr, .slice ac kc cc, .slice ai kd ci, .slice (some ⟨bb7, 0, none⟩) (k + 1) c7]) * F4)) gr bad9 m5 lf2 := by
                    rw [hnv]
                    exact ⟨ao, cap, g8.perm (by ac_rfl), g5', g6, g7, fun w' h => HC3.out.2.2.2.2.2.2.2.2.1 w' h.right.right⟩
                  refine ⟨k + 1, ns ++ [sn], bad9, m5, some ⟨bb7, 0, none⟩, c7, rfl, by simp [x5], by omega, fun hb => by have := (g3.1 hb).2; omega, by omega, hRF, g2', fun hb => ⟨x1, by omega, ?_⟩, fun hb => .inr ?_⟩
                  · rw [x3, show N9 - k = (N9 - (k + 1)) + 1 by omega]
                    exact joinM_next (g3.1 hb).1
                  · rw [x3, show N9 - k = (N9 - (k + 1)) + 1 by omega]
                    exact joinM_no (g3.2 hb)
                case measure =>
                  have := HR.out.2.2.2.2.2.2.2
                  simp [intOf]; omega)
        case rest =>
        obtain ⟨kn, ns, b10, l10, an, cn, hn1, hn2, hn3, hn4, h33, hb33, hn5⟩ := hcut
        have h34 : RfAt wc R (blk g9 (prO ([.string nm, .int .i64 pa, .int .i64 pf, .bool pr, .slice ac kc cc, .slice ai kd ci, .slice an kn cn] : List Value)) * (own 9 1 (.slice an kn cn) kn (namesV ns) * F4)) gr b10 l10 lf2 := h33.perm (by ac_rfl)
        have HC4 := Lib.hid (And.intro hn1 (And.intro hn2 (And.intro hn3 (And.intro hn4 (And.intro hn5 hb33)))))
        clear hn1 hn2 hn3 hn4 hn5 h33 hb33
        obtain ⟨c0, c1, c2, c3, c4, c5, c6⟩ := cellsP h34.fr
        obtain ⟨ao', cap', q1, r2, r3, r4, r5⟩ := h34
        have q6 := q1.alloc (prO ([.string nm, .int .i64 pa, .int .i64 pf, .bool pr, .slice ac kc cc, .slice ai kd ci, .slice an kn cn] : List Value))
        have q7 : sat (wc.alloc (prO ([.string nm, .int .i64 pa, .int .i64 pf, .bool pr, .slice ac kc cc, .slice ai kd ci, .slice an kn cn] : List Value))) (own 38 7 (.slice so j sc) j css.flatten * ((blk wc.heap.size (prO ([.string nm, .int .i64 pa, .int .i64 pf, .bool pr, .slice ac kc cc, .slice ai kd ci, .slice an kn cn] : List Value)) * blk g9 (prO ([.string nm, .int .i64 pa, .int .i64 pf, .bool pr, .slice ac kc cc, .slice ai kd ci, .slice an kn cn] : List Value))) * (blk gr (.cells #[.slice ao' l10.length cap', .bool b10, .int .i64 lf2] 80 (0, 0)) * ((own 41 3 (.slice ac kc cc) kc (codeV code) * (own 9 1 (.slice an kn cn) kn (namesV ns) * (own 59 7 (.slice ai kd ci) kd css2.flatten * MD))) * (M * R))))) := q6.perm (by rw [HC3.out.2.2.2.2.2.2.2.1, HC2.out.2.2.2.2.2.2.1, HFF.out.1]; ac_rfl)
        have hcl : CellsAt (wc.alloc (prO ([.string nm, .int .i64 pa, .int .i64 pf, .bool pr, .slice ac kc cc, .slice ai kd ci, .slice an kn cn] : List Value))) (some ⟨wc.heap.size, 0, none⟩) ([.string nm, .int .i64 pa, .int .i64 pf, .bool pr, .slice ac kc cc, .slice ai kd ci, .slice an kn cn] : List Value) := by
          intro j u hj
          refine ⟨_, rfl, ?_⟩
          rw [addz_j, q6.left.cell j, ← hj]
          simp
        have HQ := Lib.hid (And.intro q7 (And.intro hcl (And.intro r2 (And.intro r3 (And.intro r4 (HC4.out.2.2.2.2.2.trans (Below.zero_alloc wc (prO ([.string nm, .int .i64 pa, .int .i64 pf, .bool pr, .slice ac kc cc, .slice ai kd ci, .slice an kn cn] : List Value)))))))))
        clear q1 r2 r3 r4 r5 q6 q7 hcl
        go_wp2_with (at_builtin; refine hold ?_)
        refine held ?_
        obtain ⟨hi, hz0, hz1, hz2⟩ := HI.out
        refine wpList_append_opt rfl (.tmp 151) (.tmp 153) 22 rfl 38 i0 zeroPr 7 112 Try.underlying22 hi hz0 hz1 hz2 rfl (by decide) (.slice so j sc) j css.flatten rfl _ (some ⟨wc.heap.size, 0, none⟩) 1 1 ([.string nm, .int .i64 pa, .int .i64 pf, .bool pr, .slice ac kc cc, .slice ai kd ci, .slice an kn cn] : List Value) rfl ?_ HQ.out.1 rfl HQ.out.2.1 (by intro u hu; simp at hu; rcases hu with rfl | rfl | rfl | rfl | rfl | rfl | rfl <;> rfl) (by have := HG.out.2.2.2.2.2.2.2.2.2.2.2.2.2; omega) (by have := HG.out.2.2.2.2.2.2.2.2.2.2.2.2.2; unfold maxLen; omega)
        clear hi hz0 hz1 hz2 c0 c1 c2 c3 c4 c5 c6
        intro v10 w40 h40 hb40
        obtain ⟨so2, sc2, rfl, hsc2⟩ := slice_val h40
        have H40 := Lib.hid (And.intro h40 (HQ.out.2.2.2.2.2.trans hb40))
        clear h40 hb40 hsc2
        have hjw : IntKind.i64.wrap ((j : Int) + 1) = (j : Int) + 1 := IntWalk.i64_in _ (by have := HG.out.2.2.2.2.2.2.2.2.2.2.2.2.2; omega)
        have hjw2 : wrap64 ((j : Int) + 1) = (j : Int) + 1 := IntWalk.wrap64_in _ (by have := HG.out.2.2.2.2.2.2.2.2.2.2.2.2.2; omega)
        go_wp2_with fail
        go_roundw
        case rel =>
          obtain ⟨u1, u2, u3, u4, u5, u6, u7, u8, u9, u10, u11, u12, u13, u14⟩ := HG.out
          obtain ⟨hc1, hc2, hc3, hc4, hc5, hc8, _⟩ := HC2.out
          obtain ⟨hd1, hd2, hd3, hd4, hd5, hd8, hd9, _⟩ := HC3.out
          obtain ⟨hn1, hn2, hn3, hn4, hn5, _⟩ := HC4.out
          have hpe := proto_end H5.out.2.2 H7.out.2.2.1 H9.out.2.2 H11.out.2.2.1 H12.out.2.2.1 hc8 H20.out.2.2.1 hd8 H30.out.2.2.1 hn5
          have hl10 : l10.length ≤ l4.length := by
            have := H5.out.2.2.2.2; have := H7.out.2.2.1.2.2; have := H9.out.2.2.2.2; have := H11.out.2.2.1.2.2; have := H12.out.2.2.1.2.2; have := H20.out.2.2.1.2.2; have := H30.out.2.2.1.2.2
            omega
          have hfl7 : (css ++ [([.string nm, .int .i64 pa, .int .i64 pf, .bool pr, .slice ac kc cc, .slice ai kd ci, .slice an kn cn] : List Value)]).flatten = css.flatten ++ ([.string nm, .int .i64 pa, .int .i64 pf, .bool pr, .slice ac kc cc, .slice ai kd ci, .slice an kn cn] : List Value) := by rw [List.flatten_append, List.flatten_cons, List.flatten_nil, List.append_nil]
          have hRF : RfAt w40 R (own 38 7 (.slice so2 (j + 1) sc2) (j + 1) (css ++ [([.string nm, .int .i64 pa, .int .i64 pf, .bool pr, .slice ac kc cc, .slice ai kd ci, .slice an kn cn] : List Value)]).flatten * (((own 41 3 (.slice ac kc cc) kc (codeV code) * (own 9 1 (.slice an kn cn) kn (namesV ns) * (own 59 7 (.slice ai kd ci) kd css2.flatten * MD))) * M) * R)) gr b10 l10 lf2 := by
            rw [hfl7]
            refine ⟨ao', cap', ?_, HQ.out.2.2.1, HQ.out.2.2.2.1, HQ.out.2.2.2.2.1, fun w' h => h.right.right⟩
            exact (H40.out.1.perm (show _ = (blk wc.heap.size _ * blk g9 _) * (blk gr _ * (own 38 7 _ _ (css.flatten ++ _) * (((own 41 3 (.slice ac kc cc) kc (codeV code) * (own 9 1 (.slice an kn cn) kn (namesV ns) * (own 59 7 (.slice ai kd ci) kd css2.flatten * MD))) * M) * R))) by ac_rfl)).right
          have hc77 : ∀ cs ∈ css ++ [([.string nm, .int .i64 pa, .int .i64 pf, .bool pr, .slice ac kc cc, .slice ai kd ci, .slice an kn cn] : List Value)], cs.length = 7 := by
            intro cs hcs
            rcases List.mem_append.1 hcs with h | h
            · exact u10 cs h
            · simp at h; subst h; rfl
          cases hb : b10 with
          | true =>
            rw [hb] at hRF
            refine ⟨j + 1, ps, q, true, l10, lf2, so2, sc2, css ++ [([.string nm, .int .i64 pa, .int .i64 pf, .bool pr, .slice ac kc cc, .slice ai kd ci, .slice an kn cn] : List Value)], (own 41 3 (.slice ac kc cc) kc (codeV code) * (own 9 1 (.slice an kn cn) kn (namesV ns) * (own 59 7 (.slice ai kd ci) kd css2.flatten * MD))) * M, rfl, rfl, by simp [u9], hc77, by omega, (fun h => by cases h), by omega, hRF, H40.out.2, (fun h => by cases h), fun _ => .inr ?_⟩
            rw [u7, show N - j = (N - (j + 1)) + 1 by omega]
            exact joinM_no (hpe.2 hb)
          | false =>
            rw [hb] at hRF
            have hrp := hpe.1 hb
            have hbd := rdProto_bd hrp
            obtain ⟨e9, _⟩ := hn5.1 hb
            obtain ⟨e8, _⟩ := H30.out.2.2.1.good e9
            obtain ⟨k1, k2, k3, k4⟩ := hd9 e8
            have hpz : prSizes (ps ++ [⟨nm, pa, pf, pr, code, ds, ns⟩]) = prSizes ps + (⟨nm, pa, pf, pr, code, ds, ns⟩ : Pr).size := by unfold prSizes; simp
            refine ⟨j + 1, ps ++ [⟨nm, pa, pf, pr, code, ds, ns⟩], q2, false, l10, lf2, so2, sc2, css ++ [([.string nm, .int .i64 pa, .int .i64 pf, .bool pr, .slice ac kc cc, .slice ai kd ci, .slice an kn cn] : List Value)], (own 41 3 (.slice ac kc cc) kc (codeV code) * (own 9 1 (.slice an kn cn) kn (namesV ns) * (own 59 7 (.slice ai kd ci) kd css2.flatten * MD))) * M, rfl, rfl, by simp [u9], hc77, by omega, fun _ => by rw [hpz]; omega, by omega, hRF, H40.out.2, fun _ => ⟨u1, by omega, k1, k2, by simp [u5], ?_, ?_⟩, (fun h => by cases h)⟩
            · refine u6.snoc ⟨ac, cc, ai, ci, an, cn, own 59 7 (.slice ai kd ci) kd css2.flatten * MD, ?_, ⟨?_, ?_⟩, hc2, k4, by simp only []; omega, by simp only []; omega, by simp only []; omega, ?_⟩
              · simp only [hc1, k3, hn1]
              · have := H7.out.2.2.2; unfold i64b; simp only []; omega
              · have := H11.out.2.2.2; unfold i64b; simp only []; omega
              · simp only [hc1, hn1]
            · rw [u7, show N - j = (N - (j + 1)) + 1 by omega]
              exact joinM_next hrp
        case measure =>
          have := HG.out.2.2.2.2.2.2.2.2.2.2.2.2.1
          simp [intOf]; omega
end Go.Proofs.Ytkjfplldfjmbaaa
