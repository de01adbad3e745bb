/- num: of, bits, zero, cmp. num: told, sign. num: sign, add of two. num.Add of some. num: Of, Neg, Sub, Cmp. num: Sub, Cmp. num: Small. -/
import Derived.Test.YtkjfplldfjmbaaaNumNat
import Derived.Test.YtkjfplldfjmbaaaRowsIn
/- num: of, bits, zero, cmp. -/
namespace Go.Proofs.Ytkjfplldfjmbaaa
open Go.RowKit

/-- It answers v, and touches nothing that was there. -/
def Keeps (v : Value) (w : World) (e : Ending) (w' : World) : Prop := e = .returned v ∧ Below w.heap.size w w'
/-- Limbs that can be read wherever R lies. -/
structure LimbsR (R : HP) (sl : Value) (l : List Int) : Prop where
  ex : ∃ ao cap, sl = .slice ao l.length cap ∧ l.length ≤ cap ∧ ∀ w, sat w R → LimbsW w ao l
  lim : Limbs l
  bd : l.length ≤ 35184372087808
theorem LimbsR.nil (R : HP) : LimbsR R (.slice none 0 0) [] := ⟨⟨none, 0, rfl, Nat.le_refl _, fun w _ j x hx => by simp at hx⟩, fun x hx => by simp at hx, by decide⟩
theorem LimbsR.more {R Q : HP} {sl : Value} {l : List Int} (h : LimbsR R sl l) (e : ∀ w, sat w Q → sat w R) : LimbsR Q sl l := by
  obtain ⟨⟨ao, cap, h1, h2, h3⟩, h4, h5⟩ := h
  exact ⟨⟨ao, cap, h1, h2, fun w hw => h3 w (e w hw)⟩, h4, h5⟩
theorem LimbsR.own {w : World} {R : HP} {v : Value} {l : List Int} (h : sat w (own 66 1 v l.length (l.map u32v) * R)) (hl : Limbs l) (hb : l.length ≤ 35184372087808) : LimbsR (Go.Proofs.Ytkjfplldfjmbaaa.own 66 1 v l.length (l.map u32v) * R) v l := by
  rcases h.open_own.2 with ⟨h1, h2, _⟩ | ⟨b, cap, h1, h2, _⟩
  · exact ⟨⟨none, 0, by rw [h1, h2], by omega, fun w' hw' => limbs_own (by rw [h1, h2]) hw'⟩, hl, hb⟩
  · exact ⟨⟨_, cap, h1, h2, fun w' hw' => limbs_own h1 hw'⟩, hl, hb⟩
theorem alloc_below (w : World) (o : Obj) : Below w.heap.size w (w.alloc o) := (Below.refl _ w).alloc (Nat.le_refl _) o
theorem bthen {w w1 w2 : World} (h : Below w.heap.size w w1) (g : Below w1.heap.size w1 w2) : Below w.heap.size w w2 := h.trans (g.mono h.size)

theorem drewN_below (w : World) (n : Nat) : Below w.heap.size w (w.drewN n) := ⟨rfl, rfl, rfl, Nat.le_refl _, fun _ _ => rfl⟩
set_option maxRecDepth 100000 in
theorem num_of (w : World) (n : Bool) (ao : Option Addr) (l c : Nat) :
    Calls Try.prog 61 #[.agg #[.bool n, .slice ao l c]] w (Keeps (.agg #[.slice ao l c, .bool n]) w) := by
  go_enter Try.func61, Try.ntmps61
  go_wp2_with fail
  refine bodyPost_ret (v := .agg #[.slice ao l c, .bool n]) (by simp [results, Try.results61, go_sem]) rfl ⟨rfl, bthen (alloc_below _ _) (alloc_below _ _)⟩
theorem LimbsW.cells {w w' : World} {ao : Option Addr} {l : List Int} (h : LimbsW w ao l) (hb : Below w.heap.size w w') : LimbsW w' ao l := by
  intro j x hx
  obtain ⟨a, ha, hc⟩ := h j x hx
  exact ⟨a, ha, (World.cell?_of_block (hb.block _ (World.block_lt_of_cell? w _ hc))).trans hc⟩
theorem LimbsW.drewN {w : World} {ao : Option Addr} {l : List Int} (h : LimbsW w ao l) (n : Nat) : LimbsW (w.drewN n) ao l := h
set_option maxRecDepth 100000 in
theorem size_bits (w : World) (ao : Option Addr) (ca : Nat) (a : List Int) (ha : LimbsW w ao a) (la : Limbs a) (na : a.length ≤ 70368744177664) (hca : a.length ≤ ca) :
    Calls Try.prog 73 #[.agg #[.slice ao a.length ca]] w (Keeps (.int .i64 (bitsN (valL a))) w) := by
  have hB := nat_Bits (w.alloc (.cells #[.slice ao a.length ca] 102)) ao ca a (ha.cells (alloc_below _ _)) la na hca
  clear ha la
  generalize hbn : bitsN (valL a) = bn at *
  clear hbn
  go_enter Try.func73, Try.ntmps73
  go_wp2_with fail
  refine hB.mono ?_
  rintro e w' ⟨rfl, j, rfl⟩
  go_wp2_with fail
  go_ret
  exact ⟨rfl, bthen (alloc_below w _) (drewN_below _ _)⟩
set_option maxRecDepth 100000 in
theorem size_zero (w : World) (ao : Option Addr) (ca : Nat) (a : List Int) (ha : LimbsW w ao a) (la : Limbs a) (na : a.length ≤ 70368744177664) (hca : a.length ≤ ca) :
    Calls Try.prog 68 #[.agg #[.slice ao a.length ca]] w (Keeps (.bool (decide (valL a = 0))) w) := by
  have hB := size_bits (w.alloc (.cells #[.slice ao a.length ca] 102)) ao ca a (ha.cells (alloc_below _ _)) la na hca
  have hb : (((bitsN (valL a) : Nat) : Int) == 0) = decide (valL a = 0) := by
    have := bits_le (valL a) 0
    by_cases h : valL a = 0
    · rw [h]; rfl
    · rw [decide_eq_false h, beq_eq_false_iff_ne]
      omega
  clear ha la
  generalize decide (valL a = 0) = bb at *
  generalize bitsN (valL a) = bn at *
  go_enter Try.func68, Try.ntmps68
  go_wp2_with fail
  refine hB.mono ?_
  rintro e w' ⟨rfl, hb2⟩
  go_wp2_with fail
  go_ret
  exact ⟨rfl, bthen (alloc_below w _) hb2⟩
set_option maxRecDepth 100000 in
theorem size_cmp (w : World) (ao bo : Option Addr) (ca cb : Nat) (a b : List Int) (ha : LimbsW w ao a) (hb : LimbsW w bo b) (la : Limbs a) (lb : Limbs b) (na : a.length ≤ 70368744177664) (nb : b.length ≤ 70368744177664) (hca : a.length ≤ ca) (hcb : b.length ≤ cb) :
    Calls Try.prog 66 #[.agg #[.slice ao a.length ca], .agg #[.slice bo b.length cb]] w (Keeps (.int .i64 (cmpN (valL a) (valL b))) w) := by
  have hB := nat_Cmp ((w.alloc (.cells #[.slice ao a.length ca] 102)).alloc (.cells #[.slice bo b.length cb] 102)) ao bo ca cb a b (ha.cells (bthen (alloc_below _ _) (alloc_below _ _))) (hb.cells (bthen (alloc_below _ _) (alloc_below _ _))) la lb na nb hca hcb
  clear ha la hb lb
  generalize cmpN (valL a) (valL b) = bn at *
  go_enter Try.func66, Try.ntmps66
  go_wp2_with fail
  refine hB.mono ?_
  rintro e w' ⟨rfl, j, rfl⟩
  go_wp2_with fail
  go_ret
  exact ⟨rfl, bthen (bthen (alloc_below w _) (alloc_below _ _)) (drewN_below _ _)⟩
end Go.Proofs.Ytkjfplldfjmbaaa

/- num: told, sign. -/
namespace Go.Proofs.Ytkjfplldfjmbaaa
open Go.RowKit

def sgn (n : Bool) (v : Nat) : Int := if n = true then -(v : Int) else v
theorem sat.keep {w w' : World} {P : HP} (h : sat w P) (hb : Below w.heap.size w w') : sat w' P := h.below hb
theorem b0 {w w' : World} (h : Below w.heap.size w w') : Below 0 w w' := h.mono (Nat.zero_le _)

set_option maxRecDepth 100000 in
set_option maxHeartbeats 1000000 in
theorem num_told {w : World} {R : HP} (hs : sat w R) (n : Bool) (ao : Option Addr) (ca : Nat) (a : List Int) (ha : ∀ w, sat w R → LimbsW w ao a) (la : Limbs a) (na : a.length ≤ 35184372087808) (hca : a.length ≤ ca) :
    Calls Try.prog 62 #[.agg #[.slice ao a.length ca, .bool n]] w fun e w' => ∃ sl, e = .returned (.agg #[.bool (decide (sgn n (valL a) < 0)), sl]) ∧ sat w' (own 66 1 sl (limbsOf (valL a)).length ((limbsOf (valL a)).map u32v) * R) ∧ Below 0 w w' := by
  have hs1 := (hs.alloc (.cells #[.slice ao a.length ca, .bool n] 104)).alloc (.cells #[.bool false, .slice none 0 0] 57)
  have hb1 : Below 0 w ((w.alloc (.cells #[.slice ao a.length ca, .bool n] 104)).alloc (.cells #[.bool false, .slice none 0 0] 57)) := (Below.zero_alloc _ _).trans (Below.zero_alloc _ _)
  have hsz : (w.alloc (.cells #[.slice ao a.length ca, .bool n] 104)).heap.size = w.heap.size + 1 := World.size_alloc _ _
  rw [hsz] at hs1
  have hZ := size_zero ((w.alloc (.cells #[.slice ao a.length ca, .bool n] 104)).alloc (.cells #[.bool false, .slice none 0 0] 57)) ao ca a (ha _ hs1.right.right) la (by omega) hca
  have HH := Lib.hid (And.intro hs1 (And.intro hb1 (And.intro ha la)))
  clear hs1 hb1 ha la hsz
  go_enter Try.func62, Try.ntmps62
  go_wp2_with fail
  generalize (w.alloc (.cells #[.slice ao a.length ca, .bool n] 104)).alloc (.cells #[.bool false, .slice none 0 0] 57) = w1 at *
  refine hZ.mono ?_
  rintro e w2 ⟨rfl, hb2⟩
  have hs2 := HH.out.1.below hb2
  have c1 : w2.cell? ⟨w.heap.size, 0, none⟩ = some (.slice ao a.length ca) := (hs2.right.left.cell 0).trans rfl
  have c2 : w2.cell? ⟨w.heap.size, 1, none⟩ = some (.bool n) := (hs2.right.left.cell 1).trans rfl
  have c3 : w2.cell? ⟨w.heap.size + 1, 0, none⟩ = some (.bool false) := (hs2.left.cell 0).trans rfl
  have c4 : w2.cell? ⟨w.heap.size + 1, 1, none⟩ = some (.slice none 0 0) := (hs2.left.cell 1).trans rfl
  have f3 := hs2.left.frozen 0
  have f4 := hs2.left.frozen 1
  by_cases hz : valL a = 0
  · have hd : decide (valL a = 0) = true := by simp [hz]
    rw [hd]
    go_wp2_with fail
    have hs3 := (hs2.setCell (off := 0) (.bool false)).setCell (off := 1) (.slice none 0 0)
    have hb3 : Below 0 w ((w2.setCell ⟨w.heap.size + 1, 0, none⟩ (.bool false)).setCell ⟨w.heap.size + 1, 1, none⟩ (.slice none 0 0)) := ((HH.out.2.1.trans (b0 hb2)).setCell (p := ⟨w.heap.size + 1, 0, none⟩) (Nat.zero_le _) _).setCell (p := ⟨w.heap.size + 1, 1, none⟩) (Nat.zero_le _) _
    clear c1 c2 c3 c4 f3 f4
    generalize (w2.setCell ⟨w.heap.size + 1, 0, none⟩ (.bool false)).setCell ⟨w.heap.size + 1, 1, none⟩ (.slice none 0 0) = w3 at *
    have r0 : w3.cell? ⟨w.heap.size + 1, 0, none⟩ = some (.bool false) := (hs3.left.cell 0).trans rfl
    have r1 : w3.cell? ⟨w.heap.size + 1, 1, none⟩ = some (.slice none 0 0) := (hs3.left.cell 1).trans rfl
    have hd2 : decide (sgn n (valL a) < 0) = false := by rw [hz]; unfold sgn; cases n <;> rfl
    refine bodyPost_ret (v := .agg #[.bool false, .slice none 0 0]) (by simp [results, Try.results62, go_sem, r0, r1]) rfl ⟨_, by rw [hd2], ?_, hb3⟩
    rw [hz, limbsOf_zero]
    exact hs3.right.right.nil_own
  · have hd : decide (valL a = 0) = false := by simp [hz]
    rw [hd]
    have hN := fun (w' : World) (h : sat w' (Go.Proofs.Ytkjfplldfjmbaaa.blk (w.heap.size + 1) (.cells #[.bool false, .slice none 0 0] 57 (0, 0)) * (Go.Proofs.Ytkjfplldfjmbaaa.blk w.heap.size (.cells #[.slice ao a.length ca, .bool n] 104 (0, 0)) * R))) => nat_Add h ao none ca 0 a [] (fun w hw => HH.out.2.2.1 w hw.right.right) (fun w _ j x hx => by simp at hx) HH.out.2.2.2 (fun x hx => by simp at hx) na (by decide)
    simp only [show valL [] = 0 from rfl, Nat.add_zero, List.length_nil] at hN
    have HN := Lib.hid (And.intro hN hs2)
    clear hN hs2
    go_wp2_with fail
    go_region_held3 (fun w' => w'.cell? ⟨w.heap.size, 0, none⟩ = some (.slice ao a.length ca) ∧ w'.cell? ⟨w.heap.size, 1, none⟩ = some (.bool n))
      (first | go_keep | exact k9)
      (first
        | (go_at_call 65; refine (HN.out.1 _ HN.out.2.drew).mono ?_; rintro e w3 ⟨v, rfl, hs3, hb3⟩; obtain ⟨av, cv, rfl⟩ := own_val hs3; have k9 := And.intro ((hs3.right.right.left.cell 0).trans (rfl : _ = some (Value.slice ao a.length ca))) ((hs3.right.right.left.cell 1).trans (rfl : _ = some (Value.bool n))); have d3 : w3.cell? ⟨w.heap.size + 1, 0, none⟩ = some (.bool false) := (hs3.right.left.cell 0).trans rfl; have d4 : w3.cell? ⟨w.heap.size + 1, 1, none⟩ = some (.slice none 0 0) := (hs3.right.left.cell 1).trans rfl; have e3 := hs3.right.left.frozen 0; have e4 := hs3.right.left.frozen 1))
    clear k9 c1 c2 c3 c4 f3 f4 d3 d4 e3 e4
    have hd2 : decide (sgn n (valL a) < 0) = n := by unfold sgn; cases n <;> simp <;> omega
    have hs4 := (show sat w3 (Go.Proofs.Ytkjfplldfjmbaaa.blk (w.heap.size + 1) (.cells #[.bool false, .slice none 0 0] 57 (0, 0)) * (own 66 1 (.slice av (limbsOf (valL a)).length cv) (limbsOf (valL a)).length ((limbsOf (valL a)).map u32v) * (Go.Proofs.Ytkjfplldfjmbaaa.blk w.heap.size (.cells #[.slice ao a.length ca, .bool n] 104 (0, 0)) * R))) from hs3.perm (by ac_rfl))
    have hs5 := (hs4.setCell (off := 0) (.bool n)).setCell (off := 1) (.slice av (limbsOf (valL a)).length cv)
    have hb5 : Below 0 w ((w3.setCell ⟨w.heap.size + 1, 0, none⟩ (.bool n)).setCell ⟨w.heap.size + 1, 1, none⟩ (.slice av (limbsOf (valL a)).length cv)) := (((HH.out.2.1.trans (b0 hb2)).drew.trans hb3).setCell (p := ⟨w.heap.size + 1, 0, none⟩) (Nat.zero_le _) _).setCell (p := ⟨w.heap.size + 1, 1, none⟩) (Nat.zero_le _) _
    have HF := Lib.hid (And.intro hs5 hb5)
    clear hs3 hs4 hs5 hb5 hb3
    rename_i hHeld
    clear hHeld
    go_wp2_with fail
    generalize (w3.setCell ⟨w.heap.size + 1, 0, none⟩ (.bool n)).setCell ⟨w.heap.size + 1, 1, none⟩ (.slice av (limbsOf (valL a)).length cv) = w4 at HF ⊢
    have r0 : w4.cell? ⟨w.heap.size + 1, 0, none⟩ = some (.bool n) := (HF.out.1.left.cell 0).trans rfl
    have r1 : w4.cell? ⟨w.heap.size + 1, 1, none⟩ = some (.slice av (limbsOf (valL a)).length cv) := (HF.out.1.left.cell 1).trans rfl
    refine bodyPost_ret (v := .agg #[.bool n, .slice av (limbsOf (valL a)).length cv]) (by simp [results, Try.results62, go_sem, r0, r1]) rfl ⟨_, by rw [hd2], ?_, HF.out.2⟩
    exact (show sat w4 (Go.Proofs.Ytkjfplldfjmbaaa.blk w.heap.size (.cells #[.slice ao a.length ca, .bool n] 104 (0, 0)) * (own 66 1 (.slice av (limbsOf (valL a)).length cv) (limbsOf (valL a)).length ((limbsOf (valL a)).map u32v) * R)) from HF.out.1.right.perm (by ac_rfl)).right
end Go.Proofs.Ytkjfplldfjmbaaa

/- num: sign, add of two. -/
namespace Go.Proofs.Ytkjfplldfjmbaaa
open Go.RowKit

def signN (n : Bool) (v : Nat) : Int := if v = 0 then 0 else if n = true then -1 else 1

def NumAddPost (R : HP) (s : Int) (w : World) (e : Ending) (w' : World) : Prop :=
  ∃ ao cap n m, e = .returned (.agg #[.slice ao (limbsOf m).length cap, .bool n]) ∧ sgn n m = s ∧ sat w' (own 66 1 (.slice ao (limbsOf m).length cap) (limbsOf m).length ((limbsOf m).map u32v) * R) ∧ Below 0 w w'
set_option maxRecDepth 100000 in
set_option maxHeartbeats 1000000 in
theorem num_add {w : World} {R : HP} (hs : sat w R) (n k : Bool) (ao bo : Option Addr) (ca cb : Nat) (a b : List Int) (ha : ∀ w, sat w R → LimbsW w ao a) (hb : ∀ w, sat w R → LimbsW w bo b) (la : Limbs a) (lb : Limbs b) (na : a.length ≤ 35184372087808) (nb : b.length ≤ 35184372087808) (hca : a.length ≤ ca) (hcb : b.length ≤ cb) :
    Calls Try.prog 60 #[.agg #[.slice ao a.length ca, .bool n], .agg #[.slice bo b.length cb, .bool k]] w (NumAddPost R (sgn n (valL a) + sgn k (valL b)) w) := by
  have hs1 := ((hs.alloc (.cells #[.slice ao a.length ca, .bool n] 104)).alloc (.cells #[.slice bo b.length cb, .bool k] 104)).alloc (.cells #[.slice none 0 0, .bool false] 104)
  have hb1 : Below 0 w (((w.alloc (.cells #[.slice ao a.length ca, .bool n] 104)).alloc (.cells #[.slice bo b.length cb, .bool k] 104)).alloc (.cells #[.slice none 0 0, .bool false] 104)) := ((Below.zero_alloc _ _).trans (Below.zero_alloc _ _)).trans (Below.zero_alloc _ _)
  simp only [World.size_alloc] at hs1
  obtain ⟨g, hg⟩ : ∃ g, w.heap.size = g := ⟨_, rfl⟩
  rw [hg] at hs1
  have HH := Lib.hid (And.intro hs1 (And.intro hb1 (And.intro ha (And.intro hb (And.intro la lb)))))
  clear hs1 hb1 ha hb la lb
  go_enter Try.func60, Try.ntmps60
  by_cases hnk : n = k
  · subst hnk
    have b1 : (n == n) = true := by cases n <;> rfl
    go_wp2_with fail
    generalize ((w.alloc (.cells #[.slice ao a.length ca, .bool n] 104)).alloc (.cells #[.slice bo b.length cb, .bool n] 104)).alloc (.cells #[.slice none 0 0, .bool false] 104) = w1 at HH ⊢
    have hN := fun (w' : World) (h : sat w' (Go.Proofs.Ytkjfplldfjmbaaa.blk (g + 2) (.cells #[.slice none 0 0, .bool false] 104 (0, 0)) * (Go.Proofs.Ytkjfplldfjmbaaa.blk (g + 1) (.cells #[.slice bo b.length cb, .bool n] 104 (0, 0)) * (Go.Proofs.Ytkjfplldfjmbaaa.blk g (.cells #[.slice ao a.length ca, .bool n] 104 (0, 0)) * R)))) => nat_Add h ao bo ca cb a b (fun w hw => HH.out.2.2.1 w hw.right.right.right) (fun w hw => HH.out.2.2.2.1 w hw.right.right.right) HH.out.2.2.2.2.1 HH.out.2.2.2.2.2 na nb
    have HN := Lib.hid (And.intro hN HH.out.1)
    have c1 : w1.cell? ⟨g, 0, none⟩ = some (.slice ao a.length ca) := (HN.out.2.right.right.left.cell 0).trans rfl
    have c2 : w1.cell? ⟨g, 1, none⟩ = some (.bool n) := (HN.out.2.right.right.left.cell 1).trans rfl
    have c3 : w1.cell? ⟨g + 1, 0, none⟩ = some (.slice bo b.length cb) := (HN.out.2.right.left.cell 0).trans rfl
    have c4 : w1.cell? ⟨g + 1, 1, none⟩ = some (.bool n) := (HN.out.2.right.left.cell 1).trans rfl
    clear hN
    have n1 : ¬ (g = g + 1 + 1) := by omega
    have n2 : ¬ (g + 1 + 1 = g) := by omega
    go_region_held3 (fun w' => w'.cell? ⟨g, 0, none⟩ = some (.slice ao a.length ca) ∧ w'.cell? ⟨g, 1, none⟩ = some (.bool n) ∧ w'.cell? ⟨g + 1, 0, none⟩ = some (.slice bo b.length cb))
      (first | go_keep | exact k9)
      (first
        | (go_at_call 65; refine (HN.out.1 _ HN.out.2.drew).mono ?_; rintro e w3 ⟨v, rfl, hs3, hb3⟩; obtain ⟨av, cv, rfl⟩ := own_val hs3; have k9 := And.intro ((hs3.right.right.right.left.cell 0).trans (rfl : _ = some (Value.slice ao a.length ca))) (And.intro ((hs3.right.right.right.left.cell 1).trans (rfl : _ = some (Value.bool n))) ((hs3.right.right.left.cell 0).trans (rfl : _ = some (Value.slice bo b.length cb)))); have d3 : w3.cell? ⟨g + 2, 0, none⟩ = some (.slice none 0 0) := (hs3.right.left.cell 0).trans rfl; have d4 : w3.cell? ⟨g + 2, 1, none⟩ = some (.bool false) := (hs3.right.left.cell 1).trans rfl; have e3 := hs3.right.left.frozen 0; have e4 := hs3.right.left.frozen 1))
    have hs4 := (show sat w3 (Go.Proofs.Ytkjfplldfjmbaaa.blk (g + 2) (.cells #[.slice none 0 0, .bool false] 104 (0, 0)) * (own 66 1 (.slice av (limbsOf (valL a + valL b)).length cv) (limbsOf (valL a + valL b)).length ((limbsOf (valL a + valL b)).map u32v) * (Go.Proofs.Ytkjfplldfjmbaaa.blk (g + 1) (.cells #[.slice bo b.length cb, .bool n] 104 (0, 0)) * (Go.Proofs.Ytkjfplldfjmbaaa.blk g (.cells #[.slice ao a.length ca, .bool n] 104 (0, 0)) * R)))) from hs3.perm (by ac_rfl))
    have hs5 := (hs4.setCell (off := 0) (.slice av (limbsOf (valL a + valL b)).length cv)).setCell (off := 1) (.bool n)
    have hb5 : Below 0 w ((w3.setCell ⟨g + 2, 0, none⟩ (.slice av (limbsOf (valL a + valL b)).length cv)).setCell ⟨g + 2, 1, none⟩ (.bool n)) := ((HH.out.2.1.drew.trans hb3).setCell (p := ⟨g + 2, 0, none⟩) (Nat.zero_le _) _).setCell (p := ⟨g + 2, 1, none⟩) (Nat.zero_le _) _
    have HF := Lib.hid (And.intro hs5 hb5)
    clear hs3 hs4 hs5 hb5 hb3 k9 c1 c2 c3 c4 d3 d4 e3 e4 n1 n2
    rename_i hHeld
    clear hHeld
    generalize (w3.setCell ⟨g + 1 + 1, 0, none⟩ (.slice av (limbsOf (valL a + valL b)).length cv)).setCell ⟨g + 1 + 1, 1, none⟩ (.bool n) = w4 at HF ⊢
    go_wp2_with fail
    have r0 : w4.cell? ⟨g + 1 + 1, 0, none⟩ = some (.slice av (limbsOf (valL a + valL b)).length cv) := (HF.out.1.left.cell 0).trans rfl
    have r1 : w4.cell? ⟨g + 1 + 1, 1, none⟩ = some (.bool n) := (HF.out.1.left.cell 1).trans rfl
    refine bodyPost_ret (v := .agg #[.slice av (limbsOf (valL a + valL b)).length cv, .bool n]) (by simp [results, Try.results60, go_sem, r0, r1]) rfl ⟨av, cv, n, valL a + valL b, rfl, by unfold sgn; cases n <;> simp <;> omega, ?_, HF.out.2⟩
    exact (show sat w4 ((Go.Proofs.Ytkjfplldfjmbaaa.blk (g + 1) (.cells #[.slice bo b.length cb, .bool n] 104 (0, 0)) * Go.Proofs.Ytkjfplldfjmbaaa.blk g (.cells #[.slice ao a.length ca, .bool n] 104 (0, 0))) * (own 66 1 (.slice av (limbsOf (valL a + valL b)).length cv) (limbsOf (valL a + valL b)).length ((limbsOf (valL a + valL b)).map u32v) * R)) from HF.out.1.right.perm (by ac_rfl)).right
  · have b1 : (n == k) = false := by cases n <;> cases k <;> simp_all
    have hc : ∀ w', Below w.heap.size w w' → _ := fun w' (hw : Below w.heap.size w w') => size_cmp w' ao bo ca cb a b (HH.out.2.2.1 w' (hs.below hw)) (HH.out.2.2.2.1 w' (hs.below hw)) HH.out.2.2.2.2.1 HH.out.2.2.2.2.2 (by omega) (by omega) hca hcb
    have hC := hc (((w.alloc (.cells #[.slice ao a.length ca, .bool n] 104)).alloc (.cells #[.slice bo b.length cb, .bool k] 104)).alloc (.cells #[.slice none 0 0, .bool false] 104)) (bthen (bthen (alloc_below _ _) (alloc_below _ _)) (alloc_below _ _))
    clear hc
    go_wp2_with fail
    generalize ((w.alloc (.cells #[.slice ao a.length ca, .bool n] 104)).alloc (.cells #[.slice bo b.length cb, .bool k] 104)).alloc (.cells #[.slice none 0 0, .bool false] 104) = w1 at HH hC ⊢
    refine hC.mono ?_
    rintro e w2 ⟨rfl, hb2⟩
    have hs2 := HH.out.1.below hb2
    have hb3 := HH.out.2.1.trans (b0 hb2)
    have c1 : w2.cell? ⟨g, 0, none⟩ = some (.slice ao a.length ca) := (hs2.right.right.left.cell 0).trans rfl
    have c2 : w2.cell? ⟨g, 1, none⟩ = some (.bool n) := (hs2.right.right.left.cell 1).trans rfl
    have c3 : w2.cell? ⟨g + 1, 0, none⟩ = some (.slice bo b.length cb) := (hs2.right.left.cell 0).trans rfl
    have c4 : w2.cell? ⟨g + 1, 1, none⟩ = some (.bool k) := (hs2.right.left.cell 1).trans rfl
    have f1 := hs2.right.right.left.frozen 0
    have f2 := hs2.right.right.left.frozen 1
    have f3 := hs2.right.left.frozen 0
    have f4 := hs2.right.left.frozen 1
    clear hC
    by_cases hlt : valL a < valL b
    · have hd : decide (cmpN (valL a) (valL b) < 0) = true := by unfold cmpN; rw [if_pos hlt]; decide
      generalize cmpN (valL a) (valL b) = cc at *
      have n1 : ¬ (g = g + 1) := by omega
      have n2 : ¬ (g + 1 = g) := by omega
      go_wp2_with fail
      have hs3 : sat ((((w2.setCell ⟨g, 0, none⟩ (.slice bo b.length cb)).setCell ⟨g, 1, none⟩ (.bool k)).setCell ⟨g + 1, 0, none⟩ (.slice ao a.length ca)).setCell ⟨g + 1, 1, none⟩ (.bool n)) (Go.Proofs.Ytkjfplldfjmbaaa.blk (g + 1 + 1) (.cells #[.slice none 0 0, .bool false] 104 (0, 0)) * (Go.Proofs.Ytkjfplldfjmbaaa.blk (g + 1) (.cells #[.slice ao a.length ca, .bool n] 104 (0, 0)) * (Go.Proofs.Ytkjfplldfjmbaaa.blk g (.cells #[.slice bo b.length cb, .bool k] 104 (0, 0)) * R))) := by
        have h1 := ((show sat w2 (Go.Proofs.Ytkjfplldfjmbaaa.blk g (.cells #[.slice ao a.length ca, .bool n] 104 (0, 0)) * (Go.Proofs.Ytkjfplldfjmbaaa.blk (g + 1) (.cells #[.slice bo b.length cb, .bool k] 104 (0, 0)) * (Go.Proofs.Ytkjfplldfjmbaaa.blk (g + 1 + 1) (.cells #[.slice none 0 0, .bool false] 104 (0, 0)) * R))) from hs2.perm (by ac_rfl)).setCell (off := 0) (.slice bo b.length cb)).setCell (off := 1) (.bool k)
        have h2 := ((show sat _ (Go.Proofs.Ytkjfplldfjmbaaa.blk (g + 1) (.cells #[.slice bo b.length cb, .bool k] 104 (0, 0)) * (Go.Proofs.Ytkjfplldfjmbaaa.blk g (.cells #[.slice bo b.length cb, .bool k] 104 (0, 0)) * (Go.Proofs.Ytkjfplldfjmbaaa.blk (g + 1 + 1) (.cells #[.slice none 0 0, .bool false] 104 (0, 0)) * R))) from h1.perm (by simp only [List.setIfInBounds_toArray, List.set_cons_zero, List.set_cons_succ]; ac_rfl)).setCell (off := 0) (.slice ao a.length ca)).setCell (off := 1) (.bool n)
        exact h2.perm (by simp only [List.setIfInBounds_toArray, List.set_cons_zero, List.set_cons_succ]; ac_rfl)
      have hb4 : Below 0 w ((((w2.setCell ⟨g, 0, none⟩ (.slice bo b.length cb)).setCell ⟨g, 1, none⟩ (.bool k)).setCell ⟨g + 1, 0, none⟩ (.slice ao a.length ca)).setCell ⟨g + 1, 1, none⟩ (.bool n)) := (((hb3.setCell (p := ⟨g, 0, none⟩) (Nat.zero_le _) _).setCell (p := ⟨g, 1, none⟩) (Nat.zero_le _) _).setCell (p := ⟨g + 1, 0, none⟩) (Nat.zero_le _) _).setCell (p := ⟨g + 1, 1, none⟩) (Nat.zero_le _) _
      generalize (((w2.setCell ⟨g, 0, none⟩ (.slice bo b.length cb)).setCell ⟨g, 1, none⟩ (.bool k)).setCell ⟨g + 1, 0, none⟩ (.slice ao a.length ca)).setCell ⟨g + 1, 1, none⟩ (.bool n) = w3 at hs3 hb4 ⊢
      have HS := Lib.hid (And.intro hs3 hb4)
      have hsub := nat_Sub hs3 bo ao cb ca b a (fun w hw => HH.out.2.2.2.1 w hw.right.right.right) (fun w hw => HH.out.2.2.1 w hw.right.right.right) HH.out.2.2.2.2.2 HH.out.2.2.2.2.1 (by omega) (by omega) hcb hca (by omega)
      clear hs3 hb4 c1 c2 c3 c4 f1 f2 f3 f4 hs2 hb3 n1 n2
      refine hsub.mono ?_
      rintro e w6 ⟨v6, rfl, hs6, hb6⟩
      obtain ⟨av, cv, rfl⟩ := own_val hs6
      obtain ⟨m, hm⟩ : ∃ m, valL b - valL a = m := ⟨_, rfl⟩
      rw [hm] at hs6 ⊢
      have d1 : w6.cell? ⟨g, 1, none⟩ = some (.bool k) := (hs6.right.right.right.left.cell 1).trans rfl
      have d3 : w6.cell? ⟨g + 1 + 1, 0, none⟩ = some (.slice none 0 0) := (hs6.right.left.cell 0).trans rfl
      have d4 : w6.cell? ⟨g + 1 + 1, 1, none⟩ = some (.bool false) := (hs6.right.left.cell 1).trans rfl
      have e3 := hs6.right.left.frozen 0
      have e4 := hs6.right.left.frozen 1
      have HQ := Lib.hid (And.intro hs6 (HS.out.2.trans hb6))
      clear hsub hs6 hb6
      go_wp2_with fail
      have hs7 := ((show sat w6 (Go.Proofs.Ytkjfplldfjmbaaa.blk (g + 1 + 1) (.cells #[.slice none 0 0, .bool false] 104 (0, 0)) * (own 66 1 (.slice av (limbsOf m).length cv) (limbsOf m).length ((limbsOf m).map u32v) * (Go.Proofs.Ytkjfplldfjmbaaa.blk (g + 1) (.cells #[.slice ao a.length ca, .bool n] 104 (0, 0)) * (Go.Proofs.Ytkjfplldfjmbaaa.blk g (.cells #[.slice bo b.length cb, .bool k] 104 (0, 0)) * R)))) from HQ.out.1.perm (by ac_rfl)).setCell (off := 0) (.slice av (limbsOf m).length cv)).setCell (off := 1) (.bool k)
      have hb7 : Below 0 w ((w6.setCell ⟨g + 1 + 1, 0, none⟩ (.slice av (limbsOf m).length cv)).setCell ⟨g + 1 + 1, 1, none⟩ (.bool k)) := (HQ.out.2.setCell (p := ⟨g + 1 + 1, 0, none⟩) (Nat.zero_le _) _).setCell (p := ⟨g + 1 + 1, 1, none⟩) (Nat.zero_le _) _
      generalize (w6.setCell ⟨g + 1 + 1, 0, none⟩ (.slice av (limbsOf m).length cv)).setCell ⟨g + 1 + 1, 1, none⟩ (.bool k) = w7 at hs7 hb7 ⊢
      have r0 : w7.cell? ⟨g + 1 + 1, 0, none⟩ = some (.slice av (limbsOf m).length cv) := (hs7.left.cell 0).trans rfl
      have r1 : w7.cell? ⟨g + 1 + 1, 1, none⟩ = some (.bool k) := (hs7.left.cell 1).trans rfl
      refine bodyPost_ret (v := .agg #[.slice av (limbsOf m).length cv, .bool k]) (by simp [results, Try.results60, go_sem, r0, r1]) rfl ⟨av, cv, k, m, rfl, by unfold sgn; cases n <;> cases k <;> simp_all <;> omega, ?_, hb7⟩
      exact (show sat w7 ((Go.Proofs.Ytkjfplldfjmbaaa.blk (g + 1) (.cells #[.slice ao a.length ca, .bool n] 104 (0, 0)) * Go.Proofs.Ytkjfplldfjmbaaa.blk g (.cells #[.slice bo b.length cb, .bool k] 104 (0, 0))) * (own 66 1 (.slice av (limbsOf m).length cv) (limbsOf m).length ((limbsOf m).map u32v) * R)) from hs7.right.perm (by ac_rfl)).right
    · have hd : decide (cmpN (valL a) (valL b) < 0) = false := by unfold cmpN; rw [if_neg hlt]; split <;> decide
      generalize cmpN (valL a) (valL b) = cc at *
      go_wp2_with fail
      have hs3 := hs2
      have hb4 := hb3
      have HS := Lib.hid (And.intro hs3 hb4)
      have hsub := nat_Sub hs3 ao bo ca cb a b (fun w hw => HH.out.2.2.1 w hw.right.right.right) (fun w hw => HH.out.2.2.2.1 w hw.right.right.right) HH.out.2.2.2.2.1 HH.out.2.2.2.2.2 (by omega) (by omega) hca hcb (by omega)
      clear hs3 hb4 c1 c2 c3 c4 f1 f2 f3 f4 hs2 hb3
      refine hsub.mono ?_
      rintro e w6 ⟨v6, rfl, hs6, hb6⟩
      obtain ⟨av, cv, rfl⟩ := own_val hs6
      obtain ⟨m, hm⟩ : ∃ m, valL a - valL b = m := ⟨_, rfl⟩
      rw [hm] at hs6 ⊢
      have d1 : w6.cell? ⟨g, 1, none⟩ = some (.bool n) := (hs6.right.right.right.left.cell 1).trans rfl
      have d3 : w6.cell? ⟨g + 1 + 1, 0, none⟩ = some (.slice none 0 0) := (hs6.right.left.cell 0).trans rfl
      have d4 : w6.cell? ⟨g + 1 + 1, 1, none⟩ = some (.bool false) := (hs6.right.left.cell 1).trans rfl
      have e3 := hs6.right.left.frozen 0
      have e4 := hs6.right.left.frozen 1
      have HQ := Lib.hid (And.intro hs6 (HS.out.2.trans hb6))
      clear hsub hs6 hb6
      go_wp2_with fail
      have hs7 := ((show sat w6 (Go.Proofs.Ytkjfplldfjmbaaa.blk (g + 1 + 1) (.cells #[.slice none 0 0, .bool false] 104 (0, 0)) * (own 66 1 (.slice av (limbsOf m).length cv) (limbsOf m).length ((limbsOf m).map u32v) * (Go.Proofs.Ytkjfplldfjmbaaa.blk (g + 1) (.cells #[.slice bo b.length cb, .bool k] 104 (0, 0)) * (Go.Proofs.Ytkjfplldfjmbaaa.blk g (.cells #[.slice ao a.length ca, .bool n] 104 (0, 0)) * R)))) from HQ.out.1.perm (by ac_rfl)).setCell (off := 0) (.slice av (limbsOf m).length cv)).setCell (off := 1) (.bool n)
      have hb7 : Below 0 w ((w6.setCell ⟨g + 1 + 1, 0, none⟩ (.slice av (limbsOf m).length cv)).setCell ⟨g + 1 + 1, 1, none⟩ (.bool n)) := (HQ.out.2.setCell (p := ⟨g + 1 + 1, 0, none⟩) (Nat.zero_le _) _).setCell (p := ⟨g + 1 + 1, 1, none⟩) (Nat.zero_le _) _
      generalize (w6.setCell ⟨g + 1 + 1, 0, none⟩ (.slice av (limbsOf m).length cv)).setCell ⟨g + 1 + 1, 1, none⟩ (.bool n) = w7 at hs7 hb7 ⊢
      have r0 : w7.cell? ⟨g + 1 + 1, 0, none⟩ = some (.slice av (limbsOf m).length cv) := (hs7.left.cell 0).trans rfl
      have r1 : w7.cell? ⟨g + 1 + 1, 1, none⟩ = some (.bool n) := (hs7.left.cell 1).trans rfl
      refine bodyPost_ret (v := .agg #[.slice av (limbsOf m).length cv, .bool n]) (by simp [results, Try.results60, go_sem, r0, r1]) rfl ⟨av, cv, n, m, rfl, by unfold sgn; cases n <;> cases k <;> simp_all <;> omega, ?_, hb7⟩
      exact (show sat w7 ((Go.Proofs.Ytkjfplldfjmbaaa.blk (g + 1) (.cells #[.slice bo b.length cb, .bool k] 104 (0, 0)) * Go.Proofs.Ytkjfplldfjmbaaa.blk g (.cells #[.slice ao a.length ca, .bool n] 104 (0, 0))) * (own 66 1 (.slice av (limbsOf m).length cv) (limbsOf m).length ((limbsOf m).map u32v) * R)) from hs7.right.perm (by ac_rfl)).right
end Go.Proofs.Ytkjfplldfjmbaaa

/- num.Add of some. -/
namespace Go.Proofs.Ytkjfplldfjmbaaa
open Go.RowKit

theorem limbsOf_len {v n : Nat} (h : v < 4294967296 ^ n) : (limbsOf v).length ≤ n := by
  induction n generalizing v with
  | zero => simp at h; subst h; rw [limbsOf_zero]; simp
  | succ n ih =>
    by_cases h0 : v = 0
    · subst h0; rw [limbsOf_zero]; simp
    · rw [limbsOf_pos h0, List.length_cons]
      have := ih (v := v / 4294967296) (by rw [Nat.div_lt_iff_lt_mul (by decide), ← Nat.pow_succ]; exact h)
      omega
def sumI : List (Bool × List Int) → Int
  | [] => 0
  | p :: l => sgn p.1 (valL p.2) + sumI l
theorem sumI_snoc (l : List (Bool × List Int)) (p : Bool × List Int) : sumI (l ++ [p]) = sumI l + sgn p.1 (valL p.2) := by
  induction l with
  | nil => simp [sumI]
  | cons q l ih => simp only [List.cons_append, sumI, ih]; omega
def topB : Nat := 35184372086784
/-- The cells are those of these numbers, whose limbs lie in R. -/
def NumCells (R : HP) (cs : Array Value) (xs : List (Bool × List Int)) : Prop :=
  ∀ (j : Nat) n l, xs[j]? = some (n, l) → ∃ ao cap, cs[j * 2]? = some (.bool n) ∧ cs[j * 2 + 1]? = some (.slice ao l.length cap) ∧ l.length ≤ cap ∧ (∀ w, sat w R → LimbsW w ao l) ∧ Limbs l ∧ l.length ≤ topB
def SumRel (W : World) (g b : Nat) (cs : Array Value) (xs : List (Bool × List Int)) (R : HP) (i : Value) (wr : World) : Prop :=
  ∃ (k : Nat) (so : Option Addr) (sc : Nat) (sn : Bool) (m : Nat), k ≤ xs.length ∧ i = .int .i64 k ∧ sgn sn m = sumI (xs.take k) ∧ m < 4294967296 ^ (topB + k) ∧ (limbsOf m).length ≤ sc ∧
    sat wr (blk (g + 1) (.cells #[.slice so (limbsOf m).length sc, .bool sn] 104 (0, 0)) * (own 66 1 (.slice so (limbsOf m).length sc) (limbsOf m).length ((limbsOf m).map u32v) * (blk g (.cells #[.bool false, .slice none 0 0] 57 (0, 0)) * (blk b (.cells cs 57 (0, 0)) * R)))) ∧ Below 0 W wr
theorem own_cap {w : World} {R : HP} {e sz n cap : Nat} {ao : Option Addr} {xs : List Value} (h : sat w (own e sz (.slice ao n cap) n xs * R)) : n ≤ cap := by
  rcases h.open_own.2 with ⟨h1, h2, _⟩ | ⟨b, cap', h1, h2, _⟩
  · omega
  · simp only [Value.slice.injEq] at h1
    omega
def SumPost (R : HP) (s : Int) (w : World) (e : Ending) (w' : World) : Prop :=
  ∃ sl, e = .returned (.agg #[.bool (decide (s < 0)), sl]) ∧ sat w' (own 66 1 sl (limbsOf s.natAbs).length ((limbsOf s.natAbs).map u32v) * R) ∧ Below 0 w w'
theorem sum_bound {sn n : Bool} {m v m' k : Nat} (h : ∃ b : Bool, sgn b m' = sgn sn m + sgn n v) (hm : m < 4294967296 ^ (topB + k)) (hv : v < 4294967296 ^ topB) : m' < 4294967296 ^ (topB + (k + 1)) := by
  obtain ⟨b, h⟩ := h
  have h1 : m' ≤ m + v := by
    unfold sgn at h
    cases b <;> cases sn <;> cases n <;> simp at h <;> omega
  have h2 : (4294967296 : Nat) ^ (topB + (k + 1)) = 4294967296 ^ (topB + k) * 4294967296 := by rw [← Nat.add_assoc, Nat.pow_succ]
  have h3 : (4294967296 : Nat) ^ topB ≤ 4294967296 ^ (topB + k) := Nat.pow_le_pow_right (by decide) (by omega)
  rw [h2]
  generalize (4294967296 : Nat) ^ (topB + k) = P at *
  generalize (4294967296 : Nat) ^ topB = Q at *
  omega

set_option maxRecDepth 100000 in
set_option maxHeartbeats 1000000 in
theorem num_Sum {w : World} {R : HP} (b c : Nat) (cs : Array Value) (xs : List (Bool × List Int)) (hs : sat w (blk b (.cells cs 57 (0, 0)) * R)) (hx : NumCells R cs xs) (hn : xs.length ≤ 2) :
    Calls Try.prog 55 #[.slice (some ⟨b, 0, none⟩) xs.length c] w (SumPost R (sumI xs) w) := by
  have hs1 := (hs.alloc (.cells #[.bool false, .slice none 0 0] 57)).alloc (.cells #[.slice none 0 0, .bool false] 104)
  have hb1 : Below 0 w ((w.alloc (.cells #[.bool false, .slice none 0 0] 57)).alloc (.cells #[.slice none 0 0, .bool false] 104)) := (Below.zero_alloc _ _).trans (Below.zero_alloc _ _)
  simp only [World.size_alloc] at hs1
  obtain ⟨g, hg⟩ : ∃ g, w.heap.size = g := ⟨_, rfl⟩
  rw [hg] at hs1
  have hs2 : sat _ (blk (g + 1) (.cells #[.slice none (limbsOf 0).length 0, .bool false] 104 (0, 0)) * (own 66 1 (.slice none (limbsOf 0).length 0) (limbsOf 0).length ((limbsOf 0).map u32v) * (blk g (.cells #[.bool false, .slice none 0 0] 57 (0, 0)) * (blk b (.cells cs 57 (0, 0)) * R)))) := (hs1.nil_own (e := 66) (sz := 1)).perm (by rw [limbsOf_zero]; simp only [List.map_nil, List.length_nil]; ac_rfl)
  have HH := Lib.hid (And.intro hs2 (And.intro hb1 hx))
  clear hs1 hs2 hb1 hx hs
  go_enter Try.func55, Try.ntmps55
  go_wp2_with fail
  generalize (w.alloc (.cells #[.bool false, .slice none 0 0] 57)).alloc (.cells #[.slice none 0 0, .bool false] 104) = w1 at HH ⊢
  go_loopw [9] (SumRel w g b cs xs R) (fun i _ => xs.length - (intOf i).toNat)
  case atStart => exact ⟨0, none, 0, false, 0, Nat.zero_le _, rfl, rfl, Nat.pow_pos (by decide), by rw [limbsOf_zero]; exact Nat.le_refl _, HH.out.1, HH.out.2.1⟩
  case round =>
    obtain ⟨k, so, sc, sn, m, hk, rfl, hsum, hm, hsc, hs3, hb3⟩ := hrel
    by_cases hlt : k < xs.length
    · obtain ⟨⟨n, l⟩, ex⟩ : ∃ p, xs[k]? = some p := ⟨_, List.getElem?_eq_getElem hlt⟩
      obtain ⟨ao, cap, e1, e2, hlc, hal, hll, hlb⟩ := HH.out.2.2 k n l ex
      have c1 : wr.cell? ⟨b, k * 2, none⟩ = some (.bool n) := (hs3.right.right.right.left.cell _).trans e1
      have c2 : wr.cell? ⟨b, k * 2 + 1, none⟩ = some (.slice ao l.length cap) := (hs3.right.right.right.left.cell _).trans e2
      have c3 : wr.cell? ⟨g + 1, 0, none⟩ = some (.slice so (limbsOf m).length sc) := (hs3.left.cell 0).trans rfl
      have c4 : wr.cell? ⟨g + 1, 1, none⟩ = some (.bool sn) := (hs3.left.cell 1).trans rfl
      go_wp2_with fail
      have hs5 := hs3.alloc (.cells #[.bool n, .slice ao l.length cap] 57)
      have hb5 : Below 0 w (wr.alloc (.cells #[.bool n, .slice ao l.length cap] 57)) := hb3.trans (Below.zero_alloc _ _)
      have hlt5 : g + 1 < wr.heap.size := hs3.left.lt
      clear c1 c2 c3 c4 hs3 hb3
      generalize wr.alloc (.cells #[.bool n, .slice ao l.length cap] 57) = w5 at *
      generalize wr.heap.size = g5 at *
      have hvl := limbsOf_limbs m
      have hml : (limbsOf m).length ≤ topB + 2 := Nat.le_trans (limbsOf_len hm) (by omega)
      obtain ⟨F, hF⟩ : ∃ F : HP, F = blk g5 (.cells #[.bool n, .slice ao l.length cap] 57 (0, 0)) * (blk (g + 1) (.cells #[.slice so (limbsOf m).length sc, .bool sn] 104 (0, 0)) * (own 66 1 (.slice so (limbsOf m).length sc) (limbsOf m).length ((limbsOf m).map u32v) * (blk g (.cells #[.bool false, .slice none 0 0] 57 (0, 0)) * (blk b (.cells cs 57 (0, 0)) * R)))) := ⟨_, rfl⟩
      rw [← hF] at hs5
      have hc : ∀ w', sat w' F → (w'.cell? ⟨g + 1, 0, none⟩ = some (.slice so (limbsOf m).length sc) ∧ w'.cell? ⟨g + 1, 1, none⟩ = some (.bool sn) ∧ w'.cell? ⟨g5, 0, none⟩ = some (.bool n) ∧ w'.cell? ⟨g5, 1, none⟩ = some (.slice ao l.length cap)) ∧ w'.frozen? ⟨g + 1, 0, none⟩ = false ∧ w'.frozen? ⟨g + 1, 1, none⟩ = false := by
        intro w' h
        rw [hF] at h
        exact ⟨⟨(h.right.left.cell 0).trans rfl, (h.right.left.cell 1).trans rfl, (h.left.cell 0).trans rfl, (h.left.cell 1).trans rfl⟩, h.right.left.frozen 0, h.right.left.frozen 1⟩
      have hOf : ∀ w', sat w' F → Calls Try.prog 61 #[.agg #[.bool n, .slice ao l.length cap]] w' fun e w'' => e = .returned (.agg #[.slice ao l.length cap, .bool n]) ∧ sat w'' F ∧ Below 0 w' w'' := fun w' h => (num_of w' n ao l.length cap).mono fun e w'' hk => ⟨hk.1, h.below hk.2, b0 hk.2⟩
      have hAd : ∀ w', sat w' F → Calls Try.prog 60 #[.agg #[.slice so (limbsOf m).length sc, .bool sn], .agg #[.slice ao l.length cap, .bool n]] w' (NumAddPost F (sgn sn m + sgn n (valL l)) w') := by
        intro w' h
        have h1 := num_add h sn n so ao sc cap (limbsOf m) l (fun w hw => by rw [hF] at hw; exact limbs_own rfl hw.right.right) (fun w hw => by rw [hF] at hw; exact hal w hw.right.right.right.right.right) hvl hll (by unfold topB at hml; omega) (by unfold topB at hlb; omega) hsc hlc
        rw [valL_limbsOf] at h1
        exact h1
      obtain ⟨k1, k2⟩ := hc w5 hs5
      obtain ⟨c1, c2, c3, c4⟩ := k1
      obtain ⟨f1, f2⟩ := k2
      have HA := Lib.hid (And.intro hOf (And.intro hAd (And.intro hs5 (And.intro hb5 hc))))
      have HF := Lib.hid hF
      clear hOf hAd hs5 hb5 hc hF e1 e2 hal hll
      have n1 : ¬ (g + 1 = g5) := by omega
      have n2 : ¬ (g5 = g + 1) := by omega
      go_region_law
        (first
          | (go_simp; go_at_call 61; refine (HA.out.1 _ HA.out.2.2.1.drew).mono ?_; rintro e w6 ⟨rfl, hs6, hb6⟩; obtain ⟨⟨l1, l2, l3, l4⟩, l5⟩ := HA.out.2.2.2.2 _ hs6)
          | (go_simp; go_at_call 60; refine (HA.out.2.1 _ hs6).mono ?_; rintro e w7 ⟨ro, rc, rn, rm, rfl, hr1, hs7, hb7⟩; obtain ⟨⟨m1, m2, m3, m4⟩, e8, e9⟩ := HA.out.2.2.2.2 _ hs7.right))
      all_goals (
        have hrc := own_cap hs7
        rw [HF.out] at hs7
        have hs8 := ((show sat w7 (blk (g + 1) (.cells #[.slice so (limbsOf m).length sc, .bool sn] 104 (0, 0)) * ((blk g5 (.cells #[.bool n, .slice ao l.length cap] 57 (0, 0)) * own 66 1 (.slice so (limbsOf m).length sc) (limbsOf m).length ((limbsOf m).map u32v)) * (own 66 1 (.slice ro (limbsOf rm).length rc) (limbsOf rm).length ((limbsOf rm).map u32v) * (blk g (.cells #[.bool false, .slice none 0 0] 57 (0, 0)) * (blk b (.cells cs 57 (0, 0)) * R))))) from hs7.perm (by ac_rfl)).setCell (off := 0) (.slice ro (limbsOf rm).length rc)).setCell (off := 1) (.bool rn)
        have hb8 : Below 0 w ((w7.setCell ⟨g + 1, 0, none⟩ (.slice ro (limbsOf rm).length rc)).setCell ⟨g + 1, 1, none⟩ (.bool rn)) := ((((HA.out.2.2.2.1.drew).trans hb6).trans hb7).setCell (p := ⟨g + 1, 0, none⟩) (Nat.zero_le _) _).setCell (p := ⟨g + 1, 1, none⟩) (Nat.zero_le _) _
        have HQ := Lib.hid (And.intro hs8 (And.intro hb8 hr1))
        clear hs7 hs8 hb8 hs6 hb6 hb7 hr1 l1 l2 l3 l4 l5 m1 m2 m3 m4 e8 e9 c1 c2 c3 c4 f1 f2 n1 n2
        generalize (w7.setCell ⟨g + 1, 0, none⟩ (.slice ro (limbsOf rm).length rc)).setCell ⟨g + 1, 1, none⟩ (.bool rn) = w8 at HQ ⊢
        go_wp2_with fail
        go_roundw
        case rel =>
          refine ⟨k + 1, ro, rc, rn, rm, by omega, by go_num, ?_, ?_, hrc, ?_, HQ.out.2.1⟩
          · rw [List.take_add_one, ex]
            show _ = sumI (xs.take k ++ [(n, l)])
            rw [sumI_snoc, HQ.out.2.2, hsum]
          · exact sum_bound ⟨rn, HQ.out.2.2⟩ hm (Nat.lt_of_lt_of_le (valL_lt (HH.out.2.2 k n l ex).choose_spec.choose_spec.2.2.2.2.1) (Nat.pow_le_pow_right (by decide) hlb))
          · exact (show sat w8 ((blk g5 (.cells #[.bool n, .slice ao l.length cap] 57 (0, 0)) * own 66 1 (.slice so (limbsOf m).length sc) (limbsOf m).length ((limbsOf m).map u32v)) * (blk (g + 1) (.cells #[.slice ro (limbsOf rm).length rc, .bool rn] 104 (0, 0)) * (own 66 1 (.slice ro (limbsOf rm).length rc) (limbsOf rm).length ((limbsOf rm).map u32v) * (blk g (.cells #[.bool false, .slice none 0 0] 57 (0, 0)) * (blk b (.cells cs 57 (0, 0)) * R))))) from HQ.out.1.perm (by simp only [List.setIfInBounds_toArray, List.set_cons_zero, List.set_cons_succ]; ac_rfl)).right
        case measure => simp [intOf]; omega)
    · obtain rfl : k = xs.length := by omega
      have hge : (xs.length : Int) ≤ xs.length := by omega
      rw [List.take_of_length_le (Nat.le_refl _)] at hsum
      have c3 : wr.cell? ⟨g + 1, 0, none⟩ = some (.slice so (limbsOf m).length sc) := (hs3.left.cell 0).trans rfl
      have c4 : wr.cell? ⟨g + 1, 1, none⟩ = some (.bool sn) := (hs3.left.cell 1).trans rfl
      have hml : (limbsOf m).length ≤ topB + 2 := Nat.le_trans (limbsOf_len hm) (by omega)
      have hT := num_told hs3 sn so sc (limbsOf m) (fun w hw => limbs_own rfl hw.right) (limbsOf_limbs m) (by unfold topB at hml; omega) hsc
      rw [valL_limbsOf, hsum] at hT
      have hmn : (sumI xs).natAbs = m := by rw [← hsum]; unfold sgn; split <;> omega
      have HQ := Lib.hid (And.intro hb3 hmn)
      clear hs3 hb3 hsum hm
      go_wp2_with fail
      with_reducible refine hT.mono ?_
      rintro e w7 ⟨sl, rfl, hs7, hb7⟩
      obtain ⟨lo, lc, rfl⟩ := own_val hs7
      have d1 : w7.cell? ⟨g, 0, none⟩ = some (.bool false) := (hs7.right.right.right.left.cell 0).trans rfl
      have d2 : w7.cell? ⟨g, 1, none⟩ = some (.slice none 0 0) := (hs7.right.right.right.left.cell 1).trans rfl
      have e1 := hs7.right.right.right.left.frozen 0
      have e2 := hs7.right.right.right.left.frozen 1
      have HW := Lib.hid (And.intro hs7 hb7)
      clear hT hs7 hb7
      go_wp2_with fail
      have hs8 := ((show sat w7 (blk g (.cells #[.bool false, .slice none 0 0] 57 (0, 0)) * ((blk (g + 1) (.cells #[.slice so (limbsOf m).length sc, .bool sn] 104 (0, 0)) * (own 66 1 (.slice so (limbsOf m).length sc) (limbsOf m).length ((limbsOf m).map u32v) * blk b (.cells cs 57 (0, 0)))) * (own 66 1 (.slice lo (limbsOf m).length lc) (limbsOf m).length ((limbsOf m).map u32v) * R))) from HW.out.1.perm (by ac_rfl)).setCell (off := 0) (.bool (decide (sumI xs < 0)))).setCell (off := 1) (.slice lo (limbsOf m).length lc)
      have hb8 : Below 0 w ((w7.setCell ⟨g, 0, none⟩ (.bool (decide (sumI xs < 0)))).setCell ⟨g, 1, none⟩ (.slice lo (limbsOf m).length lc)) := ((HQ.out.1.trans HW.out.2).setCell (p := ⟨g, 0, none⟩) (Nat.zero_le _) _).setCell (p := ⟨g, 1, none⟩) (Nat.zero_le _) _
      generalize (w7.setCell ⟨g, 0, none⟩ (.bool (decide (sumI xs < 0)))).setCell ⟨g, 1, none⟩ (.slice lo (limbsOf m).length lc) = w8 at hs8 hb8 ⊢
      have r0 : w8.cell? ⟨g, 0, none⟩ = some (.bool (decide (sumI xs < 0))) := (hs8.left.cell 0).trans rfl
      have r1 : w8.cell? ⟨g, 1, none⟩ = some (.slice lo (limbsOf m).length lc) := (hs8.left.cell 1).trans rfl
      refine bodyPost_ret (v := .agg #[.bool (decide (sumI xs < 0)), .slice lo (limbsOf m).length lc]) (by simp [results, Try.results55, go_sem, r0, r1]) rfl ⟨_, rfl, ?_, hb8⟩
      rw [HQ.out.2]
      exact hs8.right.right
end Go.Proofs.Ytkjfplldfjmbaaa

/- num: Of, Neg, Sub, Cmp. -/
namespace Go.Proofs.Ytkjfplldfjmbaaa
open Go.RowKit

theorem valL_two (x : Int) (h0 : 0 ≤ x) (h1 : x < 18446744073709551616) : valL [x % 4294967296, x / 4294967296] = x.toNat := by
  simp only [valL]; omega

theorem sgn_not (n : Bool) (v : Nat) : sgn (!n) v = -(sgn n v) := by unfold sgn; cases n <;> simp
theorem sgn_abs (n : Bool) (v : Nat) : (sgn n v).natAbs = v := by unfold sgn; split <;> omega
end Go.Proofs.Ytkjfplldfjmbaaa

/- num: Sub, Cmp. -/
namespace Go.Proofs.Ytkjfplldfjmbaaa
open Go.RowKit

theorem sgn_dec (s : Int) : sgn (decide (s < 0)) s.natAbs = s := by
  unfold sgn
  by_cases h : s < 0
  · rw [if_pos (by simpa using h)]; omega
  · rw [if_neg (by simpa using h)]; omega

/-- How two numbers stand. -/
def cmpI (x y : Int) : Int := if x < y then -1 else if y < x then 1 else 0
theorem sign_sub (x y : Int) : signN (decide (x - y < 0)) (x - y).natAbs = cmpI x y := by
  unfold signN cmpI
  by_cases h1 : x < y
  · rw [if_neg (by omega), if_pos (by simp; omega), if_pos h1]
  · by_cases h2 : y < x
    · rw [if_neg (by omega), if_neg (by simp; omega), if_neg h1, if_pos h2]
    · rw [if_pos (by omega), if_neg h1, if_neg h2]
/-- It answers v; what R says still holds. -/
def KeepsR (R : HP) (v : Value) (w : World) (e : Ending) (w' : World) : Prop := e = .returned v ∧ sat w' R ∧ Below 0 w w'
end Go.Proofs.Ytkjfplldfjmbaaa

/- num: Small. -/
namespace Go.Proofs.Ytkjfplldfjmbaaa
open Go.RowKit

def isSmall (x : Int) : Bool := decide (-2305843009213693952 ≤ x) && decide (x < 2305843009213693952)
def smallI (x : Int) : Int := if isSmall x = true then x else 0
theorem i64_or_nat (a b : Nat) (ha : a < 9223372036854775808) (hb : b < 9223372036854775808) : bits .or .i64 (a : Int) (b : Int) = ((a ||| b : Nat) : Int) := by
  have hx : a ||| b < 2 ^ 63 := Nat.or_lt_two_pow ha hb
  have hw : ∀ x : Nat, x < 9223372036854775808 → IntKind.i64.wrap (x : Int) = x := by
    intro x h
    rw [IntKind.wrap_i64]
    omega
  have e : bits .or .i64 (a : Int) (b : Int) = IntKind.i64.wrap ((BitVec.ofInt 64 (a : Int) ||| BitVec.ofInt 64 (b : Int)).toNat : Int) := rfl
  rw [e, BitVec.toNat_or, ofInt_u64 a (by omega), ofInt_u64 b (by omega)]
  exact hw _ hx
theorem or_limb (v x : Nat) (hx : x < 4294967296) (hv : v * 4294967296 + x < 4611686018427387904) : bits .or .i64 ((v : Int) * 4294967296) (x : Int) = ((v * 4294967296 + x : Nat) : Int) := by
  have h1 := Nat.two_pow_add_eq_or_of_lt (i := 32) (b := x) hx v
  rw [show (2 : Nat) ^ 32 * v = v * 4294967296 by rw [Nat.mul_comm]] at h1
  have e : (v : Int) * 4294967296 = ((v * 4294967296 : Nat) : Int) := by simp
  rw [e]
  generalize v * 4294967296 = p at *
  rw [h1]
  exact i64_or_nat p x (Nat.lt_of_le_of_lt (Nat.le_add_right p x) (Nat.lt_trans hv (by decide))) (Nat.lt_trans hx (by decide))
theorem valL_drop (l : List Int) (k : Nat) (x : Int) (hx : l[k]? = some x) : valL (l.drop k) = x.toNat + 4294967296 * valL (l.drop (k + 1)) := by
  obtain ⟨h, e⟩ := List.getElem?_eq_some_iff.1 hx
  rw [List.drop_eq_getElem_cons h, e]; rfl
theorem valL_drop_le (l : List Int) : ∀ k, valL (l.drop k) ≤ valL l := by
  induction l with
  | nil => intro k; simp
  | cons x l ih =>
    intro k
    cases k with
    | zero => exact Nat.le_refl _
    | succ k => have := ih k; simp only [List.drop_succ_cons, valL]; omega
theorem valL_low {l : List Int} (h : valL l < 18446744073709551616) : valL (l.take 2) = valL l := by
  have h1 := valL_append (l.take 2) (l.drop 2)
  rw [List.take_append_drop] at h1
  rcases Nat.lt_or_ge l.length 2 with hs | hs
  · rw [List.take_of_length_le (by omega)]
  · rw [List.length_take, Nat.min_eq_left hs] at h1
    have : valL (l.drop 2) = 0 := by
      rcases Nat.eq_zero_or_pos (valL (l.drop 2)) with e | e
      · exact e
      · exfalso
        have := Nat.mul_le_mul_left (4294967296 ^ 2) e
        omega
    rw [h1, this]
    simp
def SmRel (w : World) (l : List Int) (m : Nat) (v i : Value) (wr : World) : Prop :=
  ∃ k j : Nat, k ≤ m ∧ i = .int .i64 ((k : Int) - 1) ∧ v = .int .i64 (valL ((l.take m).drop k)) ∧ wr = w.drewN j
end Go.Proofs.Ytkjfplldfjmbaaa
