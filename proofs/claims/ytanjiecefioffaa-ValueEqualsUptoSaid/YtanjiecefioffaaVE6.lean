/- num: of, bits, zero, cmp. num: told, sign. num: sign, add of two. num.Add of some. num: Of, Neg, Sub, Cmp. num: Sub, Cmp. num: Small. -/
import Derived.Test.YtanjiecefioffaaVE5
/- num: of, bits, zero, cmp. -/
namespace Go.Proofs.Ytanjiecefioffaa
open Go.RowKit

/-- It answers v, and touches nothing that was there. -/
def Keeps (v : Value) (w : World) (e : Ending) (w' : World) : Prop := e = .returned v ∧ Below w.heap.size w w'
/-- Limbs that can be read wherever R lies. -/
structure LimbsR (R : HP) (sl : Value) (l : List Int) : Prop where
  ex : ∃ ao cap, sl = .slice ao l.length cap ∧ l.length ≤ cap ∧ ∀ w, sat w R → LimbsW w ao l
  lim : Limbs l
  bd : l.length ≤ 35184372087808
theorem LimbsR.nil (R : HP) : LimbsR R (.slice none 0 0) [] := ⟨⟨none, 0, rfl, Nat.le_refl _, fun w _ j x hx => by simp at hx⟩, fun x hx => by simp at hx, by decide⟩
theorem LimbsR.more {R Q : HP} {sl : Value} {l : List Int} (h : LimbsR R sl l) (e : ∀ w, sat w Q → sat w R) : LimbsR Q sl l := by
  obtain ⟨⟨ao, cap, h1, h2, h3⟩, h4, h5⟩ := h
  exact ⟨⟨ao, cap, h1, h2, fun w hw => h3 w (e w hw)⟩, h4, h5⟩
theorem LimbsR.own {w : World} {R : HP} {v : Value} {l : List Int} (h : sat w (own 70 1 v l.length (l.map u32v) * R)) (hl : Limbs l) (hb : l.length ≤ 35184372087808) : LimbsR (Go.Proofs.Ytanjiecefioffaa.own 70 1 v l.length (l.map u32v) * R) v l := by
  rcases h.open_own.2 with ⟨h1, h2, _⟩ | ⟨b, cap, h1, h2, _⟩
  · exact ⟨⟨none, 0, by rw [h1, h2], by omega, fun w' hw' => limbs_own (by rw [h1, h2]) hw'⟩, hl, hb⟩
  · exact ⟨⟨_, cap, h1, h2, fun w' hw' => limbs_own h1 hw'⟩, hl, hb⟩
theorem alloc_below (w : World) (o : Obj) : Below w.heap.size w (w.alloc o) := (Below.refl _ w).alloc (Nat.le_refl _) o
theorem bthen {w w1 w2 : World} (h : Below w.heap.size w w1) (g : Below w1.heap.size w1 w2) : Below w.heap.size w w2 := h.trans (g.mono h.size)

theorem drewN_below (w : World) (n : Nat) : Below w.heap.size w (w.drewN n) := ⟨rfl, rfl, rfl, Nat.le_refl _, fun _ _ => rfl⟩
set_option maxRecDepth 100000 in
theorem num_of (w : World) (n : Bool) (ao : Option Addr) (l c : Nat) :
    Calls Try.prog 91 #[.agg #[.bool n, .slice ao l c]] w (Keeps (.agg #[.slice ao l c, .bool n]) w) := by
  go_enter Try.func91, Try.ntmps91
  go_wp2_with fail
  refine bodyPost_ret (v := .agg #[.slice ao l c, .bool n]) (by simp [results, Try.results91, go_sem]) rfl ⟨rfl, bthen (alloc_below _ _) (alloc_below _ _)⟩
theorem LimbsW.cells {w w' : World} {ao : Option Addr} {l : List Int} (h : LimbsW w ao l) (hb : Below w.heap.size w w') : LimbsW w' ao l := by
  intro j x hx
  obtain ⟨a, ha, hc⟩ := h j x hx
  exact ⟨a, ha, (World.cell?_of_block (hb.block _ (World.block_lt_of_cell? w _ hc))).trans hc⟩
theorem LimbsW.drewN {w : World} {ao : Option Addr} {l : List Int} (h : LimbsW w ao l) (n : Nat) : LimbsW (w.drewN n) ao l := h
set_option maxRecDepth 100000 in
theorem size_bits (w : World) (ao : Option Addr) (ca : Nat) (a : List Int) (ha : LimbsW w ao a) (la : Limbs a) (na : a.length ≤ 70368744177664) (hca : a.length ≤ ca) :
    Calls Try.prog 92 #[.agg #[.slice ao a.length ca]] w (Keeps (.int .i64 (bitsN (valL a))) w) := by
  have hB := nat_Bits (w.alloc (.cells #[.slice ao a.length ca] 133)) ao ca a (ha.cells (alloc_below _ _)) la na hca
  clear ha la
  generalize hbn : bitsN (valL a) = bn at *
  clear hbn
  go_enter Try.func92, Try.ntmps92
  go_wp2_with fail
  refine hB.mono ?_
  rintro e w' ⟨rfl, j, rfl⟩
  go_wp2_with fail
  go_ret
  exact ⟨rfl, bthen (alloc_below w _) (drewN_below _ _)⟩
set_option maxRecDepth 100000 in
theorem size_zero (w : World) (ao : Option Addr) (ca : Nat) (a : List Int) (ha : LimbsW w ao a) (la : Limbs a) (na : a.length ≤ 70368744177664) (hca : a.length ≤ ca) :
    Calls Try.prog 105 #[.agg #[.slice ao a.length ca]] w (Keeps (.bool (decide (valL a = 0))) w) := by
  have hB := size_bits (w.alloc (.cells #[.slice ao a.length ca] 133)) ao ca a (ha.cells (alloc_below _ _)) la na hca
  have hb : (((bitsN (valL a) : Nat) : Int) == 0) = decide (valL a = 0) := by
    have := bits_le (valL a) 0
    by_cases h : valL a = 0
    · rw [h]; rfl
    · rw [decide_eq_false h, beq_eq_false_iff_ne]
      omega
  clear ha la
  generalize decide (valL a = 0) = bb at *
  generalize bitsN (valL a) = bn at *
  go_enter Try.func105, Try.ntmps105
  go_wp2_with fail
  refine hB.mono ?_
  rintro e w' ⟨rfl, hb2⟩
  go_wp2_with fail
  go_ret
  exact ⟨rfl, bthen (alloc_below w _) hb2⟩
set_option maxRecDepth 100000 in
theorem size_cmp (w : World) (ao bo : Option Addr) (ca cb : Nat) (a b : List Int) (ha : LimbsW w ao a) (hb : LimbsW w bo b) (la : Limbs a) (lb : Limbs b) (na : a.length ≤ 70368744177664) (nb : b.length ≤ 70368744177664) (hca : a.length ≤ ca) (hcb : b.length ≤ cb) :
    Calls Try.prog 103 #[.agg #[.slice ao a.length ca], .agg #[.slice bo b.length cb]] w (Keeps (.int .i64 (cmpN (valL a) (valL b))) w) := by
  have hB := nat_Cmp ((w.alloc (.cells #[.slice ao a.length ca] 133)).alloc (.cells #[.slice bo b.length cb] 133)) ao bo ca cb a b (ha.cells (bthen (alloc_below _ _) (alloc_below _ _))) (hb.cells (bthen (alloc_below _ _) (alloc_below _ _))) la lb na nb hca hcb
  clear ha la hb lb
  generalize cmpN (valL a) (valL b) = bn at *
  go_enter Try.func103, Try.ntmps103
  go_wp2_with fail
  refine hB.mono ?_
  rintro e w' ⟨rfl, j, rfl⟩
  go_wp2_with fail
  go_ret
  exact ⟨rfl, bthen (bthen (alloc_below w _) (alloc_below _ _)) (drewN_below _ _)⟩
end Go.Proofs.Ytanjiecefioffaa

/- num: told, sign. -/
namespace Go.Proofs.Ytanjiecefioffaa
open Go.RowKit

def sgn (n : Bool) (v : Nat) : Int := if n = true then -(v : Int) else v
theorem sat.keep {w w' : World} {P : HP} (h : sat w P) (hb : Below w.heap.size w w') : sat w' P := h.below hb
theorem b0 {w w' : World} (h : Below w.heap.size w w') : Below 0 w w' := h.mono (Nat.zero_le _)

set_option maxRecDepth 100000 in
set_option maxHeartbeats 1000000 in
theorem num_told {w : World} {R : HP} (hs : sat w R) (n : Bool) (ao : Option Addr) (ca : Nat) (a : List Int) (ha : ∀ w, sat w R → LimbsW w ao a) (la : Limbs a) (na : a.length ≤ 35184372087808) (hca : a.length ≤ ca) :
    Calls Try.prog 94 #[.agg #[.slice ao a.length ca, .bool n]] w fun e w' => ∃ sl, e = .returned (.agg #[.bool (decide (sgn n (valL a) < 0)), sl]) ∧ sat w' (own 70 1 sl (limbsOf (valL a)).length ((limbsOf (valL a)).map u32v) * R) ∧ Below 0 w w' := by
  have hs1 := (hs.alloc (.cells #[.slice ao a.length ca, .bool n] 135)).alloc (.cells #[.bool false, .slice none 0 0] 51)
  have hb1 : Below 0 w ((w.alloc (.cells #[.slice ao a.length ca, .bool n] 135)).alloc (.cells #[.bool false, .slice none 0 0] 51)) := (Below.zero_alloc _ _).trans (Below.zero_alloc _ _)
  have hsz : (w.alloc (.cells #[.slice ao a.length ca, .bool n] 135)).heap.size = w.heap.size + 1 := World.size_alloc _ _
  rw [hsz] at hs1
  have hZ := size_zero ((w.alloc (.cells #[.slice ao a.length ca, .bool n] 135)).alloc (.cells #[.bool false, .slice none 0 0] 51)) ao ca a (ha _ hs1.right.right) la (by omega) hca
  have HH := Lib.hid (And.intro hs1 (And.intro hb1 (And.intro ha la)))
  clear hs1 hb1 ha la hsz
  go_enter Try.func94, Try.ntmps94
  go_wp2_with fail
  generalize (w.alloc (.cells #[.slice ao a.length ca, .bool n] 135)).alloc (.cells #[.bool false, .slice none 0 0] 51) = w1 at *
  refine hZ.mono ?_
  rintro e w2 ⟨rfl, hb2⟩
  have hs2 := HH.out.1.below hb2
  have c1 : w2.cell? ⟨w.heap.size, 0, none⟩ = some (.slice ao a.length ca) := (hs2.right.left.cell 0).trans rfl
  have c2 : w2.cell? ⟨w.heap.size, 1, none⟩ = some (.bool n) := (hs2.right.left.cell 1).trans rfl
  have c3 : w2.cell? ⟨w.heap.size + 1, 0, none⟩ = some (.bool false) := (hs2.left.cell 0).trans rfl
  have c4 : w2.cell? ⟨w.heap.size + 1, 1, none⟩ = some (.slice none 0 0) := (hs2.left.cell 1).trans rfl
  have f3 := hs2.left.frozen 0
  have f4 := hs2.left.frozen 1
  by_cases hz : valL a = 0
  · have hd : decide (valL a = 0) = true := by simp [hz]
    rw [hd]
    go_wp2_with fail
    have hs3 := (hs2.setCell (off := 0) (.bool false)).setCell (off := 1) (.slice none 0 0)
    have hb3 : Below 0 w ((w2.setCell ⟨w.heap.size + 1, 0, none⟩ (.bool false)).setCell ⟨w.heap.size + 1, 1, none⟩ (.slice none 0 0)) := ((HH.out.2.1.trans (b0 hb2)).setCell (p := ⟨w.heap.size + 1, 0, none⟩) (Nat.zero_le _) _).setCell (p := ⟨w.heap.size + 1, 1, none⟩) (Nat.zero_le _) _
    clear c1 c2 c3 c4 f3 f4
    generalize (w2.setCell ⟨w.heap.size + 1, 0, none⟩ (.bool false)).setCell ⟨w.heap.size + 1, 1, none⟩ (.slice none 0 0) = w3 at *
    have r0 : w3.cell? ⟨w.heap.size + 1, 0, none⟩ = some (.bool false) := (hs3.left.cell 0).trans rfl
    have r1 : w3.cell? ⟨w.heap.size + 1, 1, none⟩ = some (.slice none 0 0) := (hs3.left.cell 1).trans rfl
    have hd2 : decide (sgn n (valL a) < 0) = false := by rw [hz]; unfold sgn; cases n <;> rfl
    refine bodyPost_ret (v := .agg #[.bool false, .slice none 0 0]) (by simp [results, Try.results94, go_sem, r0, r1]) rfl ⟨_, by rw [hd2], ?_, hb3⟩
    rw [hz, limbsOf_zero]
    exact hs3.right.right.nil_own
  · have hd : decide (valL a = 0) = false := by simp [hz]
    rw [hd]
    have hN := fun (w' : World) (h : sat w' (Go.Proofs.Ytanjiecefioffaa.blk (w.heap.size + 1) (.cells #[.bool false, .slice none 0 0] 51 (0, 0)) * (Go.Proofs.Ytanjiecefioffaa.blk w.heap.size (.cells #[.slice ao a.length ca, .bool n] 135 (0, 0)) * R))) => nat_Add h ao none ca 0 a [] (fun w hw => HH.out.2.2.1 w hw.right.right) (fun w _ j x hx => by simp at hx) HH.out.2.2.2 (fun x hx => by simp at hx) na (by decide)
    simp only [show valL [] = 0 from rfl, Nat.add_zero, List.length_nil] at hN
    have HN := Lib.hid (And.intro hN hs2)
    clear hN hs2
    go_wp2_with fail
    go_region_held3 (fun w' => w'.cell? ⟨w.heap.size, 0, none⟩ = some (.slice ao a.length ca) ∧ w'.cell? ⟨w.heap.size, 1, none⟩ = some (.bool n))
      (first | go_keep | exact k9)
      (first
        | (go_at_call 102; refine (HN.out.1 _ HN.out.2.drew).mono ?_; rintro e w3 ⟨v, rfl, hs3, hb3⟩; obtain ⟨av, cv, rfl⟩ := own_val hs3; have k9 := And.intro ((hs3.right.right.left.cell 0).trans (rfl : _ = some (Value.slice ao a.length ca))) ((hs3.right.right.left.cell 1).trans (rfl : _ = some (Value.bool n))); have d3 : w3.cell? ⟨w.heap.size + 1, 0, none⟩ = some (.bool false) := (hs3.right.left.cell 0).trans rfl; have d4 : w3.cell? ⟨w.heap.size + 1, 1, none⟩ = some (.slice none 0 0) := (hs3.right.left.cell 1).trans rfl; have e3 := hs3.right.left.frozen 0; have e4 := hs3.right.left.frozen 1))
    clear k9 c1 c2 c3 c4 f3 f4 d3 d4 e3 e4
    have hd2 : decide (sgn n (valL a) < 0) = n := by unfold sgn; cases n <;> simp <;> omega
    have hs4 := (show sat w3 (Go.Proofs.Ytanjiecefioffaa.blk (w.heap.size + 1) (.cells #[.bool false, .slice none 0 0] 51 (0, 0)) * (own 70 1 (.slice av (limbsOf (valL a)).length cv) (limbsOf (valL a)).length ((limbsOf (valL a)).map u32v) * (Go.Proofs.Ytanjiecefioffaa.blk w.heap.size (.cells #[.slice ao a.length ca, .bool n] 135 (0, 0)) * R))) from hs3.perm (by ac_rfl))
    have hs5 := (hs4.setCell (off := 0) (.bool n)).setCell (off := 1) (.slice av (limbsOf (valL a)).length cv)
    have hb5 : Below 0 w ((w3.setCell ⟨w.heap.size + 1, 0, none⟩ (.bool n)).setCell ⟨w.heap.size + 1, 1, none⟩ (.slice av (limbsOf (valL a)).length cv)) := (((HH.out.2.1.trans (b0 hb2)).drew.trans hb3).setCell (p := ⟨w.heap.size + 1, 0, none⟩) (Nat.zero_le _) _).setCell (p := ⟨w.heap.size + 1, 1, none⟩) (Nat.zero_le _) _
    have HF := Lib.hid (And.intro hs5 hb5)
    clear hs3 hs4 hs5 hb5 hb3
    rename_i hHeld
    clear hHeld
    go_wp2_with fail
    generalize (w3.setCell ⟨w.heap.size + 1, 0, none⟩ (.bool n)).setCell ⟨w.heap.size + 1, 1, none⟩ (.slice av (limbsOf (valL a)).length cv) = w4 at HF ⊢
    have r0 : w4.cell? ⟨w.heap.size + 1, 0, none⟩ = some (.bool n) := (HF.out.1.left.cell 0).trans rfl
    have r1 : w4.cell? ⟨w.heap.size + 1, 1, none⟩ = some (.slice av (limbsOf (valL a)).length cv) := (HF.out.1.left.cell 1).trans rfl
    refine bodyPost_ret (v := .agg #[.bool n, .slice av (limbsOf (valL a)).length cv]) (by simp [results, Try.results94, go_sem, r0, r1]) rfl ⟨_, by rw [hd2], ?_, HF.out.2⟩
    exact (show sat w4 (Go.Proofs.Ytanjiecefioffaa.blk w.heap.size (.cells #[.slice ao a.length ca, .bool n] 135 (0, 0)) * (own 70 1 (.slice av (limbsOf (valL a)).length cv) (limbsOf (valL a)).length ((limbsOf (valL a)).map u32v) * R)) from HF.out.1.right.perm (by ac_rfl)).right
end Go.Proofs.Ytanjiecefioffaa

/- num: sign, add of two. -/
namespace Go.Proofs.Ytanjiecefioffaa
open Go.RowKit

def signN (n : Bool) (v : Nat) : Int := if v = 0 then 0 else if n = true then -1 else 1
set_option maxRecDepth 100000 in
theorem num_sign (w : World) (n : Bool) (ao : Option Addr) (ca : Nat) (a : List Int) (ha : LimbsW w ao a) (la : Limbs a) (na : a.length ≤ 70368744177664) (hca : a.length ≤ ca) :
    Calls Try.prog 97 #[.agg #[.slice ao a.length ca, .bool n]] w (Keeps (.int .i64 (signN n (valL a))) w) := by
  have hs1 := (sat_emp w).alloc (.cells #[.slice ao a.length ca, .bool n] 135)
  have hZ := size_zero (w.alloc (.cells #[.slice ao a.length ca, .bool n] 135)) ao ca a (ha.cells (alloc_below _ _)) la na hca
  have hb1 := alloc_below w (.cells #[.slice ao a.length ca, .bool n] 135)
  have HH := Lib.hid (And.intro hs1 hb1)
  clear hs1 hb1 ha la
  go_enter Try.func97, Try.ntmps97
  go_wp2_with fail
  generalize w.alloc (.cells #[.slice ao a.length ca, .bool n] 135) = w1 at *
  refine hZ.mono ?_
  rintro e w2 ⟨rfl, hb2⟩
  have hs2 := HH.out.1.below hb2
  have c1 : w2.cell? ⟨w.heap.size, 0, none⟩ = some (.slice ao a.length ca) := (hs2.left.cell 0).trans rfl
  have c2 : w2.cell? ⟨w.heap.size, 1, none⟩ = some (.bool n) := (hs2.left.cell 1).trans rfl
  by_cases hz : valL a = 0
  · have hd : decide (valL a = 0) = true := by simp [hz]
    have hg : signN n (valL a) = 0 := by unfold signN; rw [if_pos hz]
    rw [hd]
    have HG := Lib.hid hg
    clear hz hd hg
    go_wp2_with fail
    go_ret
    exact ⟨by rw [HG.out]; rfl, bthen HH.out.2 hb2⟩
  · have hd : decide (valL a = 0) = false := by simp [hz]
    rw [hd]
    cases n with
    | true =>
      have hg : signN true (valL a) = -1 := by unfold signN; rw [if_neg hz, if_pos rfl]
      have HG := Lib.hid hg
      clear hz hd hg
      go_wp2_with fail
      go_ret
      exact ⟨by rw [HG.out]; rfl, bthen HH.out.2 hb2⟩
    | false =>
      have hg : signN false (valL a) = 1 := by unfold signN; rw [if_neg hz]; rfl
      have HG := Lib.hid hg
      clear hz hd hg
      go_wp2_with fail
      go_ret
      exact ⟨by rw [HG.out]; rfl, bthen HH.out.2 hb2⟩

def NumAddPost (R : HP) (s : Int) (w : World) (e : Ending) (w' : World) : Prop :=
  ∃ ao cap n m, e = .returned (.agg #[.slice ao (limbsOf m).length cap, .bool n]) ∧ sgn n m = s ∧ sat w' (own 70 1 (.slice ao (limbsOf m).length cap) (limbsOf m).length ((limbsOf m).map u32v) * R) ∧ Below 0 w w'
set_option maxRecDepth 100000 in
set_option maxHeartbeats 1000000 in
theorem num_add {w : World} {R : HP} (hs : sat w R) (n k : Bool) (ao bo : Option Addr) (ca cb : Nat) (a b : List Int) (ha : ∀ w, sat w R → LimbsW w ao a) (hb : ∀ w, sat w R → LimbsW w bo b) (la : Limbs a) (lb : Limbs b) (na : a.length ≤ 35184372087808) (nb : b.length ≤ 35184372087808) (hca : a.length ≤ ca) (hcb : b.length ≤ cb) :
    Calls Try.prog 93 #[.agg #[.slice ao a.length ca, .bool n], .agg #[.slice bo b.length cb, .bool k]] w (NumAddPost R (sgn n (valL a) + sgn k (valL b)) w) := by
  have hs1 := ((hs.alloc (.cells #[.slice ao a.length ca, .bool n] 135)).alloc (.cells #[.slice bo b.length cb, .bool k] 135)).alloc (.cells #[.slice none 0 0, .bool false] 135)
  have hb1 : Below 0 w (((w.alloc (.cells #[.slice ao a.length ca, .bool n] 135)).alloc (.cells #[.slice bo b.length cb, .bool k] 135)).alloc (.cells #[.slice none 0 0, .bool false] 135)) := ((Below.zero_alloc _ _).trans (Below.zero_alloc _ _)).trans (Below.zero_alloc _ _)
  simp only [World.size_alloc] at hs1
  obtain ⟨g, hg⟩ : ∃ g, w.heap.size = g := ⟨_, rfl⟩
  rw [hg] at hs1
  have HH := Lib.hid (And.intro hs1 (And.intro hb1 (And.intro ha (And.intro hb (And.intro la lb)))))
  clear hs1 hb1 ha hb la lb
  go_enter Try.func93, Try.ntmps93
  by_cases hnk : n = k
  · subst hnk
    have b1 : (n == n) = true := by cases n <;> rfl
    go_wp2_with fail
    generalize ((w.alloc (.cells #[.slice ao a.length ca, .bool n] 135)).alloc (.cells #[.slice bo b.length cb, .bool n] 135)).alloc (.cells #[.slice none 0 0, .bool false] 135) = w1 at HH ⊢
    have hN := fun (w' : World) (h : sat w' (Go.Proofs.Ytanjiecefioffaa.blk (g + 2) (.cells #[.slice none 0 0, .bool false] 135 (0, 0)) * (Go.Proofs.Ytanjiecefioffaa.blk (g + 1) (.cells #[.slice bo b.length cb, .bool n] 135 (0, 0)) * (Go.Proofs.Ytanjiecefioffaa.blk g (.cells #[.slice ao a.length ca, .bool n] 135 (0, 0)) * R)))) => nat_Add h ao bo ca cb a b (fun w hw => HH.out.2.2.1 w hw.right.right.right) (fun w hw => HH.out.2.2.2.1 w hw.right.right.right) HH.out.2.2.2.2.1 HH.out.2.2.2.2.2 na nb
    have HN := Lib.hid (And.intro hN HH.out.1)
    have c1 : w1.cell? ⟨g, 0, none⟩ = some (.slice ao a.length ca) := (HN.out.2.right.right.left.cell 0).trans rfl
    have c2 : w1.cell? ⟨g, 1, none⟩ = some (.bool n) := (HN.out.2.right.right.left.cell 1).trans rfl
    have c3 : w1.cell? ⟨g + 1, 0, none⟩ = some (.slice bo b.length cb) := (HN.out.2.right.left.cell 0).trans rfl
    have c4 : w1.cell? ⟨g + 1, 1, none⟩ = some (.bool n) := (HN.out.2.right.left.cell 1).trans rfl
    clear hN
    have n1 : ¬ (g = g + 1 + 1) := by omega
    have n2 : ¬ (g + 1 + 1 = g) := by omega
    go_region_held3 (fun w' => w'.cell? ⟨g, 0, none⟩ = some (.slice ao a.length ca) ∧ w'.cell? ⟨g, 1, none⟩ = some (.bool n) ∧ w'.cell? ⟨g + 1, 0, none⟩ = some (.slice bo b.length cb))
      (first | go_keep | exact k9)
      (first
        | (go_at_call 102; refine (HN.out.1 _ HN.out.2.drew).mono ?_; rintro e w3 ⟨v, rfl, hs3, hb3⟩; obtain ⟨av, cv, rfl⟩ := own_val hs3; have k9 := And.intro ((hs3.right.right.right.left.cell 0).trans (rfl : _ = some (Value.slice ao a.length ca))) (And.intro ((hs3.right.right.right.left.cell 1).trans (rfl : _ = some (Value.bool n))) ((hs3.right.right.left.cell 0).trans (rfl : _ = some (Value.slice bo b.length cb)))); have d3 : w3.cell? ⟨g + 2, 0, none⟩ = some (.slice none 0 0) := (hs3.right.left.cell 0).trans rfl; have d4 : w3.cell? ⟨g + 2, 1, none⟩ = some (.bool false) := (hs3.right.left.cell 1).trans rfl; have e3 := hs3.right.left.frozen 0; have e4 := hs3.right.left.frozen 1))
    have hs4 := (show sat w3 (Go.Proofs.Ytanjiecefioffaa.blk (g + 2) (.cells #[.slice none 0 0, .bool false] 135 (0, 0)) * (own 70 1 (.slice av (limbsOf (valL a + valL b)).length cv) (limbsOf (valL a + valL b)).length ((limbsOf (valL a + valL b)).map u32v) * (Go.Proofs.Ytanjiecefioffaa.blk (g + 1) (.cells #[.slice bo b.length cb, .bool n] 135 (0, 0)) * (Go.Proofs.Ytanjiecefioffaa.blk g (.cells #[.slice ao a.length ca, .bool n] 135 (0, 0)) * R)))) from hs3.perm (by ac_rfl))
    have hs5 := (hs4.setCell (off := 0) (.slice av (limbsOf (valL a + valL b)).length cv)).setCell (off := 1) (.bool n)
    have hb5 : Below 0 w ((w3.setCell ⟨g + 2, 0, none⟩ (.slice av (limbsOf (valL a + valL b)).length cv)).setCell ⟨g + 2, 1, none⟩ (.bool n)) := ((HH.out.2.1.drew.trans hb3).setCell (p := ⟨g + 2, 0, none⟩) (Nat.zero_le _) _).setCell (p := ⟨g + 2, 1, none⟩) (Nat.zero_le _) _
    have HF := Lib.hid (And.intro hs5 hb5)
    clear hs3 hs4 hs5 hb5 hb3 k9 c1 c2 c3 c4 d3 d4 e3 e4 n1 n2
    rename_i hHeld
    clear hHeld
    generalize (w3.setCell ⟨g + 1 + 1, 0, none⟩ (.slice av (limbsOf (valL a + valL b)).length cv)).setCell ⟨g + 1 + 1, 1, none⟩ (.bool n) = w4 at HF ⊢
    go_wp2_with fail
    have r0 : w4.cell? ⟨g + 1 + 1, 0, none⟩ = some (.slice av (limbsOf (valL a + valL b)).length cv) := (HF.out.1.left.cell 0).trans rfl
    have r1 : w4.cell? ⟨g + 1 + 1, 1, none⟩ = some (.bool n) := (HF.out.1.left.cell 1).trans rfl
    refine bodyPost_ret (v := .agg #[.slice av (limbsOf (valL a + valL b)).length cv, .bool n]) (by simp [results, Try.results93, go_sem, r0, r1]) rfl ⟨av, cv, n, valL a + valL b, rfl, by unfold sgn; cases n <;> simp <;> omega, ?_, HF.out.2⟩
    exact (show sat w4 ((Go.Proofs.Ytanjiecefioffaa.blk (g + 1) (.cells #[.slice bo b.length cb, .bool n] 135 (0, 0)) * Go.Proofs.Ytanjiecefioffaa.blk g (.cells #[.slice ao a.length ca, .bool n] 135 (0, 0))) * (own 70 1 (.slice av (limbsOf (valL a + valL b)).length cv) (limbsOf (valL a + valL b)).length ((limbsOf (valL a + valL b)).map u32v) * R)) from HF.out.1.right.perm (by ac_rfl)).right
  · have b1 : (n == k) = false := by cases n <;> cases k <;> simp_all
    have hc : ∀ w', Below w.heap.size w w' → _ := fun w' (hw : Below w.heap.size w w') => size_cmp w' ao bo ca cb a b (HH.out.2.2.1 w' (hs.below hw)) (HH.out.2.2.2.1 w' (hs.below hw)) HH.out.2.2.2.2.1 HH.out.2.2.2.2.2 (by omega) (by omega) hca hcb
    have hC := hc (((w.alloc (.cells #[.slice ao a.length ca, .bool n] 135)).alloc (.cells #[.slice bo b.length cb, .bool k] 135)).alloc (.cells #[.slice none 0 0, .bool false] 135)) (bthen (bthen (alloc_below _ _) (alloc_below _ _)) (alloc_below _ _))
    clear hc
    go_wp2_with fail
    generalize ((w.alloc (.cells #[.slice ao a.length ca, .bool n] 135)).alloc (.cells #[.slice bo b.length cb, .bool k] 135)).alloc (.cells #[.slice none 0 0, .bool false] 135) = w1 at HH hC ⊢
    refine hC.mono ?_
    rintro e w2 ⟨rfl, hb2⟩
    have hs2 := HH.out.1.below hb2
    have hb3 := HH.out.2.1.trans (b0 hb2)
    have c1 : w2.cell? ⟨g, 0, none⟩ = some (.slice ao a.length ca) := (hs2.right.right.left.cell 0).trans rfl
    have c2 : w2.cell? ⟨g, 1, none⟩ = some (.bool n) := (hs2.right.right.left.cell 1).trans rfl
    have c3 : w2.cell? ⟨g + 1, 0, none⟩ = some (.slice bo b.length cb) := (hs2.right.left.cell 0).trans rfl
    have c4 : w2.cell? ⟨g + 1, 1, none⟩ = some (.bool k) := (hs2.right.left.cell 1).trans rfl
    have f1 := hs2.right.right.left.frozen 0
    have f2 := hs2.right.right.left.frozen 1
    have f3 := hs2.right.left.frozen 0
    have f4 := hs2.right.left.frozen 1
    clear hC
    by_cases hlt : valL a < valL b
    · have hd : decide (cmpN (valL a) (valL b) < 0) = true := by unfold cmpN; rw [if_pos hlt]; decide
      generalize cmpN (valL a) (valL b) = cc at *
      have n1 : ¬ (g = g + 1) := by omega
      have n2 : ¬ (g + 1 = g) := by omega
      go_wp2_with fail
      have hs3 : sat ((((w2.setCell ⟨g, 0, none⟩ (.slice bo b.length cb)).setCell ⟨g, 1, none⟩ (.bool k)).setCell ⟨g + 1, 0, none⟩ (.slice ao a.length ca)).setCell ⟨g + 1, 1, none⟩ (.bool n)) (Go.Proofs.Ytanjiecefioffaa.blk (g + 1 + 1) (.cells #[.slice none 0 0, .bool false] 135 (0, 0)) * (Go.Proofs.Ytanjiecefioffaa.blk (g + 1) (.cells #[.slice ao a.length ca, .bool n] 135 (0, 0)) * (Go.Proofs.Ytanjiecefioffaa.blk g (.cells #[.slice bo b.length cb, .bool k] 135 (0, 0)) * R))) := by
        have h1 := ((show sat w2 (Go.Proofs.Ytanjiecefioffaa.blk g (.cells #[.slice ao a.length ca, .bool n] 135 (0, 0)) * (Go.Proofs.Ytanjiecefioffaa.blk (g + 1) (.cells #[.slice bo b.length cb, .bool k] 135 (0, 0)) * (Go.Proofs.Ytanjiecefioffaa.blk (g + 1 + 1) (.cells #[.slice none 0 0, .bool false] 135 (0, 0)) * R))) from hs2.perm (by ac_rfl)).setCell (off := 0) (.slice bo b.length cb)).setCell (off := 1) (.bool k)
        have h2 := ((show sat _ (Go.Proofs.Ytanjiecefioffaa.blk (g + 1) (.cells #[.slice bo b.length cb, .bool k] 135 (0, 0)) * (Go.Proofs.Ytanjiecefioffaa.blk g (.cells #[.slice bo b.length cb, .bool k] 135 (0, 0)) * (Go.Proofs.Ytanjiecefioffaa.blk (g + 1 + 1) (.cells #[.slice none 0 0, .bool false] 135 (0, 0)) * R))) from h1.perm (by simp only [List.setIfInBounds_toArray, List.set_cons_zero, List.set_cons_succ]; ac_rfl)).setCell (off := 0) (.slice ao a.length ca)).setCell (off := 1) (.bool n)
        exact h2.perm (by simp only [List.setIfInBounds_toArray, List.set_cons_zero, List.set_cons_succ]; ac_rfl)
      have hb4 : Below 0 w ((((w2.setCell ⟨g, 0, none⟩ (.slice bo b.length cb)).setCell ⟨g, 1, none⟩ (.bool k)).setCell ⟨g + 1, 0, none⟩ (.slice ao a.length ca)).setCell ⟨g + 1, 1, none⟩ (.bool n)) := (((hb3.setCell (p := ⟨g, 0, none⟩) (Nat.zero_le _) _).setCell (p := ⟨g, 1, none⟩) (Nat.zero_le _) _).setCell (p := ⟨g + 1, 0, none⟩) (Nat.zero_le _) _).setCell (p := ⟨g + 1, 1, none⟩) (Nat.zero_le _) _
      generalize (((w2.setCell ⟨g, 0, none⟩ (.slice bo b.length cb)).setCell ⟨g, 1, none⟩ (.bool k)).setCell ⟨g + 1, 0, none⟩ (.slice ao a.length ca)).setCell ⟨g + 1, 1, none⟩ (.bool n) = w3 at hs3 hb4 ⊢
      have HS := Lib.hid (And.intro hs3 hb4)
      have hsub := nat_Sub hs3 bo ao cb ca b a (fun w hw => HH.out.2.2.2.1 w hw.right.right.right) (fun w hw => HH.out.2.2.1 w hw.right.right.right) HH.out.2.2.2.2.2 HH.out.2.2.2.2.1 (by omega) (by omega) hcb hca (by omega)
      clear hs3 hb4 c1 c2 c3 c4 f1 f2 f3 f4 hs2 hb3 n1 n2
      refine hsub.mono ?_
      rintro e w6 ⟨v6, rfl, hs6, hb6⟩
      obtain ⟨av, cv, rfl⟩ := own_val hs6
      obtain ⟨m, hm⟩ : ∃ m, valL b - valL a = m := ⟨_, rfl⟩
      rw [hm] at hs6 ⊢
      have d1 : w6.cell? ⟨g, 1, none⟩ = some (.bool k) := (hs6.right.right.right.left.cell 1).trans rfl
      have d3 : w6.cell? ⟨g + 1 + 1, 0, none⟩ = some (.slice none 0 0) := (hs6.right.left.cell 0).trans rfl
      have d4 : w6.cell? ⟨g + 1 + 1, 1, none⟩ = some (.bool false) := (hs6.right.left.cell 1).trans rfl
      have e3 := hs6.right.left.frozen 0
      have e4 := hs6.right.left.frozen 1
      have HQ := Lib.hid (And.intro hs6 (HS.out.2.trans hb6))
      clear hsub hs6 hb6
      go_wp2_with fail
      have hs7 := ((show sat w6 (Go.Proofs.Ytanjiecefioffaa.blk (g + 1 + 1) (.cells #[.slice none 0 0, .bool false] 135 (0, 0)) * (own 70 1 (.slice av (limbsOf m).length cv) (limbsOf m).length ((limbsOf m).map u32v) * (Go.Proofs.Ytanjiecefioffaa.blk (g + 1) (.cells #[.slice ao a.length ca, .bool n] 135 (0, 0)) * (Go.Proofs.Ytanjiecefioffaa.blk g (.cells #[.slice bo b.length cb, .bool k] 135 (0, 0)) * R)))) from HQ.out.1.perm (by ac_rfl)).setCell (off := 0) (.slice av (limbsOf m).length cv)).setCell (off := 1) (.bool k)
      have hb7 : Below 0 w ((w6.setCell ⟨g + 1 + 1, 0, none⟩ (.slice av (limbsOf m).length cv)).setCell ⟨g + 1 + 1, 1, none⟩ (.bool k)) := (HQ.out.2.setCell (p := ⟨g + 1 + 1, 0, none⟩) (Nat.zero_le _) _).setCell (p := ⟨g + 1 + 1, 1, none⟩) (Nat.zero_le _) _
      generalize (w6.setCell ⟨g + 1 + 1, 0, none⟩ (.slice av (limbsOf m).length cv)).setCell ⟨g + 1 + 1, 1, none⟩ (.bool k) = w7 at hs7 hb7 ⊢
      have r0 : w7.cell? ⟨g + 1 + 1, 0, none⟩ = some (.slice av (limbsOf m).length cv) := (hs7.left.cell 0).trans rfl
      have r1 : w7.cell? ⟨g + 1 + 1, 1, none⟩ = some (.bool k) := (hs7.left.cell 1).trans rfl
      refine bodyPost_ret (v := .agg #[.slice av (limbsOf m).length cv, .bool k]) (by simp [results, Try.results93, go_sem, r0, r1]) rfl ⟨av, cv, k, m, rfl, by unfold sgn; cases n <;> cases k <;> simp_all <;> omega, ?_, hb7⟩
      exact (show sat w7 ((Go.Proofs.Ytanjiecefioffaa.blk (g + 1) (.cells #[.slice ao a.length ca, .bool n] 135 (0, 0)) * Go.Proofs.Ytanjiecefioffaa.blk g (.cells #[.slice bo b.length cb, .bool k] 135 (0, 0))) * (own 70 1 (.slice av (limbsOf m).length cv) (limbsOf m).length ((limbsOf m).map u32v) * R)) from hs7.right.perm (by ac_rfl)).right
    · have hd : decide (cmpN (valL a) (valL b) < 0) = false := by unfold cmpN; rw [if_neg hlt]; split <;> decide
      generalize cmpN (valL a) (valL b) = cc at *
      go_wp2_with fail
      have hs3 := hs2
      have hb4 := hb3
      have HS := Lib.hid (And.intro hs3 hb4)
      have hsub := nat_Sub hs3 ao bo ca cb a b (fun w hw => HH.out.2.2.1 w hw.right.right.right) (fun w hw => HH.out.2.2.2.1 w hw.right.right.right) HH.out.2.2.2.2.1 HH.out.2.2.2.2.2 (by omega) (by omega) hca hcb (by omega)
      clear hs3 hb4 c1 c2 c3 c4 f1 f2 f3 f4 hs2 hb3
      refine hsub.mono ?_
      rintro e w6 ⟨v6, rfl, hs6, hb6⟩
      obtain ⟨av, cv, rfl⟩ := own_val hs6
      obtain ⟨m, hm⟩ : ∃ m, valL a - valL b = m := ⟨_, rfl⟩
      rw [hm] at hs6 ⊢
      have d1 : w6.cell? ⟨g, 1, none⟩ = some (.bool n) := (hs6.right.right.right.left.cell 1).trans rfl
      have d3 : w6.cell? ⟨g + 1 + 1, 0, none⟩ = some (.slice none 0 0) := (hs6.right.left.cell 0).trans rfl
      have d4 : w6.cell? ⟨g + 1 + 1, 1, none⟩ = some (.bool false) := (hs6.right.left.cell 1).trans rfl
      have e3 := hs6.right.left.frozen 0
      have e4 := hs6.right.left.frozen 1
      have HQ := Lib.hid (And.intro hs6 (HS.out.2.trans hb6))
      clear hsub hs6 hb6
      go_wp2_with fail
      have hs7 := ((show sat w6 (Go.Proofs.Ytanjiecefioffaa.blk (g + 1 + 1) (.cells #[.slice none 0 0, .bool false] 135 (0, 0)) * (own 70 1 (.slice av (limbsOf m).length cv) (limbsOf m).length ((limbsOf m).map u32v) * (Go.Proofs.Ytanjiecefioffaa.blk (g + 1) (.cells #[.slice bo b.length cb, .bool k] 135 (0, 0)) * (Go.Proofs.Ytanjiecefioffaa.blk g (.cells #[.slice ao a.length ca, .bool n] 135 (0, 0)) * R)))) from HQ.out.1.perm (by ac_rfl)).setCell (off := 0) (.slice av (limbsOf m).length cv)).setCell (off := 1) (.bool n)
      have hb7 : Below 0 w ((w6.setCell ⟨g + 1 + 1, 0, none⟩ (.slice av (limbsOf m).length cv)).setCell ⟨g + 1 + 1, 1, none⟩ (.bool n)) := (HQ.out.2.setCell (p := ⟨g + 1 + 1, 0, none⟩) (Nat.zero_le _) _).setCell (p := ⟨g + 1 + 1, 1, none⟩) (Nat.zero_le _) _
      generalize (w6.setCell ⟨g + 1 + 1, 0, none⟩ (.slice av (limbsOf m).length cv)).setCell ⟨g + 1 + 1, 1, none⟩ (.bool n) = w7 at hs7 hb7 ⊢
      have r0 : w7.cell? ⟨g + 1 + 1, 0, none⟩ = some (.slice av (limbsOf m).length cv) := (hs7.left.cell 0).trans rfl
      have r1 : w7.cell? ⟨g + 1 + 1, 1, none⟩ = some (.bool n) := (hs7.left.cell 1).trans rfl
      refine bodyPost_ret (v := .agg #[.slice av (limbsOf m).length cv, .bool n]) (by simp [results, Try.results93, go_sem, r0, r1]) rfl ⟨av, cv, n, m, rfl, by unfold sgn; cases n <;> cases k <;> simp_all <;> omega, ?_, hb7⟩
      exact (show sat w7 ((Go.Proofs.Ytanjiecefioffaa.blk (g + 1) (.cells #[.slice bo b.length cb, .bool k] 135 (0, 0)) * Go.Proofs.Ytanjiecefioffaa.blk g (.cells #[.slice ao a.length ca, .bool n] 135 (0, 0))) * (own 70 1 (.slice av (limbsOf m).length cv) (limbsOf m).length ((limbsOf m).map u32v) * R)) from hs7.right.perm (by ac_rfl)).right
end Go.Proofs.Ytanjiecefioffaa

/- num.Add of some. -/
namespace Go.Proofs.Ytanjiecefioffaa
open Go.RowKit

theorem limbsOf_len {v n : Nat} (h : v < 4294967296 ^ n) : (limbsOf v).length ≤ n := by
  induction n generalizing v with
  | zero => simp at h; subst h; rw [limbsOf_zero]; simp
  | succ n ih =>
    by_cases h0 : v = 0
    · subst h0; rw [limbsOf_zero]; simp
    · rw [limbsOf_pos h0, List.length_cons]
      have := ih (v := v / 4294967296) (by rw [Nat.div_lt_iff_lt_mul (by decide), ← Nat.pow_succ]; exact h)
      omega
def sumI : List (Bool × List Int) → Int
  | [] => 0
  | p :: l => sgn p.1 (valL p.2) + sumI l
theorem sumI_snoc (l : List (Bool × List Int)) (p : Bool × List Int) : sumI (l ++ [p]) = sumI l + sgn p.1 (valL p.2) := by
  induction l with
  | nil => simp [sumI]
  | cons q l ih => simp only [List.cons_append, sumI, ih]; omega
def topB : Nat := 35184372086784
/-- The cells are those of these numbers, whose limbs lie in R. -/
def NumCells (R : HP) (cs : Array Value) (xs : List (Bool × List Int)) : Prop :=
  ∀ (j : Nat) n l, xs[j]? = some (n, l) → ∃ ao cap, cs[j * 2]? = some (.bool n) ∧ cs[j * 2 + 1]? = some (.slice ao l.length cap) ∧ l.length ≤ cap ∧ (∀ w, sat w R → LimbsW w ao l) ∧ Limbs l ∧ l.length ≤ topB
def SumRel (W : World) (g b : Nat) (cs : Array Value) (xs : List (Bool × List Int)) (R : HP) (i : Value) (wr : World) : Prop :=
  ∃ (k : Nat) (so : Option Addr) (sc : Nat) (sn : Bool) (m : Nat), k ≤ xs.length ∧ i = .int .i64 k ∧ sgn sn m = sumI (xs.take k) ∧ m < 4294967296 ^ (topB + k) ∧ (limbsOf m).length ≤ sc ∧
    sat wr (blk (g + 1) (.cells #[.slice so (limbsOf m).length sc, .bool sn] 135 (0, 0)) * (own 70 1 (.slice so (limbsOf m).length sc) (limbsOf m).length ((limbsOf m).map u32v) * (blk g (.cells #[.bool false, .slice none 0 0] 51 (0, 0)) * (blk b (.cells cs 51 (0, 0)) * R)))) ∧ Below 0 W wr
theorem own_cap {w : World} {R : HP} {e sz n cap : Nat} {ao : Option Addr} {xs : List Value} (h : sat w (own e sz (.slice ao n cap) n xs * R)) : n ≤ cap := by
  rcases h.open_own.2 with ⟨h1, h2, _⟩ | ⟨b, cap', h1, h2, _⟩
  · omega
  · simp only [Value.slice.injEq] at h1
    omega
def SumPost (R : HP) (s : Int) (w : World) (e : Ending) (w' : World) : Prop :=
  ∃ sl, e = .returned (.agg #[.bool (decide (s < 0)), sl]) ∧ sat w' (own 70 1 sl (limbsOf s.natAbs).length ((limbsOf s.natAbs).map u32v) * R) ∧ Below 0 w w'
theorem sum_bound {sn n : Bool} {m v m' k : Nat} (h : ∃ b : Bool, sgn b m' = sgn sn m + sgn n v) (hm : m < 4294967296 ^ (topB + k)) (hv : v < 4294967296 ^ topB) : m' < 4294967296 ^ (topB + (k + 1)) := by
  obtain ⟨b, h⟩ := h
  have h1 : m' ≤ m + v := by
    unfold sgn at h
    cases b <;> cases sn <;> cases n <;> simp at h <;> omega
  have h2 : (4294967296 : Nat) ^ (topB + (k + 1)) = 4294967296 ^ (topB + k) * 4294967296 := by rw [← Nat.add_assoc, Nat.pow_succ]
  have h3 : (4294967296 : Nat) ^ topB ≤ 4294967296 ^ (topB + k) := Nat.pow_le_pow_right (by decide) (by omega)
  rw [h2]
  generalize (4294967296 : Nat) ^ (topB + k) = P at *
  generalize (4294967296 : Nat) ^ topB = Q at *
  omega

set_option maxRecDepth 100000 in
set_option maxHeartbeats 1000000 in
theorem num_Sum {w : World} {R : HP} (b c : Nat) (cs : Array Value) (xs : List (Bool × List Int)) (hs : sat w (blk b (.cells cs 51 (0, 0)) * R)) (hx : NumCells R cs xs) (hn : xs.length ≤ 2) :
    Calls Try.prog 65 #[.slice (some ⟨b, 0, none⟩) xs.length c] w (SumPost R (sumI xs) w) := by
  have hs1 := (hs.alloc (.cells #[.bool false, .slice none 0 0] 51)).alloc (.cells #[.slice none 0 0, .bool false] 135)
  have hb1 : Below 0 w ((w.alloc (.cells #[.bool false, .slice none 0 0] 51)).alloc (.cells #[.slice none 0 0, .bool false] 135)) := (Below.zero_alloc _ _).trans (Below.zero_alloc _ _)
  simp only [World.size_alloc] at hs1
  obtain ⟨g, hg⟩ : ∃ g, w.heap.size = g := ⟨_, rfl⟩
  rw [hg] at hs1
  have hs2 : sat _ (blk (g + 1) (.cells #[.slice none (limbsOf 0).length 0, .bool false] 135 (0, 0)) * (own 70 1 (.slice none (limbsOf 0).length 0) (limbsOf 0).length ((limbsOf 0).map u32v) * (blk g (.cells #[.bool false, .slice none 0 0] 51 (0, 0)) * (blk b (.cells cs 51 (0, 0)) * R)))) := (hs1.nil_own (e := 70) (sz := 1)).perm (by rw [limbsOf_zero]; simp only [List.map_nil, List.length_nil]; ac_rfl)
  have HH := Lib.hid (And.intro hs2 (And.intro hb1 hx))
  clear hs1 hs2 hb1 hx hs
  go_enter Try.func65, Try.ntmps65
  go_wp2_with fail
  generalize (w.alloc (.cells #[.bool false, .slice none 0 0] 51)).alloc (.cells #[.slice none 0 0, .bool false] 135) = w1 at HH ⊢
  go_loopw [9] (SumRel w g b cs xs R) (fun i _ => xs.length - (intOf i).toNat)
  case atStart => exact ⟨0, none, 0, false, 0, Nat.zero_le _, rfl, rfl, Nat.pow_pos (by decide), by rw [limbsOf_zero]; exact Nat.le_refl _, HH.out.1, HH.out.2.1⟩
  case round =>
    obtain ⟨k, so, sc, sn, m, hk, rfl, hsum, hm, hsc, hs3, hb3⟩ := hrel
    by_cases hlt : k < xs.length
    · obtain ⟨⟨n, l⟩, ex⟩ : ∃ p, xs[k]? = some p := ⟨_, List.getElem?_eq_getElem hlt⟩
      obtain ⟨ao, cap, e1, e2, hlc, hal, hll, hlb⟩ := HH.out.2.2 k n l ex
      have c1 : wr.cell? ⟨b, k * 2, none⟩ = some (.bool n) := (hs3.right.right.right.left.cell _).trans e1
      have c2 : wr.cell? ⟨b, k * 2 + 1, none⟩ = some (.slice ao l.length cap) := (hs3.right.right.right.left.cell _).trans e2
      have c3 : wr.cell? ⟨g + 1, 0, none⟩ = some (.slice so (limbsOf m).length sc) := (hs3.left.cell 0).trans rfl
      have c4 : wr.cell? ⟨g + 1, 1, none⟩ = some (.bool sn) := (hs3.left.cell 1).trans rfl
      go_wp2_with fail
      have hs5 := hs3.alloc (.cells #[.bool n, .slice ao l.length cap] 51)
      have hb5 : Below 0 w (wr.alloc (.cells #[.bool n, .slice ao l.length cap] 51)) := hb3.trans (Below.zero_alloc _ _)
      have hlt5 : g + 1 < wr.heap.size := hs3.left.lt
      clear c1 c2 c3 c4 hs3 hb3
      generalize wr.alloc (.cells #[.bool n, .slice ao l.length cap] 51) = w5 at *
      generalize wr.heap.size = g5 at *
      have hvl := limbsOf_limbs m
      have hml : (limbsOf m).length ≤ topB + 2 := Nat.le_trans (limbsOf_len hm) (by omega)
      obtain ⟨F, hF⟩ : ∃ F : HP, F = blk g5 (.cells #[.bool n, .slice ao l.length cap] 51 (0, 0)) * (blk (g + 1) (.cells #[.slice so (limbsOf m).length sc, .bool sn] 135 (0, 0)) * (own 70 1 (.slice so (limbsOf m).length sc) (limbsOf m).length ((limbsOf m).map u32v) * (blk g (.cells #[.bool false, .slice none 0 0] 51 (0, 0)) * (blk b (.cells cs 51 (0, 0)) * R)))) := ⟨_, rfl⟩
      rw [← hF] at hs5
      have hc : ∀ w', sat w' F → (w'.cell? ⟨g + 1, 0, none⟩ = some (.slice so (limbsOf m).length sc) ∧ w'.cell? ⟨g + 1, 1, none⟩ = some (.bool sn) ∧ w'.cell? ⟨g5, 0, none⟩ = some (.bool n) ∧ w'.cell? ⟨g5, 1, none⟩ = some (.slice ao l.length cap)) ∧ w'.frozen? ⟨g + 1, 0, none⟩ = false ∧ w'.frozen? ⟨g + 1, 1, none⟩ = false := by
        intro w' h
        rw [hF] at h
        exact ⟨⟨(h.right.left.cell 0).trans rfl, (h.right.left.cell 1).trans rfl, (h.left.cell 0).trans rfl, (h.left.cell 1).trans rfl⟩, h.right.left.frozen 0, h.right.left.frozen 1⟩
      have hOf : ∀ w', sat w' F → Calls Try.prog 91 #[.agg #[.bool n, .slice ao l.length cap]] w' fun e w'' => e = .returned (.agg #[.slice ao l.length cap, .bool n]) ∧ sat w'' F ∧ Below 0 w' w'' := fun w' h => (num_of w' n ao l.length cap).mono fun e w'' hk => ⟨hk.1, h.below hk.2, b0 hk.2⟩
      have hAd : ∀ w', sat w' F → Calls Try.prog 93 #[.agg #[.slice so (limbsOf m).length sc, .bool sn], .agg #[.slice ao l.length cap, .bool n]] w' (NumAddPost F (sgn sn m + sgn n (valL l)) w') := by
        intro w' h
        have h1 := num_add h sn n so ao sc cap (limbsOf m) l (fun w hw => by rw [hF] at hw; exact limbs_own rfl hw.right.right) (fun w hw => by rw [hF] at hw; exact hal w hw.right.right.right.right.right) hvl hll (by unfold topB at hml; omega) (by unfold topB at hlb; omega) hsc hlc
        rw [valL_limbsOf] at h1
        exact h1
      obtain ⟨k1, k2⟩ := hc w5 hs5
      obtain ⟨c1, c2, c3, c4⟩ := k1
      obtain ⟨f1, f2⟩ := k2
      have HA := Lib.hid (And.intro hOf (And.intro hAd (And.intro hs5 (And.intro hb5 hc))))
      have HF := Lib.hid hF
      clear hOf hAd hs5 hb5 hc hF e1 e2 hal hll
      have n1 : ¬ (g + 1 = g5) := by omega
      have n2 : ¬ (g5 = g + 1) := by omega
      go_region_law
        (first
          | (go_simp; go_at_call 91; refine (HA.out.1 _ HA.out.2.2.1.drew).mono ?_; rintro e w6 ⟨rfl, hs6, hb6⟩; obtain ⟨⟨l1, l2, l3, l4⟩, l5⟩ := HA.out.2.2.2.2 _ hs6)
          | (go_simp; go_at_call 93; refine (HA.out.2.1 _ hs6).mono ?_; rintro e w7 ⟨ro, rc, rn, rm, rfl, hr1, hs7, hb7⟩; obtain ⟨⟨m1, m2, m3, m4⟩, e8, e9⟩ := HA.out.2.2.2.2 _ hs7.right))
      all_goals (
        have hrc := own_cap hs7
        rw [HF.out] at hs7
        have hs8 := ((show sat w7 (blk (g + 1) (.cells #[.slice so (limbsOf m).length sc, .bool sn] 135 (0, 0)) * ((blk g5 (.cells #[.bool n, .slice ao l.length cap] 51 (0, 0)) * own 70 1 (.slice so (limbsOf m).length sc) (limbsOf m).length ((limbsOf m).map u32v)) * (own 70 1 (.slice ro (limbsOf rm).length rc) (limbsOf rm).length ((limbsOf rm).map u32v) * (blk g (.cells #[.bool false, .slice none 0 0] 51 (0, 0)) * (blk b (.cells cs 51 (0, 0)) * R))))) from hs7.perm (by ac_rfl)).setCell (off := 0) (.slice ro (limbsOf rm).length rc)).setCell (off := 1) (.bool rn)
        have hb8 : Below 0 w ((w7.setCell ⟨g + 1, 0, none⟩ (.slice ro (limbsOf rm).length rc)).setCell ⟨g + 1, 1, none⟩ (.bool rn)) := ((((HA.out.2.2.2.1.drew).trans hb6).trans hb7).setCell (p := ⟨g + 1, 0, none⟩) (Nat.zero_le _) _).setCell (p := ⟨g + 1, 1, none⟩) (Nat.zero_le _) _
        have HQ := Lib.hid (And.intro hs8 (And.intro hb8 hr1))
        clear hs7 hs8 hb8 hs6 hb6 hb7 hr1 l1 l2 l3 l4 l5 m1 m2 m3 m4 e8 e9 c1 c2 c3 c4 f1 f2 n1 n2
        generalize (w7.setCell ⟨g + 1, 0, none⟩ (.slice ro (limbsOf rm).length rc)).setCell ⟨g + 1, 1, none⟩ (.bool rn) = w8 at HQ ⊢
        go_wp2_with fail
        go_roundw
        case rel =>
          refine ⟨k + 1, ro, rc, rn, rm, by omega, by go_num, ?_, ?_, hrc, ?_, HQ.out.2.1⟩
          · rw [List.take_add_one, ex]
            show _ = sumI (xs.take k ++ [(n, l)])
            rw [sumI_snoc, HQ.out.2.2, hsum]
          · exact sum_bound ⟨rn, HQ.out.2.2⟩ hm (Nat.lt_of_lt_of_le (valL_lt (HH.out.2.2 k n l ex).choose_spec.choose_spec.2.2.2.2.1) (Nat.pow_le_pow_right (by decide) hlb))
          · exact (show sat w8 ((blk g5 (.cells #[.bool n, .slice ao l.length cap] 51 (0, 0)) * own 70 1 (.slice so (limbsOf m).length sc) (limbsOf m).length ((limbsOf m).map u32v)) * (blk (g + 1) (.cells #[.slice ro (limbsOf rm).length rc, .bool rn] 135 (0, 0)) * (own 70 1 (.slice ro (limbsOf rm).length rc) (limbsOf rm).length ((limbsOf rm).map u32v) * (blk g (.cells #[.bool false, .slice none 0 0] 51 (0, 0)) * (blk b (.cells cs 51 (0, 0)) * R))))) from HQ.out.1.perm (by simp only [List.setIfInBounds_toArray, List.set_cons_zero, List.set_cons_succ]; ac_rfl)).right
        case measure => simp [intOf]; omega)
    · obtain rfl : k = xs.length := by omega
      have hge : (xs.length : Int) ≤ xs.length := by omega
      rw [List.take_of_length_le (Nat.le_refl _)] at hsum
      have c3 : wr.cell? ⟨g + 1, 0, none⟩ = some (.slice so (limbsOf m).length sc) := (hs3.left.cell 0).trans rfl
      have c4 : wr.cell? ⟨g + 1, 1, none⟩ = some (.bool sn) := (hs3.left.cell 1).trans rfl
      have hml : (limbsOf m).length ≤ topB + 2 := Nat.le_trans (limbsOf_len hm) (by omega)
      have hT := num_told hs3 sn so sc (limbsOf m) (fun w hw => limbs_own rfl hw.right) (limbsOf_limbs m) (by unfold topB at hml; omega) hsc
      rw [valL_limbsOf, hsum] at hT
      have hmn : (sumI xs).natAbs = m := by rw [← hsum]; unfold sgn; split <;> omega
      have HQ := Lib.hid (And.intro hb3 hmn)
      clear hs3 hb3 hsum hm
      go_wp2_with fail
      with_reducible refine hT.mono ?_
      rintro e w7 ⟨sl, rfl, hs7, hb7⟩
      obtain ⟨lo, lc, rfl⟩ := own_val hs7
      have d1 : w7.cell? ⟨g, 0, none⟩ = some (.bool false) := (hs7.right.right.right.left.cell 0).trans rfl
      have d2 : w7.cell? ⟨g, 1, none⟩ = some (.slice none 0 0) := (hs7.right.right.right.left.cell 1).trans rfl
      have e1 := hs7.right.right.right.left.frozen 0
      have e2 := hs7.right.right.right.left.frozen 1
      have HW := Lib.hid (And.intro hs7 hb7)
      clear hT hs7 hb7
      go_wp2_with fail
      have hs8 := ((show sat w7 (blk g (.cells #[.bool false, .slice none 0 0] 51 (0, 0)) * ((blk (g + 1) (.cells #[.slice so (limbsOf m).length sc, .bool sn] 135 (0, 0)) * (own 70 1 (.slice so (limbsOf m).length sc) (limbsOf m).length ((limbsOf m).map u32v) * blk b (.cells cs 51 (0, 0)))) * (own 70 1 (.slice lo (limbsOf m).length lc) (limbsOf m).length ((limbsOf m).map u32v) * R))) from HW.out.1.perm (by ac_rfl)).setCell (off := 0) (.bool (decide (sumI xs < 0)))).setCell (off := 1) (.slice lo (limbsOf m).length lc)
      have hb8 : Below 0 w ((w7.setCell ⟨g, 0, none⟩ (.bool (decide (sumI xs < 0)))).setCell ⟨g, 1, none⟩ (.slice lo (limbsOf m).length lc)) := ((HQ.out.1.trans HW.out.2).setCell (p := ⟨g, 0, none⟩) (Nat.zero_le _) _).setCell (p := ⟨g, 1, none⟩) (Nat.zero_le _) _
      generalize (w7.setCell ⟨g, 0, none⟩ (.bool (decide (sumI xs < 0)))).setCell ⟨g, 1, none⟩ (.slice lo (limbsOf m).length lc) = w8 at hs8 hb8 ⊢
      have r0 : w8.cell? ⟨g, 0, none⟩ = some (.bool (decide (sumI xs < 0))) := (hs8.left.cell 0).trans rfl
      have r1 : w8.cell? ⟨g, 1, none⟩ = some (.slice lo (limbsOf m).length lc) := (hs8.left.cell 1).trans rfl
      refine bodyPost_ret (v := .agg #[.bool (decide (sumI xs < 0)), .slice lo (limbsOf m).length lc]) (by simp [results, Try.results65, go_sem, r0, r1]) rfl ⟨_, rfl, ?_, hb8⟩
      rw [HQ.out.2]
      exact hs8.right.right
end Go.Proofs.Ytanjiecefioffaa

/- num: Of, Neg, Sub, Cmp. -/
namespace Go.Proofs.Ytanjiecefioffaa
open Go.RowKit

theorem valL_two (x : Int) (h0 : 0 ≤ x) (h1 : x < 18446744073709551616) : valL [x % 4294967296, x / 4294967296] = x.toNat := by
  simp only [valL]; omega
set_option maxRecDepth 100000 in
set_option maxHeartbeats 1000000 in
theorem num_Of {w : World} {R : HP} (hs : sat w R) (v : Int) (h0 : -9223372036854775808 ≤ v) (h1 : v < 9223372036854775808) :
    Calls Try.prog 69 #[.int .i64 v] w (SumPost R v w) := by
  obtain ⟨u, hu⟩ : ∃ u, (if v < 0 then -v else v) = u := ⟨_, rfl⟩
  have u0 : 0 ≤ u ∧ u < 18446744073709551616 := by rw [← hu]; split <;> omega
  have hs1 := hs.alloc (.cells #[.bool false, .slice none 0 0] 51)
  have hs2 := hs1.alloc (.cells #[.int .u32 (u % 4294967296), .int .u32 (u / 4294967296)] 70)
  have hb2 : Below 0 w ((w.alloc (.cells #[.bool false, .slice none 0 0] 51)).alloc (.cells #[.int .u32 (u % 4294967296), .int .u32 (u / 4294967296)] 70)) := (Below.zero_alloc _ _).trans (Below.zero_alloc _ _)
  simp only [World.size_alloc] at hs2
  have hL : Limbs [u % 4294967296, u / 4294967296] := by intro x hx; simp at hx; rcases hx with rfl | rfl <;> omega
  have hT := num_told hs2 (decide (v < 0)) (some ⟨w.heap.size + 1, 0, none⟩) 2 [u % 4294967296, u / 4294967296] (fun w' hw j x hx => by
    match j, hx with
    | 0, hx => simp at hx; subst hx; exact ⟨_, rfl, (hw.left.cell 0).trans rfl⟩
    | 1, hx => simp at hx; subst hx; exact ⟨_, rfl, (hw.left.cell 1).trans rfl⟩) hL (by show 2 ≤ _; decide) (by show 2 ≤ 2; decide)
  have hsg : sgn (decide (v < 0)) (valL [u % 4294967296, u / 4294967296]) = v := by
    rw [valL_two u u0.1 u0.2, ← hu]
    unfold sgn
    by_cases h : v < 0
    · rw [if_pos (by simp [h]), if_pos h]; omega
    · rw [if_neg (by simp [h]), if_neg h]; omega
  have hvn : valL [u % 4294967296, u / 4294967296] = v.natAbs := by rw [valL_two u u0.1 u0.2, ← hu]; split <;> omega
  rw [hsg, hvn, show [u % 4294967296, u / 4294967296].length = 2 from rfl] at hT
  have w32 : IntKind.u32.wrap u = u % 4294967296 := rfl
  have w33 : IntKind.u32.wrap (u / 4294967296) = u / 4294967296 := by rw [show IntKind.u32.wrap (u / 4294967296) = (u / 4294967296) % 4294967296 from rfl]; omega
  have HH := Lib.hid (And.intro hT hb2)
  clear hT hs1 hs2 hb2 hL hsg hvn
  by_cases hneg : v < 0
  · have b1 : decide (v < 0) = true := by simp [hneg]
    have hw : IntKind.u64.wrap (-(IntKind.u64.wrap v)) = u := by rw [IntKind.wrap_u64, IntKind.wrap_u64, ← hu, if_pos hneg]; omega
    rw [b1] at HH
    have HB := Lib.hid b1
    clear hu
    go_enter Try.func69, Try.ntmps69
    go_wp2_with fail
    with_reducible refine HH.out.1.mono ?_
    rintro e w7 ⟨sl, rfl, hs7, hb7⟩
    obtain ⟨lo, lc, rfl⟩ := own_val hs7
    have d1 : w7.cell? ⟨w.heap.size, 0, none⟩ = some (.bool false) := (hs7.right.right.left.cell 0).trans rfl
    have d2 : w7.cell? ⟨w.heap.size, 1, none⟩ = some (.slice none 0 0) := (hs7.right.right.left.cell 1).trans rfl
    have e1 := hs7.right.right.left.frozen 0
    have e2 := hs7.right.right.left.frozen 1
    have HW := Lib.hid (And.intro hs7 (HH.out.2.trans hb7))
    clear hs7 hb7
    go_wp2_with fail
    have hs8 := ((show sat w7 (blk w.heap.size (.cells #[.bool false, .slice none 0 0] 51 (0, 0)) * (blk (w.heap.size + 1) (.cells #[.int .u32 (u % 4294967296), .int .u32 (u / 4294967296)] 70 (0, 0)) * (own 70 1 (.slice lo (limbsOf v.natAbs).length lc) (limbsOf v.natAbs).length ((limbsOf v.natAbs).map u32v) * R))) from HW.out.1.perm (by ac_rfl)).setCell (off := 0) (.bool true)).setCell (off := 1) (.slice lo (limbsOf v.natAbs).length lc)
    have hb8 : Below 0 w ((w7.setCell ⟨w.heap.size, 0, none⟩ (.bool true)).setCell ⟨w.heap.size, 1, none⟩ (.slice lo (limbsOf v.natAbs).length lc)) := (HW.out.2.setCell (p := ⟨w.heap.size, 0, none⟩) (Nat.zero_le _) _).setCell (p := ⟨w.heap.size, 1, none⟩) (Nat.zero_le _) _
    generalize (w7.setCell ⟨w.heap.size, 0, none⟩ (.bool true)).setCell ⟨w.heap.size, 1, none⟩ (.slice lo (limbsOf v.natAbs).length lc) = w8 at hs8 hb8 ⊢
    have r0 : w8.cell? ⟨w.heap.size, 0, none⟩ = some (.bool true) := (hs8.left.cell 0).trans rfl
    have r1 : w8.cell? ⟨w.heap.size, 1, none⟩ = some (.slice lo (limbsOf v.natAbs).length lc) := (hs8.left.cell 1).trans rfl
    refine bodyPost_ret (v := .agg #[.bool true, .slice lo (limbsOf v.natAbs).length lc]) (by simp [results, Try.results69, go_sem, r0, r1]) rfl ⟨_, by rw [HB.out], hs8.right.right, hb8⟩
  · have b1 : decide (v < 0) = false := by simp; omega
    have hw : IntKind.u64.wrap v = u := by rw [IntKind.wrap_u64, ← hu, if_neg hneg]; omega
    rw [b1] at HH
    have HB := Lib.hid b1
    clear hu
    go_enter Try.func69, Try.ntmps69
    go_wp2_with fail
    with_reducible refine HH.out.1.mono ?_
    rintro e w7 ⟨sl, rfl, hs7, hb7⟩
    obtain ⟨lo, lc, rfl⟩ := own_val hs7
    have d1 : w7.cell? ⟨w.heap.size, 0, none⟩ = some (.bool false) := (hs7.right.right.left.cell 0).trans rfl
    have d2 : w7.cell? ⟨w.heap.size, 1, none⟩ = some (.slice none 0 0) := (hs7.right.right.left.cell 1).trans rfl
    have e1 := hs7.right.right.left.frozen 0
    have e2 := hs7.right.right.left.frozen 1
    have HW := Lib.hid (And.intro hs7 (HH.out.2.trans hb7))
    clear hs7 hb7
    go_wp2_with fail
    have hs8 := ((show sat w7 (blk w.heap.size (.cells #[.bool false, .slice none 0 0] 51 (0, 0)) * (blk (w.heap.size + 1) (.cells #[.int .u32 (u % 4294967296), .int .u32 (u / 4294967296)] 70 (0, 0)) * (own 70 1 (.slice lo (limbsOf v.natAbs).length lc) (limbsOf v.natAbs).length ((limbsOf v.natAbs).map u32v) * R))) from HW.out.1.perm (by ac_rfl)).setCell (off := 0) (.bool false)).setCell (off := 1) (.slice lo (limbsOf v.natAbs).length lc)
    have hb8 : Below 0 w ((w7.setCell ⟨w.heap.size, 0, none⟩ (.bool false)).setCell ⟨w.heap.size, 1, none⟩ (.slice lo (limbsOf v.natAbs).length lc)) := (HW.out.2.setCell (p := ⟨w.heap.size, 0, none⟩) (Nat.zero_le _) _).setCell (p := ⟨w.heap.size, 1, none⟩) (Nat.zero_le _) _
    generalize (w7.setCell ⟨w.heap.size, 0, none⟩ (.bool false)).setCell ⟨w.heap.size, 1, none⟩ (.slice lo (limbsOf v.natAbs).length lc) = w8 at hs8 hb8 ⊢
    have r0 : w8.cell? ⟨w.heap.size, 0, none⟩ = some (.bool false) := (hs8.left.cell 0).trans rfl
    have r1 : w8.cell? ⟨w.heap.size, 1, none⟩ = some (.slice lo (limbsOf v.natAbs).length lc) := (hs8.left.cell 1).trans rfl
    refine bodyPost_ret (v := .agg #[.bool false, .slice lo (limbsOf v.natAbs).length lc]) (by simp [results, Try.results69, go_sem, r0, r1]) rfl ⟨_, by rw [HB.out], hs8.right.right, hb8⟩

theorem sgn_not (n : Bool) (v : Nat) : sgn (!n) v = -(sgn n v) := by unfold sgn; cases n <;> simp
theorem sgn_abs (n : Bool) (v : Nat) : (sgn n v).natAbs = v := by unfold sgn; split <;> omega
set_option maxRecDepth 100000 in
set_option maxHeartbeats 1000000 in
theorem num_Neg {w : World} {R : HP} (hs : sat w R) (n : Bool) (ao : Option Addr) (ca : Nat) (a : List Int) (ha : ∀ w, sat w R → LimbsW w ao a) (la : Limbs a) (na : a.length ≤ 35184372087808) (hca : a.length ≤ ca) :
    Calls Try.prog 109 #[.agg #[.bool n, .slice ao a.length ca]] w (SumPost R (-(sgn n (valL a))) w) := by
  have hs1 := (hs.alloc (.cells #[.bool n, .slice ao a.length ca] 51)).alloc (.cells #[.bool false, .slice none 0 0] 51)
  have hb1 : Below 0 w ((w.alloc (.cells #[.bool n, .slice ao a.length ca] 51)).alloc (.cells #[.bool false, .slice none 0 0] 51)) := (Below.zero_alloc _ _).trans (Below.zero_alloc _ _)
  simp only [World.size_alloc] at hs1
  obtain ⟨g, hg⟩ : ∃ g, w.heap.size = g := ⟨_, rfl⟩
  rw [hg] at hs1
  have hO := num_of ((w.alloc (.cells #[.bool n, .slice ao a.length ca] 51)).alloc (.cells #[.bool false, .slice none 0 0] 51)) n ao a.length ca
  have HH := Lib.hid (And.intro hs1 (And.intro hb1 (And.intro ha la)))
  clear hs1 hb1 ha la hs
  go_enter Try.func109, Try.ntmps109
  go_wp2_with fail
  generalize (w.alloc (.cells #[.bool n, .slice ao a.length ca] 51)).alloc (.cells #[.bool false, .slice none 0 0] 51) = w1 at HH hO ⊢
  with_reducible refine hO.mono ?_
  rintro e w2 ⟨rfl, hb2⟩
  have hs2 := HH.out.1.below hb2
  have hb3 := HH.out.2.1.trans (b0 hb2)
  clear hO
  go_upto_region 2 with (fail)
  have hs4 := hs2.alloc (.cells #[.slice ao a.length ca, .bool n] 135)
  have hb4 : Below 0 w (w2.alloc (.cells #[.slice ao a.length ca, .bool n] 135)) := hb3.trans (Below.zero_alloc _ _)
  clear hs2 hb2 hb3
  generalize w2.alloc (.cells #[.slice ao a.length ca, .bool n] 135) = w5 at *
  generalize w2.heap.size = g5 at *
  have c0 : w5.cell? ⟨g5, 0, none⟩ = some (.slice ao a.length ca) := (hs4.left.cell 0).trans rfl
  have c1 : w5.cell? ⟨g5, 1, none⟩ = some (.bool n) := (hs4.left.cell 1).trans rfl
  have f1 := hs4.left.frozen 1
  go_upto_region 3 with (fail)
  have hs6 := hs4.setCell (off := 1) (.bool (!n))
  have hb6 : Below 0 w (w5.setCell ⟨g5, 1, none⟩ (.bool (!n))) := hb4.setCell (p := ⟨g5, 1, none⟩) (Nat.zero_le _) _
  clear hs4 hb4 c0 c1 f1
  generalize w5.setCell ⟨g5, 1, none⟩ (.bool (!n)) = w6 at *
  have c0 : w6.cell? ⟨g5, 0, none⟩ = some (.slice ao a.length ca) := (hs6.left.cell 0).trans rfl
  have c1 : w6.cell? ⟨g5, 1, none⟩ = some (.bool (!n)) := (hs6.left.cell 1).trans rfl
  have hT := num_told hs6 (!n) ao ca a (fun w hw => HH.out.2.2.1 w hw.right.right.right) HH.out.2.2.2 na hca
  rw [sgn_not] at hT
  have HS := Lib.hid hb6
  clear hs6 hb6
  go_wp2_with fail
  with_reducible refine hT.mono ?_
  rintro e w7 ⟨sl, rfl, hs7, hb7⟩
  obtain ⟨lo, lc, rfl⟩ := own_val hs7
  have d1 : w7.cell? ⟨g + 1, 0, none⟩ = some (.bool false) := (hs7.right.right.left.cell 0).trans rfl
  have d2 : w7.cell? ⟨g + 1, 1, none⟩ = some (.slice none 0 0) := (hs7.right.right.left.cell 1).trans rfl
  have e1 := hs7.right.right.left.frozen 0
  have e2 := hs7.right.right.left.frozen 1
  have HW := Lib.hid (And.intro hs7 (HS.out.trans hb7))
  obtain ⟨B, hB⟩ : ∃ B, decide (-(sgn n (valL a)) < 0) = B := ⟨_, rfl⟩
  rw [hB]
  clear hs7 hb7 hT
  go_wp2_with fail
  have hs8 := ((show sat w7 (blk (g + 1) (.cells #[.bool false, .slice none 0 0] 51 (0, 0)) * ((blk g5 (.cells #[.slice ao a.length ca, .bool (!n)] 135 (0, 0)) * blk g (.cells #[.bool n, .slice ao a.length ca] 51 (0, 0))) * (own 70 1 (.slice lo (limbsOf (valL a)).length lc) (limbsOf (valL a)).length ((limbsOf (valL a)).map u32v) * R))) from HW.out.1.perm (by simp only [List.setIfInBounds_toArray, List.set_cons_zero, List.set_cons_succ]; ac_rfl)).setCell (off := 0) (.bool B)).setCell (off := 1) (.slice lo (limbsOf (valL a)).length lc)
  have hb8 : Below 0 w ((w7.setCell ⟨g + 1, 0, none⟩ (.bool B)).setCell ⟨g + 1, 1, none⟩ (.slice lo (limbsOf (valL a)).length lc)) := (HW.out.2.setCell (p := ⟨g + 1, 0, none⟩) (Nat.zero_le _) _).setCell (p := ⟨g + 1, 1, none⟩) (Nat.zero_le _) _
  generalize (w7.setCell ⟨g + 1, 0, none⟩ (.bool B)).setCell ⟨g + 1, 1, none⟩ (.slice lo (limbsOf (valL a)).length lc) = w8 at hs8 hb8 ⊢
  have r0 : w8.cell? ⟨g + 1, 0, none⟩ = some (.bool B) := (hs8.left.cell 0).trans rfl
  have r1 : w8.cell? ⟨g + 1, 1, none⟩ = some (.slice lo (limbsOf (valL a)).length lc) := (hs8.left.cell 1).trans rfl
  refine bodyPost_ret (v := .agg #[.bool B, .slice lo (limbsOf (valL a)).length lc]) (by simp [results, Try.results109, go_sem, r0, r1]) rfl ⟨.slice lo (limbsOf (valL a)).length lc, by rw [hB], ?_, hb8⟩
  rw [Int.natAbs_neg, sgn_abs]
  exact hs8.right.right
end Go.Proofs.Ytanjiecefioffaa

/- num: Sub, Cmp. -/
namespace Go.Proofs.Ytanjiecefioffaa
open Go.RowKit

theorem sgn_dec (s : Int) : sgn (decide (s < 0)) s.natAbs = s := by
  unfold sgn
  by_cases h : s < 0
  · rw [if_pos (by simpa using h)]; omega
  · rw [if_neg (by simpa using h)]; omega
set_option maxRecDepth 100000 in
set_option maxHeartbeats 1000000 in
theorem num_Sub {w : World} {R : HP} (hs : sat w R) (n k : Bool) (ao bo : Option Addr) (ca cb : Nat) (a b : List Int) (ha : ∀ w, sat w R → LimbsW w ao a) (hb : ∀ w, sat w R → LimbsW w bo b) (la : Limbs a) (lb : Limbs b) (na : a.length ≤ topB) (nb : b.length ≤ topB) (hca : a.length ≤ ca) (hcb : b.length ≤ cb) :
    Calls Try.prog 96 #[.agg #[.bool n, .slice ao a.length ca], .agg #[.bool k, .slice bo b.length cb]] w (SumPost R (sgn n (valL a) - sgn k (valL b)) w) := by
  have hs1 := ((hs.alloc (.cells #[.bool n, .slice ao a.length ca] 51)).alloc (.cells #[.bool k, .slice bo b.length cb] 51)).alloc (.cells #[.bool false, .slice none 0 0] 51)
  have hb1 : Below 0 w (((w.alloc (.cells #[.bool n, .slice ao a.length ca] 51)).alloc (.cells #[.bool k, .slice bo b.length cb] 51)).alloc (.cells #[.bool false, .slice none 0 0] 51)) := ((Below.zero_alloc _ _).trans (Below.zero_alloc _ _)).trans (Below.zero_alloc _ _)
  simp only [World.size_alloc] at hs1
  obtain ⟨g, hg⟩ : ∃ g, w.heap.size = g := ⟨_, rfl⟩
  rw [hg] at hs1
  obtain ⟨F, hF⟩ : ∃ F : HP, F = blk (g + 1 + 1) (.cells #[.bool false, .slice none 0 0] 51 (0, 0)) * (blk (g + 1) (.cells #[.bool k, .slice bo b.length cb] 51 (0, 0)) * (blk g (.cells #[.bool n, .slice ao a.length ca] 51 (0, 0)) * R)) := ⟨_, rfl⟩
  rw [← hF] at hs1
  have hFR : ∀ w', sat w' F → sat w' R := fun w' h => by rw [hF] at h; exact h.right.right.right
  have hc : ∀ w', sat w' F → (w'.cell? ⟨g, 0, none⟩ = some (.bool n) ∧ w'.cell? ⟨g, 1, none⟩ = some (.slice ao a.length ca) ∧ w'.cell? ⟨g + 1, 0, none⟩ = some (.bool k) ∧ w'.cell? ⟨g + 1, 1, none⟩ = some (.slice bo b.length cb)) ∧ (w'.cell? ⟨g + 1 + 1, 0, none⟩ = some (.bool false) ∧ w'.cell? ⟨g + 1 + 1, 1, none⟩ = some (.slice none 0 0)) ∧ w'.frozen? ⟨g + 1 + 1, 0, none⟩ = false ∧ w'.frozen? ⟨g + 1 + 1, 1, none⟩ = false := by
    intro w' h
    rw [hF] at h
    exact ⟨⟨(h.right.right.left.cell 0).trans rfl, (h.right.right.left.cell 1).trans rfl, (h.right.left.cell 0).trans rfl, (h.right.left.cell 1).trans rfl⟩, ⟨(h.left.cell 0).trans rfl, (h.left.cell 1).trans rfl⟩, h.left.frozen 0, h.left.frozen 1⟩
  obtain ⟨B, hB⟩ : ∃ B, decide (-(sgn k (valL b)) < 0) = B := ⟨_, rfl⟩
  have hNeg : ∀ w', sat w' F → Calls Try.prog 109 #[.agg #[.bool k, .slice bo b.length cb]] w' fun e w'' => ∃ sl, e = .returned (.agg #[.bool B, sl]) ∧ sat w'' (own 70 1 sl (limbsOf (valL b)).length ((limbsOf (valL b)).map u32v) * F) ∧ Below 0 w' w'' := by
    intro w' h
    have h1 := num_Neg h k bo cb b (fun w hw => hb w (hFR w hw)) lb (by unfold topB at nb; omega) hcb
    unfold SumPost at h1
    rw [hB, Int.natAbs_neg, sgn_abs] at h1
    exact h1
  have hAdd : ∀ w' sl (h : sat w' (own 70 1 sl (limbsOf (valL b)).length ((limbsOf (valL b)).map u32v) * F)), ∀ ao2 cap2, sl = .slice ao2 (limbsOf (valL b)).length cap2 →
      Calls Try.prog 65 #[.slice (some ⟨w'.heap.size, 0, none⟩) 2 2] (w'.alloc (.cells #[.bool n, .slice ao a.length ca, .bool B, sl] 51)) (fun e w'' => SumPost F (sgn n (valL a) - sgn k (valL b)) w' e w'') := by
    intro w' sl h ao2 cap2 hsl
    have h1 := h.alloc (.cells #[.bool n, .slice ao a.length ca, .bool B, sl] 51)
    have h2 := num_Sum w'.heap.size 2 _ [(n, a), (B, limbsOf (valL b))] h1 (by
      intro j m l hj
      match j, hj with
      | 0, hj =>
        simp at hj
        obtain ⟨rfl, rfl⟩ := hj
        exact ⟨ao, ca, rfl, rfl, hca, fun w hw => ha w (hFR w hw.right), la, na⟩
      | 1, hj =>
        simp at hj
        obtain ⟨rfl, rfl⟩ := hj
        refine ⟨ao2, cap2, rfl, by rw [hsl]; rfl, ?_, fun w hw => limbs_own hsl hw, limbsOf_limbs _, ?_⟩
        · rw [hsl] at h; exact own_cap h
        · exact Nat.le_trans (limbsOf_len_le lb) nb) (by show 2 ≤ 2; decide)
    have hsum : sumI [(n, a), (B, limbsOf (valL b))] = sgn n (valL a) - sgn k (valL b) := by
      simp only [sumI, valL_limbsOf]
      have h9 := sgn_dec (-(sgn k (valL b)))
      rw [hB, Int.natAbs_neg, sgn_abs] at h9
      omega
    rw [hsum] at h2
    refine h2.mono ?_
    rintro e w'' ⟨sl2, he, hs2, hb2⟩
    exact ⟨sl2, he, (show sat w'' (own 70 1 sl _ _ * (own 70 1 sl2 _ _ * F)) from hs2.perm (by ac_rfl)).right, (Below.zero_alloc _ _).trans hb2⟩
  have HH := Lib.hid (And.intro hs1 (And.intro hb1 (And.intro hc (And.intro hNeg (And.intro hAdd hF)))))
  clear hs1 hb1 ha hb la lb hs hFR hc hNeg hAdd hF hB
  go_enter Try.func96, Try.ntmps96
  go_wp2_with fail
  generalize ((w.alloc (.cells #[.bool n, .slice ao a.length ca] 51)).alloc (.cells #[.bool k, .slice bo b.length cb] 51)).alloc (.cells #[.bool false, .slice none 0 0] 51) = w1 at HH ⊢
  obtain ⟨⟨c1, c2, c3, c4⟩, ⟨c5, c6⟩, c7, c8⟩ := HH.out.2.2.1 w1 HH.out.1
  go_region_law
    (first
      | (go_simp; go_at_call 109; refine (HH.out.2.2.2.1 _ HH.out.1.drew).mono ?_; rintro e w6 ⟨sl, rfl, hs6, hb6⟩; obtain ⟨lo, lc, rfl⟩ := own_val hs6; obtain ⟨⟨l1, l2, l3, l4⟩, l5⟩ := HH.out.2.2.1 _ hs6.right)
      | (go_simp; go_at_call 65; refine (HH.out.2.2.2.2.1 _ _ hs6 _ _ rfl).mono ?_; rintro e w7 ⟨sl2, rfl, hs7, hb7⟩; obtain ⟨ro, rc, rfl⟩ := own_val hs7; obtain ⟨⟨m1, m2, m3, m4⟩, ⟨m5, m6⟩, m7, m8⟩ := HH.out.2.2.1 _ hs7.right))
  all_goals (
    generalize hsv : sgn n (valL a) - sgn k (valL b) = sv at *
    have hs8 := hs7
    rw [HH.out.2.2.2.2.2] at hs8
    have hs9 := ((show sat w7 (blk (g + 1 + 1) (.cells #[.bool false, .slice none 0 0] 51 (0, 0)) * ((blk (g + 1) (.cells #[.bool k, .slice bo b.length cb] 51 (0, 0)) * blk g (.cells #[.bool n, .slice ao a.length ca] 51 (0, 0))) * (own 70 1 (.slice ro (limbsOf sv.natAbs).length rc) (limbsOf sv.natAbs).length ((limbsOf sv.natAbs).map u32v) * R))) from hs8.perm (by ac_rfl)).setCell (off := 0) (.bool (decide (sv < 0)))).setCell (off := 1) (.slice ro (limbsOf sv.natAbs).length rc)
    have hb9 : Below 0 w ((w7.setCell ⟨g + 1 + 1, 0, none⟩ (.bool (decide (sv < 0)))).setCell ⟨g + 1 + 1, 1, none⟩ (.slice ro (limbsOf sv.natAbs).length rc)) := (((HH.out.2.1.drew.trans hb6).trans hb7).setCell (p := ⟨g + 1 + 1, 0, none⟩) (Nat.zero_le _) _).setCell (p := ⟨g + 1 + 1, 1, none⟩) (Nat.zero_le _) _
    have HQ := Lib.hid (And.intro hs9 hb9)
    clear hs7 hs8 hs9 hb9 hs6 hb6 hb7 l1 l2 l3 l4 l5 m1 m2 m3 m4 m5 m6 m7 m8 c1 c2 c3 c4 c5 c6 c7 c8 HH hsv
    generalize (w7.setCell ⟨g + 1 + 1, 0, none⟩ (.bool (decide (sv < 0)))).setCell ⟨g + 1 + 1, 1, none⟩ (.slice ro (limbsOf sv.natAbs).length rc) = w8 at HQ ⊢
    go_wp2_with fail
    have r0 : w8.cell? ⟨g + 1 + 1, 0, none⟩ = some (.bool (decide (sv < 0))) := (HQ.out.1.left.cell 0).trans rfl
    have r1 : w8.cell? ⟨g + 1 + 1, 1, none⟩ = some (.slice ro (limbsOf sv.natAbs).length rc) := (HQ.out.1.left.cell 1).trans rfl
    refine bodyPost_ret (v := .agg #[.bool (decide (sv < 0)), .slice ro (limbsOf sv.natAbs).length rc]) (by simp [results, Try.results96, go_sem, r0, r1]) rfl ⟨_, rfl, HQ.out.1.right.right, HQ.out.2⟩)

/-- How two numbers stand. -/
def cmpI (x y : Int) : Int := if x < y then -1 else if y < x then 1 else 0
theorem sign_sub (x y : Int) : signN (decide (x - y < 0)) (x - y).natAbs = cmpI x y := by
  unfold signN cmpI
  by_cases h1 : x < y
  · rw [if_neg (by omega), if_pos (by simp; omega), if_pos h1]
  · by_cases h2 : y < x
    · rw [if_neg (by omega), if_neg (by simp; omega), if_neg h1, if_pos h2]
    · rw [if_pos (by omega), if_neg h1, if_neg h2]
/-- It answers v; what R says still holds. -/
def KeepsR (R : HP) (v : Value) (w : World) (e : Ending) (w' : World) : Prop := e = .returned v ∧ sat w' R ∧ Below 0 w w'
set_option maxRecDepth 100000 in
set_option maxHeartbeats 1000000 in
theorem num_Cmp {w : World} {R : HP} (hs : sat w R) (n k : Bool) (ao bo : Option Addr) (ca cb : Nat) (a b : List Int) (ha : ∀ w, sat w R → LimbsW w ao a) (hb : ∀ w, sat w R → LimbsW w bo b) (la : Limbs a) (lb : Limbs b) (na : a.length ≤ topB) (nb : b.length ≤ topB) (hca : a.length ≤ ca) (hcb : b.length ≤ cb) :
    Calls Try.prog 67 #[.agg #[.bool n, .slice ao a.length ca], .agg #[.bool k, .slice bo b.length cb]] w (KeepsR R (.int .i64 (cmpI (sgn n (valL a)) (sgn k (valL b)))) w) := by
  have hs1 := (hs.alloc (.cells #[.bool n, .slice ao a.length ca] 51)).alloc (.cells #[.bool k, .slice bo b.length cb] 51)
  have hb1 : Below 0 w ((w.alloc (.cells #[.bool n, .slice ao a.length ca] 51)).alloc (.cells #[.bool k, .slice bo b.length cb] 51)) := (Below.zero_alloc _ _).trans (Below.zero_alloc _ _)
  have hS := num_Sub hs1 n k ao bo ca cb a b (fun w hw => ha w hw.right.right) (fun w hw => hb w hw.right.right) la lb na nb hca hcb
  have hbd : (limbsOf (sgn n (valL a) - sgn k (valL b)).natAbs).length ≤ topB + (0 + 1) := by
    refine limbsOf_len (n := topB + (0 + 1)) ?_
    refine sum_bound (k := 0) (sn := n) (n := !k) (m := valL a) (v := valL b) ⟨decide (sgn n (valL a) - sgn k (valL b) < 0), ?_⟩ ?_ (Nat.lt_of_lt_of_le (valL_lt lb) (Nat.pow_le_pow_right (by decide) nb))
    · rw [sgn_dec, sgn_not]
      omega
    · rw [Nat.add_zero]
      exact Nat.lt_of_lt_of_le (valL_lt la) (Nat.pow_le_pow_right (by decide) na)
  rw [← sign_sub]
  generalize sgn n (valL a) - sgn k (valL b) = sv at *
  have HH := Lib.hid (And.intro hS hb1)
  clear hs1 hb1 hS ha hb la lb hs
  go_enter Try.func67, Try.ntmps67
  go_wp2_with fail
  with_reducible refine HH.out.1.mono ?_
  rintro e w2 ⟨sl, rfl, hs2, hb2⟩
  obtain ⟨lo, lc, rfl⟩ := own_val hs2
  have hlc := own_cap hs2
  have HB := Lib.hid (And.intro hs2 (HH.out.2.trans hb2))
  clear hs2 hb2 HH
  go_wp2_with fail
  refine (num_of w2 (decide (sv < 0)) lo (limbsOf sv.natAbs).length lc).mono ?_
  rintro e w3 ⟨rfl, hb3⟩
  have hs3 := HB.out.1.below hb3
  have hG := num_sign w3 (decide (sv < 0)) lo lc (limbsOf sv.natAbs) (limbs_own rfl hs3) (limbsOf_limbs _) (by unfold topB at hbd; omega) hlc
  rw [valL_limbsOf] at hG
  have HC := Lib.hid (And.intro hs3.right.right.right (HB.out.2.trans (b0 hb3)))
  clear hs3 hb3 HB
  go_wp2_with fail
  with_reducible refine hG.mono ?_
  rintro e w4 ⟨rfl, hb4⟩
  go_wp2_with fail
  go_ret
  exact ⟨rfl, HC.out.1.below hb4, HC.out.2.trans (b0 hb4)⟩
end Go.Proofs.Ytanjiecefioffaa

/- num: Small. -/
namespace Go.Proofs.Ytanjiecefioffaa
open Go.RowKit

def isSmall (x : Int) : Bool := decide (-2305843009213693952 ≤ x) && decide (x < 2305843009213693952)
def smallI (x : Int) : Int := if isSmall x = true then x else 0
theorem i64_or_nat (a b : Nat) (ha : a < 9223372036854775808) (hb : b < 9223372036854775808) : bits .or .i64 (a : Int) (b : Int) = ((a ||| b : Nat) : Int) := by
  have hx : a ||| b < 2 ^ 63 := Nat.or_lt_two_pow ha hb
  have hw : ∀ x : Nat, x < 9223372036854775808 → IntKind.i64.wrap (x : Int) = x := by
    intro x h
    rw [IntKind.wrap_i64]
    omega
  have e : bits .or .i64 (a : Int) (b : Int) = IntKind.i64.wrap ((BitVec.ofInt 64 (a : Int) ||| BitVec.ofInt 64 (b : Int)).toNat : Int) := rfl
  rw [e, BitVec.toNat_or, ofInt_u64 a (by omega), ofInt_u64 b (by omega)]
  exact hw _ hx
theorem or_limb (v x : Nat) (hx : x < 4294967296) (hv : v * 4294967296 + x < 4611686018427387904) : bits .or .i64 ((v : Int) * 4294967296) (x : Int) = ((v * 4294967296 + x : Nat) : Int) := by
  have h1 := Nat.two_pow_add_eq_or_of_lt (i := 32) (b := x) hx v
  rw [show (2 : Nat) ^ 32 * v = v * 4294967296 by rw [Nat.mul_comm]] at h1
  have e : (v : Int) * 4294967296 = ((v * 4294967296 : Nat) : Int) := by simp
  rw [e]
  generalize v * 4294967296 = p at *
  rw [h1]
  exact i64_or_nat p x (Nat.lt_of_le_of_lt (Nat.le_add_right p x) (Nat.lt_trans hv (by decide))) (Nat.lt_trans hx (by decide))
theorem valL_drop (l : List Int) (k : Nat) (x : Int) (hx : l[k]? = some x) : valL (l.drop k) = x.toNat + 4294967296 * valL (l.drop (k + 1)) := by
  obtain ⟨h, e⟩ := List.getElem?_eq_some_iff.1 hx
  rw [List.drop_eq_getElem_cons h, e]; rfl
theorem valL_drop_le (l : List Int) : ∀ k, valL (l.drop k) ≤ valL l := by
  induction l with
  | nil => intro k; simp
  | cons x l ih =>
    intro k
    cases k with
    | zero => exact Nat.le_refl _
    | succ k => have := ih k; simp only [List.drop_succ_cons, valL]; omega
theorem valL_low {l : List Int} (h : valL l < 18446744073709551616) : valL (l.take 2) = valL l := by
  have h1 := valL_append (l.take 2) (l.drop 2)
  rw [List.take_append_drop] at h1
  rcases Nat.lt_or_ge l.length 2 with hs | hs
  · rw [List.take_of_length_le (by omega)]
  · rw [List.length_take, Nat.min_eq_left hs] at h1
    have : valL (l.drop 2) = 0 := by
      rcases Nat.eq_zero_or_pos (valL (l.drop 2)) with e | e
      · exact e
      · exfalso
        have := Nat.mul_le_mul_left (4294967296 ^ 2) e
        omega
    rw [h1, this]
    simp
def SmRel (w : World) (l : List Int) (m : Nat) (v i : Value) (wr : World) : Prop :=
  ∃ k j : Nat, k ≤ m ∧ i = .int .i64 ((k : Int) - 1) ∧ v = .int .i64 (valL ((l.take m).drop k)) ∧ wr = w.drewN j
set_option maxRecDepth 100000 in
set_option maxHeartbeats 1000000 in
theorem num_Small {w : World} {R : HP} (hs : sat w R) (n : Bool) (ao : Option Addr) (ca : Nat) (a : List Int) (ha : ∀ w, sat w R → LimbsW w ao a) (la : Limbs a) (na : a.length ≤ topB) (hca : a.length ≤ ca) :
    Calls Try.prog 64 #[.agg #[.bool n, .slice ao a.length ca]] w (KeepsR R (.tuple #[.int .i64 (smallI (sgn n (valL a))), .bool (isSmall (sgn n (valL a)))]) w) := by
  have hs1 := hs.alloc (.cells #[.bool n, .slice ao a.length ca] 51)
  have hb1 : Below 0 w (w.alloc (.cells #[.bool n, .slice ao a.length ca] 51)) := Below.zero_alloc _ _
  obtain ⟨g, hg⟩ : ∃ g, w.heap.size = g := ⟨_, rfl⟩
  rw [hg] at hs1
  have hO := num_of (w.alloc (.cells #[.bool n, .slice ao a.length ca] 51)) n ao a.length ca
  have HH := Lib.hid (And.intro hs1 (And.intro hb1 (And.intro ha la)))
  clear hs1 hb1 ha la hs
  go_enter Try.func64, Try.ntmps64
  go_wp2_with fail
  generalize w.alloc (.cells #[.bool n, .slice ao a.length ca] 51) = w1 at HH hO ⊢
  with_reducible refine hO.mono ?_
  rintro e w2 ⟨rfl, hb2⟩
  have hs2 := HH.out.1.below hb2
  have hb3 := HH.out.2.1.trans (b0 hb2)
  clear hO
  go_upto_region 2 with (fail)
  have hs4 := hs2.alloc (.cells #[.slice ao a.length ca, .bool n] 135)
  have hb4 : Below 0 w (w2.alloc (.cells #[.slice ao a.length ca, .bool n] 135)) := hb3.trans (Below.zero_alloc _ _)
  clear hs2 hb2 hb3
  generalize w2.alloc (.cells #[.slice ao a.length ca, .bool n] 135) = w5 at *
  generalize w2.heap.size = g5 at *
  have c0 : w5.cell? ⟨g5, 0, none⟩ = some (.slice ao a.length ca) := (hs4.left.cell 0).trans rfl
  have hB := size_bits w5 ao ca a (HH.out.2.2.1 w5 hs4.right.right) HH.out.2.2.2 (by unfold topB at na; omega) hca
  have HS := Lib.hid (And.intro hs4 hb4)
  clear hs4 hb4
  go_wp2_with fail
  with_reducible refine hB.mono ?_
  rintro e w6 ⟨rfl, hb6⟩
  have hs6 := HS.out.1.below hb6
  have hb7 := HS.out.2.trans (b0 hb6)
  clear hB
  have hbb := bits_le (valL a) 62
  by_cases hbig : valL a < 4611686018427387904
  · have b1 : decide (((bitsN (valL a) : Nat) : Int) > 62) = false := by simp; omega
    obtain ⟨bn, hbn⟩ : ∃ bn, bitsN (valL a) = bn := ⟨_, rfl⟩
    rw [hbn] at b1 ⊢
    have d0 : w6.cell? ⟨g, 0, none⟩ = some (.bool n) := (hs6.right.left.cell 0).trans rfl
    have d1 : w6.cell? ⟨g, 1, none⟩ = some (.slice ao a.length ca) := (hs6.right.left.cell 1).trans rfl
    have d2 : w6.cell? ⟨g5, 1, none⟩ = some (.bool n) := (hs6.left.cell 1).trans rfl
    have HT := Lib.hid (And.intro hs6 hb7)
    clear hs6 hb7 hbb hbn hb6
    have key : ∀ m : Nat, m ≤ 2 → m ≤ a.length → (m = 2 ∨ m = a.length) → valL (a.take m) = valL a := by
      intro m _ _ h
      rcases h with rfl | rfl
      · exact valL_low (by omega)
      · rw [List.take_length]
    have KEY := Lib.hid key
    clear key
    by_cases h2 : 2 ≤ a.length
    · have h2' : (2 : Int) ≤ (a.length : Int) := by omega
      obtain ⟨m, hm⟩ : ∃ m : Nat, m = 2 := ⟨_, rfl⟩
      have g1 : IntKind.i64.wrap ((2 : Int) - 1) = 1 := by decide
      go_wp2_with fail
      go_loopw [5, 6] (SmRel w6 a m) (fun _ i _ => (intOf i + 1).toNat)
      case atStart =>
        refine ⟨m, 0, Nat.le_refl _, by rw [hm]; rfl, ?_, rfl⟩
        rw [List.drop_of_length_le (by rw [List.length_take]; omega)]
        rfl
      case round =>
        obtain ⟨k, j, hk, rfl, rfl, rfl⟩ := hrel
        have hkey := KEY.out m (by omega) (by omega) (by omega)
        cases k with
        | zero =>
          have b2 : decide ((((0 : Nat) : Int) - 1) ≥ 0) = false := by decide
          rw [List.drop_zero, hkey]
          have HK := Lib.hid (And.intro hkey hbig)
          generalize hv : valL a = v at hbig ⊢
          have HV := Lib.hid hv
          clear hkey hv
          have g2 : IntKind.i64.wrap (-(v : Int)) = -(v : Int) := IntWalk.i64_in _ (by omega)
          have d2' : (w6.drewN j).cell? ⟨g5, 1, none⟩ = some (.bool n) := d2
          obtain ⟨x, hx⟩ : ∃ x : Int, sgn n v = x := ⟨_, rfl⟩
          have HF := Lib.hid hx
          cases n with
          | true =>
            have hx2 : -(v : Int) = x := hx
            by_cases hs1 : x < -2305843009213693952
            · have b3 : decide (-(v : Int) < -2305843009213693952) = true := by first | (simp; done) | (simp; omega)
              have b3' : decide (2305843009213693952 < (v : Int)) = true := by first | (simp; done) | (simp; omega)
              have hsm : isSmall x = false ∧ smallI x = 0 := by
                have : isSmall x = false := by unfold isSmall; simp; omega
                exact ⟨this, by unfold smallI; rw [this]; rfl⟩
              have HM := Lib.hid hsm
              clear hsm hx hx2
              go_wp2_with fail
              go_ret2
              refine ⟨?_, HT.out.1.right.right.drewN j, HT.out.2.trans (drewN_below0 _ _)⟩
              rw [HV.out, HF.out, HM.out.1, HM.out.2]; rfl
            · have b3 : decide (-(v : Int) < -2305843009213693952) = false := by first | (simp; done) | (simp; omega)
              have b3' : decide (2305843009213693952 < (v : Int)) = false := by first | (simp; done) | (simp; omega)
              have b4 : decide (-(v : Int) > 2305843009213693951) = false := by first | (simp; done) | (simp; omega)
              have hsm : isSmall x = true ∧ smallI x = -(v : Int) := by
                have : isSmall x = true := by unfold isSmall; simp; omega
                exact ⟨this, by unfold smallI; rw [this]; exact hx2.symm⟩
              have HM := Lib.hid hsm
              clear hsm hx hx2
              go_wp2_with fail
              go_ret2
              refine ⟨?_, HT.out.1.right.right.drewN j, HT.out.2.trans (drewN_below0 _ _)⟩
              rw [HV.out, HF.out, HM.out.1, HM.out.2]; rfl
          | false =>
            have hx2 : (v : Int) = x := hx
            have b3 : decide ((v : Int) < -2305843009213693952) = false := by first | (simp; done) | (simp; omega)
            by_cases hs1 : x < 2305843009213693952
            · have b4 : decide ((v : Int) > 2305843009213693951) = false := by first | (simp; done) | (simp; omega)
              have hsm : isSmall x = true ∧ smallI x = (v : Int) := by
                have : isSmall x = true := by unfold isSmall; simp; omega
                exact ⟨this, by unfold smallI; rw [this]; exact hx2.symm⟩
              have HM := Lib.hid hsm
              clear hsm hx hx2
              go_wp2_with fail
              go_ret2
              refine ⟨?_, HT.out.1.right.right.drewN j, HT.out.2.trans (drewN_below0 _ _)⟩
              rw [HV.out, HF.out, HM.out.1, HM.out.2]; rfl
            · have b4 : decide ((v : Int) > 2305843009213693951) = true := by first | (simp; done) | (simp; omega)
              have hsm : isSmall x = false ∧ smallI x = 0 := by
                have : isSmall x = false := by unfold isSmall; simp; omega
                exact ⟨this, by unfold smallI; rw [this]; rfl⟩
              have HM := Lib.hid hsm
              clear hsm hx hx2
              go_wp2_with fail
              go_ret2
              refine ⟨?_, HT.out.1.right.right.drewN j, HT.out.2.trans (drewN_below0 _ _)⟩
              rw [HV.out, HF.out, HM.out.1, HM.out.2]; rfl
        | succ k =>
          obtain ⟨x, ex⟩ : ∃ x, a[k]? = some x := ⟨_, List.getElem?_eq_getElem (by omega)⟩
          have ext : (a.take m)[k]? = some x := by rw [List.getElem?_take, if_pos (by omega)]; exact ex
          obtain ⟨x0, x1⟩ := HH.out.2.2.2 x (List.mem_of_getElem? ex)
          obtain ⟨aa, rfl, hcx⟩ := HH.out.2.2.1 w6 HT.out.1.right.right k x ex
          have hvd := valL_drop (a.take m) k x ext
          have hle := valL_drop_le (a.take m) k
          rw [hkey] at hle
          have hcx' : (w6.drewN j).cell? (aa.add k) = some (.int .u32 x) := hcx
          have d1' : (w6.drewN j).cell? ⟨g, 1, none⟩ = _ := d1
          have b1' : decide ((((k + 1 : Nat) : Int) - 1) ≥ 0) = true := by rw [decide_eq_true_eq]; omega
          have b2 : (((k + 1 : Nat) : Int) - 1) = (k : Int) := by omega
          rw [b2] at b1' ⊢
          generalize hvk : valL ((a.take m).drop (k + 1)) = vk at *
          obtain ⟨xn, hxn⟩ : ∃ xn : Nat, x = (xn : Int) := ⟨x.toNat, by omega⟩
          subst hxn
          have hxn2 : xn < 4294967296 := by omega
          rw [Int.toNat_natCast] at hvd
          have g2 : IntKind.i64.wrap ((vk : Int) * 4294967296) = (vk : Int) * 4294967296 := IntWalk.i64_in _ (by omega)
          have g3 : IntKind.i64.wrap (xn : Int) = xn := IntWalk.i64_in _ (by omega)
          have hor := or_limb vk xn hxn2 (by omega)
          have HE := Lib.hid (And.intro hvd (And.intro hor hvk))
          clear hvd hle hkey ext ex b2 hvk hor hcx d1
          go_wp2_with fail
          rw [HE.out.2.1]
          go_roundw
          case rel => exact ⟨k, j, by omega, by go_num, by rw [HE.out.1, Nat.mul_comm, Nat.add_comm], rfl⟩
          case measure => simp [intOf]
    · have h2' : ¬ (2 : Int) ≤ (a.length : Int) := by omega
      have h3' : (a.length : Int) < 2 := by omega
      obtain ⟨m, hm⟩ : ∃ m : Nat, m = a.length := ⟨_, rfl⟩
      have g1 : IntKind.i64.wrap ((a.length : Int) - 1) = (a.length : Int) - 1 := IntWalk.i64_in _ (by omega)
      go_wp2_with fail
      go_loopw [5, 6] (SmRel w6 a m) (fun _ i _ => (intOf i + 1).toNat)
      case atStart =>
        refine ⟨m, 0, Nat.le_refl _, by rw [hm], ?_, rfl⟩
        rw [List.drop_of_length_le (by rw [List.length_take]; omega)]
        rfl
      case round =>
        obtain ⟨k, j, hk, rfl, rfl, rfl⟩ := hrel
        have hkey := KEY.out m (by omega) (by omega) (by omega)
        cases k with
        | zero =>
          have b2 : decide ((((0 : Nat) : Int) - 1) ≥ 0) = false := by decide
          rw [List.drop_zero, hkey]
          have HK := Lib.hid (And.intro hkey hbig)
          generalize hv : valL a = v at hbig ⊢
          have HV := Lib.hid hv
          clear hkey hv
          have g2 : IntKind.i64.wrap (-(v : Int)) = -(v : Int) := IntWalk.i64_in _ (by omega)
          have d2' : (w6.drewN j).cell? ⟨g5, 1, none⟩ = some (.bool n) := d2
          obtain ⟨x, hx⟩ : ∃ x : Int, sgn n v = x := ⟨_, rfl⟩
          have HF := Lib.hid hx
          cases n with
          | true =>
            have hx2 : -(v : Int) = x := hx
            by_cases hs1 : x < -2305843009213693952
            · have b3 : decide (-(v : Int) < -2305843009213693952) = true := by first | (simp; done) | (simp; omega)
              have b3' : decide (2305843009213693952 < (v : Int)) = true := by first | (simp; done) | (simp; omega)
              have hsm : isSmall x = false ∧ smallI x = 0 := by
                have : isSmall x = false := by unfold isSmall; simp; omega
                exact ⟨this, by unfold smallI; rw [this]; rfl⟩
              have HM := Lib.hid hsm
              clear hsm hx hx2
              go_wp2_with fail
              go_ret2
              refine ⟨?_, HT.out.1.right.right.drewN j, HT.out.2.trans (drewN_below0 _ _)⟩
              rw [HV.out, HF.out, HM.out.1, HM.out.2]; rfl
            · have b3 : decide (-(v : Int) < -2305843009213693952) = false := by first | (simp; done) | (simp; omega)
              have b3' : decide (2305843009213693952 < (v : Int)) = false := by first | (simp; done) | (simp; omega)
              have b4 : decide (-(v : Int) > 2305843009213693951) = false := by first | (simp; done) | (simp; omega)
              have hsm : isSmall x = true ∧ smallI x = -(v : Int) := by
                have : isSmall x = true := by unfold isSmall; simp; omega
                exact ⟨this, by unfold smallI; rw [this]; exact hx2.symm⟩
              have HM := Lib.hid hsm
              clear hsm hx hx2
              go_wp2_with fail
              go_ret2
              refine ⟨?_, HT.out.1.right.right.drewN j, HT.out.2.trans (drewN_below0 _ _)⟩
              rw [HV.out, HF.out, HM.out.1, HM.out.2]; rfl
          | false =>
            have hx2 : (v : Int) = x := hx
            have b3 : decide ((v : Int) < -2305843009213693952) = false := by first | (simp; done) | (simp; omega)
            by_cases hs1 : x < 2305843009213693952
            · have b4 : decide ((v : Int) > 2305843009213693951) = false := by first | (simp; done) | (simp; omega)
              have hsm : isSmall x = true ∧ smallI x = (v : Int) := by
                have : isSmall x = true := by unfold isSmall; simp; omega
                exact ⟨this, by unfold smallI; rw [this]; exact hx2.symm⟩
              have HM := Lib.hid hsm
              clear hsm hx hx2
              go_wp2_with fail
              go_ret2
              refine ⟨?_, HT.out.1.right.right.drewN j, HT.out.2.trans (drewN_below0 _ _)⟩
              rw [HV.out, HF.out, HM.out.1, HM.out.2]; rfl
            · have b4 : decide ((v : Int) > 2305843009213693951) = true := by first | (simp; done) | (simp; omega)
              have hsm : isSmall x = false ∧ smallI x = 0 := by
                have : isSmall x = false := by unfold isSmall; simp; omega
                exact ⟨this, by unfold smallI; rw [this]; rfl⟩
              have HM := Lib.hid hsm
              clear hsm hx hx2
              go_wp2_with fail
              go_ret2
              refine ⟨?_, HT.out.1.right.right.drewN j, HT.out.2.trans (drewN_below0 _ _)⟩
              rw [HV.out, HF.out, HM.out.1, HM.out.2]; rfl
        | succ k =>
          obtain ⟨x, ex⟩ : ∃ x, a[k]? = some x := ⟨_, List.getElem?_eq_getElem (by omega)⟩
          have ext : (a.take m)[k]? = some x := by rw [List.getElem?_take, if_pos (by omega)]; exact ex
          obtain ⟨x0, x1⟩ := HH.out.2.2.2 x (List.mem_of_getElem? ex)
          obtain ⟨aa, rfl, hcx⟩ := HH.out.2.2.1 w6 HT.out.1.right.right k x ex
          have hvd := valL_drop (a.take m) k x ext
          have hle := valL_drop_le (a.take m) k
          rw [hkey] at hle
          have hcx' : (w6.drewN j).cell? (aa.add k) = some (.int .u32 x) := hcx
          have d1' : (w6.drewN j).cell? ⟨g, 1, none⟩ = _ := d1
          have b1' : decide ((((k + 1 : Nat) : Int) - 1) ≥ 0) = true := by rw [decide_eq_true_eq]; omega
          have b2 : (((k + 1 : Nat) : Int) - 1) = (k : Int) := by omega
          rw [b2] at b1' ⊢
          generalize hvk : valL ((a.take m).drop (k + 1)) = vk at *
          obtain ⟨xn, hxn⟩ : ∃ xn : Nat, x = (xn : Int) := ⟨x.toNat, by omega⟩
          subst hxn
          have hxn2 : xn < 4294967296 := by omega
          rw [Int.toNat_natCast] at hvd
          have g2 : IntKind.i64.wrap ((vk : Int) * 4294967296) = (vk : Int) * 4294967296 := IntWalk.i64_in _ (by omega)
          have g3 : IntKind.i64.wrap (xn : Int) = xn := IntWalk.i64_in _ (by omega)
          have hor := or_limb vk xn hxn2 (by omega)
          have HE := Lib.hid (And.intro hvd (And.intro hor hvk))
          clear hvd hle hkey ext ex b2 hvk hor hcx d1
          go_wp2_with fail
          rw [HE.out.2.1]
          go_roundw
          case rel => exact ⟨k, j, by omega, by go_num, by rw [HE.out.1, Nat.mul_comm, Nat.add_comm], rfl⟩
          case measure => simp [intOf]
  · have b1 : decide (((bitsN (valL a) : Nat) : Int) > 62) = true := by simp; omega
    have hsm : isSmall (sgn n (valL a)) = false ∧ smallI (sgn n (valL a)) = 0 := by
      have : isSmall (sgn n (valL a)) = false := by unfold isSmall sgn; cases n <;> simp <;> omega
      exact ⟨this, by unfold smallI; rw [this]; rfl⟩
    have HM := Lib.hid hsm
    clear hsm
    generalize bitsN (valL a) = bn at *
    have HT := Lib.hid (And.intro hs6 hb7)
    clear hs6 hb7 hbb hb6
    go_wp2_with fail
    go_ret2
    refine ⟨?_, HT.out.1.right.right, HT.out.2⟩
    rw [HM.out.1, HM.out.2]; rfl
end Go.Proofs.Ytanjiecefioffaa
