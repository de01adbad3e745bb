/- value.Store: Num of a fixnum, and of what is no number. value.Store: Num of an object. -/
import Derived.Test.YtanjiecefioffaaNumApi
import Derived.Test.YtanjiecefioffaaStoreName
import Derived.Test.YtanjiecefioffaaFixes
/- value.Store: Num of a fixnum, and of what is no number. -/
namespace Go.Proofs.Ytanjiecefioffaa
open Go.RowKit

def NumPost (X : StV) (V : HV) (S : HS) (Y : StS) (R : HP) (v : Int) (ok : Bool) (w : World) (e : Ending) (w' : World) : Prop :=
  ∃ ao cap, e = .returned (.tuple #[.agg #[.bool (decide (v < 0)), .slice ao (limbsOf v.natAbs).length cap], .bool ok]) ∧ (limbsOf v.natAbs).length ≤ cap ∧
    StW w' X V S Y (own 70 1 (.slice ao (limbsOf v.natAbs).length cap) (limbsOf v.natAbs).length ((limbsOf v.natAbs).map u32v) * R) ∧ Below 0 w w'
theorem intW_bd (x : Int) (x0 : 0 ≤ x) (x1 : x < 18446744073709551616) : -9223372036854775808 ≤ intW x ∧ intW x < 9223372036854775808 := by unfold intW; split <;> (try split) <;> omega

section
variable {w : World} {X : StV} {V : HV} {S : HS} {Y : StS} {R : HP}
set_option maxRecDepth 100000 in
set_option maxHeartbeats 1000000 in
theorem StW.Num_fix (h : StW w X V S Y R) (x : Int) (x0 : 0 ≤ x) (x1 : x < 18446744073709551616) (hx : x % 4 = 1) :
    Calls Try.prog 39 #[.pointer (some ⟨X.g, 0, none⟩), .int .u64 x] w (NumPost X V S Y R (intW x) true w) := by
  have hI := Int_any (w.alloc (.cells #[.bool false, .slice none 0 0] 51)) x x0 x1
  have hb : intB x = true := by unfold intB; simp [hx]
  rw [hb] at hI
  obtain ⟨i0, i1⟩ := intW_bd x x0 x1
  have hs1 := h.s.alloc (.cells #[.bool false, .slice none 0 0] 51)
  have hb1 : Below 0 w (w.alloc (.cells #[.bool false, .slice none 0 0] 51)) := Below.zero_alloc _ _
  have HH := Lib.hid (And.intro hs1 (And.intro hb1 h.ok))
  generalize intW x = v at *
  clear hs1 hb1 h hb hx
  go_enter Try.func39, Try.ntmps39
  go_wp2_with fail
  refine hI.mono ?_
  rintro e w' ⟨rfl, j, rfl⟩
  obtain ⟨g, hg⟩ : ∃ g, w.heap.size = g := ⟨_, rfl⟩
  rw [hg] at HH ⊢
  have hs2 := HH.out.1.drewN j
  have hb2 := HH.out.2.1.trans (drewN_below0 _ j)
  clear hI
  generalize (w.alloc (.cells #[.bool false, .slice none 0 0] 51)).drewN j = w2 at *
  have hO := num_Of hs2 v i0 i1
  have HB := Lib.hid hb2
  clear hs2 hb2
  go_wp2_with fail
  with_reducible refine hO.mono ?_
  rintro e w3 ⟨sl, rfl, hs3, hb3⟩
  obtain ⟨lo, lc, rfl⟩ := own_val hs3
  have hlc := own_cap hs3
  have d1 : w3.cell? ⟨g, 0, none⟩ = some (.bool false) := (hs3.right.left.cell 0).trans rfl
  have d2 : w3.cell? ⟨g, 1, none⟩ = some (.slice none 0 0) := (hs3.right.left.cell 1).trans rfl
  have e1 := hs3.right.left.frozen 0
  have e2 := hs3.right.left.frozen 1
  have HW := Lib.hid (And.intro hs3 (HB.out.trans hb3))
  clear hs3 hb3 hO
  obtain ⟨B, hB⟩ : ∃ B, decide (v < 0) = B := ⟨_, rfl⟩
  rw [hB]
  have HBB := Lib.hid hB
  clear hB
  go_wp2_with fail
  have hs8 := ((show sat w3 (Go.Proofs.Ytanjiecefioffaa.blk g (.cells #[.bool false, .slice none 0 0] 51 (0, 0)) * (isHeap V S * (isSt X V.g Y * (own 70 1 (.slice lo (limbsOf v.natAbs).length lc) (limbsOf v.natAbs).length ((limbsOf v.natAbs).map u32v) * R)))) from HW.out.1.perm (by ac_rfl)).setCell (off := 0) (.bool B)).setCell (off := 1) (.slice lo (limbsOf v.natAbs).length lc)
  have hb8 : Below 0 w ((w3.setCell ⟨g, 0, none⟩ (.bool B)).setCell ⟨g, 1, none⟩ (.slice lo (limbsOf v.natAbs).length lc)) := (HW.out.2.setCell (p := ⟨g, 0, none⟩) (Nat.zero_le _) _).setCell (p := ⟨g, 1, none⟩) (Nat.zero_le _) _
  generalize (w3.setCell ⟨g, 0, none⟩ (.bool B)).setCell ⟨g, 1, none⟩ (.slice lo (limbsOf v.natAbs).length lc) = w8 at hs8 hb8 ⊢
  have r0 : w8.cell? ⟨g, 0, none⟩ = some (.bool B) := (hs8.left.cell 0).trans rfl
  have r1 : w8.cell? ⟨g, 1, none⟩ = some (.slice lo (limbsOf v.natAbs).length lc) := (hs8.left.cell 1).trans rfl
  refine bodyPost_ret (v := .tuple #[.agg #[.bool B, .slice lo (limbsOf v.natAbs).length lc], .bool true]) (by simp [results, Try.results39, go_sem, r0, r1]) rfl ⟨lo, lc, by rw [HBB.out], hlc, ⟨hs8.right, HH.out.2.2⟩, hb8⟩

set_option maxRecDepth 100000 in
set_option maxHeartbeats 1000000 in
theorem StW.Num_not (h : StW w X V S Y R) (x : Int) (x0 : 0 ≤ x) (x1 : x < 18446744073709551616) (hx : x % 4 ≠ 1) (hsh : S.shape x 5 0 (-1) = false) :
    Calls Try.prog 39 #[.pointer (some ⟨X.g, 0, none⟩), .int .u64 x] w (NumPost X V S Y R 0 false w) := by
  have hI := Int_any (w.alloc (.cells #[.bool false, .slice none 0 0] 51)) x x0 x1
  have hb : intB x = false := by unfold intB; simp [hx]
  have hi0 : intW x = 0 := by unfold intW; rw [if_neg hx]
  rw [hb, hi0] at hI
  have h1 : StW (w.alloc (.cells #[.bool false, .slice none 0 0] 51)) X V S Y (Go.Proofs.Ytanjiecefioffaa.blk w.heap.size (.cells #[.bool false, .slice none 0 0] 51 (0, 0)) * R) := ⟨(h.s.alloc _).perm (by ac_rfl), h.ok⟩
  have hb1 : Below 0 w (w.alloc (.cells #[.bool false, .slice none 0 0] 51)) := Below.zero_alloc _ _
  have HH := Lib.hid (And.intro h1 hb1)
  clear h1 hb1 h hb hx hi0
  go_enter Try.func39, Try.ntmps39
  go_wp2_with fail
  refine hI.mono ?_
  rintro e w' ⟨rfl, j, rfl⟩
  obtain ⟨g, hg⟩ : ∃ g, w.heap.size = g := ⟨_, rfl⟩
  rw [hg] at HH ⊢
  have h2 := HH.out.1.drewN j
  have hb2 := HH.out.2.trans (drewN_below0 _ j)
  clear hI
  generalize (w.alloc (.cells #[.bool false, .slice none 0 0] 51)).drewN j = w2 at *
  have c0 := h2.c0
  have hR := h2.Raw x 0 x0 x1
  have hS := fun n : Nat => (h2.drewN n).shape x 5 0 (-1) x0 x1
  rw [hsh] at hS
  have HB := Lib.hid (And.intro h2 hb2)
  clear h2 hb2 hsh
  generalize S.rawAt x 0 = sg at *
  generalize decide ((0 : Int) ≤ 0 ∧ 0 < S.raw x) = bb at *
  go_wp2_with fail
  with_reducible refine hR.mono ?_
  rintro e w' ⟨rfl, j2, rfl⟩
  go_wp2_with fail
  with_reducible refine (hS j2).mono ?_
  rintro e w' ⟨rfl, j3, rfl⟩
  have h3 := (HB.out.1.drewN j2).drewN j3
  have hb3 := (HB.out.2.trans (drewN_below0 w2 j2)).trans (drewN_below0 _ j3)
  clear hR hS c0
  generalize (w2.drewN j2).drewN j3 = w3 at *
  have hs3 := (show sat w3 (Go.Proofs.Ytanjiecefioffaa.blk g (.cells #[.bool false, .slice none 0 0] 51 (0, 0)) * (isHeap V S * (isSt X V.g Y * R))) from h3.s.perm (by ac_rfl))
  have d1 : w3.cell? ⟨g, 0, none⟩ = some (.bool false) := (hs3.left.cell 0).trans rfl
  have d2 : w3.cell? ⟨g, 1, none⟩ = some (.slice none 0 0) := (hs3.left.cell 1).trans rfl
  have e1 := hs3.left.frozen 0
  have e2 := hs3.left.frozen 1
  have HW := Lib.hid (And.intro hs3 (And.intro hb3 h3.ok))
  clear hs3 hb3 h3
  go_wp2_with fail
  have hs8 := (HW.out.1.setCell (off := 0) (.bool false)).setCell (off := 1) (.slice none 0 0)
  have hb8 : Below 0 w ((w3.setCell ⟨g, 0, none⟩ (.bool false)).setCell ⟨g, 1, none⟩ (.slice none 0 0)) := (HW.out.2.1.setCell (p := ⟨g, 0, none⟩) (Nat.zero_le _) _).setCell (p := ⟨g, 1, none⟩) (Nat.zero_le _) _
  generalize (w3.setCell ⟨g, 0, none⟩ (.bool false)).setCell ⟨g, 1, none⟩ (.slice none 0 0) = w8 at hs8 hb8 ⊢
  have r0 : w8.cell? ⟨g, 0, none⟩ = some (.bool false) := (hs8.left.cell 0).trans rfl
  have r1 : w8.cell? ⟨g, 1, none⟩ = some (.slice none 0 0) := (hs8.left.cell 1).trans rfl
  have hl0 : limbsOf (0 : Int).natAbs = [] := limbsOf_zero
  refine bodyPost_ret (v := .tuple #[.agg #[.bool false, .slice none 0 0], .bool false]) (by simp [results, Try.results39, go_sem, r0, r1]) rfl ⟨none, 0, ?_, ?_, ?_, hb8⟩
  · rw [hl0]; rfl
  · rw [hl0]; exact Nat.le_refl _
  · rw [hl0]
    refine ⟨?_, HW.out.2.2⟩
    exact (hs8.right.nil_own).perm (by simp only [List.map_nil, List.length_nil]; ac_rfl)
set_option maxRecDepth 100000 in
set_option maxHeartbeats 1000000 in
theorem StW.Num_big (h : StW w X V S Y R) (x : Int) (x0 : 0 ≤ x) (x1 : x < 18446744073709551616) (hx : x % 4 ≠ 1) (hsh : S.shape x 5 0 (-1) = true) (hsg : 1 < S.rawAt x 0) :
    Calls Try.prog 39 #[.pointer (some ⟨X.g, 0, none⟩), .int .u64 x] w (NumPost X V S Y R 0 false w) := by
  have hI := Int_any (w.alloc (.cells #[.bool false, .slice none 0 0] 51)) x x0 x1
  have hb : intB x = false := by unfold intB; simp [hx]
  have hi0 : intW x = 0 := by unfold intW; rw [if_neg hx]
  rw [hb, hi0] at hI
  have h1 : StW (w.alloc (.cells #[.bool false, .slice none 0 0] 51)) X V S Y (Go.Proofs.Ytanjiecefioffaa.blk w.heap.size (.cells #[.bool false, .slice none 0 0] 51 (0, 0)) * R) := ⟨(h.s.alloc _).perm (by ac_rfl), h.ok⟩
  have hb1 : Below 0 w (w.alloc (.cells #[.bool false, .slice none 0 0] 51)) := Below.zero_alloc _ _
  have HH := Lib.hid (And.intro h1 hb1)
  clear h1 hb1 h hb hx hi0
  go_enter Try.func39, Try.ntmps39
  go_wp2_with fail
  refine hI.mono ?_
  rintro e w' ⟨rfl, j, rfl⟩
  obtain ⟨g, hg⟩ : ∃ g, w.heap.size = g := ⟨_, rfl⟩
  rw [hg] at HH ⊢
  have h2 := HH.out.1.drewN j
  have hb2 := HH.out.2.trans (drewN_below0 _ j)
  clear hI
  generalize (w.alloc (.cells #[.bool false, .slice none 0 0] 51)).drewN j = w2 at *
  have c0 := h2.c0
  have hR := h2.Raw x 0 x0 x1
  have hS := fun n : Nat => (h2.drewN n).shape x 5 0 (-1) x0 x1
  rw [hsh] at hS
  have HB := Lib.hid (And.intro h2 hb2)
  have bgt : decide (S.rawAt x 0 > 1) = true := by simp; omega
  clear h2 hb2 hsh hsg
  generalize S.rawAt x 0 = sg at *
  generalize decide ((0 : Int) ≤ 0 ∧ 0 < S.raw x) = bb at *
  go_wp2_with fail
  with_reducible refine hR.mono ?_
  rintro e w' ⟨rfl, j2, rfl⟩
  go_wp2_with fail
  with_reducible refine (hS j2).mono ?_
  rintro e w' ⟨rfl, j3, rfl⟩
  have h3 := (HB.out.1.drewN j2).drewN j3
  have hb3 := (HB.out.2.trans (drewN_below0 w2 j2)).trans (drewN_below0 _ j3)
  clear hR hS c0
  generalize (w2.drewN j2).drewN j3 = w3 at *
  have hs3 := (show sat w3 (Go.Proofs.Ytanjiecefioffaa.blk g (.cells #[.bool false, .slice none 0 0] 51 (0, 0)) * (isHeap V S * (isSt X V.g Y * R))) from h3.s.perm (by ac_rfl))
  have d1 : w3.cell? ⟨g, 0, none⟩ = some (.bool false) := (hs3.left.cell 0).trans rfl
  have d2 : w3.cell? ⟨g, 1, none⟩ = some (.slice none 0 0) := (hs3.left.cell 1).trans rfl
  have e1 := hs3.left.frozen 0
  have e2 := hs3.left.frozen 1
  have HW := Lib.hid (And.intro hs3 (And.intro hb3 h3.ok))
  clear hs3 hb3 h3
  go_wp2_with fail
  have hs8 := (HW.out.1.setCell (off := 0) (.bool false)).setCell (off := 1) (.slice none 0 0)
  have hb8 : Below 0 w ((w3.setCell ⟨g, 0, none⟩ (.bool false)).setCell ⟨g, 1, none⟩ (.slice none 0 0)) := (HW.out.2.1.setCell (p := ⟨g, 0, none⟩) (Nat.zero_le _) _).setCell (p := ⟨g, 1, none⟩) (Nat.zero_le _) _
  generalize (w3.setCell ⟨g, 0, none⟩ (.bool false)).setCell ⟨g, 1, none⟩ (.slice none 0 0) = w8 at hs8 hb8 ⊢
  have r0 : w8.cell? ⟨g, 0, none⟩ = some (.bool false) := (hs8.left.cell 0).trans rfl
  have r1 : w8.cell? ⟨g, 1, none⟩ = some (.slice none 0 0) := (hs8.left.cell 1).trans rfl
  have hl0 : limbsOf (0 : Int).natAbs = [] := limbsOf_zero
  refine bodyPost_ret (v := .tuple #[.agg #[.bool false, .slice none 0 0], .bool false]) (by simp [results, Try.results39, go_sem, r0, r1]) rfl ⟨none, 0, ?_, ?_, ?_, hb8⟩
  · rw [hl0]; rfl
  · rw [hl0]; exact Nat.le_refl _
  · rw [hl0]
    refine ⟨?_, HW.out.2.2⟩
    exact (hs8.right.nil_own).perm (by simp only [List.map_nil, List.length_nil]; ac_rfl)
end
end Go.Proofs.Ytanjiecefioffaa

/- value.Store: Num of an object. -/
namespace Go.Proofs.Ytanjiecefioffaa
open Go.RowKit

def twoL (r : Int) : List Int := [r % 4294967296, r / 4294967296]
/-- The limbs of a number's raw words, behind the sign. -/
def HS.limbs (S : HS) (x : Int) : Nat → List Int
  | 0 => []
  | k + 1 => S.limbs x k ++ twoL (S.rawAt x (1 + k))
def HS.numV (S : HS) (x : Int) : Int := sgn (decide (S.rawAt x 0 = 1)) (valL (S.limbs x (S.raw x - 1).toNat))
def HS.numFit (S : HS) (x : Int) : Bool := S.shape x 5 0 (-1) && decide (S.rawAt x 0 ≤ 1)
def HS.numOk (S : HS) (x : Int) : Bool := S.numFit x && (!isSmall (S.numV x) && decide (((limbsOf (S.numV x).natAbs).length + 1) / 2 = (S.raw x - 1).toNat))
/-- The number that a word is. -/
def HS.num (S : HS) (x : Int) : Option Int := if x % 4 = 1 then some (intW x) else if S.numOk x = true then some (S.numV x) else none
theorem limbs_len (S : HS) (x : Int) (k : Nat) : (S.limbs x k).length = 2 * k := by
  induction k with
  | zero => rfl
  | succ k ih => simp only [HS.limbs, List.length_append, ih, twoL, List.length_cons, List.length_nil]; omega
theorem limbs_lim {w : World} {V : HV} {S : HS} (h : HeapV w V S) (x : Int) (x0 : 0 ≤ x) (k : Nat) : Limbs (S.limbs x k) := by
  induction k with
  | zero => intro z hz; simp [HS.limbs] at hz
  | succ k ih =>
    intro z hz
    simp only [HS.limbs, List.mem_append] at hz
    rcases hz with hz | hz
    · exact ih z hz
    · have := h.raw_bd x (1 + k) x0
      simp [twoL] at hz
      rcases hz with rfl | rfl <;> omega
def NumRel (W : World) (gn go : Nat) (neg : Bool) (X : StV) (V : HV) (S : HS) (Y : StS) (R : HP) (x : Int) (n : Nat) (i : Value) (wr : World) : Prop :=
  ∃ (k : Nat) (v : Value), k ≤ n ∧ i = .int .i64 (1 + (k : Int)) ∧ StW wr X V S Y (blk gn (.cells #[.bool neg, v] 51 (0, 0)) * (own 70 1 v (2 * k) ((S.limbs x k).map u32v) * (blk go (.cells #[.bool false, .slice none 0 0] 51 (0, 0)) * R))) ∧ Below 0 W wr

section
variable {w : World} {X : StV} {V : HV} {S : HS} {Y : StS} {R : HP}
set_option maxRecDepth 100000 in
set_option maxHeartbeats 2000000 in
theorem StW.Num_obj (h : StW w X V S Y R) (x : Int) (x0 : 0 ≤ x) (x1 : x < 18446744073709551616) (hx : x % 4 ≠ 1) (hf : S.numFit x = true) :
    Calls Try.prog 39 #[.pointer (some ⟨X.g, 0, none⟩), .int .u64 x] w (NumPost X V S Y R ((S.num x).getD 0) (S.num x).isSome w) := by
  have hI := Int_any (w.alloc (.cells #[.bool false, .slice none 0 0] 51)) x x0 x1
  have hb : intB x = false := by unfold intB; simp [hx]
  have hi0 : intW x = 0 := by unfold intW; rw [if_neg hx]
  rw [hb, hi0] at hI
  obtain ⟨i0, hi, hz0, hz1, hz2⟩ := info_parts info_u32
  have H1 := Lib.hid (And.intro hi (And.intro hz0 (And.intro hz1 hz2)))
  clear hi hz0 hz1 hz2
  have h1 : StW (w.alloc (.cells #[.bool false, .slice none 0 0] 51)) X V S Y (Go.Proofs.Ytanjiecefioffaa.blk w.heap.size (.cells #[.bool false, .slice none 0 0] 51 (0, 0)) * R) := ⟨(h.s.alloc _).perm (by ac_rfl), h.ok⟩
  have hb1 : Below 0 w (w.alloc (.cells #[.bool false, .slice none 0 0] 51)) := Below.zero_alloc _ _
  have hf2 := hf
  unfold HS.numFit at hf2
  rw [Bool.and_eq_true, decide_eq_true_eq] at hf2
  obtain ⟨hsh, hsg⟩ := hf2
  have hnum : S.num x = if S.numOk x = true then some (S.numV x) else none := by unfold HS.num; rw [if_neg hx]
  have hlim := fun k => limbs_lim h.hw.v x x0 k
  have hrd := fun i => h.hw.v.raw_bd x i x0
  have hsg0 := (hrd 0).1
  have hrw : 0 ≤ S.raw x ∧ S.raw x < 16777216 := by unfold HS.raw; exact rawH_bd _
  have HH := Lib.hid (And.intro h1 (And.intro hb1 (And.intro hf (And.intro hnum (And.intro hlim hrd)))))
  clear h1 hb1 h hb hx hi0 hf hnum hlim hrd
  go_enter Try.func39, Try.ntmps39
  go_wp2_with fail
  refine hI.mono ?_
  rintro e w' ⟨rfl, j, rfl⟩
  obtain ⟨g, hg⟩ : ∃ g, w.heap.size = g := ⟨_, rfl⟩
  rw [hg] at HH ⊢
  have h2 := HH.out.1.drewN j
  have hb2 := HH.out.2.1.trans (drewN_below0 _ j)
  clear hI
  generalize (w.alloc (.cells #[.bool false, .slice none 0 0] 51)).drewN j = w2 at *
  have c0 := h2.c0
  have hR := h2.Raw x 0 x0 x1
  have hS := fun n : Nat => (h2.drewN n).shape x 5 0 (-1) x0 x1
  rw [hsh] at hS
  have HB := Lib.hid (And.intro h2 hb2)
  clear h2 hb2 hsh
  obtain ⟨sg, hsgv⟩ : ∃ sg, S.rawAt x 0 = sg := ⟨_, rfl⟩
  rw [hsgv] at hR hsg hsg0
  generalize decide ((0 : Int) ≤ 0 ∧ 0 < S.raw x) = bb at *
  have bgt : decide (sg > 1) = false := by simp; omega
  obtain ⟨neg, hneg⟩ : ∃ neg, (sg == 1) = neg := ⟨_, rfl⟩
  have HG := Lib.hid (And.intro hsgv hneg)
  clear hsgv
  go_wp2_with fail
  with_reducible refine hR.mono ?_
  rintro e w' ⟨rfl, j2, rfl⟩
  go_wp2_with fail
  with_reducible refine (hS j2).mono ?_
  rintro e w' ⟨rfl, j3, rfl⟩
  have h3 := (HB.out.1.drewN j2).drewN j3
  have hb3 := (HB.out.2.trans (drewN_below0 w2 j2)).trans (drewN_below0 _ j3)
  clear hR hS c0
  generalize (w2.drewN j2).drewN j3 = w3 at *
  go_upto_region 8 with (fail)
  have h4 : StW (w3.alloc (.cells #[.bool neg, .slice none 0 0] 51)) X V S Y (Go.Proofs.Ytanjiecefioffaa.blk w3.heap.size (.cells #[.bool neg, .slice none 0 0] 51 (0, 0)) * (own 70 1 (.slice none 0 0) (2 * 0) ((S.limbs x 0).map u32v) * (Go.Proofs.Ytanjiecefioffaa.blk g (.cells #[.bool false, .slice none 0 0] 51 (0, 0)) * R))) := ⟨((h3.s.alloc (.cells #[.bool neg, .slice none 0 0] 51)).nil_own (e := 70) (sz := 1)).perm (by unfold HS.limbs; simp only [List.map_nil, Nat.mul_zero]; ac_rfl), h3.ok⟩
  have hb4 : Below 0 w (w3.alloc (.cells #[.bool neg, .slice none 0 0] 51)) := hb3.trans (Below.zero_alloc _ _)
  clear h3 hb3
  generalize w3.alloc (.cells #[.bool neg, .slice none 0 0] 51) = w4 at *
  generalize w3.heap.size = gn at *
  obtain ⟨n, hn⟩ : ∃ n : Nat, (S.raw x - 1).toNat = n := ⟨_, rfl⟩
  have HC := Lib.hid (And.intro h4 (And.intro hb4 hn))
  clear h4 hb4
  go_wp2_with fail
  go_loopw [11] (NumRel w gn g neg X V S Y R x n) (fun i _ => n + 1 - (intOf i).toNat)
  case atStart => exact ⟨0, _, Nat.zero_le _, rfl, HC.out.1, HC.out.2.1⟩
  case round =>
    obtain ⟨k, v, hk, rfl, hs, hb⟩ := hrel
    have c0 := hs.c0
    have hRs := hs.hw.v.Raws x x0 x1
    by_cases hlt : k < n
    · have b1 : decide (1 + (k : Int) < S.raw x) = true := by simp; omega
      have hRa := fun j : Nat => (hs.drewN j).Raw x (1 + (k : Int)) x0 x1
      obtain ⟨r0, r1⟩ := HH.out.2.2.2.2.2 (1 + (k : Int))
      have hlk : S.limbs x (k + 1) = S.limbs x k ++ twoL (S.rawAt x (1 + (k : Int))) := rfl
      generalize S.rawAt x (1 + (k : Int)) = r at *
      generalize hrr : S.raw x = rr at *
      generalize decide (0 ≤ 1 + (k : Int) ∧ 1 + (k : Int) < rr) = b2 at *
      have HX := Lib.hid (And.intro hs (And.intro hb hlk))
      clear hs hb hlk
      go_wp2_with fail
      refine hRs.mono ?_
      rintro e w' ⟨rfl, j4, rfl⟩
      go_wp2_with fail
      refine (hRa j4).mono ?_
      rintro e w' ⟨rfl, j5, rfl⟩
      have hs5 := (HX.out.1.drewN j4).drewN j5
      have hb5 := (HX.out.2.1.trans (drewN_below0 wr j4)).trans (drewN_below0 _ j5)
      generalize (wr.drewN j4).drewN j5 = w5 at *
      have w32 : IntKind.u32.wrap r = r % 4294967296 := rfl
      have w33 : IntKind.u32.wrap (r / 4294967296) = r / 4294967296 := by rw [show IntKind.u32.wrap (r / 4294967296) = (r / 4294967296) % 4294967296 from rfl]; omega
      have d1 : w5.cell? ⟨gn, 1, none⟩ = some v := (hs5.fr.left.cell 1).trans rfl
      clear hRs hRa c0
      go_wp2_with (at_builtin; refine halt ?_)
      refine goon ?_
      obtain ⟨hi, hz0, hz1, hz2⟩ := H1.out
      have hs7 : sat (w5.alloc (.cells #[.int .u32 (r % 4294967296), .int .u32 (r / 4294967296)] 70)) (own 70 1 v (2 * k) ((S.limbs x k).map u32v) * (Go.Proofs.Ytanjiecefioffaa.blk w5.heap.size (.cells #[.int .u32 (r % 4294967296), .int .u32 (r / 4294967296)] 70 (0, 0)) * (Go.Proofs.Ytanjiecefioffaa.blk gn (.cells #[.bool neg, v] 51 (0, 0)) * (isHeap V S * (isSt X V.g Y * (Go.Proofs.Ytanjiecefioffaa.blk g (.cells #[.bool false, .slice none 0 0] 51 (0, 0)) * R)))))) := (hs5.s.alloc (.cells #[.int .u32 (r % 4294967296), .int .u32 (r / 4294967296)] 70)).perm (by ac_rfl)
      have hb7 : Below 0 w (w5.alloc (.cells #[.int .u32 (r % 4294967296), .int .u32 (r / 4294967296)] 70)) := hb5.trans (Below.zero_alloc _ _)
      have hnew : ∀ (j : Nat) u, [Value.int .u32 (r % 4294967296), Value.int .u32 (r / 4294967296)][j]? = some u → (w5.alloc (.cells #[.int .u32 (r % 4294967296), .int .u32 (r / 4294967296)] 70)).cell? ((⟨w5.heap.size, 0, none⟩ : Addr).add j) = some u := by
        intro j u hj
        have ha : ((⟨w5.heap.size, 0, none⟩ : Addr).add j) = ⟨w5.heap.size, j, none⟩ := by unfold Addr.add; split <;> simp_all
        rw [ha, hs7.right.left.cell j]
        match j, hj with
        | 0, hj => simpa using hj
        | 1, hj => simpa using hj
      have hok5 := hs5.ok
      clear hs5 hb5
      generalize w5.alloc (.cells #[.int .u32 (r % 4294967296), .int .u32 (r / 4294967296)] 70) = w7 at *
      generalize w5.heap.size = bn at *
      refine wpList_append_sat rfl (.tmp 67) (.tmp 73) 49 rfl 70 i0 (.int .u32 0) 1 4 Try.underlying49 hi hz0 hz1 hz2 rfl v (2 * k) ((S.limbs x k).map u32v) rfl _ ⟨bn, 0, none⟩ 2 2 [.int .u32 (r % 4294967296), .int .u32 (r / 4294967296)] rfl ?_ hs7 rfl hnew (by intro u hu; simp at hu; rcases hu with rfl | rfl <;> rfl) (by omega) (by unfold maxLen; omega)
      clear hi hz0 hz1 hz2 hnew hs7
      intro v' w9 hs9 hb9
      obtain ⟨vo, vc, rfl⟩ := own_val hs9
      have e1 : w9.cell? ⟨gn, 1, none⟩ = some v := (hs9.right.right.left.cell 1).trans rfl
      have e2 := hs9.right.right.left.frozen 1
      have HQ := Lib.hid (And.intro hs9 (And.intro (hb7.trans hb9) hok5))
      clear hs9 hb9 hb7 hok5 d1
      go_wp2_with fail
      go_roundw
      case rel =>
        have hs10 := (show sat w9 (Go.Proofs.Ytanjiecefioffaa.blk gn (.cells #[.bool neg, v] 51 (0, 0)) * (Go.Proofs.Ytanjiecefioffaa.blk bn (.cells #[.int .u32 (r % 4294967296), .int .u32 (r / 4294967296)] 70 (0, 0)) * (own 70 1 (.slice vo (2 * k + 2) vc) (2 * k + 2) ((S.limbs x k).map u32v ++ [.int .u32 (r % 4294967296), .int .u32 (r / 4294967296)]) * (isHeap V S * (isSt X V.g Y * (Go.Proofs.Ytanjiecefioffaa.blk g (.cells #[.bool false, .slice none 0 0] 51 (0, 0)) * R)))))) from HQ.out.1.perm (by ac_rfl)).setCell (off := 1) (.slice vo (2 * k + 2) vc)
        refine ⟨k + 1, .slice vo (2 * k + 2) vc, by omega, by go_num, ⟨?_, HQ.out.2.2⟩, HQ.out.2.1.setCell (p := ⟨gn, 1, none⟩) (Nat.zero_le _) _⟩
        rw [HX.out.2.2]
        have hs11 := (show sat _ (Go.Proofs.Ytanjiecefioffaa.blk bn (.cells #[.int .u32 (r % 4294967296), .int .u32 (r / 4294967296)] 70 (0, 0)) * (isHeap V S * (isSt X V.g Y * (Go.Proofs.Ytanjiecefioffaa.blk gn (.cells #[.bool neg, .slice vo (2 * k + 2) vc] 51 (0, 0)) * (own 70 1 (.slice vo (2 * k + 2) vc) (2 * k + 2) ((S.limbs x k ++ twoL r).map u32v) * (Go.Proofs.Ytanjiecefioffaa.blk g (.cells #[.bool false, .slice none 0 0] 51 (0, 0)) * R)))))) from hs10.perm (by simp only [List.setIfInBounds_toArray, List.set_cons_zero, List.set_cons_succ, twoL, List.map_append, List.map_cons, List.map_nil]; ac_rfl)).right
        exact hs11
      case measure => simp [intOf]; omega
    · obtain rfl : k = n := by omega
      have b1 : decide (1 + (k : Int) < S.raw x) = false := by simp; omega
      have hs0 := (show sat wr (own 70 1 v (2 * k) ((S.limbs x k).map u32v) * (Go.Proofs.Ytanjiecefioffaa.blk gn (.cells #[.bool neg, v] 51 (0, 0)) * (Go.Proofs.Ytanjiecefioffaa.blk g (.cells #[.bool false, .slice none 0 0] 51 (0, 0)) * (isHeap V S * (isSt X V.g Y * R))))) from hs.s.perm (by ac_rfl))
      obtain ⟨vo, vc, rfl⟩ := own_val hs0
      have hvc := own_cap hs0
      have hll := limbs_len S x k
      have hLL := HH.out.2.2.2.2.1 k
      have hnv : S.numV x = sgn neg (valL (S.limbs x k)) := by
        unfold HS.numV
        rw [hn, HG.out.1]
        rw [← HG.out.2]
        rfl
      have hnok : S.numOk x = (!isSmall (sgn neg (valL (S.limbs x k))) && decide (((limbsOf (valL (S.limbs x k))).length + 1) / 2 = k)) := by
        unfold HS.numOk
        rw [HH.out.2.2.1, hnv, sgn_abs, hn, Bool.true_and]
      obtain ⟨L, hL⟩ : ∃ L, S.limbs x k = L := ⟨_, rfl⟩
      rw [hL] at hs0 hll hLL hnv hnok
      obtain ⟨F, hF⟩ : ∃ F : HP, F = own 70 1 (.slice vo (2 * k) vc) (2 * k) (L.map u32v) * (Go.Proofs.Ytanjiecefioffaa.blk gn (.cells #[.bool neg, .slice vo (2 * k) vc] 51 (0, 0)) * (Go.Proofs.Ytanjiecefioffaa.blk g (.cells #[.bool false, .slice none 0 0] 51 (0, 0)) * (isHeap V S * (isSt X V.g Y * R)))) := ⟨_, rfl⟩
      rw [← hF] at hs0
      have hFl : ∀ w', sat w' F → LimbsW w' vo L := fun w' h => by rw [hF] at h; exact limbs_own rfl h
      have hFc : ∀ w', sat w' F → (w'.cell? ⟨gn, 0, none⟩ = some (.bool neg) ∧ w'.cell? ⟨gn, 1, none⟩ = some (.slice vo (2 * k) vc)) ∧ (w'.cell? ⟨g, 0, none⟩ = some (.bool false) ∧ w'.cell? ⟨g, 1, none⟩ = some (.slice none 0 0)) ∧ w'.frozen? ⟨g, 0, none⟩ = false ∧ w'.frozen? ⟨g, 1, none⟩ = false := by
        intro w' h
        rw [hF] at h
        exact ⟨⟨(h.right.left.cell 0).trans rfl, (h.right.left.cell 1).trans rfl⟩, ⟨(h.right.right.left.cell 0).trans rfl, (h.right.right.left.cell 1).trans rfl⟩, h.right.right.left.frozen 0, h.right.right.left.frozen 1⟩
      obtain ⟨⟨d0, d1⟩, _⟩ := hFc wr hs0
      have hfin : ∀ w', sat w' F → StW w' X V S Y (Go.Proofs.Ytanjiecefioffaa.blk g (.cells #[.bool false, .slice none 0 0] 51 (0, 0)) * R) := by
        intro w' h
        rw [hF] at h
        exact ⟨h.right.right.perm (by ac_rfl), hs.ok⟩
      have HX := Lib.hid (And.intro hs0 (And.intro hb (And.intro hFl (And.intro hFc (And.intro hfin (And.intro hLL (And.intro hnv hnok)))))))
      have hkb : k < 16777216 := by omega
      have HFF := Lib.hid (And.intro hF hs.ok)
      clear hs hs0 hb hFl hFc hfin hLL hnv hnok hF hL hlt hk
      go_wp2_with fail
      refine hRs.mono ?_
      rintro e w' ⟨rfl, j4, rfl⟩
      have hs5 := HX.out.1.drewN j4
      have hb5 := HX.out.2.1.trans (drewN_below0 wr j4)
      have d0' : (wr.drewN j4).cell? ⟨gn, 0, none⟩ = some (.bool neg) := d0
      have d1' : (wr.drewN j4).cell? ⟨gn, 1, none⟩ = some (.slice vo (2 * k) vc) := d1
      clear d0 d1 hRs c0
      generalize wr.drewN j4 = w5 at *
      have hs6 := hs5.alloc (.cells #[.bool neg, .slice vo (2 * k) vc] 51)
      have hSum := num_Sum w5.heap.size 1 #[.bool neg, .slice vo (2 * k) vc] [(neg, L)] hs6 (by
        intro j m l hj
        match j, hj with
        | 0, hj =>
          simp at hj
          obtain ⟨rfl, rfl⟩ := hj
          exact ⟨vo, vc, rfl, by rw [hll]; rfl, by rw [hll]; exact hvc, HX.out.2.2.1, HX.out.2.2.2.2.2.1, by rw [hll]; unfold topB; omega⟩) (by show 1 ≤ 2; decide)
      rw [show [(neg, L)].length = 1 from rfl, show sumI [(neg, L)] = sgn neg (valL L) by simp [sumI]] at hSum
      have HS := Lib.hid (hb5.trans (Below.zero_alloc w5 (.cells #[.bool neg, .slice vo (2 * k) vc] 51)))
      clear hs6 hb5 hs5
      go_wp2_with fail
      with_reducible refine hSum.mono ?_
      rintro e w7 ⟨sl, rfl, hs7, hb7⟩
      obtain ⟨lo, lc, rfl⟩ := own_val hs7
      have hlc := own_cap hs7
      rw [sgn_abs] at hlc hs7 ⊢
      have HQ := Lib.hid (And.intro hs7 (HS.out.trans hb7))
      clear hSum hs7 hb7
      obtain ⟨B, hB⟩ : ∃ B, decide (sgn neg (valL L) < 0) = B := ⟨_, rfl⟩
      rw [hB]
      have HBB := Lib.hid hB
      clear hB
      obtain ⟨e, he⟩ : ∃ e, (limbsOf (valL L)).length = e := ⟨_, rfl⟩
      have hel := limbsOf_len_le HX.out.2.2.2.2.2.1
      rw [hll, he] at hel
      rw [he] at hlc ⊢
      have HE := Lib.hid he
      clear he
      go_upto_region 14 with (fail)
      have hs9 := HQ.out.1.alloc (.cells #[.bool B, .slice lo e lc] 51)
      have hb9 := HQ.out.2.trans (Below.zero_alloc w7 (.cells #[.bool B, .slice lo e lc] 51))
      generalize w7.alloc (.cells #[.bool B, .slice lo e lc] 51) = w9 at *
      generalize w7.heap.size = g9 at *
      obtain ⟨⟨c0, c1⟩, _⟩ := HX.out.2.2.2.1 w9 hs9.right.right
      have hSm := num_Small hs9 neg vo vc L (fun w' h => HX.out.2.2.1 w' h.right.right) HX.out.2.2.2.2.2.1 (by rw [hll]; unfold topB; omega) (by rw [hll]; exact hvc)
      rw [hll] at hSm
      generalize hvv : sgn neg (valL L) = vv at *
      have HS9 := Lib.hid (And.intro hb9 hvv)
      clear hs9 hb9 hvv d0' d1'
      go_wp2_with fail
      with_reducible refine hSm.mono ?_
      rintro e' w10 ⟨rfl, hs10, hb10⟩
      obtain ⟨⟨c2, c3⟩, ⟨c4, c5⟩, f4, f5⟩ := HX.out.2.2.2.1 w10 hs10.right.right
      have k0 : w10.cell? ⟨g9, 0, none⟩ = some (.bool B) := (hs10.left.cell 0).trans rfl
      have k1 : w10.cell? ⟨g9, 1, none⟩ = some (.slice lo e lc) := (hs10.left.cell 1).trans rfl
      have g1 : IntKind.i64.wrap ((e : Int) + 1) = e + 1 := IntWalk.i64_in _ (by omega)
      have g2 : ((e : Int) + 1).tdiv 2 = ((e + 1) / 2 : Nat) := by rw [Int.tdiv_eq_ediv_of_nonneg (by omega)]; omega
      have g3 : (2 * (k : Int)).tdiv 2 = k := by rw [Int.tdiv_eq_ediv_of_nonneg (by omega)]; omega
      have g4 : IntKind.i64.wrap (k : Int) = k := IntWalk.i64_in _ (by omega)
      have g5 : IntKind.i64.wrap (((e + 1) / 2 : Nat) : Int) = ((e + 1) / 2 : Nat) := IntWalk.i64_in _ (by omega)
      obtain ⟨q, hq⟩ : ∃ q, (e + 1) / 2 = q := ⟨_, rfl⟩
      rw [hq] at g2 g5
      have HT := Lib.hid (And.intro hs10 (And.intro (HS9.out.1.trans hb10) hq))
      clear hs10 hb10 hq hSm c0 c1
      generalize smallI vv = sv at *
      cases hsm : isSmall vv with
      | true =>
        have hnone : S.num x = none := by
          rw [HH.out.2.2.2.1, if_neg]
          rw [HX.out.2.2.2.2.2.2.2, hsm]
          simp
        have HN := Lib.hid hnone
        clear hnone hsm
        go_wp2_with fail
        have h11 := HX.out.2.2.2.2.1 w10 HT.out.1.right.right
        have hs11 := ((show sat w10 (Go.Proofs.Ytanjiecefioffaa.blk g (.cells #[.bool false, .slice none 0 0] 51 (0, 0)) * (isHeap V S * (isSt X V.g Y * R))) from h11.s.perm (by ac_rfl)).setCell (off := 0) (.bool false)).setCell (off := 1) (.slice none 0 0)
        have hb11 : Below 0 w ((w10.setCell ⟨g, 0, none⟩ (.bool false)).setCell ⟨g, 1, none⟩ (.slice none 0 0)) := (HT.out.2.1.setCell (p := ⟨g, 0, none⟩) (Nat.zero_le _) _).setCell (p := ⟨g, 1, none⟩) (Nat.zero_le _) _
        generalize (w10.setCell ⟨g, 0, none⟩ (.bool false)).setCell ⟨g, 1, none⟩ (.slice none 0 0) = w11 at hs11 hb11 ⊢
        have r0 : w11.cell? ⟨g, 0, none⟩ = some (.bool false) := (hs11.left.cell 0).trans rfl
        have r1 : w11.cell? ⟨g, 1, none⟩ = some (.slice none 0 0) := (hs11.left.cell 1).trans rfl
        have hl0 : limbsOf (0 : Int).natAbs = [] := limbsOf_zero
        refine bodyPost_ret (v := .tuple #[.agg #[.bool false, .slice none 0 0], .bool false]) (by simp [results, Try.results39, go_sem, r0, r1]) rfl ⟨none, 0, ?_, ?_, ?_, hb11⟩
        · rw [HN.out, Option.getD_none, hl0]; rfl
        · rw [HN.out, Option.getD_none, hl0]; exact Nat.le_refl _
        · rw [HN.out, Option.getD_none, hl0]
          refine ⟨?_, HFF.out.2⟩
          exact (hs11.right.nil_own).perm (by simp only [List.map_nil, List.length_nil]; ac_rfl)
      | false =>
        by_cases hqk : q = k
        · skip
          have hvv2 : vv.natAbs = valL L := by rw [← HS9.out.2, sgn_abs]
          have hsome : S.num x = some vv := by
            rw [HH.out.2.2.2.1, HX.out.2.2.2.2.2.2.2, HX.out.2.2.2.2.2.2.1, hsm, HE.out, HT.out.2.2, hqk]
            simp
          have HN := Lib.hid (And.intro hsome hvv2)
          have b5 : (((q : Nat) : Int) != k) = false := by simp [hqk]
          clear hsome hvv2 hsm hqk
          go_wp2_with fail
          have hs10 := HT.out.1.right
          rw [HFF.out.1] at hs10
          have hs11 := ((show sat w10 (Go.Proofs.Ytanjiecefioffaa.blk g (.cells #[.bool false, .slice none 0 0] 51 (0, 0)) * ((own 70 1 (.slice vo (2 * k) vc) (2 * k) (L.map u32v) * Go.Proofs.Ytanjiecefioffaa.blk gn (.cells #[.bool neg, .slice vo (2 * k) vc] 51 (0, 0))) * (isHeap V S * (isSt X V.g Y * (own 70 1 (.slice lo (limbsOf (valL L)).length lc) (limbsOf (valL L)).length ((limbsOf (valL L)).map u32v) * R))))) from hs10.perm (by rw [HE.out]; ac_rfl)).setCell (off := 0) (.bool B)).setCell (off := 1) (.slice lo e lc)
          have hb11 : Below 0 w ((w10.setCell ⟨g, 0, none⟩ (.bool B)).setCell ⟨g, 1, none⟩ (.slice lo e lc)) := (HT.out.2.1.setCell (p := ⟨g, 0, none⟩) (Nat.zero_le _) _).setCell (p := ⟨g, 1, none⟩) (Nat.zero_le _) _
          generalize (w10.setCell ⟨g, 0, none⟩ (.bool B)).setCell ⟨g, 1, none⟩ (.slice lo e lc) = w11 at hs11 hb11 ⊢
          have r0 : w11.cell? ⟨g, 0, none⟩ = some (.bool B) := (hs11.left.cell 0).trans rfl
          have r1 : w11.cell? ⟨g, 1, none⟩ = some (.slice lo e lc) := (hs11.left.cell 1).trans rfl
          refine bodyPost_ret (v := .tuple #[.agg #[.bool B, .slice lo e lc], .bool true]) (by simp [results, Try.results39, go_sem, r0, r1]) rfl ⟨lo, lc, ?_, ?_, ?_, hb11⟩
          · rw [HN.out.1, Option.getD_some, HN.out.2, HE.out, HBB.out]; rfl
          · rw [HN.out.1, Option.getD_some, HN.out.2, HE.out]; exact hlc
          · rw [HN.out.1, Option.getD_some, HN.out.2]
            exact ⟨hs11.right.right, HFF.out.2⟩
        · have hnone : S.num x = none := by
            rw [HH.out.2.2.2.1, if_neg]
            rw [HX.out.2.2.2.2.2.2.2, HE.out, HT.out.2.2]
            simp [hqk]
          have b5 : (((q : Nat) : Int) != k) = true := by rw [bne_iff_ne]; omega
          have HN := Lib.hid hnone
          clear hnone hsm hqk
          go_wp2_with fail
          have h11 := HX.out.2.2.2.2.1 w10 HT.out.1.right.right
          have hs11 := ((show sat w10 (Go.Proofs.Ytanjiecefioffaa.blk g (.cells #[.bool false, .slice none 0 0] 51 (0, 0)) * (isHeap V S * (isSt X V.g Y * R))) from h11.s.perm (by ac_rfl)).setCell (off := 0) (.bool false)).setCell (off := 1) (.slice none 0 0)
          have hb11 : Below 0 w ((w10.setCell ⟨g, 0, none⟩ (.bool false)).setCell ⟨g, 1, none⟩ (.slice none 0 0)) := (HT.out.2.1.setCell (p := ⟨g, 0, none⟩) (Nat.zero_le _) _).setCell (p := ⟨g, 1, none⟩) (Nat.zero_le _) _
          generalize (w10.setCell ⟨g, 0, none⟩ (.bool false)).setCell ⟨g, 1, none⟩ (.slice none 0 0) = w11 at hs11 hb11 ⊢
          have r0 : w11.cell? ⟨g, 0, none⟩ = some (.bool false) := (hs11.left.cell 0).trans rfl
          have r1 : w11.cell? ⟨g, 1, none⟩ = some (.slice none 0 0) := (hs11.left.cell 1).trans rfl
          have hl0 : limbsOf (0 : Int).natAbs = [] := limbsOf_zero
          refine bodyPost_ret (v := .tuple #[.agg #[.bool false, .slice none 0 0], .bool false]) (by simp [results, Try.results39, go_sem, r0, r1]) rfl ⟨none, 0, ?_, ?_, ?_, hb11⟩
          · rw [HN.out, Option.getD_none, hl0]; rfl
          · rw [HN.out, Option.getD_none, hl0]; exact Nat.le_refl _
          · rw [HN.out, Option.getD_none, hl0]
            refine ⟨?_, HFF.out.2⟩
            exact (hs11.right.nil_own).perm (by simp only [List.map_nil, List.length_nil]; ac_rfl)
/-- Num of any word. -/
theorem StW.Num (h : StW w X V S Y R) (x : Int) (x0 : 0 ≤ x) (x1 : x < 18446744073709551616) :
    Calls Try.prog 39 #[.pointer (some ⟨X.g, 0, none⟩), .int .u64 x] w (NumPost X V S Y R ((S.num x).getD 0) (S.num x).isSome w) := by
  by_cases hx : x % 4 = 1
  · have e : S.num x = some (intW x) := by unfold HS.num; rw [if_pos hx]
    rw [e]
    exact h.Num_fix x x0 x1 hx
  · cases hf : S.numFit x with
    | true => exact h.Num_obj x x0 x1 hx hf
    | false =>
      have e : S.num x = none := by
        unfold HS.num
        rw [if_neg hx, if_neg]
        unfold HS.numOk
        rw [hf]
        simp
      rw [e]
      cases hsh : S.shape x 5 0 (-1) with
      | false => exact h.Num_not x x0 x1 hx hsh
      | true =>
        refine h.Num_big x x0 x1 hx hsh ?_
        unfold HS.numFit at hf
        rw [hsh, Bool.true_and, decide_eq_false_iff_not] at hf
        omega
end
end Go.Proofs.Ytanjiecefioffaa
