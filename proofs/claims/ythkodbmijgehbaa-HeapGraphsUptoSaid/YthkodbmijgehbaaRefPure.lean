/- The reference's heap: the same data, its headers' places in a list of their own. -/
import Derived.Test.YthkodbmijgehbaaGcScan
namespace Go.Proofs.Ythkodbmijgehbaa
open Go.RowKit

/-- The places of headers, from place k on. -/
def headsFrom : Nat → List Bool → List Nat
  | _, [] => []
  | k, b :: l => if b = true then k :: headsFrom (k + 1) l else headsFrom (k + 1) l
def headsOf (bs : List Bool) : List Nat := headsFrom 0 bs
def rankOf (bs : List Bool) (p : Nat) : Nat := (headsFrom 0 (bs.take p)).length

theorem headsFrom_app (l m : List Bool) : ∀ k, headsFrom k (l ++ m) = headsFrom k l ++ headsFrom (k + l.length) m := by
  induction l with
  | nil => intro k; simp [headsFrom]
  | cons b l ih =>
    intro k
    simp only [List.cons_append, headsFrom, List.length_cons]
    rw [ih (k + 1), show k + 1 + l.length = k + (l.length + 1) by omega]
    split <;> rfl
theorem headsFrom_bd (l : List Bool) : ∀ k x, x ∈ headsFrom k l → k ≤ x ∧ x < k + l.length := by
  induction l with
  | nil => intro k x h; cases h
  | cons b l ih =>
    intro k x h
    simp only [headsFrom] at h
    simp only [List.length_cons]
    split at h
    · rcases List.mem_cons.1 h with rfl | h
      · omega
      · have := ih (k + 1) x h; omega
    · have := ih (k + 1) x h; omega
theorem headsFrom_len (l : List Bool) : ∀ k, (headsFrom k l).length ≤ l.length := by
  induction l with
  | nil => intro k; simp [headsFrom]
  | cons b l ih =>
    intro k
    simp only [headsFrom, List.length_cons]
    split
    · simp only [List.length_cons]; have := ih (k + 1); omega
    · have := ih (k + 1); omega
theorem headsFrom_head (l : List Bool) : ∀ k, (headsFrom k l)[0]? = some k ↔ l[0]? = some true := by
  intro k
  cases l with
  | nil => simp [headsFrom]
  | cons b l =>
    simp only [headsFrom]
    by_cases hb : b = true
    · rw [if_pos hb]; simp [hb]
    · rw [if_neg hb]
      constructor
      · intro h
        have := headsFrom_bd l (k + 1) k (List.mem_of_getElem? h)
        omega
      · intro h; simp at h; exact absurd h hb

section
variable {bs : List Bool} {p : Nat}
theorem heads_split (hp : p ≤ bs.length) : headsOf bs = headsFrom 0 (bs.take p) ++ headsFrom p (bs.drop p) := by
  have := headsFrom_app (bs.take p) (bs.drop p) 0
  rw [List.take_append_drop, List.length_take, Nat.min_eq_left hp, Nat.zero_add] at this
  exact this
theorem rank_le : rankOf bs p ≤ (headsOf bs).length := by
  rcases Nat.lt_or_ge bs.length p with h | h
  · unfold rankOf; rw [List.take_of_length_le (by omega)]; exact Nat.le_refl _
  · rw [heads_split h, List.length_append]; unfold rankOf; omega
/-- A header's place is below p just where it stands before p's rank. -/
theorem heads_lt {j x : Nat} (h : (headsOf bs)[j]? = some x) : x < p ↔ j < rankOf bs p := by
  rcases Nat.lt_or_ge bs.length p with hp | hp
  · have h1 := headsFrom_bd bs 0 x (List.mem_of_getElem? h)
    have h2 := (List.getElem?_eq_some_iff.1 h).1
    unfold rankOf; rw [List.take_of_length_le (by omega)]
    unfold headsOf at h2
    exact ⟨fun _ => h2, fun _ => by omega⟩
  · rw [heads_split hp] at h
    unfold rankOf
    rcases Nat.lt_or_ge j (headsFrom 0 (bs.take p)).length with hj | hj
    · rw [List.getElem?_append_left hj] at h
      have := headsFrom_bd _ _ _ (List.mem_of_getElem? h)
      rw [List.length_take] at this
      exact ⟨fun _ => hj, fun _ => by omega⟩
    · rw [List.getElem?_append_right hj] at h
      have := headsFrom_bd _ _ _ (List.mem_of_getElem? h)
      exact ⟨fun _ => by omega, fun _ => by omega⟩
theorem heads_rank : (headsOf bs)[rankOf bs p]? = some p ↔ bs[p]? = some true := by
  rcases Nat.lt_or_ge bs.length p with hp | hp
  · rw [List.getElem?_eq_none (by omega : bs.length ≤ p)]
    constructor
    · intro h
      have h1 := headsFrom_bd bs 0 p (List.mem_of_getElem? h)
      omega
    · intro h; cases h
  · rw [heads_split hp]
    unfold rankOf
    rw [List.getElem?_append_right (Nat.le_refl _), Nat.sub_self, headsFrom_head, List.getElem?_drop, Nat.add_zero]
theorem heads_mem {x : Nat} (h : x ∈ headsOf bs) : x < bs.length := by have := headsFrom_bd bs 0 x h; omega
end

/-- What find answers. -/
def findP (bs : List Bool) (p : Nat) : Int := if bs[p]? = some true then (rankOf bs p : Int) else -1

theorem headsFrom_false (m : Nat) : ∀ k, headsFrom k (List.replicate m false) = [] := by
  induction m with
  | zero => intro k; rfl
  | succ m ih => intro k; simp only [List.replicate_succ, headsFrom]; rw [if_neg (by simp)]; exact ih _
theorem headsOf_laid (bs : List Bool) (m : Nat) : headsOf (bs ++ laid m) = headsOf bs ++ [bs.length] := by
  unfold headsOf
  rw [headsFrom_app]
  simp only [laid, headsFrom, if_true, Nat.zero_add]
  rw [headsFrom_false]

abbrev hVal (k : Nat) : Value := .int .i64 (k : Int)
/-- Where the reference's heap lies. -/
structure RV where
  g : Nat
  bw : Nat
  cw : Nat
  oh : Option Nat
  ch : Nat
def RV.vh (V : RV) (S : HS) : Value := .slice (V.oh.map fun b => ⟨b, 0, none⟩) (headsOf S.bs).length V.ch
def isRef (V : RV) (S : HS) : HP := blk V.g (.cells #[i64 S.size, .slice (some ⟨V.bw, 0, none⟩) S.ws.length V.cw, V.vh S, i64 S.times] 109 (0, 0)) * (row 28 1 V.bw V.cw (S.ws.map u64) * own 3 1 (V.vh S) (headsOf S.bs).length ((headsOf S.bs).map hVal))

/-- A heap's data as they should be (wherever they lie). -/
structure SOk (S : HS) : Prop where
  lo : 2 ≤ S.size
  hi : S.size ≤ 1048576
  used : S.ws.length ≤ S.size
  wf : WfH S.ws S.bs
  times : S.times < 4611686018427387904
  ptr : PtrOk S.ws S.bs
theorem HOk.s {V : HV} {S : HS} (h : HOk V S) : SOk S := ⟨h.lo, h.hi, h.used, h.wf, h.times, h.ptr⟩
theorem SOk.h {S : HS} (h : SOk S) (V : HV) (hi : V.inn < 2) : HOk V S := ⟨hi, h.lo, h.hi, h.used, h.wf, h.times, h.ptr⟩

structure RefV (w : World) (V : RV) (S : HS) : Prop where
  ok : SOk S
  c0 : w.cell? ⟨V.g, 0, none⟩ = some (.int .i64 S.size)
  c1 : w.cell? ⟨V.g, 1, none⟩ = some (.slice (some ⟨V.bw, 0, none⟩) S.ws.length V.cw)
  c2 : w.cell? ⟨V.g, 2, none⟩ = some (.slice (V.oh.map fun b => ⟨b, 0, none⟩) (headsOf S.bs).length V.ch)
  c3 : w.cell? ⟨V.g, 3, none⟩ = some (.int .i64 S.times)
  hw : ∀ j x, S.ws[j]? = some x → w.cell? ⟨V.bw, j, none⟩ = some (.int .u64 x)
  hh : ∀ j x, (headsOf S.bs)[j]? = some x → ∃ b, V.oh = some b ∧ w.cell? ⟨b, j, none⟩ = some (.int .i64 (x : Nat))
  wc : S.ws.length ≤ V.cw
  hc : (headsOf S.bs).length ≤ V.ch

theorem RefV.drewN {w : World} {V : RV} {S : HS} (h : RefV w V S) (n : Nat) : RefV (w.drewN n) V S := ⟨h.ok, h.c0, h.c1, h.c2, h.c3, h.hw, h.hh, h.wc, h.hc⟩
theorem RefV.len {w : World} {V : RV} {S : HS} (h : RefV w V S) : S.ws.length ≤ 1048576 := Nat.le_trans h.ok.used h.ok.hi
theorem heads_len (S : HS) (h : SOk S) : (headsOf S.bs).length ≤ 1048576 := by
  have h1 := headsFrom_len S.bs 0
  have h2 := h.wf.len
  have h3 := h.used
  have h4 := h.hi
  unfold headsOf; omega

theorem sat.refV {w : World} {V : RV} {S : HS} {R : HP} (h : sat w (isRef V S * R)) (ok : SOk S) : RefV w V S := by
  unfold isRef at h
  have hb := h.left.left
  have hr : sat w (row 28 1 V.bw V.cw (S.ws.map u64) * own 3 1 (V.vh S) (headsOf S.bs).length ((headsOf S.bs).map hVal)) := h.left.right
  have ho : sat w (own 3 1 (V.vh S) (headsOf S.bs).length ((headsOf S.bs).map hVal) * row 28 1 V.bw V.cw (S.ws.map u64)) := hr.perm (HP.comm _ _)
  have hbd := hr.row_bounds
  simp only [List.length_map, Nat.mul_one] at hbd
  refine ⟨ok, (hb.cell 0).trans rfl, (hb.cell 1).trans rfl, (hb.cell 2).trans rfl, (hb.cell 3).trans rfl, ?_, ?_, hbd.1, ?_⟩
  · intro j x hx; exact hr.row_cell (by rw [List.getElem?_map, hx]; rfl)
  · intro j x hx
    have hpos : 0 < (headsOf S.bs).length := by have := (List.getElem?_eq_some_iff.1 hx).1; omega
    obtain ⟨b, cap, hv, _, _, hro⟩ := ho.own_some hpos
    unfold RV.vh at hv
    cases hoh : V.oh with
    | none => rw [hoh] at hv; simp at hv
    | some b' =>
      rw [hoh] at hv
      simp at hv
      refine ⟨b', rfl, ?_⟩
      rw [hv.1]
      exact hro.row_cell (by rw [List.getElem?_map, hx]; rfl)
  · obtain ⟨_, hn | ⟨b, cap, hv, hn, _⟩⟩ := ho.open_own
    · rw [hn.2.1]; omega
    · unfold RV.vh at hv
      simp at hv
      rw [hv.2]; exact hn
end Go.Proofs.Ythkodbmijgehbaa
