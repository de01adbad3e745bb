/- HeapGraphs: what its loops keep. -/
import Derived.Test.YthkodbmijgehbaaRowB
import Derived.Test.YthkodbmijgehbaaGraphPure
namespace Go.Proofs.Ythkodbmijgehbaa
open Go.RowKit

theorem info_pair : (Try.prog.info? 50).map (fun i => (i.zero, i.size, i.bytes)) = some (some (.agg #[.int .u64 0, .int .u64 0]), 2, 16) := by kernel_rfl

def pairCells (l : List (Int × Int)) : List Value := l.flatMap fun p => [u64 p.1, u64 p.2]
theorem pairCells_len (l : List (Int × Int)) : (pairCells l).length = l.length * 2 := by
  induction l with
  | nil => rfl
  | cons p l ih => unfold pairCells at *; rw [List.flatMap_cons, List.length_append, ih]; simp; omega
theorem pairCells_app (l m : List (Int × Int)) : pairCells (l ++ m) = pairCells l ++ pairCells m := by unfold pairCells; rw [List.flatMap_append]
theorem pairCells_one (a b : Int) : pairCells [(a, b)] = [u64 a, u64 b] := rfl
def lenV : Value → Nat
  | .slice _ n _ => n
  | _ => 0
theorem lenV_slice (a : Option Addr) (n c : Nat) : lenV (.slice a n c) = n := rfl

section
variable {w : World} {R : HP}
/-- The last element is struck. -/
theorem own_pop {b cap n : Nat} {xs ys : List Value} {e sz : Nat} (h : sat w (own e sz (.slice (some ⟨b, 0, none⟩) (n + 1) cap) (n + 1) (xs ++ ys) * R)) (hl : xs.length = n * sz) : sat w (own e sz (.slice (some ⟨b, 0, none⟩) n cap) n xs * R) := by
  obtain ⟨b', cap', hv, hn, hl2, hr⟩ := h.own_some (by omega)
  simp only [Value.slice.injEq, Option.some.injEq, Addr.mk.injEq, true_and, and_true] at hv
  obtain ⟨rfl, rfl⟩ := hv
  obtain ⟨cur, h1, h2, h3, h4, h5⟩ := hr.open_row
  refine sat.shut_own hl (by omega) (h1.shut_row h2 ?_ h4 ?_)
  · rw [List.length_append] at h3; omega
  · rw [List.length_append] at h5
    have h6 : (cur.toList.take (xs.length + ys.length)).take xs.length = (xs ++ ys).take xs.length := by rw [h5]
    rw [List.take_take, Nat.min_eq_left (by omega), List.take_left] at h6
    exact h6
/-- .. and is read. -/
theorem own_last {b cap n : Nat} {xs : List Value} {u v : Value} {e : Nat} (h : sat w (own e 2 (.slice (some ⟨b, 0, none⟩) (n + 1) cap) (n + 1) (xs ++ [u, v]) * R)) (hl : xs.length = n * 2) : w.cell? ⟨b, n * 2, none⟩ = some u ∧ w.cell? ⟨b, n * 2 + 1, none⟩ = some v := by
  obtain ⟨b', cap', hv, hn, hl2, hr⟩ := h.own_some (by omega)
  simp only [Value.slice.injEq, Option.some.injEq, Addr.mk.injEq, true_and, and_true] at hv
  obtain ⟨rfl, rfl⟩ := hv
  refine ⟨hr.row_cell ?_, hr.row_cell ?_⟩
  · rw [List.getElem?_append_right (by omega), hl, Nat.sub_self]; rfl
  · rw [List.getElem?_append_right (by omega), hl, show n * 2 + 1 - n * 2 = 1 by omega]; rfl
end

/-- The two heaps' words, where they lie. -/
structure GrV where
  bw : Nat
  cw : Nat
  bn : Nat
  cn : Nat
  bt : Nat
  bf : Nat
def gFrame (V : GrV) (S T : HS) (tv fr : List Int) (Q : HP) : HP :=
  row 28 1 V.bt (S.ws.length + 1) (tv.map u64) * (row 28 1 V.bf (T.ws.length + 1) (fr.map u64) * (row 28 1 V.bw V.cw (S.ws.map u64) * (row 28 1 V.bn V.cn (T.ws.map u64) * Q)))

theorem gFrame_drop {w : World} {A B C Q : HP} {V : GrV} {S T : HS} {tv fr : List Int} (h : sat w (A * gFrame V S T tv fr (B * (C * Q)))) : sat w (A * gFrame V S T tv fr Q) := by
  unfold gFrame at *
  have h1 : sat w ((A * (row 28 1 V.bt (S.ws.length + 1) (tv.map u64) * (row 28 1 V.bf (T.ws.length + 1) (fr.map u64) * (row 28 1 V.bw V.cw (S.ws.map u64) * (row 28 1 V.bn V.cn (T.ws.map u64) * Q))))) * (B * C)) := h.perm (by ac_rfl)
  exact h1.left
theorem gFrame_drop1 {w : World} {A B Q : HP} {V : GrV} {S T : HS} {tv fr : List Int} (h : sat w (B * (A * gFrame V S T tv fr Q))) : sat w (A * gFrame V S T tv fr Q) := h.right
theorem row_ne {w : World} {R : HP} {e sz b c e' sz' b' c' : Nat} {xs ys : List Value} (h : sat w (row e sz b c xs * (row e' sz' b' c' ys * R))) : b ≠ b' := by
  obtain ⟨cur, h1, _⟩ := h.open_row
  have h2 : sat w (row e' sz' b' c' ys * (blk b (.cells cur e (0, 0)) * R)) := h1.perm (by ac_rfl)
  obtain ⟨cur2, h3, _⟩ := h2.open_row
  exact fun hb => h3.ne hb.symm
theorem gFrame_ne {w : World} {A Q : HP} {V : GrV} {S T : HS} {tv fr : List Int} (h : sat w (A * gFrame V S T tv fr Q)) : V.bt ≠ V.bf := by
  unfold gFrame at h
  exact row_ne h.right
section
variable {w : World} {A Q : HP} {V : GrV} {S T : HS} {tv fr : List Int}
theorem gFrame_to (h : sat w (A * gFrame V S T tv fr Q)) {k : Nat} (hk : k < tv.length) : w.cell? ⟨V.bt, k, none⟩ = some (.int .u64 (tv.getD k 0)) ∧ w.frozen? ⟨V.bt, k, none⟩ = false := by
  unfold gFrame at h
  exact ⟨h.right.row_cell (by rw [List.getElem?_map, getD_get hk]; rfl), h.right.row_frozen _⟩
theorem gFrame_fr (h : sat w (A * gFrame V S T tv fr Q)) {k : Nat} (hk : k < fr.length) : w.cell? ⟨V.bf, k, none⟩ = some (.int .u64 (fr.getD k 0)) ∧ w.frozen? ⟨V.bf, k, none⟩ = false := by
  unfold gFrame at h
  exact ⟨h.right.right.row_cell (by rw [List.getElem?_map, getD_get hk]; rfl), h.right.right.row_frozen _⟩
theorem gFrame_was (h : sat w (A * gFrame V S T tv fr Q)) {k : Nat} (hk : k < S.ws.length) : w.cell? ⟨V.bw, k, none⟩ = some (.int .u64 (S.ws.getD k 0)) := by
  unfold gFrame at h
  exact h.right.right.right.row_cell (by rw [List.getElem?_map, getD_get hk]; rfl)
theorem gFrame_now (h : sat w (A * gFrame V S T tv fr Q)) {k : Nat} (hk : k < T.ws.length) : w.cell? ⟨V.bn, k, none⟩ = some (.int .u64 (T.ws.getD k 0)) := by
  unfold gFrame at h
  exact h.right.right.right.right.row_cell (by rw [List.getElem?_map, getD_get hk]; rfl)
theorem gFrame_set (h : sat w (A * gFrame V S T tv fr Q)) (k j : Nat) (a b : Int) :
    sat ((w.setCell ⟨V.bt, k, none⟩ (.int .u64 b)).setCell ⟨V.bf, j, none⟩ (.int .u64 a)) (A * gFrame V S T (tv.set k b) (fr.set j a) Q) := by
  unfold gFrame at *
  have h1 : sat w (row 28 1 V.bt (S.ws.length + 1) (tv.map u64) * (A * (row 28 1 V.bf (T.ws.length + 1) (fr.map u64) * (row 28 1 V.bw V.cw (S.ws.map u64) * (row 28 1 V.bn V.cn (T.ws.map u64) * Q))))) := h.perm (by ac_rfl)
  have h2 := h1.row_set k (.int .u64 b)
  have h3 : sat _ (row 28 1 V.bf (T.ws.length + 1) (fr.map u64) * (row 28 1 V.bt (S.ws.length + 1) ((tv.map u64).set k (.int .u64 b)) * (A * (row 28 1 V.bw V.cw (S.ws.map u64) * (row 28 1 V.bn V.cn (T.ws.map u64) * Q))))) := h2.perm (by ac_rfl)
  have h4 := h3.row_set j (.int .u64 a)
  rw [List.map_set, List.map_set]
  exact h4.perm (by ac_rfl)
end
/-- The pairs of roots, k of them. -/
def PRel (W : World) (V : GrV) (S T : HS) (bo n : Nat) (lv : Value) (L M : List Int) (o i : Value) (wr : World) : Prop :=
  ∃ k : Nat, k ≤ n ∧ i = .int .i64 k ∧ sat wr (own 50 2 o k (pairCells ((L.zip M).take k)) * (gFrame V S T (List.replicate (S.ws.length + 1) 0) (List.replicate (T.ws.length + 1) 0) (row 28 1 bo n (M.map u64) * (own 28 1 lv n (L.map u64) * whole W)))) ∧ Below 0 W wr

/-- The walk through both graphs. -/
def WRel (W : World) (V : GrV) (S T : HS) (e : CS) (L : List Int) (o m : Value) (wr : World) : Prop :=
  ∃ (tv fr : List Int) (left : List (Int × Int)) (met : Nat), m = .int .i64 met ∧ GrOk S e L ⟨tv, fr, left, met⟩ ∧ sat wr (own 50 2 o left.length (pairCells left) * gFrame V S T tv fr (whole W)) ∧ Below 0 W wr

/-- The fields of two objects, q of them. -/
def FRel (W : World) (V : GrV) (S T : HS) (k j t r : Nat) (tv fr : List Int) (ini : List (Int × Int)) (o i : Value) (wr : World) : Prop :=
  ∃ q : Nat, q ≤ t + r ∧ i = .int .i64 (q + 1) ∧ sat wr (own 50 2 o (ini.length + min q t) (pairCells (ini ++ fieldPairs S T k j (min q t))) * gFrame V S T tv fr (whole W)) ∧ Below 0 W wr
end Go.Proofs.Ythkodbmijgehbaa
