/- do's collection: what the loops keep. -/
import Derived.Test.YthkodbmijgehbaaOnOp
namespace Go.Proofs.Ythkodbmijgehbaa
open Go.RowKit

def rootsOf (obj : List Int) (rs : List Int) : List Int := rs.map (pickP obj)
/-- The op's roots can be read wherever R lies. -/
def RsIn (R : HP) (ao : Option Addr) (rs : List Int) : Prop := ∀ w, sat w R → ∀ j x, rs[j]? = some x → ∃ a, ao = some a ∧ w.cell? (a.add j) = some (.int .i64 x)
theorem RsIn.get {R : HP} {ao : Option Addr} {rs : List Int} (h : RsIn R ao rs) {w : World} (hs : sat w R) {j : Nat} {x : Int} (hj : rs[j]? = some x) : ∃ a, ao = some a ∧ w.cell? (a.add j) = some (.int .i64 x) := h w hs j x hj

theorem take_roots {obj rs : List Int} {k : Nat} {x : Int} (h : rs[k]? = some x) : (rootsOf obj rs).take (k + 1) = (rootsOf obj rs).take k ++ [pickP obj x] := by
  rw [List.take_add_one]
  unfold rootsOf
  rw [List.getElem?_map, h]
  rfl

theorem rootsOf_all (obj rs : List Int) : (rootsOf obj rs).take rs.length = rootsOf obj rs := List.take_of_length_le (by unfold rootsOf; simp)
theorem roots_list {obj : List Int} (hu : ∀ x ∈ obj, 0 ≤ x ∧ x < 18446744073709551616) (rs : List Int) {xw : Int} (w0 : 0 ≤ xw) (w1 : xw < 18446744073709551616) :
    ∃ L : List Int, ((rootsOf obj rs).map u64 ++ [.int .u64 xw]) = L.map u64 ∧ L.length = rs.length + 1 ∧ ∀ x ∈ L, 0 ≤ x ∧ x < 18446744073709551616 := by
  refine ⟨rootsOf obj rs ++ [xw], by simp [u64], by simp [rootsOf], ?_⟩
  intro x hx
  rcases List.mem_append.1 hx with hx | hx
  · obtain ⟨i, _, rfl⟩ := List.mem_map.1 hx
    exact pickP_bd hu i
  · simp at hx; subst hx; exact ⟨w0, w1⟩

section
variable {w : World} {O : OV} {V : HV} {V2 : RV} {S : HS} {P R Q : HP}
theorem OnW.perm (h : OnW w O V V2 S R) (e : R = Q) : OnW w O V V2 S Q := e ▸ h
theorem OnW.swap (h : OnW w O V V2 S (Q * (P * R))) : OnW w O V V2 S (P * (Q * R)) := h.perm (by ac_rfl)
theorem OnW.nil {e sz : Nat} (h : OnW w O V V2 S R) : OnW w O V V2 S (own e sz (.slice none 0 0) 0 [] * R) :=
  ⟨⟨h.p.s.nil_own.perm (by ac_rfl), h.p.p, h.p.q, h.p.ok⟩, h.u, h.l, h.o⟩
theorem OnW.list (h : OnW w O V V2 S (P * Q)) : sat w (P * (isOn O * (isHeap V S * (isRef V2 S * Q)))) := h.p.s.perm (by ac_rfl)
theorem OnW.unlist {w' : World} {P' : HP} (h : OnW w O V V2 S (P * Q)) (hs : sat w' (P' * (isOn O * (isHeap V S * (isRef V2 S * Q))))) : OnW w' O V V2 S (P' * Q) :=
  ⟨⟨hs.perm (by ac_rfl), h.p.p, h.p.q, h.p.ok⟩, h.u, h.l, h.o⟩
theorem OnW.more {w' : World} {P' : HP} (h : OnW w O V V2 S R) (hs : sat w' (P' * (isOn O * (isHeap V S * (isRef V2 S * R))))) : OnW w' O V V2 S (P' * R) :=
  ⟨⟨hs.perm (by ac_rfl), h.p.p, h.p.q, h.p.ok⟩, h.u, h.l, h.o⟩
theorem roots_in {b c : Nat} {l : List Int} (A B : HP) : RootsIn (A * (B * (row 28 1 b c (l.map u64) * Q))) (some ⟨b, 0, none⟩) l := fun _ hs => reads_row hs.right.right
theorem roots_in3 {b c : Nat} {l : List Int} (A B C D : HP) : RootsInR (A * (B * (C * (D * (row 28 1 b c (l.map u64) * Q))))) (some ⟨b, 0, none⟩) l := fun _ hs => reads_row hs.right.right.right.right
theorem OnW.midC {w5 : World} {V5 : HV} {S5 : HS} {A B : HP} (h : OnW w O V V2 S R) (h5 : HeapW w5 V5 S5 (A * (isOn O * (isRef V2 S * B)))) :
    RefW w5 V2 S (isOn O * (isHeap V5 S5 * (A * B))) ∧ w5.cell? ⟨O.g, 0, none⟩ = some (.pointer (some ⟨V.g, 0, none⟩)) ∧ w5.cell? ⟨O.g, 1, none⟩ = some (.pointer (some ⟨V2.g, 0, none⟩)) := by
  have h1 := h5.s.right.right.left
  unfold isOn at h1
  rw [h.p.p, h.p.q] at h1
  exact ⟨⟨h5.s.perm (by ac_rfl), h.p.ok.s⟩, (h1.left.cell 0).trans rfl, (h1.left.cell 1).trans rfl⟩
theorem sat.frame {A B C : HP} (h : sat w (A * (B * C))) : sat w (B * (A * C)) := h.perm (by ac_rfl)
theorem OnW.endC {w6 : World} {V5 : HV} {V6 : RV} {S5 : HS} {b1 b2 b3 bo c1 c2 c3 co : Nat} {l m : List Int} {B : HP} (h : OnW w O V V2 S R) (ok : HOk V5 S5)
    (hs : sat w6 (row 28 1 b3 c3 (m.map u64) * (isRef V6 S5 * (isOn O * (isHeap V5 S5 * (row 28 1 bo co (m.map u64) * (row 28 1 b2 c2 (l.map u64) * (row 28 1 b1 c1 (l.map u64) * B))))))))
    (hg : V5.g = V.g) (hg2 : V6.g = V2.g) :
    Pair w6 O V5 V6 S5 (row 28 1 bo co (m.map u64) * (row 28 1 b3 c3 (m.map u64) * (row 28 1 b2 c2 (l.map u64) * (row 28 1 b1 c1 (l.map u64) * B)))) ∧
      Reads w6 (some ⟨bo, 0, none⟩) m ∧ Reads w6 (some ⟨b3, 0, none⟩) m ∧ Reads w6 (some ⟨b2, 0, none⟩) l ∧ Reads w6 (some ⟨b1, 0, none⟩) l :=
  ⟨⟨hs.perm (by ac_rfl), h.p.p.trans hg.symm, h.p.q.trans hg2.symm, ok⟩, reads_row hs.right.right.right.right, reads_row hs, reads_row hs.right.right.right.right.right, reads_row hs.right.right.right.right.right.right⟩
theorem copyAll_len (S : HS) (l : List Int) : ∀ c : CS, (copyAll S c l).2.length = l.length := by
  induction l with
  | nil => intro c; rfl
  | cons x l ih => intro c; simp only [copyAll, List.length_cons]; rw [ih]
theorem moved_len (S : HS) (l : List Int) : (S.moved l).length = l.length := copyAll_len S l _
theorem moved_u {S : HS} (ok : SOk S) {l : List Int} (hu : ∀ x ∈ l, 0 ≤ x ∧ x < 18446744073709551616) : ∀ x ∈ S.moved l, 0 ≤ x ∧ x < 18446744073709551616 :=
  (gc_end ok.wf (Nat.le_trans ok.used ok.hi) hu).u
theorem Pair.thin {A B : HP} (h : Pair w O V V2 S (A * (B * R))) : Pair w O V V2 S (A * R) :=
  Pair.drop (Q := B) ⟨h.s.perm (by ac_rfl), h.p, h.q, h.ok⟩
theorem Pair.empty (h : Pair w O V V2 S R) : Pair (w.setCell ⟨O.g, 2, none⟩ (.slice none 0 0)) ⟨O.g, O.p, O.q, .slice none 0 0, []⟩ V V2 S R := by
  have h1 := h.open_obj.right
  have h2 := h1.nil_own (e := 28) (sz := 1)
  exact (h.shut_obj (obj := []) h2).1
theorem Pair.box' (h : Pair w O V V2 S R) (o : Obj) : Pair (w.alloc o) O V V2 S (blk w.heap.size o * R) := ⟨(h.s.alloc o).perm (by ac_rfl), h.p, h.q, h.ok⟩
end

def DRel1 (w : World) (O : OV) (V : HV) (V2 : RV) (S : HS) (rs : List Int) (bx : Nat) (cs : Array Value) (R : HP) (o i : Value) (wr : World) : Prop :=
  ∃ k : Nat, k ≤ rs.length ∧ i = .int .i64 k ∧ OnW wr O V V2 S (own 28 1 o k (((rootsOf O.obj rs).take k).map u64) * (blk bx (.cells cs 62 (0, 0)) * R)) ∧ Below 0 w wr

/-- The objects that are kept: no more than k; words. -/
def DRel2 (w : World) (g p q : Nat) (V : HV) (V2 : RV) (S : HS) (ba ca : Nat) (l : List Int) (R : HP) (i : Value) (wr : World) : Prop :=
  ∃ (k : Nat) (v : Value) (obj : List Int), k ≤ l.length ∧ i = .int .i64 k ∧ obj.length ≤ k ∧ (∀ x ∈ obj, 0 ≤ x ∧ x < 18446744073709551616) ∧ (∀ x ∈ obj, S.is x = true) ∧
    Pair wr ⟨g, p, q, v, obj⟩ V V2 S (row 28 1 ba ca (l.map u64) * R) ∧ Below 0 w wr
end Go.Proofs.Ythkodbmijgehbaa
