/- do: what stays, what comes in. -/
import Derived.Test.YthkodbmijgehbaaOnSame
import Derived.Test.YthkodbmijgehbaaSep4
namespace Go.Proofs.Ythkodbmijgehbaa
open Go.RowKit

/-- The pair of heaps, and the objects that were made. -/
structure OnW (w : World) (O : OV) (V : HV) (V2 : RV) (S : HS) (R : HP) : Prop where
  p : Pair w O V V2 S R
  u : ∀ x ∈ O.obj, 0 ≤ x ∧ x < 18446744073709551616
  l : O.obj.length ≤ 17592186044416 + S.ws.length
  o : ∀ x ∈ O.obj, S.is x = true

theorem pickP_bd {obj : List Int} (h : ∀ x ∈ obj, 0 ≤ x ∧ x < 18446744073709551616) (i : Int) : 0 ≤ pickP obj i ∧ pickP obj i < 18446744073709551616 := by
  unfold pickP
  split
  · omega
  · rename_i hn
    have := place_bd i obj.length (by omega)
    rw [List.getD_eq_getElem?_getD, List.getElem?_eq_getElem (by omega)]
    exact h _ (List.getElem_mem _)

abbrev opCells (kd a b c xw : Int) (obj : Bool) (ao : Option Addr) (len cap : Nat) : Array Value := #[.int .i64 kd, .int .i64 a, .int .i64 b, .int .i64 c, .int .u64 xw, .bool obj, .slice ao len cap]

section
variable {w : World} {O : OV} {V : HV} {V2 : RV} {S : HS} {R : HP}
theorem OnW.drewN (h : OnW w O V V2 S R) (n : Nat) : OnW (w.drewN n) O V V2 S R := ⟨h.p.drewN n, h.u, h.l, h.o⟩
theorem Pair.drop {Q : HP} (h : Pair w O V V2 S (Q * R)) : Pair w O V V2 S R := by
  refine ⟨?_, h.p, h.q, h.ok⟩
  have h1 : sat w ((isOn O * (isHeap V S * (isRef V2 S * R))) * Q) := h.s.perm (by ac_rfl)
  exact h1.left
theorem OnW.drop {Q : HP} (h : OnW w O V V2 S (Q * R)) : OnW w O V V2 S R := ⟨h.p.drop, h.u, h.l, h.o⟩
theorem OnW.box (h : OnW w O V V2 S R) (o : Obj) : OnW (w.alloc o) O V V2 S (blk w.heap.size o * R) :=
  ⟨⟨(h.p.s.alloc o).perm (by ac_rfl), h.p.p, h.p.q, h.p.ok⟩, h.u, h.l, h.o⟩
theorem Pair.fr (h : Pair w O V V2 S R) : sat w R := h.s.right.right.right
theorem OnW.ws (h : OnW w O V V2 S R) : S.ws.length ≤ 1048576 := Nat.le_trans h.p.ok.used h.p.ok.hi
theorem OnW.pick (h : OnW w O V V2 S R) (i : Int) :
    Calls Try.prog 30 #[.pointer (some ⟨O.g, 0, none⟩), .int .i64 i] w (Says (.int .u64 (pickP O.obj i)) w) :=
  on_pick h.p.s i (by have := h.l; have := h.ws; omega)

theorem OnW.x {bx t : Nat} {cs : Array Value} {fr : Nat × Nat} (h : OnW w O V V2 S (blk bx (.cells cs t fr) * R)) (j : Nat) : w.cell? ⟨bx, j, none⟩ = cs[j]? := h.p.fr.left.cell j

/-- The heap has turned; the document's not yet. -/
theorem OnW.mid {w5 : World} {V5 : HV} {S5 : HS} (h : OnW w O V V2 S R) (h5 : HeapW w5 V5 S5 (isOn O * (isRef V2 S * R))) :
    RefW w5 V2 S (isOn O * (isHeap V5 S5 * R)) ∧ w5.cell? ⟨O.g, 0, none⟩ = some (.pointer (some ⟨V.g, 0, none⟩)) ∧ w5.cell? ⟨O.g, 1, none⟩ = some (.pointer (some ⟨V2.g, 0, none⟩)) ∧ sat w5 R := by
  have h1 := h5.s.right.left
  unfold isOn at h1
  rw [h.p.p, h.p.q] at h1
  exact ⟨⟨h5.s.perm (by ac_rfl), h.p.ok.s⟩, (h1.left.cell 0).trans rfl, (h1.left.cell 1).trans rfl, h5.s.right.right.right⟩
/-- Both have. -/
theorem OnW.fin {w6 : World} {V5 : HV} {V6 : RV} {S5 : HS} (h : OnW w O V V2 S R) (ok : HOk V5 S5) (h6 : RefW w6 V6 S5 (isOn O * (isHeap V5 S5 * R))) (hg : V5.g = V.g) (hg2 : V6.g = V2.g) : Pair w6 O V5 V6 S5 R :=
  ⟨h6.s.perm (by ac_rfl), h.p.p.trans hg.symm, h.p.q.trans hg2.symm, ok⟩
theorem Pair.c' {g g2 : Nat} (h : Pair w O V V2 S R) (hg : V.g = g) (hg2 : V2.g = g2) : w.cell? ⟨O.g, 0, none⟩ = some (.pointer (some ⟨g, 0, none⟩)) ∧ w.cell? ⟨O.g, 1, none⟩ = some (.pointer (some ⟨g2, 0, none⟩)) := by
  subst hg hg2; exact h.c
theorem set_is' (S : HS) (p i x y : Int) : (S.set p i x).is y = S.is y := by unfold HS.set; split <;> rfl
theorem setRaw_is' (S : HS) (p i x y : Int) : (S.setRaw p i x).is y = S.is y := by unfold HS.setRaw; split <;> rfl
theorem set_ws (S : HS) (p i x : Int) : (S.set p i x).ws.length = S.ws.length ∧ (S.set p i x).times = S.times ∧ (S.set p i x).size = S.size := by unfold HS.set; split <;> simp
theorem setRaw_ws (S : HS) (p i x : Int) : (S.setRaw p i x).ws.length = S.ws.length ∧ (S.setRaw p i x).times = S.times ∧ (S.setRaw p i x).size = S.size := by unfold HS.setRaw; split <;> simp

/-- An object more. -/
theorem Pair.open_obj (h : Pair w O V V2 S R) : sat w (own 28 1 O.vo O.obj.length (O.obj.map u64) * (blk O.g (.cells #[.pointer (some ⟨O.p, 0, none⟩), .pointer (some ⟨O.q, 0, none⟩), O.vo] 48 (0, 0)) * (isHeap V S * (isRef V2 S * R)))) :=
  h.s.perm (by unfold isOn; ac_rfl)
theorem Pair.vo (h : Pair w O V V2 S R) : w.cell? ⟨O.g, 2, none⟩ = some O.vo := (h.open_obj.right.left.cell 2).trans rfl
theorem Pair.shut_obj {v : Value} {obj : List Int} (h : Pair w O V V2 S R) {w' : World} (hs : sat w' (own 28 1 v obj.length (obj.map u64) * (blk O.g (.cells #[.pointer (some ⟨O.p, 0, none⟩), .pointer (some ⟨O.q, 0, none⟩), O.vo] 48 (0, 0)) * (isHeap V S * (isRef V2 S * R))))) :
    Pair (w'.setCell ⟨O.g, 2, none⟩ v) ⟨O.g, O.p, O.q, v, obj⟩ V V2 S R ∧ w'.frozen? ⟨O.g, 2, none⟩ = false ∧ w'.cell? ⟨O.g, 2, none⟩ = some O.vo := by
  have h1 : sat w' (blk O.g (.cells #[.pointer (some ⟨O.p, 0, none⟩), .pointer (some ⟨O.q, 0, none⟩), O.vo] 48 (0, 0)) * (own 28 1 v obj.length (obj.map u64) * (isHeap V S * (isRef V2 S * R)))) := hs.perm (by ac_rfl)
  refine ⟨⟨?_, h.p, h.q, h.ok⟩, h1.left.frozen 2, (h1.left.cell 2).trans rfl⟩
  have h2 := h1.setCell (off := 2) v
  simp only [List.setIfInBounds_toArray, List.set_cons_zero, List.set_cons_succ] at h2
  refine h2.perm ?_
  unfold isOn
  ac_rfl
theorem alloc_is_old {S : HS} {y : Int} (k t r : Int) (h : S.is y = true) : (S.alloc k t r).is y = true := by
  obtain ⟨h1, h2⟩ := is_iff.1 h
  unfold HS.alloc
  split
  · refine is_iff.2 ⟨h1, ?_⟩
    show (S.bs ++ laid (1 + t.toNat + r.toNat))[(y / 4).toNat]? = some true
    rw [List.getElem?_append_left (List.getElem?_eq_some_iff.1 h2).1]; exact h2
  · exact h
theorem alloc_is_new {S : HS} {k t r : Int} (hr : S.room k t r = true) (hl : S.bs.length = S.ws.length) : (S.alloc k t r).is (4 * (S.ws.length : Int)) = true := by
  unfold HS.alloc
  rw [if_pos hr]
  refine is_iff.2 ⟨by omega, ?_⟩
  show (S.bs ++ laid (1 + t.toNat + r.toNat))[(4 * (S.ws.length : Int) / 4).toNat]? = some true
  rw [show (4 * (S.ws.length : Int) / 4).toNat = S.bs.length by omega, List.getElem?_append_right (Nat.le_refl _), Nat.sub_self]
  rfl
theorem alloc_ws_len (S : HS) (k t r : Int) : (S.room k t r = true → S.ws.length + 1 ≤ (S.alloc k t r).ws.length) ∧ S.ws.length ≤ (S.alloc k t r).ws.length ∧ (S.alloc k t r).times = S.times ∧ (S.alloc k t r).size = S.size := by
  unfold HS.alloc objWords; split <;> rename_i hc <;> simp [hc]

/-- It answers true; the pair of heaps is as it should be. -/
def DoPost (O : OV) (S : HS) (R : HP) (w : World) (e : Ending) (w' : World) : Prop :=
  e = .returned (.bool true) ∧ Below 0 w w' ∧ ∃ (O' : OV) (V' : HV) (V2' : RV) (S' : HS), O'.g = O.g ∧ OnW w' O' V' V2' S' R ∧ S'.times ≤ S.times + 1 ∧ S'.size = S.size
end
end Go.Proofs.Ythkodbmijgehbaa
