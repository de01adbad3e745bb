/- HeapFields, plainly: three objects, and the fields of the middle one. -/
import Derived.Test.YthkodbmijgehbaaRowWords
namespace Go.Proofs.Ythkodbmijgehbaa
open Go.RowKit

def fpre : List Int := [0, headerOf 3 1 1, 2, 0]
def fpost : List Int := [headerOf 4 1 1, 2, 0]
/-- The heap of the statement: the middle object's fields are 'want'. -/
structure FH (t r : Nat) (want : List Int) (S : HS) : Prop where
  ws : S.ws = fpre ++ headerOf 9 t r :: (want ++ fpost)
  bs : S.bs = [false] ++ laid 3 ++ laid (1 + t + r) ++ laid 3
  len : want.length = t + r

section
variable {t r : Nat} {want : List Int} {S : HS}

theorem FH.at4 (h : FH t r want S) : S.ws.getD 4 0 = headerOf 9 t r := by rw [h.ws]; rfl
theorem FH.is16 (h : FH t r want S) : S.is 16 = true := by
  unfold HS.is isB; rw [h.bs]; simp [laid]
theorem FH.head16 (h : FH t r want S) : S.head 16 = headerOf 9 t r := by
  unfold HS.head headOf
  have := h.is16
  unfold HS.is at this
  rw [if_pos this]; exact h.at4
theorem FH.tag16 (h : FH t r want S) (ht : t < 8) (hr : r < 8) : S.tag 16 = t ∧ S.raw 16 = r := by
  unfold HS.tag HS.raw; rw [h.head16]
  have := tag_header 9 t r (by omega) (by omega) (by omega) (by omega) (by omega) (by omega)
  exact ⟨this.1, this.2.1⟩
theorem FH.field (_h : FH t r want S) (k : Nat) : fieldAt 16 0 k = 5 + k ∧ fieldAt 16 t k = 5 + (t + k) := by
  unfold fieldAt; omega
theorem FH.getD (h : FH t r want S) (k : Nat) (hk : k < t + r) : S.ws.getD (5 + k) 0 = want.getD k 0 := by
  have hl := h.len
  rw [h.ws, show fpre ++ headerOf 9 t r :: (want ++ fpost) = (fpre ++ [headerOf 9 t r]) ++ (want ++ fpost) by simp]
  rw [List.getD_eq_getElem?_getD, List.getElem?_append_right (by simp [fpre]), List.getElem?_append_left (by simp [fpre]; omega)]
  simp [fpre, List.getD_eq_getElem?_getD]
theorem FH.setAt (h : FH t r want S) (k : Nat) (hk : k < t + r) (x : Int) : FH t r (want.set k x) { S with ws := S.ws.set (5 + k) x } := by
  have hl := h.len
  refine ⟨?_, h.bs, by simpa using h.len⟩
  simp only
  rw [h.ws, show fpre ++ headerOf 9 t r :: (want ++ fpost) = (fpre ++ [headerOf 9 t r]) ++ (want ++ fpost) by simp]
  rw [List.set_append_right _ _ (by simp [fpre]), List.set_append_left _ _ (by simp [fpre]; omega)]
  simp [fpre]
theorem FH.set (h : FH t r want S) (ht : t < 8) (hr : r < 8) (k : Nat) (hk : k < t) (x : Int) (hx : x % 4 = 1) : S.setOk 16 k x = true ∧ FH t r (want.set k x) (S.set 16 k x) := by
  obtain ⟨h1, h2⟩ := h.tag16 ht hr
  have e : S.setOk 16 k x = true := by
    unfold HS.setOk HS.may mayB
    rw [h1]
    have : (0 : Int) ≤ (k : Int) ∧ (k : Int) < t := by omega
    simp [this, hx]
  refine ⟨e, ?_⟩
  unfold HS.set
  rw [if_pos e, (h.field k).1]
  exact h.setAt k (by omega) x
theorem FH.setRaw (h : FH t r want S) (ht : t < 8) (hr : r < 8) (k : Nat) (hk : t ≤ k) (hk2 : k < t + r) (x : Int) : S.setRawOk 16 ((k : Int) - t) = true ∧ FH t r (want.set k x) (S.setRaw 16 ((k : Int) - t) x) := by
  obtain ⟨h1, h2⟩ := h.tag16 ht hr
  have e : S.setRawOk 16 ((k : Int) - t) = true := by
    unfold HS.setRawOk
    rw [h2]
    simp; omega
  refine ⟨e, ?_⟩
  unfold HS.setRaw
  rw [if_pos e, h1, show fieldAt 16 t ((k : Int) - t) = 5 + k by unfold fieldAt; omega]
  exact h.setAt k (by omega) x
theorem FH.get (h : FH t r want S) (ht : t < 8) (hr : r < 8) (k : Nat) (hk : k < t) : S.get 16 k = (want.getD k 0, true) := by
  obtain ⟨h1, h2⟩ := h.tag16 ht hr
  unfold HS.get
  rw [h1, if_pos (by omega), (h.field k).1, h.getD k (by omega)]
theorem FH.getRaw (h : FH t r want S) (ht : t < 8) (hr : r < 8) (k : Nat) (hk : t ≤ k) (hk2 : k < t + r) : S.getRaw 16 ((k : Int) - t) = (want.getD k 0, true) := by
  obtain ⟨h1, h2⟩ := h.tag16 ht hr
  unfold HS.getRaw
  rw [h2, if_pos (by omega), h1, show fieldAt 16 t ((k : Int) - t) = 5 + k by unfold fieldAt; omega, h.getD k (by omega)]
theorem FH.before (h : FH t r want S) : S.get 4 0 = (2, true) := by
  have hi : S.is 4 = true := by unfold HS.is isB; rw [h.bs]; simp [laid]
  have hh : S.head 4 = headerOf 3 1 1 := by
    unfold HS.head headOf
    unfold HS.is at hi
    rw [if_pos hi, h.ws]; rfl
  have ht : S.tag 4 = 1 := by unfold HS.tag; rw [hh]; decide
  unfold HS.get
  rw [ht, if_pos (by decide)]
  rw [h.ws]; rfl
theorem FH.atB (h : FH t r want S) (k : Nat) (hk : k < 3) : S.ws.getD (5 + (t + r) + k) 0 = fpost.getD k 0 := by
  have hl := h.len
  rw [h.ws, show fpre ++ headerOf 9 t r :: (want ++ fpost) = (fpre ++ [headerOf 9 t r] ++ want) ++ fpost by simp]
  rw [List.getD_eq_getElem?_getD, List.getElem?_append_right (by simp [fpre]; omega)]
  simp only [List.length_append, fpre, List.length_cons, List.length_nil, hl]
  rw [show 5 + (t + r) + k - (0 + 1 + 1 + 1 + 1 + (0 + 1) + (t + r)) = k by omega, ← List.getD_eq_getElem?_getD]
theorem FH.behind (h : FH t r want S) : S.getRaw (4 * (5 + ((t : Int) + r))) 0 = (0, true) ∧ S.kind (4 * (5 + ((t : Int) + r))) = 4 := by
  have hd : (4 * (5 + ((t : Int) + r)) / 4).toNat = 5 + (t + r) + 0 := by omega
  have hi : isB S.bs (4 * (5 + ((t : Int) + r))) = true := by
    unfold isB
    rw [hd, h.bs, List.getD_eq_getElem?_getD, List.getElem?_append_right (by simp [laid]; omega)]
    have : 5 + (t + r) + 0 - ([false] ++ laid 3 ++ laid (1 + t + r)).length = 0 := by simp [laid]; omega
    rw [this]
    simp [laid]
  have hh : S.head (4 * (5 + ((t : Int) + r))) = headerOf 4 1 1 := by
    unfold HS.head headOf
    rw [if_pos hi, hd, h.atB 0 (by decide)]; rfl
  have e1 : S.tag (4 * (5 + ((t : Int) + r))) = 1 := by unfold HS.tag; rw [hh]; decide
  have e2 : S.raw (4 * (5 + ((t : Int) + r))) = 1 := by unfold HS.raw; rw [hh]; decide
  have e3 : S.kind (4 * (5 + ((t : Int) + r))) = 4 := by unfold HS.kind; rw [hh]; decide
  refine ⟨?_, e3⟩
  unfold HS.getRaw
  rw [e2, if_pos (by decide), e1, show fieldAt (4 * (5 + ((t : Int) + r))) 1 0 = 5 + (t + r) + 2 by unfold fieldAt; omega, h.atB 2 (by decide)]
  rfl
end

/-- The heap as it is made. -/
theorem FH.start (t r : Nat) (ht : t < 8) (hr : r < 8) :
    (HS.new 60).room 3 1 1 = true ∧ ((HS.new 60).alloc 3 1 1).room 9 t r = true ∧ (((HS.new 60).alloc 3 1 1).alloc 9 t r).room 4 1 1 = true ∧
    4 * ((HS.new 60).ws.length : Int) = 4 ∧ 4 * (((HS.new 60).alloc 3 1 1).ws.length : Int) = 16 ∧ 4 * ((((HS.new 60).alloc 3 1 1).alloc 9 t r).ws.length : Int) = 4 * (5 + ((t : Int) + r)) ∧
    FH t r (List.replicate t 2 ++ List.replicate r 0) ((((HS.new 60).alloc 3 1 1).alloc 9 t r).alloc 4 1 1) := by
  have r1 : (HS.new 60).room 3 1 1 = true := by decide
  have w1 := alloc_ws r1
  have r2 : ((HS.new 60).alloc 3 1 1).room 9 t r = true := by
    rw [w1]; unfold HS.room
    simp [HS.new, objWords]; omega
  have w2 := alloc_ws r2
  have r3 : (((HS.new 60).alloc 3 1 1).alloc 9 t r).room 4 1 1 = true := by
    rw [w2, w1]; unfold HS.room
    simp [HS.new, objWords]; omega
  have w3 := alloc_ws r3
  refine ⟨r1, r2, r3, by decide, by rw [w1]; decide, ?_, ?_, ?_, ?_⟩
  · rw [w2, w1]; simp [HS.new, objWords]; omega
  · rw [w3, w2, w1]
    simp [HS.new, objWords, fpre, fpost]
  · rw [w3, w2, w1]
    simp [HS.new]
  · simp
end Go.Proofs.Ythkodbmijgehbaa
