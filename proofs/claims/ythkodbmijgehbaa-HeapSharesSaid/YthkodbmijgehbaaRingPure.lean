/- The ring that HeapShares lays, plainly. -/
import Derived.Test.YthkodbmijgehbaaGcOnly
namespace Go.Proofs.Ythkodbmijgehbaa
open Go.RowKit

structure Ring (n i m : Nat) (S : HS) : Prop where
  size : S.size = 300
  times : S.times = 0
  len : S.ws.length = 1 + 7 * i
  blen : S.bs.length = 1 + 7 * i
  bs : ∀ q : Nat, S.bs[q]? = some true ↔ ∃ j, j < i ∧ (q = 1 + 7 * j ∨ q = 5 + 7 * j)
  hr : ∀ j, j < i → S.ws.getD (5 + 7 * j) 0 = headerOf 1 1 1
  raw : ∀ j, j < i → S.ws.getD (7 + 7 * j) 0 = (j : Int) + 100
  tag : ∀ j, j < i → S.ws.getD (6 + 7 * j) 0 = if j < m then 4 * (5 + 7 * (((j + 1) % n : Nat) : Int)) else 2

theorem Ring.new (n : Nat) : Ring n 0 0 (HS.new 300) := by
  refine ⟨rfl, rfl, rfl, rfl, ?_, fun j h => by omega, fun j h => by omega, fun j h => by omega⟩
  intro q
  constructor
  · intro h
    rcases q with _ | q <;> simp [HS.new] at h
  · rintro ⟨j, h, _⟩; omega

theorem place_is {S : HS} {k : Nat} (h : S.bs[k]? = some true) : S.is (4 * (k : Int)) = true := isB_place.2 h
theorem place_head {S : HS} {k : Nat} (h : S.bs[k]? = some true) : S.head (4 * (k : Int)) = S.ws.getD k 0 := by
  unfold HS.head headOf
  rw [if_pos (isB_place.2 h), show (4 * (k : Int) / 4).toNat = k by omega]
theorem ring_head : tagH (headerOf 1 1 1) = 1 ∧ rawH (headerOf 1 1 1) = 1 := by decide

/-- One more thing of the ring is laid, behind one that nobody holds. -/
theorem Ring.more {n i : Nat} {S : HS} (h : Ring n i 0 S) (hi : i < 30) :
    S.room 5 1 2 = true ∧ (S.alloc 5 1 2).room 1 1 1 = true ∧ (S.alloc 5 1 2).ws.length = 5 + 7 * i ∧ ((S.alloc 5 1 2).alloc 1 1 1).setRawOk (4 * ((5 + 7 * i : Nat) : Int)) 0 = true ∧
    Ring n (i + 1) 0 (((S.alloc 5 1 2).alloc 1 1 1).setRaw (4 * ((5 + 7 * i : Nat) : Int)) 0 ((i : Int) + 100)) := by
  have hl := h.len
  have hs := h.size
  have hb := h.blen
  have r1 : S.room 5 1 2 = true := by unfold HS.room; simp; omega
  have e1 := alloc_ws r1
  have l1 : (S.alloc 5 1 2).ws.length = 5 + 7 * i := by rw [e1]; simp [objWords, hl]; omega
  have r2 : (S.alloc 5 1 2).room 1 1 1 = true := by
    unfold HS.room; rw [l1]; rw [e1]; simp; omega
  have e2 := alloc_ws r2
  have hbs1 : ∀ q : Nat, (S.alloc 5 1 2).bs[q]? = some true ↔ S.bs[q]? = some true ∨ q = 1 + 7 * i := by
    intro q; rw [e1]; simp only; rw [← hb]; exact laid_at _ _ _
  have hbl1 : (S.alloc 5 1 2).bs.length = 5 + 7 * i := by rw [e1]; simp [laid, hb]; omega
  have hbs2 : ∀ q : Nat, ((S.alloc 5 1 2).alloc 1 1 1).bs[q]? = some true ↔ (S.bs[q]? = some true ∨ q = 1 + 7 * i) ∨ q = 5 + 7 * i := by
    intro q; rw [e2]; simp only; rw [← hbs1, ← hbl1]; exact laid_at _ _ _
  have ews : ((S.alloc 5 1 2).alloc 1 1 1).ws = S.ws ++ [headerOf 5 1 2, 2, 0, 0, headerOf 1 1 1, 2, 0] := by
    rw [e2, e1]; simp [objWords, List.replicate]
  have his : ((S.alloc 5 1 2).alloc 1 1 1).bs[5 + 7 * i]? = some true := (hbs2 _).2 (.inr rfl)
  have hhd : ((S.alloc 5 1 2).alloc 1 1 1).ws.getD (5 + 7 * i) 0 = headerOf 1 1 1 := by
    rw [ews, show 5 + 7 * i = S.ws.length + 4 by omega, getD_app_right]; rfl
  have htag : ((S.alloc 5 1 2).alloc 1 1 1).tag (4 * ((5 + 7 * i : Nat) : Int)) = 1 := by
    unfold HS.tag; rw [place_head his, hhd]; exact ring_head.1
  have hraw : ((S.alloc 5 1 2).alloc 1 1 1).raw (4 * ((5 + 7 * i : Nat) : Int)) = 1 := by
    unfold HS.raw; rw [place_head his, hhd]; exact ring_head.2
  have hok : ((S.alloc 5 1 2).alloc 1 1 1).setRawOk (4 * ((5 + 7 * i : Nat) : Int)) 0 = true := by
    unfold HS.setRawOk; rw [hraw]; rfl
  have hf : fieldAt (4 * ((5 + 7 * i : Nat) : Int)) (((S.alloc 5 1 2).alloc 1 1 1).tag (4 * ((5 + 7 * i : Nat) : Int))) 0 = 7 + 7 * i := by
    rw [htag]; unfold fieldAt; omega
  have e3 : (((S.alloc 5 1 2).alloc 1 1 1).setRaw (4 * ((5 + 7 * i : Nat) : Int)) 0 ((i : Int) + 100)) = { ((S.alloc 5 1 2).alloc 1 1 1) with ws := S.ws ++ [headerOf 5 1 2, 2, 0, 0, headerOf 1 1 1, 2, (i : Int) + 100] } := by
    unfold HS.setRaw; rw [if_pos hok, hf, ews, show 7 + 7 * i = S.ws.length + 6 by omega, List.set_append_right _ _ (by omega)]
    simp
  refine ⟨r1, r2, l1, hok, ?_⟩
  rw [e3]
  have hold : ∀ q, q < 1 + 7 * i → (S.ws ++ [headerOf 5 1 2, 2, 0, 0, headerOf 1 1 1, 2, (i : Int) + 100]).getD q 0 = S.ws.getD q 0 := fun q hq => getD_app_left (by omega)
  refine ⟨?_, ?_, ?_, ?_, ?_, ?_, ?_, ?_⟩
  · rw [e2, e1]; exact hs
  · rw [e2, e1]; exact h.times
  · simp [hl]; omega
  · rw [e2]; simp only [List.length_append, hbl1]; simp [laid]; omega
  · intro q
    rw [hbs2, h.bs]
    constructor
    · rintro ((⟨j, hj, hq⟩ | rfl) | rfl)
      · exact ⟨j, by omega, hq⟩
      · exact ⟨i, by omega, .inl rfl⟩
      · exact ⟨i, by omega, .inr rfl⟩
    · rintro ⟨j, hj, hq⟩
      by_cases e : j = i
      · subst e
        rcases hq with rfl | rfl
        · exact .inl (.inr rfl)
        · exact .inr rfl
      · exact .inl (.inl ⟨j, by omega, hq⟩)
  · intro j hj
    by_cases e : j = i
    · subst e; simp only; rw [show 5 + 7 * j = S.ws.length + 4 by omega, getD_app_right]; rfl
    · simp only; rw [hold _ (by omega)]; exact h.hr j (by omega)
  · intro j hj
    by_cases e : j = i
    · subst e; simp only; rw [show 7 + 7 * j = S.ws.length + 6 by omega, getD_app_right]; rfl
    · simp only; rw [hold _ (by omega)]; exact h.raw j (by omega)
  · intro j hj
    by_cases e : j = i
    · subst e; simp only; rw [show 6 + 7 * j = S.ws.length + 5 by omega, getD_app_right, if_neg (by omega)]; rfl
    · simp only; rw [hold _ (by omega)]; exact h.tag j (by omega)

/-- One more is linked. -/
theorem Ring.link {n m : Nat} {S : HS} (h : Ring n n m S) (hm : m < n) :
    S.setOk (4 * ((5 + 7 * m : Nat) : Int)) 0 (4 * ((5 + 7 * ((m + 1) % n) : Nat) : Int)) = true ∧ Ring n n (m + 1) (S.set (4 * ((5 + 7 * m : Nat) : Int)) 0 (4 * ((5 + 7 * ((m + 1) % n) : Nat) : Int))) := by
  have hmod : (m + 1) % n < n := Nat.mod_lt _ (by omega)
  have hl := h.len
  have hb1 : S.bs[5 + 7 * m]? = some true := (h.bs _).2 ⟨m, hm, .inr rfl⟩
  have hb2 : S.bs[5 + 7 * ((m + 1) % n)]? = some true := (h.bs _).2 ⟨_, hmod, .inr rfl⟩
  have htag : S.tag (4 * ((5 + 7 * m : Nat) : Int)) = 1 := by
    unfold HS.tag; rw [place_head hb1, h.hr m hm]; exact ring_head.1
  have hok : S.setOk (4 * ((5 + 7 * m : Nat) : Int)) 0 (4 * ((5 + 7 * ((m + 1) % n) : Nat) : Int)) = true := by
    unfold HS.setOk HS.may mayB
    rw [htag, isB_place.2 hb2]; simp
  refine ⟨hok, ?_⟩
  have hf : fieldAt (4 * ((5 + 7 * m : Nat) : Int)) 0 0 = 6 + 7 * m := by unfold fieldAt; omega
  have e3 : S.set (4 * ((5 + 7 * m : Nat) : Int)) 0 (4 * ((5 + 7 * ((m + 1) % n) : Nat) : Int)) = { S with ws := S.ws.set (6 + 7 * m) (4 * ((5 + 7 * ((m + 1) % n) : Nat) : Int)) } := by
    unfold HS.set; rw [if_pos hok, hf]
  rw [e3]
  refine ⟨h.size, h.times, by simpa using hl, h.blen, h.bs, ?_, ?_, ?_⟩
  · intro j hj; simp only; rw [getD_set_ne (by omega)]; exact h.hr j hj
  · intro j hj; simp only; rw [getD_set_ne (by omega)]; exact h.raw j hj
  · intro j hj
    simp only
    by_cases e : j = m
    · subst e; rw [getD_set_eq (by omega), if_pos (by omega)]; omega
    · rw [getD_set_ne (by omega), h.tag j hj]
      by_cases e2 : j < m
      · rw [if_pos e2, if_pos (by omega)]
      · rw [if_neg e2, if_neg (by omega)]
end Go.Proofs.Ythkodbmijgehbaa
