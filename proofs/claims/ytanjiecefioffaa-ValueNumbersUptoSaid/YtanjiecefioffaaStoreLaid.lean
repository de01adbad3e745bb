/- What lay and raw lay, field by field. -/
import Derived.Test.YtanjiecefioffaaRowWords
import Derived.Test.YtanjiecefioffaaGcInv
namespace Go.Proofs.Ytanjiecefioffaa
open Go.RowKit

/-- An object with tagged fields (t: how many; r: how many raw ones); its first i fields are set, from behind a of them. -/
def HS.part (S : HS) (kind : Int) (t r : Nat) (z : Int) (xs : List Int) (i : Nat) : HS :=
  { S with ws := S.ws ++ (headerOf kind t r :: (xs.take i ++ List.replicate (t + r - i) z)), bs := S.bs ++ laid (1 + t + r) }

theorem part_zero {S : HS} {kind : Int} {n : Nat} (hr : S.room kind n 0 = true) (xs : List Int) : S.alloc kind n 0 = S.part kind n 0 2 xs 0 := by
  rw [alloc_ws hr]
  unfold HS.part objWords
  simp
theorem part_zeroR {S : HS} {kind : Int} {n : Nat} (hr : S.room kind 0 n = true) (xs : List Int) : S.alloc kind 0 n = S.part kind 0 n 0 xs 0 := by
  rw [alloc_ws hr]
  unfold HS.part objWords
  simp
theorem part_ws (S : HS) (kind : Int) (t r : Nat) (z : Int) (xs : List Int) (i : Nat) : (S.part kind t r z xs i).ws.getD S.ws.length 0 = headerOf kind t r := by
  unfold HS.part
  simp only
  rw [show S.ws.length = S.ws.length + 0 from rfl, getD_app_right]
  rfl
theorem part_is {S : HS} (hl : S.bs.length = S.ws.length) (kind : Int) (t r : Nat) (z : Int) (xs : List Int) (i : Nat) : (S.part kind t r z xs i).is (4 * (S.ws.length : Int)) = true := by
  unfold HS.is HS.part
  rw [isB_iff]
  refine ⟨by omega, ?_⟩
  rw [show (4 * (S.ws.length : Int) / 4).toNat = S.bs.length by omega, List.getElem?_append_right (Nat.le_refl _), Nat.sub_self]
  rfl
theorem part_head {S : HS} (hl : S.bs.length = S.ws.length) (kind : Int) (t r : Nat) (z : Int) (xs : List Int) (i : Nat) : (S.part kind t r z xs i).head (4 * (S.ws.length : Int)) = headerOf kind t r := by
  have h := part_is hl kind t r z xs i
  unfold HS.head headOf
  unfold HS.is at h
  rw [if_pos h, show (4 * (S.ws.length : Int) / 4).toNat = S.ws.length by omega]
  exact part_ws S kind t r z xs i
theorem header_tag {kind : Int} {t r : Nat} (h0 : 1 ≤ kind) (h1 : kind ≤ 63) (ht : t ≤ 1048576) (hr : r ≤ 1048576) : tagH (headerOf kind t r) = t ∧ rawH (headerOf kind t r) = r ∧ kindH (headerOf kind t r) = kind := by
  unfold tagH rawH kindH headerOf; omega
theorem set_part (A : List Int) (h z x : Int) (xs : List Int) (n i : Nat) (hi : i < n) (hx : xs[i]? = some x) :
    (A ++ (h :: (xs.take i ++ List.replicate (n - i) z))).set (A.length + 1 + i) x = A ++ (h :: (xs.take (i + 1) ++ List.replicate (n - (i + 1)) z)) := by
  have hil := (List.getElem?_eq_some_iff.1 hx).1
  rw [List.set_append_right _ _ (by omega), show A.length + 1 + i - A.length = i + 1 by omega, List.set_cons_succ, List.set_append_right _ _ (by rw [List.length_take]; omega)]
  congr 2
  rw [List.length_take, Nat.min_eq_left (by omega), Nat.sub_self, show n - i = (n - (i + 1)) + 1 by omega, List.replicate_succ, List.set_cons_zero, List.take_add_one, hx]
  simp
/-- A tagged field is set. -/
theorem part_set {S : HS} (hl : S.bs.length = S.ws.length) {kind : Int} {n : Nat} (hr : S.room kind n 0 = true) {xs : List Int} {i : Nat} {x : Int} (hi : i < n) (hx : xs[i]? = some x) (hm : S.may x = true) :
    (S.part kind n 0 2 xs i).setOk (4 * (S.ws.length : Int)) i x = true ∧ (S.part kind n 0 2 xs i).set (4 * (S.ws.length : Int)) i x = S.part kind n 0 2 xs (i + 1) := by
  obtain ⟨a, b, c, d, e, f, g⟩ := room_bd hr
  have htg : (S.part kind n 0 2 xs i).tag (4 * (S.ws.length : Int)) = n := by
    unfold HS.tag; rw [part_head hl]; exact (header_tag a b (by omega) (by omega)).1
  have hmay : (S.part kind n 0 2 xs i).may x = true := by
    unfold HS.may mayB at *
    simp only [Bool.or_eq_true, decide_eq_true_eq] at *
    rcases hm with h1 | h1
    · exact .inl h1
    · right
      have h2 := isB_iff.1 h1
      refine isB_iff.2 ⟨h2.1, ?_⟩
      unfold HS.part
      simp only
      rw [List.getElem?_append_left (List.getElem?_eq_some_iff.1 h2.2).1]; exact h2.2
  have hok : (S.part kind n 0 2 xs i).setOk (4 * (S.ws.length : Int)) i x = true := by
    unfold HS.setOk; rw [htg, hmay]; simp; omega
  refine ⟨hok, ?_⟩
  unfold HS.set
  rw [if_pos hok]
  have hf : fieldAt (4 * (S.ws.length : Int)) 0 i = S.ws.length + 1 + i := by unfold fieldAt; omega
  rw [hf]
  unfold HS.part
  simp only [Nat.add_zero]
  rw [set_part S.ws _ 2 x xs n i hi hx]
/-- A raw field is set. -/
theorem part_setR {S : HS} (hl : S.bs.length = S.ws.length) {kind : Int} {n : Nat} (hr : S.room kind 0 n = true) {xs : List Int} {i : Nat} {x : Int} (hi : i < n) (hx : xs[i]? = some x) :
    (S.part kind 0 n 0 xs i).setRawOk (4 * (S.ws.length : Int)) i = true ∧ (S.part kind 0 n 0 xs i).setRaw (4 * (S.ws.length : Int)) i x = S.part kind 0 n 0 xs (i + 1) := by
  obtain ⟨a, b, c, d, e, f, g⟩ := room_bd hr
  have htg := header_tag (kind := kind) (t := 0) (r := n) a b (by omega) (by omega)
  have hraw : (S.part kind 0 n 0 xs i).raw (4 * (S.ws.length : Int)) = n := by
    unfold HS.raw; rw [part_head hl]; exact htg.2.1
  have htag : (S.part kind 0 n 0 xs i).tag (4 * (S.ws.length : Int)) = 0 := by
    unfold HS.tag; rw [part_head hl]; exact htg.1
  have hok : (S.part kind 0 n 0 xs i).setRawOk (4 * (S.ws.length : Int)) i = true := by
    unfold HS.setRawOk; rw [hraw]; simp; omega
  refine ⟨hok, ?_⟩
  unfold HS.setRaw
  rw [if_pos hok, htag]
  have hf : fieldAt (4 * (S.ws.length : Int)) 0 i = S.ws.length + 1 + i := by unfold fieldAt; omega
  rw [hf]
  unfold HS.part
  simp only [Nat.zero_add]
  rw [set_part S.ws _ 0 x xs n i hi hx]
end Go.Proofs.Ytanjiecefioffaa
