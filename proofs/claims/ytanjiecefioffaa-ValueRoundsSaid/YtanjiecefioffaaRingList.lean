/- A ring and the list (5 5 5), compared, plainly. -/
import Derived.Test.YtanjiecefioffaaRingWalk4
namespace Go.Proofs.Ytanjiecefioffaa
open Go.RowKit

theorem list3_ws (S : HS) : (S.chain 10 [5, 5, 5]).1.ws = S.ws ++ [headerOf 1 2 0, 5, 10, headerOf 1 2 0, 5, 4 * ((S.ws.length + 3 * 0 : Nat) : Int), headerOf 1 2 0, 5, 4 * ((S.ws.length + 3 * 1 : Nat) : Int)] := by
  unfold HS.chain HS.chain HS.chain HS.chain HS.cons HS.part
  simp
theorem list3_bs (S : HS) : (S.chain 10 [5, 5, 5]).1.bs = S.bs ++ [true, false, false, true, false, false, true, false, false] := by
  unfold HS.chain HS.chain HS.chain HS.chain HS.cons HS.part
  simp [laid]
theorem list3_snd (S : HS) : (S.chain 10 [5, 5, 5]).2 = 4 * ((S.ws.length + 3 * 2 : Nat) : Int) := by
  unfold HS.chain HS.chain HS.chain HS.chain HS.cons HS.part
  simp
theorem list3_ext (S : HS) : Ext S (S.chain 10 [5, 5, 5]).1 := ⟨⟨_, list3_ws S⟩, ⟨_, list3_bs S⟩⟩
theorem list3_head {S : HS} (hl : S.bs.length = S.ws.length) (j : Nat) (hj : j < 3) : (S.chain 10 [5, 5, 5]).1.head (4 * ((S.ws.length + 3 * j : Nat) : Int)) = headerOf 1 2 0 := by
  have e4 : (4 * ((S.ws.length + 3 * j : Nat) : Int) / 4).toNat = S.ws.length + 3 * j := by omega
  have his : (S.chain 10 [5, 5, 5]).1.is (4 * ((S.ws.length + 3 * j : Nat) : Int)) = true := by
    refine is_iff.2 ⟨by omega, ?_⟩
    rw [e4, list3_bs, List.getElem?_append_right (by omega), hl, Nat.add_sub_cancel_left]
    rcases j with _ | _ | _ | j
    · rfl
    · rfl
    · rfl
    · omega
  rw [is_head his, e4, list3_ws, getD_app_right]
  rcases j with _ | _ | _ | j
  · rfl
  · rfl
  · rfl
  · omega
theorem list3_get {S : HS} (hl : S.bs.length = S.ws.length) (j : Nat) (hj : j < 3) : (S.chain 10 [5, 5, 5]).1.getAt (4 * ((S.ws.length + 3 * j : Nat) : Int)) 0 = 5 ∧
    (S.chain 10 [5, 5, 5]).1.getAt (4 * ((S.ws.length + 3 * j : Nat) : Int)) 1 = if j = 0 then 10 else 4 * ((S.ws.length + 3 * (j - 1) : Nat) : Int) := by
  obtain ⟨g1, g2⟩ := get_field (list3_head hl j hj) (by omega)
  have e4 : (4 * ((S.ws.length + 3 * j : Nat) : Int) / 4).toNat = S.ws.length + 3 * j := by omega
  rw [g1, g2, e4, list3_ws, Nat.add_assoc, Nat.add_assoc, getD_app_right, getD_app_right]
  rcases j with _ | _ | _ | j
  · exact ⟨rfl, rfl⟩
  · exact ⟨rfl, rfl⟩
  · exact ⟨rfl, rfl⟩
  · omega
theorem ten_none (S : HS) : S.shape 10 1 2 0 = false ∧ S.head 10 = 0 := by
  have hh : S.head 10 = 0 := by
    unfold HS.head headOf
    rw [if_neg]
    intro h
    have := (is_iff.1 (show S.is 10 = true from h)).1
    omega
  refine ⟨?_, hh⟩
  unfold HS.shape HS.kind
  rw [hh]; rfl
theorem parts_ten {S : HS} {x : Int} (hx : S.head x = headerOf 1 2 0) (h : x ≠ 10) : S.parts x 10 = none := by
  obtain ⟨sx, tx, kx⟩ := pair_is hx
  obtain ⟨_, ox, _⟩ := pair_word sx
  unfold HS.parts
  rw [if_neg (by rw [pair_noneq hx h]; simp), if_neg (by rw [ox]; simp), if_neg]
  unfold HS.kin
  rw [(ten_none S).1]
  have : S.shape x 2 (-1) 0 = false := by unfold HS.shape; rw [kx]; rfl
  rw [this]
  simp
theorem ring_list {S : HS} {P : Nat → Int} {n : Nat} (hw : WfH S.ws S.bs) (h : RingIn S P n) (i : Nat) (hi : i < n) : (S.chain 10 [5, 5, 5]).1.equal (P i) (4 * ((S.ws.length + 3 * 2 : Nat) : Int)) = (false, true) := by
  have hR := h.ext (list3_ext S) hw
  have hlt : ∀ k, k < n → P k < 4 * (S.ws.length : Int) ∧ P k % 4 = 0 := by
    intro k hk
    have h1 := is_lt hw (h.is k hk).1
    have h2 := (is_iff.1 (h.is k hk).1).1
    have h3 := (h.is k hk).2.1
    omega
  have step : ∀ (f k j : Nat), k < n → j < 3 → (S.chain 10 [5, 5, 5]).1.eqRun (f + 2) [(P k, 4 * ((S.ws.length + 3 * j : Nat) : Int))] = (S.chain 10 [5, 5, 5]).1.eqRun f [(P ((k + 1) % n), if j = 0 then 10 else 4 * ((S.ws.length + 3 * (j - 1) : Nat) : Int))] := by
    intro f k j hk hj
    have h1 := hlt k hk
    have h0 := (hR.is k hk).2.1
    rw [run_two f _ _ (hR.head k hk) (list3_head hw.len j hj) (by omega) (by rw [(get_field (hR.head k hk) h0).1, hR.car k hk]) (list3_get hw.len j hj).1]
    rw [(get_field (hR.head k hk) h0).2, hR.cdr k hk, (list3_get hw.len j hj).2]
  have hm := fun k => Nat.mod_lt k h.pos
  unfold HS.equal
  rw [show (20000 : Nat) = 19994 + 2 + 2 + 2 from rfl, step _ i 2 hi (by omega), if_neg (by omega), step _ _ 1 (hm _) (by omega), if_neg (by omega), step _ _ 0 (hm _) (by omega), if_pos rfl]
  obtain ⟨kk, hkk⟩ : ∃ kk, (((i + 1) % n + 1) % n + 1) % n = kk := ⟨_, rfl⟩
  have hkn : kk < n := by rw [← hkk]; exact hm _
  rw [hkk]
  conv => lhs; unfold HS.eqRun
  rw [dif_neg (by simp)]
  have hp := parts_ten (hR.head kk hkn) (by have := hlt kk hkn; omega)
  simp [hp]
end Go.Proofs.Ytanjiecefioffaa
