/- A collection, plainly: what holds while it goes. -/
import Derived.Test.YtanjiecefioffaaGcPure
namespace Go.Proofs.Ytanjiecefioffaa
open Go.RowKit

/-! ### Sums over places -/
def sumO (p : Nat → Bool) (f : Nat → Nat) : Nat → Nat
  | 0 => 0
  | m + 1 => sumO p f m + if p m = true then f m else 0
theorem sumO_congr {p q : Nat → Bool} {f : Nat → Nat} {m : Nat} (h : ∀ k, k < m → p k = q k) : sumO p f m = sumO q f m := by
  induction m with
  | zero => rfl
  | succ m ih => simp only [sumO]; rw [ih (fun k hk => h k (by omega)), h m (by omega)]
theorem sumO_mono {p q : Nat → Bool} {f : Nat → Nat} {m : Nat} (h : ∀ k, k < m → p k = true → q k = true) : sumO p f m ≤ sumO q f m := by
  induction m with
  | zero => exact Nat.le_refl _
  | succ m ih =>
    have h1 := ih (fun k hk => h k (by omega))
    simp only [sumO]
    cases hp : p m with
    | false => simp; split <;> omega
    | true => rw [h m (by omega) hp]; simp; exact h1
theorem sumO_set {p q : Nat → Bool} {f : Nat → Nat} {m k : Nat} (hk : k < m) (h0 : p k = false) (h1 : q k = true) (h : ∀ j, j ≠ k → q j = p j) : sumO q f m = sumO p f m + f k := by
  induction m with
  | zero => omega
  | succ m ih =>
    simp only [sumO]
    by_cases e : k = m
    · subst e
      rw [h0, h1, sumO_congr (p := q) (q := p) (fun j hj => h j (by omega))]
      simp
    · rw [ih (by omega), h m (by omega)]
      omega

/-- All objects together are no longer than what is used. -/
theorem sum_le {ws : List Int} {bs : List Bool} (h : WfH ws bs) (m : Nat) : ∀ E, 1 ≤ E → (∀ k, k < m → bs[k]? = some true → k + sizeAt ws k ≤ E) → sumO (fun k => bs.getD k false) (sizeAt ws) m + 1 ≤ E := by
  induction m with
  | zero => intro E hE _; simp only [sumO]; omega
  | succ m ih =>
    intro E hE hk
    simp only [sumO]
    by_cases hb : bs.getD m false = true
    · have hm : bs[m]? = some true := by
        rw [List.getD_eq_getElem?_getD] at hb
        cases e : bs[m]? with
        | none => rw [e] at hb; cases hb
        | some b => rw [e] at hb; simp at hb; rw [hb]
      have hm1 : 1 ≤ m := by
        rcases Nat.eq_zero_or_pos m with e | e
        · subst e; rw [h.zero.1] at hm; cases hm
        · exact e
      have h1 := ih m hm1 (fun k hk' hb' => by have := h.apart k m hb' hm hk'; unfold sizeAt; omega)
      have h2 := hk m (by omega) hm
      rw [if_pos hb]; omega
    · rw [if_neg hb]; exact ih E hE (fun k hk' => hk k (by omega))
theorem sum_all {ws : List Int} {bs : List Bool} (h : WfH ws bs) : sumO (fun k => bs.getD k false) (sizeAt ws) ws.length + 1 ≤ ws.length :=
  sum_le h ws.length ws.length h.pos fun k _ hb => by have := h.fits k hb; unfold sizeAt; omega

theorem getD_true {bs : List Bool} {k : Nat} : bs.getD k false = true ↔ bs[k]? = some true := by
  rw [List.getD_eq_getElem?_getD]
  cases bs[k]? with
  | none => simp
  | some b => simp
theorem isB_iff {bs : List Bool} {w : Int} : isB bs w = true ↔ w % 4 = 0 ∧ bs[(w / 4).toNat]? = some true := by
  unfold isB; rw [Bool.and_eq_true, decide_eq_true_eq, getD_true]
theorem isB_place {bs : List Bool} {j : Nat} : isB bs (4 * (j : Int)) = true ↔ bs[j]? = some true := by
  rw [isB_iff, show (4 * (j : Int) / 4).toNat = j by omega]
  exact ⟨fun h => h.2, fun h => ⟨by omega, h⟩⟩
theorem getD_app_left {l m : List Int} {k : Nat} (h : k < l.length) : (l ++ m).getD k 0 = l.getD k 0 := by
  rw [List.getD_eq_getElem?_getD, List.getElem?_append_left h, ← List.getD_eq_getElem?_getD]
theorem getD_app_right {l m : List Int} {k : Nat} : (l ++ m).getD (l.length + k) 0 = m.getD k 0 := by
  rw [List.getD_eq_getElem?_getD, List.getElem?_append_right (by omega), Nat.add_sub_cancel_left, ← List.getD_eq_getElem?_getD]
theorem getD_set_ne {l : List Int} {j k : Nat} {v : Int} (h : j ≠ k) : (l.set j v).getD k 0 = l.getD k 0 := by
  rw [List.getD_eq_getElem?_getD, List.getElem?_set_ne h, ← List.getD_eq_getElem?_getD]
theorem getD_set_eq {l : List Int} {j : Nat} {v : Int} (h : j < l.length) : (l.set j v).getD j 0 = v := by
  rw [List.getD_eq_getElem?_getD, List.getElem?_set_self h]; rfl
theorem getD_piece {l : List Int} {k n i : Nat} (h : i < n) : ((l.drop k).take n).getD i 0 = l.getD (k + i) 0 := by
  rw [List.getD_eq_getElem?_getD, List.getElem?_take, if_pos h, List.getElem?_drop, ← List.getD_eq_getElem?_getD]

/-- An object's words laid behind. -/
theorem wf_append {ws : List Int} {bs : List Bool} (h : WfH ws bs) {xs : List Int} (hl : xs.length = sizeAt xs 0) (hu : ∀ x ∈ xs, 0 ≤ x ∧ x < 18446744073709551616)
    (hh : xs.getD 0 0 % 4 = 3 ∧ 1 ≤ kindH (xs.getD 0 0) ∧ xs.getD 0 0 < 72057594037927936) : WfH (ws ++ xs) (bs ++ laid xs.length) := by
  have hp : 0 < xs.length := by rw [hl]; unfold sizeAt; omega
  have hll := laid_len xs.length hp
  have hold : ∀ q, q < ws.length → (ws ++ xs).getD q 0 = ws.getD q 0 := fun q hq => getD_app_left hq
  have hnew : (ws ++ xs).getD ws.length 0 = xs.getD 0 0 := by have := getD_app_right (l := ws) (m := xs) (k := 0); simpa using this
  have hlt : ∀ q, bs[q]? = some true → q < ws.length := by
    intro q hq
    have := (List.getElem?_eq_some_iff.1 hq).1
    have := h.len; omega
  have hpos := h.pos
  have hlen := h.len
  refine ⟨by rw [List.length_append, List.length_append, hll, h.len], by rw [List.length_append]; omega, ?_, ?_, ⟨?_, ?_⟩, ?_, ?_, ?_, ?_⟩
  · intro x hx
    rcases List.mem_append.1 hx with hx | hx
    · exact h.u x hx
    · exact hu x hx
  · intro q hq
    rw [List.length_append]
    rcases (laid_at _ _ _).1 hq with hq | rfl
    · rw [hold q (hlt q hq)]
      have := h.fits q hq; omega
    · rw [h.len, hnew]; unfold sizeAt at hl; omega
  · rw [List.getElem?_append_left (by omega)]; exact h.zero.1
  · rw [List.getElem?_append_left hpos]; exact h.zero.2
  · right
    rcases h.first with hf | hf
    · exact (laid_at _ _ _).2 (.inr (by omega))
    · exact (laid_at _ _ _).2 (.inl hf)
  · intro q hq
    rw [List.length_append]
    rcases (laid_at _ _ _).1 hq with hq | rfl
    · rw [hold q (hlt q hq)]
      right
      rcases h.next q hq with hn | hn
      · exact (laid_at _ _ _).2 (.inr (by omega))
      · exact (laid_at _ _ _).2 (.inl hn)
    · left; rw [h.len, hnew]; unfold sizeAt at hl; omega
  · intro q hq
    rcases (laid_at _ _ _).1 hq with hq | rfl
    · rw [hold q (hlt q hq)]; exact h.hdr q hq
    · rw [h.len, hnew]; exact hh
  · intro q j hq hj hqj
    rcases (laid_at _ _ _).1 hq with hq | rfl
    · rw [hold q (hlt q hq)]
      rcases (laid_at _ _ _).1 hj with hj | rfl
      · exact h.apart q j hq hj hqj
      · rw [h.len]; exact h.fits q hq
    · rcases (laid_at _ _ _).1 hj with hj | rfl
      · have := hlt j hj; have := h.len; omega
      · omega

/-! ### What holds while it goes -/
def CS.at_ (c : CS) (k : Nat) : Int := c.gone.getD k 0
def fwd (S : HS) (c : CS) (w : Int) : Int := if S.is w = true then c.at_ (w / 4).toNat else w
def Res (S : HS) (c : CS) (w : Int) : Prop := S.is w = true → c.at_ (w / 4).toNat ≠ 0
def tagAt (ws : List Int) (k : Nat) : Nat := (tagH (ws.getD k 0)).toNat
def rawAt (ws : List Int) (k : Nat) : Nat := (rawH (ws.getD k 0)).toNat

/-- An object at place j of the new half is the copy of that at place k; its tagged fields before place P are told anew. -/
structure Copied (S : HS) (c : CS) (P k j : Nat) : Prop where
  was : S.bs[k]? = some true
  now : c.tb[j]? = some true
  head : c.tw.getD j 0 = S.ws.getD k 0
  raws : ∀ i, tagAt S.ws k ≤ i → i < tagAt S.ws k + rawAt S.ws k → c.tw.getD (j + 1 + i) 0 = S.ws.getD (k + 1 + i) 0
  done : ∀ i, i < tagAt S.ws k → j + 1 + i < P → Res S c (S.ws.getD (k + 1 + i) 0) ∧ c.tw.getD (j + 1 + i) 0 = fwd S c (S.ws.getD (k + 1 + i) 0)
  todo : ∀ i, i < tagAt S.ws k → P ≤ j + 1 + i → c.tw.getD (j + 1 + i) 0 = S.ws.getD (k + 1 + i) 0

structure GcInv (S : HS) (c : CS) (P : Nat) : Prop where
  gone : c.gone.length = S.ws.length
  wf : WfH c.tw c.tb
  sum : c.tw.length = 1 + sumO (fun k => decide (c.at_ k ≠ 0)) (sizeAt S.ws) S.ws.length
  tgt : ∀ k, c.at_ k ≠ 0 → ∃ j : Nat, c.at_ k = 4 * j ∧ Copied S c P k j
  onto : ∀ j : Nat, c.tb[j]? = some true → ∃ k, c.at_ k = 4 * j
  inj : ∀ k k' : Nat, c.at_ k ≠ 0 → c.at_ k = c.at_ k' → k = k'
  front : P ≤ c.tw.length

theorem at_out {S : HS} {c : CS} (h : c.gone.length = S.ws.length) {k : Nat} (hk : S.ws.length ≤ k) : c.at_ k = 0 := by
  unfold CS.at_; rw [List.getD_eq_getElem?_getD, List.getElem?_eq_none (by omega)]; rfl

/-- There is room for what is not copied yet. -/
theorem GcInv.room {S : HS} {c : CS} {P : Nat} (h : GcInv S c P) (hw : WfH S.ws S.bs) {k : Nat} (hk : S.bs[k]? = some true) (h0 : c.at_ k = 0) : c.tw.length + sizeAt S.ws k ≤ S.ws.length := by
  have hkl : k < S.ws.length := by have := (List.getElem?_eq_some_iff.1 hk).1; have := hw.len; omega
  have h1 := sumO_set (p := fun q => decide (c.at_ q ≠ 0)) (q := fun q => decide (c.at_ q ≠ 0 ∨ q = k)) (f := sizeAt S.ws) (m := S.ws.length) (k := k) hkl (by simp [h0]) (by simp) (fun j hj => by simp [hj])
  have h2 := sumO_mono (p := fun q => decide (c.at_ q ≠ 0 ∨ q = k)) (q := fun q => S.bs.getD q false) (f := sizeAt S.ws) (m := S.ws.length) (fun q _ hp => by
    rw [decide_eq_true_eq] at hp
    rw [getD_true]
    rcases hp with hp | rfl
    · obtain ⟨j, _, hc⟩ := h.tgt q hp; exact hc.was
    · exact hk)
  have h3 := sum_all hw
  have h4 := h.sum
  omega
theorem GcInv.len {S : HS} {c : CS} {P : Nat} (h : GcInv S c P) (hw : WfH S.ws S.bs) : c.tw.length ≤ S.ws.length := by
  have h2 := sumO_mono (p := fun q => decide (c.at_ q ≠ 0)) (q := fun q => S.bs.getD q false) (f := sizeAt S.ws) (m := S.ws.length) (fun q _ hp => by
    rw [decide_eq_true_eq] at hp
    rw [getD_true]
    obtain ⟨j, _, hc⟩ := h.tgt q hp; exact hc.was)
  have h3 := sum_all hw
  have h4 := h.sum
  omega

theorem is_iff {S : HS} {w : Int} : S.is w = true ↔ w % 4 = 0 ∧ S.bs[(w / 4).toNat]? = some true := isB_iff

/-- The start. -/
theorem GcInv.zero {S : HS} (P : Nat) (hP : P ≤ 1) : GcInv S (CS.zero S) P := by
  have ha : ∀ k, (CS.zero S).at_ k = 0 := by
    intro k
    unfold CS.at_ CS.zero
    simp only [List.getD_eq_getElem?_getD, List.getElem?_replicate]
    split <;> rfl
  have hno : ∀ k : Nat, (CS.zero S).tb[k]? = some true → False := by
    intro k hk
    simp only [CS.zero] at hk
    rcases k with _ | k <;> simp at hk
  refine ⟨by simp [CS.zero], ⟨rfl, by simp [CS.zero], ?_, fun k hk => (hno k hk).elim, ⟨rfl, rfl⟩, .inl rfl, fun k hk => (hno k hk).elim, fun k hk => (hno k hk).elim, fun k _ hk => (hno k hk).elim⟩, ?_, fun k hk => absurd (ha k) hk, fun j hj => (hno j hj).elim, fun k _ hk => absurd (ha k) hk, by simpa [CS.zero] using hP⟩
  · intro x hx; simp [CS.zero] at hx; subst hx; decide
  · rw [sumO_congr (q := fun _ => false) (fun k _ => by simp [ha k])]
    have : ∀ m, sumO (fun _ => false) (sizeAt S.ws) m = 0 := by
      intro m; induction m with
      | zero => rfl
      | succ m ih => simp [sumO, ih]
    rw [this]; rfl
end Go.Proofs.Ytanjiecefioffaa
