/- value.Store: Take of a chain; rings, plainly. -/
import Derived.Test.YtanjiecefioffaaTakePair
import Derived.Test.YtanjiecefioffaaStoreEqual
import Derived.Test.YtanjiecefioffaaChainPure
import Derived.Test.YtanjiecefioffaaSymPure
namespace Go.Proofs.Ytanjiecefioffaa
open Go.RowKit

/-- A ring of pairs, each with 5 ahead. -/
structure RingIn (S : HS) (P : Nat → Int) (n : Nat) : Prop where
  pos : 0 < n
  is : ∀ k, k < n → S.is (P k) = true ∧ 0 ≤ P k ∧ P k < 18446744073709551616
  head : ∀ k, k < n → S.head (P k) = headerOf 1 2 0
  car : ∀ k, k < n → S.ws.getD ((P k / 4).toNat + 1) 0 = 5
  cdr : ∀ k, k < n → S.ws.getD ((P k / 4).toNat + 2) 0 = P ((k + 1) % n)
theorem pair_head : tagH (headerOf 1 2 0) = 2 ∧ rawH (headerOf 1 2 0) = 0 ∧ kindH (headerOf 1 2 0) = 1 := by decide
theorem pair_is {S : HS} {x : Int} (h : S.head x = headerOf 1 2 0) : S.shape x 1 2 0 = true ∧ S.tag x = 2 ∧ S.kind x = 1 := by
  obtain ⟨g1, g2, g3⟩ := pair_head
  have e1 : S.tag x = 2 := by unfold HS.tag; rw [h]; exact g1
  have e2 : S.raw x = 0 := by unfold HS.raw; rw [h]; exact g2
  have e3 : S.kind x = 1 := by unfold HS.kind; rw [h]; exact g3
  refine ⟨?_, e1, e3⟩
  unfold HS.shape
  rw [e1, e2, e3]; rfl
theorem get_field {S : HS} {x : Int} (h : S.head x = headerOf 1 2 0) (x0 : 0 ≤ x) : S.getAt x 0 = S.ws.getD ((x / 4).toNat + 1) 0 ∧ S.getAt x 1 = S.ws.getD ((x / 4).toNat + 2) 0 := by
  obtain ⟨_, e1, _⟩ := pair_is h
  unfold HS.getAt HS.get
  rw [if_pos (by rw [e1]; omega), if_pos (by rw [e1]; omega)]
  simp only
  rw [show fieldAt x 0 0 = (x / 4).toNat + 1 by unfold fieldAt; omega, show fieldAt x 0 1 = (x / 4).toNat + 2 by unfold fieldAt; omega]
  exact ⟨rfl, rfl⟩
theorem five (S : HS) : S.num 5 = some 1 := by unfold HS.num; rw [if_pos (by decide)]; rfl
theorem RingIn.chain {S : HS} {P : Nat → Int} {n : Nat} (h : RingIn S P n) (N : Nat) (s : Nat) : Chain S (fun k => P ((s + k) % n)) (fun _ => 1) N := by
  have hm := fun k => Nat.mod_lt k h.pos
  refine ⟨fun k _ => (h.is _ (hm _)).2, fun k _ => (pair_is (h.head _ (hm _))).1, fun k _ => ?_, fun k _ => ?_⟩
  · rw [(get_field (h.head _ (hm _)) (h.is _ (hm _)).2.1).1, h.car _ (hm _)]; exact five S
  · rw [(get_field (h.head _ (hm _)) (h.is _ (hm _)).2.1).2, h.cdr _ (hm _)]
    rw [← Nat.add_assoc, Nat.mod_add_mod]
theorem RingIn.ext {S S' : HS} {P : Nat → Int} {n : Nat} (h : RingIn S P n) (e : Ext S S') (hw : WfH S.ws S.bs) : RingIn S' P n := by
  have hlt : ∀ k, k < n → (P k / 4).toNat + 3 ≤ S.ws.length := by
    intro k hk
    have h1 := is_lt hw (h.is k hk).1
    obtain ⟨g1, g2, _⟩ := pair_head
    unfold HS.tag HS.raw at h1
    rw [h.head k hk, g1, g2] at h1
    omega
  refine ⟨h.pos, fun k hk => ⟨e.is (h.is k hk).1, (h.is k hk).2⟩, fun k hk => by rw [e.head hw (h.is k hk).1]; exact h.head k hk, fun k hk => ?_, fun k hk => ?_⟩
  · rw [e.at (by have := hlt k hk; omega)]; exact h.car k hk
  · rw [e.at (by have := hlt k hk; omega)]; exact h.cdr k hk
/-! ### Comparing -/
theorem pair_noneq {S : HS} {x y : Int} (hx : S.head x = headerOf 1 2 0) (h : x ≠ y) : S.eqv x y = false := by
  obtain ⟨nx, _⟩ := pair_word (pair_is hx).1
  unfold HS.eqv
  rw [nx, decide_eq_false h]; rfl
theorem parts_pairs {S : HS} {x y : Int} (hx : S.head x = headerOf 1 2 0) (hy : S.head y = headerOf 1 2 0) (h : x ≠ y) : S.parts x y = some [(S.getAt x 1, S.getAt y 1), (S.getAt x 0, S.getAt y 0)] := by
  obtain ⟨sx, tx, _⟩ := pair_is hx
  obtain ⟨sy, _, _⟩ := pair_is hy
  obtain ⟨_, ox, _⟩ := pair_word sx
  unfold HS.parts
  rw [if_neg (by rw [pair_noneq hx h]; simp), if_neg (by rw [ox]; simp), if_pos (by unfold HS.kin; rw [sx, sy]; rfl), tx]
  rfl
theorem parts_same (S : HS) (x : Int) : S.parts x x = some [] := by
  unfold HS.parts
  rw [if_pos (by unfold HS.eqv; simp)]
theorem run_two {S : HS} (f : Nat) (x y : Int) (hx : S.head x = headerOf 1 2 0) (hy : S.head y = headerOf 1 2 0) (h : x ≠ y) (h5 : S.getAt x 0 = 5) (h5' : S.getAt y 0 = 5) : S.eqRun (f + 2) [(x, y)] = S.eqRun f [(S.getAt x 1, S.getAt y 1)] := by
  have e1 : S.eqRun (f + 1 + 1) [(x, y)] = S.eqRun (f + 1) [(S.getAt x 1, S.getAt y 1), (S.getAt x 0, S.getAt y 0)] := by
    conv => lhs; unfold HS.eqRun
    rw [dif_neg (by simp)]
    simp [parts_pairs hx hy h]
  rw [e1, h5, h5']
  conv => lhs; unfold HS.eqRun
  rw [dif_neg (by simp)]
  simp [parts_same]
theorem rings_run {S : HS} {P Q : Nat → Int} {n m : Nat} (hP : RingIn S P n) (hQ : RingIn S Q m) (hne : ∀ i j, i < n → j < m → P i ≠ Q j) (f : Nat) : ∀ i j, i < n → j < m → S.eqRun (2 * f) [(P i, Q j)] = (false, false) := by
  induction f with
  | zero => intro i j _ _; unfold HS.eqRun; rw [if_neg (by simp)]
  | succ f ih =>
    intro i j hi hj
    rw [show 2 * (f + 1) = 2 * f + 2 by omega, run_two (2 * f) (P i) (Q j) (hP.head i hi) (hQ.head j hj) (hne i j hi hj) (by rw [(get_field (hP.head i hi) (hP.is i hi).2.1).1, hP.car i hi]) (by rw [(get_field (hQ.head j hj) (hQ.is j hj).2.1).1, hQ.car j hj])]
    rw [(get_field (hP.head i hi) (hP.is i hi).2.1).2, hP.cdr i hi, (get_field (hQ.head j hj) (hQ.is j hj).2.1).2, hQ.cdr j hj]
    exact ih _ _ (Nat.mod_lt _ hP.pos) (Nat.mod_lt _ hQ.pos)
theorem rings_equal {S : HS} {P Q : Nat → Int} {n m : Nat} (hP : RingIn S P n) (hQ : RingIn S Q m) (hne : ∀ i j, i < n → j < m → P i ≠ Q j) (i j : Nat) (hi : i < n) (hj : j < m) : S.equal (P i) (Q j) = (false, false) := by
  unfold HS.equal
  rw [show (20000 : Nat) = 2 * 10000 from rfl]
  exact rings_run hP hQ hne 10000 i j hi hj
theorem equal_self (S : HS) (x : Int) : S.equal x x = (true, true) := by
  unfold HS.equal
  rw [show (20000 : Nat) = 19999 + 1 from rfl]
  conv => lhs; unfold HS.eqRun
  rw [dif_neg (by simp)]
  have h1 : S.eqRun 19999 [] = (true, true) := by unfold HS.eqRun; rw [dif_pos rfl]
  simpa [parts_same] using h1
/-! ### A ring is made -/
theorem cons_ext (S : HS) (a b : Int) : Ext S (S.cons a b) := part_ext S 1 2 0 2 [a, b] 2
theorem cons_get {S : HS} (a b : Int) : (S.cons a b).ws.getD (S.ws.length + 1) 0 = a ∧ (S.cons a b).ws.getD (S.ws.length + 2) 0 = b := by
  unfold HS.cons HS.part
  simp only
  rw [getD_app_right, getD_app_right]
  exact ⟨rfl, rfl⟩
/-- So many pairs, each with 5 ahead and the one that was made ahead of it behind (the first: the empty list). -/
structure Links (S T : HS) (n : Nat) : Prop where
  len : T.ws.length = S.ws.length + 3 * n
  size : T.size = S.size
  ext : Ext S T
  is : ∀ j, j < n → T.is (4 * ((S.ws.length + 3 * j : Nat) : Int)) = true
  head : ∀ j, j < n → T.head (4 * ((S.ws.length + 3 * j : Nat) : Int)) = headerOf 1 2 0
  car : ∀ j, j < n → T.ws.getD (S.ws.length + 3 * j + 1) 0 = 5
  cdr : ∀ j, 0 < j → j < n → T.ws.getD (S.ws.length + 3 * j + 2) 0 = 4 * ((S.ws.length + 3 * (j - 1) : Nat) : Int)
theorem Links.start (S : HS) : Links S S 0 := ⟨rfl, rfl, Ext.refl S, fun _ h => by omega, fun _ h => by omega, fun _ h => by omega, fun _ _ h => by omega⟩
theorem Links.step {S T : HS} {n : Nat} (h : Links S T n) (hw : WfH T.ws T.bs) (x : Int) (hx : 0 < n → x = 4 * ((S.ws.length + 3 * (n - 1) : Nat) : Int)) : Links S (T.cons 5 x) (n + 1) := by
  have e := cons_ext T 5 x
  obtain ⟨c1, c2, _⟩ := cons_len T 5 x
  have hb : T.ws.length = S.ws.length + 3 * n := h.len
  have hp : 4 * (T.ws.length : Int) = 4 * ((S.ws.length + 3 * n : Nat) : Int) := by rw [hb]
  obtain ⟨g1, g2⟩ := cons_get (S := T) 5 x
  rw [hb] at g1 g2
  refine ⟨by rw [c1, hb]; omega, by rw [c2, h.size], h.ext.trans e, ?_, ?_, ?_, ?_⟩
  · intro j hj
    rcases Nat.lt_or_ge j n with hjn | hjn
    · exact e.is (h.is j hjn)
    · obtain rfl : j = n := by omega
      rw [← hp]
      exact part_is hw.len 1 2 0 2 [5, x] 2
  · intro j hj
    rcases Nat.lt_or_ge j n with hjn | hjn
    · rw [e.head hw (h.is j hjn)]; exact h.head j hjn
    · obtain rfl : j = n := by omega
      rw [← hp]
      exact part_head hw.len 1 2 0 2 [5, x] 2
  · intro j hj
    rcases Nat.lt_or_ge j n with hjn | hjn
    · rw [e.at (by omega)]; exact h.car j hjn
    · obtain rfl : j = n := by omega
      exact g1
  · intro j h0 hj
    rcases Nat.lt_or_ge j n with hjn | hjn
    · rw [e.at (by omega)]; exact h.cdr j h0 hjn
    · obtain rfl : j = n := by omega
      rw [g2]; exact hx h0
theorem getD_set (l : List Int) (i j : Nat) (x : Int) : (l.set i x).getD j 0 = if i = j ∧ j < l.length then x else l.getD j 0 := by
  rw [List.getD_eq_getElem?_getD, List.getD_eq_getElem?_getD, List.getElem?_set]
  by_cases h : i = j
  · subst h
    by_cases hl : i < l.length
    · simp [hl]
    · simp [hl]
  · simp [h]
theorem Links.ring {S T : HS} {n : Nat} (h : Links S T n) (hn : 0 < n) (hb : T.ws.length ≤ 1048576) (hm : T.may (4 * ((S.ws.length + 3 * (n - 1) : Nat) : Int)) = true) :
    RingIn (T.set (4 * (S.ws.length : Int)) 1 (4 * ((S.ws.length + 3 * (n - 1) : Nat) : Int))) (fun k => 4 * ((S.ws.length + 3 * (n - 1 - k) : Nat) : Int)) n := by
  have h0 : T.head (4 * (S.ws.length : Int)) = headerOf 1 2 0 := h.head 0 hn
  have ht : T.tag (4 * (S.ws.length : Int)) = 2 := (pair_is h0).2.1
  have hset : T.set (4 * (S.ws.length : Int)) 1 (4 * ((S.ws.length + 3 * (n - 1) : Nat) : Int)) = { T with ws := T.ws.set (S.ws.length + 2) (4 * ((S.ws.length + 3 * (n - 1) : Nat) : Int)) } := by
    unfold HS.set
    rw [if_pos (by unfold HS.setOk; rw [ht, hm]; simp), show fieldAt (4 * (S.ws.length : Int)) 0 1 = S.ws.length + 2 by unfold fieldAt; omega]
  have hlen := h.len
  rw [hset]
  have e4 : ∀ m : Nat, (4 * (m : Int) / 4).toNat = m := fun m => by omega
  have his : ∀ x, ({ T with ws := T.ws.set (S.ws.length + 2) (4 * ((S.ws.length + 3 * (n - 1) : Nat) : Int)) } : HS).is x = T.is x := fun _ => rfl
  refine ⟨hn, ?_, ?_, ?_, ?_⟩
  · intro k hk
    exact ⟨h.is _ (by omega), by omega, by omega⟩
  · intro k hk
    have h1 := h.is (n - 1 - k) (by omega)
    have h2 := h.head (n - 1 - k) (by omega)
    rw [is_head h1, e4] at h2
    rw [is_head (by rw [his]; exact h1), e4]
    simp only
    rw [getD_set, if_neg (by omega)]
    exact h2
  · intro k hk
    simp only
    rw [e4, getD_set, if_neg (by omega)]
    exact h.car (n - 1 - k) (by omega)
  · intro k hk
    simp only
    rw [e4, getD_set]
    by_cases hz : n - 1 - k = 0
    · rw [if_pos (by omega), show k + 1 = n by omega, Nat.mod_self]; rfl
    · rw [if_neg (by omega), h.cdr (n - 1 - k) (by omega) (by omega), Nat.mod_eq_of_lt (by omega)]
      rw [show n - 1 - k - 1 = n - 1 - (k + 1) by omega]
end Go.Proofs.Ytanjiecefioffaa
