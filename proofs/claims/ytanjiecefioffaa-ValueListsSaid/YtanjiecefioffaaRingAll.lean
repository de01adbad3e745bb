/- value.Store: Take of a chain; rings, plainly. tandemlaw04.ring; Take of a chain that does not end. A ring and the list (5 5 5), compared, plainly. -/
import Derived.Test.YtanjiecefioffaaTakePair
import Derived.Test.YtanjiecefioffaaStoreEqual
import Derived.Test.YtanjiecefioffaaChainPure
import Derived.Test.YtanjiecefioffaaSymPure
/- value.Store: Take of a chain; rings, plainly. -/
namespace Go.Proofs.Ytanjiecefioffaa
open Go.RowKit

/-- A ring of pairs, each with 5 ahead. -/
structure RingIn (S : HS) (P : Nat → Int) (n : Nat) : Prop where
  pos : 0 < n
  is : ∀ k, k < n → S.is (P k) = true ∧ 0 ≤ P k ∧ P k < 18446744073709551616
  head : ∀ k, k < n → S.head (P k) = headerOf 1 2 0
  car : ∀ k, k < n → S.ws.getD ((P k / 4).toNat + 1) 0 = 5
  cdr : ∀ k, k < n → S.ws.getD ((P k / 4).toNat + 2) 0 = P ((k + 1) % n)
theorem pair_head : tagH (headerOf 1 2 0) = 2 ∧ rawH (headerOf 1 2 0) = 0 ∧ kindH (headerOf 1 2 0) = 1 := by decide
theorem pair_is {S : HS} {x : Int} (h : S.head x = headerOf 1 2 0) : S.shape x 1 2 0 = true ∧ S.tag x = 2 ∧ S.kind x = 1 := by
  obtain ⟨g1, g2, g3⟩ := pair_head
  have e1 : S.tag x = 2 := by unfold HS.tag; rw [h]; exact g1
  have e2 : S.raw x = 0 := by unfold HS.raw; rw [h]; exact g2
  have e3 : S.kind x = 1 := by unfold HS.kind; rw [h]; exact g3
  refine ⟨?_, e1, e3⟩
  unfold HS.shape
  rw [e1, e2, e3]; rfl
theorem get_field {S : HS} {x : Int} (h : S.head x = headerOf 1 2 0) (x0 : 0 ≤ x) : S.getAt x 0 = S.ws.getD ((x / 4).toNat + 1) 0 ∧ S.getAt x 1 = S.ws.getD ((x / 4).toNat + 2) 0 := by
  obtain ⟨_, e1, _⟩ := pair_is h
  unfold HS.getAt HS.get
  rw [if_pos (by rw [e1]; omega), if_pos (by rw [e1]; omega)]
  simp only
  rw [show fieldAt x 0 0 = (x / 4).toNat + 1 by unfold fieldAt; omega, show fieldAt x 0 1 = (x / 4).toNat + 2 by unfold fieldAt; omega]
  exact ⟨rfl, rfl⟩
theorem five (S : HS) : S.num 5 = some 1 := by unfold HS.num; rw [if_pos (by decide)]; rfl
theorem RingIn.chain {S : HS} {P : Nat → Int} {n : Nat} (h : RingIn S P n) (N : Nat) (s : Nat) : Chain S (fun k => P ((s + k) % n)) (fun _ => 1) N := by
  have hm := fun k => Nat.mod_lt k h.pos
  refine ⟨fun k _ => (h.is _ (hm _)).2, fun k _ => (pair_is (h.head _ (hm _))).1, fun k _ => ?_, fun k _ => ?_⟩
  · rw [(get_field (h.head _ (hm _)) (h.is _ (hm _)).2.1).1, h.car _ (hm _)]; exact five S
  · rw [(get_field (h.head _ (hm _)) (h.is _ (hm _)).2.1).2, h.cdr _ (hm _)]
    rw [← Nat.add_assoc, Nat.mod_add_mod]
theorem RingIn.ext {S S' : HS} {P : Nat → Int} {n : Nat} (h : RingIn S P n) (e : Ext S S') (hw : WfH S.ws S.bs) : RingIn S' P n := by
  have hlt : ∀ k, k < n → (P k / 4).toNat + 3 ≤ S.ws.length := by
    intro k hk
    have h1 := is_lt hw (h.is k hk).1
    obtain ⟨g1, g2, _⟩ := pair_head
    unfold HS.tag HS.raw at h1
    rw [h.head k hk, g1, g2] at h1
    omega
  refine ⟨h.pos, fun k hk => ⟨e.is (h.is k hk).1, (h.is k hk).2⟩, fun k hk => by rw [e.head hw (h.is k hk).1]; exact h.head k hk, fun k hk => ?_, fun k hk => ?_⟩
  · rw [e.at (by have := hlt k hk; omega)]; exact h.car k hk
  · rw [e.at (by have := hlt k hk; omega)]; exact h.cdr k hk
/-! ### Comparing -/
theorem pair_noneq {S : HS} {x y : Int} (hx : S.head x = headerOf 1 2 0) (h : x ≠ y) : S.eqv x y = false := by
  obtain ⟨nx, _⟩ := pair_word (pair_is hx).1
  unfold HS.eqv
  rw [nx, decide_eq_false h]; rfl
theorem parts_pairs {S : HS} {x y : Int} (hx : S.head x = headerOf 1 2 0) (hy : S.head y = headerOf 1 2 0) (h : x ≠ y) : S.parts x y = some [(S.getAt x 1, S.getAt y 1), (S.getAt x 0, S.getAt y 0)] := by
  obtain ⟨sx, tx, _⟩ := pair_is hx
  obtain ⟨sy, _, _⟩ := pair_is hy
  obtain ⟨_, ox, _⟩ := pair_word sx
  unfold HS.parts
  rw [if_neg (by rw [pair_noneq hx h]; simp), if_neg (by rw [ox]; simp), if_pos (by unfold HS.kin; rw [sx, sy]; rfl), tx]
  rfl
theorem parts_same (S : HS) (x : Int) : S.parts x x = some [] := by
  unfold HS.parts
  rw [if_pos (by unfold HS.eqv; simp)]
theorem run_two {S : HS} (f : Nat) (x y : Int) (hx : S.head x = headerOf 1 2 0) (hy : S.head y = headerOf 1 2 0) (h : x ≠ y) (h5 : S.getAt x 0 = 5) (h5' : S.getAt y 0 = 5) : S.eqRun (f + 2) [(x, y)] = S.eqRun f [(S.getAt x 1, S.getAt y 1)] := by
  have e1 : S.eqRun (f + 1 + 1) [(x, y)] = S.eqRun (f + 1) [(S.getAt x 1, S.getAt y 1), (S.getAt x 0, S.getAt y 0)] := by
    conv => lhs; unfold HS.eqRun
    rw [dif_neg (by simp)]
    simp [parts_pairs hx hy h]
  rw [e1, h5, h5']
  conv => lhs; unfold HS.eqRun
  rw [dif_neg (by simp)]
  simp [parts_same]
theorem rings_run {S : HS} {P Q : Nat → Int} {n m : Nat} (hP : RingIn S P n) (hQ : RingIn S Q m) (hne : ∀ i j, i < n → j < m → P i ≠ Q j) (f : Nat) : ∀ i j, i < n → j < m → S.eqRun (2 * f) [(P i, Q j)] = (false, false) := by
  induction f with
  | zero => intro i j _ _; unfold HS.eqRun; rw [if_neg (by simp)]
  | succ f ih =>
    intro i j hi hj
    rw [show 2 * (f + 1) = 2 * f + 2 by omega, run_two (2 * f) (P i) (Q j) (hP.head i hi) (hQ.head j hj) (hne i j hi hj) (by rw [(get_field (hP.head i hi) (hP.is i hi).2.1).1, hP.car i hi]) (by rw [(get_field (hQ.head j hj) (hQ.is j hj).2.1).1, hQ.car j hj])]
    rw [(get_field (hP.head i hi) (hP.is i hi).2.1).2, hP.cdr i hi, (get_field (hQ.head j hj) (hQ.is j hj).2.1).2, hQ.cdr j hj]
    exact ih _ _ (Nat.mod_lt _ hP.pos) (Nat.mod_lt _ hQ.pos)
theorem rings_equal {S : HS} {P Q : Nat → Int} {n m : Nat} (hP : RingIn S P n) (hQ : RingIn S Q m) (hne : ∀ i j, i < n → j < m → P i ≠ Q j) (i j : Nat) (hi : i < n) (hj : j < m) : S.equal (P i) (Q j) = (false, false) := by
  unfold HS.equal
  rw [show (20000 : Nat) = 2 * 10000 from rfl]
  exact rings_run hP hQ hne 10000 i j hi hj
theorem equal_self (S : HS) (x : Int) : S.equal x x = (true, true) := by
  unfold HS.equal
  rw [show (20000 : Nat) = 19999 + 1 from rfl]
  conv => lhs; unfold HS.eqRun
  rw [dif_neg (by simp)]
  have h1 : S.eqRun 19999 [] = (true, true) := by unfold HS.eqRun; rw [dif_pos rfl]
  simpa [parts_same] using h1
/-! ### A ring is made -/
theorem cons_ext (S : HS) (a b : Int) : Ext S (S.cons a b) := part_ext S 1 2 0 2 [a, b] 2
theorem cons_get {S : HS} (a b : Int) : (S.cons a b).ws.getD (S.ws.length + 1) 0 = a ∧ (S.cons a b).ws.getD (S.ws.length + 2) 0 = b := by
  unfold HS.cons HS.part
  simp only
  rw [getD_app_right, getD_app_right]
  exact ⟨rfl, rfl⟩
/-- So many pairs, each with 5 ahead and the one that was made ahead of it behind (the first: the empty list). -/
structure Links (S T : HS) (n : Nat) : Prop where
  len : T.ws.length = S.ws.length + 3 * n
  size : T.size = S.size
  ext : Ext S T
  is : ∀ j, j < n → T.is (4 * ((S.ws.length + 3 * j : Nat) : Int)) = true
  head : ∀ j, j < n → T.head (4 * ((S.ws.length + 3 * j : Nat) : Int)) = headerOf 1 2 0
  car : ∀ j, j < n → T.ws.getD (S.ws.length + 3 * j + 1) 0 = 5
  cdr : ∀ j, 0 < j → j < n → T.ws.getD (S.ws.length + 3 * j + 2) 0 = 4 * ((S.ws.length + 3 * (j - 1) : Nat) : Int)
theorem Links.start (S : HS) : Links S S 0 := ⟨rfl, rfl, Ext.refl S, fun _ h => by omega, fun _ h => by omega, fun _ h => by omega, fun _ _ h => by omega⟩
theorem Links.step {S T : HS} {n : Nat} (h : Links S T n) (hw : WfH T.ws T.bs) (x : Int) (hx : 0 < n → x = 4 * ((S.ws.length + 3 * (n - 1) : Nat) : Int)) : Links S (T.cons 5 x) (n + 1) := by
  have e := cons_ext T 5 x
  obtain ⟨c1, c2, _⟩ := cons_len T 5 x
  have hb : T.ws.length = S.ws.length + 3 * n := h.len
  have hp : 4 * (T.ws.length : Int) = 4 * ((S.ws.length + 3 * n : Nat) : Int) := by rw [hb]
  obtain ⟨g1, g2⟩ := cons_get (S := T) 5 x
  rw [hb] at g1 g2
  refine ⟨by rw [c1, hb]; omega, by rw [c2, h.size], h.ext.trans e, ?_, ?_, ?_, ?_⟩
  · intro j hj
    rcases Nat.lt_or_ge j n with hjn | hjn
    · exact e.is (h.is j hjn)
    · obtain rfl : j = n := by omega
      rw [← hp]
      exact part_is hw.len 1 2 0 2 [5, x] 2
  · intro j hj
    rcases Nat.lt_or_ge j n with hjn | hjn
    · rw [e.head hw (h.is j hjn)]; exact h.head j hjn
    · obtain rfl : j = n := by omega
      rw [← hp]
      exact part_head hw.len 1 2 0 2 [5, x] 2
  · intro j hj
    rcases Nat.lt_or_ge j n with hjn | hjn
    · rw [e.at (by omega)]; exact h.car j hjn
    · obtain rfl : j = n := by omega
      exact g1
  · intro j h0 hj
    rcases Nat.lt_or_ge j n with hjn | hjn
    · rw [e.at (by omega)]; exact h.cdr j h0 hjn
    · obtain rfl : j = n := by omega
      rw [g2]; exact hx h0
theorem getD_set (l : List Int) (i j : Nat) (x : Int) : (l.set i x).getD j 0 = if i = j ∧ j < l.length then x else l.getD j 0 := by
  rw [List.getD_eq_getElem?_getD, List.getD_eq_getElem?_getD, List.getElem?_set]
  by_cases h : i = j
  · subst h
    by_cases hl : i < l.length
    · simp [hl]
    · simp [hl]
  · simp [h]
theorem Links.ring {S T : HS} {n : Nat} (h : Links S T n) (hn : 0 < n) (hb : T.ws.length ≤ 1048576) (hm : T.may (4 * ((S.ws.length + 3 * (n - 1) : Nat) : Int)) = true) :
    RingIn (T.set (4 * (S.ws.length : Int)) 1 (4 * ((S.ws.length + 3 * (n - 1) : Nat) : Int))) (fun k => 4 * ((S.ws.length + 3 * (n - 1 - k) : Nat) : Int)) n := by
  have h0 : T.head (4 * (S.ws.length : Int)) = headerOf 1 2 0 := h.head 0 hn
  have ht : T.tag (4 * (S.ws.length : Int)) = 2 := (pair_is h0).2.1
  have hset : T.set (4 * (S.ws.length : Int)) 1 (4 * ((S.ws.length + 3 * (n - 1) : Nat) : Int)) = { T with ws := T.ws.set (S.ws.length + 2) (4 * ((S.ws.length + 3 * (n - 1) : Nat) : Int)) } := by
    unfold HS.set
    rw [if_pos (by unfold HS.setOk; rw [ht, hm]; simp), show fieldAt (4 * (S.ws.length : Int)) 0 1 = S.ws.length + 2 by unfold fieldAt; omega]
  have hlen := h.len
  rw [hset]
  have e4 : ∀ m : Nat, (4 * (m : Int) / 4).toNat = m := fun m => by omega
  have his : ∀ x, ({ T with ws := T.ws.set (S.ws.length + 2) (4 * ((S.ws.length + 3 * (n - 1) : Nat) : Int)) } : HS).is x = T.is x := fun _ => rfl
  refine ⟨hn, ?_, ?_, ?_, ?_⟩
  · intro k hk
    exact ⟨h.is _ (by omega), by omega, by omega⟩
  · intro k hk
    have h1 := h.is (n - 1 - k) (by omega)
    have h2 := h.head (n - 1 - k) (by omega)
    rw [is_head h1, e4] at h2
    rw [is_head (by rw [his]; exact h1), e4]
    simp only
    rw [getD_set, if_neg (by omega)]
    exact h2
  · intro k hk
    simp only
    rw [e4, getD_set, if_neg (by omega)]
    exact h.car (n - 1 - k) (by omega)
  · intro k hk
    simp only
    rw [e4, getD_set]
    by_cases hz : n - 1 - k = 0
    · rw [if_pos (by omega), show k + 1 = n by omega, Nat.mod_self]; rfl
    · rw [if_neg (by omega), h.cdr (n - 1 - k) (by omega) (by omega), Nat.mod_eq_of_lt (by omega)]
      rw [show n - 1 - k - 1 = n - 1 - (k + 1) by omega]
end Go.Proofs.Ytanjiecefioffaa

/- tandemlaw04.ring; Take of a chain that does not end. -/
namespace Go.Proofs.Ytanjiecefioffaa
open Go.RowKit

/-- All that was there is there yet. -/
structure Over (S S' : HS) : Prop where
  is : ∀ x, S.is x = true → S'.is x = true
  word : ∀ k, k < S.ws.length → S'.ws.getD k 0 = S.ws.getD k 0
theorem RingIn.over {S S' : HS} {P : Nat → Int} {n : Nat} (h : RingIn S P n) (e : Over S S') (hw : WfH S.ws S.bs) : RingIn S' P n := by
  have hlt : ∀ k, k < n → (P k / 4).toNat + 3 ≤ S.ws.length := by
    intro k hk
    have h1 := is_lt hw (h.is k hk).1
    obtain ⟨g1, g2, _⟩ := pair_head
    unfold HS.tag HS.raw at h1
    rw [h.head k hk, g1, g2] at h1
    omega
  refine ⟨h.pos, fun k hk => ⟨e.is _ (h.is k hk).1, (h.is k hk).2⟩, fun k hk => ?_, fun k hk => ?_, fun k hk => ?_⟩
  · rw [is_head (e.is _ (h.is k hk).1), e.word _ (by have := hlt k hk; omega), ← is_head (h.is k hk).1]; exact h.head k hk
  · rw [e.word _ (by have := hlt k hk; omega)]; exact h.car k hk
  · rw [e.word _ (by have := hlt k hk; omega)]; exact h.cdr k hk
theorem Links.over {S T : HS} {n : Nat} (h : Links S T n) (x : Int) : Over S (T.set (4 * (S.ws.length : Int)) 1 x) := by
  unfold HS.set
  split
  · refine ⟨fun y hy => h.ext.is hy, fun k hk => ?_⟩
    simp only
    rw [show fieldAt (4 * (S.ws.length : Int)) 0 1 = S.ws.length + 2 by unfold fieldAt; omega, getD_set, if_neg (by omega)]
    exact h.ext.at hk
  · exact ⟨fun y hy => h.ext.is hy, fun k hk => h.ext.at hk⟩
theorem may_five (S : HS) : S.may 5 = true := by unfold HS.may mayB; simp
theorem may_ten (S : HS) : S.may 10 = true := by unfold HS.may mayB; simp
theorem may_is {S : HS} {x : Int} (h : S.is x = true) : S.may x = true := by
  have h4 := (is_iff.1 h).1
  unfold HS.may mayB
  unfold HS.is at h
  rw [h]
  simp
theorem set_len (S : HS) (p i x : Int) : (S.set p i x).ws.length = S.ws.length ∧ (S.set p i x).size = S.size := by
  unfold HS.set
  split <;> simp
def RingRel (W : World) (X : StV) (V : HV) (S : HS) (Y : StS) (R : HP) (n : Nat) (l i : Value) (wr : World) : Prop :=
  ∃ (k : Nat) (V1 : HV) (T : HS), 1 ≤ k ∧ k ≤ n ∧ i = .int .i64 k ∧ l = .int .u64 (4 * ((S.ws.length + 3 * (k - 1) : Nat) : Int)) ∧ V1.g = V.g ∧ StW wr X V1 T Y R ∧ Links S T k ∧ Below 0 W wr
section
variable {w : World} {X : StV} {V : HV} {S : HS} {Y : StS} {R : HP}
set_option maxRecDepth 100000 in
set_option maxHeartbeats 2000000 in
theorem StW.ring (h : StW w X V S Y R) (n : Nat) (hn : 1 ≤ n ∧ n ≤ 20) (hroom : S.ws.length + 3 * n ≤ S.size) :
    Calls Try.prog 48 #[.pointer (some ⟨X.g, 0, none⟩), .int .i64 n] w fun e w' => ∃ (V' : HV) (S' : HS), e = .returned (.int .u64 (4 * ((S.ws.length + 3 * (n - 1) : Nat) : Int))) ∧ V'.g = V.g ∧
      StW w' X V' S' Y R ∧ RingIn S' (fun k => 4 * ((S.ws.length + 3 * (n - 1 - k) : Nat) : Int)) n ∧ Over S S' ∧ S'.ws.length = S.ws.length + 3 * n ∧ S'.size = S.size ∧ Below 0 w w' := by
  have hl := h.hw.v.len
  have hr : ∀ T : HS, T.size = S.size → T.ws.length + 3 ≤ S.size → T.room 1 2 0 = true := by
    intro T h1 h2
    unfold HS.room
    rw [h1]
    simp only [Bool.and_eq_true, decide_eq_true_eq]
    omega
  have hC := h.Cons_yes 5 10 (by decide) (by decide) ⟨may_five S, may_ten S⟩ (hr S rfl (by omega))
  have HX := Lib.hid (And.intro h (And.intro hr hl))
  have hw0 := h.ok.wf
  have HW := Lib.hid hw0
  obtain ⟨p0, hp0⟩ : ∃ p0 : Int, 4 * (S.ws.length : Int) = p0 := ⟨_, rfl⟩
  rw [hp0] at hC
  have HP := Lib.hid hp0
  clear h hr hw0 hp0
  go_enter Try.func48, Try.ntmps48
  go_wp2_with fail
  refine hC.mono ?_
  rintro e w2 ⟨rfl, hb2, V2, hg2, h2⟩
  have HX2 := Lib.hid (And.intro h2 (And.intro hb2 hg2))
  clear hC h2 hb2 hg2
  go_wp2_with fail
  go_loopw [7, 8] (RingRel w X V S Y R n) (fun _ i _ => n - (intOf i).toNat)
  case atStart =>
    refine ⟨1, V2, S.cons 5 10, Nat.le_refl _, hn.1, rfl, ?_, HX2.out.2.2, HX2.out.1, (Links.start S).step HW.out 10 (fun h => by omega), HX2.out.2.1⟩
    rw [← HP.out]; rfl
  case round =>
    clear HX2
    obtain ⟨k, V1, T, hk1, hkn, rfl, rfl, hg, hs, hL, hb⟩ := hrel
    obtain ⟨x, hx⟩ : ∃ x : Int, 4 * ((S.ws.length + 3 * (k - 1) : Nat) : Int) = x := ⟨_, rfl⟩
    have hix := hL.is (k - 1) (by omega)
    have hTl := hL.len
    have bx : 0 ≤ x ∧ x < 18446744073709551616 := by have := HX.out.2.2; omega
    rw [hx] at hix ⊢
    by_cases hlt : k < n
    · have hC := hs.Cons_yes 5 x (by decide) bx ⟨may_five T, may_is hix⟩ (HX.out.2.1 T hL.size (by omega))
      have hL2 := hL.step hs.ok.wf x (fun _ => hx.symm)
      have hxx : 4 * (T.ws.length : Int) = 4 * ((S.ws.length + 3 * (k + 1 - 1) : Nat) : Int) := by rw [hTl]; rfl
      rw [hxx] at hC
      have HF := Lib.hid (And.intro hL2 (And.intro hb hg))
      obtain ⟨y, hy⟩ : ∃ y : Int, 4 * ((S.ws.length + 3 * (k + 1 - 1) : Nat) : Int) = y := ⟨_, rfl⟩
      rw [hy] at hC
      have HY := Lib.hid hy
      clear hs hL hL2 hb hg hx hTl hxx hix hy
      go_wp2_with fail
      refine hC.mono ?_
      rintro e w3 ⟨rfl, hb3, V3, hg3, h3⟩
      have HQ := Lib.hid (And.intro h3 (And.intro (HF.out.2.1.trans hb3) (hg3.trans HF.out.2.2)))
      clear hC h3 hb3 hg3
      go_wp2_with fail
      go_roundw
      case rel => exact ⟨k + 1, V3, T.cons 5 x, by omega, by omega, by go_num, by rw [HY.out], HQ.out.2.2, HQ.out.1, HF.out.1, HQ.out.2.1⟩
      case measure => simp [intOf]; omega
    · obtain rfl : k = n := by omega
      have hge : (k : Int) ≤ k := by omega
      have c0 := hs.c0
      have bp : 0 ≤ p0 ∧ p0 < 18446744073709551616 := by have h1 := HP.out; have := HX.out.2.2; omega
      have hS := hs.hw.Set p0 1 x bp.1 bp.2 bx.1 bx.2
      have hR := hL.ring (by omega) hs.hw.v.len (by rw [hx]; exact may_is hix)
      have hO := hL.over x
      rw [hx, HP.out] at hR
      rw [HP.out] at hO
      have hsl := set_len T p0 1 x
      rw [hTl, hL.size] at hsl
      have HF := Lib.hid (And.intro hR (And.intro hO (And.intro hsl (And.intro hb hg))))
      have HXX := Lib.hid hx
      clear hs hL hR hO hsl hb hg hTl hix hx
      go_wp2_with fail
      refine hS.mono ?_
      rintro e w3 ⟨rfl, h3, hb3⟩
      have HQ := Lib.hid (And.intro h3 (HF.out.2.2.2.1.trans hb3))
      clear hS h3 hb3
      go_wp2_with fail
      go_ret
      exact ⟨V1, _, by rw [HXX.out]; rfl, HF.out.2.2.2.2, ⟨HQ.out.1.s, HQ.out.1.ok⟩, HF.out.1, HF.out.2.1, HF.out.2.2.1.1, HF.out.2.2.1.2, HQ.out.2⟩
set_option maxRecDepth 100000 in
set_option maxHeartbeats 2000000 in
/-- What goes on for more than 19999 numbers is not told. -/
theorem StW.Take_long (h : StW w X V S Y R) (p cs : Nat → Int) (hc : Chain S p cs 20000) (h10 : S.shape 10 1 2 0 = false) :
    Calls Try.prog 28 #[.pointer (some ⟨X.g, 0, none⟩), .int .u64 (p 0), .int .i64 20000] w (StKeeps X V S Y R (.tuple #[zeroD, .bool false]) w) := by
  have HH := Lib.hid h
  clear h
  go_enter Try.func28, Try.ntmps28
  go_wp2_with fail
  have hp0 := (HH.out.push (.cells #[.int .i64 0, .int .i64 0, .bool false, .slice none 0 0, .string ⟨#[]⟩, .slice none 0 0, .slice none 0 0] 54)).push (.cells #[.int .i64 20000] 3)
  rw [World.size_alloc] at hp0
  have hbp : Below 0 w ((w.alloc (.cells #[.int .i64 0, .int .i64 0, .bool false, .slice none 0 0, .string ⟨#[]⟩, .slice none 0 0, .slice none 0 0] 54)).alloc (.cells #[.int .i64 20000] 3)) := (Below.zero_alloc _ _).trans (Below.zero_alloc _ _)
  have hT := StW.take_pair (w.heap.size + 1) 20000 19999 p cs 100 (by decide) hp0 (by decide) (by decide) hc (fun h => absurd h (by decide)) h10
  unfold TakePost at hT
  simp only [if_neg (by decide : ¬ (20000 ≤ 19999))] at hT
  have HB := Lib.hid hbp
  clear hp0 hbp hc
  with_reducible refine hT.mono ?_
  rintro e w3 ⟨rfl, h3, hb3⟩
  unfold zeroD
  have h4 := h3.push (.cells #[.int .i64 0, .int .i64 0, .bool false, .slice none 0 0, .string ⟨#[]⟩, .slice none 0 0, .slice none 0 0] 54)
  have hso : sat (w3.alloc (.cells #[.int .i64 0, .int .i64 0, .bool false, .slice none 0 0, .string ⟨#[]⟩, .slice none 0 0, .slice none 0 0] 54)) (Go.Proofs.Ytanjiecefioffaa.blk w.heap.size (.cells #[.int .i64 0, .int .i64 0, .bool false, .slice none 0 0, .string ⟨#[]⟩, .slice none 0 0, .slice none 0 0] 54 (0, 0)) * (Go.Proofs.Ytanjiecefioffaa.blk w3.heap.size (.cells #[.int .i64 0, .int .i64 0, .bool false, .slice none 0 0, .string ⟨#[]⟩, .slice none 0 0, .slice none 0 0] 54 (0, 0)) * (isHeap V S * (isSt X V.g Y * R)))) := h4.s.perm (by ac_rfl)
  have hb5 := (HB.out.trans hb3).trans (Below.zero_alloc w3 (.cells #[.int .i64 0, .int .i64 0, .bool false, .slice none 0 0, .string ⟨#[]⟩, .slice none 0 0, .slice none 0 0] 54))
  have HG := Lib.hid (And.intro h4.ok (And.intro hso hb5))
  have c0 := (hso.left.cell 0).trans rfl
  have f0 := hso.left.frozen 0
  have c1 := (hso.left.cell 1).trans rfl
  have f1 := hso.left.frozen 1
  have c2 := (hso.left.cell 2).trans rfl
  have f2 := hso.left.frozen 2
  have c3 := (hso.left.cell 3).trans rfl
  have f3 := hso.left.frozen 3
  have c4 := (hso.left.cell 4).trans rfl
  have f4 := hso.left.frozen 4
  have c5 := (hso.left.cell 5).trans rfl
  have f5 := hso.left.frozen 5
  have c6 := (hso.left.cell 6).trans rfl
  have f6 := hso.left.frozen 6
  clear h3 hb3 h4 hT hso hb5
  go_wp2_with fail
  have hs7 := (((((((HG.out.2.1.setCell (off := 0) (.int .i64 0)).setCell (off := 1) (.int .i64 0)).setCell (off := 2) (.bool false)).setCell (off := 3) (.slice none 0 0)).setCell (off := 4) (.string ⟨#[]⟩)).setCell (off := 5) (.slice none 0 0)).setCell (off := 6) (.slice none 0 0))
  have hb7 := (((((((HG.out.2.2.setCell (p := ⟨w.heap.size, 0, none⟩) (Nat.zero_le _) (.int .i64 0)).setCell (p := ⟨w.heap.size, 1, none⟩) (Nat.zero_le _) (.int .i64 0)).setCell (p := ⟨w.heap.size, 2, none⟩) (Nat.zero_le _) (.bool false)).setCell (p := ⟨w.heap.size, 3, none⟩) (Nat.zero_le _) (.slice none 0 0)).setCell (p := ⟨w.heap.size, 4, none⟩) (Nat.zero_le _) (.string ⟨#[]⟩)).setCell (p := ⟨w.heap.size, 5, none⟩) (Nat.zero_le _) (.slice none 0 0)).setCell (p := ⟨w.heap.size, 6, none⟩) (Nat.zero_le _) (.slice none 0 0))
  clear c0 f0 c1 f1 c2 f2 c3 f3 c4 f4 c5 f5 c6 f6
  generalize ((((((((w3.alloc (.cells #[.int .i64 0, .int .i64 0, .bool false, .slice none 0 0, .string ⟨#[]⟩, .slice none 0 0, .slice none 0 0] 54)).setCell ⟨w.heap.size, 0, none⟩ (.int .i64 0)).setCell ⟨w.heap.size, 1, none⟩ (.int .i64 0)).setCell ⟨w.heap.size, 2, none⟩ (.bool false)).setCell ⟨w.heap.size, 3, none⟩ (.slice none 0 0)).setCell ⟨w.heap.size, 4, none⟩ (.string ⟨#[]⟩)).setCell ⟨w.heap.size, 5, none⟩ (.slice none 0 0)).setCell ⟨w.heap.size, 6, none⟩ (.slice none 0 0)) = w7 at *
  have r0 : w7.cell? ⟨w.heap.size, 0, none⟩ = some (.int .i64 0) := (hs7.left.cell 0).trans rfl
  have r1 : w7.cell? ⟨w.heap.size, 1, none⟩ = some (.int .i64 0) := (hs7.left.cell 1).trans rfl
  have r2 : w7.cell? ⟨w.heap.size, 2, none⟩ = some (.bool false) := (hs7.left.cell 2).trans rfl
  have r3 : w7.cell? ⟨w.heap.size, 3, none⟩ = some (.slice none 0 0) := (hs7.left.cell 3).trans rfl
  have r4 : w7.cell? ⟨w.heap.size, 4, none⟩ = some (.string ⟨#[]⟩) := (hs7.left.cell 4).trans rfl
  have r5 : w7.cell? ⟨w.heap.size, 5, none⟩ = some (.slice none 0 0) := (hs7.left.cell 5).trans rfl
  have r6 : w7.cell? ⟨w.heap.size, 6, none⟩ = some (.slice none 0 0) := (hs7.left.cell 6).trans rfl
  refine bodyPost_ret (v := .tuple #[zeroD, .bool false]) (by simp [results, Try.results28, go_sem, r0, r1, r2, r3, r4, r5, r6, zeroD]) rfl ⟨rfl, ⟨hs7.right.right, HG.out.1⟩, hb7⟩
end
end Go.Proofs.Ytanjiecefioffaa

/- A ring and the list (5 5 5), compared, plainly. -/
namespace Go.Proofs.Ytanjiecefioffaa
open Go.RowKit

theorem list3_ws (S : HS) : (S.chain 10 [5, 5, 5]).1.ws = S.ws ++ [headerOf 1 2 0, 5, 10, headerOf 1 2 0, 5, 4 * ((S.ws.length + 3 * 0 : Nat) : Int), headerOf 1 2 0, 5, 4 * ((S.ws.length + 3 * 1 : Nat) : Int)] := by
  unfold HS.chain HS.chain HS.chain HS.chain HS.cons HS.part
  simp
theorem list3_bs (S : HS) : (S.chain 10 [5, 5, 5]).1.bs = S.bs ++ [true, false, false, true, false, false, true, false, false] := by
  unfold HS.chain HS.chain HS.chain HS.chain HS.cons HS.part
  simp [laid]
theorem list3_snd (S : HS) : (S.chain 10 [5, 5, 5]).2 = 4 * ((S.ws.length + 3 * 2 : Nat) : Int) := by
  unfold HS.chain HS.chain HS.chain HS.chain HS.cons HS.part
  simp
theorem list3_ext (S : HS) : Ext S (S.chain 10 [5, 5, 5]).1 := ⟨⟨_, list3_ws S⟩, ⟨_, list3_bs S⟩⟩
theorem list3_head {S : HS} (hl : S.bs.length = S.ws.length) (j : Nat) (hj : j < 3) : (S.chain 10 [5, 5, 5]).1.head (4 * ((S.ws.length + 3 * j : Nat) : Int)) = headerOf 1 2 0 := by
  have e4 : (4 * ((S.ws.length + 3 * j : Nat) : Int) / 4).toNat = S.ws.length + 3 * j := by omega
  have his : (S.chain 10 [5, 5, 5]).1.is (4 * ((S.ws.length + 3 * j : Nat) : Int)) = true := by
    refine is_iff.2 ⟨by omega, ?_⟩
    rw [e4, list3_bs, List.getElem?_append_right (by omega), hl, Nat.add_sub_cancel_left]
    rcases j with _ | _ | _ | j
    · rfl
    · rfl
    · rfl
    · omega
  rw [is_head his, e4, list3_ws, getD_app_right]
  rcases j with _ | _ | _ | j
  · rfl
  · rfl
  · rfl
  · omega
theorem list3_get {S : HS} (hl : S.bs.length = S.ws.length) (j : Nat) (hj : j < 3) : (S.chain 10 [5, 5, 5]).1.getAt (4 * ((S.ws.length + 3 * j : Nat) : Int)) 0 = 5 ∧
    (S.chain 10 [5, 5, 5]).1.getAt (4 * ((S.ws.length + 3 * j : Nat) : Int)) 1 = if j = 0 then 10 else 4 * ((S.ws.length + 3 * (j - 1) : Nat) : Int) := by
  obtain ⟨g1, g2⟩ := get_field (list3_head hl j hj) (by omega)
  have e4 : (4 * ((S.ws.length + 3 * j : Nat) : Int) / 4).toNat = S.ws.length + 3 * j := by omega
  rw [g1, g2, e4, list3_ws, Nat.add_assoc, Nat.add_assoc, getD_app_right, getD_app_right]
  rcases j with _ | _ | _ | j
  · exact ⟨rfl, rfl⟩
  · exact ⟨rfl, rfl⟩
  · exact ⟨rfl, rfl⟩
  · omega
theorem ten_none (S : HS) : S.shape 10 1 2 0 = false ∧ S.head 10 = 0 := by
  have hh : S.head 10 = 0 := by
    unfold HS.head headOf
    rw [if_neg]
    intro h
    have := (is_iff.1 (show S.is 10 = true from h)).1
    omega
  refine ⟨?_, hh⟩
  unfold HS.shape HS.kind
  rw [hh]; rfl
theorem parts_ten {S : HS} {x : Int} (hx : S.head x = headerOf 1 2 0) (h : x ≠ 10) : S.parts x 10 = none := by
  obtain ⟨sx, tx, kx⟩ := pair_is hx
  obtain ⟨_, ox, _⟩ := pair_word sx
  unfold HS.parts
  rw [if_neg (by rw [pair_noneq hx h]; simp), if_neg (by rw [ox]; simp), if_neg]
  unfold HS.kin
  rw [(ten_none S).1]
  have : S.shape x 2 (-1) 0 = false := by unfold HS.shape; rw [kx]; rfl
  rw [this]
  simp
theorem ring_list {S : HS} {P : Nat → Int} {n : Nat} (hw : WfH S.ws S.bs) (h : RingIn S P n) (i : Nat) (hi : i < n) : (S.chain 10 [5, 5, 5]).1.equal (P i) (4 * ((S.ws.length + 3 * 2 : Nat) : Int)) = (false, true) := by
  have hR := h.ext (list3_ext S) hw
  have hlt : ∀ k, k < n → P k < 4 * (S.ws.length : Int) ∧ P k % 4 = 0 := by
    intro k hk
    have h1 := is_lt hw (h.is k hk).1
    have h2 := (is_iff.1 (h.is k hk).1).1
    have h3 := (h.is k hk).2.1
    omega
  have step : ∀ (f k j : Nat), k < n → j < 3 → (S.chain 10 [5, 5, 5]).1.eqRun (f + 2) [(P k, 4 * ((S.ws.length + 3 * j : Nat) : Int))] = (S.chain 10 [5, 5, 5]).1.eqRun f [(P ((k + 1) % n), if j = 0 then 10 else 4 * ((S.ws.length + 3 * (j - 1) : Nat) : Int))] := by
    intro f k j hk hj
    have h1 := hlt k hk
    have h0 := (hR.is k hk).2.1
    rw [run_two f _ _ (hR.head k hk) (list3_head hw.len j hj) (by omega) (by rw [(get_field (hR.head k hk) h0).1, hR.car k hk]) (list3_get hw.len j hj).1]
    rw [(get_field (hR.head k hk) h0).2, hR.cdr k hk, (list3_get hw.len j hj).2]
  have hm := fun k => Nat.mod_lt k h.pos
  unfold HS.equal
  rw [show (20000 : Nat) = 19994 + 2 + 2 + 2 from rfl, step _ i 2 hi (by omega), if_neg (by omega), step _ _ 1 (hm _) (by omega), if_neg (by omega), step _ _ 0 (hm _) (by omega), if_pos rfl]
  obtain ⟨kk, hkk⟩ : ∃ kk, (((i + 1) % n + 1) % n + 1) % n = kk := ⟨_, rfl⟩
  have hkn : kk < n := by rw [← hkk]; exact hm _
  rw [hkk]
  conv => lhs; unfold HS.eqRun
  rw [dif_neg (by simp)]
  have hp := parts_ten (hR.head kk hkn) (by have := hlt kk hkn; omega)
  simp [hp]
end Go.Proofs.Ytanjiecefioffaa
