/- A number's raw words, plainly. A number's object, plainly: what is laid is told again. value.Store: Number. What Number makes, plainly. -/
import Derived.Test.YtanjiecefioffaaStoreNums
import Derived.Test.YtanjiecefioffaaStoreText
import Derived.Test.YtanjiecefioffaaSymPure
import Derived.Test.YtanjiecefioffaaFixes
import Derived.Test.YtanjiecefioffaaLit
import Derived.Test.YtanjiecefioffaaStoreEqv
/- A number's raw words, plainly. -/
namespace Go.Proofs.Ytanjiecefioffaa
open Go.RowKit

def pairAt (l : List Int) (i : Nat) : Int := l.getD (2 * i) 0 + 4294967296 * l.getD (2 * i + 1) 0
def pairW (l : List Int) (q : Nat) : List Int := (List.range q).map (pairAt l)
theorem getD_take (l : List Int) (k j : Nat) : (l.take k).getD j 0 = if j < k then l.getD j 0 else 0 := by
  rw [List.getD_eq_getElem?_getD, List.getElem?_take]
  split
  · rw [← List.getD_eq_getElem?_getD]
  · rfl
theorem pairAt_step {l : List Int} {k : Nat} {x : Int} (hx : l[k]? = some x) (j : Nat) : pairAt (l.take (k + 1)) j = if j = k / 2 then pairAt (l.take k) (k / 2) + 4294967296 ^ (k % 2) * x else pairAt (l.take k) j := by
  have hg : l.getD k 0 = x := by rw [List.getD_eq_getElem?_getD, hx]; rfl
  unfold pairAt
  simp only [getD_take]
  by_cases hj : j = k / 2
  · subst hj
    rw [if_pos rfl]
    rcases Nat.mod_two_eq_zero_or_one k with h | h
    · rw [h, show 2 * (k / 2) = k by omega, if_pos (by omega), if_neg (by omega), if_neg (by omega), if_neg (by omega), hg]; omega
    · rw [h, show 2 * (k / 2) + 1 = k by omega, if_pos (by omega), if_pos (by omega), if_pos (by omega), if_neg (by omega), hg]; omega
  · rw [if_neg hj]
    rw [show (if 2 * j < k + 1 then l.getD (2 * j) 0 else 0) = (if 2 * j < k then l.getD (2 * j) 0 else 0) by
      by_cases h : 2 * j < k
      · rw [if_pos h, if_pos (by omega)]
      · rw [if_neg h, if_neg (by omega)]]
    rw [show (if 2 * j + 1 < k + 1 then l.getD (2 * j + 1) 0 else 0) = (if 2 * j + 1 < k then l.getD (2 * j + 1) 0 else 0) by
      by_cases h : 2 * j + 1 < k
      · rw [if_pos h, if_pos (by omega)]
      · rw [if_neg h, if_neg (by omega)]]
theorem limbs_getD {l : List Int} (h : Limbs l) (k : Nat) : 0 ≤ l.getD k 0 ∧ l.getD k 0 < 4294967296 := by
  rw [List.getD_eq_getElem?_getD]
  cases hx : l[k]? with
  | none => exact ⟨Int.le_refl _, by decide⟩
  | some x => exact h x (List.mem_of_getElem? hx)
theorem pairAt_bd {l : List Int} (h : Limbs l) (i : Nat) : 0 ≤ pairAt l i ∧ pairAt l i < 18446744073709551616 := by
  have h1 := limbs_getD h (2 * i)
  have h2 := limbs_getD h (2 * i + 1)
  unfold pairAt
  omega
theorem pairAt_low {l : List Int} (h : Limbs l) (k : Nat) : pairAt (l.take k) (k / 2) < 4294967296 ^ (k % 2) := by
  unfold pairAt
  simp only [getD_take]
  rcases Nat.mod_two_eq_zero_or_one k with h1 | h1
  · rw [h1, if_neg (by omega), if_neg (by omega)]; decide
  · have := limbs_getD h (2 * (k / 2))
    rw [h1, if_pos (by omega), if_neg (by omega)]
    omega
/-- What a number's object holds. -/
def numWords (v : Int) : List Int := (if v < 0 then 1 else 0) :: pairW (limbsOf v.natAbs) (((limbsOf v.natAbs).length + 1) / 2)
theorem numWords_len (v : Int) : (numWords v).length = 1 + ((limbsOf v.natAbs).length + 1) / 2 := by unfold numWords pairW; simp; omega
theorem numWords_u (v : Int) : ∀ x ∈ numWords v, 0 ≤ x ∧ x < 18446744073709551616 := by
  intro x hx
  unfold numWords pairW at hx
  rcases List.mem_cons.1 hx with rfl | hx
  · split <;> decide
  · obtain ⟨i, _, rfl⟩ := List.mem_map.1 hx
    exact pairAt_bd (limbsOf_limbs _) i
/-- Number. -/
def HS.number (S : HS) (v : Int) : HS × Int × Bool :=
  if isSmall v = true then (S, fixW v, true)
  else if (limbsOf v.natAbs).length ≤ 256 ∧ S.room 5 0 ((numWords v).length : Nat) = true then (S.part 5 0 (numWords v).length 0 (numWords v) (numWords v).length, 4 * (S.ws.length : Int), true)
  else (S, 0, false)
theorem twoL_valL (x y : Int) (l : List Int) : valL (x :: y :: l) = x.toNat + 4294967296 * y.toNat + 18446744073709551616 * valL l := by
  simp only [valL]; omega
/-- Two limbs a word. -/
theorem pair_limbs {l : List Int} (h : Limbs l) : ∀ q : Nat, ((List.range q).flatMap fun i => twoL (pairAt l i)) = (List.range (2 * q)).map fun j => l.getD j 0 := by
  intro q
  induction q with
  | zero => rfl
  | succ q ih =>
    rw [List.range_succ, List.flatMap_append, ih, show 2 * (q + 1) = 2 * q + 1 + 1 by omega, List.range_succ, List.range_succ]
    have h1 := limbs_getD h (2 * q)
    have h2 := limbs_getD h (2 * q + 1)
    simp only [List.flatMap_cons, List.flatMap_nil, List.append_nil, List.map_append, List.map_cons, List.map_nil, List.append_assoc, List.cons_append, List.nil_append]
    congr 1
    unfold twoL pairAt
    generalize l.getD (2 * q) 0 = a at *
    generalize l.getD (2 * q + 1) 0 = b at *
    rw [show (a + 4294967296 * b) % 4294967296 = a by omega, show (a + 4294967296 * b) / 4294967296 = b by omega]
theorem valL_pad (l : List Int) (n : Nat) (hn : l.length ≤ n) : valL ((List.range n).map fun j => l.getD j 0) = valL l := by
  have e : ((List.range n).map fun j => l.getD j 0) = l ++ List.replicate (n - l.length) 0 := by
    apply List.ext_getElem?
    intro j
    rw [List.getElem?_map]
    by_cases hj : j < n
    · rw [List.getElem?_range hj, Option.map_some]
      by_cases hl : j < l.length
      · rw [List.getElem?_append_left hl, List.getD_eq_getElem?_getD, List.getElem?_eq_getElem hl]; rfl
      · rw [List.getElem?_append_right (by omega), List.getElem?_replicate, if_pos (by omega), List.getD_eq_getElem?_getD, List.getElem?_eq_none (by omega)]; rfl
    · rw [List.getElem?_eq_none (by simp; omega), List.getElem?_eq_none (by simp; omega)]; rfl
  rw [e, valL_append, valL_zeros (fun x hx => (List.mem_replicate.1 hx).2), Nat.mul_zero, Nat.add_zero]
end Go.Proofs.Ytanjiecefioffaa

/- A number's object, plainly: what is laid is told again. -/
namespace Go.Proofs.Ytanjiecefioffaa
open Go.RowKit

structure NumIn (S : HS) (v : Int) (t : Int) : Prop where
  is : S.is t = true
  head : S.head t = headerOf 5 0 (numWords v).length
  raws : ∀ (i : Nat) x, (numWords v)[i]? = some x → S.ws.getD ((t / 4).toNat + 1 + i) 0 = x
theorem num_head (n : Nat) (h : n ≤ 1048576) : tagH (headerOf 5 0 n) = 0 ∧ rawH (headerOf 5 0 n) = n ∧ kindH (headerOf 5 0 n) = 5 := header_tag (kind := 5) (t := 0) (r := n) (by decide) (by decide) (by decide) h
theorem num_in {S : HS} (hl : S.bs.length = S.ws.length) (v : Int) : NumIn (S.part 5 0 (numWords v).length 0 (numWords v) (numWords v).length) v (4 * (S.ws.length : Int)) := by
  refine ⟨part_is hl 5 0 _ 0 _ _, part_head hl 5 0 _ 0 _ _, ?_⟩
  intro i x hx
  have hi := (List.getElem?_eq_some_iff.1 hx).1
  unfold HS.part
  simp only
  rw [show (4 * (S.ws.length : Int) / 4).toNat + 1 + i = S.ws.length + (1 + i) by omega, getD_app_right, List.getD_eq_getElem?_getD, Nat.add_comm 1 i, List.getElem?_cons_succ, List.getElem?_append_left (by rw [List.length_take]; omega), List.take_of_length_le (Nat.le_refl _), hx]
  rfl
theorem NumIn.ext {S S' : HS} {v t : Int} (h : NumIn S v t) (e : Ext S S') (hw : WfH S.ws S.bs) (hl : (limbsOf v.natAbs).length ≤ 256) : NumIn S' v t := by
  refine ⟨e.is h.is, by rw [e.head hw h.is]; exact h.head, ?_⟩
  intro i x hx
  have hi := (List.getElem?_eq_some_iff.1 hx).1
  have hwl := numWords_len v
  obtain ⟨g1, g2, g3⟩ := num_head (numWords v).length (by omega)
  have h1 := is_lt hw h.is
  unfold HS.tag HS.raw at h1
  rw [h.head, g1, g2] at h1
  rw [e.at (by omega)]
  exact h.raws i x hx
theorem limbs_flat (S : HS) (t : Int) : ∀ k : Nat, S.limbs t k = (List.range k).flatMap fun i : Nat => twoL (S.rawAt t (1 + (i : Int))) := by
  intro k
  induction k with
  | zero => rfl
  | succ k ih => rw [List.range_succ, List.flatMap_append, ← ih]; simp [HS.limbs]
theorem range_flat {α : Type} {q : Nat} {f g : Nat → List α} (h : ∀ i, i < q → f i = g i) : (List.range q).flatMap f = (List.range q).flatMap g := by
  induction q with
  | zero => rfl
  | succ q ih => rw [List.range_succ, List.flatMap_append, List.flatMap_append, ih fun i hi => h i (by omega)]; simp [h q (by omega)]
theorem NumIn.num {S : HS} {v t : Int} (h : NumIn S v t) (hw : WfH S.ws S.bs) (hl : (limbsOf v.natAbs).length ≤ 256) (hs : isSmall v = false) : S.num t = some v := by
  have ht0 := is_nonneg hw h.is
  have hwl := numWords_len v
  obtain ⟨g1, g2, g3⟩ := num_head (numWords v).length (by omega)
  have e1 : S.tag t = 0 := by unfold HS.tag; rw [h.head]; exact g1
  have e2 : S.raw t = (numWords v).length := by unfold HS.raw; rw [h.head]; exact g2
  have e3 : S.kind t = 5 := by unfold HS.kind; rw [h.head]; exact g3
  have hraw : ∀ (i : Nat) x, (numWords v)[i]? = some x → S.rawAt t i = x := by
    intro i x hx
    have hi := (List.getElem?_eq_some_iff.1 hx).1
    unfold HS.rawAt HS.getRaw
    rw [if_pos (by rw [e2]; omega), e1]
    simp only
    rw [show fieldAt t 0 i = (t / 4).toNat + 1 + i by unfold fieldAt; omega]
    exact h.raws i x hx
  have h0 : S.rawAt t 0 = if v < 0 then 1 else 0 := hraw 0 _ rfl
  obtain ⟨q, hq⟩ : ∃ q, ((limbsOf v.natAbs).length + 1) / 2 = q := ⟨_, rfl⟩
  have hr1 : (S.raw t - 1).toNat = q := by rw [e2, hwl]; omega
  have hll : S.limbs t q = (List.range (2 * q)).map fun j => (limbsOf v.natAbs).getD j 0 := by
    rw [limbs_flat, ← pair_limbs (limbsOf_limbs _)]
    refine range_flat fun i hi => ?_
    congr 1
    have := hraw (1 + i) (pairAt (limbsOf v.natAbs) i) (by
      unfold numWords pairW
      rw [hq, Nat.add_comm, List.getElem?_cons_succ, List.getElem?_map, List.getElem?_range hi]; rfl)
    rw [← this]
    congr 1
  have hvl : valL (S.limbs t q) = v.natAbs := by rw [hll, valL_pad _ _ (by omega), valL_limbsOf]
  have hv : S.numV t = v := by
    unfold HS.numV
    rw [hr1, hvl, h0]
    unfold sgn
    by_cases hn : v < 0
    · rw [if_pos hn]; simp; omega
    · rw [if_neg hn]; simp; omega
  have hfit : S.numFit t = true := by
    unfold HS.numFit HS.shape
    rw [h0, e1, e3]
    simp only [Bool.and_eq_true, decide_eq_true_eq, Bool.or_eq_true]
    exact ⟨⟨trivial, .inr trivial, .inl (by decide)⟩, by split <;> decide⟩
  have h4 : t % 4 = 0 := (is_iff.1 h.is).1
  unfold HS.num
  rw [if_neg (by omega), if_pos, hv]
  unfold HS.numOk
  rw [hfit, hv, hs, hr1, hq]
  simp
/-- What Number lays is that number; nothing is laid for a small one. -/
theorem fixW_num (S : HS) {v : Int} (h : isSmall v = true) : S.num (fixW v) = some v := by
  unfold isSmall at h
  rw [Bool.and_eq_true, decide_eq_true_eq, decide_eq_true_eq] at h
  have h4 : fixW v % 4 = 1 := by unfold fixW; split <;> omega
  unfold HS.num
  rw [if_pos h4]
  congr 1
  unfold intW
  rw [if_pos h4]
  unfold fixW at *
  rw [if_pos h] at *
  split <;> omega
end Go.Proofs.Ytanjiecefioffaa

/- value.Store: Number. -/
namespace Go.Proofs.Ytanjiecefioffaa
open Go.RowKit

theorem info_u64n : (Try.prog.info? 22).map (fun i => (i.zero, i.size, i.bytes)) = some (some (.int .u64 0), 1, 8) := by kernel_rfl
theorem pair_or (W x : Int) (r : Nat) (hr : r < 2) (h0 : 0 ≤ W) (h1 : W < 4294967296 ^ r) (x0 : 0 ≤ x) (x1 : x < 4294967296) : bits .or .u64 W (IntKind.u64.wrap (x * 2 ^ (r * 32))) = W + 4294967296 ^ r * x := by
  have e : (2 : Int) ^ (r * 32) = 4294967296 ^ r := by rw [Nat.mul_comm, Int.pow_mul]; rfl
  have h := u64_or_add (r * 32) W x h0 (by rw [e]; exact h1) x0 (by match r, hr with
    | 0, _ => omega
    | 1, _ => omega) (by rw [e]; match r, hr with
    | 0, _ => omega
    | 1, _ => omega)
  rw [e] at h ⊢
  have h2 : IntKind.u64.wrap (x * 4294967296 ^ r) = 4294967296 ^ r * x := by
    rw [Int.mul_comm x, IntKind.wrap_u64]
    match r, hr with
    | 0, _ => omega
    | 1, _ => omega
  rw [h2]
  exact h
theorem pairs_set (l : List Int) {k q : Nat} {x : Int} (hx : l[k]? = some x) (hk : k / 2 < q) (n : Int) :
    ((n :: pairW (l.take k) q).map u64).set (1 + k / 2) (.int .u64 (pairAt (l.take (k + 1)) (k / 2))) = (n :: pairW (l.take (k + 1)) q).map u64 := by
  rw [Nat.add_comm, List.map_cons, List.set_cons_succ, List.map_cons]
  congr 1
  unfold pairW
  apply List.ext_getElem?
  intro j
  rw [List.map_map, List.map_map]
  by_cases hj : j = k / 2
  · subst hj
    rw [List.getElem?_set_self (by simp; exact hk), List.getElem?_map, List.getElem?_range hk]; rfl
  · rw [List.getElem?_set_ne (fun e => hj e.symm), List.getElem?_map, List.getElem?_map]
    rcases Nat.lt_or_ge j q with a | a
    · rw [List.getElem?_range a]
      simp only [Option.map_some, Function.comp]
      rw [pairAt_step hx j, if_neg hj]
    · rw [List.getElem?_eq_none (by simp; omega)]; rfl
def PRel (W : World) (X : StV) (V : HV) (S : HS) (Y : StS) (R : HP) (bo q : Nat) (n : Int) (l : List Int) (i : Value) (wr : World) : Prop :=
  ∃ k : Nat, k ≤ l.length ∧ i = .int .i64 k ∧ StW wr X V S Y (row 22 1 bo (1 + q) ((n :: pairW (l.take k) q).map Go.Proofs.Ytanjiecefioffaa.u64) * R) ∧ Below 0 W wr
section
variable {w : World} {X : StV} {V : HV} {S : HS} {Y : StS} {R Q : HP}
set_option maxRecDepth 100000 in
set_option maxHeartbeats 2000000 in
theorem StW.Number (h : StW w X V S Y R) (n : Bool) (ao : Option Addr) (ca : Nat) (a : List Int) (ha : ∀ w, sat w R → LimbsW w ao a) (la : Limbs a) (na : a.length ≤ topB) (hca : a.length ≤ ca) :
    Calls Try.prog 33 #[.pointer (some ⟨X.g, 0, none⟩), .agg #[.bool n, .slice ao a.length ca]] w (StLaid X V.g (S.number (sgn n (valL a))).1 Y R (S.number (sgn n (valL a))).2.1 (S.number (sgn n (valL a))).2.2 w) := by
  have h1 := h.push (.cells #[.bool n, .slice ao a.length ca] 51)
  have hb1 : Below 0 w (w.alloc (.cells #[.bool n, .slice ao a.length ca] 51)) := Below.zero_alloc _ _
  obtain ⟨g, hg⟩ : ∃ g, w.heap.size = g := ⟨_, rfl⟩
  rw [hg] at h1
  have hSm := num_Small h1.s n ao ca a (fun w h => ha w h.right.right.right) la na hca
  obtain ⟨v, hv⟩ : ∃ v, sgn n (valL a) = v := ⟨_, rfl⟩
  rw [hv] at hSm ⊢
  have a0 := (h1.fr.left.cell 0).trans (show _ = some (Value.bool n) from rfl)
  have a1 := (h1.fr.left.cell 1).trans (show _ = some (Value.slice ao a.length ca) from rfl)
  have HA := Lib.hid (And.intro h1 (And.intro hb1 (And.intro ha (And.intro la hv))))
  clear h1 hb1 ha la hv h
  go_enter Try.func33, Try.ntmps33
  go_wp2_with fail
  generalize w.alloc (.cells #[.bool n, .slice ao a.length ca] 51) = w1 at *
  with_reducible refine hSm.mono ?_
  clear hSm
  rintro e w2 ⟨rfl, hs2, hb2⟩
  have h2 : StW w2 X V S Y (Go.Proofs.Ytanjiecefioffaa.blk g (.cells #[.bool n, .slice ao a.length ca] 51 (0, 0)) * R) := ⟨hs2, HA.out.1.ok⟩
  have hb3 := HA.out.2.1.trans hb2
  clear hs2 hb2 a0 a1
  cases hsm : isSmall v with
  | true =>
    have hsv : smallI v = v := by unfold smallI; rw [hsm]; rfl
    have hnum : S.number v = (S, fixW v, true) := by unfold HS.number; rw [if_pos hsm]
    have hbd : -2305843009213693952 ≤ v ∧ v < 2305843009213693952 := by
      unfold isSmall at hsm
      rw [Bool.and_eq_true, decide_eq_true_eq, decide_eq_true_eq] at hsm
      exact hsm
    have hF := Fix_any w2 v (by omega) (by omega)
    rw [show fixB v = true from hsm] at hF
    rw [hsv]
    have HF := Lib.hid (And.intro h2.drop (And.intro hb3 hnum))
    clear hsm hsv hnum h2 hb3
    go_wp2_with fail
    refine hF.mono ?_
    clear hF
    rintro e w3 ⟨rfl, j, rfl⟩
    go_wp2_with fail
    go_ret2
    rw [HF.out.2.2]
    exact ⟨rfl, HF.out.2.1.trans (drewN_below0 _ j), V, rfl, HF.out.1.drewN j⟩
  | false =>
    have a0 := (h2.fr.left.cell 0).trans (show _ = some (Value.bool n) from rfl)
    have a1 := (h2.fr.left.cell 1).trans (show _ = some (Value.slice ao a.length ca) from rfl)
    have h3 := h2.push (.cells #[.bool n, .slice ao a.length ca] 51)
    have hb4 := hb3.trans (Below.zero_alloc w2 (.cells #[.bool n, .slice ao a.length ca] 51))
    have hs3 : sat (w2.alloc (.cells #[.bool n, .slice ao a.length ca] 51)) (Go.Proofs.Ytanjiecefioffaa.blk w2.heap.size (.cells #[.bool n, .slice ao a.length ca] 51 (0, 0)) * (Go.Proofs.Ytanjiecefioffaa.blk g (.cells #[.bool n, .slice ao a.length ca] 51 (0, 0)) * (isHeap V S * (isSt X V.g Y * R)))) := h3.s.perm (by ac_rfl)
    have hSum := num_Sum w2.heap.size 1 #[.bool n, .slice ao a.length ca] [(n, a)] hs3 (by
        intro j m l hj
        match j, hj with
        | 0, hj =>
          simp at hj
          obtain ⟨rfl, rfl⟩ := hj
          exact ⟨ao, ca, rfl, rfl, hca, fun w h => HA.out.2.2.1 w h.right.right.right, HA.out.2.2.2.1, na⟩) (by show 1 ≤ 2; decide)
    rw [show [(n, a)].length = 1 from rfl, show sumI [(n, a)] = sgn n (valL a) by simp [sumI], HA.out.2.2.2.2] at hSum
    unfold SumPost at hSum
    obtain ⟨q0, hq0⟩ : ∃ q0, decide (v < 0) = q0 := ⟨_, rfl⟩
    obtain ⟨m, hm⟩ : ∃ m, limbsOf v.natAbs = m := ⟨_, rfl⟩
    rw [hq0, hm] at hSum
    have hml : Limbs m := hm ▸ limbsOf_limbs _
    have HB := Lib.hid (And.intro hb4 (And.intro hq0 (And.intro hm (And.intro hml hsm))))
    have hok := h2.ok
    clear h2 hb3 h3 hb4 hs3 hq0 hm hsm hml
    generalize smallI v = sv at *
    go_wp2_with fail
    with_reducible refine hSum.mono ?_
    clear hSum
    rintro e w4 ⟨sl, rfl, hs4, hb5⟩
    obtain ⟨lo, lc, rfl⟩ := own_val hs4
    have hs5 : sat w4 (Go.Proofs.Ytanjiecefioffaa.blk g (.cells #[.bool n, .slice ao a.length ca] 51 (0, 0)) * (isHeap V S * (isSt X V.g Y * (own 70 1 (.slice lo m.length lc) m.length (m.map u32v) * R)))) := hs4.perm (by ac_rfl)
    have b0 := (hs5.left.cell 0).trans (show _ = some (Value.bool n) from rfl)
    have b1 := (hs5.left.cell 1).trans (show _ = some (Value.slice ao a.length ca) from rfl)
    have f0 := hs5.left.frozen 0
    have f1 := hs5.left.frozen 1
    have hs6 := (hs5.setCell (off := 0) (.bool q0)).setCell (off := 1) (.slice lo m.length lc)
    have hb6 : Below 0 w ((w4.setCell ⟨g, 0, none⟩ (.bool q0)).setCell ⟨g, 1, none⟩ (.slice lo m.length lc)) := ((HB.out.1.trans hb5).setCell (p := ⟨g, 0, none⟩) (Nat.zero_le _) _).setCell (p := ⟨g, 1, none⟩) (Nat.zero_le _) _
    have c0 := (hs6.left.cell 0).trans (show _ = some (Value.bool q0) from rfl)
    have c1 := (hs6.left.cell 1).trans (show _ = some (Value.slice lo m.length lc) from rfl)
    have h6 : StW ((w4.setCell ⟨g, 0, none⟩ (.bool q0)).setCell ⟨g, 1, none⟩ (.slice lo m.length lc)) X V S Y (Go.Proofs.Ytanjiecefioffaa.blk g (.cells #[.bool q0, .slice lo m.length lc] 51 (0, 0)) * (own 70 1 (.slice lo m.length lc) m.length (m.map u32v) * R)) := ⟨hs6.perm (by show _ = _ * (_ * (_ * _)); ac_rfl), hok⟩
    clear hs4 hb5 hs5 hs6 hok
    obtain ⟨w6, hw6⟩ : ∃ w6, (w4.setCell ⟨g, 0, none⟩ (.bool q0)).setCell ⟨g, 1, none⟩ (.slice lo m.length lc) = w6 := ⟨_, rfl⟩
    rw [hw6] at c0 c1 h6 hb6
    have HC := Lib.hid (And.intro h6 hb6)
    clear h6 hb6
    by_cases hbig : m.length ≤ 256
    · have g1 : decide ((m.length : Int) > 256) = false := by simp; omega
      obtain ⟨q, hq⟩ : ∃ q, (m.length + 1) / 2 = q := ⟨_, rfl⟩
      have e1 : ((m.length : Int) + 1).tdiv 2 = (q : Int) := by rw [Int.tdiv_eq_ediv_of_nonneg (by omega)]; omega
      have e2 : ((m.length : Int) + 1) / 2 = (q : Int) := by omega
      have g2 : IntKind.i64.wrap (q : Int) = q := IntWalk.i64_in _ (by omega)
      have g3 : IntKind.i64.wrap (1 + (q : Int)) = 1 + q := IntWalk.i64_in _ (by omega)
      have hlen : 1 + q = (numWords v).length := by rw [numWords_len, HB.out.2.2.1, hq]
      have hlen2 : (1 + (q : Int)).toNat = (numWords v).length := by omega
      have HQ := Lib.hid hq
      obtain ⟨i0, hi, hz0, hz1, hz2⟩ := info_parts info_u64n
      have H1 := Lib.hid (And.intro hi (And.intro hz0 (And.intro hz1 hz2)))
      clear hi hz0 hz1 hz2
      go_wp2_with (at_make; refine halt ?_)
      refine goon ?_
      obtain ⟨hi, hz0, hz1, hz2⟩ := H1.out
      refine wpList_make_sat rfl 35 (.tmp 33) (.tmp 33) rfl 22 i0 (.int .u64 0) 8 Try.underlying35 hi hz0 hz1 hz2 rfl .i64 .i64 (1 + (q : Int)) (isHeap V S * (isSt X V.g Y * (Go.Proofs.Ytanjiecefioffaa.blk g (.cells #[.bool q0, .slice lo m.length lc] 51 (0, 0)) * (own 70 1 (.slice lo m.length lc) m.length (m.map u32v) * R)))) rfl rfl ?_ HC.out.1.s (by omega) (by omega) (by omega)
      clear hi hz0 hz1 hz2
      intro bo w7 hs7 hb7
      have hs8 : sat w7 (row 22 1 bo (1 + q) ((0 :: pairW (m.take 0) q).map Go.Proofs.Ytanjiecefioffaa.u64) * (isHeap V S * (isSt X V.g Y * (Go.Proofs.Ytanjiecefioffaa.blk g (.cells #[.bool q0, .slice lo m.length lc] 51 (0, 0)) * (own 70 1 (.slice lo m.length lc) m.length (m.map u32v) * R))))) := by
        rw [show (1 + (q : Int)).toNat = 1 + q by omega] at hs7
        refine hs7.perm ?_
        congr 2
        rw [show 1 + q = q + 1 by omega, List.replicate_succ, List.map_cons]
        congr 1
        apply List.ext_getElem?
        intro j
        unfold pairW
        rw [List.map_map, List.getElem?_map, List.getElem?_replicate]
        by_cases hj : j < q
        · rw [if_pos hj, List.getElem?_range hj]
          simp [pairAt]
        · rw [if_neg hj, List.getElem?_eq_none (by simp; omega)]; rfl
      have hb8 := HC.out.2.trans hb7
      have hok8 := HC.out.1.ok
      clear hs7 hb7 HC hw6 b0 b1 f0 f1 c0 c1
      have c0 := (hs8.right.right.right.left.cell 0).trans (show _ = some (Value.bool q0) from rfl)
      have c1 := (hs8.right.right.right.left.cell 1).trans (show _ = some (Value.slice lo m.length lc) from rfl)
      cases q0 with
      | true =>
        have hf0 := hs8.row_frozen 0
        have hc0 : w7.cell? ⟨bo, 0, none⟩ = some (.int .u64 0) := hs8.row_cell rfl
        have hs9 := hs8.row_set 0 (.int .u64 1)
        have hb9 := hb8.setCell (p := ⟨bo, 0, none⟩) (Nat.zero_le _) (.int .u64 1)
        have hs10 : sat (w7.setCell ⟨bo, 0, none⟩ (.int .u64 1)) (row 22 1 bo (1 + q) ((1 :: pairW (m.take 0) q).map Go.Proofs.Ytanjiecefioffaa.u64) * (isHeap V S * (isSt X V.g Y * (Go.Proofs.Ytanjiecefioffaa.blk g (.cells #[.bool true, .slice lo m.length lc] 51 (0, 0)) * (own 70 1 (.slice lo m.length lc) m.length (m.map u32v) * R))))) := hs9
        have h9 : StW (w7.setCell ⟨bo, 0, none⟩ (.int .u64 1)) X V S Y (row 22 1 bo (1 + q) ((1 :: pairW (m.take 0) q).map Go.Proofs.Ytanjiecefioffaa.u64) * (Go.Proofs.Ytanjiecefioffaa.blk g (.cells #[.bool true, .slice lo m.length lc] 51 (0, 0)) * (own 70 1 (.slice lo m.length lc) m.length (m.map u32v) * R))) := ⟨hs10.perm (by ac_rfl), hok8⟩
        have k0 := (hs10.right.right.right.left.cell 0).trans (show _ = some (Value.bool true) from rfl)
        have k1 := (hs10.right.right.right.left.cell 1).trans (show _ = some (Value.slice lo m.length lc) from rfl)
        clear hs8 hs9 hs10 hb8 hok8
        obtain ⟨w9, hw9⟩ : ∃ w9, w7.setCell ⟨bo, 0, none⟩ (.int .u64 1) = w9 := ⟨_, rfl⟩
        rw [hw9] at h9 hb9 k0 k1
        have HS := Lib.hid (And.intro h9 hb9)
        clear h9 hb9
        go_wp2_with fail
        go_loopw [42] (PRel w X V S Y (Go.Proofs.Ytanjiecefioffaa.blk g (.cells #[.bool true, .slice lo m.length lc] 51 (0, 0)) * (own 70 1 (.slice lo m.length lc) m.length (m.map u32v) * R)) bo q 1 m) (fun i _ => m.length - (intOf i).toNat)
        case atStart => exact ⟨0, Nat.zero_le _, rfl, HS.out.1, HS.out.2⟩
        case round =>
          clear HS
          obtain ⟨k, hk, rfl, hs, hb'⟩ := hrel
          by_cases hlt : k < m.length
          · obtain ⟨x, ex⟩ : ∃ x, m[k]? = some x := ⟨_, List.getElem?_eq_getElem hlt⟩
            have hxb := HB.out.2.2.2.1 x (List.mem_of_getElem? ex)
            obtain ⟨a9, rfl, hcx⟩ := limbs_own rfl hs.fr.right.right k x ex
            have hkq : k / 2 < q := by omega
            have hcell := hs.fr.row_cell (j := 1 + k / 2) (v := .int .u64 (pairAt (m.take k) (k / 2))) (by
              rw [Nat.add_comm, List.map_cons, List.getElem?_cons_succ, List.getElem?_map]
              unfold pairW
              rw [List.getElem?_map, List.getElem?_range hkq]; rfl)
            have hfr := hs.fr.row_frozen (1 + k / 2)
            have e1 : ((k : Int) / 2) = ((k / 2 : Nat) : Int) := by omega
            have e2 : ((k : Int).tdiv 2) = ((k / 2 : Nat) : Int) := by rw [Int.tdiv_eq_ediv_of_nonneg (by omega)]; omega
            have e3 : ((k : Int).tmod 2) = ((k % 2 : Nat) : Int) := by rw [Int.tmod_eq_emod_of_nonneg (by omega)]; omega
            have HX := Lib.hid (And.intro ex e1)
            clear ex e1
            go_wp2_with fail
            have g1 : IntKind.i64.wrap ((k / 2 : Nat) : Int) = ((k / 2 : Nat) : Int) := IntWalk.i64_in _ (by omega)
            have g2 : IntKind.i64.wrap (1 + ((k / 2 : Nat) : Int)) = 1 + ((k / 2 : Nat) : Int) := IntWalk.i64_in _ (by omega)
            have g3 : (1 + ((k / 2 : Nat) : Int)).toNat = 1 + k / 2 := by omega
            have g4 : IntKind.u64.wrap x = x := by rw [IntKind.wrap_u64]; omega
            have g5 : IntKind.i64.wrap ((k % 2 : Nat) : Int) = ((k % 2 : Nat) : Int) := IntWalk.i64_in _ (by omega)
            have g6 : IntKind.i64.wrap (((k % 2 : Nat) : Int) * 32) = ((32 * (k % 2) : Nat) : Int) := by rw [IntWalk.i64_in _ (by omega)]; omega
            have g7 : decide (1 + ((k / 2 : Nat) : Int) < 1 + (q : Int)) = true := by simp; omega
            go_region
            have hlow := pairAt_low HB.out.2.2.2.1 k
            have hwb := pairAt_bd (l := m.take k) (fun z hz => HB.out.2.2.2.1 z (List.mem_of_mem_take hz)) (k / 2)
            rw [pair_or (pairAt (m.take k) (k / 2)) x (k % 2) (by omega) hwb.1 hlow hxb.1 hxb.2]
            have hst := pairAt_step HX.out.1 (k / 2)
            rw [if_pos rfl] at hst
            rw [← hst]
            have hs3 : sat wr (row 22 1 bo (1 + q) ((1 :: pairW (m.take k) q).map Go.Proofs.Ytanjiecefioffaa.u64) * (isHeap V S * (isSt X V.g Y * (Go.Proofs.Ytanjiecefioffaa.blk g (.cells #[.bool true, .slice (some a9) m.length lc] 51 (0, 0)) * (own 70 1 (.slice (some a9) m.length lc) m.length (m.map u32v) * R))))) := hs.s.perm (by ac_rfl)
            have hs4 := hs3.row_set (1 + k / 2) (.int .u64 (pairAt (m.take (k + 1)) (k / 2)))
            rw [pairs_set m HX.out.1 hkq] at hs4
            have hb4 := hb'.setCell (p := ⟨bo, 1 + k / 2, none⟩) (Nat.zero_le _) (.int .u64 (pairAt (m.take (k + 1)) (k / 2)))
            have h5 : StW _ X V S Y (row 22 1 bo (1 + q) ((1 :: pairW (m.take (k + 1)) q).map Go.Proofs.Ytanjiecefioffaa.u64) * (Go.Proofs.Ytanjiecefioffaa.blk g (.cells #[.bool true, .slice (some a9) m.length lc] 51 (0, 0)) * (own 70 1 (.slice (some a9) m.length lc) m.length (m.map u32v) * R))) := ⟨hs4.drew.perm (by ac_rfl), hs.ok⟩
            have HF := Lib.hid (And.intro h5 (hb4.trans (drewN_below0 _ 1)))
            clear hst hlow hwb hs3 hs4 h5 hb4 hs hb' hcell hfr hcx
            go_wp2_with fail
            go_roundw
            case rel => exact ⟨k + 1, by omega, by go_num, HF.out.1, HF.out.2⟩
            case measure => simp [intOf]; omega
          · obtain rfl : k = m.length := by omega
            have hge : decide ((m.length : Int) < (m.length : Int)) = false := by simp
            rw [List.take_of_length_le (Nat.le_refl _)] at hs
            have hnw : 1 :: pairW m q = numWords v := by
              unfold numWords
              rw [HB.out.2.2.1, HQ.out]
              congr 1
              have := HB.out.2.1
              rw [if_pos (of_decide_eq_true this)]
            rw [hnw, hlen] at hs
            have hnum : S.number v = if S.room 5 0 ((numWords v).length : Nat) = true then (S.part 5 0 (numWords v).length 0 (numWords v) (numWords v).length, 4 * (S.ws.length : Int), true) else (S, 0, false) := by
              unfold HS.number
              rw [if_neg (by rw [HB.out.2.2.2.2]; decide), HB.out.2.2.1]
              simp only [hbig, true_and]
            have hRd : WordsIn (row 22 1 bo (numWords v).length ((numWords v).map Go.Proofs.Ytanjiecefioffaa.u64) * (Go.Proofs.Ytanjiecefioffaa.blk g (.cells #[.bool true, .slice lo m.length lc] 51 (0, 0)) * (own 70 1 (.slice lo m.length lc) m.length (m.map u32v) * R))) (some ⟨bo, 0, none⟩) (numWords v) := fun w hs => reads_row hs
            have hraw : Calls Try.prog 54 #[.pointer (some ⟨X.g, 0, none⟩), .int .i64 5, .slice (some ⟨bo, 0, none⟩) (numWords v).length (numWords v).length] wr (StLaid X V.g (S.number v).1 Y (row 22 1 bo (numWords v).length ((numWords v).map Go.Proofs.Ytanjiecefioffaa.u64) * (Go.Proofs.Ytanjiecefioffaa.blk g (.cells #[.bool true, .slice lo m.length lc] 51 (0, 0)) * (own 70 1 (.slice lo m.length lc) m.length (m.map u32v) * R))) (S.number v).2.1 (S.number v).2.2 wr) := by
              rw [hnum]
              cases hr : S.room 5 0 ((numWords v).length : Nat) with
              | true => exact hs.raw_yes 5 (some ⟨bo, 0, none⟩) (numWords v).length (numWords v) hRd (numWords_u v) hr
              | false => exact hs.raw_no 5 (some ⟨bo, 0, none⟩) (numWords v).length (numWords v) hRd (numWords_u v) (by omega) hr
            have HF := Lib.hid (And.intro hraw hb')
            clear hs hb' hraw hnum hRd hnw
            go_wp2_with fail
            with_reducible refine HF.out.1.mono ?_
            rintro e w10 ⟨rfl, hb10, V5, hg5, h10⟩
            have HG := Lib.hid (And.intro (HF.out.2.trans hb10) (And.intro hg5 h10.drop.drop.drop))
            clear hb10 hg5 h10 HF
            go_wp2_with fail
            go_ret2
            exact ⟨rfl, HG.out.1, V5, HG.out.2.1, HG.out.2.2⟩
      | false =>
        have hb9 := hb8
        have h9 : StW w7 X V S Y (row 22 1 bo (1 + q) ((0 :: pairW (m.take 0) q).map Go.Proofs.Ytanjiecefioffaa.u64) * (Go.Proofs.Ytanjiecefioffaa.blk g (.cells #[.bool false, .slice lo m.length lc] 51 (0, 0)) * (own 70 1 (.slice lo m.length lc) m.length (m.map u32v) * R))) := ⟨hs8.perm (by ac_rfl), hok8⟩
        clear hs8 hb8 hok8
        have HS := Lib.hid (And.intro h9 hb9)
        clear h9 hb9
        go_wp2_with fail
        go_loopw [42] (PRel w X V S Y (Go.Proofs.Ytanjiecefioffaa.blk g (.cells #[.bool false, .slice lo m.length lc] 51 (0, 0)) * (own 70 1 (.slice lo m.length lc) m.length (m.map u32v) * R)) bo q 0 m) (fun i _ => m.length - (intOf i).toNat)
        case atStart => exact ⟨0, Nat.zero_le _, rfl, HS.out.1, HS.out.2⟩
        case round =>
          clear HS
          obtain ⟨k, hk, rfl, hs, hb'⟩ := hrel
          by_cases hlt : k < m.length
          · obtain ⟨x, ex⟩ : ∃ x, m[k]? = some x := ⟨_, List.getElem?_eq_getElem hlt⟩
            have hxb := HB.out.2.2.2.1 x (List.mem_of_getElem? ex)
            obtain ⟨a9, rfl, hcx⟩ := limbs_own rfl hs.fr.right.right k x ex
            have hkq : k / 2 < q := by omega
            have hcell := hs.fr.row_cell (j := 1 + k / 2) (v := .int .u64 (pairAt (m.take k) (k / 2))) (by
              rw [Nat.add_comm, List.map_cons, List.getElem?_cons_succ, List.getElem?_map]
              unfold pairW
              rw [List.getElem?_map, List.getElem?_range hkq]; rfl)
            have hfr := hs.fr.row_frozen (1 + k / 2)
            have e1 : ((k : Int) / 2) = ((k / 2 : Nat) : Int) := by omega
            have e2 : ((k : Int).tdiv 2) = ((k / 2 : Nat) : Int) := by rw [Int.tdiv_eq_ediv_of_nonneg (by omega)]; omega
            have e3 : ((k : Int).tmod 2) = ((k % 2 : Nat) : Int) := by rw [Int.tmod_eq_emod_of_nonneg (by omega)]; omega
            have HX := Lib.hid (And.intro ex e1)
            clear ex e1
            go_wp2_with fail
            have g1 : IntKind.i64.wrap ((k / 2 : Nat) : Int) = ((k / 2 : Nat) : Int) := IntWalk.i64_in _ (by omega)
            have g2 : IntKind.i64.wrap (1 + ((k / 2 : Nat) : Int)) = 1 + ((k / 2 : Nat) : Int) := IntWalk.i64_in _ (by omega)
            have g3 : (1 + ((k / 2 : Nat) : Int)).toNat = 1 + k / 2 := by omega
            have g4 : IntKind.u64.wrap x = x := by rw [IntKind.wrap_u64]; omega
            have g5 : IntKind.i64.wrap ((k % 2 : Nat) : Int) = ((k % 2 : Nat) : Int) := IntWalk.i64_in _ (by omega)
            have g6 : IntKind.i64.wrap (((k % 2 : Nat) : Int) * 32) = ((32 * (k % 2) : Nat) : Int) := by rw [IntWalk.i64_in _ (by omega)]; omega
            have g7 : decide (1 + ((k / 2 : Nat) : Int) < 1 + (q : Int)) = true := by simp; omega
            go_region
            have hlow := pairAt_low HB.out.2.2.2.1 k
            have hwb := pairAt_bd (l := m.take k) (fun z hz => HB.out.2.2.2.1 z (List.mem_of_mem_take hz)) (k / 2)
            rw [pair_or (pairAt (m.take k) (k / 2)) x (k % 2) (by omega) hwb.1 hlow hxb.1 hxb.2]
            have hst := pairAt_step HX.out.1 (k / 2)
            rw [if_pos rfl] at hst
            rw [← hst]
            have hs3 : sat wr (row 22 1 bo (1 + q) ((0 :: pairW (m.take k) q).map Go.Proofs.Ytanjiecefioffaa.u64) * (isHeap V S * (isSt X V.g Y * (Go.Proofs.Ytanjiecefioffaa.blk g (.cells #[.bool false, .slice (some a9) m.length lc] 51 (0, 0)) * (own 70 1 (.slice (some a9) m.length lc) m.length (m.map u32v) * R))))) := hs.s.perm (by ac_rfl)
            have hs4 := hs3.row_set (1 + k / 2) (.int .u64 (pairAt (m.take (k + 1)) (k / 2)))
            rw [pairs_set m HX.out.1 hkq] at hs4
            have hb4 := hb'.setCell (p := ⟨bo, 1 + k / 2, none⟩) (Nat.zero_le _) (.int .u64 (pairAt (m.take (k + 1)) (k / 2)))
            have h5 : StW _ X V S Y (row 22 1 bo (1 + q) ((0 :: pairW (m.take (k + 1)) q).map Go.Proofs.Ytanjiecefioffaa.u64) * (Go.Proofs.Ytanjiecefioffaa.blk g (.cells #[.bool false, .slice (some a9) m.length lc] 51 (0, 0)) * (own 70 1 (.slice (some a9) m.length lc) m.length (m.map u32v) * R))) := ⟨hs4.drew.perm (by ac_rfl), hs.ok⟩
            have HF := Lib.hid (And.intro h5 (hb4.trans (drewN_below0 _ 1)))
            clear hst hlow hwb hs3 hs4 h5 hb4 hs hb' hcell hfr hcx
            go_wp2_with fail
            go_roundw
            case rel => exact ⟨k + 1, by omega, by go_num, HF.out.1, HF.out.2⟩
            case measure => simp [intOf]; omega
          · obtain rfl : k = m.length := by omega
            have hge : decide ((m.length : Int) < (m.length : Int)) = false := by simp
            rw [List.take_of_length_le (Nat.le_refl _)] at hs
            have hnw : 0 :: pairW m q = numWords v := by
              unfold numWords
              rw [HB.out.2.2.1, HQ.out]
              congr 1
              have := HB.out.2.1
              rw [if_neg (of_decide_eq_false this)]
            rw [hnw, hlen] at hs
            have hnum : S.number v = if S.room 5 0 ((numWords v).length : Nat) = true then (S.part 5 0 (numWords v).length 0 (numWords v) (numWords v).length, 4 * (S.ws.length : Int), true) else (S, 0, false) := by
              unfold HS.number
              rw [if_neg (by rw [HB.out.2.2.2.2]; decide), HB.out.2.2.1]
              simp only [hbig, true_and]
            have hRd : WordsIn (row 22 1 bo (numWords v).length ((numWords v).map Go.Proofs.Ytanjiecefioffaa.u64) * (Go.Proofs.Ytanjiecefioffaa.blk g (.cells #[.bool false, .slice lo m.length lc] 51 (0, 0)) * (own 70 1 (.slice lo m.length lc) m.length (m.map u32v) * R))) (some ⟨bo, 0, none⟩) (numWords v) := fun w hs => reads_row hs
            have hraw : Calls Try.prog 54 #[.pointer (some ⟨X.g, 0, none⟩), .int .i64 5, .slice (some ⟨bo, 0, none⟩) (numWords v).length (numWords v).length] wr (StLaid X V.g (S.number v).1 Y (row 22 1 bo (numWords v).length ((numWords v).map Go.Proofs.Ytanjiecefioffaa.u64) * (Go.Proofs.Ytanjiecefioffaa.blk g (.cells #[.bool false, .slice lo m.length lc] 51 (0, 0)) * (own 70 1 (.slice lo m.length lc) m.length (m.map u32v) * R))) (S.number v).2.1 (S.number v).2.2 wr) := by
              rw [hnum]
              cases hr : S.room 5 0 ((numWords v).length : Nat) with
              | true => exact hs.raw_yes 5 (some ⟨bo, 0, none⟩) (numWords v).length (numWords v) hRd (numWords_u v) hr
              | false => exact hs.raw_no 5 (some ⟨bo, 0, none⟩) (numWords v).length (numWords v) hRd (numWords_u v) (by omega) hr
            have HF := Lib.hid (And.intro hraw hb')
            clear hs hb' hraw hnum hRd hnw
            go_wp2_with fail
            with_reducible refine HF.out.1.mono ?_
            rintro e w10 ⟨rfl, hb10, V5, hg5, h10⟩
            have HG := Lib.hid (And.intro (HF.out.2.trans hb10) (And.intro hg5 h10.drop.drop.drop))
            clear hb10 hg5 h10 HF
            go_wp2_with fail
            go_ret2
            exact ⟨rfl, HG.out.1, V5, HG.out.2.1, HG.out.2.2⟩
    · have g1 : decide ((m.length : Int) > 256) = true := by simp; omega
      have hnum : S.number v = (S, 0, false) := by
        unfold HS.number
        rw [if_neg (by rw [HB.out.2.2.2.2]; decide), if_neg (by rw [HB.out.2.2.1]; exact fun h => hbig h.1)]
      have HN := Lib.hid hnum
      clear hnum
      go_wp2_with fail
      go_ret2
      rw [HN.out]
      exact ⟨rfl, HC.out.2, V, rfl, HC.out.1.drop.drop⟩
end
end Go.Proofs.Ytanjiecefioffaa

/- What Number makes, plainly. -/
namespace Go.Proofs.Ytanjiecefioffaa
open Go.RowKit

/-- A word is this number. -/
def NumTold (S : HS) (v x : Int) : Prop := (0 ≤ x ∧ x < 18446744073709551616) ∧ ((isSmall v = true ∧ x = fixW v) ∨ (isSmall v = false ∧ (limbsOf v.natAbs).length ≤ 256 ∧ NumIn S v x))
theorem NumTold.ext {S S' : HS} {v x : Int} (h : NumTold S v x) (e : Ext S S') (hw : WfH S.ws S.bs) : NumTold S' v x := by
  obtain ⟨hb, h | ⟨h1, h2, h3⟩⟩ := h
  · exact ⟨hb, .inl h⟩
  · exact ⟨hb, .inr ⟨h1, h2, h3.ext e hw h2⟩⟩
theorem NumTold.num {S : HS} {v x : Int} (h : NumTold S v x) (hw : WfH S.ws S.bs) : S.num x = some v := by
  obtain ⟨_, ⟨h1, rfl⟩ | ⟨h1, h2, h3⟩⟩ := h
  · exact fixW_num S h1
  · exact h3.num hw h2 h1
theorem fixW_bd (v : Int) : 0 ≤ fixW v ∧ fixW v < 18446744073709551616 := by unfold fixW; split <;> omega
theorem part_len5 (S : HS) (v : Int) : (S.part 5 0 (numWords v).length 0 (numWords v) (numWords v).length).ws.length = S.ws.length + 1 + (numWords v).length := by
  unfold HS.part
  simp
  omega
theorem number_size (S : HS) (v : Int) : (S.number v).1.size = S.size ∧ (S.number v).1.times = S.times ∧ Ext S (S.number v).1 := by
  unfold HS.number
  split
  · exact ⟨rfl, rfl, Ext.refl _⟩
  · split
    · exact ⟨rfl, rfl, part_ext _ _ _ _ _ _ _⟩
    · exact ⟨rfl, rfl, Ext.refl _⟩
/-- Either it is the number, or nothing was laid. -/
theorem number_yes {S : HS} (hl : S.bs.length = S.ws.length) (hb : S.ws.length ≤ 1048576) (v : Int) (h : (S.number v).2.2 = true) : NumTold (S.number v).1 v (S.number v).2.1 ∧ ((S.number v).1.ws.length = S.ws.length ↔ isSmall v = true) := by
  unfold HS.number at *
  split at h
  · rename_i hs
    rw [if_pos hs]
    exact ⟨⟨fixW_bd v, .inl ⟨hs, rfl⟩⟩, by simp [hs]⟩
  · rename_i hs
    rw [if_neg hs]
    split at h
    · rename_i h2
      rw [if_pos h2]
      refine ⟨⟨by simp only; omega, .inr ⟨by simpa using hs, h2.1, num_in hl v⟩⟩, ?_⟩
      have := part_len5 S v
      simp only [hs]
      constructor
      · intro h; exfalso; omega
      · intro h; cases h
    · cases h
theorem number_no {S : HS} {v : Int} (h : (S.number v).2.2 = false) : (S.number v).1 = S := by
  unfold HS.number at *
  split at h
  · cases h
  · rename_i hs
    rw [if_neg hs]
    split at h
    · cases h
    · rename_i h2
      rw [if_neg h2]
/-- There is room: it is laid. -/
theorem number_room {S : HS} {v : Int} (hl : (limbsOf v.natAbs).length ≤ 256) (hr : S.ws.length + 130 ≤ S.size) : (S.number v).2.2 = true ∧ (S.number v).1.ws.length ≤ S.ws.length + 130 := by
  have h1 := numWords_len v
  have h2 := part_len5 S v
  unfold HS.number
  split
  · exact ⟨rfl, Nat.le_add_right _ _⟩
  · rw [if_pos]
    · exact ⟨rfl, by simp only; omega⟩
    · refine ⟨hl, ?_⟩
      unfold HS.room
      simp only [Bool.and_eq_true, decide_eq_true_eq]
      omega
theorem eqv_nums {S : HS} {a b x y : Int} (ha : S.num a = some x) (hb : S.num b = some y) : S.eqv a b = decide (x = y) := by
  unfold HS.eqv
  rw [ha, hb]
  by_cases h : a = b
  · have : x = y := by rw [h, hb] at ha; exact (Option.some.inj ha).symm
    simp [h, this]
  · simp [h]
theorem valL_zero (a : List Int) : valL (a ++ [0]) = valL a := by rw [valL_append]; simp [valL]
end Go.Proofs.Ytanjiecefioffaa
