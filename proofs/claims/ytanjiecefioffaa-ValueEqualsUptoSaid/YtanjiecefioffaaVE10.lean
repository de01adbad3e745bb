/- value.Store: Eqv. -/
import Derived.Test.YtanjiecefioffaaVE9
import Derived.Test.YtanjiecefioffaaVE4
import Derived.Test.YtanjiecefioffaaVE8
import Derived.Test.YtanjiecefioffaaVE3
namespace Go.Proofs.Ytanjiecefioffaa
open Go.RowKit

def HS.eqv (S : HS) (a b : Int) : Bool := decide (a = b) || ((S.num a).isSome && ((S.num b).isSome && decide ((S.num a).getD 0 = (S.num b).getD 0)))
def StKeeps (X : StV) (V : HV) (S : HS) (Y : StS) (R : HP) (v : Value) (w : World) (e : Ending) (w' : World) : Prop := e = .returned v ∧ StW w' X V S Y R ∧ Below 0 w w'
theorem num_len {w : World} {V : HV} {S : HS} (h : HeapV w V S) (x : Int) (x0 : 0 ≤ x) (x1 : x < 18446744073709551616) : (limbsOf ((S.num x).getD 0).natAbs).length ≤ topB := by
  unfold HS.num
  split
  · obtain ⟨i0, i1⟩ := intW_bd x x0 x1
    simp only [Option.getD_some]
    have : (limbsOf (intW x).natAbs).length ≤ 2 := limbsOf_len (by show _ < 18446744073709551616; omega)
    unfold topB; omega
  · split
    · simp only [Option.getD_some]
      unfold HS.numV
      rw [sgn_abs]
      have h1 := limbsOf_len_le (limbs_lim h x x0 (S.raw x - 1).toNat)
      rw [limbs_len] at h1
      have h2 : S.raw x < 16777216 := by unfold HS.raw; exact (rawH_bd _).2
      unfold topB; omega
    · simp only [Option.getD_none]
      rw [show (0 : Int).natAbs = 0 from rfl, limbsOf_zero]
      simp
theorem cmpI_zero (x y : Int) : (cmpI x y == 0) = decide (x = y) := by
  unfold cmpI
  by_cases h1 : x < y
  · rw [if_pos h1, decide_eq_false (by omega)]; rfl
  · by_cases h2 : y < x
    · rw [if_neg h1, if_pos h2, decide_eq_false (by omega)]; rfl
    · rw [if_neg h1, if_neg h2, decide_eq_true (by omega)]; rfl

section
variable {w : World} {X : StV} {V : HV} {S : HS} {Y : StS} {R : HP}
set_option maxRecDepth 100000 in
set_option maxHeartbeats 1000000 in
theorem StW.Eqv (h : StW w X V S Y R) (a b : Int) (a0 : 0 ≤ a) (a1 : a < 18446744073709551616) (b0 : 0 ≤ b) (b1 : b < 18446744073709551616) :
    Calls Try.prog 37 #[.pointer (some ⟨X.g, 0, none⟩), .int .u64 a, .int .u64 b] w (StKeeps X V S Y R (.bool (S.eqv a b)) w) := by
  by_cases hab : a = b
  · subst hab
    have he : S.eqv a a = true := by unfold HS.eqv; simp
    rw [he]
    have HH := Lib.hid h
    clear h he
    have c1 : (a == a) = true := by simp
    go_enter Try.func37, Try.ntmps37
    go_wp2_with fail
    go_ret
    exact ⟨rfl, HH.out, Below.refl _ _⟩
  · have c1 : (a == b) = false := by simp [hab]
    have he : S.eqv a b = ((S.num a).isSome && ((S.num b).isSome && decide ((S.num a).getD 0 = (S.num b).getD 0))) := by unfold HS.eqv; rw [decide_eq_false hab, Bool.false_or]
    have hla := num_len h.hw.v a a0 a1
    have hlb := num_len h.hw.v b b0 b1
    have hN := h.Num a a0 a1
    have hN2 := fun (w' : World) (R' : HP) (h' : StW w' X V S Y R') => h'.Num b b0 b1
    generalize hx : (S.num a).getD 0 = x at *
    generalize hy : (S.num b).getD 0 = y at *
    generalize hsa : (S.num a).isSome = sa at *
    generalize hsb : (S.num b).isSome = sb at *
    have HE := Lib.hid he
    have HN2 := Lib.hid hN2
    clear he hx hy hsa hsb hN2 hab
    go_enter Try.func37, Try.ntmps37
    go_wp2_with fail
    with_reducible refine hN.mono ?_
    rintro e w2 ⟨ao, ac, rfl, hac, h2, hb2⟩
    have HB := Lib.hid (And.intro h2 hb2)
    obtain ⟨P, hP⟩ : ∃ P, decide (x < 0) = P := ⟨_, rfl⟩
    rw [hP]
    clear h2 hb2 hN
    go_wp2_with fail
    have h3 : StW (w2.alloc (.cells #[.bool P, .slice ao (limbsOf x.natAbs).length ac] 51)) X V S Y (Go.Proofs.Ytanjiecefioffaa.blk w2.heap.size (.cells #[.bool P, .slice ao (limbsOf x.natAbs).length ac] 51 (0, 0)) * (own 70 1 (.slice ao (limbsOf x.natAbs).length ac) (limbsOf x.natAbs).length ((limbsOf x.natAbs).map u32v) * R)) := ⟨(HB.out.1.s.alloc _).perm (by ac_rfl), HB.out.1.ok⟩
    have hb3 := HB.out.2.trans (Below.zero_alloc w2 (.cells #[.bool P, .slice ao (limbsOf x.natAbs).length ac] 51))
    generalize w2.alloc (.cells #[.bool P, .slice ao (limbsOf x.natAbs).length ac] 51) = w3 at *
    generalize w2.heap.size = ga at *
    have hN2 := HN2.out w3 _ h3
    have HB3 := Lib.hid hb3
    clear h3 hb3
    with_reducible refine hN2.mono ?_
    rintro e w4 ⟨bo, bc, rfl, hbc, h4, hb4⟩
    have HC := Lib.hid (And.intro h4 (HB3.out.trans hb4))
    obtain ⟨Q, hQ⟩ : ∃ Q, decide (y < 0) = Q := ⟨_, rfl⟩
    rw [hQ]
    clear h4 hb4 hN2
    go_upto_region 5 with (fail)
    have hs5 := HC.out.1.s.alloc (.cells #[.bool Q, .slice bo (limbsOf y.natAbs).length bc] 51)
    have hb5 := HC.out.2.trans (Below.zero_alloc w4 (.cells #[.bool Q, .slice bo (limbsOf y.natAbs).length bc] 51))
    generalize w4.alloc (.cells #[.bool Q, .slice bo (limbsOf y.natAbs).length bc] 51) = w5 at *
    generalize w4.heap.size = gb at *
    have d0 : w5.cell? ⟨ga, 0, none⟩ = some (.bool P) := (hs5.right.right.right.right.left.cell 0).trans rfl
    have d1 : w5.cell? ⟨ga, 1, none⟩ = some (.slice ao (limbsOf x.natAbs).length ac) := (hs5.right.right.right.right.left.cell 1).trans rfl
    have d2 : w5.cell? ⟨gb, 0, none⟩ = some (.bool Q) := (hs5.left.cell 0).trans rfl
    have d3 : w5.cell? ⟨gb, 1, none⟩ = some (.slice bo (limbsOf y.natAbs).length bc) := (hs5.left.cell 1).trans rfl
    have hfin : ∀ w', sat w' _ → StW w' X V S Y R := fun w' (h' : sat w' (Go.Proofs.Ytanjiecefioffaa.blk gb (.cells #[.bool Q, .slice bo (limbsOf y.natAbs).length bc] 51 (0, 0)) * (isHeap V S * (isSt X V.g Y * (own 70 1 (.slice bo (limbsOf y.natAbs).length bc) (limbsOf y.natAbs).length ((limbsOf y.natAbs).map u32v) * (Go.Proofs.Ytanjiecefioffaa.blk ga (.cells #[.bool P, .slice ao (limbsOf x.natAbs).length ac] 51 (0, 0)) * (own 70 1 (.slice ao (limbsOf x.natAbs).length ac) (limbsOf x.natAbs).length ((limbsOf x.natAbs).map u32v) * R))))))) => (⟨(show sat w' ((Go.Proofs.Ytanjiecefioffaa.blk gb (.cells #[.bool Q, .slice bo (limbsOf y.natAbs).length bc] 51 (0, 0)) * (own 70 1 (.slice bo (limbsOf y.natAbs).length bc) (limbsOf y.natAbs).length ((limbsOf y.natAbs).map u32v) * (Go.Proofs.Ytanjiecefioffaa.blk ga (.cells #[.bool P, .slice ao (limbsOf x.natAbs).length ac] 51 (0, 0)) * own 70 1 (.slice ao (limbsOf x.natAbs).length ac) (limbsOf x.natAbs).length ((limbsOf x.natAbs).map u32v)))) * (isHeap V S * (isSt X V.g Y * R))) from h'.perm (by ac_rfl)).right, HC.out.1.ok⟩ : StW w' X V S Y R)
    have hC := num_Cmp hs5 P Q ao bo ac bc (limbsOf x.natAbs) (limbsOf y.natAbs) (fun w' h' => limbs_own rfl h'.right.right.right.right.right) (fun w' h' => limbs_own rfl h'.right.right.right) (limbsOf_limbs _) (limbsOf_limbs _) hla hlb hac hbc
    rw [valL_limbsOf, valL_limbsOf, ← hP, ← hQ, sgn_dec, sgn_dec] at hC
    rw [hP, hQ] at hC
    have HD := Lib.hid (And.intro hs5 (And.intro hb5 hfin))
    clear hs5 hb5 hfin hP hQ hla hlb
    cases sa with
    | false =>
      go_wp2_with fail
      go_ret
      exact ⟨by rw [HE.out]; rfl, HD.out.2.2 w5 HD.out.1, HD.out.2.1⟩
    | true =>
      cases sb with
      | false =>
        go_wp2_with fail
        go_ret
        exact ⟨by rw [HE.out]; rfl, HD.out.2.2 w5 HD.out.1, HD.out.2.1⟩
      | true =>
        go_wp2_with fail
        with_reducible refine hC.mono ?_
        rintro e w6 ⟨rfl, hs6, hb6⟩
        have hcz := cmpI_zero x y
        rw [Bool.true_and, Bool.true_and] at HE
        generalize cmpI x y = cc at *
        obtain ⟨bb, hbb⟩ : ∃ bb, decide (x = y) = bb := ⟨_, rfl⟩
        rw [hbb] at hcz
        have HBB := Lib.hid hbb
        have HS6 := Lib.hid (And.intro (HD.out.2.2 w6 hs6) (HD.out.2.1.trans hb6))
        clear hbb hs6 hb6
        go_wp2_with fail
        go_ret
        exact ⟨by rw [HE.out, HBB.out]; rfl, HS6.out.1, HS6.out.2⟩
end
end Go.Proofs.Ytanjiecefioffaa

/- A number's raw words, plainly. A number's object, plainly: what is laid is told again. value.Store: Number. What Number makes, plainly. -/
/- A number's raw words, plainly. -/
namespace Go.Proofs.Ytanjiecefioffaa
open Go.RowKit

def pairAt (l : List Int) (i : Nat) : Int := l.getD (2 * i) 0 + 4294967296 * l.getD (2 * i + 1) 0
def pairW (l : List Int) (q : Nat) : List Int := (List.range q).map (pairAt l)
theorem getD_take (l : List Int) (k j : Nat) : (l.take k).getD j 0 = if j < k then l.getD j 0 else 0 := by
  rw [List.getD_eq_getElem?_getD, List.getElem?_take]
  split
  · rw [← List.getD_eq_getElem?_getD]
  · rfl
theorem pairAt_step {l : List Int} {k : Nat} {x : Int} (hx : l[k]? = some x) (j : Nat) : pairAt (l.take (k + 1)) j = if j = k / 2 then pairAt (l.take k) (k / 2) + 4294967296 ^ (k % 2) * x else pairAt (l.take k) j := by
  have hg : l.getD k 0 = x := by rw [List.getD_eq_getElem?_getD, hx]; rfl
  unfold pairAt
  simp only [getD_take]
  by_cases hj : j = k / 2
  · subst hj
    rw [if_pos rfl]
    rcases Nat.mod_two_eq_zero_or_one k with h | h
    · rw [h, show 2 * (k / 2) = k by omega, if_pos (by omega), if_neg (by omega), if_neg (by omega), if_neg (by omega), hg]; omega
    · rw [h, show 2 * (k / 2) + 1 = k by omega, if_pos (by omega), if_pos (by omega), if_pos (by omega), if_neg (by omega), hg]; omega
  · rw [if_neg hj]
    rw [show (if 2 * j < k + 1 then l.getD (2 * j) 0 else 0) = (if 2 * j < k then l.getD (2 * j) 0 else 0) by
      by_cases h : 2 * j < k
      · rw [if_pos h, if_pos (by omega)]
      · rw [if_neg h, if_neg (by omega)]]
    rw [show (if 2 * j + 1 < k + 1 then l.getD (2 * j + 1) 0 else 0) = (if 2 * j + 1 < k then l.getD (2 * j + 1) 0 else 0) by
      by_cases h : 2 * j + 1 < k
      · rw [if_pos h, if_pos (by omega)]
      · rw [if_neg h, if_neg (by omega)]]
theorem limbs_getD {l : List Int} (h : Limbs l) (k : Nat) : 0 ≤ l.getD k 0 ∧ l.getD k 0 < 4294967296 := by
  rw [List.getD_eq_getElem?_getD]
  cases hx : l[k]? with
  | none => exact ⟨Int.le_refl _, by decide⟩
  | some x => exact h x (List.mem_of_getElem? hx)
theorem pairAt_bd {l : List Int} (h : Limbs l) (i : Nat) : 0 ≤ pairAt l i ∧ pairAt l i < 18446744073709551616 := by
  have h1 := limbs_getD h (2 * i)
  have h2 := limbs_getD h (2 * i + 1)
  unfold pairAt
  omega
theorem pairAt_low {l : List Int} (h : Limbs l) (k : Nat) : pairAt (l.take k) (k / 2) < 4294967296 ^ (k % 2) := by
  unfold pairAt
  simp only [getD_take]
  rcases Nat.mod_two_eq_zero_or_one k with h1 | h1
  · rw [h1, if_neg (by omega), if_neg (by omega)]; decide
  · have := limbs_getD h (2 * (k / 2))
    rw [h1, if_pos (by omega), if_neg (by omega)]
    omega
/-- What a number's object holds. -/
def numWords (v : Int) : List Int := (if v < 0 then 1 else 0) :: pairW (limbsOf v.natAbs) (((limbsOf v.natAbs).length + 1) / 2)
theorem numWords_len (v : Int) : (numWords v).length = 1 + ((limbsOf v.natAbs).length + 1) / 2 := by unfold numWords pairW; simp; omega
theorem numWords_u (v : Int) : ∀ x ∈ numWords v, 0 ≤ x ∧ x < 18446744073709551616 := by
  intro x hx
  unfold numWords pairW at hx
  rcases List.mem_cons.1 hx with rfl | hx
  · split <;> decide
  · obtain ⟨i, _, rfl⟩ := List.mem_map.1 hx
    exact pairAt_bd (limbsOf_limbs _) i
/-- Number. -/
def HS.number (S : HS) (v : Int) : HS × Int × Bool :=
  if isSmall v = true then (S, fixW v, true)
  else if (limbsOf v.natAbs).length ≤ 256 ∧ S.room 5 0 ((numWords v).length : Nat) = true then (S.part 5 0 (numWords v).length 0 (numWords v) (numWords v).length, 4 * (S.ws.length : Int), true)
  else (S, 0, false)
theorem twoL_valL (x y : Int) (l : List Int) : valL (x :: y :: l) = x.toNat + 4294967296 * y.toNat + 18446744073709551616 * valL l := by
  simp only [valL]; omega
/-- Two limbs a word. -/
theorem pair_limbs {l : List Int} (h : Limbs l) : ∀ q : Nat, ((List.range q).flatMap fun i => twoL (pairAt l i)) = (List.range (2 * q)).map fun j => l.getD j 0 := by
  intro q
  induction q with
  | zero => rfl
  | succ q ih =>
    rw [List.range_succ, List.flatMap_append, ih, show 2 * (q + 1) = 2 * q + 1 + 1 by omega, List.range_succ, List.range_succ]
    have h1 := limbs_getD h (2 * q)
    have h2 := limbs_getD h (2 * q + 1)
    simp only [List.flatMap_cons, List.flatMap_nil, List.append_nil, List.map_append, List.map_cons, List.map_nil, List.append_assoc, List.cons_append, List.nil_append]
    congr 1
    unfold twoL pairAt
    generalize l.getD (2 * q) 0 = a at *
    generalize l.getD (2 * q + 1) 0 = b at *
    rw [show (a + 4294967296 * b) % 4294967296 = a by omega, show (a + 4294967296 * b) / 4294967296 = b by omega]
theorem valL_pad (l : List Int) (n : Nat) (hn : l.length ≤ n) : valL ((List.range n).map fun j => l.getD j 0) = valL l := by
  have e : ((List.range n).map fun j => l.getD j 0) = l ++ List.replicate (n - l.length) 0 := by
    apply List.ext_getElem?
    intro j
    rw [List.getElem?_map]
    by_cases hj : j < n
    · rw [List.getElem?_range hj, Option.map_some]
      by_cases hl : j < l.length
      · rw [List.getElem?_append_left hl, List.getD_eq_getElem?_getD, List.getElem?_eq_getElem hl]; rfl
      · rw [List.getElem?_append_right (by omega), List.getElem?_replicate, if_pos (by omega), List.getD_eq_getElem?_getD, List.getElem?_eq_none (by omega)]; rfl
    · rw [List.getElem?_eq_none (by simp; omega), List.getElem?_eq_none (by simp; omega)]; rfl
  rw [e, valL_append, valL_zeros (fun x hx => (List.mem_replicate.1 hx).2), Nat.mul_zero, Nat.add_zero]
end Go.Proofs.Ytanjiecefioffaa

/- A number's object, plainly: what is laid is told again. -/
namespace Go.Proofs.Ytanjiecefioffaa
open Go.RowKit

structure NumIn (S : HS) (v : Int) (t : Int) : Prop where
  is : S.is t = true
  head : S.head t = headerOf 5 0 (numWords v).length
  raws : ∀ (i : Nat) x, (numWords v)[i]? = some x → S.ws.getD ((t / 4).toNat + 1 + i) 0 = x
theorem num_head (n : Nat) (h : n ≤ 1048576) : tagH (headerOf 5 0 n) = 0 ∧ rawH (headerOf 5 0 n) = n ∧ kindH (headerOf 5 0 n) = 5 := header_tag (kind := 5) (t := 0) (r := n) (by decide) (by decide) (by decide) h
theorem num_in {S : HS} (hl : S.bs.length = S.ws.length) (v : Int) : NumIn (S.part 5 0 (numWords v).length 0 (numWords v) (numWords v).length) v (4 * (S.ws.length : Int)) := by
  refine ⟨part_is hl 5 0 _ 0 _ _, part_head hl 5 0 _ 0 _ _, ?_⟩
  intro i x hx
  have hi := (List.getElem?_eq_some_iff.1 hx).1
  unfold HS.part
  simp only
  rw [show (4 * (S.ws.length : Int) / 4).toNat + 1 + i = S.ws.length + (1 + i) by omega, getD_app_right, List.getD_eq_getElem?_getD, Nat.add_comm 1 i, List.getElem?_cons_succ, List.getElem?_append_left (by rw [List.length_take]; omega), List.take_of_length_le (Nat.le_refl _), hx]
  rfl
theorem NumIn.ext {S S' : HS} {v t : Int} (h : NumIn S v t) (e : Ext S S') (hw : WfH S.ws S.bs) (hl : (limbsOf v.natAbs).length ≤ 256) : NumIn S' v t := by
  refine ⟨e.is h.is, by rw [e.head hw h.is]; exact h.head, ?_⟩
  intro i x hx
  have hi := (List.getElem?_eq_some_iff.1 hx).1
  have hwl := numWords_len v
  obtain ⟨g1, g2, g3⟩ := num_head (numWords v).length (by omega)
  have h1 := is_lt hw h.is
  unfold HS.tag HS.raw at h1
  rw [h.head, g1, g2] at h1
  rw [e.at (by omega)]
  exact h.raws i x hx
theorem limbs_flat (S : HS) (t : Int) : ∀ k : Nat, S.limbs t k = (List.range k).flatMap fun i : Nat => twoL (S.rawAt t (1 + (i : Int))) := by
  intro k
  induction k with
  | zero => rfl
  | succ k ih => rw [List.range_succ, List.flatMap_append, ← ih]; simp [HS.limbs]
theorem range_flat {α : Type} {q : Nat} {f g : Nat → List α} (h : ∀ i, i < q → f i = g i) : (List.range q).flatMap f = (List.range q).flatMap g := by
  induction q with
  | zero => rfl
  | succ q ih => rw [List.range_succ, List.flatMap_append, List.flatMap_append, ih fun i hi => h i (by omega)]; simp [h q (by omega)]
theorem NumIn.num {S : HS} {v t : Int} (h : NumIn S v t) (hw : WfH S.ws S.bs) (hl : (limbsOf v.natAbs).length ≤ 256) (hs : isSmall v = false) : S.num t = some v := by
  have ht0 := is_nonneg hw h.is
  have hwl := numWords_len v
  obtain ⟨g1, g2, g3⟩ := num_head (numWords v).length (by omega)
  have e1 : S.tag t = 0 := by unfold HS.tag; rw [h.head]; exact g1
  have e2 : S.raw t = (numWords v).length := by unfold HS.raw; rw [h.head]; exact g2
  have e3 : S.kind t = 5 := by unfold HS.kind; rw [h.head]; exact g3
  have hraw : ∀ (i : Nat) x, (numWords v)[i]? = some x → S.rawAt t i = x := by
    intro i x hx
    have hi := (List.getElem?_eq_some_iff.1 hx).1
    unfold HS.rawAt HS.getRaw
    rw [if_pos (by rw [e2]; omega), e1]
    simp only
    rw [show fieldAt t 0 i = (t / 4).toNat + 1 + i by unfold fieldAt; omega]
    exact h.raws i x hx
  have h0 : S.rawAt t 0 = if v < 0 then 1 else 0 := hraw 0 _ rfl
  obtain ⟨q, hq⟩ : ∃ q, ((limbsOf v.natAbs).length + 1) / 2 = q := ⟨_, rfl⟩
  have hr1 : (S.raw t - 1).toNat = q := by rw [e2, hwl]; omega
  have hll : S.limbs t q = (List.range (2 * q)).map fun j => (limbsOf v.natAbs).getD j 0 := by
    rw [limbs_flat, ← pair_limbs (limbsOf_limbs _)]
    refine range_flat fun i hi => ?_
    congr 1
    have := hraw (1 + i) (pairAt (limbsOf v.natAbs) i) (by
      unfold numWords pairW
      rw [hq, Nat.add_comm, List.getElem?_cons_succ, List.getElem?_map, List.getElem?_range hi]; rfl)
    rw [← this]
    congr 1
  have hvl : valL (S.limbs t q) = v.natAbs := by rw [hll, valL_pad _ _ (by omega), valL_limbsOf]
  have hv : S.numV t = v := by
    unfold HS.numV
    rw [hr1, hvl, h0]
    unfold sgn
    by_cases hn : v < 0
    · rw [if_pos hn]; simp; omega
    · rw [if_neg hn]; simp; omega
  have hfit : S.numFit t = true := by
    unfold HS.numFit HS.shape
    rw [h0, e1, e3]
    simp only [Bool.and_eq_true, decide_eq_true_eq, Bool.or_eq_true]
    exact ⟨⟨trivial, .inr trivial, .inl (by decide)⟩, by split <;> decide⟩
  have h4 : t % 4 = 0 := (is_iff.1 h.is).1
  unfold HS.num
  rw [if_neg (by omega), if_pos, hv]
  unfold HS.numOk
  rw [hfit, hv, hs, hr1, hq]
  simp
/-- What Number lays is that number; nothing is laid for a small one. -/
theorem fixW_num (S : HS) {v : Int} (h : isSmall v = true) : S.num (fixW v) = some v := by
  unfold isSmall at h
  rw [Bool.and_eq_true, decide_eq_true_eq, decide_eq_true_eq] at h
  have h4 : fixW v % 4 = 1 := by unfold fixW; split <;> omega
  unfold HS.num
  rw [if_pos h4]
  congr 1
  unfold intW
  rw [if_pos h4]
  unfold fixW at *
  rw [if_pos h] at *
  split <;> omega
end Go.Proofs.Ytanjiecefioffaa

/- value.Store: Number. -/
namespace Go.Proofs.Ytanjiecefioffaa
open Go.RowKit

theorem info_u64n : (Try.prog.info? 22).map (fun i => (i.zero, i.size, i.bytes)) = some (some (.int .u64 0), 1, 8) := by kernel_rfl
theorem pair_or (W x : Int) (r : Nat) (hr : r < 2) (h0 : 0 ≤ W) (h1 : W < 4294967296 ^ r) (x0 : 0 ≤ x) (x1 : x < 4294967296) : bits .or .u64 W (IntKind.u64.wrap (x * 2 ^ (r * 32))) = W + 4294967296 ^ r * x := by
  have e : (2 : Int) ^ (r * 32) = 4294967296 ^ r := by rw [Nat.mul_comm, Int.pow_mul]; rfl
  have h := u64_or_add (r * 32) W x h0 (by rw [e]; exact h1) x0 (by match r, hr with
    | 0, _ => omega
    | 1, _ => omega) (by rw [e]; match r, hr with
    | 0, _ => omega
    | 1, _ => omega)
  rw [e] at h ⊢
  have h2 : IntKind.u64.wrap (x * 4294967296 ^ r) = 4294967296 ^ r * x := by
    rw [Int.mul_comm x, IntKind.wrap_u64]
    match r, hr with
    | 0, _ => omega
    | 1, _ => omega
  rw [h2]
  exact h
theorem pairs_set (l : List Int) {k q : Nat} {x : Int} (hx : l[k]? = some x) (hk : k / 2 < q) (n : Int) :
    ((n :: pairW (l.take k) q).map u64).set (1 + k / 2) (.int .u64 (pairAt (l.take (k + 1)) (k / 2))) = (n :: pairW (l.take (k + 1)) q).map u64 := by
  rw [Nat.add_comm, List.map_cons, List.set_cons_succ, List.map_cons]
  congr 1
  unfold pairW
  apply List.ext_getElem?
  intro j
  rw [List.map_map, List.map_map]
  by_cases hj : j = k / 2
  · subst hj
    rw [List.getElem?_set_self (by simp; exact hk), List.getElem?_map, List.getElem?_range hk]; rfl
  · rw [List.getElem?_set_ne (fun e => hj e.symm), List.getElem?_map, List.getElem?_map]
    rcases Nat.lt_or_ge j q with a | a
    · rw [List.getElem?_range a]
      simp only [Option.map_some, Function.comp]
      rw [pairAt_step hx j, if_neg hj]
    · rw [List.getElem?_eq_none (by simp; omega)]; rfl
def PairRel (W : World) (X : StV) (V : HV) (S : HS) (Y : StS) (R : HP) (bo q : Nat) (n : Int) (l : List Int) (i : Value) (wr : World) : Prop :=
  ∃ k : Nat, k ≤ l.length ∧ i = .int .i64 k ∧ StW wr X V S Y (row 22 1 bo (1 + q) ((n :: pairW (l.take k) q).map Go.Proofs.Ytanjiecefioffaa.u64) * R) ∧ Below 0 W wr
section
variable {w : World} {X : StV} {V : HV} {S : HS} {Y : StS} {R Q : HP}
set_option maxRecDepth 100000 in
set_option maxHeartbeats 2000000 in
theorem StW.Number (h : StW w X V S Y R) (n : Bool) (ao : Option Addr) (ca : Nat) (a : List Int) (ha : ∀ w, sat w R → LimbsW w ao a) (la : Limbs a) (na : a.length ≤ topB) (hca : a.length ≤ ca) :
    Calls Try.prog 33 #[.pointer (some ⟨X.g, 0, none⟩), .agg #[.bool n, .slice ao a.length ca]] w (StLaid X V.g (S.number (sgn n (valL a))).1 Y R (S.number (sgn n (valL a))).2.1 (S.number (sgn n (valL a))).2.2 w) := by
  have h1 := h.push (.cells #[.bool n, .slice ao a.length ca] 51)
  have hb1 : Below 0 w (w.alloc (.cells #[.bool n, .slice ao a.length ca] 51)) := Below.zero_alloc _ _
  obtain ⟨g, hg⟩ : ∃ g, w.heap.size = g := ⟨_, rfl⟩
  rw [hg] at h1
  have hSm := num_Small h1.s n ao ca a (fun w h => ha w h.right.right.right) la na hca
  obtain ⟨v, hv⟩ : ∃ v, sgn n (valL a) = v := ⟨_, rfl⟩
  rw [hv] at hSm ⊢
  have a0 := (h1.fr.left.cell 0).trans (show _ = some (Value.bool n) from rfl)
  have a1 := (h1.fr.left.cell 1).trans (show _ = some (Value.slice ao a.length ca) from rfl)
  have HA := Lib.hid (And.intro h1 (And.intro hb1 (And.intro ha (And.intro la hv))))
  clear h1 hb1 ha la hv h
  go_enter Try.func33, Try.ntmps33
  go_wp2_with fail
  generalize w.alloc (.cells #[.bool n, .slice ao a.length ca] 51) = w1 at *
  with_reducible refine hSm.mono ?_
  clear hSm
  rintro e w2 ⟨rfl, hs2, hb2⟩
  have h2 : StW w2 X V S Y (Go.Proofs.Ytanjiecefioffaa.blk g (.cells #[.bool n, .slice ao a.length ca] 51 (0, 0)) * R) := ⟨hs2, HA.out.1.ok⟩
  have hb3 := HA.out.2.1.trans hb2
  clear hs2 hb2 a0 a1
  cases hsm : isSmall v with
  | true =>
    have hsv : smallI v = v := by unfold smallI; rw [hsm]; rfl
    have hnum : S.number v = (S, fixW v, true) := by unfold HS.number; rw [if_pos hsm]
    have hbd : -2305843009213693952 ≤ v ∧ v < 2305843009213693952 := by
      unfold isSmall at hsm
      rw [Bool.and_eq_true, decide_eq_true_eq, decide_eq_true_eq] at hsm
      exact hsm
    have hF := Fix_any w2 v (by omega) (by omega)
    rw [show fixB v = true from hsm] at hF
    rw [hsv]
    have HF := Lib.hid (And.intro h2.drop (And.intro hb3 hnum))
    clear hsm hsv hnum h2 hb3
    go_wp2_with fail
    refine hF.mono ?_
    clear hF
    rintro e w3 ⟨rfl, j, rfl⟩
    go_wp2_with fail
    go_ret2
    rw [HF.out.2.2]
    exact ⟨rfl, HF.out.2.1.trans (drewN_below0 _ j), V, rfl, HF.out.1.drewN j⟩
  | false =>
    have a0 := (h2.fr.left.cell 0).trans (show _ = some (Value.bool n) from rfl)
    have a1 := (h2.fr.left.cell 1).trans (show _ = some (Value.slice ao a.length ca) from rfl)
    have h3 := h2.push (.cells #[.bool n, .slice ao a.length ca] 51)
    have hb4 := hb3.trans (Below.zero_alloc w2 (.cells #[.bool n, .slice ao a.length ca] 51))
    have hs3 : sat (w2.alloc (.cells #[.bool n, .slice ao a.length ca] 51)) (Go.Proofs.Ytanjiecefioffaa.blk w2.heap.size (.cells #[.bool n, .slice ao a.length ca] 51 (0, 0)) * (Go.Proofs.Ytanjiecefioffaa.blk g (.cells #[.bool n, .slice ao a.length ca] 51 (0, 0)) * (isHeap V S * (isSt X V.g Y * R)))) := h3.s.perm (by ac_rfl)
    have hSum := num_Sum w2.heap.size 1 #[.bool n, .slice ao a.length ca] [(n, a)] hs3 (by
        intro j m l hj
        match j, hj with
        | 0, hj =>
          simp at hj
          obtain ⟨rfl, rfl⟩ := hj
          exact ⟨ao, ca, rfl, rfl, hca, fun w h => HA.out.2.2.1 w h.right.right.right, HA.out.2.2.2.1, na⟩) (by show 1 ≤ 2; decide)
    rw [show [(n, a)].length = 1 from rfl, show sumI [(n, a)] = sgn n (valL a) by simp [sumI], HA.out.2.2.2.2] at hSum
    unfold SumPost at hSum
    obtain ⟨q0, hq0⟩ : ∃ q0, decide (v < 0) = q0 := ⟨_, rfl⟩
    obtain ⟨m, hm⟩ : ∃ m, limbsOf v.natAbs = m := ⟨_, rfl⟩
    rw [hq0, hm] at hSum
    have hml : Limbs m := hm ▸ limbsOf_limbs _
    have HB := Lib.hid (And.intro hb4 (And.intro hq0 (And.intro hm (And.intro hml hsm))))
    have hok := h2.ok
    clear h2 hb3 h3 hb4 hs3 hq0 hm hsm hml
    generalize smallI v = sv at *
    go_wp2_with fail
    with_reducible refine hSum.mono ?_
    clear hSum
    rintro e w4 ⟨sl, rfl, hs4, hb5⟩
    obtain ⟨lo, lc, rfl⟩ := own_val hs4
    have hs5 : sat w4 (Go.Proofs.Ytanjiecefioffaa.blk g (.cells #[.bool n, .slice ao a.length ca] 51 (0, 0)) * (isHeap V S * (isSt X V.g Y * (own 70 1 (.slice lo m.length lc) m.length (m.map u32v) * R)))) := hs4.perm (by ac_rfl)
    have b0 := (hs5.left.cell 0).trans (show _ = some (Value.bool n) from rfl)
    have b1 := (hs5.left.cell 1).trans (show _ = some (Value.slice ao a.length ca) from rfl)
    have f0 := hs5.left.frozen 0
    have f1 := hs5.left.frozen 1
    have hs6 := (hs5.setCell (off := 0) (.bool q0)).setCell (off := 1) (.slice lo m.length lc)
    have hb6 : Below 0 w ((w4.setCell ⟨g, 0, none⟩ (.bool q0)).setCell ⟨g, 1, none⟩ (.slice lo m.length lc)) := ((HB.out.1.trans hb5).setCell (p := ⟨g, 0, none⟩) (Nat.zero_le _) _).setCell (p := ⟨g, 1, none⟩) (Nat.zero_le _) _
    have c0 := (hs6.left.cell 0).trans (show _ = some (Value.bool q0) from rfl)
    have c1 := (hs6.left.cell 1).trans (show _ = some (Value.slice lo m.length lc) from rfl)
    have h6 : StW ((w4.setCell ⟨g, 0, none⟩ (.bool q0)).setCell ⟨g, 1, none⟩ (.slice lo m.length lc)) X V S Y (Go.Proofs.Ytanjiecefioffaa.blk g (.cells #[.bool q0, .slice lo m.length lc] 51 (0, 0)) * (own 70 1 (.slice lo m.length lc) m.length (m.map u32v) * R)) := ⟨hs6.perm (by show _ = _ * (_ * (_ * _)); ac_rfl), hok⟩
    clear hs4 hb5 hs5 hs6 hok
    obtain ⟨w6, hw6⟩ : ∃ w6, (w4.setCell ⟨g, 0, none⟩ (.bool q0)).setCell ⟨g, 1, none⟩ (.slice lo m.length lc) = w6 := ⟨_, rfl⟩
    rw [hw6] at c0 c1 h6 hb6
    have HC := Lib.hid (And.intro h6 hb6)
    clear h6 hb6
    by_cases hbig : m.length ≤ 256
    · have g1 : decide ((m.length : Int) > 256) = false := by simp; omega
      obtain ⟨q, hq⟩ : ∃ q, (m.length + 1) / 2 = q := ⟨_, rfl⟩
      have e1 : ((m.length : Int) + 1).tdiv 2 = (q : Int) := by rw [Int.tdiv_eq_ediv_of_nonneg (by omega)]; omega
      have e2 : ((m.length : Int) + 1) / 2 = (q : Int) := by omega
      have g2 : IntKind.i64.wrap (q : Int) = q := IntWalk.i64_in _ (by omega)
      have g3 : IntKind.i64.wrap (1 + (q : Int)) = 1 + q := IntWalk.i64_in _ (by omega)
      have hlen : 1 + q = (numWords v).length := by rw [numWords_len, HB.out.2.2.1, hq]
      have hlen2 : (1 + (q : Int)).toNat = (numWords v).length := by omega
      have HQ := Lib.hid hq
      obtain ⟨i0, hi, hz0, hz1, hz2⟩ := info_parts info_u64n
      have H1 := Lib.hid (And.intro hi (And.intro hz0 (And.intro hz1 hz2)))
      clear hi hz0 hz1 hz2
      go_wp2_with (at_make; refine halt ?_)
      refine goon ?_
      obtain ⟨hi, hz0, hz1, hz2⟩ := H1.out
      refine wpList_make_sat rfl 35 (.tmp 33) (.tmp 33) rfl 22 i0 (.int .u64 0) 8 Try.underlying35 hi hz0 hz1 hz2 rfl .i64 .i64 (1 + (q : Int)) (isHeap V S * (isSt X V.g Y * (Go.Proofs.Ytanjiecefioffaa.blk g (.cells #[.bool q0, .slice lo m.length lc] 51 (0, 0)) * (own 70 1 (.slice lo m.length lc) m.length (m.map u32v) * R)))) rfl rfl ?_ HC.out.1.s (by omega) (by omega) (by omega)
      clear hi hz0 hz1 hz2
      intro bo w7 hs7 hb7
      have hs8 : sat w7 (row 22 1 bo (1 + q) ((0 :: pairW (m.take 0) q).map Go.Proofs.Ytanjiecefioffaa.u64) * (isHeap V S * (isSt X V.g Y * (Go.Proofs.Ytanjiecefioffaa.blk g (.cells #[.bool q0, .slice lo m.length lc] 51 (0, 0)) * (own 70 1 (.slice lo m.length lc) m.length (m.map u32v) * R))))) := by
        rw [show (1 + (q : Int)).toNat = 1 + q by omega] at hs7
        refine hs7.perm ?_
        congr 2
        rw [show 1 + q = q + 1 by omega, List.replicate_succ, List.map_cons]
        congr 1
        apply List.ext_getElem?
        intro j
        unfold pairW
        rw [List.map_map, List.getElem?_map, List.getElem?_replicate]
        by_cases hj : j < q
        · rw [if_pos hj, List.getElem?_range hj]
          simp [pairAt]
        · rw [if_neg hj, List.getElem?_eq_none (by simp; omega)]; rfl
      have hb8 := HC.out.2.trans hb7
      have hok8 := HC.out.1.ok
      clear hs7 hb7 HC hw6 b0 b1 f0 f1 c0 c1
      have c0 := (hs8.right.right.right.left.cell 0).trans (show _ = some (Value.bool q0) from rfl)
      have c1 := (hs8.right.right.right.left.cell 1).trans (show _ = some (Value.slice lo m.length lc) from rfl)
      cases q0 with
      | true =>
        have hf0 := hs8.row_frozen 0
        have hc0 : w7.cell? ⟨bo, 0, none⟩ = some (.int .u64 0) := hs8.row_cell rfl
        have hs9 := hs8.row_set 0 (.int .u64 1)
        have hb9 := hb8.setCell (p := ⟨bo, 0, none⟩) (Nat.zero_le _) (.int .u64 1)
        have hs10 : sat (w7.setCell ⟨bo, 0, none⟩ (.int .u64 1)) (row 22 1 bo (1 + q) ((1 :: pairW (m.take 0) q).map Go.Proofs.Ytanjiecefioffaa.u64) * (isHeap V S * (isSt X V.g Y * (Go.Proofs.Ytanjiecefioffaa.blk g (.cells #[.bool true, .slice lo m.length lc] 51 (0, 0)) * (own 70 1 (.slice lo m.length lc) m.length (m.map u32v) * R))))) := hs9
        have h9 : StW (w7.setCell ⟨bo, 0, none⟩ (.int .u64 1)) X V S Y (row 22 1 bo (1 + q) ((1 :: pairW (m.take 0) q).map Go.Proofs.Ytanjiecefioffaa.u64) * (Go.Proofs.Ytanjiecefioffaa.blk g (.cells #[.bool true, .slice lo m.length lc] 51 (0, 0)) * (own 70 1 (.slice lo m.length lc) m.length (m.map u32v) * R))) := ⟨hs10.perm (by ac_rfl), hok8⟩
        have k0 := (hs10.right.right.right.left.cell 0).trans (show _ = some (Value.bool true) from rfl)
        have k1 := (hs10.right.right.right.left.cell 1).trans (show _ = some (Value.slice lo m.length lc) from rfl)
        clear hs8 hs9 hs10 hb8 hok8
        obtain ⟨w9, hw9⟩ : ∃ w9, w7.setCell ⟨bo, 0, none⟩ (.int .u64 1) = w9 := ⟨_, rfl⟩
        rw [hw9] at h9 hb9 k0 k1
        have HS := Lib.hid (And.intro h9 hb9)
        clear h9 hb9
        go_wp2_with fail
        go_loopw [42] (PairRel w X V S Y (Go.Proofs.Ytanjiecefioffaa.blk g (.cells #[.bool true, .slice lo m.length lc] 51 (0, 0)) * (own 70 1 (.slice lo m.length lc) m.length (m.map u32v) * R)) bo q 1 m) (fun i _ => m.length - (intOf i).toNat)
        case atStart => exact ⟨0, Nat.zero_le _, rfl, HS.out.1, HS.out.2⟩
        case round =>
          clear HS
          obtain ⟨k, hk, rfl, hs, hb'⟩ := hrel
          by_cases hlt : k < m.length
          · obtain ⟨x, ex⟩ : ∃ x, m[k]? = some x := ⟨_, List.getElem?_eq_getElem hlt⟩
            have hxb := HB.out.2.2.2.1 x (List.mem_of_getElem? ex)
            obtain ⟨a9, rfl, hcx⟩ := limbs_own rfl hs.fr.right.right k x ex
            have hkq : k / 2 < q := by omega
            have hcell := hs.fr.row_cell (j := 1 + k / 2) (v := .int .u64 (pairAt (m.take k) (k / 2))) (by
              rw [Nat.add_comm, List.map_cons, List.getElem?_cons_succ, List.getElem?_map]
              unfold pairW
              rw [List.getElem?_map, List.getElem?_range hkq]; rfl)
            have hfr := hs.fr.row_frozen (1 + k / 2)
            have e1 : ((k : Int) / 2) = ((k / 2 : Nat) : Int) := by omega
            have e2 : ((k : Int).tdiv 2) = ((k / 2 : Nat) : Int) := by rw [Int.tdiv_eq_ediv_of_nonneg (by omega)]; omega
            have e3 : ((k : Int).tmod 2) = ((k % 2 : Nat) : Int) := by rw [Int.tmod_eq_emod_of_nonneg (by omega)]; omega
            have HX := Lib.hid (And.intro ex e1)
            clear ex e1
            go_wp2_with fail
            have g1 : IntKind.i64.wrap ((k / 2 : Nat) : Int) = ((k / 2 : Nat) : Int) := IntWalk.i64_in _ (by omega)
            have g2 : IntKind.i64.wrap (1 + ((k / 2 : Nat) : Int)) = 1 + ((k / 2 : Nat) : Int) := IntWalk.i64_in _ (by omega)
            have g3 : (1 + ((k / 2 : Nat) : Int)).toNat = 1 + k / 2 := by omega
            have g4 : IntKind.u64.wrap x = x := by rw [IntKind.wrap_u64]; omega
            have g5 : IntKind.i64.wrap ((k % 2 : Nat) : Int) = ((k % 2 : Nat) : Int) := IntWalk.i64_in _ (by omega)
            have g6 : IntKind.i64.wrap (((k % 2 : Nat) : Int) * 32) = ((32 * (k % 2) : Nat) : Int) := by rw [IntWalk.i64_in _ (by omega)]; omega
            have g7 : decide (1 + ((k / 2 : Nat) : Int) < 1 + (q : Int)) = true := by simp; omega
            go_region
            have hlow := pairAt_low HB.out.2.2.2.1 k
            have hwb := pairAt_bd (l := m.take k) (fun z hz => HB.out.2.2.2.1 z (List.mem_of_mem_take hz)) (k / 2)
            rw [pair_or (pairAt (m.take k) (k / 2)) x (k % 2) (by omega) hwb.1 hlow hxb.1 hxb.2]
            have hst := pairAt_step HX.out.1 (k / 2)
            rw [if_pos rfl] at hst
            rw [← hst]
            have hs3 : sat wr (row 22 1 bo (1 + q) ((1 :: pairW (m.take k) q).map Go.Proofs.Ytanjiecefioffaa.u64) * (isHeap V S * (isSt X V.g Y * (Go.Proofs.Ytanjiecefioffaa.blk g (.cells #[.bool true, .slice (some a9) m.length lc] 51 (0, 0)) * (own 70 1 (.slice (some a9) m.length lc) m.length (m.map u32v) * R))))) := hs.s.perm (by ac_rfl)
            have hs4 := hs3.row_set (1 + k / 2) (.int .u64 (pairAt (m.take (k + 1)) (k / 2)))
            rw [pairs_set m HX.out.1 hkq] at hs4
            have hb4 := hb'.setCell (p := ⟨bo, 1 + k / 2, none⟩) (Nat.zero_le _) (.int .u64 (pairAt (m.take (k + 1)) (k / 2)))
            have h5 : StW _ X V S Y (row 22 1 bo (1 + q) ((1 :: pairW (m.take (k + 1)) q).map Go.Proofs.Ytanjiecefioffaa.u64) * (Go.Proofs.Ytanjiecefioffaa.blk g (.cells #[.bool true, .slice (some a9) m.length lc] 51 (0, 0)) * (own 70 1 (.slice (some a9) m.length lc) m.length (m.map u32v) * R))) := ⟨hs4.drew.perm (by ac_rfl), hs.ok⟩
            have HF := Lib.hid (And.intro h5 (hb4.trans (drewN_below0 _ 1)))
            clear hst hlow hwb hs3 hs4 h5 hb4 hs hb' hcell hfr hcx
            go_wp2_with fail
            go_roundw
            case rel => exact ⟨k + 1, by omega, by go_num, HF.out.1, HF.out.2⟩
            case measure => simp [intOf]; omega
          · obtain rfl : k = m.length := by omega
            have hge : decide ((m.length : Int) < (m.length : Int)) = false := by simp
            rw [List.take_of_length_le (Nat.le_refl _)] at hs
            have hnw : 1 :: pairW m q = numWords v := by
              unfold numWords
              rw [HB.out.2.2.1, HQ.out]
              congr 1
              have := HB.out.2.1
              rw [if_pos (of_decide_eq_true this)]
            rw [hnw, hlen] at hs
            have hnum : S.number v = if S.room 5 0 ((numWords v).length : Nat) = true then (S.part 5 0 (numWords v).length 0 (numWords v) (numWords v).length, 4 * (S.ws.length : Int), true) else (S, 0, false) := by
              unfold HS.number
              rw [if_neg (by rw [HB.out.2.2.2.2]; decide), HB.out.2.2.1]
              simp only [hbig, true_and]
            have hRd : WordsIn (row 22 1 bo (numWords v).length ((numWords v).map Go.Proofs.Ytanjiecefioffaa.u64) * (Go.Proofs.Ytanjiecefioffaa.blk g (.cells #[.bool true, .slice lo m.length lc] 51 (0, 0)) * (own 70 1 (.slice lo m.length lc) m.length (m.map u32v) * R))) (some ⟨bo, 0, none⟩) (numWords v) := fun w hs => reads_row hs
            have hraw : Calls Try.prog 54 #[.pointer (some ⟨X.g, 0, none⟩), .int .i64 5, .slice (some ⟨bo, 0, none⟩) (numWords v).length (numWords v).length] wr (StLaid X V.g (S.number v).1 Y (row 22 1 bo (numWords v).length ((numWords v).map Go.Proofs.Ytanjiecefioffaa.u64) * (Go.Proofs.Ytanjiecefioffaa.blk g (.cells #[.bool true, .slice lo m.length lc] 51 (0, 0)) * (own 70 1 (.slice lo m.length lc) m.length (m.map u32v) * R))) (S.number v).2.1 (S.number v).2.2 wr) := by
              rw [hnum]
              cases hr : S.room 5 0 ((numWords v).length : Nat) with
              | true => exact hs.raw_yes 5 (some ⟨bo, 0, none⟩) (numWords v).length (numWords v) hRd (numWords_u v) hr
              | false => exact hs.raw_no 5 (some ⟨bo, 0, none⟩) (numWords v).length (numWords v) hRd (numWords_u v) (by omega) hr
            have HF := Lib.hid (And.intro hraw hb')
            clear hs hb' hraw hnum hRd hnw
            go_wp2_with fail
            with_reducible refine HF.out.1.mono ?_
            rintro e w10 ⟨rfl, hb10, V5, hg5, h10⟩
            have HG := Lib.hid (And.intro (HF.out.2.trans hb10) (And.intro hg5 h10.drop.drop.drop))
            clear hb10 hg5 h10 HF
            go_wp2_with fail
            go_ret2
            exact ⟨rfl, HG.out.1, V5, HG.out.2.1, HG.out.2.2⟩
      | false =>
        have hb9 := hb8
        have h9 : StW w7 X V S Y (row 22 1 bo (1 + q) ((0 :: pairW (m.take 0) q).map Go.Proofs.Ytanjiecefioffaa.u64) * (Go.Proofs.Ytanjiecefioffaa.blk g (.cells #[.bool false, .slice lo m.length lc] 51 (0, 0)) * (own 70 1 (.slice lo m.length lc) m.length (m.map u32v) * R))) := ⟨hs8.perm (by ac_rfl), hok8⟩
        clear hs8 hb8 hok8
        have HS := Lib.hid (And.intro h9 hb9)
        clear h9 hb9
        go_wp2_with fail
        go_loopw [42] (PairRel w X V S Y (Go.Proofs.Ytanjiecefioffaa.blk g (.cells #[.bool false, .slice lo m.length lc] 51 (0, 0)) * (own 70 1 (.slice lo m.length lc) m.length (m.map u32v) * R)) bo q 0 m) (fun i _ => m.length - (intOf i).toNat)
        case atStart => exact ⟨0, Nat.zero_le _, rfl, HS.out.1, HS.out.2⟩
        case round =>
          clear HS
          obtain ⟨k, hk, rfl, hs, hb'⟩ := hrel
          by_cases hlt : k < m.length
          · obtain ⟨x, ex⟩ : ∃ x, m[k]? = some x := ⟨_, List.getElem?_eq_getElem hlt⟩
            have hxb := HB.out.2.2.2.1 x (List.mem_of_getElem? ex)
            obtain ⟨a9, rfl, hcx⟩ := limbs_own rfl hs.fr.right.right k x ex
            have hkq : k / 2 < q := by omega
            have hcell := hs.fr.row_cell (j := 1 + k / 2) (v := .int .u64 (pairAt (m.take k) (k / 2))) (by
              rw [Nat.add_comm, List.map_cons, List.getElem?_cons_succ, List.getElem?_map]
              unfold pairW
              rw [List.getElem?_map, List.getElem?_range hkq]; rfl)
            have hfr := hs.fr.row_frozen (1 + k / 2)
            have e1 : ((k : Int) / 2) = ((k / 2 : Nat) : Int) := by omega
            have e2 : ((k : Int).tdiv 2) = ((k / 2 : Nat) : Int) := by rw [Int.tdiv_eq_ediv_of_nonneg (by omega)]; omega
            have e3 : ((k : Int).tmod 2) = ((k % 2 : Nat) : Int) := by rw [Int.tmod_eq_emod_of_nonneg (by omega)]; omega
            have HX := Lib.hid (And.intro ex e1)
            clear ex e1
            go_wp2_with fail
            have g1 : IntKind.i64.wrap ((k / 2 : Nat) : Int) = ((k / 2 : Nat) : Int) := IntWalk.i64_in _ (by omega)
            have g2 : IntKind.i64.wrap (1 + ((k / 2 : Nat) : Int)) = 1 + ((k / 2 : Nat) : Int) := IntWalk.i64_in _ (by omega)
            have g3 : (1 + ((k / 2 : Nat) : Int)).toNat = 1 + k / 2 := by omega
            have g4 : IntKind.u64.wrap x = x := by rw [IntKind.wrap_u64]; omega
            have g5 : IntKind.i64.wrap ((k % 2 : Nat) : Int) = ((k % 2 : Nat) : Int) := IntWalk.i64_in _ (by omega)
            have g6 : IntKind.i64.wrap (((k % 2 : Nat) : Int) * 32) = ((32 * (k % 2) : Nat) : Int) := by rw [IntWalk.i64_in _ (by omega)]; omega
            have g7 : decide (1 + ((k / 2 : Nat) : Int) < 1 + (q : Int)) = true := by simp; omega
            go_region
            have hlow := pairAt_low HB.out.2.2.2.1 k
            have hwb := pairAt_bd (l := m.take k) (fun z hz => HB.out.2.2.2.1 z (List.mem_of_mem_take hz)) (k / 2)
            rw [pair_or (pairAt (m.take k) (k / 2)) x (k % 2) (by omega) hwb.1 hlow hxb.1 hxb.2]
            have hst := pairAt_step HX.out.1 (k / 2)
            rw [if_pos rfl] at hst
            rw [← hst]
            have hs3 : sat wr (row 22 1 bo (1 + q) ((0 :: pairW (m.take k) q).map Go.Proofs.Ytanjiecefioffaa.u64) * (isHeap V S * (isSt X V.g Y * (Go.Proofs.Ytanjiecefioffaa.blk g (.cells #[.bool false, .slice (some a9) m.length lc] 51 (0, 0)) * (own 70 1 (.slice (some a9) m.length lc) m.length (m.map u32v) * R))))) := hs.s.perm (by ac_rfl)
            have hs4 := hs3.row_set (1 + k / 2) (.int .u64 (pairAt (m.take (k + 1)) (k / 2)))
            rw [pairs_set m HX.out.1 hkq] at hs4
            have hb4 := hb'.setCell (p := ⟨bo, 1 + k / 2, none⟩) (Nat.zero_le _) (.int .u64 (pairAt (m.take (k + 1)) (k / 2)))
            have h5 : StW _ X V S Y (row 22 1 bo (1 + q) ((0 :: pairW (m.take (k + 1)) q).map Go.Proofs.Ytanjiecefioffaa.u64) * (Go.Proofs.Ytanjiecefioffaa.blk g (.cells #[.bool false, .slice (some a9) m.length lc] 51 (0, 0)) * (own 70 1 (.slice (some a9) m.length lc) m.length (m.map u32v) * R))) := ⟨hs4.drew.perm (by ac_rfl), hs.ok⟩
            have HF := Lib.hid (And.intro h5 (hb4.trans (drewN_below0 _ 1)))
            clear hst hlow hwb hs3 hs4 h5 hb4 hs hb' hcell hfr hcx
            go_wp2_with fail
            go_roundw
            case rel => exact ⟨k + 1, by omega, by go_num, HF.out.1, HF.out.2⟩
            case measure => simp [intOf]; omega
          · obtain rfl : k = m.length := by omega
            have hge : decide ((m.length : Int) < (m.length : Int)) = false := by simp
            rw [List.take_of_length_le (Nat.le_refl _)] at hs
            have hnw : 0 :: pairW m q = numWords v := by
              unfold numWords
              rw [HB.out.2.2.1, HQ.out]
              congr 1
              have := HB.out.2.1
              rw [if_neg (of_decide_eq_false this)]
            rw [hnw, hlen] at hs
            have hnum : S.number v = if S.room 5 0 ((numWords v).length : Nat) = true then (S.part 5 0 (numWords v).length 0 (numWords v) (numWords v).length, 4 * (S.ws.length : Int), true) else (S, 0, false) := by
              unfold HS.number
              rw [if_neg (by rw [HB.out.2.2.2.2]; decide), HB.out.2.2.1]
              simp only [hbig, true_and]
            have hRd : WordsIn (row 22 1 bo (numWords v).length ((numWords v).map Go.Proofs.Ytanjiecefioffaa.u64) * (Go.Proofs.Ytanjiecefioffaa.blk g (.cells #[.bool false, .slice lo m.length lc] 51 (0, 0)) * (own 70 1 (.slice lo m.length lc) m.length (m.map u32v) * R))) (some ⟨bo, 0, none⟩) (numWords v) := fun w hs => reads_row hs
            have hraw : Calls Try.prog 54 #[.pointer (some ⟨X.g, 0, none⟩), .int .i64 5, .slice (some ⟨bo, 0, none⟩) (numWords v).length (numWords v).length] wr (StLaid X V.g (S.number v).1 Y (row 22 1 bo (numWords v).length ((numWords v).map Go.Proofs.Ytanjiecefioffaa.u64) * (Go.Proofs.Ytanjiecefioffaa.blk g (.cells #[.bool false, .slice lo m.length lc] 51 (0, 0)) * (own 70 1 (.slice lo m.length lc) m.length (m.map u32v) * R))) (S.number v).2.1 (S.number v).2.2 wr) := by
              rw [hnum]
              cases hr : S.room 5 0 ((numWords v).length : Nat) with
              | true => exact hs.raw_yes 5 (some ⟨bo, 0, none⟩) (numWords v).length (numWords v) hRd (numWords_u v) hr
              | false => exact hs.raw_no 5 (some ⟨bo, 0, none⟩) (numWords v).length (numWords v) hRd (numWords_u v) (by omega) hr
            have HF := Lib.hid (And.intro hraw hb')
            clear hs hb' hraw hnum hRd hnw
            go_wp2_with fail
            with_reducible refine HF.out.1.mono ?_
            rintro e w10 ⟨rfl, hb10, V5, hg5, h10⟩
            have HG := Lib.hid (And.intro (HF.out.2.trans hb10) (And.intro hg5 h10.drop.drop.drop))
            clear hb10 hg5 h10 HF
            go_wp2_with fail
            go_ret2
            exact ⟨rfl, HG.out.1, V5, HG.out.2.1, HG.out.2.2⟩
    · have g1 : decide ((m.length : Int) > 256) = true := by simp; omega
      have hnum : S.number v = (S, 0, false) := by
        unfold HS.number
        rw [if_neg (by rw [HB.out.2.2.2.2]; decide), if_neg (by rw [HB.out.2.2.1]; exact fun h => hbig h.1)]
      have HN := Lib.hid hnum
      clear hnum
      go_wp2_with fail
      go_ret2
      rw [HN.out]
      exact ⟨rfl, HC.out.2, V, rfl, HC.out.1.drop.drop⟩
end
end Go.Proofs.Ytanjiecefioffaa

/- What Number makes, plainly. -/
namespace Go.Proofs.Ytanjiecefioffaa
open Go.RowKit

/-- A word is this number. -/
def NumTold (S : HS) (v x : Int) : Prop := (0 ≤ x ∧ x < 18446744073709551616) ∧ ((isSmall v = true ∧ x = fixW v) ∨ (isSmall v = false ∧ (limbsOf v.natAbs).length ≤ 256 ∧ NumIn S v x))
theorem NumTold.ext {S S' : HS} {v x : Int} (h : NumTold S v x) (e : Ext S S') (hw : WfH S.ws S.bs) : NumTold S' v x := by
  obtain ⟨hb, h | ⟨h1, h2, h3⟩⟩ := h
  · exact ⟨hb, .inl h⟩
  · exact ⟨hb, .inr ⟨h1, h2, h3.ext e hw h2⟩⟩
theorem NumTold.num {S : HS} {v x : Int} (h : NumTold S v x) (hw : WfH S.ws S.bs) : S.num x = some v := by
  obtain ⟨_, ⟨h1, rfl⟩ | ⟨h1, h2, h3⟩⟩ := h
  · exact fixW_num S h1
  · exact h3.num hw h2 h1
theorem fixW_bd (v : Int) : 0 ≤ fixW v ∧ fixW v < 18446744073709551616 := by unfold fixW; split <;> omega
theorem part_len5 (S : HS) (v : Int) : (S.part 5 0 (numWords v).length 0 (numWords v) (numWords v).length).ws.length = S.ws.length + 1 + (numWords v).length := by
  unfold HS.part
  simp
  omega
theorem number_size (S : HS) (v : Int) : (S.number v).1.size = S.size ∧ (S.number v).1.times = S.times ∧ Ext S (S.number v).1 := by
  unfold HS.number
  split
  · exact ⟨rfl, rfl, Ext.refl _⟩
  · split
    · exact ⟨rfl, rfl, part_ext _ _ _ _ _ _ _⟩
    · exact ⟨rfl, rfl, Ext.refl _⟩
/-- Either it is the number, or nothing was laid. -/
theorem number_yes {S : HS} (hl : S.bs.length = S.ws.length) (hb : S.ws.length ≤ 1048576) (v : Int) (h : (S.number v).2.2 = true) : NumTold (S.number v).1 v (S.number v).2.1 ∧ ((S.number v).1.ws.length = S.ws.length ↔ isSmall v = true) := by
  unfold HS.number at *
  split at h
  · rename_i hs
    rw [if_pos hs]
    exact ⟨⟨fixW_bd v, .inl ⟨hs, rfl⟩⟩, by simp [hs]⟩
  · rename_i hs
    rw [if_neg hs]
    split at h
    · rename_i h2
      rw [if_pos h2]
      refine ⟨⟨by simp only; omega, .inr ⟨by simpa using hs, h2.1, num_in hl v⟩⟩, ?_⟩
      have := part_len5 S v
      simp only [hs]
      constructor
      · intro h; exfalso; omega
      · intro h; cases h
    · cases h
theorem number_no {S : HS} {v : Int} (h : (S.number v).2.2 = false) : (S.number v).1 = S := by
  unfold HS.number at *
  split at h
  · cases h
  · rename_i hs
    rw [if_neg hs]
    split at h
    · cases h
    · rename_i h2
      rw [if_neg h2]
/-- There is room: it is laid. -/
theorem number_room {S : HS} {v : Int} (hl : (limbsOf v.natAbs).length ≤ 256) (hr : S.ws.length + 130 ≤ S.size) : (S.number v).2.2 = true ∧ (S.number v).1.ws.length ≤ S.ws.length + 130 := by
  have h1 := numWords_len v
  have h2 := part_len5 S v
  unfold HS.number
  split
  · exact ⟨rfl, Nat.le_add_right _ _⟩
  · rw [if_pos]
    · exact ⟨rfl, by simp only; omega⟩
    · refine ⟨hl, ?_⟩
      unfold HS.room
      simp only [Bool.and_eq_true, decide_eq_true_eq]
      omega
theorem eqv_nums {S : HS} {a b x y : Int} (ha : S.num a = some x) (hb : S.num b = some y) : S.eqv a b = decide (x = y) := by
  unfold HS.eqv
  rw [ha, hb]
  by_cases h : a = b
  · have : x = y := by rw [h, hb] at ha; exact (Option.some.inj ha).symm
    simp [h, this]
  · simp [h]
theorem valL_zero (a : List Int) : valL (a ++ [0]) = valL a := by rw [valL_append]; simp [valL]
end Go.Proofs.Ytanjiecefioffaa

/- Words of the heap that are data. -/
namespace Go.Proofs.Ytanjiecefioffaa
open Go.RowKit

def noText : ByteArray := ⟨#[]⟩
/-- A datum's kind. -/
def Dm.kind : Dm → Int
  | .mk k _ _ _ _ _ _ => k
mutual
/-- A word is this datum (a plain one: as Take tells it). -/
def HIn (S : HS) : Dm → Int → Prop
  | .mk k n neg mag text items rest, x => (0 ≤ x ∧ x < 18446744073709551616) ∧
      ((∃ v, k = 1 ∧ n = 0 ∧ neg = decide (v < 0) ∧ mag = limbsOf v.natAbs ∧ text = noText ∧ items = [] ∧ rest = [] ∧ NumTold S v x) ∨
       (k = 2 ∧ neg = false ∧ mag = [] ∧ text = noText ∧ items = [] ∧ rest = [] ∧ ((n = 0 ∧ x = 2) ∨ (n = 1 ∧ x = 6))) ∨
       (k = 3 ∧ neg = false ∧ mag = [] ∧ text = noText ∧ items = [] ∧ rest = [] ∧ 0 ≤ n ∧ n ≤ 255 ∧ x = 256 * n + 22) ∨
       (k = 4 ∧ n = 0 ∧ neg = false ∧ mag = [] ∧ items = [] ∧ rest = [] ∧ text.size ≤ 8388600 ∧ TextIn S (bytesOf text) x) ∨
       (k = 5 ∧ n = 0 ∧ neg = false ∧ mag = [] ∧ items = [] ∧ rest = [] ∧ text.size ≤ 8388600 ∧ SymIn S (bytesOf text) x) ∨
       (k = 8 ∧ n = 0 ∧ neg = false ∧ mag = [] ∧ text = noText ∧ items = [] ∧ rest = [] ∧ x = 14) ∨
       (k = 6 ∧ n = 0 ∧ neg = false ∧ mag = [] ∧ text = noText ∧ ∃ y, HTo S items x y ∧ HEnd S rest y ∧ (items = [] → rest = [])) ∨
       (k = 7 ∧ n = 0 ∧ neg = false ∧ mag = [] ∧ text = noText ∧ rest = [] ∧ items.length ≤ 1048576 ∧ S.is x = true ∧ S.head x = headerOf 2 items.length 0 ∧ HRow S items ((x / 4).toNat + 1)))
/-- The words from a place on. -/
def HRow (S : HS) : List Dm → Nat → Prop
  | [], _ => True
  | d :: l, i => HIn S d (S.ws.getD i 0) ∧ HRow S l (i + 1)
/-- Pairs from one word to another. -/
def HTo (S : HS) : List Dm → Int → Int → Prop
  | [], x, y => x = y
  | d :: l, x, y => (0 ≤ x ∧ x < 18446744073709551616) ∧ S.is x = true ∧ S.head x = headerOf 1 2 0 ∧ HIn S d (S.ws.getD ((x / 4).toNat + 1) 0) ∧ HTo S l (S.ws.getD ((x / 4).toNat + 2) 0) y
/-- A chain's end. -/
def HEnd (S : HS) : List Dm → Int → Prop
  | [], x => x = 10
  | d :: l, x => HIn S d x ∧ d.kind ≠ 6 ∧ l = []
end
theorem dpair_head : tagH (headerOf 1 2 0) = 2 ∧ rawH (headerOf 1 2 0) = 0 ∧ kindH (headerOf 1 2 0) = 1 := by decide
mutual
theorem HIn.ext {S S' : HS} (e : Ext S S') (hw : WfH S.ws S.bs) : ∀ (d : Dm) {x : Int}, HIn S d x → HIn S' d x
  | .mk k n neg mag text items rest, x, h => by
    unfold HIn at h ⊢
    obtain ⟨hb, h⟩ := h
    refine ⟨hb, ?_⟩
    rcases h with ⟨v, h1, h2, h3, h4, h5, h6, h7, h8⟩ | h | h | ⟨h1, h2, h3, h4, h5, h6, h7, h8⟩ | ⟨h1, h2, h3, h4, h5, h6, h7, h8⟩ | h | ⟨h1, h2, h3, h4, h5, y, h6, h7, h8⟩ | ⟨h1, h2, h3, h4, h5, h6, h7, h8, h9, h10⟩
    · exact .inl ⟨v, h1, h2, h3, h4, h5, h6, h7, h8.ext e hw⟩
    · exact .inr (.inl h)
    · exact .inr (.inr (.inl h))
    · exact .inr (.inr (.inr (.inl ⟨h1, h2, h3, h4, h5, h6, h7, h8.ext e hw (by rw [bytesOf_len]; exact h7)⟩)))
    · exact .inr (.inr (.inr (.inr (.inl ⟨h1, h2, h3, h4, h5, h6, h7, h8.ext e hw (by rw [bytesOf_len]; exact h7)⟩))))
    · exact .inr (.inr (.inr (.inr (.inr (.inl h)))))
    · exact .inr (.inr (.inr (.inr (.inr (.inr (.inl ⟨h1, h2, h3, h4, h5, y, HTo.ext e hw items h6, HEnd.ext e hw rest h7, h8⟩))))))
    · refine .inr (.inr (.inr (.inr (.inr (.inr (.inr ⟨h1, h2, h3, h4, h5, h6, h7, e.is h8, by rw [e.head hw h8]; exact h9, ?_⟩))))))
      obtain ⟨g1, g2, g3⟩ := header_tag (kind := 2) (t := items.length) (r := 0) (by decide) (by decide) h7 (by decide)
      have hl := is_lt hw h8
      unfold HS.tag HS.raw at hl
      rw [show S.head x = headerOf 2 (items.length : Int) 0 from h9] at hl
      refine HRow.ext e hw items h10 ?_
      have : (tagH (headerOf 2 (items.length : Int) 0)).toNat = items.length := by
        have : tagH (headerOf 2 (items.length : Int) 0) = items.length := g1
        rw [this]; rfl
      omega
theorem HRow.ext {S S' : HS} (e : Ext S S') (hw : WfH S.ws S.bs) : ∀ (l : List Dm) {i : Nat}, HRow S l i → i + l.length ≤ S.ws.length → HRow S' l i
  | [], _, _, _ => by unfold HRow; trivial
  | d :: l, i, h, hl => by
    unfold HRow at h ⊢
    rw [List.length_cons] at hl
    rw [e.at (by omega)]
    exact ⟨HIn.ext e hw d h.1, HRow.ext e hw l h.2 (by omega)⟩
theorem HTo.ext {S S' : HS} (e : Ext S S') (hw : WfH S.ws S.bs) : ∀ (l : List Dm) {x y : Int}, HTo S l x y → HTo S' l x y
  | [], _, _, h => by unfold HTo at h ⊢; exact h
  | d :: l, x, y, h => by
    unfold HTo at h ⊢
    obtain ⟨h1, h2, h3, h4, h5⟩ := h
    have hl := is_lt hw h2
    unfold HS.tag HS.raw at hl
    rw [h3] at hl
    obtain ⟨g1, g2, g3⟩ := dpair_head
    rw [g1, g2] at hl
    refine ⟨h1, e.is h2, by rw [e.head hw h2]; exact h3, ?_, ?_⟩
    · rw [e.at (by omega)]; exact HIn.ext e hw d h4
    · rw [e.at (by omega)]; exact HTo.ext e hw l h5
theorem HEnd.ext {S S' : HS} (e : Ext S S') (hw : WfH S.ws S.bs) : ∀ (l : List Dm) {x : Int}, HEnd S l x → HEnd S' l x
  | [], _, h => by unfold HEnd at h ⊢; exact h
  | d :: l, x, h => by
    unfold HEnd at h ⊢
    exact ⟨HIn.ext e hw d h.1, h.2.1, h.2.2⟩
end
end Go.Proofs.Ytanjiecefioffaa

/- A map from strings to words: its look-up without 'ok', its store of a key that is there. -/
namespace Go.Proofs.Ytanjiecefioffaa
open Go.RowKit Go.MapKept

/-- The first entry of a key is set. -/
def SM.upd : SM → ByteArray → Int → SM
  | [], _, _ => []
  | p :: l, s, v => if p.1 = s then (s, v) :: l else p :: SM.upd l s v
theorem SM.get_cons (p : ByteArray × Int) (l : SM) (s : ByteArray) : SM.get (p :: l) s = if p.1 = s then some p.2 else SM.get l s := by
  unfold SM.get
  rw [List.find?_cons]
  by_cases h : p.1 = s <;> simp [h]
theorem SM.upd_keys (l : SM) (s : ByteArray) (v : Int) : (l.upd s v).map (·.1) = l.map (·.1) := by
  induction l with
  | nil => rfl
  | cons p l ih =>
    unfold SM.upd
    split
    · rename_i h; simp [h]
    · simp [ih]
theorem SM.upd_get (l : SM) (s : ByteArray) (v : Int) (t : ByteArray) (h : (l.get s).isSome = true) : (l.upd s v).get t = if t = s then some v else l.get t := by
  induction l with
  | nil => simp [SM.get] at h
  | cons p l ih =>
    rw [SM.get_cons] at h
    unfold SM.upd
    by_cases hp : p.1 = s
    · rw [if_pos hp, SM.get_cons]
      by_cases e : s = t
      · rw [if_pos e, if_pos e.symm]
      · rw [if_neg e, if_neg (fun h => e h.symm), SM.get_cons, if_neg (by rw [hp]; exact e)]
    · rw [if_neg hp] at h ⊢
      rw [SM.get_cons, SM.get_cons, ih h]
      by_cases e : p.1 = t
      · rw [if_pos e, if_neg (by rintro rfl; exact hp e), if_pos e]
      · rw [if_neg e, if_neg e]
theorem SM.get_isSome (l : SM) (s : ByteArray) : (l.get s).isSome = true ↔ s ∈ l.map (·.1) := by
  induction l with
  | nil => simp [SM.get]
  | cons p l ih =>
    rw [SM.get_cons, List.map_cons, List.mem_cons]
    by_cases h : p.1 = s
    · rw [if_pos h]; simp [h]
    · rw [if_neg h, ih]
      exact ⟨fun h => .inr h, fun h' => h'.resolve_left fun e => h e.symm⟩
theorem SM.upd_isSome (l : SM) (s : ByteArray) (v : Int) (t : ByteArray) : ((l.upd s v).get t).isSome = (l.get t).isSome := by
  have h1 := SM.get_isSome (l.upd s v) t
  have h2 := SM.get_isSome l t
  rw [SM.upd_keys] at h1
  cases a : ((l.upd s v).get t).isSome <;> cases b : (l.get t).isSome <;> simp_all
def SM.updAll (l : SM) : List (ByteArray × Int) → SM
  | [] => l
  | p :: r => SM.updAll (l.upd p.1 p.2) r
theorem SM.updAll_app (r : List (ByteArray × Int)) (p : ByteArray × Int) : ∀ l : SM, l.updAll (r ++ [p]) = (l.updAll r).upd p.1 p.2 := by
  induction r with
  | nil => intro l; rfl
  | cons q r ih => intro l; exact ih _
theorem SM.updAll_isSome (r : List (ByteArray × Int)) (t : ByteArray) : ∀ l : SM, ((l.updAll r).get t).isSome = (l.get t).isSome := by
  induction r with
  | nil => intro l; rfl
  | cons q r ih => intro l; unfold SM.updAll; rw [ih, SM.upd_isSome]
theorem SM.upd_modify (s : ByteArray) (v : Int) : ∀ (l : SM) (j : Nat), (∀ j' p, j' < j → l[j']? = some p → p.1 ≠ s) → (∃ p, l[j]? = some p ∧ p.1 = s) → l.upd s v = l.modify j fun _ => (s, v) := by
  intro l
  induction l with
  | nil => rintro j _ ⟨p, hp, _⟩; simp at hp
  | cons p l ih =>
    intro j h1 h2
    cases j with
    | zero =>
      obtain ⟨q, hq, hs⟩ := h2
      simp at hq
      subst hq
      unfold SM.upd
      rw [if_pos hs]
      rfl
    | succ j =>
      have hp : p.1 ≠ s := h1 0 p (by omega) rfl
      unfold SM.upd
      rw [if_neg hp, ih j (fun j' q hj hq => h1 (j' + 1) q (by omega) (by simpa using hq)) (by simpa using h2)]
      rfl
theorem entries_modify {es : Array MapEntry} {l : SM} (h : es.toList.map (fun e => (e.key, e.val)) = l.map smKV) (j : Nat) (s : ByteArray) (v : Int) :
    (es.modify j fun e => { e with key := .string s, val := .int .u64 v }).toList.map (fun e => (e.key, e.val)) = (l.modify j fun _ => (s, v)).map smKV := by
  apply List.ext_getElem?
  intro i
  have hi := congrArg (fun q : List (Value × Value) => q[i]?) h
  simp only [List.getElem?_map] at hi
  rw [List.getElem?_map, List.getElem?_map, Array.toList_modify, List.getElem?_modify, List.getElem?_modify]
  by_cases e : j = i
  · subst e
    cases h1 : es.toList[j]? with
    | none => rw [h1] at hi; cases h2 : l[j]? with
      | none => simp
      | some p => rw [h2] at hi; cases hi
    | some q => rw [h1] at hi; cases h2 : l[j]? with
      | none => rw [h2] at hi; cases hi
      | some p => simp [smKV]
  · simp only [if_neg e]
    cases h1 : es.toList[i]? with
    | none => rw [h1] at hi; cases h2 : l[i]? with
      | none => simp
      | some p => rw [h2] at hi; cases hi
    | some q => rw [h1] at hi; cases h2 : l[i]? with
      | none => rw [h2] at hi; cases hi
      | some p => rw [h2] at hi; simpa using hi

def setObj (w : World) (b : Nat) (o : Obj) : World := { w with heap := w.heap.setIfInBounds b o }
section
variable {P : Program} {w : World} {R : HP} {b : Nat} {l : SM}
/-- 'm[s]'. -/
theorem run_lookup_str1 (h : sat w (mapS b l * R)) {t kt et : TypeId} (ht : P.underlying t = some (.map kt et)) (hk : P.underlying kt = some .string) (hz : (zeroValue et).run P w = .ok (.int .u64 0) w) (s : ByteArray) :
    (Instr.lookup t (.map (some b)) (.string s) false).run P w = .ok (.int .u64 ((l.get s).getD 0)) w := by
  obtain ⟨es, clock, hs, hl⟩ := h.open_map
  have hg := hs.left.get
  have hc : ∀ e, (Instr.checkKey e 10000 kt (.string s)).run P w = .ok () w := fun e => run_checkKey (w := w) hk (k := .string s) trivial e 9999
  rcases find_str s es.toList l 0 hl with ⟨h1, h2, _⟩ | ⟨v, j, h1, h2, _⟩
  · rw [h1]
    simp [Instr.lookup, run_underlying ht, Go.MapKept.run_getObj_map hg, Result.andThen, hc, run_findKey hk h2, hz]
  · rw [h1]
    simp [Instr.lookup, run_underlying ht, Go.MapKept.run_getObj_map hg, Result.andThen, hc, run_findKey hk h2]

/-- 'm[s] = v', of a string that is there. -/
theorem run_update_str (h : sat w (mapS b l * R)) {t kt et : TypeId} (ht : P.underlying t = some (.map kt et)) (hk : P.underlying kt = some .string) (s : ByteArray) (v : Int) (hn : (l.get s).isSome = true) :
    ∃ o, (∀ n, (Instr.mapUpdate t (.map (some b)) (.string s) (.int .u64 v)).run P (w.drewN n) = .ok () ((setObj w b o).drewN n)) ∧ sat (setObj w b o) (mapS b (l.upd s v) * R) ∧ Below 0 w (setObj w b o) := by
  obtain ⟨es, clock, hs, hl⟩ := h.open_map
  have hg := hs.left.get
  rcases find_str s es.toList l 0 hl with ⟨h1, h2, _⟩ | ⟨v', j, h1, h2, ⟨e, h3, h4⟩, h5, h6⟩
  · rw [h1] at hn; cases hn
  · obtain ⟨k1, k2⟩ := heap_set (o' := .map (es.modify j fun e => { e with key := .string s, val := .int .u64 v }) clock) hg
    refine ⟨.map (es.modify j fun e => { e with key := .string s, val := .int .u64 v }) clock, ?_, ?_, ⟨rfl, rfl, rfl, by simp [setObj], fun k hk => by omega⟩⟩
    · intro n
      have hgn : (w.drewN n).heap[b]? = some (.map es clock) := hg
      have hc : ∀ e, (Instr.checkKey e 10000 kt (.string s)).run P (w.drewN n) = .ok () (w.drewN n) := fun e => run_checkKey (w := w.drewN n) hk (k := .string s) trivial e 9999
      have hj : es[j]? = some e := by simpa using h3
      rw [Nat.zero_add] at h2
      simp [Instr.mapUpdate, run_underlying ht, Go.MapKept.run_getObj_map hgn, Result.andThen, hc, run_findKey hk h2, hj, h4, run_keyThatStays (d := .string) (k := .string s) trivial, Go.MapKept.run_setObj_map _ hgn]
      rfl
    · rw [SM.upd_modify s v l j h5 h6]
      exact (hs.put k1 (fun k hk _ => k2 k hk)).shut_map (entries_modify hl j s v)
end
end Go.Proofs.Ytanjiecefioffaa

/- Collect's closure: a word, copied. -/
namespace Go.Proofs.Ytanjiecefioffaa
open Go.RowKit

/-- Where a collection keeps its things: the variables from, gone, to, h; gone's array; the new half's arrays. -/
structure GV where
  bf : Nat
  bg : Nat
  bt : Nat
  bh : Nat
  br : Nat
  bw : Nat
  cw : Nat
  bb : Nat
  cb : Nat

def gcMem (G : GV) (V : HV) (S : HS) (c : CS) : HP :=
  blk G.bf (.cells #[.pointer (some ⟨V.g, 1 + V.inn * 2, none⟩)] 94 (0, 0)) * (blk G.bg (.cells #[.slice (some ⟨G.br, 0, none⟩) S.ws.length S.ws.length] 35 (0, 0)) *
  (blk G.bt (.cells #[.slice (some ⟨G.bw, 0, none⟩) c.tw.length G.cw, .slice (some ⟨G.bb, 0, none⟩) c.tb.length G.cb] 93 (0, 0)) * (blk G.bh (.cells #[.pointer (some ⟨V.g, 0, none⟩)] 37 (0, 0)) *
  (row 22 1 G.br S.ws.length (c.gone.map u64) * (row 22 1 G.bw G.cw (c.tw.map u64) * row 4 1 G.bb G.cb (c.tb.map .bool))))))

structure GOk (S : HS) (c : CS) : Prop where
  len : c.tb.length = c.tw.length
  pos : 0 < c.tw.length
  gone : c.gone.length = S.ws.length

structure GMem (w : World) (G : GV) (V : HV) (S : HS) (c : CS) (R : HP) : Prop where
  s : sat w (gcMem G V S c * (isHeap V S * R))
  ok : HOk V S
  gok : GOk S c

theorem ret_u64 {a b : Int} (h : a = b) : Ending.returned (.int .u64 a) = .returned (.int .u64 b) := by rw [h]

section
variable {w : World} {G : GV} {V : HV} {S : HS} {c : CS} {R : HP}

theorem GMem.drewN (h : GMem w G V S c R) (n : Nat) : GMem (w.drewN n) G V S c R := ⟨h.s, h.ok, h.gok⟩
theorem GMem.v (h : GMem w G V S c R) : HeapV w V S := h.s.right.heapV h.ok
theorem GMem.from_ (h : GMem w G V S c R) : w.cell? ⟨G.bf, 0, none⟩ = some (.pointer (some ⟨V.g, 1 + V.inn * 2, none⟩)) := by
  have := h.s.left; unfold gcMem at this; exact (this.left.cell 0).trans rfl
theorem GMem.gonev (h : GMem w G V S c R) : w.cell? ⟨G.bg, 0, none⟩ = some (.slice (some ⟨G.br, 0, none⟩) S.ws.length S.ws.length) := by
  have := h.s.left; unfold gcMem at this; exact (this.right.left.cell 0).trans rfl
theorem GMem.hv (h : GMem w G V S c R) : w.cell? ⟨G.bh, 0, none⟩ = some (.pointer (some ⟨V.g, 0, none⟩)) := by
  have := h.s.left; unfold gcMem at this; exact (this.right.right.right.left.cell 0).trans rfl
theorem GMem.gone_sat (h : GMem w G V S c R) : sat w (row 22 1 G.br S.ws.length (c.gone.map u64)) := by
  have := h.s.left; unfold gcMem at this; exact this.right.right.right.right.left
theorem GMem.goneAt (h : GMem w G V S c R) {k : Nat} (hk : k < S.ws.length) : w.cell? ⟨G.br, k, none⟩ = some (.int .u64 (c.gone.getD k 0)) ∧ w.frozen? ⟨G.br, k, none⟩ = false := by
  have h1 : sat w (row 22 1 G.br S.ws.length (c.gone.map u64) * emp) := by rw [HP.mul_emp]; exact h.gone_sat
  exact ⟨h1.row_cell (by rw [List.getElem?_map, getD_get (by rw [h.gok.gone]; exact hk)]; rfl), h1.row_frozen k⟩

def CopyPost (G : GV) (V : HV) (S : HS) (c : CS) (x : Int) (R : HP) (w : World) (e : Ending) (w' : World) : Prop :=
  e = .returned (.int .u64 (copy1 S c x).2) ∧ Below 0 w w' ∧ ∃ bw cw bb cb, GMem w' { G with bw := bw, cw := cw, bb := bb, cb := cb } V S (copy1 S c x).1 R

/-- What the laying of a copy leaves: gone is not told yet. -/
def LaidGc (G : GV) (V : HV) (S : HS) (c : CS) (k : Nat) (R : HP) (w : World) (e : Ending) (w' : World) : Prop :=
  e = .returned (.int .u64 (4 * c.tw.length)) ∧ Below 0 w w' ∧ ∃ bw cw bb cb, GMem w' { G with bw := bw, cw := cw, bb := bb, cb := cb } V S { tw := c.tw ++ (S.ws.drop k).take (sizeAt S.ws k), tb := c.tb ++ laid (sizeAt S.ws k), gone := c.gone } R

theorem GMem.lay_gc (h : GMem w G V S c R) (k cap : Nat) (hfit : k + sizeAt S.ws k ≤ S.ws.length) (hroom : c.tw.length + sizeAt S.ws k ≤ 2097152) :
    Calls Try.prog 89 #[.pointer (some ⟨G.bt, 0, none⟩), .slice (some ⟨V.bw, k, none⟩) (sizeAt S.ws k) cap] w (LaidGc G V S c k R w) := by
  have hs : sat w (blk G.bt (.cells #[.slice (some ⟨G.bw, 0, none⟩) c.tw.length G.cw, .slice (some ⟨G.bb, 0, none⟩) c.tb.length G.cb] 93 (0, 0)) * (row 22 1 G.bw G.cw (c.tw.map u64) * (row 4 1 G.bb G.cb (c.tb.map .bool) *
    (blk G.bf (.cells #[.pointer (some ⟨V.g, 1 + V.inn * 2, none⟩)] 94 (0, 0)) * (blk G.bg (.cells #[.slice (some ⟨G.br, 0, none⟩) S.ws.length S.ws.length] 35 (0, 0)) * (blk G.bh (.cells #[.pointer (some ⟨V.g, 0, none⟩)] 37 (0, 0)) * (row 22 1 G.br S.ws.length (c.gone.map u64) * (isHeap V S * R)))))))) := h.s.perm (by unfold gcMem; ac_rfl)
  have hw1 := hs.right.row_bounds
  have hb1 := hs.right.right.row_bounds
  simp only [List.length_map, Nat.mul_one] at hw1 hb1
  have hxl : ((S.ws.drop k).take (sizeAt S.ws k)).length = sizeAt S.ws k := by simp; omega
  have hpos : 0 < sizeAt S.ws k := by unfold sizeAt; omega
  refine (lay_any G.bt 0 G.bw G.cw G.bb G.cb V.bw k (sizeAt S.ws k) cap _ 93 c.tw c.tb ((S.ws.drop k).take (sizeAt S.ws k)) hs rfl rfl hw1.1 hb1.1 h.gok.len h.gok.pos hxl hpos hroom ?_).mono ?_
  · intro j x hx
    refine h.v.hw _ _ ?_
    rw [List.getElem?_take] at hx
    split at hx
    · rw [List.getElem?_drop] at hx; exact hx
    · cases hx
  · rintro e w' ⟨he, hb, bw', cw', bb', cb', hcw, hcb, hs'⟩
    rw [hxl] at hs'
    refine ⟨he, hb, bw', cw', bb', cb', ?_, h.ok, ⟨?_, ?_, h.gok.gone⟩⟩
    · refine hs'.perm ?_
      unfold gcMem
      simp only [List.length_append, hxl, laid_len _ hpos, h.gok.len, List.setIfInBounds_toArray, List.set_cons_zero, List.set_cons_succ]
      ac_rfl
    · simp only [List.length_append, hxl, laid_len _ hpos, h.gok.len]
    · simp only [List.length_append]; have := h.gok.pos; omega

theorem GMem.setGone (h : GMem w G V S c R) (k : Nat) (v : Int) : GMem (w.setCell ⟨G.br, k, none⟩ (.int .u64 v)) G V S { c with gone := c.gone.set k v } R := by
  have hs : sat w (row 22 1 G.br S.ws.length (c.gone.map u64) * (blk G.bf (.cells #[.pointer (some ⟨V.g, 1 + V.inn * 2, none⟩)] 94 (0, 0)) * (blk G.bg (.cells #[.slice (some ⟨G.br, 0, none⟩) S.ws.length S.ws.length] 35 (0, 0)) *
  (blk G.bt (.cells #[.slice (some ⟨G.bw, 0, none⟩) c.tw.length G.cw, .slice (some ⟨G.bb, 0, none⟩) c.tb.length G.cb] 93 (0, 0)) * (blk G.bh (.cells #[.pointer (some ⟨V.g, 0, none⟩)] 37 (0, 0)) *
  (row 22 1 G.bw G.cw (c.tw.map u64) * (row 4 1 G.bb G.cb (c.tb.map .bool) * (isHeap V S * R)))))))) := h.s.perm (by unfold gcMem; ac_rfl)
  have h2 := hs.row_set k (.int .u64 v)
  rw [show (c.gone.map u64).set k (.int .u64 v) = (c.gone.set k v).map u64 by rw [List.map_set]] at h2
  exact ⟨h2.perm (by unfold gcMem; ac_rfl), h.ok, h.gok.len, h.gok.pos, by simpa using h.gok.gone⟩

set_option maxHeartbeats 400000 in
theorem GMem.copy_out (h : GMem w G V S c R) (x : Int) (x0 : 0 ≤ x) (x1 : x < 18446744073709551616) (hx : S.is x = false) :
    Calls Try.prog 87 #[.int .u64 x, .pointer (some ⟨G.bf, 0, none⟩), .pointer (some ⟨G.bg, 0, none⟩), .pointer (some ⟨G.bt, 0, none⟩), .pointer (some ⟨G.bh, 0, none⟩)] w (CopyPost G V S c x R w) := by
  have hf := h.from_
  have hc : copy1 S c x = (c, x) := by unfold copy1; rw [if_neg (by rw [hx]; simp)]
  have HC := Lib.hid hc
  have HX := Lib.hid hx
  clear hc hx
  go_enter Try.func87, Try.ntmps87
  go_wp2_with fail
  refine (is_any V.g (1 + V.inn * 2) V.bb S.bs.length V.cb S.bs x w h.v.cb rfl (by rw [h.ok.wf.len]; exact h.v.len) h.v.hb x0 x1).mono ?_
  rintro e w' ⟨rfl, n, rfl⟩
  rw [show isB S.bs x = false from HX.out]
  go_wp2_with fail
  go_ret
  unfold CopyPost
  rw [HC.out]
  exact ⟨rfl, drewN_below0 _ _, G.bw, G.cw, G.bb, G.cb, h.drewN n⟩

set_option maxHeartbeats 400000 in
theorem GMem.copy_old (h : GMem w G V S c R) (x : Int) (x0 : 0 ≤ x) (x1 : x < 18446744073709551616) (hx : S.is x = true) (hg : ¬ c.gone.getD (x / 4).toNat 0 = 0) :
    Calls Try.prog 87 #[.int .u64 x, .pointer (some ⟨G.bf, 0, none⟩), .pointer (some ⟨G.bg, 0, none⟩), .pointer (some ⟨G.bt, 0, none⟩), .pointer (some ⟨G.bh, 0, none⟩)] w (CopyPost G V S c x R w) := by
  have hf := h.from_
  have hgv := h.gonev
  obtain ⟨hlt, hj, hm, hb⟩ := h.v.word hx
  have hl := h.v.len
  have hlt2 : x / 4 < (S.ws.length : Int) := by omega
  have hga := (h.goneAt hlt).1
  have hc : copy1 S c x = (c, c.gone.getD (x / 4).toNat 0) := by unfold copy1; rw [if_pos hx, if_neg hg]
  generalize c.gone.getD (x / 4).toNat 0 = y at hc hg hga
  have hg2 : (y == 0) = false := by rw [beq_eq_false_iff_ne]; exact hg
  have HC := Lib.hid hc
  have HX := Lib.hid hx
  clear hc hx hj hm hg
  go_enter Try.func87, Try.ntmps87
  go_wp2_with fail
  refine (is_any V.g (1 + V.inn * 2) V.bb S.bs.length V.cb S.bs x w h.v.cb rfl (by rw [h.ok.wf.len]; exact h.v.len) h.v.hb x0 x1).mono ?_
  rintro e w' ⟨rfl, n, rfl⟩
  rw [show isB S.bs x = true from HX.out]
  go_wp2_with fail
  go_ret
  unfold CopyPost
  rw [HC.out]
  exact ⟨rfl, drewN_below0 _ _, G.bw, G.cw, G.bb, G.cb, h.drewN n⟩

set_option maxHeartbeats 400000 in
theorem GMem.copy_new (h : GMem w G V S c R) (x : Int) (x0 : 0 ≤ x) (x1 : x < 18446744073709551616) (hx : S.is x = true) (hg : c.gone.getD (x / 4).toNat 0 = 0) (hroom : c.tw.length + sizeAt S.ws (x / 4).toNat ≤ 2097152) :
    Calls Try.prog 87 #[.int .u64 x, .pointer (some ⟨G.bf, 0, none⟩), .pointer (some ⟨G.bg, 0, none⟩), .pointer (some ⟨G.bt, 0, none⟩), .pointer (some ⟨G.bh, 0, none⟩)] w (CopyPost G V S c x R w) := by
  have hf := h.from_
  have hgv := h.gonev
  have hhv := h.hv
  obtain ⟨hlt, hj, hm, hb⟩ := h.v.word hx
  have hl := h.v.len
  have hlt2 : x / 4 < (S.ws.length : Int) := by omega
  have hga := (h.goneAt hlt).1
  rw [hg] at hga
  have hc : copy1 S c x = (c.put S (x / 4).toNat, 4 * (c.tw.length : Int)) := by unfold copy1; rw [if_pos hx, if_pos hg]
  have hcw := h.v.cw
  have HC := Lib.hid hc
  have HX := Lib.hid hx
  clear hc hx hj hm hg
  go_enter Try.func87, Try.ntmps87
  go_wp2_with fail
  refine (is_any V.g (1 + V.inn * 2) V.bb S.bs.length V.cb S.bs x w h.v.cb rfl (by rw [h.ok.wf.len]; exact h.v.len) h.v.hb x0 x1).mono ?_
  rintro e w' ⟨rfl, n, rfl⟩
  rw [show isB S.bs x = true from HX.out]
  go_wp2_with fail
  have htb := tagH_bd (S.head x)
  have hrb := rawH_bd (S.head x)
  have ht0 : 0 ≤ S.tag x ∧ S.tag x < 16777216 := by unfold HS.tag; omega
  have hr0 : 0 ≤ S.raw x ∧ S.raw x < 16777216 := by unfold HS.raw; omega
  obtain ⟨hbk, hbh⟩ := h.v.begins HX.out
  have hfit := h.ok.wf.fits _ hbk
  rw [hbh] at hfit
  have hfit2 : x / 4 + 1 + S.tag x + S.raw x ≤ (S.ws.length : Int) := by unfold HS.tag HS.raw; omega
  have s1 : IntKind.i64.wrap (x / 4 + 1) = x / 4 + 1 := IntWalk.i64_in _ (by omega)
  have s2 : IntKind.i64.wrap (x / 4 + 1 + S.tag x) = x / 4 + 1 + S.tag x := IntWalk.i64_in _ (by omega)
  have s3 : IntKind.i64.wrap (x / 4 + 1 + S.tag x + S.raw x) = x / 4 + 1 + S.tag x + S.raw x := IntWalk.i64_in _ (by omega)
  have hwc := h.v.wc
  have b1 : 0 ≤ x / 4 := by omega
  have b2 : x / 4 ≤ x / 4 + 1 + S.tag x + S.raw x := by omega
  have b3 : x / 4 + 1 + S.tag x + S.raw x ≤ (V.cw : Int) := by omega
  have HFIT := Lib.hid (And.intro hbk (And.intro hbh hfit))
  clear htb hrb hbk hbh hfit
  have hne : ¬ V.cw = (x / 4).toNat := by omega
  have hlay : ∀ m, Calls Try.prog 89 #[.pointer (some ⟨G.bt, 0, none⟩), .slice (some ⟨V.bw, (x / 4).toNat, none⟩) ((x / 4 + 1 + S.tag x + S.raw x).toNat - (x / 4).toNat) (V.cw - (x / 4).toNat)] (w.drewN m) (LaidGc G V S c (x / 4).toNat R (w.drewN m)) := by
    intro m
    have hsz : (x / 4 + 1 + S.tag x + S.raw x).toNat - (x / 4).toNat = sizeAt S.ws (x / 4).toNat := by
      unfold sizeAt; rw [HFIT.out.2.1]; unfold HS.tag HS.raw at *; omega
    rw [hsz]
    exact (h.drewN m).lay_gc (x / 4).toNat _ (by have := HFIT.out.2.2; unfold sizeAt; rw [HFIT.out.2.1]; omega) hroom
  have HLAY := Lib.hid hlay
  clear hlay
  go_region_held3 (fun w' => w'.cell? ⟨G.bg, 0, none⟩ = some (.slice (some ⟨G.br, 0, none⟩) S.ws.length S.ws.length) ∧ w'.cell? ⟨G.bf, 0, none⟩ = some (.pointer (some ⟨V.g, 1 + V.inn * 2, none⟩)) ∧ w'.cell? ⟨V.g, 1 + V.inn * 2, none⟩ = some (.slice (some ⟨V.bw, 0, none⟩) S.ws.length V.cw) ∧ w'.cell? ⟨G.bh, 0, none⟩ = some (.pointer (some ⟨V.g, 0, none⟩)))
    (first | go_keep | exact ⟨k1, k2, k3, k4⟩ | exact ⟨(h3.setGone _ _).gonev, (h3.setGone _ _).from_, (h3.setGone _ _).v.cw, (h3.setGone _ _).hv⟩)
    (first
      | (go_at_call 41; refine ((h.v.drewN _).Tagged x x0 x1).mono ?_; rintro e w' ⟨rfl, m, rfl⟩)
      | (go_at_call 71; refine ((h.v.drewN _).Raws x x0 x1).mono ?_; rintro e w' ⟨rfl, m, rfl⟩)
      | (go_at_call 89; refine (HLAY.out _).mono ?_; rintro e w3 ⟨rfl, hb3, bw', cw', bb', cb', h3⟩; have k1 := h3.gonev; have k2 := h3.from_; have k3 := h3.v.cw; have k4 := h3.hv; have k5 := (h3.goneAt hlt).1; have k6 := (h3.goneAt hlt).2))
  have h4 := h3.setGone (x / 4).toNat (4 * c.tw.length)
  have q1 := h4.gonev
  have q2 := (h4.goneAt hlt).1
  clear k1 k2 k3 k4 k5 k6
  go_wp2_with fail
  go_ret
  unfold CopyPost
  rw [HC.out]
  refine ⟨ret_u64 ?_, ((drewN_below0 _ _).trans hb3).setCell (Nat.zero_le _) _, bw', cw', bb', cb', h4⟩
  rw [List.getElem?_set_self (by rw [h.gok.gone]; exact hlt)]; rfl

theorem GMem.copy (h : GMem w G V S c R) (x : Int) (x0 : 0 ≤ x) (x1 : x < 18446744073709551616) (hroom : S.is x = true → c.gone.getD (x / 4).toNat 0 = 0 → c.tw.length + sizeAt S.ws (x / 4).toNat ≤ 2097152) :
    Calls Try.prog 87 #[.int .u64 x, .pointer (some ⟨G.bf, 0, none⟩), .pointer (some ⟨G.bg, 0, none⟩), .pointer (some ⟨G.bt, 0, none⟩), .pointer (some ⟨G.bh, 0, none⟩)] w (CopyPost G V S c x R w) := by
  cases hx : S.is x with
  | false => exact h.copy_out x x0 x1 hx
  | true =>
    by_cases hg : c.gone.getD (x / 4).toNat 0 = 0
    · exact h.copy_new x x0 x1 hx hg (hroom hx hg)
    · exact h.copy_old x x0 x1 hx hg
end
end Go.Proofs.Ytanjiecefioffaa
