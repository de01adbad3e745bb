/- value.Store: Eqv. -/
import Derived.Test.YtanjiecefioffaaStoreNums
namespace Go.Proofs.Ytanjiecefioffaa
open Go.RowKit

def HS.eqv (S : HS) (a b : Int) : Bool := decide (a = b) || ((S.num a).isSome && ((S.num b).isSome && decide ((S.num a).getD 0 = (S.num b).getD 0)))
def StKeeps (X : StV) (V : HV) (S : HS) (Y : StS) (R : HP) (v : Value) (w : World) (e : Ending) (w' : World) : Prop := e = .returned v ∧ StW w' X V S Y R ∧ Below 0 w w'
theorem num_len {w : World} {V : HV} {S : HS} (h : HeapV w V S) (x : Int) (x0 : 0 ≤ x) (x1 : x < 18446744073709551616) : (limbsOf ((S.num x).getD 0).natAbs).length ≤ topB := by
  unfold HS.num
  split
  · obtain ⟨i0, i1⟩ := intW_bd x x0 x1
    simp only [Option.getD_some]
    have : (limbsOf (intW x).natAbs).length ≤ 2 := limbsOf_len (by show _ < 18446744073709551616; omega)
    unfold topB; omega
  · split
    · simp only [Option.getD_some]
      unfold HS.numV
      rw [sgn_abs]
      have h1 := limbsOf_len_le (limbs_lim h x x0 (S.raw x - 1).toNat)
      rw [limbs_len] at h1
      have h2 : S.raw x < 16777216 := by unfold HS.raw; exact (rawH_bd _).2
      unfold topB; omega
    · simp only [Option.getD_none]
      rw [show (0 : Int).natAbs = 0 from rfl, limbsOf_zero]
      simp
theorem cmpI_zero (x y : Int) : (cmpI x y == 0) = decide (x = y) := by
  unfold cmpI
  by_cases h1 : x < y
  · rw [if_pos h1, decide_eq_false (by omega)]; rfl
  · by_cases h2 : y < x
    · rw [if_neg h1, if_pos h2, decide_eq_false (by omega)]; rfl
    · rw [if_neg h1, if_neg h2, decide_eq_true (by omega)]; rfl

section
variable {w : World} {X : StV} {V : HV} {S : HS} {Y : StS} {R : HP}
set_option maxRecDepth 100000 in
set_option maxHeartbeats 1000000 in
theorem StW.Eqv (h : StW w X V S Y R) (a b : Int) (a0 : 0 ≤ a) (a1 : a < 18446744073709551616) (b0 : 0 ≤ b) (b1 : b < 18446744073709551616) :
    Calls Try.prog 37 #[.pointer (some ⟨X.g, 0, none⟩), .int .u64 a, .int .u64 b] w (StKeeps X V S Y R (.bool (S.eqv a b)) w) := by
  by_cases hab : a = b
  · subst hab
    have he : S.eqv a a = true := by unfold HS.eqv; simp
    rw [he]
    have HH := Lib.hid h
    clear h he
    have c1 : (a == a) = true := by simp
    go_enter Try.func37, Try.ntmps37
    go_wp2_with fail
    go_ret
    exact ⟨rfl, HH.out, Below.refl _ _⟩
  · have c1 : (a == b) = false := by simp [hab]
    have he : S.eqv a b = ((S.num a).isSome && ((S.num b).isSome && decide ((S.num a).getD 0 = (S.num b).getD 0))) := by unfold HS.eqv; rw [decide_eq_false hab, Bool.false_or]
    have hla := num_len h.hw.v a a0 a1
    have hlb := num_len h.hw.v b b0 b1
    have hN := h.Num a a0 a1
    have hN2 := fun (w' : World) (R' : HP) (h' : StW w' X V S Y R') => h'.Num b b0 b1
    generalize hx : (S.num a).getD 0 = x at *
    generalize hy : (S.num b).getD 0 = y at *
    generalize hsa : (S.num a).isSome = sa at *
    generalize hsb : (S.num b).isSome = sb at *
    have HE := Lib.hid he
    have HN2 := Lib.hid hN2
    clear he hx hy hsa hsb hN2 hab
    go_enter Try.func37, Try.ntmps37
    go_wp2_with fail
    with_reducible refine hN.mono ?_
    rintro e w2 ⟨ao, ac, rfl, hac, h2, hb2⟩
    have HB := Lib.hid (And.intro h2 hb2)
    obtain ⟨P, hP⟩ : ∃ P, decide (x < 0) = P := ⟨_, rfl⟩
    rw [hP]
    clear h2 hb2 hN
    go_wp2_with fail
    have h3 : StW (w2.alloc (.cells #[.bool P, .slice ao (limbsOf x.natAbs).length ac] 51)) X V S Y (Go.Proofs.Ytanjiecefioffaa.blk w2.heap.size (.cells #[.bool P, .slice ao (limbsOf x.natAbs).length ac] 51 (0, 0)) * (own 70 1 (.slice ao (limbsOf x.natAbs).length ac) (limbsOf x.natAbs).length ((limbsOf x.natAbs).map u32v) * R)) := ⟨(HB.out.1.s.alloc _).perm (by ac_rfl), HB.out.1.ok⟩
    have hb3 := HB.out.2.trans (Below.zero_alloc w2 (.cells #[.bool P, .slice ao (limbsOf x.natAbs).length ac] 51))
    generalize w2.alloc (.cells #[.bool P, .slice ao (limbsOf x.natAbs).length ac] 51) = w3 at *
    generalize w2.heap.size = ga at *
    have hN2 := HN2.out w3 _ h3
    have HB3 := Lib.hid hb3
    clear h3 hb3
    with_reducible refine hN2.mono ?_
    rintro e w4 ⟨bo, bc, rfl, hbc, h4, hb4⟩
    have HC := Lib.hid (And.intro h4 (HB3.out.trans hb4))
    obtain ⟨Q, hQ⟩ : ∃ Q, decide (y < 0) = Q := ⟨_, rfl⟩
    rw [hQ]
    clear h4 hb4 hN2
    go_upto_region 5 with (fail)
    have hs5 := HC.out.1.s.alloc (.cells #[.bool Q, .slice bo (limbsOf y.natAbs).length bc] 51)
    have hb5 := HC.out.2.trans (Below.zero_alloc w4 (.cells #[.bool Q, .slice bo (limbsOf y.natAbs).length bc] 51))
    generalize w4.alloc (.cells #[.bool Q, .slice bo (limbsOf y.natAbs).length bc] 51) = w5 at *
    generalize w4.heap.size = gb at *
    have d0 : w5.cell? ⟨ga, 0, none⟩ = some (.bool P) := (hs5.right.right.right.right.left.cell 0).trans rfl
    have d1 : w5.cell? ⟨ga, 1, none⟩ = some (.slice ao (limbsOf x.natAbs).length ac) := (hs5.right.right.right.right.left.cell 1).trans rfl
    have d2 : w5.cell? ⟨gb, 0, none⟩ = some (.bool Q) := (hs5.left.cell 0).trans rfl
    have d3 : w5.cell? ⟨gb, 1, none⟩ = some (.slice bo (limbsOf y.natAbs).length bc) := (hs5.left.cell 1).trans rfl
    have hfin : ∀ w', sat w' _ → StW w' X V S Y R := fun w' (h' : sat w' (Go.Proofs.Ytanjiecefioffaa.blk gb (.cells #[.bool Q, .slice bo (limbsOf y.natAbs).length bc] 51 (0, 0)) * (isHeap V S * (isSt X V.g Y * (own 70 1 (.slice bo (limbsOf y.natAbs).length bc) (limbsOf y.natAbs).length ((limbsOf y.natAbs).map u32v) * (Go.Proofs.Ytanjiecefioffaa.blk ga (.cells #[.bool P, .slice ao (limbsOf x.natAbs).length ac] 51 (0, 0)) * (own 70 1 (.slice ao (limbsOf x.natAbs).length ac) (limbsOf x.natAbs).length ((limbsOf x.natAbs).map u32v) * R))))))) => (⟨(show sat w' ((Go.Proofs.Ytanjiecefioffaa.blk gb (.cells #[.bool Q, .slice bo (limbsOf y.natAbs).length bc] 51 (0, 0)) * (own 70 1 (.slice bo (limbsOf y.natAbs).length bc) (limbsOf y.natAbs).length ((limbsOf y.natAbs).map u32v) * (Go.Proofs.Ytanjiecefioffaa.blk ga (.cells #[.bool P, .slice ao (limbsOf x.natAbs).length ac] 51 (0, 0)) * own 70 1 (.slice ao (limbsOf x.natAbs).length ac) (limbsOf x.natAbs).length ((limbsOf x.natAbs).map u32v)))) * (isHeap V S * (isSt X V.g Y * R))) from h'.perm (by ac_rfl)).right, HC.out.1.ok⟩ : StW w' X V S Y R)
    have hC := num_Cmp hs5 P Q ao bo ac bc (limbsOf x.natAbs) (limbsOf y.natAbs) (fun w' h' => limbs_own rfl h'.right.right.right.right.right) (fun w' h' => limbs_own rfl h'.right.right.right) (limbsOf_limbs _) (limbsOf_limbs _) hla hlb hac hbc
    rw [valL_limbsOf, valL_limbsOf, ← hP, ← hQ, sgn_dec, sgn_dec] at hC
    rw [hP, hQ] at hC
    have HD := Lib.hid (And.intro hs5 (And.intro hb5 hfin))
    clear hs5 hb5 hfin hP hQ hla hlb
    cases sa with
    | false =>
      go_wp2_with fail
      go_ret
      exact ⟨by rw [HE.out]; rfl, HD.out.2.2 w5 HD.out.1, HD.out.2.1⟩
    | true =>
      cases sb with
      | false =>
        go_wp2_with fail
        go_ret
        exact ⟨by rw [HE.out]; rfl, HD.out.2.2 w5 HD.out.1, HD.out.2.1⟩
      | true =>
        go_wp2_with fail
        with_reducible refine hC.mono ?_
        rintro e w6 ⟨rfl, hs6, hb6⟩
        have hcz := cmpI_zero x y
        rw [Bool.true_and, Bool.true_and] at HE
        generalize cmpI x y = cc at *
        obtain ⟨bb, hbb⟩ : ∃ bb, decide (x = y) = bb := ⟨_, rfl⟩
        rw [hbb] at hcz
        have HBB := Lib.hid hbb
        have HS6 := Lib.hid (And.intro (HD.out.2.2 w6 hs6) (HD.out.2.1.trans hb6))
        clear hbb hs6 hb6
        go_wp2_with fail
        go_ret
        exact ⟨by rw [HE.out, HBB.out]; rfl, HS6.out.1, HS6.out.2⟩
end
end Go.Proofs.Ytanjiecefioffaa
