/- value.Store: parts. -/
import Derived.Test.YtanjiecefioffaaVE10
import Derived.Test.YtanjiecefioffaaVE1
import Derived.Test.YtanjiecefioffaaVE4
import Derived.Test.YtanjiecefioffaaVE12
import Derived.Test.YtanjiecefioffaaVE9
namespace Go.Proofs.Ytanjiecefioffaa
open Go.RowKit

def flat2 (l : List (Int × Int)) : List Value := l.flatMap fun p => [.int .u64 p.1, .int .u64 p.2]
theorem flat2_len (l : List (Int × Int)) : (flat2 l).length = l.length * 2 := by
  unfold flat2
  induction l with
  | nil => rfl
  | cons p l ih => simp only [List.flatMap_cons, List.length_append, List.length_cons, List.length_nil, ih]; omega
theorem flat2_app (l m : List (Int × Int)) : flat2 (l ++ m) = flat2 l ++ flat2 m := by unfold flat2; simp
/-- The pairs of fields, the last one first. -/
def HS.fields2 (S : HS) (a b : Int) : Nat → List (Int × Int)
  | 0 => []
  | n + 1 => (S.getAt a n, S.getAt b n) :: S.fields2 a b n
def HS.kin (S : HS) (a b : Int) : Bool := (S.shape a 1 2 0 && S.shape b 1 2 0) || (S.shape a 2 (-1) 0 && S.shape b 2 (S.tag a) 0)
def HS.parts (S : HS) (a b : Int) : Option (List (Int × Int)) :=
  if S.eqv a b = true then some []
  else if (S.bytesOk a && S.bytesOk b) = true then (if S.bytes a = S.bytes b then some [] else none)
  else if S.kin a b = true then some (S.fields2 a b (S.tag a).toNat) else none
def PartsPost (X : StV) (V : HV) (S : HS) (Y : StS) (R : HP) (o : Option (List (Int × Int))) (w : World) (e : Ending) (w' : World) : Prop :=
  ∃ v, e = .returned (.tuple #[v, .bool o.isSome]) ∧ StW w' X V S Y (own 116 2 v (o.getD []).length (flat2 (o.getD [])) * R) ∧ Below 0 w w'
theorem info_two : (Try.prog.info? 116).map (fun i => (i.zero, i.size, i.bytes)) = some (some (.agg #[.int .u64 0, .int .u64 0]), 2, 16) := by kernel_rfl
def PRel (W : World) (X : StV) (V : HV) (S : HS) (Y : StS) (R : HP) (a b : Int) (n : Nat) (l i : Value) (wr : World) : Prop :=
  ∃ (k : Nat) (pre : List (Int × Int)), k ≤ n ∧ i = .int .i64 ((k : Int) - 1) ∧ pre ++ S.fields2 a b k = S.fields2 a b n ∧ pre.length + k = n ∧
    StW wr X V S Y (own 116 2 l pre.length (flat2 pre) * R) ∧ Below 0 W wr
theorem fields2_len (S : HS) (a b : Int) (n : Nat) : (S.fields2 a b n).length = n := by
  induction n with
  | zero => rfl
  | succ n ih => simp only [HS.fields2, List.length_cons, ih]

theorem str_eq {l m : List Int} (hl : Bytes l) (hm : Bytes m) : ((strOfNums l).toList == (strOfNums m).toList) = decide (l = m) := by
  by_cases e : l = m
  · rw [e]; simp
  · rw [decide_eq_false e, beq_eq_false_iff_ne]
    intro h
    rw [ByteArray.toList_eq, ByteArray.toList_eq] at h
    have h1 : bytesOf (strOfNums l) = bytesOf (strOfNums m) := by unfold bytesOf; rw [h]
    rw [bytesOf_strOf hl, bytesOf_strOf hm] at h1
    exact e h1
theorem bytesL_bd (S : HS) (x : Int) : Bytes (S.bytes x) := by
  unfold HS.bytes
  split
  · intro z hz
    unfold HS.bytesL at hz
    obtain ⟨i, _, rfl⟩ := List.mem_map.1 hz
    unfold HS.byteAt
    omega
  · intro z hz; simp at hz
section
variable {w : World} {X : StV} {V : HV} {S : HS} {Y : StS} {R : HP}
set_option maxRecDepth 100000 in
set_option maxHeartbeats 2000000 in
theorem StW.parts (h : StW w X V S Y R) (a b : Int) (a0 : 0 ≤ a) (a1 : a < 18446744073709551616) (b0 : 0 ≤ b) (b1 : b < 18446744073709551616) :
    Calls Try.prog 76 #[.pointer (some ⟨X.g, 0, none⟩), .int .u64 a, .int .u64 b] w (PartsPost X V S Y R (S.parts a b) w) := by
  obtain ⟨i0, hi, hz0, hz1, hz2⟩ := info_parts info_two
  have H1 := Lib.hid (And.intro hi (And.intro hz0 (And.intro hz1 hz2)))
  clear hi hz0 hz1 hz2
  have hE := h.Eqv a b a0 a1 b0 b1
  have hBa := fun (w' : World) (h' : StW w' X V S Y R) => h'.Bytes a a0 a1
  have hBb := fun (w' : World) (R' : HP) (h' : StW w' X V S Y R') => h'.Bytes b b0 b1
  have hT := fun (w' : World) (h' : StW w' X V S Y R) => h'.hw.v.Tagged a a0 a1
  have hSh := fun (w' : World) (h' : StW w' X V S Y R) (x k t r : Int) (x0 : 0 ≤ x) (x1 : x < 18446744073709551616) => h'.shape x k t r x0 x1
  have htb : 0 ≤ S.tag a ∧ S.tag a < 16777216 := by unfold HS.tag; exact tagH_bd _
  have HH := Lib.hid (And.intro hBa (And.intro hBb (And.intro hT hSh)))
  have hc0 := fun (w' : World) (R' : HP) (h' : StW w' X V S Y R') => h'.c0
  have HC0 := Lib.hid hc0
  clear hBa hBb hT hSh h hc0
  cases he : S.eqv a b with
  | true =>
    have hp : S.parts a b = some [] := by unfold HS.parts; rw [if_pos he]
    rw [he] at hE
    have HP := Lib.hid hp
    clear he hp
    go_enter Try.func76, Try.ntmps76
    go_wp2_with fail
    with_reducible refine hE.mono ?_
    rintro e w2 ⟨rfl, h2, hb2⟩
    go_wp2_with fail
    go_ret2
    refine ⟨.slice none 0 0, by rw [HP.out]; rfl, ⟨?_, h2.ok⟩, hb2⟩
    rw [HP.out]
    exact (h2.s.nil_own (e := 116) (sz := 2)).perm (by simp only [Option.getD_some, List.length_nil]; show own _ _ _ _ [] * _ = isHeap V S * (isSt X V.g Y * (own _ _ _ _ [] * R)); ac_rfl)
  | false =>
    rw [he] at hE
    have hba := bytesL_bd S a
    have hbb := bytesL_bd S b
    cases hta : S.bytesOk a && S.bytesOk b with
    | true =>
      have oka : S.bytesOk a = true := by rw [Bool.and_eq_true] at hta; exact hta.1
      have okb : S.bytesOk b = true := by rw [Bool.and_eq_true] at hta; exact hta.2
      go_enter Try.func76, Try.ntmps76
      go_wp2_with fail
      with_reducible refine hE.mono ?_
      rintro e w2 ⟨rfl, h2, hb2⟩
      have hB1 := HH.out.1 w2 h2
      go_wp2_with fail
      with_reducible refine hB1.mono ?_
      rintro e w3 ⟨v1, rfl, h3, hb3⟩
      have hB2 := HH.out.2.1 w3 _ h3
      clear hE hB1 h2
      go_wp2_with fail
      with_reducible refine hB2.mono ?_
      rintro e w4 ⟨v2, rfl, h4, hb4⟩
      have hbw := (hb2.trans hb3).trans hb4
      clear hB2 h3 hb2 hb3 hb4

      rw [okb]
      have hs1 : sat w4 (own 5 1 v1 (S.bytes a).length ((S.bytes a).map u8v) * (own 5 1 v2 (S.bytes b).length ((S.bytes b).map u8v) * (isHeap V S * (isSt X V.g Y * R)))) := h4.s.perm (by ac_rfl)
      have hs2 : sat w4 (own 5 1 v2 (S.bytes b).length ((S.bytes b).map u8v) * (own 5 1 v1 (S.bytes a).length ((S.bytes a).map u8v) * (isHeap V S * (isSt X V.g Y * R)))) := h4.s.perm (by ac_rfl)
      have hcv1 := fun n => run_own_string (P := Try.prog) 44 9 5 Try.underlying44 Try.underlying5 Try.underlying9 (bs := S.bytes a) rfl (hs1.drewN n)
      have hcv2 := fun n => run_own_string (P := Try.prog) 44 9 5 Try.underlying44 Try.underlying5 Try.underlying9 (bs := S.bytes b) rfl (hs2.drewN n)
      have hq : ((strOfNums (S.bytes a)).toList == (strOfNums (S.bytes b)).toList) = decide (S.bytes a = S.bytes b) := str_eq hba hbb
      generalize strOfNums (S.bytes a) = sa at *
      generalize strOfNums (S.bytes b) = sb at *
      obtain ⟨bb, hbbv⟩ : ∃ bb, decide (S.bytes a = S.bytes b) = bb := ⟨_, rfl⟩
      rw [hbbv] at hq
      have HSS := Lib.hid (And.intro h4 (And.intro hbw (And.intro hbbv (And.intro he hta))))
      clear h4 hbw hs1 hs2 hbbv he hta oka okb hba hbb
      go_wp2_with fail
      go_quiet (fail)
      go_wp2_with fail
      go_ret2
      have hpp : S.parts a b = if bb = true then some [] else none := by
        unfold HS.parts
        rw [if_neg (by rw [HSS.out.2.2.2.1]; simp), if_pos HSS.out.2.2.2.2, ← HSS.out.2.2.1]
        by_cases e : S.bytes a = S.bytes b
        · rw [if_pos e, if_pos (by simpa using e)]
        · rw [if_neg e, if_neg (by simpa using e)]
      have hnil : (S.parts a b).getD [] = [] := by rw [hpp]; cases bb <;> rfl
      refine ⟨.slice none 0 0, by rw [hpp]; cases bb <;> rfl, ⟨?_, HSS.out.1.ok⟩, HSS.out.2.1.trans (drewN_below0 _ _)⟩
      rw [hnil]
      exact ((HSS.out.1.drop.drop.drewN _).s.nil_own (e := 116) (sz := 2)).perm (by simp only [List.length_nil]; show own _ _ _ _ [] * _ = isHeap V S * (isSt X V.g Y * (own _ _ _ _ [] * R)); ac_rfl)
    | false =>
      have hpp : S.parts a b = if S.kin a b = true then some (S.fields2 a b (S.tag a).toNat) else none := by
        unfold HS.parts
        rw [if_neg (by rw [he]; simp), if_neg (by rw [hta]; simp)]
      have HPQ := Lib.hid hpp
      clear hpp
      cases oka : S.bytesOk a with
      | false =>
        go_enter Try.func76, Try.ntmps76
        go_wp2_with fail
        with_reducible refine hE.mono ?_
        rintro e w2 ⟨rfl, h2, hb2⟩
        have hB1 := HH.out.1 w2 h2
        go_wp2_with fail
        with_reducible refine hB1.mono ?_
        rintro e w3 ⟨v1, rfl, h3, hb3⟩
        have hB2 := HH.out.2.1 w3 _ h3
        clear hE hB1 h2
        go_wp2_with fail
        with_reducible refine hB2.mono ?_
        rintro e w4 ⟨v2, rfl, h4, hb4⟩
        have hbw := (hb2.trans hb3).trans hb4
        clear hB2 h3 hb2 hb3 hb4
        have okb := Lib.hid (rfl : S.bytesOk b = S.bytesOk b)
        generalize S.bytesOk b = ob at *
        clear hta
        have h5 := h4.drop.drop
        have hb5 := hbw
        have hT1 := HH.out.2.2.1 w4 h5
        have c0 := HC0.out w4 R h5
        obtain ⟨n, hn⟩ : ∃ n : Nat, S.tag a = n := ⟨(S.tag a).toNat, by omega⟩
        rw [hn] at hT1
        have hn2 : n < 16777216 := by omega
        have HPP := Lib.hid (And.intro HPQ.out (show (S.tag a).toNat = n by omega))
        have HTN := Lib.hid hn
        clear HPQ h4 hbw hn he hba hbb
        go_wp2_with fail
        with_reducible refine hT1.mono ?_
        rintro e w' ⟨rfl, j1, rfl⟩
        have h6 := h5.drewN j1
        have hb6 := hb5.trans (drewN_below0 w4 j1)
        clear hT1 h5 hb5 c0
        generalize w4.drewN j1 = w6 at *
        have hs1 := HH.out.2.2.2 w6 h6 a 1 2 0 a0 a1
        cases p1 : S.shape a 1 2 0 with
        | true =>
          rw [p1] at hs1
          go_wp2_with fail
          with_reducible refine hs1.mono ?_
          rintro e w' ⟨rfl, j2, rfl⟩
          have h7 := h6.drewN j2
          have hb7 := hb6.trans (drewN_below0 w6 j2)
          clear hs1 h6 hb6
          generalize w6.drewN j2 = w7 at *
          have hs2 := HH.out.2.2.2 w7 h7 b 1 2 0 b0 b1
          cases p2 : S.shape b 1 2 0 with
          | true =>
            rw [p2] at hs2
            go_wp2_with fail
            with_reducible refine hs2.mono ?_
            rintro e w' ⟨rfl, j3, rfl⟩
            have h8 := h7.drewN j3
            have hb8 := hb7.trans (drewN_below0 w7 j3)
            clear hs2 h7 hb7
            generalize w7.drewN j3 = w8 at *
            have g1 : IntKind.i64.wrap ((n : Int) - 1) = (n : Int) - 1 := IntWalk.i64_in _ (by omega)
            have hp : S.parts a b = some (S.fields2 a b n) := by
              rw [HPP.out.1, if_pos (by unfold HS.kin; rw [p1, p2]; rfl), HPP.out.2]
            have HP := Lib.hid hp
            have HX8 := Lib.hid (And.intro h8 hb8)
            clear hp h8 hb8
            go_wp2_with fail
            go_loopw [14, 15] (PRel w X V S Y R a b n) (fun _ i _ => (intOf i + 1).toNat)
            case atStart =>
              refine ⟨n, [], Nat.le_refl _, rfl, rfl, by simp, ⟨?_, HX8.out.1.ok⟩, HX8.out.2⟩
              exact (HX8.out.1.s.nil_own (e := 116) (sz := 2)).perm (by simp only [List.length_nil]; show own _ _ _ _ [] * _ = isHeap V S * (isSt X V.g Y * (own _ _ _ _ [] * R)); ac_rfl)
            case round =>
              obtain ⟨k, pre, hk, rfl, hpre, hpl, hs, hb⟩ := hrel
              cases k with
              | zero =>
                have b3 : decide ((((0 : Nat) : Int) - 1) ≥ 0) = false := by decide
                have hpre2 : pre = S.fields2 a b n := by simpa [HS.fields2] using hpre
                have HF := Lib.hid (And.intro hs (And.intro hb hpre2))
                clear hs hb hpre hpre2
                go_wp2_with fail
                go_ret2
                refine ⟨_, by rw [HP.out]; rfl, ?_, HF.out.2.1⟩
                rw [HP.out, Option.getD_some, ← HF.out.2.2]
                exact HF.out.1
              | succ k =>
                have c0 := HC0.out wr _ hs
                have hga := hs.Get a k a0 a1
                have hgb := fun m : Nat => (hs.drewN m).Get b k b0 b1
                have hpre3 : (pre ++ [(S.getAt a k, S.getAt b k)]) ++ S.fields2 a b k = S.fields2 a b n := by rw [← hpre, List.append_assoc]; rfl
                generalize S.getAt a k = x at *
                generalize S.getAt b k = y at *
                generalize decide (0 ≤ (k : Int) ∧ (k : Int) < S.tag a) = q1 at *
                generalize decide (0 ≤ (k : Int) ∧ (k : Int) < S.tag b) = q2 at *
                have b3 : decide ((((k + 1 : Nat) : Int) - 1) ≥ 0) = true := by rw [decide_eq_true_eq]; omega
                have b4 : (((k + 1 : Nat) : Int) - 1) = (k : Int) := by omega
                rw [b4] at b3 ⊢
                have HF := Lib.hid (And.intro hs (And.intro hb hpre3))
                clear hs hb hpre hpre3 b4
                go_wp2_with fail
                refine hga.mono ?_
                rintro e w' ⟨rfl, m1, rfl⟩
                go_wp2_with fail
                refine (hgb m1).mono ?_
                rintro e w' ⟨rfl, m2, rfl⟩
                have hs5 := (HF.out.1.drewN m1).drewN m2
                have hb5 := (HF.out.2.1.trans (drewN_below0 wr m1)).trans (drewN_below0 _ m2)
                generalize (wr.drewN m1).drewN m2 = w5 at *
                clear hga hgb c0
                go_wp2_with (at_builtin; refine halt ?_)
                refine goon ?_
                obtain ⟨hi, hz0, hz1, hz2⟩ := H1.out
                have hs7 : sat (w5.alloc (.cells #[.int .u64 x, .int .u64 y] 116)) (own 116 2 u14 pre.length (flat2 pre) * (Go.Proofs.Ytanjiecefioffaa.blk w5.heap.size (.cells #[.int .u64 x, .int .u64 y] 116 (0, 0)) * (isHeap V S * (isSt X V.g Y * R)))) := (hs5.s.alloc (.cells #[.int .u64 x, .int .u64 y] 116)).perm (by ac_rfl)
                have hb7 : Below 0 w (w5.alloc (.cells #[.int .u64 x, .int .u64 y] 116)) := hb5.trans (Below.zero_alloc _ _)
                have hnew : ∀ (j : Nat) u, [Value.int .u64 x, Value.int .u64 y][j]? = some u → (w5.alloc (.cells #[.int .u64 x, .int .u64 y] 116)).cell? ((⟨w5.heap.size, 0, none⟩ : Addr).add j) = some u := by
                  intro j u hj
                  have ha : ((⟨w5.heap.size, 0, none⟩ : Addr).add j) = ⟨w5.heap.size, j, none⟩ := by unfold Addr.add; split <;> simp_all
                  rw [ha, hs7.right.left.cell j]
                  match j, hj with
                  | 0, hj => simpa using hj
                  | 1, hj => simpa using hj
                have hok5 := hs5.ok
                clear hs5 hb5
                generalize w5.alloc (.cells #[.int .u64 x, .int .u64 y] 116) = w7 at *
                generalize w5.heap.size = bn at *
                refine wpList_append_sat rfl (.tmp 99) (.tmp 103) 117 rfl 116 i0 (.agg #[.int .u64 0, .int .u64 0]) 2 16 Try.underlying117 hi hz0 hz1 hz2 rfl u14 pre.length (flat2 pre) rfl _ ⟨bn, 0, none⟩ 1 1 [.int .u64 x, .int .u64 y] rfl ?_ hs7 rfl hnew (by intro u hu; simp at hu; rcases hu with rfl | rfl <;> rfl) (by omega) (by unfold maxLen; omega)
                clear hi hz0 hz1 hz2 hnew hs7
                intro v' w9 hs9 hb9
                have HQ := Lib.hid (And.intro hs9 (And.intro (hb7.trans hb9) hok5))
                clear hs9 hb9 hb7 hok5
                go_wp2_with fail
                go_roundw
                case rel =>
                  refine ⟨k, pre ++ [(x, y)], by omega, rfl, HF.out.2.2, by simp only [List.length_append, List.length_cons, List.length_nil]; omega, ⟨?_, HQ.out.2.2⟩, HQ.out.2.1⟩
                  have hs10 := (show sat w9 (Go.Proofs.Ytanjiecefioffaa.blk bn (.cells #[.int .u64 x, .int .u64 y] 116 (0, 0)) * (isHeap V S * (isSt X V.g Y * (own 116 2 v' (pre.length + 1) (flat2 pre ++ [.int .u64 x, .int .u64 y]) * R)))) from HQ.out.1.perm (by ac_rfl)).right
                  rw [flat2_app, List.length_append]
                  exact hs10
                case measure => simp [intOf]
          | false =>
            rw [p2] at hs2
            go_wp2_with fail
            with_reducible refine hs2.mono ?_
            rintro e w' ⟨rfl, j3, rfl⟩
            have h9 := h7.drewN j3
            have hb9 := hb7.trans (drewN_below0 w7 j3)
            clear hs2 h7 hb7
            generalize w7.drewN j3 = w9 at *
            have p3 : S.shape a 2 (-1) 0 = false := by
              unfold HS.shape at p1 ⊢
              rw [Bool.and_eq_true, decide_eq_true_eq] at p1
              rw [p1.1]; rfl
            have hs3 := HH.out.2.2.2 w9 h9 a 2 (-1) 0 a0 a1
            rw [p3] at hs3
            go_wp2_with fail
            with_reducible refine hs3.mono ?_
            rintro e w' ⟨rfl, j4, rfl⟩
            have h8 := h9.drewN j4
            have hb8 := hb9.trans (drewN_below0 w9 j4)
            clear hs3 h9 hb9
            generalize w9.drewN j4 = w8 at *
            have hp : S.parts a b = none := by rw [HPP.out.1, if_neg (by unfold HS.kin; rw [p1, p2, p3]; simp)]
            have HP := Lib.hid hp
            have HX8 := Lib.hid (And.intro h8 hb8)
            clear hp h8 hb8
            go_wp2_with fail
            go_ret2
            refine ⟨.slice none 0 0, by rw [HP.out]; rfl, ⟨?_, HX8.out.1.ok⟩, HX8.out.2⟩
            rw [HP.out]
            exact (HX8.out.1.s.nil_own (e := 116) (sz := 2)).perm (by simp only [Option.getD_none, List.length_nil]; show own _ _ _ _ [] * _ = isHeap V S * (isSt X V.g Y * (own _ _ _ _ [] * R)); ac_rfl)
        | false =>
          rw [p1] at hs1
          go_wp2_with fail
          with_reducible refine hs1.mono ?_
          rintro e w' ⟨rfl, j2, rfl⟩
          have h9 := h6.drewN j2
          have hb9 := hb6.trans (drewN_below0 w6 j2)
          clear hs1 h6 hb6
          generalize w6.drewN j2 = w9 at *
          have hs3 := HH.out.2.2.2 w9 h9 a 2 (-1) 0 a0 a1
          cases p3 : S.shape a 2 (-1) 0 with
          | false =>
            rw [p3] at hs3
            go_wp2_with fail
            with_reducible refine hs3.mono ?_
            rintro e w' ⟨rfl, j4, rfl⟩
            have h8 := h9.drewN j4
            have hb8 := hb9.trans (drewN_below0 w9 j4)
            clear hs3 h9 hb9
            generalize w9.drewN j4 = w8 at *
            have hp : S.parts a b = none := by rw [HPP.out.1, if_neg (by unfold HS.kin; rw [p1, p3]; simp)]
            have HP := Lib.hid hp
            have HX8 := Lib.hid (And.intro h8 hb8)
            clear hp h8 hb8
            go_wp2_with fail
            go_ret2
            refine ⟨.slice none 0 0, by rw [HP.out]; rfl, ⟨?_, HX8.out.1.ok⟩, HX8.out.2⟩
            rw [HP.out]
            exact (HX8.out.1.s.nil_own (e := 116) (sz := 2)).perm (by simp only [Option.getD_none, List.length_nil]; show own _ _ _ _ [] * _ = isHeap V S * (isSt X V.g Y * (own _ _ _ _ [] * R)); ac_rfl)
          | true =>
            rw [p3] at hs3
            go_wp2_with fail
            with_reducible refine hs3.mono ?_
            rintro e w' ⟨rfl, j4, rfl⟩
            have h10 := h9.drewN j4
            have hb10 := hb9.trans (drewN_below0 w9 j4)
            clear hs3 h9 hb9
            generalize w9.drewN j4 = w10 at *
            have hs4 := HH.out.2.2.2 w10 h10 b 2 n 0 b0 b1
            cases p4 : S.shape b 2 n 0 with
            | false =>
              rw [p4] at hs4
              go_wp2_with fail
              with_reducible refine hs4.mono ?_
              rintro e w' ⟨rfl, j5, rfl⟩
              have h8 := h10.drewN j5
              have hb8 := hb10.trans (drewN_below0 w10 j5)
              clear hs4 h10 hb10
              generalize w10.drewN j5 = w8 at *
              have hp : S.parts a b = none := by rw [HPP.out.1, if_neg (by unfold HS.kin; rw [p1, p3, HTN.out, p4]; simp)]
              have HP := Lib.hid hp
              have HX8 := Lib.hid (And.intro h8 hb8)
              clear hp h8 hb8
              go_wp2_with fail
              go_ret2
              refine ⟨.slice none 0 0, by rw [HP.out]; rfl, ⟨?_, HX8.out.1.ok⟩, HX8.out.2⟩
              rw [HP.out]
              exact (HX8.out.1.s.nil_own (e := 116) (sz := 2)).perm (by simp only [Option.getD_none, List.length_nil]; show own _ _ _ _ [] * _ = isHeap V S * (isSt X V.g Y * (own _ _ _ _ [] * R)); ac_rfl)
            | true =>
              rw [p4] at hs4
              go_wp2_with fail
              with_reducible refine hs4.mono ?_
              rintro e w' ⟨rfl, j5, rfl⟩
              have h8 := h10.drewN j5
              have hb8 := hb10.trans (drewN_below0 w10 j5)
              clear hs4 h10 hb10
              generalize w10.drewN j5 = w8 at *
              have g1 : IntKind.i64.wrap ((n : Int) - 1) = (n : Int) - 1 := IntWalk.i64_in _ (by omega)
              have hp : S.parts a b = some (S.fields2 a b n) := by
                rw [HPP.out.1, if_pos (by unfold HS.kin; rw [p1, p3, HTN.out, p4]; rfl), HPP.out.2]
              have HP := Lib.hid hp
              have HX8 := Lib.hid (And.intro h8 hb8)
              clear hp h8 hb8
              go_wp2_with fail
              go_loopw [14, 15] (PRel w X V S Y R a b n) (fun _ i _ => (intOf i + 1).toNat)
              case atStart =>
                refine ⟨n, [], Nat.le_refl _, rfl, rfl, by simp, ⟨?_, HX8.out.1.ok⟩, HX8.out.2⟩
                exact (HX8.out.1.s.nil_own (e := 116) (sz := 2)).perm (by simp only [List.length_nil]; show own _ _ _ _ [] * _ = isHeap V S * (isSt X V.g Y * (own _ _ _ _ [] * R)); ac_rfl)
              case round =>
                obtain ⟨k, pre, hk, rfl, hpre, hpl, hs, hb⟩ := hrel
                cases k with
                | zero =>
                  have b3 : decide ((((0 : Nat) : Int) - 1) ≥ 0) = false := by decide
                  have hpre2 : pre = S.fields2 a b n := by simpa [HS.fields2] using hpre
                  have HF := Lib.hid (And.intro hs (And.intro hb hpre2))
                  clear hs hb hpre hpre2
                  go_wp2_with fail
                  go_ret2
                  refine ⟨_, by rw [HP.out]; rfl, ?_, HF.out.2.1⟩
                  rw [HP.out, Option.getD_some, ← HF.out.2.2]
                  exact HF.out.1
                | succ k =>
                  have c0 := HC0.out wr _ hs
                  have hga := hs.Get a k a0 a1
                  have hgb := fun m : Nat => (hs.drewN m).Get b k b0 b1
                  have hpre3 : (pre ++ [(S.getAt a k, S.getAt b k)]) ++ S.fields2 a b k = S.fields2 a b n := by rw [← hpre, List.append_assoc]; rfl
                  generalize S.getAt a k = x at *
                  generalize S.getAt b k = y at *
                  generalize decide (0 ≤ (k : Int) ∧ (k : Int) < S.tag a) = q1 at *
                  generalize decide (0 ≤ (k : Int) ∧ (k : Int) < S.tag b) = q2 at *
                  have b3 : decide ((((k + 1 : Nat) : Int) - 1) ≥ 0) = true := by rw [decide_eq_true_eq]; omega
                  have b4 : (((k + 1 : Nat) : Int) - 1) = (k : Int) := by omega
                  rw [b4] at b3 ⊢
                  have HF := Lib.hid (And.intro hs (And.intro hb hpre3))
                  clear hs hb hpre hpre3 b4
                  go_wp2_with fail
                  refine hga.mono ?_
                  rintro e w' ⟨rfl, m1, rfl⟩
                  go_wp2_with fail
                  refine (hgb m1).mono ?_
                  rintro e w' ⟨rfl, m2, rfl⟩
                  have hs5 := (HF.out.1.drewN m1).drewN m2
                  have hb5 := (HF.out.2.1.trans (drewN_below0 wr m1)).trans (drewN_below0 _ m2)
                  generalize (wr.drewN m1).drewN m2 = w5 at *
                  clear hga hgb c0
                  go_wp2_with (at_builtin; refine halt ?_)
                  refine goon ?_
                  obtain ⟨hi, hz0, hz1, hz2⟩ := H1.out
                  have hs7 : sat (w5.alloc (.cells #[.int .u64 x, .int .u64 y] 116)) (own 116 2 u14 pre.length (flat2 pre) * (Go.Proofs.Ytanjiecefioffaa.blk w5.heap.size (.cells #[.int .u64 x, .int .u64 y] 116 (0, 0)) * (isHeap V S * (isSt X V.g Y * R)))) := (hs5.s.alloc (.cells #[.int .u64 x, .int .u64 y] 116)).perm (by ac_rfl)
                  have hb7 : Below 0 w (w5.alloc (.cells #[.int .u64 x, .int .u64 y] 116)) := hb5.trans (Below.zero_alloc _ _)
                  have hnew : ∀ (j : Nat) u, [Value.int .u64 x, Value.int .u64 y][j]? = some u → (w5.alloc (.cells #[.int .u64 x, .int .u64 y] 116)).cell? ((⟨w5.heap.size, 0, none⟩ : Addr).add j) = some u := by
                    intro j u hj
                    have ha : ((⟨w5.heap.size, 0, none⟩ : Addr).add j) = ⟨w5.heap.size, j, none⟩ := by unfold Addr.add; split <;> simp_all
                    rw [ha, hs7.right.left.cell j]
                    match j, hj with
                    | 0, hj => simpa using hj
                    | 1, hj => simpa using hj
                  have hok5 := hs5.ok
                  clear hs5 hb5
                  generalize w5.alloc (.cells #[.int .u64 x, .int .u64 y] 116) = w7 at *
                  generalize w5.heap.size = bn at *
                  refine wpList_append_sat rfl (.tmp 99) (.tmp 103) 117 rfl 116 i0 (.agg #[.int .u64 0, .int .u64 0]) 2 16 Try.underlying117 hi hz0 hz1 hz2 rfl u14 pre.length (flat2 pre) rfl _ ⟨bn, 0, none⟩ 1 1 [.int .u64 x, .int .u64 y] rfl ?_ hs7 rfl hnew (by intro u hu; simp at hu; rcases hu with rfl | rfl <;> rfl) (by omega) (by unfold maxLen; omega)
                  clear hi hz0 hz1 hz2 hnew hs7
                  intro v' w9 hs9 hb9
                  have HQ := Lib.hid (And.intro hs9 (And.intro (hb7.trans hb9) hok5))
                  clear hs9 hb9 hb7 hok5
                  go_wp2_with fail
                  go_roundw
                  case rel =>
                    refine ⟨k, pre ++ [(x, y)], by omega, rfl, HF.out.2.2, by simp only [List.length_append, List.length_cons, List.length_nil]; omega, ⟨?_, HQ.out.2.2⟩, HQ.out.2.1⟩
                    have hs10 := (show sat w9 (Go.Proofs.Ytanjiecefioffaa.blk bn (.cells #[.int .u64 x, .int .u64 y] 116 (0, 0)) * (isHeap V S * (isSt X V.g Y * (own 116 2 v' (pre.length + 1) (flat2 pre ++ [.int .u64 x, .int .u64 y]) * R)))) from HQ.out.1.perm (by ac_rfl)).right
                    rw [flat2_app, List.length_append]
                    exact hs10
                  case measure => simp [intOf]
      | true =>
        have okb : S.bytesOk b = false := by rw [oka, Bool.true_and] at hta; exact hta
        go_enter Try.func76, Try.ntmps76
        go_wp2_with fail
        with_reducible refine hE.mono ?_
        rintro e w2 ⟨rfl, h2, hb2⟩
        have hB1 := HH.out.1 w2 h2
        go_wp2_with fail
        with_reducible refine hB1.mono ?_
        rintro e w3 ⟨v1, rfl, h3, hb3⟩
        have hB2 := HH.out.2.1 w3 _ h3
        clear hE hB1 h2
        go_wp2_with fail
        with_reducible refine hB2.mono ?_
        rintro e w4 ⟨v2, rfl, h4, hb4⟩
        have hbw := (hb2.trans hb3).trans hb4
        clear hB2 h3 hb2 hb3 hb4
        rw [okb]
        clear hta
        have h5 := h4.drop.drop
        have hb5 := hbw
        have hT1 := HH.out.2.2.1 w4 h5
        have c0 := HC0.out w4 R h5
        obtain ⟨n, hn⟩ : ∃ n : Nat, S.tag a = n := ⟨(S.tag a).toNat, by omega⟩
        rw [hn] at hT1
        have hn2 : n < 16777216 := by omega
        have HPP := Lib.hid (And.intro HPQ.out (show (S.tag a).toNat = n by omega))
        have HTN := Lib.hid hn
        clear HPQ h4 hbw hn he hba hbb
        go_wp2_with fail
        with_reducible refine hT1.mono ?_
        rintro e w' ⟨rfl, j1, rfl⟩
        have h6 := h5.drewN j1
        have hb6 := hb5.trans (drewN_below0 w4 j1)
        clear hT1 h5 hb5 c0
        generalize w4.drewN j1 = w6 at *
        have hs1 := HH.out.2.2.2 w6 h6 a 1 2 0 a0 a1
        cases p1 : S.shape a 1 2 0 with
        | true =>
          rw [p1] at hs1
          go_wp2_with fail
          with_reducible refine hs1.mono ?_
          rintro e w' ⟨rfl, j2, rfl⟩
          have h7 := h6.drewN j2
          have hb7 := hb6.trans (drewN_below0 w6 j2)
          clear hs1 h6 hb6
          generalize w6.drewN j2 = w7 at *
          have hs2 := HH.out.2.2.2 w7 h7 b 1 2 0 b0 b1
          cases p2 : S.shape b 1 2 0 with
          | true =>
            rw [p2] at hs2
            go_wp2_with fail
            with_reducible refine hs2.mono ?_
            rintro e w' ⟨rfl, j3, rfl⟩
            have h8 := h7.drewN j3
            have hb8 := hb7.trans (drewN_below0 w7 j3)
            clear hs2 h7 hb7
            generalize w7.drewN j3 = w8 at *
            have g1 : IntKind.i64.wrap ((n : Int) - 1) = (n : Int) - 1 := IntWalk.i64_in _ (by omega)
            have hp : S.parts a b = some (S.fields2 a b n) := by
              rw [HPP.out.1, if_pos (by unfold HS.kin; rw [p1, p2]; rfl), HPP.out.2]
            have HP := Lib.hid hp
            have HX8 := Lib.hid (And.intro h8 hb8)
            clear hp h8 hb8
            go_wp2_with fail
            go_loopw [14, 15] (PRel w X V S Y R a b n) (fun _ i _ => (intOf i + 1).toNat)
            case atStart =>
              refine ⟨n, [], Nat.le_refl _, rfl, rfl, by simp, ⟨?_, HX8.out.1.ok⟩, HX8.out.2⟩
              exact (HX8.out.1.s.nil_own (e := 116) (sz := 2)).perm (by simp only [List.length_nil]; show own _ _ _ _ [] * _ = isHeap V S * (isSt X V.g Y * (own _ _ _ _ [] * R)); ac_rfl)
            case round =>
              obtain ⟨k, pre, hk, rfl, hpre, hpl, hs, hb⟩ := hrel
              cases k with
              | zero =>
                have b3 : decide ((((0 : Nat) : Int) - 1) ≥ 0) = false := by decide
                have hpre2 : pre = S.fields2 a b n := by simpa [HS.fields2] using hpre
                have HF := Lib.hid (And.intro hs (And.intro hb hpre2))
                clear hs hb hpre hpre2
                go_wp2_with fail
                go_ret2
                refine ⟨_, by rw [HP.out]; rfl, ?_, HF.out.2.1⟩
                rw [HP.out, Option.getD_some, ← HF.out.2.2]
                exact HF.out.1
              | succ k =>
                have c0 := HC0.out wr _ hs
                have hga := hs.Get a k a0 a1
                have hgb := fun m : Nat => (hs.drewN m).Get b k b0 b1
                have hpre3 : (pre ++ [(S.getAt a k, S.getAt b k)]) ++ S.fields2 a b k = S.fields2 a b n := by rw [← hpre, List.append_assoc]; rfl
                generalize S.getAt a k = x at *
                generalize S.getAt b k = y at *
                generalize decide (0 ≤ (k : Int) ∧ (k : Int) < S.tag a) = q1 at *
                generalize decide (0 ≤ (k : Int) ∧ (k : Int) < S.tag b) = q2 at *
                have b3 : decide ((((k + 1 : Nat) : Int) - 1) ≥ 0) = true := by rw [decide_eq_true_eq]; omega
                have b4 : (((k + 1 : Nat) : Int) - 1) = (k : Int) := by omega
                rw [b4] at b3 ⊢
                have HF := Lib.hid (And.intro hs (And.intro hb hpre3))
                clear hs hb hpre hpre3 b4
                go_wp2_with fail
                refine hga.mono ?_
                rintro e w' ⟨rfl, m1, rfl⟩
                go_wp2_with fail
                refine (hgb m1).mono ?_
                rintro e w' ⟨rfl, m2, rfl⟩
                have hs5 := (HF.out.1.drewN m1).drewN m2
                have hb5 := (HF.out.2.1.trans (drewN_below0 wr m1)).trans (drewN_below0 _ m2)
                generalize (wr.drewN m1).drewN m2 = w5 at *
                clear hga hgb c0
                go_wp2_with (at_builtin; refine halt ?_)
                refine goon ?_
                obtain ⟨hi, hz0, hz1, hz2⟩ := H1.out
                have hs7 : sat (w5.alloc (.cells #[.int .u64 x, .int .u64 y] 116)) (own 116 2 u14 pre.length (flat2 pre) * (Go.Proofs.Ytanjiecefioffaa.blk w5.heap.size (.cells #[.int .u64 x, .int .u64 y] 116 (0, 0)) * (isHeap V S * (isSt X V.g Y * R)))) := (hs5.s.alloc (.cells #[.int .u64 x, .int .u64 y] 116)).perm (by ac_rfl)
                have hb7 : Below 0 w (w5.alloc (.cells #[.int .u64 x, .int .u64 y] 116)) := hb5.trans (Below.zero_alloc _ _)
                have hnew : ∀ (j : Nat) u, [Value.int .u64 x, Value.int .u64 y][j]? = some u → (w5.alloc (.cells #[.int .u64 x, .int .u64 y] 116)).cell? ((⟨w5.heap.size, 0, none⟩ : Addr).add j) = some u := by
                  intro j u hj
                  have ha : ((⟨w5.heap.size, 0, none⟩ : Addr).add j) = ⟨w5.heap.size, j, none⟩ := by unfold Addr.add; split <;> simp_all
                  rw [ha, hs7.right.left.cell j]
                  match j, hj with
                  | 0, hj => simpa using hj
                  | 1, hj => simpa using hj
                have hok5 := hs5.ok
                clear hs5 hb5
                generalize w5.alloc (.cells #[.int .u64 x, .int .u64 y] 116) = w7 at *
                generalize w5.heap.size = bn at *
                refine wpList_append_sat rfl (.tmp 99) (.tmp 103) 117 rfl 116 i0 (.agg #[.int .u64 0, .int .u64 0]) 2 16 Try.underlying117 hi hz0 hz1 hz2 rfl u14 pre.length (flat2 pre) rfl _ ⟨bn, 0, none⟩ 1 1 [.int .u64 x, .int .u64 y] rfl ?_ hs7 rfl hnew (by intro u hu; simp at hu; rcases hu with rfl | rfl <;> rfl) (by omega) (by unfold maxLen; omega)
                clear hi hz0 hz1 hz2 hnew hs7
                intro v' w9 hs9 hb9
                have HQ := Lib.hid (And.intro hs9 (And.intro (hb7.trans hb9) hok5))
                clear hs9 hb9 hb7 hok5
                go_wp2_with fail
                go_roundw
                case rel =>
                  refine ⟨k, pre ++ [(x, y)], by omega, rfl, HF.out.2.2, by simp only [List.length_append, List.length_cons, List.length_nil]; omega, ⟨?_, HQ.out.2.2⟩, HQ.out.2.1⟩
                  have hs10 := (show sat w9 (Go.Proofs.Ytanjiecefioffaa.blk bn (.cells #[.int .u64 x, .int .u64 y] 116 (0, 0)) * (isHeap V S * (isSt X V.g Y * (own 116 2 v' (pre.length + 1) (flat2 pre ++ [.int .u64 x, .int .u64 y]) * R)))) from HQ.out.1.perm (by ac_rfl)).right
                  rw [flat2_app, List.length_append]
                  exact hs10
                case measure => simp [intOf]
          | false =>
            rw [p2] at hs2
            go_wp2_with fail
            with_reducible refine hs2.mono ?_
            rintro e w' ⟨rfl, j3, rfl⟩
            have h9 := h7.drewN j3
            have hb9 := hb7.trans (drewN_below0 w7 j3)
            clear hs2 h7 hb7
            generalize w7.drewN j3 = w9 at *
            have p3 : S.shape a 2 (-1) 0 = false := by
              unfold HS.shape at p1 ⊢
              rw [Bool.and_eq_true, decide_eq_true_eq] at p1
              rw [p1.1]; rfl
            have hs3 := HH.out.2.2.2 w9 h9 a 2 (-1) 0 a0 a1
            rw [p3] at hs3
            go_wp2_with fail
            with_reducible refine hs3.mono ?_
            rintro e w' ⟨rfl, j4, rfl⟩
            have h8 := h9.drewN j4
            have hb8 := hb9.trans (drewN_below0 w9 j4)
            clear hs3 h9 hb9
            generalize w9.drewN j4 = w8 at *
            have hp : S.parts a b = none := by rw [HPP.out.1, if_neg (by unfold HS.kin; rw [p1, p2, p3]; simp)]
            have HP := Lib.hid hp
            have HX8 := Lib.hid (And.intro h8 hb8)
            clear hp h8 hb8
            go_wp2_with fail
            go_ret2
            refine ⟨.slice none 0 0, by rw [HP.out]; rfl, ⟨?_, HX8.out.1.ok⟩, HX8.out.2⟩
            rw [HP.out]
            exact (HX8.out.1.s.nil_own (e := 116) (sz := 2)).perm (by simp only [Option.getD_none, List.length_nil]; show own _ _ _ _ [] * _ = isHeap V S * (isSt X V.g Y * (own _ _ _ _ [] * R)); ac_rfl)
        | false =>
          rw [p1] at hs1
          go_wp2_with fail
          with_reducible refine hs1.mono ?_
          rintro e w' ⟨rfl, j2, rfl⟩
          have h9 := h6.drewN j2
          have hb9 := hb6.trans (drewN_below0 w6 j2)
          clear hs1 h6 hb6
          generalize w6.drewN j2 = w9 at *
          have hs3 := HH.out.2.2.2 w9 h9 a 2 (-1) 0 a0 a1
          cases p3 : S.shape a 2 (-1) 0 with
          | false =>
            rw [p3] at hs3
            go_wp2_with fail
            with_reducible refine hs3.mono ?_
            rintro e w' ⟨rfl, j4, rfl⟩
            have h8 := h9.drewN j4
            have hb8 := hb9.trans (drewN_below0 w9 j4)
            clear hs3 h9 hb9
            generalize w9.drewN j4 = w8 at *
            have hp : S.parts a b = none := by rw [HPP.out.1, if_neg (by unfold HS.kin; rw [p1, p3]; simp)]
            have HP := Lib.hid hp
            have HX8 := Lib.hid (And.intro h8 hb8)
            clear hp h8 hb8
            go_wp2_with fail
            go_ret2
            refine ⟨.slice none 0 0, by rw [HP.out]; rfl, ⟨?_, HX8.out.1.ok⟩, HX8.out.2⟩
            rw [HP.out]
            exact (HX8.out.1.s.nil_own (e := 116) (sz := 2)).perm (by simp only [Option.getD_none, List.length_nil]; show own _ _ _ _ [] * _ = isHeap V S * (isSt X V.g Y * (own _ _ _ _ [] * R)); ac_rfl)
          | true =>
            rw [p3] at hs3
            go_wp2_with fail
            with_reducible refine hs3.mono ?_
            rintro e w' ⟨rfl, j4, rfl⟩
            have h10 := h9.drewN j4
            have hb10 := hb9.trans (drewN_below0 w9 j4)
            clear hs3 h9 hb9
            generalize w9.drewN j4 = w10 at *
            have hs4 := HH.out.2.2.2 w10 h10 b 2 n 0 b0 b1
            cases p4 : S.shape b 2 n 0 with
            | false =>
              rw [p4] at hs4
              go_wp2_with fail
              with_reducible refine hs4.mono ?_
              rintro e w' ⟨rfl, j5, rfl⟩
              have h8 := h10.drewN j5
              have hb8 := hb10.trans (drewN_below0 w10 j5)
              clear hs4 h10 hb10
              generalize w10.drewN j5 = w8 at *
              have hp : S.parts a b = none := by rw [HPP.out.1, if_neg (by unfold HS.kin; rw [p1, p3, HTN.out, p4]; simp)]
              have HP := Lib.hid hp
              have HX8 := Lib.hid (And.intro h8 hb8)
              clear hp h8 hb8
              go_wp2_with fail
              go_ret2
              refine ⟨.slice none 0 0, by rw [HP.out]; rfl, ⟨?_, HX8.out.1.ok⟩, HX8.out.2⟩
              rw [HP.out]
              exact (HX8.out.1.s.nil_own (e := 116) (sz := 2)).perm (by simp only [Option.getD_none, List.length_nil]; show own _ _ _ _ [] * _ = isHeap V S * (isSt X V.g Y * (own _ _ _ _ [] * R)); ac_rfl)
            | true =>
              rw [p4] at hs4
              go_wp2_with fail
              with_reducible refine hs4.mono ?_
              rintro e w' ⟨rfl, j5, rfl⟩
              have h8 := h10.drewN j5
              have hb8 := hb10.trans (drewN_below0 w10 j5)
              clear hs4 h10 hb10
              generalize w10.drewN j5 = w8 at *
              have g1 : IntKind.i64.wrap ((n : Int) - 1) = (n : Int) - 1 := IntWalk.i64_in _ (by omega)
              have hp : S.parts a b = some (S.fields2 a b n) := by
                rw [HPP.out.1, if_pos (by unfold HS.kin; rw [p1, p3, HTN.out, p4]; rfl), HPP.out.2]
              have HP := Lib.hid hp
              have HX8 := Lib.hid (And.intro h8 hb8)
              clear hp h8 hb8
              go_wp2_with fail
              go_loopw [14, 15] (PRel w X V S Y R a b n) (fun _ i _ => (intOf i + 1).toNat)
              case atStart =>
                refine ⟨n, [], Nat.le_refl _, rfl, rfl, by simp, ⟨?_, HX8.out.1.ok⟩, HX8.out.2⟩
                exact (HX8.out.1.s.nil_own (e := 116) (sz := 2)).perm (by simp only [List.length_nil]; show own _ _ _ _ [] * _ = isHeap V S * (isSt X V.g Y * (own _ _ _ _ [] * R)); ac_rfl)
              case round =>
                obtain ⟨k, pre, hk, rfl, hpre, hpl, hs, hb⟩ := hrel
                cases k with
                | zero =>
                  have b3 : decide ((((0 : Nat) : Int) - 1) ≥ 0) = false := by decide
                  have hpre2 : pre = S.fields2 a b n := by simpa [HS.fields2] using hpre
                  have HF := Lib.hid (And.intro hs (And.intro hb hpre2))
                  clear hs hb hpre hpre2
                  go_wp2_with fail
                  go_ret2
                  refine ⟨_, by rw [HP.out]; rfl, ?_, HF.out.2.1⟩
                  rw [HP.out, Option.getD_some, ← HF.out.2.2]
                  exact HF.out.1
                | succ k =>
                  have c0 := HC0.out wr _ hs
                  have hga := hs.Get a k a0 a1
                  have hgb := fun m : Nat => (hs.drewN m).Get b k b0 b1
                  have hpre3 : (pre ++ [(S.getAt a k, S.getAt b k)]) ++ S.fields2 a b k = S.fields2 a b n := by rw [← hpre, List.append_assoc]; rfl
                  generalize S.getAt a k = x at *
                  generalize S.getAt b k = y at *
                  generalize decide (0 ≤ (k : Int) ∧ (k : Int) < S.tag a) = q1 at *
                  generalize decide (0 ≤ (k : Int) ∧ (k : Int) < S.tag b) = q2 at *
                  have b3 : decide ((((k + 1 : Nat) : Int) - 1) ≥ 0) = true := by rw [decide_eq_true_eq]; omega
                  have b4 : (((k + 1 : Nat) : Int) - 1) = (k : Int) := by omega
                  rw [b4] at b3 ⊢
                  have HF := Lib.hid (And.intro hs (And.intro hb hpre3))
                  clear hs hb hpre hpre3 b4
                  go_wp2_with fail
                  refine hga.mono ?_
                  rintro e w' ⟨rfl, m1, rfl⟩
                  go_wp2_with fail
                  refine (hgb m1).mono ?_
                  rintro e w' ⟨rfl, m2, rfl⟩
                  have hs5 := (HF.out.1.drewN m1).drewN m2
                  have hb5 := (HF.out.2.1.trans (drewN_below0 wr m1)).trans (drewN_below0 _ m2)
                  generalize (wr.drewN m1).drewN m2 = w5 at *
                  clear hga hgb c0
                  go_wp2_with (at_builtin; refine halt ?_)
                  refine goon ?_
                  obtain ⟨hi, hz0, hz1, hz2⟩ := H1.out
                  have hs7 : sat (w5.alloc (.cells #[.int .u64 x, .int .u64 y] 116)) (own 116 2 u14 pre.length (flat2 pre) * (Go.Proofs.Ytanjiecefioffaa.blk w5.heap.size (.cells #[.int .u64 x, .int .u64 y] 116 (0, 0)) * (isHeap V S * (isSt X V.g Y * R)))) := (hs5.s.alloc (.cells #[.int .u64 x, .int .u64 y] 116)).perm (by ac_rfl)
                  have hb7 : Below 0 w (w5.alloc (.cells #[.int .u64 x, .int .u64 y] 116)) := hb5.trans (Below.zero_alloc _ _)
                  have hnew : ∀ (j : Nat) u, [Value.int .u64 x, Value.int .u64 y][j]? = some u → (w5.alloc (.cells #[.int .u64 x, .int .u64 y] 116)).cell? ((⟨w5.heap.size, 0, none⟩ : Addr).add j) = some u := by
                    intro j u hj
                    have ha : ((⟨w5.heap.size, 0, none⟩ : Addr).add j) = ⟨w5.heap.size, j, none⟩ := by unfold Addr.add; split <;> simp_all
                    rw [ha, hs7.right.left.cell j]
                    match j, hj with
                    | 0, hj => simpa using hj
                    | 1, hj => simpa using hj
                  have hok5 := hs5.ok
                  clear hs5 hb5
                  generalize w5.alloc (.cells #[.int .u64 x, .int .u64 y] 116) = w7 at *
                  generalize w5.heap.size = bn at *
                  refine wpList_append_sat rfl (.tmp 99) (.tmp 103) 117 rfl 116 i0 (.agg #[.int .u64 0, .int .u64 0]) 2 16 Try.underlying117 hi hz0 hz1 hz2 rfl u14 pre.length (flat2 pre) rfl _ ⟨bn, 0, none⟩ 1 1 [.int .u64 x, .int .u64 y] rfl ?_ hs7 rfl hnew (by intro u hu; simp at hu; rcases hu with rfl | rfl <;> rfl) (by omega) (by unfold maxLen; omega)
                  clear hi hz0 hz1 hz2 hnew hs7
                  intro v' w9 hs9 hb9
                  have HQ := Lib.hid (And.intro hs9 (And.intro (hb7.trans hb9) hok5))
                  clear hs9 hb9 hb7 hok5
                  go_wp2_with fail
                  go_roundw
                  case rel =>
                    refine ⟨k, pre ++ [(x, y)], by omega, rfl, HF.out.2.2, by simp only [List.length_append, List.length_cons, List.length_nil]; omega, ⟨?_, HQ.out.2.2⟩, HQ.out.2.1⟩
                    have hs10 := (show sat w9 (Go.Proofs.Ytanjiecefioffaa.blk bn (.cells #[.int .u64 x, .int .u64 y] 116 (0, 0)) * (isHeap V S * (isSt X V.g Y * (own 116 2 v' (pre.length + 1) (flat2 pre ++ [.int .u64 x, .int .u64 y]) * R)))) from HQ.out.1.perm (by ac_rfl)).right
                    rw [flat2_app, List.length_append]
                    exact hs10
                  case measure => simp [intOf]
end
end Go.Proofs.Ytanjiecefioffaa

/- value.Store: Equal. -/
namespace Go.Proofs.Ytanjiecefioffaa
open Go.RowKit

/-- Comparing goes on: the steps that are left, the words that are to be compared (the last ones first). -/
def HS.eqRun (S : HS) : Nat → List (Int × Int) → Bool × Bool
  | 0, l => if l = [] then (true, true) else (false, false)
  | f + 1, l => if h : l = [] then (true, true) else
      match S.parts (l.getLast h).1 (l.getLast h).2 with
      | none => (false, true)
      | some ps => S.eqRun f (l.dropLast ++ ps)
def HS.equal (S : HS) (a b : Int) : Bool × Bool := S.eqRun 20000 [(a, b)]
def U2 (l : List (Int × Int)) : Prop := ∀ p ∈ l, (0 ≤ p.1 ∧ p.1 < 18446744073709551616) ∧ (0 ≤ p.2 ∧ p.2 < 18446744073709551616)
def EqRel (W : World) (X : StV) (V : HV) (S : HS) (Y : StS) (R : HP) (a b : Int) (v i : Value) (wr : World) : Prop :=
  ∃ (f : Nat) (l : List (Int × Int)), f ≤ 20000 ∧ i = .int .i64 (20000 - (f : Int)) ∧ S.eqRun f l = S.equal a b ∧ U2 l ∧ l.length ≤ 1 + (20000 - f) * 16777216 ∧
    StW wr X V S Y (own 116 2 v l.length (flat2 l) * R) ∧ Below 0 W wr
theorem fields2_u {w : World} {V : HV} {S : HS} (h : HeapV w V S) (a b : Int) (a0 : 0 ≤ a) (b0 : 0 ≤ b) (n : Nat) : U2 (S.fields2 a b n) := by
  induction n with
  | zero => intro p hp; simp [HS.fields2] at hp
  | succ n ih =>
    intro p hp
    simp only [HS.fields2, List.mem_cons] at hp
    rcases hp with rfl | hp
    · exact ⟨h.get_bd a n a0, h.get_bd b n b0⟩
    · exact ih p hp
theorem parts_u {w : World} {V : HV} {S : HS} (h : HeapV w V S) (a b : Int) (a0 : 0 ≤ a) (b0 : 0 ≤ b) {ps : List (Int × Int)} (hp : S.parts a b = some ps) : U2 ps ∧ ps.length ≤ 16777216 := by
  have nil : U2 [] ∧ ([] : List (Int × Int)).length ≤ 16777216 := ⟨fun p hp => by simp at hp, by simp⟩
  unfold HS.parts at hp
  split at hp
  · cases hp; exact nil
  · split at hp
    · split at hp
      · cases hp; exact nil
      · cases hp
    · split at hp
      · cases hp
        refine ⟨fields2_u h a b a0 b0 _, ?_⟩
        rw [fields2_len]
        have : S.tag a < 16777216 := by unfold HS.tag; exact (tagH_bd _).2
        omega
      · cases hp
theorem flat2_get (l : List (Int × Int)) (k : Nat) (p : Int × Int) (h : l[k]? = some p) : (flat2 l)[k * 2]? = some (.int .u64 p.1) ∧ (flat2 l)[k * 2 + 1]? = some (.int .u64 p.2) := by
  induction l generalizing k with
  | nil => simp at h
  | cons q l ih =>
    cases k with
    | zero => simp at h; subst h; exact ⟨rfl, rfl⟩
    | succ k =>
      have := ih k (by simpa using h)
      unfold flat2 at this ⊢
      rw [List.flatMap_cons]
      rw [show (k + 1) * 2 = k * 2 + 2 by omega]
      simpa using this
theorem flat2_take (l : List (Int × Int)) (k : Nat) : (flat2 l).take (k * 2) = flat2 (l.take k) := by
  induction l generalizing k with
  | nil => simp [flat2]
  | cons q l ih =>
    cases k with
    | zero => simp [flat2]
    | succ k =>
      have := ih k
      unfold flat2 at this ⊢
      rw [List.take_succ_cons, List.flatMap_cons, List.flatMap_cons, show (k + 1) * 2 = k * 2 + 1 + 1 by omega]
      simp [this]

theorem own_cells {w : World} {R : HP} {e sz n cap : Nat} {ao : Option Addr} {v : Value} {xs : List Value} (h : sat w (own e sz v n xs * R)) (hv : v = .slice ao n cap) : CellsAt w ao xs := by
  rcases h.open_own.2 with ⟨_, _, hx, _⟩ | ⟨b, cap2, hv2, _, hr⟩
  · subst hx; intro j u hj; simp at hj
  · rw [hv] at hv2
    injection hv2 with e1 e2 e3
    subst e1
    intro j u hj
    refine ⟨_, rfl, ?_⟩
    have hadd : (⟨b, 0, none⟩ : Addr).add j = ⟨b, j, none⟩ := by unfold Addr.add; split <;> simp_all
    rw [hadd]
    exact hr.row_cell hj
theorem flat2_one (l : List (Int × Int)) : ∀ u ∈ flat2 l, u.oneCell' = true := by
  intro u hu
  unfold flat2 at hu
  obtain ⟨p, _, hp⟩ := List.mem_flatMap.1 hu
  simp at hp
  rcases hp with rfl | rfl <;> rfl
theorem own_cut {w : World} {R : HP} {g n cap : Nat} {l : List (Int × Int)} {p : Int × Int} (hl : l.length = n) (h : sat w (own 116 2 (.slice (some ⟨g, 0, none⟩) (n + 1) cap) (n + 1) (flat2 (l ++ [p])) * R)) : sat w (own 116 2 (.slice (some ⟨g, 0, none⟩) n cap) n (flat2 l) * R) := by
  rcases h.open_own.2 with ⟨_, hx, _, _⟩ | ⟨b, cap2, hv2, hc, hr⟩
  · omega
  · injection hv2 with e1 e2 e3
    injection e1 with e1
    injection e1 with e1 _ _
    subst e1 e3
    have h2 := hr.row_prefix (n * 2)
    rw [flat2_take, List.take_append_of_le_length (by omega), List.take_of_length_le (by omega)] at h2
    exact sat.shut_own (by rw [flat2_len, hl]) (by omega) h2
section
variable {w : World} {X : StV} {V : HV} {S : HS} {Y : StS} {R : HP}
set_option maxRecDepth 100000 in
set_option maxHeartbeats 2000000 in
theorem StW.Equal (h : StW w X V S Y R) (a b : Int) (a0 : 0 ≤ a) (a1 : a < 18446744073709551616) (b0 : 0 ≤ b) (b1 : b < 18446744073709551616) :
    Calls Try.prog 44 #[.pointer (some ⟨X.g, 0, none⟩), .int .u64 a, .int .u64 b] w (StKeeps X V S Y R (.tuple #[.bool (S.equal a b).1, .bool (S.equal a b).2]) w) := by
  obtain ⟨i0, hi, hz0, hz1, hz2⟩ := info_parts info_two
  have H1 := Lib.hid (And.intro hi (And.intro hz0 (And.intro hz1 hz2)))
  clear hi hz0 hz1 hz2
  have hP := fun (w' : World) (R' : HP) (h' : StW w' X V S Y R') => h'.parts
  have HP := Lib.hid hP
  have h1 : StW (w.alloc (.cells #[.int .u64 a, .int .u64 b] 116)) X V S Y (Go.Proofs.Ytanjiecefioffaa.blk w.heap.size (.cells #[.int .u64 a, .int .u64 b] 116 (0, 0)) * R) := ⟨(h.s.alloc _).perm (by ac_rfl), h.ok⟩
  have h2 : StW (w.alloc (.cells #[.int .u64 a, .int .u64 b] 116)) X V S Y (own 116 2 (.slice (some ⟨w.heap.size, 0, none⟩) 1 1) [(a, b)].length (flat2 [(a, b)]) * R) := by
    refine ⟨?_, h.ok⟩
    have hs : sat _ (Go.Proofs.Ytanjiecefioffaa.blk w.heap.size (.cells #[.int .u64 a, .int .u64 b] 116 (0, 0)) * (isHeap V S * (isSt X V.g Y * R))) := h1.s.perm (by ac_rfl)
    exact (sat.shut_own (e := 116) (sz := 2) (n := 1) (cap := 1) (xs := flat2 [(a, b)]) rfl (Nat.le_refl _) (hs.shut_row rfl (Nat.le_refl _) (by unfold maxLen; omega) rfl)).perm (by show _ = isHeap V S * (isSt X V.g Y * (own 116 2 (.slice (some ⟨w.heap.size, 0, none⟩) 1 1) 1 (flat2 [(a, b)]) * R)); ac_rfl)
  have hu1 : U2 [(a, b)] := by intro p hp; simp at hp; subst hp; exact ⟨⟨a0, a1⟩, ⟨b0, b1⟩⟩
  have hb2 : Below 0 w (w.alloc (.cells #[.int .u64 a, .int .u64 b] 116)) := Below.zero_alloc _ _
  have hq : S.eqRun 20000 [(a, b)] = S.equal a b := rfl
  have HX := Lib.hid (And.intro h2 (And.intro hu1 (And.intro hb2 hq)))
  have hpu := fun (x y : Int) (x0 : 0 ≤ x) (y0 : 0 ≤ y) (ps : List (Int × Int)) (hp : S.parts x y = some ps) => parts_u h.hw.v x y x0 y0 hp
  have HU := Lib.hid hpu
  clear h h1 h2 hu1 hb2 hq hP hpu
  go_enter Try.func44, Try.ntmps44
  go_wp2_with fail
  go_loopw [8, 9] (EqRel w X V S Y R a b) (fun _ i _ => (20001 - intOf i).toNat)
  case atStart =>
    exact ⟨20000, [(a, b)], Nat.le_refl _, rfl, HX.out.2.2.2, HX.out.2.1, by simp, HX.out.1, HX.out.2.2.1⟩
  case round =>
    obtain ⟨f, l, hf, rfl, hrun, hu, hlen, hs, hb⟩ := hrel
    have hso : sat wr (own 116 2 u8 l.length (flat2 l) * (isHeap V S * (isSt X V.g Y * R))) := hs.s.perm (by ac_rfl)
    obtain ⟨ao, cap, hv⟩ := own_val hso
    subst hv
    rcases List.eq_nil_or_concat l with rfl | ⟨l', ⟨x, y⟩, rfl⟩
    · have he : S.equal a b = (true, true) := by rw [← hrun]; cases f <;> simp [HS.eqRun]
      have HF := Lib.hid (And.intro hs (And.intro hb he))
      clear hs hso hb hrun he hu
      go_wp2_with fail
      go_ret2
      refine ⟨?_, HF.out.1.drop, HF.out.2.1⟩
      rw [HF.out.2.2]; rfl
    · rw [List.concat_eq_append] at *
      cases f with
      | zero =>
        have he : S.equal a b = (false, false) := by rw [← hrun]; simp [HS.eqRun]
        have HF := Lib.hid (And.intro hs (And.intro hb he))
        have b3 : decide (((l' ++ [(x, y)]).length : Int) > 0) = true := by rw [decide_eq_true_eq, List.length_append, List.length_cons]; omega
        clear hs hso hb hrun he hu
        go_wp2_with fail
        go_ret2
        refine ⟨?_, HF.out.1.drop, HF.out.2.1⟩
        rw [HF.out.2.2]; rfl
      | succ f =>
        have hso2 := hso.open_own.2
        obtain ⟨_, hn0, _⟩ | ⟨g, cap2, hvv, hnc, hrow⟩ := hso2
        · rw [List.length_append, List.length_cons] at hn0; omega
        · obtain ⟨rfl, rfl⟩ : ao = some (⟨g, 0, none⟩ : Addr) ∧ cap = cap2 := by
            injection hvv with e1 e2 e3; exact ⟨e1, e3⟩
          have hxy := hu (x, y) (by simp)
          obtain ⟨hg0, hg1⟩ := flat2_get (l' ++ [(x, y)]) l'.length (x, y) (by simp)
          have hc0 := hrow.row_cell hg0
          have hc1 := hrow.row_cell hg1
          have hL : (l' ++ [(x, y)]).length = l'.length + 1 := by simp
          have hbd := hrow.row_bounds.2
          rw [hL] at hs hnc hlen ⊢
          have hn63 : l'.length + 1 ≤ maxLen := Nat.le_trans hnc hbd
          clear hvv hbd hrow hL hso
          obtain ⟨n, hn⟩ : ∃ n, l'.length = n := ⟨_, rfl⟩
          rw [hn] at hc0 hc1 hn63 hs hlen hnc ⊢
          unfold maxLen at hn63
          have b3 : decide (((n + 1 : Nat) : Int) > 0) = true := by rw [decide_eq_true_eq]; omega
          have b4 : (20000 - ((f + 1 : Nat) : Int) == 20000) = false := by rw [beq_eq_false_iff_ne]; omega
          have g1 : IntKind.i64.wrap (n : Int) = (n : Int) := IntWalk.i64_in _ (by omega)
          have g2 : decide ((n : Int) < (n : Int) + 1) = true := by simp; omega
          have HF := Lib.hid (And.intro hs (And.intro hb (And.intro hrun (And.intro hu hlen))))
          clear hs hb hrun hu hlen
          go_wp2_with fail
          have hs5 : StW (wr.alloc (.cells #[.int .u64 x, .int .u64 y] 116)) X V S Y (Go.Proofs.Ytanjiecefioffaa.blk wr.heap.size (.cells #[.int .u64 x, .int .u64 y] 116 (0, 0)) * (own 116 2 (.slice (some ⟨g, 0, none⟩) (n + 1) cap) (n + 1) (flat2 (l' ++ [(x, y)])) * R)) := ⟨(HF.out.1.s.alloc _).perm (by ac_rfl), HF.out.1.ok⟩
          have hb5 : Below 0 w (wr.alloc (.cells #[.int .u64 x, .int .u64 y] 116)) := HF.out.2.1.trans (Below.zero_alloc _ _)
          have hT := HP.out _ _ hs5 x y hxy.1.1 hxy.1.2 hxy.2.1 hxy.2.2
          cases hps : S.parts x y with
          | none =>
            have he : S.equal a b = (false, true) := by
              rw [← HF.out.2.2.1]
              unfold HS.eqRun
              rw [dif_neg (by simp)]
              simp [hps]
            rw [hps] at hT
            have HE := Lib.hid (And.intro he hb5)
            clear hps he hb5 hs5
            with_reducible refine hT.mono ?_
            rintro e w6 ⟨v, rfl, h6, hb6⟩
            have HG := Lib.hid (And.intro h6 hb6)
            clear h6 hb6 hT
            go_wp2_with fail
            go_ret2
            refine ⟨?_, HG.out.1.drop.drop.drop, HE.out.2.trans HG.out.2⟩
            rw [HE.out.1]; rfl
          | some ps =>
            obtain ⟨hpu, hpl⟩ := HU.out x y hxy.1.1 hxy.2.1 ps hps
            have he : S.eqRun f (l' ++ ps) = S.equal a b := by
              rw [← HF.out.2.2.1]
              conv => rhs; unfold HS.eqRun
              rw [dif_neg (by simp)]
              simp [hps]
            rw [hps] at hT
            have hu2 : U2 (l' ++ ps) := by
              intro p hp
              rw [List.mem_append] at hp
              rcases hp with hp | hp
              · exact HF.out.2.2.2.1 p (by simp [hp])
              · exact hpu p hp
            have hl2 := HF.out.2.2.2.2
            have HE := Lib.hid (And.intro he (And.intro hb5 (And.intro hu2 hpu)))
            clear hps he hb5 hs5 hu2 hpu
            with_reducible refine hT.mono ?_
            rintro e w6 ⟨v, rfl, h6, hb6⟩
            simp only [Option.getD_some] at h6
            have hso : sat w6 (own 116 2 v ps.length (flat2 ps) * ((Go.Proofs.Ytanjiecefioffaa.blk wr.heap.size (.cells #[.int .u64 x, .int .u64 y] 116 (0, 0)) * (own 116 2 (.slice (some ⟨g, 0, none⟩) (n + 1) cap) (n + 1) (flat2 (l' ++ [(x, y)])) * R)) * (isHeap V S * isSt X V.g Y))) := h6.s.perm (by ac_rfl)
            obtain ⟨ao2, cap2, hv⟩ := own_val hso
            have hcs := own_cells hso hv
            have hcut := own_cut hn ((show sat w6 (own 116 2 (.slice (some ⟨g, 0, none⟩) (n + 1) cap) (n + 1) (flat2 (l' ++ [(x, y)])) * (isHeap V S * (isSt X V.g Y * R))) from (hso.right.perm (show _ = Go.Proofs.Ytanjiecefioffaa.blk wr.heap.size (.cells #[.int .u64 x, .int .u64 y] 116 (0, 0)) * (own 116 2 (.slice (some ⟨g, 0, none⟩) (n + 1) cap) (n + 1) (flat2 (l' ++ [(x, y)])) * (isHeap V S * (isSt X V.g Y * R))) by ac_rfl)).right))
            subst hv
            have g4 : (n : Int) ≤ (cap : Int) := by omega
            have g5 : ¬ (cap = 0) := by omega
            have HG := Lib.hid (And.intro h6.ok (And.intro hb6 (And.intro hcs hcut)))
            clear h6 hb6 hso hcs hcut hT
            go_wp2_with (at_builtin; refine halt ?_)
            refine goon ?_
            obtain ⟨hi, hz0, hz1, hz2⟩ := H1.out
            refine wpList_append_opt rfl (.tmp 45) (.tmp 46) 117 rfl 116 i0 (.agg #[.int .u64 0, .int .u64 0]) 2 16 Try.underlying117 hi hz0 hz1 hz2 rfl (by decide) (.slice (some ⟨g, 0, none⟩) n cap) n (flat2 l') rfl (isHeap V S * (isSt X V.g Y * R)) ao2 ps.length cap2 (flat2 ps) rfl ?_ HG.out.2.2.2 (flat2_len ps) HG.out.2.2.1 (flat2_one ps) (by omega) (by unfold maxLen; omega)
            clear hi hz0 hz1 hz2
            intro v' w9 hs9 hb9
            have HQ := Lib.hid (And.intro hs9 ((HE.out.2.1.trans HG.out.2.1).trans hb9))
            clear hs9 hb9
            go_wp2_with fail
            go_roundw
            case rel =>
              refine ⟨f, l' ++ ps, by omega, by go_num, HE.out.1, HE.out.2.2.1, by rw [List.length_append]; omega, ⟨?_, HG.out.1⟩, HQ.out.2⟩
              rw [flat2_app, List.length_append, hn]
              exact HQ.out.1.perm (by ac_rfl)
            case measure => simp [intOf]; omega
end
end Go.Proofs.Ytanjiecefioffaa

/- value.Store: Cons. -/
namespace Go.Proofs.Ytanjiecefioffaa
open Go.RowKit

def HS.cons (S : HS) (a b : Int) : HS := S.part 1 2 0 2 [a, b] 2
theorem two_words {R : HP} {bo e : Nat} {x y : Int} : WordsIn (Go.Proofs.Ytanjiecefioffaa.blk bo (.cells #[.int .u64 x, .int .u64 y] e (0, 0)) * R) (some ⟨bo, 0, none⟩) [x, y] := by
  intro w hs j z hj
  match j, hj with
  | 0, hj => simp at hj; subst hj; exact ⟨_, rfl, (hs.left.cell 0).trans rfl⟩
  | 1, hj => simp at hj; subst hj; exact ⟨_, rfl, (hs.left.cell 1).trans rfl⟩
section
variable {w : World} {X : StV} {V : HV} {S : HS} {Y : StS} {R : HP}
set_option maxRecDepth 100000 in
theorem StW.Cons_yes (h : StW w X V S Y R) (a b : Int) (a0 : 0 ≤ a ∧ a < 18446744073709551616) (b0 : 0 ≤ b ∧ b < 18446744073709551616) (hm : S.may a = true ∧ S.may b = true) (hr : S.room 1 2 0 = true) :
    Calls Try.prog 77 #[.pointer (some ⟨X.g, 0, none⟩), .int .u64 a, .int .u64 b] w (StLaid X V.g (S.cons a b) Y R (4 * (S.ws.length : Int)) true w) := by
  have hs6 := h.s.alloc (.cells #[.int .u64 a, .int .u64 b] 22)
  have h6 : StW (w.alloc (.cells #[.int .u64 a, .int .u64 b] 22)) X V S Y (Go.Proofs.Ytanjiecefioffaa.blk w.heap.size (.cells #[.int .u64 a, .int .u64 b] 22 (0, 0)) * R) := ⟨hs6.perm (by ac_rfl), h.ok⟩
  have hL := h6.lay_yes 1 (some ⟨w.heap.size, 0, none⟩) 2 [a, b] two_words (by intro x hx; simp at hx; rcases hx with rfl | rfl <;> assumption) (by simp [hm.1, hm.2]) hr
  clear hs6 h6
  have HL := Lib.hid hL
  clear hL h hm hr
  go_enter Try.func77, Try.ntmps77
  go_wp2_with fail
  refine HL.out.mono ?_
  rintro e w7 ⟨rfl, hb7, V7, hg7, h7⟩
  go_wp2_with fail
  go_ret2
  exact ⟨rfl, (Below.zero_alloc _ _).trans hb7, V7, hg7, h7.drop⟩
end
end Go.Proofs.Ytanjiecefioffaa

/- A chain of pairs, plainly. -/
namespace Go.Proofs.Ytanjiecefioffaa
open Go.RowKit

/-- Pairs of these items, the last one first; the heap and the first one's word. -/
def HS.chain (S : HS) (last : Int) : List Int → HS × Int
  | [] => (S, last)
  | x :: xs => ((HS.chain S last xs).1.cons x (HS.chain S last xs).2, 4 * (((HS.chain S last xs).1.ws.length : Nat) : Int))

theorem cons_len (S : HS) (a b : Int) : (S.cons a b).ws.length = S.ws.length + 3 ∧ (S.cons a b).size = S.size ∧ (S.cons a b).times = S.times := by
  unfold HS.cons HS.part
  simp
theorem chain_len (S : HS) (last : Int) : ∀ xs : List Int, (S.chain last xs).1.ws.length = S.ws.length + 3 * xs.length ∧ (S.chain last xs).1.size = S.size ∧ (S.chain last xs).1.times = S.times := by
  intro xs
  induction xs with
  | nil => exact ⟨rfl, rfl, rfl⟩
  | cons x xs ih =>
    unfold HS.chain
    obtain ⟨h1, h2, h3⟩ := cons_len (S.chain last xs).1 x (S.chain last xs).2
    refine ⟨?_, h2.trans ih.2.1, h3.trans ih.2.2⟩
    simp only [List.length_cons]
    rw [h1, ih.1]
    omega
theorem part_may {S : HS} (kind : Int) (t r : Nat) (z : Int) (xs : List Int) (i : Nat) {x : Int} (h : S.may x = true) : (S.part kind t r z xs i).may x = true := by
  unfold HS.may mayB at *
  simp only [Bool.or_eq_true, decide_eq_true_eq] at *
  rcases h with h1 | h1
  · exact .inl h1
  · right
    have h2 := isB_iff.1 h1
    refine isB_iff.2 ⟨h2.1, ?_⟩
    unfold HS.part
    simp only
    rw [List.getElem?_append_left (List.getElem?_eq_some_iff.1 h2.2).1]; exact h2.2
theorem chain_may (S : HS) (last : Int) {x : Int} (h : S.may x = true) : ∀ xs : List Int, (S.chain last xs).1.may x = true := by
  intro xs
  induction xs with
  | nil => exact h
  | cons y ys ih => unfold HS.chain; exact part_may 1 2 0 2 _ 2 ih
theorem chain_bs {S : HS} (hl : S.bs.length = S.ws.length) (last : Int) : ∀ xs : List Int, (S.chain last xs).1.bs.length = (S.chain last xs).1.ws.length := by
  intro xs
  induction xs with
  | nil => exact hl
  | cons y ys ih =>
    unfold HS.chain HS.cons HS.part
    simp [laid, ih]
theorem chain_snd {S : HS} (hl : S.bs.length = S.ws.length) {last : Int} (h : S.may last = true) : ∀ xs : List Int, (S.chain last xs).1.may (S.chain last xs).2 = true := by
  intro xs
  cases xs with
  | nil => exact h
  | cons y ys =>
    have h1 := part_is (chain_bs hl last ys) 1 2 0 2 [y, (S.chain last ys).2] 2
    unfold HS.chain HS.may mayB
    rw [Bool.or_eq_true]
    exact .inr h1
theorem chain_snd_u {S : HS} {last : Int} (h : 0 ≤ last ∧ last < 18446744073709551616) (xs : List Int) (hb : S.ws.length + 3 * xs.length ≤ 1048576) : 0 ≤ (S.chain last xs).2 ∧ (S.chain last xs).2 < 18446744073709551616 := by
  cases xs with
  | nil => exact h
  | cons y ys =>
    obtain ⟨h1, _⟩ := chain_len S last ys
    simp only [List.length_cons] at hb
    show 0 ≤ 4 * (((S.chain last ys).1.ws.length : Nat) : Int) ∧ 4 * (((S.chain last ys).1.ws.length : Nat) : Int) < 18446744073709551616
    rw [h1]
    omega
end Go.Proofs.Ytanjiecefioffaa

/- value.Store: Take of a chain; rings, plainly. tandemlaw04.ring; Take of a chain that does not end. A ring and the list (5 5 5), compared, plainly. -/
/- value.Store: Take of a chain; rings, plainly. -/
namespace Go.Proofs.Ytanjiecefioffaa
open Go.RowKit

/-- A ring of pairs, each with 5 ahead. -/
structure RingIn (S : HS) (P : Nat → Int) (n : Nat) : Prop where
  pos : 0 < n
  is : ∀ k, k < n → S.is (P k) = true ∧ 0 ≤ P k ∧ P k < 18446744073709551616
  head : ∀ k, k < n → S.head (P k) = headerOf 1 2 0
  car : ∀ k, k < n → S.ws.getD ((P k / 4).toNat + 1) 0 = 5
  cdr : ∀ k, k < n → S.ws.getD ((P k / 4).toNat + 2) 0 = P ((k + 1) % n)
theorem pair_head : tagH (headerOf 1 2 0) = 2 ∧ rawH (headerOf 1 2 0) = 0 ∧ kindH (headerOf 1 2 0) = 1 := by decide
theorem pair_is {S : HS} {x : Int} (h : S.head x = headerOf 1 2 0) : S.shape x 1 2 0 = true ∧ S.tag x = 2 ∧ S.kind x = 1 := by
  obtain ⟨g1, g2, g3⟩ := pair_head
  have e1 : S.tag x = 2 := by unfold HS.tag; rw [h]; exact g1
  have e2 : S.raw x = 0 := by unfold HS.raw; rw [h]; exact g2
  have e3 : S.kind x = 1 := by unfold HS.kind; rw [h]; exact g3
  refine ⟨?_, e1, e3⟩
  unfold HS.shape
  rw [e1, e2, e3]; rfl
theorem get_field {S : HS} {x : Int} (h : S.head x = headerOf 1 2 0) (x0 : 0 ≤ x) : S.getAt x 0 = S.ws.getD ((x / 4).toNat + 1) 0 ∧ S.getAt x 1 = S.ws.getD ((x / 4).toNat + 2) 0 := by
  obtain ⟨_, e1, _⟩ := pair_is h
  unfold HS.getAt HS.get
  rw [if_pos (by rw [e1]; omega), if_pos (by rw [e1]; omega)]
  simp only
  rw [show fieldAt x 0 0 = (x / 4).toNat + 1 by unfold fieldAt; omega, show fieldAt x 0 1 = (x / 4).toNat + 2 by unfold fieldAt; omega]
  exact ⟨rfl, rfl⟩
theorem five (S : HS) : S.num 5 = some 1 := by unfold HS.num; rw [if_pos (by decide)]; rfl
theorem RingIn.chain {S : HS} {P : Nat → Int} {n : Nat} (h : RingIn S P n) (N : Nat) (s : Nat) : Chain S (fun k => P ((s + k) % n)) (fun _ => 1) N := by
  have hm := fun k => Nat.mod_lt k h.pos
  refine ⟨fun k _ => (h.is _ (hm _)).2, fun k _ => (pair_is (h.head _ (hm _))).1, fun k _ => ?_, fun k _ => ?_⟩
  · rw [(get_field (h.head _ (hm _)) (h.is _ (hm _)).2.1).1, h.car _ (hm _)]; exact five S
  · rw [(get_field (h.head _ (hm _)) (h.is _ (hm _)).2.1).2, h.cdr _ (hm _)]
    rw [← Nat.add_assoc, Nat.mod_add_mod]
theorem RingIn.ext {S S' : HS} {P : Nat → Int} {n : Nat} (h : RingIn S P n) (e : Ext S S') (hw : WfH S.ws S.bs) : RingIn S' P n := by
  have hlt : ∀ k, k < n → (P k / 4).toNat + 3 ≤ S.ws.length := by
    intro k hk
    have h1 := is_lt hw (h.is k hk).1
    obtain ⟨g1, g2, _⟩ := pair_head
    unfold HS.tag HS.raw at h1
    rw [h.head k hk, g1, g2] at h1
    omega
  refine ⟨h.pos, fun k hk => ⟨e.is (h.is k hk).1, (h.is k hk).2⟩, fun k hk => by rw [e.head hw (h.is k hk).1]; exact h.head k hk, fun k hk => ?_, fun k hk => ?_⟩
  · rw [e.at (by have := hlt k hk; omega)]; exact h.car k hk
  · rw [e.at (by have := hlt k hk; omega)]; exact h.cdr k hk
/-! ### Comparing -/
theorem pair_noneq {S : HS} {x y : Int} (hx : S.head x = headerOf 1 2 0) (h : x ≠ y) : S.eqv x y = false := by
  obtain ⟨nx, _⟩ := pair_word (pair_is hx).1
  unfold HS.eqv
  rw [nx, decide_eq_false h]; rfl
theorem parts_pairs {S : HS} {x y : Int} (hx : S.head x = headerOf 1 2 0) (hy : S.head y = headerOf 1 2 0) (h : x ≠ y) : S.parts x y = some [(S.getAt x 1, S.getAt y 1), (S.getAt x 0, S.getAt y 0)] := by
  obtain ⟨sx, tx, _⟩ := pair_is hx
  obtain ⟨sy, _, _⟩ := pair_is hy
  obtain ⟨_, ox, _⟩ := pair_word sx
  unfold HS.parts
  rw [if_neg (by rw [pair_noneq hx h]; simp), if_neg (by rw [ox]; simp), if_pos (by unfold HS.kin; rw [sx, sy]; rfl), tx]
  rfl
theorem parts_same (S : HS) (x : Int) : S.parts x x = some [] := by
  unfold HS.parts
  rw [if_pos (by unfold HS.eqv; simp)]
theorem run_two {S : HS} (f : Nat) (x y : Int) (hx : S.head x = headerOf 1 2 0) (hy : S.head y = headerOf 1 2 0) (h : x ≠ y) (h5 : S.getAt x 0 = 5) (h5' : S.getAt y 0 = 5) : S.eqRun (f + 2) [(x, y)] = S.eqRun f [(S.getAt x 1, S.getAt y 1)] := by
  have e1 : S.eqRun (f + 1 + 1) [(x, y)] = S.eqRun (f + 1) [(S.getAt x 1, S.getAt y 1), (S.getAt x 0, S.getAt y 0)] := by
    conv => lhs; unfold HS.eqRun
    rw [dif_neg (by simp)]
    simp [parts_pairs hx hy h]
  rw [e1, h5, h5']
  conv => lhs; unfold HS.eqRun
  rw [dif_neg (by simp)]
  simp [parts_same]
theorem rings_run {S : HS} {P Q : Nat → Int} {n m : Nat} (hP : RingIn S P n) (hQ : RingIn S Q m) (hne : ∀ i j, i < n → j < m → P i ≠ Q j) (f : Nat) : ∀ i j, i < n → j < m → S.eqRun (2 * f) [(P i, Q j)] = (false, false) := by
  induction f with
  | zero => intro i j _ _; unfold HS.eqRun; rw [if_neg (by simp)]
  | succ f ih =>
    intro i j hi hj
    rw [show 2 * (f + 1) = 2 * f + 2 by omega, run_two (2 * f) (P i) (Q j) (hP.head i hi) (hQ.head j hj) (hne i j hi hj) (by rw [(get_field (hP.head i hi) (hP.is i hi).2.1).1, hP.car i hi]) (by rw [(get_field (hQ.head j hj) (hQ.is j hj).2.1).1, hQ.car j hj])]
    rw [(get_field (hP.head i hi) (hP.is i hi).2.1).2, hP.cdr i hi, (get_field (hQ.head j hj) (hQ.is j hj).2.1).2, hQ.cdr j hj]
    exact ih _ _ (Nat.mod_lt _ hP.pos) (Nat.mod_lt _ hQ.pos)
theorem rings_equal {S : HS} {P Q : Nat → Int} {n m : Nat} (hP : RingIn S P n) (hQ : RingIn S Q m) (hne : ∀ i j, i < n → j < m → P i ≠ Q j) (i j : Nat) (hi : i < n) (hj : j < m) : S.equal (P i) (Q j) = (false, false) := by
  unfold HS.equal
  rw [show (20000 : Nat) = 2 * 10000 from rfl]
  exact rings_run hP hQ hne 10000 i j hi hj
theorem equal_self (S : HS) (x : Int) : S.equal x x = (true, true) := by
  unfold HS.equal
  rw [show (20000 : Nat) = 19999 + 1 from rfl]
  conv => lhs; unfold HS.eqRun
  rw [dif_neg (by simp)]
  have h1 : S.eqRun 19999 [] = (true, true) := by unfold HS.eqRun; rw [dif_pos rfl]
  simpa [parts_same] using h1
/-! ### A ring is made -/
theorem cons_ext (S : HS) (a b : Int) : Ext S (S.cons a b) := part_ext S 1 2 0 2 [a, b] 2
theorem cons_get {S : HS} (a b : Int) : (S.cons a b).ws.getD (S.ws.length + 1) 0 = a ∧ (S.cons a b).ws.getD (S.ws.length + 2) 0 = b := by
  unfold HS.cons HS.part
  simp only
  rw [getD_app_right, getD_app_right]
  exact ⟨rfl, rfl⟩
/-- So many pairs, each with 5 ahead and the one that was made ahead of it behind (the first: the empty list). -/
structure Links (S T : HS) (n : Nat) : Prop where
  len : T.ws.length = S.ws.length + 3 * n
  size : T.size = S.size
  ext : Ext S T
  is : ∀ j, j < n → T.is (4 * ((S.ws.length + 3 * j : Nat) : Int)) = true
  head : ∀ j, j < n → T.head (4 * ((S.ws.length + 3 * j : Nat) : Int)) = headerOf 1 2 0
  car : ∀ j, j < n → T.ws.getD (S.ws.length + 3 * j + 1) 0 = 5
  cdr : ∀ j, 0 < j → j < n → T.ws.getD (S.ws.length + 3 * j + 2) 0 = 4 * ((S.ws.length + 3 * (j - 1) : Nat) : Int)
theorem Links.start (S : HS) : Links S S 0 := ⟨rfl, rfl, Ext.refl S, fun _ h => by omega, fun _ h => by omega, fun _ h => by omega, fun _ _ h => by omega⟩
theorem Links.step {S T : HS} {n : Nat} (h : Links S T n) (hw : WfH T.ws T.bs) (x : Int) (hx : 0 < n → x = 4 * ((S.ws.length + 3 * (n - 1) : Nat) : Int)) : Links S (T.cons 5 x) (n + 1) := by
  have e := cons_ext T 5 x
  obtain ⟨c1, c2, _⟩ := cons_len T 5 x
  have hb : T.ws.length = S.ws.length + 3 * n := h.len
  have hp : 4 * (T.ws.length : Int) = 4 * ((S.ws.length + 3 * n : Nat) : Int) := by rw [hb]
  obtain ⟨g1, g2⟩ := cons_get (S := T) 5 x
  rw [hb] at g1 g2
  refine ⟨by rw [c1, hb]; omega, by rw [c2, h.size], h.ext.trans e, ?_, ?_, ?_, ?_⟩
  · intro j hj
    rcases Nat.lt_or_ge j n with hjn | hjn
    · exact e.is (h.is j hjn)
    · obtain rfl : j = n := by omega
      rw [← hp]
      exact part_is hw.len 1 2 0 2 [5, x] 2
  · intro j hj
    rcases Nat.lt_or_ge j n with hjn | hjn
    · rw [e.head hw (h.is j hjn)]; exact h.head j hjn
    · obtain rfl : j = n := by omega
      rw [← hp]
      exact part_head hw.len 1 2 0 2 [5, x] 2
  · intro j hj
    rcases Nat.lt_or_ge j n with hjn | hjn
    · rw [e.at (by omega)]; exact h.car j hjn
    · obtain rfl : j = n := by omega
      exact g1
  · intro j h0 hj
    rcases Nat.lt_or_ge j n with hjn | hjn
    · rw [e.at (by omega)]; exact h.cdr j h0 hjn
    · obtain rfl : j = n := by omega
      rw [g2]; exact hx h0
theorem getD_set (l : List Int) (i j : Nat) (x : Int) : (l.set i x).getD j 0 = if i = j ∧ j < l.length then x else l.getD j 0 := by
  rw [List.getD_eq_getElem?_getD, List.getD_eq_getElem?_getD, List.getElem?_set]
  by_cases h : i = j
  · subst h
    by_cases hl : i < l.length
    · simp [hl]
    · simp [hl]
  · simp [h]
theorem Links.ring {S T : HS} {n : Nat} (h : Links S T n) (hn : 0 < n) (hb : T.ws.length ≤ 1048576) (hm : T.may (4 * ((S.ws.length + 3 * (n - 1) : Nat) : Int)) = true) :
    RingIn (T.set (4 * (S.ws.length : Int)) 1 (4 * ((S.ws.length + 3 * (n - 1) : Nat) : Int))) (fun k => 4 * ((S.ws.length + 3 * (n - 1 - k) : Nat) : Int)) n := by
  have h0 : T.head (4 * (S.ws.length : Int)) = headerOf 1 2 0 := h.head 0 hn
  have ht : T.tag (4 * (S.ws.length : Int)) = 2 := (pair_is h0).2.1
  have hset : T.set (4 * (S.ws.length : Int)) 1 (4 * ((S.ws.length + 3 * (n - 1) : Nat) : Int)) = { T with ws := T.ws.set (S.ws.length + 2) (4 * ((S.ws.length + 3 * (n - 1) : Nat) : Int)) } := by
    unfold HS.set
    rw [if_pos (by unfold HS.setOk; rw [ht, hm]; simp), show fieldAt (4 * (S.ws.length : Int)) 0 1 = S.ws.length + 2 by unfold fieldAt; omega]
  have hlen := h.len
  rw [hset]
  have e4 : ∀ m : Nat, (4 * (m : Int) / 4).toNat = m := fun m => by omega
  have his : ∀ x, ({ T with ws := T.ws.set (S.ws.length + 2) (4 * ((S.ws.length + 3 * (n - 1) : Nat) : Int)) } : HS).is x = T.is x := fun _ => rfl
  refine ⟨hn, ?_, ?_, ?_, ?_⟩
  · intro k hk
    exact ⟨h.is _ (by omega), by omega, by omega⟩
  · intro k hk
    have h1 := h.is (n - 1 - k) (by omega)
    have h2 := h.head (n - 1 - k) (by omega)
    rw [is_head h1, e4] at h2
    rw [is_head (by rw [his]; exact h1), e4]
    simp only
    rw [getD_set, if_neg (by omega)]
    exact h2
  · intro k hk
    simp only
    rw [e4, getD_set, if_neg (by omega)]
    exact h.car (n - 1 - k) (by omega)
  · intro k hk
    simp only
    rw [e4, getD_set]
    by_cases hz : n - 1 - k = 0
    · rw [if_pos (by omega), show k + 1 = n by omega, Nat.mod_self]; rfl
    · rw [if_neg (by omega), h.cdr (n - 1 - k) (by omega) (by omega), Nat.mod_eq_of_lt (by omega)]
      rw [show n - 1 - k - 1 = n - 1 - (k + 1) by omega]
end Go.Proofs.Ytanjiecefioffaa

/- tandemlaw04.ring; Take of a chain that does not end. -/
namespace Go.Proofs.Ytanjiecefioffaa
open Go.RowKit

/-- All that was there is there yet. -/
structure Over (S S' : HS) : Prop where
  is : ∀ x, S.is x = true → S'.is x = true
  word : ∀ k, k < S.ws.length → S'.ws.getD k 0 = S.ws.getD k 0
theorem RingIn.over {S S' : HS} {P : Nat → Int} {n : Nat} (h : RingIn S P n) (e : Over S S') (hw : WfH S.ws S.bs) : RingIn S' P n := by
  have hlt : ∀ k, k < n → (P k / 4).toNat + 3 ≤ S.ws.length := by
    intro k hk
    have h1 := is_lt hw (h.is k hk).1
    obtain ⟨g1, g2, _⟩ := pair_head
    unfold HS.tag HS.raw at h1
    rw [h.head k hk, g1, g2] at h1
    omega
  refine ⟨h.pos, fun k hk => ⟨e.is _ (h.is k hk).1, (h.is k hk).2⟩, fun k hk => ?_, fun k hk => ?_, fun k hk => ?_⟩
  · rw [is_head (e.is _ (h.is k hk).1), e.word _ (by have := hlt k hk; omega), ← is_head (h.is k hk).1]; exact h.head k hk
  · rw [e.word _ (by have := hlt k hk; omega)]; exact h.car k hk
  · rw [e.word _ (by have := hlt k hk; omega)]; exact h.cdr k hk
theorem Links.over {S T : HS} {n : Nat} (h : Links S T n) (x : Int) : Over S (T.set (4 * (S.ws.length : Int)) 1 x) := by
  unfold HS.set
  split
  · refine ⟨fun y hy => h.ext.is hy, fun k hk => ?_⟩
    simp only
    rw [show fieldAt (4 * (S.ws.length : Int)) 0 1 = S.ws.length + 2 by unfold fieldAt; omega, getD_set, if_neg (by omega)]
    exact h.ext.at hk
  · exact ⟨fun y hy => h.ext.is hy, fun k hk => h.ext.at hk⟩
theorem may_five (S : HS) : S.may 5 = true := by unfold HS.may mayB; simp
theorem may_ten (S : HS) : S.may 10 = true := by unfold HS.may mayB; simp
theorem may_is {S : HS} {x : Int} (h : S.is x = true) : S.may x = true := by
  have h4 := (is_iff.1 h).1
  unfold HS.may mayB
  unfold HS.is at h
  rw [h]
  simp
theorem set_len (S : HS) (p i x : Int) : (S.set p i x).ws.length = S.ws.length ∧ (S.set p i x).size = S.size := by
  unfold HS.set
  split <;> simp
def RingRel (W : World) (X : StV) (V : HV) (S : HS) (Y : StS) (R : HP) (n : Nat) (l i : Value) (wr : World) : Prop :=
  ∃ (k : Nat) (V1 : HV) (T : HS), 1 ≤ k ∧ k ≤ n ∧ i = .int .i64 k ∧ l = .int .u64 (4 * ((S.ws.length + 3 * (k - 1) : Nat) : Int)) ∧ V1.g = V.g ∧ StW wr X V1 T Y R ∧ Links S T k ∧ Below 0 W wr
section
variable {w : World} {X : StV} {V : HV} {S : HS} {Y : StS} {R : HP}
set_option maxRecDepth 100000 in
set_option maxHeartbeats 2000000 in
theorem StW.ring (h : StW w X V S Y R) (n : Nat) (hn : 1 ≤ n ∧ n ≤ 20) (hroom : S.ws.length + 3 * n ≤ S.size) :
    Calls Try.prog 48 #[.pointer (some ⟨X.g, 0, none⟩), .int .i64 n] w fun e w' => ∃ (V' : HV) (S' : HS), e = .returned (.int .u64 (4 * ((S.ws.length + 3 * (n - 1) : Nat) : Int))) ∧ V'.g = V.g ∧
      StW w' X V' S' Y R ∧ RingIn S' (fun k => 4 * ((S.ws.length + 3 * (n - 1 - k) : Nat) : Int)) n ∧ Over S S' ∧ S'.ws.length = S.ws.length + 3 * n ∧ S'.size = S.size ∧ Below 0 w w' := by
  have hl := h.hw.v.len
  have hr : ∀ T : HS, T.size = S.size → T.ws.length + 3 ≤ S.size → T.room 1 2 0 = true := by
    intro T h1 h2
    unfold HS.room
    rw [h1]
    simp only [Bool.and_eq_true, decide_eq_true_eq]
    omega
  have hC := h.Cons_yes 5 10 (by decide) (by decide) ⟨may_five S, may_ten S⟩ (hr S rfl (by omega))
  have HX := Lib.hid (And.intro h (And.intro hr hl))
  have hw0 := h.ok.wf
  have HW := Lib.hid hw0
  obtain ⟨p0, hp0⟩ : ∃ p0 : Int, 4 * (S.ws.length : Int) = p0 := ⟨_, rfl⟩
  rw [hp0] at hC
  have HP := Lib.hid hp0
  clear h hr hw0 hp0
  go_enter Try.func48, Try.ntmps48
  go_wp2_with fail
  refine hC.mono ?_
  rintro e w2 ⟨rfl, hb2, V2, hg2, h2⟩
  have HX2 := Lib.hid (And.intro h2 (And.intro hb2 hg2))
  clear hC h2 hb2 hg2
  go_wp2_with fail
  go_loopw [7, 8] (RingRel w X V S Y R n) (fun _ i _ => n - (intOf i).toNat)
  case atStart =>
    refine ⟨1, V2, S.cons 5 10, Nat.le_refl _, hn.1, rfl, ?_, HX2.out.2.2, HX2.out.1, (Links.start S).step HW.out 10 (fun h => by omega), HX2.out.2.1⟩
    rw [← HP.out]; rfl
  case round =>
    clear HX2
    obtain ⟨k, V1, T, hk1, hkn, rfl, rfl, hg, hs, hL, hb⟩ := hrel
    obtain ⟨x, hx⟩ : ∃ x : Int, 4 * ((S.ws.length + 3 * (k - 1) : Nat) : Int) = x := ⟨_, rfl⟩
    have hix := hL.is (k - 1) (by omega)
    have hTl := hL.len
    have bx : 0 ≤ x ∧ x < 18446744073709551616 := by have := HX.out.2.2; omega
    rw [hx] at hix ⊢
    by_cases hlt : k < n
    · have hC := hs.Cons_yes 5 x (by decide) bx ⟨may_five T, may_is hix⟩ (HX.out.2.1 T hL.size (by omega))
      have hL2 := hL.step hs.ok.wf x (fun _ => hx.symm)
      have hxx : 4 * (T.ws.length : Int) = 4 * ((S.ws.length + 3 * (k + 1 - 1) : Nat) : Int) := by rw [hTl]; rfl
      rw [hxx] at hC
      have HF := Lib.hid (And.intro hL2 (And.intro hb hg))
      obtain ⟨y, hy⟩ : ∃ y : Int, 4 * ((S.ws.length + 3 * (k + 1 - 1) : Nat) : Int) = y := ⟨_, rfl⟩
      rw [hy] at hC
      have HY := Lib.hid hy
      clear hs hL hL2 hb hg hx hTl hxx hix hy
      go_wp2_with fail
      refine hC.mono ?_
      rintro e w3 ⟨rfl, hb3, V3, hg3, h3⟩
      have HQ := Lib.hid (And.intro h3 (And.intro (HF.out.2.1.trans hb3) (hg3.trans HF.out.2.2)))
      clear hC h3 hb3 hg3
      go_wp2_with fail
      go_roundw
      case rel => exact ⟨k + 1, V3, T.cons 5 x, by omega, by omega, by go_num, by rw [HY.out], HQ.out.2.2, HQ.out.1, HF.out.1, HQ.out.2.1⟩
      case measure => simp [intOf]; omega
    · obtain rfl : k = n := by omega
      have hge : (k : Int) ≤ k := by omega
      have c0 := hs.c0
      have bp : 0 ≤ p0 ∧ p0 < 18446744073709551616 := by have h1 := HP.out; have := HX.out.2.2; omega
      have hS := hs.hw.Set p0 1 x bp.1 bp.2 bx.1 bx.2
      have hR := hL.ring (by omega) hs.hw.v.len (by rw [hx]; exact may_is hix)
      have hO := hL.over x
      rw [hx, HP.out] at hR
      rw [HP.out] at hO
      have hsl := set_len T p0 1 x
      rw [hTl, hL.size] at hsl
      have HF := Lib.hid (And.intro hR (And.intro hO (And.intro hsl (And.intro hb hg))))
      have HXX := Lib.hid hx
      clear hs hL hR hO hsl hb hg hTl hix hx
      go_wp2_with fail
      refine hS.mono ?_
      rintro e w3 ⟨rfl, h3, hb3⟩
      have HQ := Lib.hid (And.intro h3 (HF.out.2.2.2.1.trans hb3))
      clear hS h3 hb3
      go_wp2_with fail
      go_ret
      exact ⟨V1, _, by rw [HXX.out]; rfl, HF.out.2.2.2.2, ⟨HQ.out.1.s, HQ.out.1.ok⟩, HF.out.1, HF.out.2.1, HF.out.2.2.1.1, HF.out.2.2.1.2, HQ.out.2⟩
set_option maxRecDepth 100000 in
set_option maxHeartbeats 2000000 in
/-- What goes on for more than 19999 numbers is not told. -/
theorem StW.Take_long (h : StW w X V S Y R) (p cs : Nat → Int) (hc : Chain S p cs 20000) (h10 : S.shape 10 1 2 0 = false) :
    Calls Try.prog 28 #[.pointer (some ⟨X.g, 0, none⟩), .int .u64 (p 0), .int .i64 20000] w (StKeeps X V S Y R (.tuple #[zeroD, .bool false]) w) := by
  have HH := Lib.hid h
  clear h
  go_enter Try.func28, Try.ntmps28
  go_wp2_with fail
  have hp0 := (HH.out.push (.cells #[.int .i64 0, .int .i64 0, .bool false, .slice none 0 0, .string ⟨#[]⟩, .slice none 0 0, .slice none 0 0] 54)).push (.cells #[.int .i64 20000] 3)
  rw [World.size_alloc] at hp0
  have hbp : Below 0 w ((w.alloc (.cells #[.int .i64 0, .int .i64 0, .bool false, .slice none 0 0, .string ⟨#[]⟩, .slice none 0 0, .slice none 0 0] 54)).alloc (.cells #[.int .i64 20000] 3)) := (Below.zero_alloc _ _).trans (Below.zero_alloc _ _)
  have hT := StW.take_pair (w.heap.size + 1) 20000 19999 p cs 100 (by decide) hp0 (by decide) (by decide) hc (fun h => absurd h (by decide)) h10
  unfold TakePost at hT
  simp only [if_neg (by decide : ¬ (20000 ≤ 19999))] at hT
  have HB := Lib.hid hbp
  clear hp0 hbp hc
  with_reducible refine hT.mono ?_
  rintro e w3 ⟨rfl, h3, hb3⟩
  unfold zeroD
  have h4 := h3.push (.cells #[.int .i64 0, .int .i64 0, .bool false, .slice none 0 0, .string ⟨#[]⟩, .slice none 0 0, .slice none 0 0] 54)
  have hso : sat (w3.alloc (.cells #[.int .i64 0, .int .i64 0, .bool false, .slice none 0 0, .string ⟨#[]⟩, .slice none 0 0, .slice none 0 0] 54)) (Go.Proofs.Ytanjiecefioffaa.blk w.heap.size (.cells #[.int .i64 0, .int .i64 0, .bool false, .slice none 0 0, .string ⟨#[]⟩, .slice none 0 0, .slice none 0 0] 54 (0, 0)) * (Go.Proofs.Ytanjiecefioffaa.blk w3.heap.size (.cells #[.int .i64 0, .int .i64 0, .bool false, .slice none 0 0, .string ⟨#[]⟩, .slice none 0 0, .slice none 0 0] 54 (0, 0)) * (isHeap V S * (isSt X V.g Y * R)))) := h4.s.perm (by ac_rfl)
  have hb5 := (HB.out.trans hb3).trans (Below.zero_alloc w3 (.cells #[.int .i64 0, .int .i64 0, .bool false, .slice none 0 0, .string ⟨#[]⟩, .slice none 0 0, .slice none 0 0] 54))
  have HG := Lib.hid (And.intro h4.ok (And.intro hso hb5))
  have c0 := (hso.left.cell 0).trans rfl
  have f0 := hso.left.frozen 0
  have c1 := (hso.left.cell 1).trans rfl
  have f1 := hso.left.frozen 1
  have c2 := (hso.left.cell 2).trans rfl
  have f2 := hso.left.frozen 2
  have c3 := (hso.left.cell 3).trans rfl
  have f3 := hso.left.frozen 3
  have c4 := (hso.left.cell 4).trans rfl
  have f4 := hso.left.frozen 4
  have c5 := (hso.left.cell 5).trans rfl
  have f5 := hso.left.frozen 5
  have c6 := (hso.left.cell 6).trans rfl
  have f6 := hso.left.frozen 6
  clear h3 hb3 h4 hT hso hb5
  go_wp2_with fail
  have hs7 := (((((((HG.out.2.1.setCell (off := 0) (.int .i64 0)).setCell (off := 1) (.int .i64 0)).setCell (off := 2) (.bool false)).setCell (off := 3) (.slice none 0 0)).setCell (off := 4) (.string ⟨#[]⟩)).setCell (off := 5) (.slice none 0 0)).setCell (off := 6) (.slice none 0 0))
  have hb7 := (((((((HG.out.2.2.setCell (p := ⟨w.heap.size, 0, none⟩) (Nat.zero_le _) (.int .i64 0)).setCell (p := ⟨w.heap.size, 1, none⟩) (Nat.zero_le _) (.int .i64 0)).setCell (p := ⟨w.heap.size, 2, none⟩) (Nat.zero_le _) (.bool false)).setCell (p := ⟨w.heap.size, 3, none⟩) (Nat.zero_le _) (.slice none 0 0)).setCell (p := ⟨w.heap.size, 4, none⟩) (Nat.zero_le _) (.string ⟨#[]⟩)).setCell (p := ⟨w.heap.size, 5, none⟩) (Nat.zero_le _) (.slice none 0 0)).setCell (p := ⟨w.heap.size, 6, none⟩) (Nat.zero_le _) (.slice none 0 0))
  clear c0 f0 c1 f1 c2 f2 c3 f3 c4 f4 c5 f5 c6 f6
  generalize ((((((((w3.alloc (.cells #[.int .i64 0, .int .i64 0, .bool false, .slice none 0 0, .string ⟨#[]⟩, .slice none 0 0, .slice none 0 0] 54)).setCell ⟨w.heap.size, 0, none⟩ (.int .i64 0)).setCell ⟨w.heap.size, 1, none⟩ (.int .i64 0)).setCell ⟨w.heap.size, 2, none⟩ (.bool false)).setCell ⟨w.heap.size, 3, none⟩ (.slice none 0 0)).setCell ⟨w.heap.size, 4, none⟩ (.string ⟨#[]⟩)).setCell ⟨w.heap.size, 5, none⟩ (.slice none 0 0)).setCell ⟨w.heap.size, 6, none⟩ (.slice none 0 0)) = w7 at *
  have r0 : w7.cell? ⟨w.heap.size, 0, none⟩ = some (.int .i64 0) := (hs7.left.cell 0).trans rfl
  have r1 : w7.cell? ⟨w.heap.size, 1, none⟩ = some (.int .i64 0) := (hs7.left.cell 1).trans rfl
  have r2 : w7.cell? ⟨w.heap.size, 2, none⟩ = some (.bool false) := (hs7.left.cell 2).trans rfl
  have r3 : w7.cell? ⟨w.heap.size, 3, none⟩ = some (.slice none 0 0) := (hs7.left.cell 3).trans rfl
  have r4 : w7.cell? ⟨w.heap.size, 4, none⟩ = some (.string ⟨#[]⟩) := (hs7.left.cell 4).trans rfl
  have r5 : w7.cell? ⟨w.heap.size, 5, none⟩ = some (.slice none 0 0) := (hs7.left.cell 5).trans rfl
  have r6 : w7.cell? ⟨w.heap.size, 6, none⟩ = some (.slice none 0 0) := (hs7.left.cell 6).trans rfl
  refine bodyPost_ret (v := .tuple #[zeroD, .bool false]) (by simp [results, Try.results28, go_sem, r0, r1, r2, r3, r4, r5, r6, zeroD]) rfl ⟨rfl, ⟨hs7.right.right, HG.out.1⟩, hb7⟩
end
end Go.Proofs.Ytanjiecefioffaa

/- A ring and the list (5 5 5), compared, plainly. -/
namespace Go.Proofs.Ytanjiecefioffaa
open Go.RowKit

theorem list3_ws (S : HS) : (S.chain 10 [5, 5, 5]).1.ws = S.ws ++ [headerOf 1 2 0, 5, 10, headerOf 1 2 0, 5, 4 * ((S.ws.length + 3 * 0 : Nat) : Int), headerOf 1 2 0, 5, 4 * ((S.ws.length + 3 * 1 : Nat) : Int)] := by
  unfold HS.chain HS.chain HS.chain HS.chain HS.cons HS.part
  simp
theorem list3_bs (S : HS) : (S.chain 10 [5, 5, 5]).1.bs = S.bs ++ [true, false, false, true, false, false, true, false, false] := by
  unfold HS.chain HS.chain HS.chain HS.chain HS.cons HS.part
  simp [laid]
theorem list3_snd (S : HS) : (S.chain 10 [5, 5, 5]).2 = 4 * ((S.ws.length + 3 * 2 : Nat) : Int) := by
  unfold HS.chain HS.chain HS.chain HS.chain HS.cons HS.part
  simp
theorem list3_ext (S : HS) : Ext S (S.chain 10 [5, 5, 5]).1 := ⟨⟨_, list3_ws S⟩, ⟨_, list3_bs S⟩⟩
theorem list3_head {S : HS} (hl : S.bs.length = S.ws.length) (j : Nat) (hj : j < 3) : (S.chain 10 [5, 5, 5]).1.head (4 * ((S.ws.length + 3 * j : Nat) : Int)) = headerOf 1 2 0 := by
  have e4 : (4 * ((S.ws.length + 3 * j : Nat) : Int) / 4).toNat = S.ws.length + 3 * j := by omega
  have his : (S.chain 10 [5, 5, 5]).1.is (4 * ((S.ws.length + 3 * j : Nat) : Int)) = true := by
    refine is_iff.2 ⟨by omega, ?_⟩
    rw [e4, list3_bs, List.getElem?_append_right (by omega), hl, Nat.add_sub_cancel_left]
    rcases j with _ | _ | _ | j
    · rfl
    · rfl
    · rfl
    · omega
  rw [is_head his, e4, list3_ws, getD_app_right]
  rcases j with _ | _ | _ | j
  · rfl
  · rfl
  · rfl
  · omega
theorem list3_get {S : HS} (hl : S.bs.length = S.ws.length) (j : Nat) (hj : j < 3) : (S.chain 10 [5, 5, 5]).1.getAt (4 * ((S.ws.length + 3 * j : Nat) : Int)) 0 = 5 ∧
    (S.chain 10 [5, 5, 5]).1.getAt (4 * ((S.ws.length + 3 * j : Nat) : Int)) 1 = if j = 0 then 10 else 4 * ((S.ws.length + 3 * (j - 1) : Nat) : Int) := by
  obtain ⟨g1, g2⟩ := get_field (list3_head hl j hj) (by omega)
  have e4 : (4 * ((S.ws.length + 3 * j : Nat) : Int) / 4).toNat = S.ws.length + 3 * j := by omega
  rw [g1, g2, e4, list3_ws, Nat.add_assoc, Nat.add_assoc, getD_app_right, getD_app_right]
  rcases j with _ | _ | _ | j
  · exact ⟨rfl, rfl⟩
  · exact ⟨rfl, rfl⟩
  · exact ⟨rfl, rfl⟩
  · omega
theorem ten_none (S : HS) : S.shape 10 1 2 0 = false ∧ S.head 10 = 0 := by
  have hh : S.head 10 = 0 := by
    unfold HS.head headOf
    rw [if_neg]
    intro h
    have := (is_iff.1 (show S.is 10 = true from h)).1
    omega
  refine ⟨?_, hh⟩
  unfold HS.shape HS.kind
  rw [hh]; rfl
theorem parts_ten {S : HS} {x : Int} (hx : S.head x = headerOf 1 2 0) (h : x ≠ 10) : S.parts x 10 = none := by
  obtain ⟨sx, tx, kx⟩ := pair_is hx
  obtain ⟨_, ox, _⟩ := pair_word sx
  unfold HS.parts
  rw [if_neg (by rw [pair_noneq hx h]; simp), if_neg (by rw [ox]; simp), if_neg]
  unfold HS.kin
  rw [(ten_none S).1]
  have : S.shape x 2 (-1) 0 = false := by unfold HS.shape; rw [kx]; rfl
  rw [this]
  simp
theorem ring_list {S : HS} {P : Nat → Int} {n : Nat} (hw : WfH S.ws S.bs) (h : RingIn S P n) (i : Nat) (hi : i < n) : (S.chain 10 [5, 5, 5]).1.equal (P i) (4 * ((S.ws.length + 3 * 2 : Nat) : Int)) = (false, true) := by
  have hR := h.ext (list3_ext S) hw
  have hlt : ∀ k, k < n → P k < 4 * (S.ws.length : Int) ∧ P k % 4 = 0 := by
    intro k hk
    have h1 := is_lt hw (h.is k hk).1
    have h2 := (is_iff.1 (h.is k hk).1).1
    have h3 := (h.is k hk).2.1
    omega
  have step : ∀ (f k j : Nat), k < n → j < 3 → (S.chain 10 [5, 5, 5]).1.eqRun (f + 2) [(P k, 4 * ((S.ws.length + 3 * j : Nat) : Int))] = (S.chain 10 [5, 5, 5]).1.eqRun f [(P ((k + 1) % n), if j = 0 then 10 else 4 * ((S.ws.length + 3 * (j - 1) : Nat) : Int))] := by
    intro f k j hk hj
    have h1 := hlt k hk
    have h0 := (hR.is k hk).2.1
    rw [run_two f _ _ (hR.head k hk) (list3_head hw.len j hj) (by omega) (by rw [(get_field (hR.head k hk) h0).1, hR.car k hk]) (list3_get hw.len j hj).1]
    rw [(get_field (hR.head k hk) h0).2, hR.cdr k hk, (list3_get hw.len j hj).2]
  have hm := fun k => Nat.mod_lt k h.pos
  unfold HS.equal
  rw [show (20000 : Nat) = 19994 + 2 + 2 + 2 from rfl, step _ i 2 hi (by omega), if_neg (by omega), step _ _ 1 (hm _) (by omega), if_neg (by omega), step _ _ 0 (hm _) (by omega), if_pos rfl]
  obtain ⟨kk, hkk⟩ : ∃ kk, (((i + 1) % n + 1) % n + 1) % n = kk := ⟨_, rfl⟩
  have hkn : kk < n := by rw [← hkk]; exact hm _
  rw [hkk]
  conv => lhs; unfold HS.eqRun
  rw [dif_neg (by simp)]
  have hp := parts_ten (hR.head kk hkn) (by have := hlt kk hkn; omega)
  simp [hp]
end Go.Proofs.Ytanjiecefioffaa
