/- value.Store: parts. -/
import Derived.Test.YtanjiecefioffaaStoreEqv
import Derived.Test.YtanjiecefioffaaSep5
namespace Go.Proofs.Ytanjiecefioffaa
open Go.RowKit

def flat2 (l : List (Int × Int)) : List Value := l.flatMap fun p => [.int .u64 p.1, .int .u64 p.2]
theorem flat2_len (l : List (Int × Int)) : (flat2 l).length = l.length * 2 := by
  unfold flat2
  induction l with
  | nil => rfl
  | cons p l ih => simp only [List.flatMap_cons, List.length_append, List.length_cons, List.length_nil, ih]; omega
theorem flat2_app (l m : List (Int × Int)) : flat2 (l ++ m) = flat2 l ++ flat2 m := by unfold flat2; simp
/-- The pairs of fields, the last one first. -/
def HS.fields2 (S : HS) (a b : Int) : Nat → List (Int × Int)
  | 0 => []
  | n + 1 => (S.getAt a n, S.getAt b n) :: S.fields2 a b n
def HS.kin (S : HS) (a b : Int) : Bool := (S.shape a 1 2 0 && S.shape b 1 2 0) || (S.shape a 2 (-1) 0 && S.shape b 2 (S.tag a) 0)
def HS.parts (S : HS) (a b : Int) : Option (List (Int × Int)) :=
  if S.eqv a b = true then some []
  else if (S.bytesOk a && S.bytesOk b) = true then (if S.bytes a = S.bytes b then some [] else none)
  else if S.kin a b = true then some (S.fields2 a b (S.tag a).toNat) else none
def PartsPost (X : StV) (V : HV) (S : HS) (Y : StS) (R : HP) (o : Option (List (Int × Int))) (w : World) (e : Ending) (w' : World) : Prop :=
  ∃ v, e = .returned (.tuple #[v, .bool o.isSome]) ∧ StW w' X V S Y (own 116 2 v (o.getD []).length (flat2 (o.getD [])) * R) ∧ Below 0 w w'
theorem info_two : (Try.prog.info? 116).map (fun i => (i.zero, i.size, i.bytes)) = some (some (.agg #[.int .u64 0, .int .u64 0]), 2, 16) := by kernel_rfl
def PRel (W : World) (X : StV) (V : HV) (S : HS) (Y : StS) (R : HP) (a b : Int) (n : Nat) (l i : Value) (wr : World) : Prop :=
  ∃ (k : Nat) (pre : List (Int × Int)), k ≤ n ∧ i = .int .i64 ((k : Int) - 1) ∧ pre ++ S.fields2 a b k = S.fields2 a b n ∧ pre.length + k = n ∧
    StW wr X V S Y (own 116 2 l pre.length (flat2 pre) * R) ∧ Below 0 W wr
theorem fields2_len (S : HS) (a b : Int) (n : Nat) : (S.fields2 a b n).length = n := by
  induction n with
  | zero => rfl
  | succ n ih => simp only [HS.fields2, List.length_cons, ih]

theorem str_eq {l m : List Int} (hl : Bytes l) (hm : Bytes m) : ((strOfNums l).toList == (strOfNums m).toList) = decide (l = m) := by
  by_cases e : l = m
  · rw [e]; simp
  · rw [decide_eq_false e, beq_eq_false_iff_ne]
    intro h
    rw [ByteArray.toList_eq, ByteArray.toList_eq] at h
    have h1 : bytesOf (strOfNums l) = bytesOf (strOfNums m) := by unfold bytesOf; rw [h]
    rw [bytesOf_strOf hl, bytesOf_strOf hm] at h1
    exact e h1
theorem bytesL_bd (S : HS) (x : Int) : Bytes (S.bytes x) := by
  unfold HS.bytes
  split
  · intro z hz
    unfold HS.bytesL at hz
    obtain ⟨i, _, rfl⟩ := List.mem_map.1 hz
    unfold HS.byteAt
    omega
  · intro z hz; simp at hz
section
variable {w : World} {X : StV} {V : HV} {S : HS} {Y : StS} {R : HP}
set_option maxRecDepth 100000 in
set_option maxHeartbeats 2000000 in
theorem StW.parts (h : StW w X V S Y R) (a b : Int) (a0 : 0 ≤ a) (a1 : a < 18446744073709551616) (b0 : 0 ≤ b) (b1 : b < 18446744073709551616) :
    Calls Try.prog 76 #[.pointer (some ⟨X.g, 0, none⟩), .int .u64 a, .int .u64 b] w (PartsPost X V S Y R (S.parts a b) w) := by
  obtain ⟨i0, hi, hz0, hz1, hz2⟩ := info_parts info_two
  have H1 := Lib.hid (And.intro hi (And.intro hz0 (And.intro hz1 hz2)))
  clear hi hz0 hz1 hz2
  have hE := h.Eqv a b a0 a1 b0 b1
  have hBa := fun (w' : World) (h' : StW w' X V S Y R) => h'.Bytes a a0 a1
  have hBb := fun (w' : World) (R' : HP) (h' : StW w' X V S Y R') => h'.Bytes b b0 b1
  have hT := fun (w' : World) (h' : StW w' X V S Y R) => h'.hw.v.Tagged a a0 a1
  have hSh := fun (w' : World) (h' : StW w' X V S Y R) (x k t r : Int) (x0 : 0 ≤ x) (x1 : x < 18446744073709551616) => h'.shape x k t r x0 x1
  have htb : 0 ≤ S.tag a ∧ S.tag a < 16777216 := by unfold HS.tag; exact tagH_bd _
  have HH := Lib.hid (And.intro hBa (And.intro hBb (And.intro hT hSh)))
  have hc0 := fun (w' : World) (R' : HP) (h' : StW w' X V S Y R') => h'.c0
  have HC0 := Lib.hid hc0
  clear hBa hBb hT hSh h hc0
  cases he : S.eqv a b with
  | true =>
    have hp : S.parts a b = some [] := by unfold HS.parts; rw [if_pos he]
    rw [he] at hE
    have HP := Lib.hid hp
    clear he hp
    go_enter Try.func76, Try.ntmps76
    go_wp2_with fail
    with_reducible refine hE.mono ?_
    rintro e w2 ⟨rfl, h2, hb2⟩
    go_wp2_with fail
    go_ret2
    refine ⟨.slice none 0 0, by rw [HP.out]; rfl, ⟨?_, h2.ok⟩, hb2⟩
    rw [HP.out]
    exact (h2.s.nil_own (e := 116) (sz := 2)).perm (by simp only [Option.getD_some, List.length_nil]; show own _ _ _ _ [] * _ = isHeap V S * (isSt X V.g Y * (own _ _ _ _ [] * R)); ac_rfl)
  | false =>
    rw [he] at hE
    have hba := bytesL_bd S a
    have hbb := bytesL_bd S b
    cases hta : S.bytesOk a && S.bytesOk b with
    | true =>
      have oka : S.bytesOk a = true := by rw [Bool.and_eq_true] at hta; exact hta.1
      have okb : S.bytesOk b = true := by rw [Bool.and_eq_true] at hta; exact hta.2
      go_enter Try.func76, Try.ntmps76
      go_wp2_with fail
      with_reducible refine hE.mono ?_
      rintro e w2 ⟨rfl, h2, hb2⟩
      have hB1 := HH.out.1 w2 h2
      go_wp2_with fail
      with_reducible refine hB1.mono ?_
      rintro e w3 ⟨v1, rfl, h3, hb3⟩
      have hB2 := HH.out.2.1 w3 _ h3
      clear hE hB1 h2
      go_wp2_with fail
      with_reducible refine hB2.mono ?_
      rintro e w4 ⟨v2, rfl, h4, hb4⟩
      have hbw := (hb2.trans hb3).trans hb4
      clear hB2 h3 hb2 hb3 hb4

      rw [okb]
      have hs1 : sat w4 (own 5 1 v1 (S.bytes a).length ((S.bytes a).map u8v) * (own 5 1 v2 (S.bytes b).length ((S.bytes b).map u8v) * (isHeap V S * (isSt X V.g Y * R)))) := h4.s.perm (by ac_rfl)
      have hs2 : sat w4 (own 5 1 v2 (S.bytes b).length ((S.bytes b).map u8v) * (own 5 1 v1 (S.bytes a).length ((S.bytes a).map u8v) * (isHeap V S * (isSt X V.g Y * R)))) := h4.s.perm (by ac_rfl)
      have hcv1 := fun n => run_own_string (P := Try.prog) 44 9 5 Try.underlying44 Try.underlying5 Try.underlying9 (bs := S.bytes a) rfl (hs1.drewN n)
      have hcv2 := fun n => run_own_string (P := Try.prog) 44 9 5 Try.underlying44 Try.underlying5 Try.underlying9 (bs := S.bytes b) rfl (hs2.drewN n)
      have hq : ((strOfNums (S.bytes a)).toList == (strOfNums (S.bytes b)).toList) = decide (S.bytes a = S.bytes b) := str_eq hba hbb
      generalize strOfNums (S.bytes a) = sa at *
      generalize strOfNums (S.bytes b) = sb at *
      obtain ⟨bb, hbbv⟩ : ∃ bb, decide (S.bytes a = S.bytes b) = bb := ⟨_, rfl⟩
      rw [hbbv] at hq
      have HSS := Lib.hid (And.intro h4 (And.intro hbw (And.intro hbbv (And.intro he hta))))
      clear h4 hbw hs1 hs2 hbbv he hta oka okb hba hbb
      go_wp2_with fail
      go_quiet (fail)
      go_wp2_with fail
      go_ret2
      have hpp : S.parts a b = if bb = true then some [] else none := by
        unfold HS.parts
        rw [if_neg (by rw [HSS.out.2.2.2.1]; simp), if_pos HSS.out.2.2.2.2, ← HSS.out.2.2.1]
        by_cases e : S.bytes a = S.bytes b
        · rw [if_pos e, if_pos (by simpa using e)]
        · rw [if_neg e, if_neg (by simpa using e)]
      have hnil : (S.parts a b).getD [] = [] := by rw [hpp]; cases bb <;> rfl
      refine ⟨.slice none 0 0, by rw [hpp]; cases bb <;> rfl, ⟨?_, HSS.out.1.ok⟩, HSS.out.2.1.trans (drewN_below0 _ _)⟩
      rw [hnil]
      exact ((HSS.out.1.drop.drop.drewN _).s.nil_own (e := 116) (sz := 2)).perm (by simp only [List.length_nil]; show own _ _ _ _ [] * _ = isHeap V S * (isSt X V.g Y * (own _ _ _ _ [] * R)); ac_rfl)
    | false =>
      have hpp : S.parts a b = if S.kin a b = true then some (S.fields2 a b (S.tag a).toNat) else none := by
        unfold HS.parts
        rw [if_neg (by rw [he]; simp), if_neg (by rw [hta]; simp)]
      have HPQ := Lib.hid hpp
      clear hpp
      cases oka : S.bytesOk a with
      | false =>
        go_enter Try.func76, Try.ntmps76
        go_wp2_with fail
        with_reducible refine hE.mono ?_
        rintro e w2 ⟨rfl, h2, hb2⟩
        have hB1 := HH.out.1 w2 h2
        go_wp2_with fail
        with_reducible refine hB1.mono ?_
        rintro e w3 ⟨v1, rfl, h3, hb3⟩
        have hB2 := HH.out.2.1 w3 _ h3
        clear hE hB1 h2
        go_wp2_with fail
        with_reducible refine hB2.mono ?_
        rintro e w4 ⟨v2, rfl, h4, hb4⟩
        have hbw := (hb2.trans hb3).trans hb4
        clear hB2 h3 hb2 hb3 hb4
        have okb := Lib.hid (rfl : S.bytesOk b = S.bytesOk b)
        generalize S.bytesOk b = ob at *
        clear hta
        have h5 := h4.drop.drop
        have hb5 := hbw
        have hT1 := HH.out.2.2.1 w4 h5
        have c0 := HC0.out w4 R h5
        obtain ⟨n, hn⟩ : ∃ n : Nat, S.tag a = n := ⟨(S.tag a).toNat, by omega⟩
        rw [hn] at hT1
        have hn2 : n < 16777216 := by omega
        have HPP := Lib.hid (And.intro HPQ.out (show (S.tag a).toNat = n by omega))
        have HTN := Lib.hid hn
        clear HPQ h4 hbw hn he hba hbb
        go_wp2_with fail
        with_reducible refine hT1.mono ?_
        rintro e w' ⟨rfl, j1, rfl⟩
        have h6 := h5.drewN j1
        have hb6 := hb5.trans (drewN_below0 w4 j1)
        clear hT1 h5 hb5 c0
        generalize w4.drewN j1 = w6 at *
        have hs1 := HH.out.2.2.2 w6 h6 a 1 2 0 a0 a1
        cases p1 : S.shape a 1 2 0 with
        | true =>
          rw [p1] at hs1
          go_wp2_with fail
          with_reducible refine hs1.mono ?_
          rintro e w' ⟨rfl, j2, rfl⟩
          have h7 := h6.drewN j2
          have hb7 := hb6.trans (drewN_below0 w6 j2)
          clear hs1 h6 hb6
          generalize w6.drewN j2 = w7 at *
          have hs2 := HH.out.2.2.2 w7 h7 b 1 2 0 b0 b1
          cases p2 : S.shape b 1 2 0 with
          | true =>
            rw [p2] at hs2
            go_wp2_with fail
            with_reducible refine hs2.mono ?_
            rintro e w' ⟨rfl, j3, rfl⟩
            have h8 := h7.drewN j3
            have hb8 := hb7.trans (drewN_below0 w7 j3)
            clear hs2 h7 hb7
            generalize w7.drewN j3 = w8 at *
            have g1 : IntKind.i64.wrap ((n : Int) - 1) = (n : Int) - 1 := IntWalk.i64_in _ (by omega)
            have hp : S.parts a b = some (S.fields2 a b n) := by
              rw [HPP.out.1, if_pos (by unfold HS.kin; rw [p1, p2]; rfl), HPP.out.2]
            have HP := Lib.hid hp
            have HX8 := Lib.hid (And.intro h8 hb8)
            clear hp h8 hb8
            go_wp2_with fail
            go_loopw [14, 15] (PRel w X V S Y R a b n) (fun _ i _ => (intOf i + 1).toNat)
            case atStart =>
              refine ⟨n, [], Nat.le_refl _, rfl, rfl, by simp, ⟨?_, HX8.out.1.ok⟩, HX8.out.2⟩
              exact (HX8.out.1.s.nil_own (e := 116) (sz := 2)).perm (by simp only [List.length_nil]; show own _ _ _ _ [] * _ = isHeap V S * (isSt X V.g Y * (own _ _ _ _ [] * R)); ac_rfl)
            case round =>
              obtain ⟨k, pre, hk, rfl, hpre, hpl, hs, hb⟩ := hrel
              cases k with
              | zero =>
                have b3 : decide ((((0 : Nat) : Int) - 1) ≥ 0) = false := by decide
                have hpre2 : pre = S.fields2 a b n := by simpa [HS.fields2] using hpre
                have HF := Lib.hid (And.intro hs (And.intro hb hpre2))
                clear hs hb hpre hpre2
                go_wp2_with fail
                go_ret2
                refine ⟨_, by rw [HP.out]; rfl, ?_, HF.out.2.1⟩
                rw [HP.out, Option.getD_some, ← HF.out.2.2]
                exact HF.out.1
              | succ k =>
                have c0 := HC0.out wr _ hs
                have hga := hs.Get a k a0 a1
                have hgb := fun m : Nat => (hs.drewN m).Get b k b0 b1
                have hpre3 : (pre ++ [(S.getAt a k, S.getAt b k)]) ++ S.fields2 a b k = S.fields2 a b n := by rw [← hpre, List.append_assoc]; rfl
                generalize S.getAt a k = x at *
                generalize S.getAt b k = y at *
                generalize decide (0 ≤ (k : Int) ∧ (k : Int) < S.tag a) = q1 at *
                generalize decide (0 ≤ (k : Int) ∧ (k : Int) < S.tag b) = q2 at *
                have b3 : decide ((((k + 1 : Nat) : Int) - 1) ≥ 0) = true := by rw [decide_eq_true_eq]; omega
                have b4 : (((k + 1 : Nat) : Int) - 1) = (k : Int) := by omega
                rw [b4] at b3 ⊢
                have HF := Lib.hid (And.intro hs (And.intro hb hpre3))
                clear hs hb hpre hpre3 b4
                go_wp2_with fail
                refine hga.mono ?_
                rintro e w' ⟨rfl, m1, rfl⟩
                go_wp2_with fail
                refine (hgb m1).mono ?_
                rintro e w' ⟨rfl, m2, rfl⟩
                have hs5 := (HF.out.1.drewN m1).drewN m2
                have hb5 := (HF.out.2.1.trans (drewN_below0 wr m1)).trans (drewN_below0 _ m2)
                generalize (wr.drewN m1).drewN m2 = w5 at *
                clear hga hgb c0
                go_wp2_with (at_builtin; refine halt ?_)
                refine goon ?_
                obtain ⟨hi, hz0, hz1, hz2⟩ := H1.out
                have hs7 : sat (w5.alloc (.cells #[.int .u64 x, .int .u64 y] 116)) (own 116 2 u14 pre.length (flat2 pre) * (Go.Proofs.Ytanjiecefioffaa.blk w5.heap.size (.cells #[.int .u64 x, .int .u64 y] 116 (0, 0)) * (isHeap V S * (isSt X V.g Y * R)))) := (hs5.s.alloc (.cells #[.int .u64 x, .int .u64 y] 116)).perm (by ac_rfl)
                have hb7 : Below 0 w (w5.alloc (.cells #[.int .u64 x, .int .u64 y] 116)) := hb5.trans (Below.zero_alloc _ _)
                have hnew : ∀ (j : Nat) u, [Value.int .u64 x, Value.int .u64 y][j]? = some u → (w5.alloc (.cells #[.int .u64 x, .int .u64 y] 116)).cell? ((⟨w5.heap.size, 0, none⟩ : Addr).add j) = some u := by
                  intro j u hj
                  have ha : ((⟨w5.heap.size, 0, none⟩ : Addr).add j) = ⟨w5.heap.size, j, none⟩ := by unfold Addr.add; split <;> simp_all
                  rw [ha, hs7.right.left.cell j]
                  match j, hj with
                  | 0, hj => simpa using hj
                  | 1, hj => simpa using hj
                have hok5 := hs5.ok
                clear hs5 hb5
                generalize w5.alloc (.cells #[.int .u64 x, .int .u64 y] 116) = w7 at *
                generalize w5.heap.size = bn at *
                refine wpList_append_sat rfl (.tmp 99) (.tmp 103) 117 rfl 116 i0 (.agg #[.int .u64 0, .int .u64 0]) 2 16 Try.underlying117 hi hz0 hz1 hz2 rfl u14 pre.length (flat2 pre) rfl _ ⟨bn, 0, none⟩ 1 1 [.int .u64 x, .int .u64 y] rfl ?_ hs7 rfl hnew (by intro u hu; simp at hu; rcases hu with rfl | rfl <;> rfl) (by omega) (by unfold maxLen; omega)
                clear hi hz0 hz1 hz2 hnew hs7
                intro v' w9 hs9 hb9
                have HQ := Lib.hid (And.intro hs9 (And.intro (hb7.trans hb9) hok5))
                clear hs9 hb9 hb7 hok5
                go_wp2_with fail
                go_roundw
                case rel =>
                  refine ⟨k, pre ++ [(x, y)], by omega, rfl, HF.out.2.2, by simp only [List.length_append, List.length_cons, List.length_nil]; omega, ⟨?_, HQ.out.2.2⟩, HQ.out.2.1⟩
                  have hs10 := (show sat w9 (Go.Proofs.Ytanjiecefioffaa.blk bn (.cells #[.int .u64 x, .int .u64 y] 116 (0, 0)) * (isHeap V S * (isSt X V.g Y * (own 116 2 v' (pre.length + 1) (flat2 pre ++ [.int .u64 x, .int .u64 y]) * R)))) from HQ.out.1.perm (by ac_rfl)).right
                  rw [flat2_app, List.length_append]
                  exact hs10
                case measure => simp [intOf]
          | false =>
            rw [p2] at hs2
            go_wp2_with fail
            with_reducible refine hs2.mono ?_
            rintro e w' ⟨rfl, j3, rfl⟩
            have h9 := h7.drewN j3
            have hb9 := hb7.trans (drewN_below0 w7 j3)
            clear hs2 h7 hb7
            generalize w7.drewN j3 = w9 at *
            have p3 : S.shape a 2 (-1) 0 = false := by
              unfold HS.shape at p1 ⊢
              rw [Bool.and_eq_true, decide_eq_true_eq] at p1
              rw [p1.1]; rfl
            have hs3 := HH.out.2.2.2 w9 h9 a 2 (-1) 0 a0 a1
            rw [p3] at hs3
            go_wp2_with fail
            with_reducible refine hs3.mono ?_
            rintro e w' ⟨rfl, j4, rfl⟩
            have h8 := h9.drewN j4
            have hb8 := hb9.trans (drewN_below0 w9 j4)
            clear hs3 h9 hb9
            generalize w9.drewN j4 = w8 at *
            have hp : S.parts a b = none := by rw [HPP.out.1, if_neg (by unfold HS.kin; rw [p1, p2, p3]; simp)]
            have HP := Lib.hid hp
            have HX8 := Lib.hid (And.intro h8 hb8)
            clear hp h8 hb8
            go_wp2_with fail
            go_ret2
            refine ⟨.slice none 0 0, by rw [HP.out]; rfl, ⟨?_, HX8.out.1.ok⟩, HX8.out.2⟩
            rw [HP.out]
            exact (HX8.out.1.s.nil_own (e := 116) (sz := 2)).perm (by simp only [Option.getD_none, List.length_nil]; show own _ _ _ _ [] * _ = isHeap V S * (isSt X V.g Y * (own _ _ _ _ [] * R)); ac_rfl)
        | false =>
          rw [p1] at hs1
          go_wp2_with fail
          with_reducible refine hs1.mono ?_
          rintro e w' ⟨rfl, j2, rfl⟩
          have h9 := h6.drewN j2
          have hb9 := hb6.trans (drewN_below0 w6 j2)
          clear hs1 h6 hb6
          generalize w6.drewN j2 = w9 at *
          have hs3 := HH.out.2.2.2 w9 h9 a 2 (-1) 0 a0 a1
          cases p3 : S.shape a 2 (-1) 0 with
          | false =>
            rw [p3] at hs3
            go_wp2_with fail
            with_reducible refine hs3.mono ?_
            rintro e w' ⟨rfl, j4, rfl⟩
            have h8 := h9.drewN j4
            have hb8 := hb9.trans (drewN_below0 w9 j4)
            clear hs3 h9 hb9
            generalize w9.drewN j4 = w8 at *
            have hp : S.parts a b = none := by rw [HPP.out.1, if_neg (by unfold HS.kin; rw [p1, p3]; simp)]
            have HP := Lib.hid hp
            have HX8 := Lib.hid (And.intro h8 hb8)
            clear hp h8 hb8
            go_wp2_with fail
            go_ret2
            refine ⟨.slice none 0 0, by rw [HP.out]; rfl, ⟨?_, HX8.out.1.ok⟩, HX8.out.2⟩
            rw [HP.out]
            exact (HX8.out.1.s.nil_own (e := 116) (sz := 2)).perm (by simp only [Option.getD_none, List.length_nil]; show own _ _ _ _ [] * _ = isHeap V S * (isSt X V.g Y * (own _ _ _ _ [] * R)); ac_rfl)
          | true =>
            rw [p3] at hs3
            go_wp2_with fail
            with_reducible refine hs3.mono ?_
            rintro e w' ⟨rfl, j4, rfl⟩
            have h10 := h9.drewN j4
            have hb10 := hb9.trans (drewN_below0 w9 j4)
            clear hs3 h9 hb9
            generalize w9.drewN j4 = w10 at *
            have hs4 := HH.out.2.2.2 w10 h10 b 2 n 0 b0 b1
            cases p4 : S.shape b 2 n 0 with
            | false =>
              rw [p4] at hs4
              go_wp2_with fail
              with_reducible refine hs4.mono ?_
              rintro e w' ⟨rfl, j5, rfl⟩
              have h8 := h10.drewN j5
              have hb8 := hb10.trans (drewN_below0 w10 j5)
              clear hs4 h10 hb10
              generalize w10.drewN j5 = w8 at *
              have hp : S.parts a b = none := by rw [HPP.out.1, if_neg (by unfold HS.kin; rw [p1, p3, HTN.out, p4]; simp)]
              have HP := Lib.hid hp
              have HX8 := Lib.hid (And.intro h8 hb8)
              clear hp h8 hb8
              go_wp2_with fail
              go_ret2
              refine ⟨.slice none 0 0, by rw [HP.out]; rfl, ⟨?_, HX8.out.1.ok⟩, HX8.out.2⟩
              rw [HP.out]
              exact (HX8.out.1.s.nil_own (e := 116) (sz := 2)).perm (by simp only [Option.getD_none, List.length_nil]; show own _ _ _ _ [] * _ = isHeap V S * (isSt X V.g Y * (own _ _ _ _ [] * R)); ac_rfl)
            | true =>
              rw [p4] at hs4
              go_wp2_with fail
              with_reducible refine hs4.mono ?_
              rintro e w' ⟨rfl, j5, rfl⟩
              have h8 := h10.drewN j5
              have hb8 := hb10.trans (drewN_below0 w10 j5)
              clear hs4 h10 hb10
              generalize w10.drewN j5 = w8 at *
              have g1 : IntKind.i64.wrap ((n : Int) - 1) = (n : Int) - 1 := IntWalk.i64_in _ (by omega)
              have hp : S.parts a b = some (S.fields2 a b n) := by
                rw [HPP.out.1, if_pos (by unfold HS.kin; rw [p1, p3, HTN.out, p4]; rfl), HPP.out.2]
              have HP := Lib.hid hp
              have HX8 := Lib.hid (And.intro h8 hb8)
              clear hp h8 hb8
              go_wp2_with fail
              go_loopw [14, 15] (PRel w X V S Y R a b n) (fun _ i _ => (intOf i + 1).toNat)
              case atStart =>
                refine ⟨n, [], Nat.le_refl _, rfl, rfl, by simp, ⟨?_, HX8.out.1.ok⟩, HX8.out.2⟩
                exact (HX8.out.1.s.nil_own (e := 116) (sz := 2)).perm (by simp only [List.length_nil]; show own _ _ _ _ [] * _ = isHeap V S * (isSt X V.g Y * (own _ _ _ _ [] * R)); ac_rfl)
              case round =>
                obtain ⟨k, pre, hk, rfl, hpre, hpl, hs, hb⟩ := hrel
                cases k with
                | zero =>
                  have b3 : decide ((((0 : Nat) : Int) - 1) ≥ 0) = false := by decide
                  have hpre2 : pre = S.fields2 a b n := by simpa [HS.fields2] using hpre
                  have HF := Lib.hid (And.intro hs (And.intro hb hpre2))
                  clear hs hb hpre hpre2
                  go_wp2_with fail
                  go_ret2
                  refine ⟨_, by rw [HP.out]; rfl, ?_, HF.out.2.1⟩
                  rw [HP.out, Option.getD_some, ← HF.out.2.2]
                  exact HF.out.1
                | succ k =>
                  have c0 := HC0.out wr _ hs
                  have hga := hs.Get a k a0 a1
                  have hgb := fun m : Nat => (hs.drewN m).Get b k b0 b1
                  have hpre3 : (pre ++ [(S.getAt a k, S.getAt b k)]) ++ S.fields2 a b k = S.fields2 a b n := by rw [← hpre, List.append_assoc]; rfl
                  generalize S.getAt a k = x at *
                  generalize S.getAt b k = y at *
                  generalize decide (0 ≤ (k : Int) ∧ (k : Int) < S.tag a) = q1 at *
                  generalize decide (0 ≤ (k : Int) ∧ (k : Int) < S.tag b) = q2 at *
                  have b3 : decide ((((k + 1 : Nat) : Int) - 1) ≥ 0) = true := by rw [decide_eq_true_eq]; omega
                  have b4 : (((k + 1 : Nat) : Int) - 1) = (k : Int) := by omega
                  rw [b4] at b3 ⊢
                  have HF := Lib.hid (And.intro hs (And.intro hb hpre3))
                  clear hs hb hpre hpre3 b4
                  go_wp2_with fail
                  refine hga.mono ?_
                  rintro e w' ⟨rfl, m1, rfl⟩
                  go_wp2_with fail
                  refine (hgb m1).mono ?_
                  rintro e w' ⟨rfl, m2, rfl⟩
                  have hs5 := (HF.out.1.drewN m1).drewN m2
                  have hb5 := (HF.out.2.1.trans (drewN_below0 wr m1)).trans (drewN_below0 _ m2)
                  generalize (wr.drewN m1).drewN m2 = w5 at *
                  clear hga hgb c0
                  go_wp2_with (at_builtin; refine halt ?_)
                  refine goon ?_
                  obtain ⟨hi, hz0, hz1, hz2⟩ := H1.out
                  have hs7 : sat (w5.alloc (.cells #[.int .u64 x, .int .u64 y] 116)) (own 116 2 u14 pre.length (flat2 pre) * (Go.Proofs.Ytanjiecefioffaa.blk w5.heap.size (.cells #[.int .u64 x, .int .u64 y] 116 (0, 0)) * (isHeap V S * (isSt X V.g Y * R)))) := (hs5.s.alloc (.cells #[.int .u64 x, .int .u64 y] 116)).perm (by ac_rfl)
                  have hb7 : Below 0 w (w5.alloc (.cells #[.int .u64 x, .int .u64 y] 116)) := hb5.trans (Below.zero_alloc _ _)
                  have hnew : ∀ (j : Nat) u, [Value.int .u64 x, Value.int .u64 y][j]? = some u → (w5.alloc (.cells #[.int .u64 x, .int .u64 y] 116)).cell? ((⟨w5.heap.size, 0, none⟩ : Addr).add j) = some u := by
                    intro j u hj
                    have ha : ((⟨w5.heap.size, 0, none⟩ : Addr).add j) = ⟨w5.heap.size, j, none⟩ := by unfold Addr.add; split <;> simp_all
                    rw [ha, hs7.right.left.cell j]
                    match j, hj with
                    | 0, hj => simpa using hj
                    | 1, hj => simpa using hj
                  have hok5 := hs5.ok
                  clear hs5 hb5
                  generalize w5.alloc (.cells #[.int .u64 x, .int .u64 y] 116) = w7 at *
                  generalize w5.heap.size = bn at *
                  refine wpList_append_sat rfl (.tmp 99) (.tmp 103) 117 rfl 116 i0 (.agg #[.int .u64 0, .int .u64 0]) 2 16 Try.underlying117 hi hz0 hz1 hz2 rfl u14 pre.length (flat2 pre) rfl _ ⟨bn, 0, none⟩ 1 1 [.int .u64 x, .int .u64 y] rfl ?_ hs7 rfl hnew (by intro u hu; simp at hu; rcases hu with rfl | rfl <;> rfl) (by omega) (by unfold maxLen; omega)
                  clear hi hz0 hz1 hz2 hnew hs7
                  intro v' w9 hs9 hb9
                  have HQ := Lib.hid (And.intro hs9 (And.intro (hb7.trans hb9) hok5))
                  clear hs9 hb9 hb7 hok5
                  go_wp2_with fail
                  go_roundw
                  case rel =>
                    refine ⟨k, pre ++ [(x, y)], by omega, rfl, HF.out.2.2, by simp only [List.length_append, List.length_cons, List.length_nil]; omega, ⟨?_, HQ.out.2.2⟩, HQ.out.2.1⟩
                    have hs10 := (show sat w9 (Go.Proofs.Ytanjiecefioffaa.blk bn (.cells #[.int .u64 x, .int .u64 y] 116 (0, 0)) * (isHeap V S * (isSt X V.g Y * (own 116 2 v' (pre.length + 1) (flat2 pre ++ [.int .u64 x, .int .u64 y]) * R)))) from HQ.out.1.perm (by ac_rfl)).right
                    rw [flat2_app, List.length_append]
                    exact hs10
                  case measure => simp [intOf]
      | true =>
        have okb : S.bytesOk b = false := by rw [oka, Bool.true_and] at hta; exact hta
        go_enter Try.func76, Try.ntmps76
        go_wp2_with fail
        with_reducible refine hE.mono ?_
        rintro e w2 ⟨rfl, h2, hb2⟩
        have hB1 := HH.out.1 w2 h2
        go_wp2_with fail
        with_reducible refine hB1.mono ?_
        rintro e w3 ⟨v1, rfl, h3, hb3⟩
        have hB2 := HH.out.2.1 w3 _ h3
        clear hE hB1 h2
        go_wp2_with fail
        with_reducible refine hB2.mono ?_
        rintro e w4 ⟨v2, rfl, h4, hb4⟩
        have hbw := (hb2.trans hb3).trans hb4
        clear hB2 h3 hb2 hb3 hb4
        rw [okb]
        clear hta
        have h5 := h4.drop.drop
        have hb5 := hbw
        have hT1 := HH.out.2.2.1 w4 h5
        have c0 := HC0.out w4 R h5
        obtain ⟨n, hn⟩ : ∃ n : Nat, S.tag a = n := ⟨(S.tag a).toNat, by omega⟩
        rw [hn] at hT1
        have hn2 : n < 16777216 := by omega
        have HPP := Lib.hid (And.intro HPQ.out (show (S.tag a).toNat = n by omega))
        have HTN := Lib.hid hn
        clear HPQ h4 hbw hn he hba hbb
        go_wp2_with fail
        with_reducible refine hT1.mono ?_
        rintro e w' ⟨rfl, j1, rfl⟩
        have h6 := h5.drewN j1
        have hb6 := hb5.trans (drewN_below0 w4 j1)
        clear hT1 h5 hb5 c0
        generalize w4.drewN j1 = w6 at *
        have hs1 := HH.out.2.2.2 w6 h6 a 1 2 0 a0 a1
        cases p1 : S.shape a 1 2 0 with
        | true =>
          rw [p1] at hs1
          go_wp2_with fail
          with_reducible refine hs1.mono ?_
          rintro e w' ⟨rfl, j2, rfl⟩
          have h7 := h6.drewN j2
          have hb7 := hb6.trans (drewN_below0 w6 j2)
          clear hs1 h6 hb6
          generalize w6.drewN j2 = w7 at *
          have hs2 := HH.out.2.2.2 w7 h7 b 1 2 0 b0 b1
          cases p2 : S.shape b 1 2 0 with
          | true =>
            rw [p2] at hs2
            go_wp2_with fail
            with_reducible refine hs2.mono ?_
            rintro e w' ⟨rfl, j3, rfl⟩
            have h8 := h7.drewN j3
            have hb8 := hb7.trans (drewN_below0 w7 j3)
            clear hs2 h7 hb7
            generalize w7.drewN j3 = w8 at *
            have g1 : IntKind.i64.wrap ((n : Int) - 1) = (n : Int) - 1 := IntWalk.i64_in _ (by omega)
            have hp : S.parts a b = some (S.fields2 a b n) := by
              rw [HPP.out.1, if_pos (by unfold HS.kin; rw [p1, p2]; rfl), HPP.out.2]
            have HP := Lib.hid hp
            have HX8 := Lib.hid (And.intro h8 hb8)
            clear hp h8 hb8
            go_wp2_with fail
            go_loopw [14, 15] (PRel w X V S Y R a b n) (fun _ i _ => (intOf i + 1).toNat)
            case atStart =>
              refine ⟨n, [], Nat.le_refl _, rfl, rfl, by simp, ⟨?_, HX8.out.1.ok⟩, HX8.out.2⟩
              exact (HX8.out.1.s.nil_own (e := 116) (sz := 2)).perm (by simp only [List.length_nil]; show own _ _ _ _ [] * _ = isHeap V S * (isSt X V.g Y * (own _ _ _ _ [] * R)); ac_rfl)
            case round =>
              obtain ⟨k, pre, hk, rfl, hpre, hpl, hs, hb⟩ := hrel
              cases k with
              | zero =>
                have b3 : decide ((((0 : Nat) : Int) - 1) ≥ 0) = false := by decide
                have hpre2 : pre = S.fields2 a b n := by simpa [HS.fields2] using hpre
                have HF := Lib.hid (And.intro hs (And.intro hb hpre2))
                clear hs hb hpre hpre2
                go_wp2_with fail
                go_ret2
                refine ⟨_, by rw [HP.out]; rfl, ?_, HF.out.2.1⟩
                rw [HP.out, Option.getD_some, ← HF.out.2.2]
                exact HF.out.1
              | succ k =>
                have c0 := HC0.out wr _ hs
                have hga := hs.Get a k a0 a1
                have hgb := fun m : Nat => (hs.drewN m).Get b k b0 b1
                have hpre3 : (pre ++ [(S.getAt a k, S.getAt b k)]) ++ S.fields2 a b k = S.fields2 a b n := by rw [← hpre, List.append_assoc]; rfl
                generalize S.getAt a k = x at *
                generalize S.getAt b k = y at *
                generalize decide (0 ≤ (k : Int) ∧ (k : Int) < S.tag a) = q1 at *
                generalize decide (0 ≤ (k : Int) ∧ (k : Int) < S.tag b) = q2 at *
                have b3 : decide ((((k + 1 : Nat) : Int) - 1) ≥ 0) = true := by rw [decide_eq_true_eq]; omega
                have b4 : (((k + 1 : Nat) : Int) - 1) = (k : Int) := by omega
                rw [b4] at b3 ⊢
                have HF := Lib.hid (And.intro hs (And.intro hb hpre3))
                clear hs hb hpre hpre3 b4
                go_wp2_with fail
                refine hga.mono ?_
                rintro e w' ⟨rfl, m1, rfl⟩
                go_wp2_with fail
                refine (hgb m1).mono ?_
                rintro e w' ⟨rfl, m2, rfl⟩
                have hs5 := (HF.out.1.drewN m1).drewN m2
                have hb5 := (HF.out.2.1.trans (drewN_below0 wr m1)).trans (drewN_below0 _ m2)
                generalize (wr.drewN m1).drewN m2 = w5 at *
                clear hga hgb c0
                go_wp2_with (at_builtin; refine halt ?_)
                refine goon ?_
                obtain ⟨hi, hz0, hz1, hz2⟩ := H1.out
                have hs7 : sat (w5.alloc (.cells #[.int .u64 x, .int .u64 y] 116)) (own 116 2 u14 pre.length (flat2 pre) * (Go.Proofs.Ytanjiecefioffaa.blk w5.heap.size (.cells #[.int .u64 x, .int .u64 y] 116 (0, 0)) * (isHeap V S * (isSt X V.g Y * R)))) := (hs5.s.alloc (.cells #[.int .u64 x, .int .u64 y] 116)).perm (by ac_rfl)
                have hb7 : Below 0 w (w5.alloc (.cells #[.int .u64 x, .int .u64 y] 116)) := hb5.trans (Below.zero_alloc _ _)
                have hnew : ∀ (j : Nat) u, [Value.int .u64 x, Value.int .u64 y][j]? = some u → (w5.alloc (.cells #[.int .u64 x, .int .u64 y] 116)).cell? ((⟨w5.heap.size, 0, none⟩ : Addr).add j) = some u := by
                  intro j u hj
                  have ha : ((⟨w5.heap.size, 0, none⟩ : Addr).add j) = ⟨w5.heap.size, j, none⟩ := by unfold Addr.add; split <;> simp_all
                  rw [ha, hs7.right.left.cell j]
                  match j, hj with
                  | 0, hj => simpa using hj
                  | 1, hj => simpa using hj
                have hok5 := hs5.ok
                clear hs5 hb5
                generalize w5.alloc (.cells #[.int .u64 x, .int .u64 y] 116) = w7 at *
                generalize w5.heap.size = bn at *
                refine wpList_append_sat rfl (.tmp 99) (.tmp 103) 117 rfl 116 i0 (.agg #[.int .u64 0, .int .u64 0]) 2 16 Try.underlying117 hi hz0 hz1 hz2 rfl u14 pre.length (flat2 pre) rfl _ ⟨bn, 0, none⟩ 1 1 [.int .u64 x, .int .u64 y] rfl ?_ hs7 rfl hnew (by intro u hu; simp at hu; rcases hu with rfl | rfl <;> rfl) (by omega) (by unfold maxLen; omega)
                clear hi hz0 hz1 hz2 hnew hs7
                intro v' w9 hs9 hb9
                have HQ := Lib.hid (And.intro hs9 (And.intro (hb7.trans hb9) hok5))
                clear hs9 hb9 hb7 hok5
                go_wp2_with fail
                go_roundw
                case rel =>
                  refine ⟨k, pre ++ [(x, y)], by omega, rfl, HF.out.2.2, by simp only [List.length_append, List.length_cons, List.length_nil]; omega, ⟨?_, HQ.out.2.2⟩, HQ.out.2.1⟩
                  have hs10 := (show sat w9 (Go.Proofs.Ytanjiecefioffaa.blk bn (.cells #[.int .u64 x, .int .u64 y] 116 (0, 0)) * (isHeap V S * (isSt X V.g Y * (own 116 2 v' (pre.length + 1) (flat2 pre ++ [.int .u64 x, .int .u64 y]) * R)))) from HQ.out.1.perm (by ac_rfl)).right
                  rw [flat2_app, List.length_append]
                  exact hs10
                case measure => simp [intOf]
          | false =>
            rw [p2] at hs2
            go_wp2_with fail
            with_reducible refine hs2.mono ?_
            rintro e w' ⟨rfl, j3, rfl⟩
            have h9 := h7.drewN j3
            have hb9 := hb7.trans (drewN_below0 w7 j3)
            clear hs2 h7 hb7
            generalize w7.drewN j3 = w9 at *
            have p3 : S.shape a 2 (-1) 0 = false := by
              unfold HS.shape at p1 ⊢
              rw [Bool.and_eq_true, decide_eq_true_eq] at p1
              rw [p1.1]; rfl
            have hs3 := HH.out.2.2.2 w9 h9 a 2 (-1) 0 a0 a1
            rw [p3] at hs3
            go_wp2_with fail
            with_reducible refine hs3.mono ?_
            rintro e w' ⟨rfl, j4, rfl⟩
            have h8 := h9.drewN j4
            have hb8 := hb9.trans (drewN_below0 w9 j4)
            clear hs3 h9 hb9
            generalize w9.drewN j4 = w8 at *
            have hp : S.parts a b = none := by rw [HPP.out.1, if_neg (by unfold HS.kin; rw [p1, p2, p3]; simp)]
            have HP := Lib.hid hp
            have HX8 := Lib.hid (And.intro h8 hb8)
            clear hp h8 hb8
            go_wp2_with fail
            go_ret2
            refine ⟨.slice none 0 0, by rw [HP.out]; rfl, ⟨?_, HX8.out.1.ok⟩, HX8.out.2⟩
            rw [HP.out]
            exact (HX8.out.1.s.nil_own (e := 116) (sz := 2)).perm (by simp only [Option.getD_none, List.length_nil]; show own _ _ _ _ [] * _ = isHeap V S * (isSt X V.g Y * (own _ _ _ _ [] * R)); ac_rfl)
        | false =>
          rw [p1] at hs1
          go_wp2_with fail
          with_reducible refine hs1.mono ?_
          rintro e w' ⟨rfl, j2, rfl⟩
          have h9 := h6.drewN j2
          have hb9 := hb6.trans (drewN_below0 w6 j2)
          clear hs1 h6 hb6
          generalize w6.drewN j2 = w9 at *
          have hs3 := HH.out.2.2.2 w9 h9 a 2 (-1) 0 a0 a1
          cases p3 : S.shape a 2 (-1) 0 with
          | false =>
            rw [p3] at hs3
            go_wp2_with fail
            with_reducible refine hs3.mono ?_
            rintro e w' ⟨rfl, j4, rfl⟩
            have h8 := h9.drewN j4
            have hb8 := hb9.trans (drewN_below0 w9 j4)
            clear hs3 h9 hb9
            generalize w9.drewN j4 = w8 at *
            have hp : S.parts a b = none := by rw [HPP.out.1, if_neg (by unfold HS.kin; rw [p1, p3]; simp)]
            have HP := Lib.hid hp
            have HX8 := Lib.hid (And.intro h8 hb8)
            clear hp h8 hb8
            go_wp2_with fail
            go_ret2
            refine ⟨.slice none 0 0, by rw [HP.out]; rfl, ⟨?_, HX8.out.1.ok⟩, HX8.out.2⟩
            rw [HP.out]
            exact (HX8.out.1.s.nil_own (e := 116) (sz := 2)).perm (by simp only [Option.getD_none, List.length_nil]; show own _ _ _ _ [] * _ = isHeap V S * (isSt X V.g Y * (own _ _ _ _ [] * R)); ac_rfl)
          | true =>
            rw [p3] at hs3
            go_wp2_with fail
            with_reducible refine hs3.mono ?_
            rintro e w' ⟨rfl, j4, rfl⟩
            have h10 := h9.drewN j4
            have hb10 := hb9.trans (drewN_below0 w9 j4)
            clear hs3 h9 hb9
            generalize w9.drewN j4 = w10 at *
            have hs4 := HH.out.2.2.2 w10 h10 b 2 n 0 b0 b1
            cases p4 : S.shape b 2 n 0 with
            | false =>
              rw [p4] at hs4
              go_wp2_with fail
              with_reducible refine hs4.mono ?_
              rintro e w' ⟨rfl, j5, rfl⟩
              have h8 := h10.drewN j5
              have hb8 := hb10.trans (drewN_below0 w10 j5)
              clear hs4 h10 hb10
              generalize w10.drewN j5 = w8 at *
              have hp : S.parts a b = none := by rw [HPP.out.1, if_neg (by unfold HS.kin; rw [p1, p3, HTN.out, p4]; simp)]
              have HP := Lib.hid hp
              have HX8 := Lib.hid (And.intro h8 hb8)
              clear hp h8 hb8
              go_wp2_with fail
              go_ret2
              refine ⟨.slice none 0 0, by rw [HP.out]; rfl, ⟨?_, HX8.out.1.ok⟩, HX8.out.2⟩
              rw [HP.out]
              exact (HX8.out.1.s.nil_own (e := 116) (sz := 2)).perm (by simp only [Option.getD_none, List.length_nil]; show own _ _ _ _ [] * _ = isHeap V S * (isSt X V.g Y * (own _ _ _ _ [] * R)); ac_rfl)
            | true =>
              rw [p4] at hs4
              go_wp2_with fail
              with_reducible refine hs4.mono ?_
              rintro e w' ⟨rfl, j5, rfl⟩
              have h8 := h10.drewN j5
              have hb8 := hb10.trans (drewN_below0 w10 j5)
              clear hs4 h10 hb10
              generalize w10.drewN j5 = w8 at *
              have g1 : IntKind.i64.wrap ((n : Int) - 1) = (n : Int) - 1 := IntWalk.i64_in _ (by omega)
              have hp : S.parts a b = some (S.fields2 a b n) := by
                rw [HPP.out.1, if_pos (by unfold HS.kin; rw [p1, p3, HTN.out, p4]; rfl), HPP.out.2]
              have HP := Lib.hid hp
              have HX8 := Lib.hid (And.intro h8 hb8)
              clear hp h8 hb8
              go_wp2_with fail
              go_loopw [14, 15] (PRel w X V S Y R a b n) (fun _ i _ => (intOf i + 1).toNat)
              case atStart =>
                refine ⟨n, [], Nat.le_refl _, rfl, rfl, by simp, ⟨?_, HX8.out.1.ok⟩, HX8.out.2⟩
                exact (HX8.out.1.s.nil_own (e := 116) (sz := 2)).perm (by simp only [List.length_nil]; show own _ _ _ _ [] * _ = isHeap V S * (isSt X V.g Y * (own _ _ _ _ [] * R)); ac_rfl)
              case round =>
                obtain ⟨k, pre, hk, rfl, hpre, hpl, hs, hb⟩ := hrel
                cases k with
                | zero =>
                  have b3 : decide ((((0 : Nat) : Int) - 1) ≥ 0) = false := by decide
                  have hpre2 : pre = S.fields2 a b n := by simpa [HS.fields2] using hpre
                  have HF := Lib.hid (And.intro hs (And.intro hb hpre2))
                  clear hs hb hpre hpre2
                  go_wp2_with fail
                  go_ret2
                  refine ⟨_, by rw [HP.out]; rfl, ?_, HF.out.2.1⟩
                  rw [HP.out, Option.getD_some, ← HF.out.2.2]
                  exact HF.out.1
                | succ k =>
                  have c0 := HC0.out wr _ hs
                  have hga := hs.Get a k a0 a1
                  have hgb := fun m : Nat => (hs.drewN m).Get b k b0 b1
                  have hpre3 : (pre ++ [(S.getAt a k, S.getAt b k)]) ++ S.fields2 a b k = S.fields2 a b n := by rw [← hpre, List.append_assoc]; rfl
                  generalize S.getAt a k = x at *
                  generalize S.getAt b k = y at *
                  generalize decide (0 ≤ (k : Int) ∧ (k : Int) < S.tag a) = q1 at *
                  generalize decide (0 ≤ (k : Int) ∧ (k : Int) < S.tag b) = q2 at *
                  have b3 : decide ((((k + 1 : Nat) : Int) - 1) ≥ 0) = true := by rw [decide_eq_true_eq]; omega
                  have b4 : (((k + 1 : Nat) : Int) - 1) = (k : Int) := by omega
                  rw [b4] at b3 ⊢
                  have HF := Lib.hid (And.intro hs (And.intro hb hpre3))
                  clear hs hb hpre hpre3 b4
                  go_wp2_with fail
                  refine hga.mono ?_
                  rintro e w' ⟨rfl, m1, rfl⟩
                  go_wp2_with fail
                  refine (hgb m1).mono ?_
                  rintro e w' ⟨rfl, m2, rfl⟩
                  have hs5 := (HF.out.1.drewN m1).drewN m2
                  have hb5 := (HF.out.2.1.trans (drewN_below0 wr m1)).trans (drewN_below0 _ m2)
                  generalize (wr.drewN m1).drewN m2 = w5 at *
                  clear hga hgb c0
                  go_wp2_with (at_builtin; refine halt ?_)
                  refine goon ?_
                  obtain ⟨hi, hz0, hz1, hz2⟩ := H1.out
                  have hs7 : sat (w5.alloc (.cells #[.int .u64 x, .int .u64 y] 116)) (own 116 2 u14 pre.length (flat2 pre) * (Go.Proofs.Ytanjiecefioffaa.blk w5.heap.size (.cells #[.int .u64 x, .int .u64 y] 116 (0, 0)) * (isHeap V S * (isSt X V.g Y * R)))) := (hs5.s.alloc (.cells #[.int .u64 x, .int .u64 y] 116)).perm (by ac_rfl)
                  have hb7 : Below 0 w (w5.alloc (.cells #[.int .u64 x, .int .u64 y] 116)) := hb5.trans (Below.zero_alloc _ _)
                  have hnew : ∀ (j : Nat) u, [Value.int .u64 x, Value.int .u64 y][j]? = some u → (w5.alloc (.cells #[.int .u64 x, .int .u64 y] 116)).cell? ((⟨w5.heap.size, 0, none⟩ : Addr).add j) = some u := by
                    intro j u hj
                    have ha : ((⟨w5.heap.size, 0, none⟩ : Addr).add j) = ⟨w5.heap.size, j, none⟩ := by unfold Addr.add; split <;> simp_all
                    rw [ha, hs7.right.left.cell j]
                    match j, hj with
                    | 0, hj => simpa using hj
                    | 1, hj => simpa using hj
                  have hok5 := hs5.ok
                  clear hs5 hb5
                  generalize w5.alloc (.cells #[.int .u64 x, .int .u64 y] 116) = w7 at *
                  generalize w5.heap.size = bn at *
                  refine wpList_append_sat rfl (.tmp 99) (.tmp 103) 117 rfl 116 i0 (.agg #[.int .u64 0, .int .u64 0]) 2 16 Try.underlying117 hi hz0 hz1 hz2 rfl u14 pre.length (flat2 pre) rfl _ ⟨bn, 0, none⟩ 1 1 [.int .u64 x, .int .u64 y] rfl ?_ hs7 rfl hnew (by intro u hu; simp at hu; rcases hu with rfl | rfl <;> rfl) (by omega) (by unfold maxLen; omega)
                  clear hi hz0 hz1 hz2 hnew hs7
                  intro v' w9 hs9 hb9
                  have HQ := Lib.hid (And.intro hs9 (And.intro (hb7.trans hb9) hok5))
                  clear hs9 hb9 hb7 hok5
                  go_wp2_with fail
                  go_roundw
                  case rel =>
                    refine ⟨k, pre ++ [(x, y)], by omega, rfl, HF.out.2.2, by simp only [List.length_append, List.length_cons, List.length_nil]; omega, ⟨?_, HQ.out.2.2⟩, HQ.out.2.1⟩
                    have hs10 := (show sat w9 (Go.Proofs.Ytanjiecefioffaa.blk bn (.cells #[.int .u64 x, .int .u64 y] 116 (0, 0)) * (isHeap V S * (isSt X V.g Y * (own 116 2 v' (pre.length + 1) (flat2 pre ++ [.int .u64 x, .int .u64 y]) * R)))) from HQ.out.1.perm (by ac_rfl)).right
                    rw [flat2_app, List.length_append]
                    exact hs10
                  case measure => simp [intOf]
end
end Go.Proofs.Ytanjiecefioffaa
