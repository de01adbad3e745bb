/- value.Store: Equal. -/
import Derived.Test.YtanjiecefioffaaStoreParts
namespace Go.Proofs.Ytanjiecefioffaa
open Go.RowKit

/-- Comparing goes on: the steps that are left, the words that are to be compared (the last ones first). -/
def HS.eqRun (S : HS) : Nat → List (Int × Int) → Bool × Bool
  | 0, l => if l = [] then (true, true) else (false, false)
  | f + 1, l => if h : l = [] then (true, true) else
      match S.parts (l.getLast h).1 (l.getLast h).2 with
      | none => (false, true)
      | some ps => S.eqRun f (l.dropLast ++ ps)
def HS.equal (S : HS) (a b : Int) : Bool × Bool := S.eqRun 20000 [(a, b)]
def U2 (l : List (Int × Int)) : Prop := ∀ p ∈ l, (0 ≤ p.1 ∧ p.1 < 18446744073709551616) ∧ (0 ≤ p.2 ∧ p.2 < 18446744073709551616)
def EqRel (W : World) (X : StV) (V : HV) (S : HS) (Y : StS) (R : HP) (a b : Int) (v i : Value) (wr : World) : Prop :=
  ∃ (f : Nat) (l : List (Int × Int)), f ≤ 20000 ∧ i = .int .i64 (20000 - (f : Int)) ∧ S.eqRun f l = S.equal a b ∧ U2 l ∧ l.length ≤ 1 + (20000 - f) * 16777216 ∧
    StW wr X V S Y (own 116 2 v l.length (flat2 l) * R) ∧ Below 0 W wr
theorem fields2_u {w : World} {V : HV} {S : HS} (h : HeapV w V S) (a b : Int) (a0 : 0 ≤ a) (b0 : 0 ≤ b) (n : Nat) : U2 (S.fields2 a b n) := by
  induction n with
  | zero => intro p hp; simp [HS.fields2] at hp
  | succ n ih =>
    intro p hp
    simp only [HS.fields2, List.mem_cons] at hp
    rcases hp with rfl | hp
    · exact ⟨h.get_bd a n a0, h.get_bd b n b0⟩
    · exact ih p hp
theorem parts_u {w : World} {V : HV} {S : HS} (h : HeapV w V S) (a b : Int) (a0 : 0 ≤ a) (b0 : 0 ≤ b) {ps : List (Int × Int)} (hp : S.parts a b = some ps) : U2 ps ∧ ps.length ≤ 16777216 := by
  have nil : U2 [] ∧ ([] : List (Int × Int)).length ≤ 16777216 := ⟨fun p hp => by simp at hp, by simp⟩
  unfold HS.parts at hp
  split at hp
  · cases hp; exact nil
  · split at hp
    · split at hp
      · cases hp; exact nil
      · cases hp
    · split at hp
      · cases hp
        refine ⟨fields2_u h a b a0 b0 _, ?_⟩
        rw [fields2_len]
        have : S.tag a < 16777216 := by unfold HS.tag; exact (tagH_bd _).2
        omega
      · cases hp
theorem flat2_get (l : List (Int × Int)) (k : Nat) (p : Int × Int) (h : l[k]? = some p) : (flat2 l)[k * 2]? = some (.int .u64 p.1) ∧ (flat2 l)[k * 2 + 1]? = some (.int .u64 p.2) := by
  induction l generalizing k with
  | nil => simp at h
  | cons q l ih =>
    cases k with
    | zero => simp at h; subst h; exact ⟨rfl, rfl⟩
    | succ k =>
      have := ih k (by simpa using h)
      unfold flat2 at this ⊢
      rw [List.flatMap_cons]
      rw [show (k + 1) * 2 = k * 2 + 2 by omega]
      simpa using this
theorem flat2_take (l : List (Int × Int)) (k : Nat) : (flat2 l).take (k * 2) = flat2 (l.take k) := by
  induction l generalizing k with
  | nil => simp [flat2]
  | cons q l ih =>
    cases k with
    | zero => simp [flat2]
    | succ k =>
      have := ih k
      unfold flat2 at this ⊢
      rw [List.take_succ_cons, List.flatMap_cons, List.flatMap_cons, show (k + 1) * 2 = k * 2 + 1 + 1 by omega]
      simp [this]

theorem own_cells {w : World} {R : HP} {e sz n cap : Nat} {ao : Option Addr} {v : Value} {xs : List Value} (h : sat w (own e sz v n xs * R)) (hv : v = .slice ao n cap) : CellsAt w ao xs := by
  rcases h.open_own.2 with ⟨_, _, hx, _⟩ | ⟨b, cap2, hv2, _, hr⟩
  · subst hx; intro j u hj; simp at hj
  · rw [hv] at hv2
    injection hv2 with e1 e2 e3
    subst e1
    intro j u hj
    refine ⟨_, rfl, ?_⟩
    have hadd : (⟨b, 0, none⟩ : Addr).add j = ⟨b, j, none⟩ := by unfold Addr.add; split <;> simp_all
    rw [hadd]
    exact hr.row_cell hj
theorem flat2_one (l : List (Int × Int)) : ∀ u ∈ flat2 l, u.oneCell' = true := by
  intro u hu
  unfold flat2 at hu
  obtain ⟨p, _, hp⟩ := List.mem_flatMap.1 hu
  simp at hp
  rcases hp with rfl | rfl <;> rfl
theorem own_cut {w : World} {R : HP} {g n cap : Nat} {l : List (Int × Int)} {p : Int × Int} (hl : l.length = n) (h : sat w (own 116 2 (.slice (some ⟨g, 0, none⟩) (n + 1) cap) (n + 1) (flat2 (l ++ [p])) * R)) : sat w (own 116 2 (.slice (some ⟨g, 0, none⟩) n cap) n (flat2 l) * R) := by
  rcases h.open_own.2 with ⟨_, hx, _, _⟩ | ⟨b, cap2, hv2, hc, hr⟩
  · omega
  · injection hv2 with e1 e2 e3
    injection e1 with e1
    injection e1 with e1 _ _
    subst e1 e3
    have h2 := hr.row_prefix (n * 2)
    rw [flat2_take, List.take_append_of_le_length (by omega), List.take_of_length_le (by omega)] at h2
    exact sat.shut_own (by rw [flat2_len, hl]) (by omega) h2
section
variable {w : World} {X : StV} {V : HV} {S : HS} {Y : StS} {R : HP}
set_option maxRecDepth 100000 in
set_option maxHeartbeats 2000000 in
theorem StW.Equal (h : StW w X V S Y R) (a b : Int) (a0 : 0 ≤ a) (a1 : a < 18446744073709551616) (b0 : 0 ≤ b) (b1 : b < 18446744073709551616) :
    Calls Try.prog 44 #[.pointer (some ⟨X.g, 0, none⟩), .int .u64 a, .int .u64 b] w (StKeeps X V S Y R (.tuple #[.bool (S.equal a b).1, .bool (S.equal a b).2]) w) := by
  obtain ⟨i0, hi, hz0, hz1, hz2⟩ := info_parts info_two
  have H1 := Lib.hid (And.intro hi (And.intro hz0 (And.intro hz1 hz2)))
  clear hi hz0 hz1 hz2
  have hP := fun (w' : World) (R' : HP) (h' : StW w' X V S Y R') => h'.parts
  have HP := Lib.hid hP
  have h1 : StW (w.alloc (.cells #[.int .u64 a, .int .u64 b] 116)) X V S Y (Go.Proofs.Ytanjiecefioffaa.blk w.heap.size (.cells #[.int .u64 a, .int .u64 b] 116 (0, 0)) * R) := ⟨(h.s.alloc _).perm (by ac_rfl), h.ok⟩
  have h2 : StW (w.alloc (.cells #[.int .u64 a, .int .u64 b] 116)) X V S Y (own 116 2 (.slice (some ⟨w.heap.size, 0, none⟩) 1 1) [(a, b)].length (flat2 [(a, b)]) * R) := by
    refine ⟨?_, h.ok⟩
    have hs : sat _ (Go.Proofs.Ytanjiecefioffaa.blk w.heap.size (.cells #[.int .u64 a, .int .u64 b] 116 (0, 0)) * (isHeap V S * (isSt X V.g Y * R))) := h1.s.perm (by ac_rfl)
    exact (sat.shut_own (e := 116) (sz := 2) (n := 1) (cap := 1) (xs := flat2 [(a, b)]) rfl (Nat.le_refl _) (hs.shut_row rfl (Nat.le_refl _) (by unfold maxLen; omega) rfl)).perm (by show _ = isHeap V S * (isSt X V.g Y * (own 116 2 (.slice (some ⟨w.heap.size, 0, none⟩) 1 1) 1 (flat2 [(a, b)]) * R)); ac_rfl)
  have hu1 : U2 [(a, b)] := by intro p hp; simp at hp; subst hp; exact ⟨⟨a0, a1⟩, ⟨b0, b1⟩⟩
  have hb2 : Below 0 w (w.alloc (.cells #[.int .u64 a, .int .u64 b] 116)) := Below.zero_alloc _ _
  have hq : S.eqRun 20000 [(a, b)] = S.equal a b := rfl
  have HX := Lib.hid (And.intro h2 (And.intro hu1 (And.intro hb2 hq)))
  have hpu := fun (x y : Int) (x0 : 0 ≤ x) (y0 : 0 ≤ y) (ps : List (Int × Int)) (hp : S.parts x y = some ps) => parts_u h.hw.v x y x0 y0 hp
  have HU := Lib.hid hpu
  clear h h1 h2 hu1 hb2 hq hP hpu
  go_enter Try.func44, Try.ntmps44
  go_wp2_with fail
  go_loopw [8, 9] (EqRel w X V S Y R a b) (fun _ i _ => (20001 - intOf i).toNat)
  case atStart =>
    exact ⟨20000, [(a, b)], Nat.le_refl _, rfl, HX.out.2.2.2, HX.out.2.1, by simp, HX.out.1, HX.out.2.2.1⟩
  case round =>
    obtain ⟨f, l, hf, rfl, hrun, hu, hlen, hs, hb⟩ := hrel
    have hso : sat wr (own 116 2 u8 l.length (flat2 l) * (isHeap V S * (isSt X V.g Y * R))) := hs.s.perm (by ac_rfl)
    obtain ⟨ao, cap, hv⟩ := own_val hso
    subst hv
    rcases List.eq_nil_or_concat l with rfl | ⟨l', ⟨x, y⟩, rfl⟩
    · have he : S.equal a b = (true, true) := by rw [← hrun]; cases f <;> simp [HS.eqRun]
      have HF := Lib.hid (And.intro hs (And.intro hb he))
      clear hs hso hb hrun he hu
      go_wp2_with fail
      go_ret2
      refine ⟨?_, HF.out.1.drop, HF.out.2.1⟩
      rw [HF.out.2.2]; rfl
    · rw [List.concat_eq_append] at *
      cases f with
      | zero =>
        have he : S.equal a b = (false, false) := by rw [← hrun]; simp [HS.eqRun]
        have HF := Lib.hid (And.intro hs (And.intro hb he))
        have b3 : decide (((l' ++ [(x, y)]).length : Int) > 0) = true := by rw [decide_eq_true_eq, List.length_append, List.length_cons]; omega
        clear hs hso hb hrun he hu
        go_wp2_with fail
        go_ret2
        refine ⟨?_, HF.out.1.drop, HF.out.2.1⟩
        rw [HF.out.2.2]; rfl
      | succ f =>
        have hso2 := hso.open_own.2
        obtain ⟨_, hn0, _⟩ | ⟨g, cap2, hvv, hnc, hrow⟩ := hso2
        · rw [List.length_append, List.length_cons] at hn0; omega
        · obtain ⟨rfl, rfl⟩ : ao = some (⟨g, 0, none⟩ : Addr) ∧ cap = cap2 := by
            injection hvv with e1 e2 e3; exact ⟨e1, e3⟩
          have hxy := hu (x, y) (by simp)
          obtain ⟨hg0, hg1⟩ := flat2_get (l' ++ [(x, y)]) l'.length (x, y) (by simp)
          have hc0 := hrow.row_cell hg0
          have hc1 := hrow.row_cell hg1
          have hL : (l' ++ [(x, y)]).length = l'.length + 1 := by simp
          have hbd := hrow.row_bounds.2
          rw [hL] at hs hnc hlen ⊢
          have hn63 : l'.length + 1 ≤ maxLen := Nat.le_trans hnc hbd
          clear hvv hbd hrow hL hso
          obtain ⟨n, hn⟩ : ∃ n, l'.length = n := ⟨_, rfl⟩
          rw [hn] at hc0 hc1 hn63 hs hlen hnc ⊢
          unfold maxLen at hn63
          have b3 : decide (((n + 1 : Nat) : Int) > 0) = true := by rw [decide_eq_true_eq]; omega
          have b4 : (20000 - ((f + 1 : Nat) : Int) == 20000) = false := by rw [beq_eq_false_iff_ne]; omega
          have g1 : IntKind.i64.wrap (n : Int) = (n : Int) := IntWalk.i64_in _ (by omega)
          have g2 : decide ((n : Int) < (n : Int) + 1) = true := by simp; omega
          have HF := Lib.hid (And.intro hs (And.intro hb (And.intro hrun (And.intro hu hlen))))
          clear hs hb hrun hu hlen
          go_wp2_with fail
          have hs5 : StW (wr.alloc (.cells #[.int .u64 x, .int .u64 y] 116)) X V S Y (Go.Proofs.Ytanjiecefioffaa.blk wr.heap.size (.cells #[.int .u64 x, .int .u64 y] 116 (0, 0)) * (own 116 2 (.slice (some ⟨g, 0, none⟩) (n + 1) cap) (n + 1) (flat2 (l' ++ [(x, y)])) * R)) := ⟨(HF.out.1.s.alloc _).perm (by ac_rfl), HF.out.1.ok⟩
          have hb5 : Below 0 w (wr.alloc (.cells #[.int .u64 x, .int .u64 y] 116)) := HF.out.2.1.trans (Below.zero_alloc _ _)
          have hT := HP.out _ _ hs5 x y hxy.1.1 hxy.1.2 hxy.2.1 hxy.2.2
          cases hps : S.parts x y with
          | none =>
            have he : S.equal a b = (false, true) := by
              rw [← HF.out.2.2.1]
              unfold HS.eqRun
              rw [dif_neg (by simp)]
              simp [hps]
            rw [hps] at hT
            have HE := Lib.hid (And.intro he hb5)
            clear hps he hb5 hs5
            with_reducible refine hT.mono ?_
            rintro e w6 ⟨v, rfl, h6, hb6⟩
            have HG := Lib.hid (And.intro h6 hb6)
            clear h6 hb6 hT
            go_wp2_with fail
            go_ret2
            refine ⟨?_, HG.out.1.drop.drop.drop, HE.out.2.trans HG.out.2⟩
            rw [HE.out.1]; rfl
          | some ps =>
            obtain ⟨hpu, hpl⟩ := HU.out x y hxy.1.1 hxy.2.1 ps hps
            have he : S.eqRun f (l' ++ ps) = S.equal a b := by
              rw [← HF.out.2.2.1]
              conv => rhs; unfold HS.eqRun
              rw [dif_neg (by simp)]
              simp [hps]
            rw [hps] at hT
            have hu2 : U2 (l' ++ ps) := by
              intro p hp
              rw [List.mem_append] at hp
              rcases hp with hp | hp
              · exact HF.out.2.2.2.1 p (by simp [hp])
              · exact hpu p hp
            have hl2 := HF.out.2.2.2.2
            have HE := Lib.hid (And.intro he (And.intro hb5 (And.intro hu2 hpu)))
            clear hps he hb5 hs5 hu2 hpu
            with_reducible refine hT.mono ?_
            rintro e w6 ⟨v, rfl, h6, hb6⟩
            simp only [Option.getD_some] at h6
            have hso : sat w6 (own 116 2 v ps.length (flat2 ps) * ((Go.Proofs.Ytanjiecefioffaa.blk wr.heap.size (.cells #[.int .u64 x, .int .u64 y] 116 (0, 0)) * (own 116 2 (.slice (some ⟨g, 0, none⟩) (n + 1) cap) (n + 1) (flat2 (l' ++ [(x, y)])) * R)) * (isHeap V S * isSt X V.g Y))) := h6.s.perm (by ac_rfl)
            obtain ⟨ao2, cap2, hv⟩ := own_val hso
            have hcs := own_cells hso hv
            have hcut := own_cut hn ((show sat w6 (own 116 2 (.slice (some ⟨g, 0, none⟩) (n + 1) cap) (n + 1) (flat2 (l' ++ [(x, y)])) * (isHeap V S * (isSt X V.g Y * R))) from (hso.right.perm (show _ = Go.Proofs.Ytanjiecefioffaa.blk wr.heap.size (.cells #[.int .u64 x, .int .u64 y] 116 (0, 0)) * (own 116 2 (.slice (some ⟨g, 0, none⟩) (n + 1) cap) (n + 1) (flat2 (l' ++ [(x, y)])) * (isHeap V S * (isSt X V.g Y * R))) by ac_rfl)).right))
            subst hv
            have g4 : (n : Int) ≤ (cap : Int) := by omega
            have g5 : ¬ (cap = 0) := by omega
            have HG := Lib.hid (And.intro h6.ok (And.intro hb6 (And.intro hcs hcut)))
            clear h6 hb6 hso hcs hcut hT
            go_wp2_with (at_builtin; refine halt ?_)
            refine goon ?_
            obtain ⟨hi, hz0, hz1, hz2⟩ := H1.out
            refine wpList_append_opt rfl (.tmp 45) (.tmp 46) 117 rfl 116 i0 (.agg #[.int .u64 0, .int .u64 0]) 2 16 Try.underlying117 hi hz0 hz1 hz2 rfl (by decide) (.slice (some ⟨g, 0, none⟩) n cap) n (flat2 l') rfl (isHeap V S * (isSt X V.g Y * R)) ao2 ps.length cap2 (flat2 ps) rfl ?_ HG.out.2.2.2 (flat2_len ps) HG.out.2.2.1 (flat2_one ps) (by omega) (by unfold maxLen; omega)
            clear hi hz0 hz1 hz2
            intro v' w9 hs9 hb9
            have HQ := Lib.hid (And.intro hs9 ((HE.out.2.1.trans HG.out.2.1).trans hb9))
            clear hs9 hb9
            go_wp2_with fail
            go_roundw
            case rel =>
              refine ⟨f, l' ++ ps, by omega, by go_num, HE.out.1, HE.out.2.2.1, by rw [List.length_append]; omega, ⟨?_, HG.out.1⟩, HQ.out.2⟩
              rw [flat2_app, List.length_append, hn]
              exact HQ.out.1.perm (by ac_rfl)
            case measure => simp [intOf]; omega
end
end Go.Proofs.Ytanjiecefioffaa
