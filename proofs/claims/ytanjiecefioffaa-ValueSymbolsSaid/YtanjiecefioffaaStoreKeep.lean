/- value.Store: Keep. -/
import Derived.Test.YtanjiecefioffaaStoreName
import Derived.Test.YtanjiecefioffaaSepMap2
import Derived.Test.YtanjiecefioffaaSep5
import Derived.Test.YtanjiecefioffaaGcWalk
import Derived.Test.YtanjiecefioffaaRowsIn
namespace Go.Proofs.Ytanjiecefioffaa
open Go.RowKit

/-- The words of all symbols, in order. -/
def StS.words (Y : StS) : List Int := Y.ord.map fun s => (Y.syms.get s).getD 0
def StS.kept (Y : StS) (S : HS) (roots : List Int) : StS :=
  ⟨Y.syms.updAll (Y.ord.zip ((S.moved (roots ++ Y.words)).drop roots.length)), Y.ord, S.times + 1⟩

def KRel1 (W : World) (g mb : Nat) (oo : Option Addr) (oc : Nat) (V : HV) (S : HS) (Y : StS) (R : HP) (roots : List Int) (v i : Value) (wr : World) : Prop :=
  ∃ k : Nat, k ≤ Y.ord.length ∧ i = .int .i64 k ∧ StW wr ⟨g, mb, .slice oo Y.ord.length oc⟩ V S Y (own 22 1 v (roots.length + k) ((roots ++ Y.words.take k).map u64) * R) ∧ Below 0 W wr

def KRel2 (W : World) (g mb : Nat) (oo : Option Addr) (oc : Nat) (V : HV) (S : HS) (syms : SM) (ord : List ByteArray) (tm : Nat) (ws : List Int) (R : HP) (i : Value) (wr : World) : Prop :=
  ∃ k : Nat, k ≤ ord.length ∧ i = .int .i64 k ∧ StW wr ⟨g, mb, .slice oo ord.length oc⟩ V S ⟨syms.updAll ((ord.zip ws).take k), ord, tm⟩ R ∧ Below 0 W wr
theorem moved_len (S : HS) (l : List Int) : ∀ c : CS, (copyAll S c l).2.length = l.length := by
  induction l with
  | nil => intro c; rfl
  | cons x l ih => intro c; simp only [copyAll]; simp [ih]
def KeepPost (X : StV) (V : HV) (S : HS) (Y : StS) (R : HP) (roots : List Int) (w : World) (e : Ending) (w' : World) : Prop :=
  ∃ (bo : Nat) (V' : HV), e = .returned (.slice (some ⟨bo, 0, none⟩) roots.length roots.length) ∧ V'.g = V.g ∧
    StW w' X V' (S.collect (roots ++ Y.words)) (Y.kept S roots) (row 22 1 bo (roots ++ Y.words).length ((S.moved (roots ++ Y.words)).map u64) * R) ∧ Below 0 w w'

section
variable {w : World} {X : StV} {V : HV} {S : HS} {Y : StS} {R : HP}
set_option maxRecDepth 100000 in
set_option maxHeartbeats 2000000 in
theorem StW.Keep (h : StW w X V S Y R) (ht : Y.tm = S.times) (ao : Option Addr) (cap : Nat) (roots : List Int) (hr : WordsIn R ao roots) (hu : ∀ x ∈ roots, 0 ≤ x ∧ x < 18446744073709551616) (hn : roots.length ≤ 1048576)
    (hsy : ∀ s ∈ Y.ord, ∃ v, Y.syms.get s = some v ∧ 0 ≤ v ∧ v < 18446744073709551616) (hol : Y.ord.length ≤ 1048576) (htm : S.times < 4611686018427387900) :
    Calls Try.prog 29 #[.pointer (some ⟨X.g, 0, none⟩), .slice ao roots.length cap] w (KeepPost X V S Y R roots w) := by
  obtain ⟨oo, oc, hov⟩ := own_val h.syms.right
  obtain ⟨g, mb, ov⟩ := X
  dsimp only at hov
  subst hov
  obtain ⟨i0, hi, hz0, hz1, hz2⟩ := info_parts info_u64
  have H1 := Lib.hid (And.intro hi (And.intro hz0 (And.intro hz1 hz2)))
  clear hi hz0 hz1 hz2
  go_enter Try.func29, Try.ntmps29
  go_wp2_with (at_builtin; refine halt ?_)
  refine goon ?_
  obtain ⟨hi, hz0, hz1, hz2⟩ := H1.out
  refine wpList_append_opt rfl (.const (.slice none 0 0)) (.tmp 11) 35 rfl 22 i0 (.int .u64 0) 1 8 Try.underlying35 hi hz0 hz1 hz2 rfl (by decide) (.slice none 0 0) 0 [] rfl (isHeap V S * (isSt ⟨g, mb, .slice oo Y.ord.length oc⟩ V.g Y * R)) ao roots.length cap (roots.map Go.Proofs.Ytanjiecefioffaa.u64) rfl ?_ h.s.nil_own (by simp) (CellsAt.words .u64 (hr w h.fr)) (by intro u hu; obtain ⟨y, _, rfl⟩ := List.mem_map.1 hu; rfl) (by omega) (by unfold maxLen; omega)
  clear hi hz0 hz1 hz2
  intro v1 w1 hs1 hb1
  have h1 : StW w1 ⟨g, mb, .slice oo Y.ord.length oc⟩ V S Y (own 22 1 v1 (roots.length + 0) ((roots ++ Y.words.take 0).map Go.Proofs.Ytanjiecefioffaa.u64) * R) := ⟨hs1.perm (by simp only [Nat.zero_add, Nat.add_zero, List.nil_append, List.take_zero, List.append_nil]; ac_rfl), h.ok⟩
  have hK := h1.known ht
  have c2 := h1.c2
  have HB := Lib.hid (And.intro h1 (And.intro hb1 h))
  clear hs1 h1 hb1
  go_wp2_with fail
  refine hK.mono ?_
  rintro e w' ⟨rfl, j, rfl⟩
  have c2' : (w1.drewN j).cell? ⟨g, 2, none⟩ = _ := c2
  go_wp2_with fail
  go_loopw [5, 20] (KRel1 w g mb oo oc V S Y R roots) (fun _ i _ => Y.ord.length - (intOf i).toNat)
  case atStart => exact ⟨0, Nat.zero_le _, rfl, HB.out.1.drewN j, HB.out.2.1.trans (drewN_below0 _ _)⟩
  case round =>
    obtain ⟨k, hk, rfl, hs, hb⟩ := hrel
    by_cases hlt : k < Y.ord.length
    · obtain ⟨s, es⟩ : ∃ s, Y.ord[k]? = some s := ⟨_, List.getElem?_eq_getElem hlt⟩
      obtain ⟨px, hpx, hp0, hp1⟩ := hsy s (List.mem_of_getElem? es)
      obtain ⟨b, cap', hov, _, _, hro⟩ := hs.syms.right.own_some (by omega)
      simp only [Value.slice.injEq] at hov
      obtain ⟨rfl, _, rfl⟩ := hov
      have hcs := hro.row_cell (j := k) (v := .string s) (by rw [List.getElem?_map, es]; rfl)
      have hlk := run_lookup_str1 (P := Try.prog) hs.syms Try.underlying38 Try.underlying9 (zero_u64 wr) s
      dsimp only at hlk
      rw [hpx] at hlk
      have htk : (roots ++ Y.words.take (k + 1)).map Go.Proofs.Ytanjiecefioffaa.u64 = (roots ++ Y.words.take k).map Go.Proofs.Ytanjiecefioffaa.u64 ++ [.int .u64 px] := by
        have : Y.words[k]? = some px := by unfold StS.words; rw [List.getElem?_map, es]; simp [hpx]
        rw [List.take_add_one, this]; simp
      have HX := Lib.hid (And.intro hs (And.intro hb (And.intro htk es)))
      clear hs hb htk es hro hpx hsy
      go_wp2_with (at_builtin; refine halt ?_)
      refine goon ?_
      obtain ⟨hi, hz0, hz1, hz2⟩ := H1.out
      have hs7 : sat (wr.alloc (.cells #[.int .u64 px] 22)) (own 22 1 u5 (roots.length + k) ((roots ++ Y.words.take k).map Go.Proofs.Ytanjiecefioffaa.u64) * (Go.Proofs.Ytanjiecefioffaa.blk wr.heap.size (.cells #[.int .u64 px] 22 (0, 0)) * (isHeap V S * (isSt ⟨g, mb, .slice (some ⟨b, 0, none⟩) Y.ord.length oc⟩ V.g Y * R)))) := (HX.out.1.s.alloc (.cells #[.int .u64 px] 22)).perm (by ac_rfl)
      have hnew : (wr.alloc (.cells #[.int .u64 px] 22)).cell? ⟨wr.heap.size, 0, none⟩ = some (.int .u64 px) := (hs7.right.left.cell 0).trans rfl
      have hb7 : Below 0 w (wr.alloc (.cells #[.int .u64 px] 22)) := HX.out.2.1.trans (Below.zero_alloc _ _)
      generalize wr.alloc (.cells #[.int .u64 px] 22) = w7 at *
      generalize wr.heap.size = bn at *
      refine wpList_append_one rfl (.tmp 24) (.tmp 28) 35 rfl 22 i0 (.int .u64 0) 8 Try.underlying35 hi hz0 hz1 hz2 rfl u5 (roots.length + k) ((roots ++ Y.words.take k).map Go.Proofs.Ytanjiecefioffaa.u64) rfl _ bn (.int .u64 px) rfl ?_ hs7 hnew rfl (by omega) (by unfold maxLen; omega)
      clear hi hz0 hz1 hz2 hnew hs7
      intro v' w9 hs9 hb9
      have HQ := Lib.hid (And.intro hs9 (hb7.trans hb9))
      clear hs9 hb9 hb7
      go_wp2_with fail
      go_roundw
      case rel =>
        refine ⟨k + 1, by omega, by go_num, ⟨?_, HX.out.1.ok⟩, HQ.out.2⟩
        rw [HX.out.2.2.1]
        have h12 : sat w9 (Go.Proofs.Ytanjiecefioffaa.blk bn (.cells #[.int .u64 px] 22 (0, 0)) * (isHeap V S * (isSt ⟨g, mb, .slice (some ⟨b, 0, none⟩) Y.ord.length oc⟩ V.g Y * (own 22 1 v' (roots.length + k + 1) ((roots ++ Y.words.take k).map Go.Proofs.Ytanjiecefioffaa.u64 ++ [.int .u64 px]) * R)))) := HQ.out.1.perm (by ac_rfl)
        exact h12.right
      case measure => simp [intOf]; omega
    · obtain rfl : k = Y.ord.length := by omega
      have hge : (Y.ord.length : Int) ≤ Y.ord.length := by omega
      have hwl : Y.words.length = Y.ord.length := by unfold StS.words; simp
      rw [List.take_of_length_le (by omega)] at hs
      obtain ⟨ao5, c5, rfl⟩ := own_val hs.fr
      have hal : (roots ++ Y.words).length = roots.length + Y.ord.length := by rw [List.length_append, hwl]
      have hau : ∀ x ∈ roots ++ Y.words, 0 ≤ x ∧ x < 18446744073709551616 := by
        intro x hx
        rcases List.mem_append.1 hx with hx | hx
        · exact hu x hx
        · unfold StS.words at hx
          obtain ⟨s, hs, rfl⟩ := List.mem_map.1 hx
          obtain ⟨v, hv, h0, h1⟩ := hsy s hs
          rw [hv]; exact ⟨h0, h1⟩
      have hC := hs.hw.Collect ao5 c5 (roots ++ Y.words) (fun w' h' => own_reads (n := roots.length + Y.ord.length) hal rfl h'.right) hau (by rw [hal]; omega) htm
      rw [hal] at hC
      have c0 := hs.c0
      generalize hall : roots ++ Y.words = all at *
      have HX := Lib.hid (And.intro hb (And.intro hal (And.intro hau (And.intro hall hsy))))
      clear hs hb hwl hal hau hall hsy HB
      go_wp2_with fail
      refine hC.mono ?_
      rintro e w2 ⟨bo, V2, rfl, hg2, h2, hb2⟩
      have h2' := StW.turn (R := row 22 1 bo all.length ((S.moved all).map Go.Proofs.Ytanjiecefioffaa.u64) * R) (V' := V2) (X := ⟨g, mb, .slice oo Y.ord.length oc⟩) (Y := Y) ⟨(show sat w2 (own 22 1 (.slice ao5 (roots.length + Y.ord.length) c5) (roots.length + Y.ord.length) (all.map Go.Proofs.Ytanjiecefioffaa.u64) * (isHeap V2 (S.collect all) * (isSt ⟨g, mb, .slice oo Y.ord.length oc⟩ V.g Y * (row 22 1 bo all.length ((S.moved all).map Go.Proofs.Ytanjiecefioffaa.u64) * R)))) from h2.s.perm (by ac_rfl)).right, h2.ok⟩ hg2
      have hbw := HX.out.1.trans hb2
      have hT := h2'.hw.v.Times
      have c0 := h2'.c0
      have c3 := h2'.c3
      have f3 := h2'.blk.frozen 3
      have hml : (S.moved all).length = all.length := by unfold HS.moved; exact moved_len S all _
      have hmu : ∀ x ∈ S.moved all, 0 ≤ x ∧ x < 18446744073709551616 := (gc_end h.ok.wf h.hw.v.len HX.out.2.2.1).u
      have HY := Lib.hid (And.intro h2' (And.intro hbw (And.intro hml (And.intro hmu hg2))))
      clear h2 h2' hbw hb2 hC hml hmu hg2
      dsimp only at c0 c3 f3
      go_wp2_with fail
      refine hT.mono ?_
      rintro e w' ⟨rfl, j2, rfl⟩
      have c3' : (w2.drewN j2).cell? ⟨g, 3, none⟩ = some (.int .i64 (Y.tm : Int)) := c3
      have f3' : (w2.drewN j2).frozen? ⟨g, 3, none⟩ = false := f3
      obtain ⟨tm, htm2⟩ : ∃ tm : Nat, S.times + 1 = tm := ⟨_, rfl⟩
      have htt : (((S.collect all).times : Nat) : Int) = (tm : Int) := by rw [← htm2]; rfl
      rw [htt]
      have HTM := Lib.hid htm2
      clear htt htm2
      go_upto_region 10 with (fail)
      have hs3 : sat ((w2.drewN j2).setCell ⟨g, 3, none⟩ (.int .i64 (tm : Int))) (isHeap V2 (S.collect all) * (isSt ⟨g, mb, .slice oo Y.ord.length oc⟩ V2.g ⟨Y.syms, Y.ord, tm⟩ * (row 22 1 bo all.length ((S.moved all).map Go.Proofs.Ytanjiecefioffaa.u64) * R))) := by
        have h3 := (HY.out.1.drewN j2).s
        unfold isSt at h3 ⊢
        dsimp only at h3 ⊢
        have h4 := (show sat (w2.drewN j2) (Go.Proofs.Ytanjiecefioffaa.blk g (.cells #[.pointer (some ⟨V2.g, 0, none⟩), .map (some mb), .slice oo Y.ord.length oc, i64 Y.tm] 41 (0, 0)) * (mapS mb Y.syms * (own 9 1 (.slice oo Y.ord.length oc) Y.ord.length (Y.ord.map .string) * (isHeap V2 (S.collect all) * (row 22 1 bo all.length ((S.moved all).map Go.Proofs.Ytanjiecefioffaa.u64) * R))))) from h3.perm (by ac_rfl)).setCell (off := 3) (.int .i64 (tm : Int))
        exact h4.perm (by simp only [List.setIfInBounds_toArray, List.set_cons_succ, List.set_cons_zero]; ac_rfl)
      have hb3 : Below 0 w ((w2.drewN j2).setCell ⟨g, 3, none⟩ (.int .i64 (tm : Int))) := (HY.out.2.1.trans (drewN_below0 w2 j2)).setCell (p := ⟨g, 3, none⟩) (Nat.zero_le _) _
      clear c3 c3' f3 f3' hT
      generalize (w2.drewN j2).setCell ⟨g, 3, none⟩ (.int .i64 (tm : Int)) = w3 at *
      have h3 : StW w3 ⟨g, mb, .slice oo Y.ord.length oc⟩ V2 (S.collect all) ⟨Y.syms.updAll ((Y.ord.zip ((S.moved all).drop roots.length)).take 0), Y.ord, tm⟩ (row 22 1 bo all.length ((S.moved all).map Go.Proofs.Ytanjiecefioffaa.u64) * R) := ⟨hs3, HY.out.1.ok⟩
      have c2 := h3.c2
      dsimp only at c2
      have HZ := Lib.hid (And.intro h3 hb3)
      clear hs3 h3 hb3 c0
      go_wp2_with fail
      go_loopw [50] (KRel2 w g mb oo oc V2 (S.collect all) Y.syms Y.ord tm ((S.moved all).drop roots.length) (row 22 1 bo all.length ((S.moved all).map Go.Proofs.Ytanjiecefioffaa.u64) * R)) (fun i _ => Y.ord.length - (intOf i).toNat)
      case atStart => exact ⟨0, Nat.zero_le _, rfl, HZ.out.1, HZ.out.2⟩
      case round =>
        clear HZ
        obtain ⟨k, hk, rfl, hs, hb⟩ := hrel
        by_cases hlt : k < Y.ord.length
        · obtain ⟨s, es⟩ : ∃ s, Y.ord[k]? = some s := ⟨_, List.getElem?_eq_getElem hlt⟩
          obtain ⟨y, ey⟩ : ∃ y, (S.moved all)[roots.length + k]? = some y := ⟨_, List.getElem?_eq_getElem (by have := HX.out.2.1; have := HY.out.2.2.1; omega)⟩
          obtain ⟨b, cap', hov, _, _, hro⟩ := hs.syms.right.own_some (by dsimp only; omega)
          simp only [Value.slice.injEq] at hov
          obtain ⟨rfl, _, rfl⟩ := hov
          have hcs := hro.row_cell (j := k) (v := .string s) (by rw [List.getElem?_map, es]; rfl)
          have hrw : sat wr (row 22 1 bo all.length ((S.moved all).map Go.Proofs.Ytanjiecefioffaa.u64) * R) := hs.fr
          have hcy := hrw.row_cell (j := roots.length + k) (v := .int .u64 y) (by rw [List.getElem?_map, ey]; rfl)
          have c1 := hs.c1
          dsimp only at c1
          have hzk : (Y.ord.zip ((S.moved all).drop roots.length))[k]? = some (s, y) := by
            rw [List.getElem?_zip_eq_some, List.getElem?_drop]
            exact ⟨es, ey⟩
          have hsome : ((Y.syms.updAll ((Y.ord.zip ((S.moved all).drop roots.length)).take k)).get s).isSome = true := by
            rw [SM.updAll_isSome]
            obtain ⟨v, hv, _⟩ := HX.out.2.2.2.2 s (List.mem_of_getElem? es)
            rw [hv]; rfl
          obtain ⟨o, hrun, hs4, hb4⟩ := run_update_str (P := Try.prog) hs.syms Try.underlying38 Try.underlying9 s y hsome
          have hst : Y.syms.updAll ((Y.ord.zip ((S.moved all).drop roots.length)).take (k + 1)) = (Y.syms.updAll ((Y.ord.zip ((S.moved all).drop roots.length)).take k)).upd s y := by
            rw [List.take_add_one, hzk]
            exact SM.updAll_app _ (s, y) _
          have g1 : IntKind.i64.wrap ((roots.length : Int) + k) = roots.length + k := IntWalk.i64_in _ (by omega)
          have g2 : decide ((roots.length : Int) + k < (all.length : Int)) = true := by have := HX.out.2.1; simp; omega
          have g3 : ((roots.length : Int) + k).toNat = roots.length + k := by omega
          have g4 : (0 : Int) ≤ (roots.length : Int) + k := by omega
          have g5 : (roots.length : Int) + k < (all.length : Int) := by have := HX.out.2.1; omega
          have HW := Lib.hid (And.intro hs4 (And.intro (hb.trans hb4) (And.intro hst hs.ok)))
          clear hs hb hs4 hb4 hst hsome hzk hro hrw ey es
          have hr1 : (Instr.mapUpdate 38 (.map (some mb)) (.string s) (.int .u64 y)).run Try.prog wr.drew = .ok () (setObj wr mb o).drew := hrun 1
          clear hrun
          go_wp2_with fail
          go_region
          have HV := Lib.hid (And.intro HW.out.1.drew HW.out.2.1.drew)
          clear hr1
          generalize (setObj wr mb o).drew = w5 at *
          go_wp2_with fail
          go_roundw
          case rel =>
            refine ⟨k + 1, by omega, by go_num, ⟨?_, HW.out.2.2.2⟩, HV.out.2⟩
            rw [HW.out.2.2.1]
            unfold isSt
            exact HV.out.1.perm (by dsimp only; ac_rfl)
          case measure => simp [intOf]; omega
        · obtain rfl : k = Y.ord.length := by omega
          have hge2 : (Y.ord.length : Int) ≤ Y.ord.length := by omega
          have hlz : (Y.ord.zip ((S.moved all).drop roots.length)).length = Y.ord.length := by
            rw [List.length_zip, List.length_drop]
            have := HX.out.2.1; have := HY.out.2.2.1
            omega
          rw [List.take_of_length_le (by omega)] at hs
          have g1 : roots.length ≤ all.length := by have := HX.out.2.1; omega
          have HF := Lib.hid (And.intro hs hb)
          clear hs hb hlz
          go_wp2_with fail
          go_ret
          refine ⟨bo, V2, rfl, HY.out.2.2.2.2, ?_, HF.out.2⟩
          unfold StS.kept
          rw [HX.out.2.2.2.1, HTM.out]
          exact HF.out.1
end
end Go.Proofs.Ytanjiecefioffaa
