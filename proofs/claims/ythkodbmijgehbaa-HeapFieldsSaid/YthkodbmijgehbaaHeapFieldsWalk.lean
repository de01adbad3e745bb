/- HeapFields' walk. -/
import Derived.Test.YthkodbmijgehbaaHeapFieldsPure
namespace Go.Proofs.Ythkodbmijgehbaa
open Go.RowKit

def FRel0 (w : World) (bn t r : Nat) (V : HV) (S : HS) (i : Value) (wr : World) : Prop :=
  ∃ k : Nat, k ≤ t ∧ i = .int .i64 k ∧ sat wr (row 28 1 bn (t + r) ((List.replicate k (2 : Int) ++ List.replicate (t + r - k) (0 : Int)).map u64) * (isHeap V S * whole w)) ∧ Below 0 w wr

theorem frel0_step (k m : Nat) (h : k < m) : ((List.replicate k (2 : Int) ++ List.replicate (m - k) (0 : Int)).map u64).set k (.int .u64 2) = (List.replicate (k + 1) (2 : Int) ++ List.replicate (m - (k + 1)) (0 : Int)).map u64 := by
  obtain ⟨q, rfl⟩ : ∃ q, m = k + 1 + q := ⟨m - k - 1, by omega⟩
  rw [show k + 1 + q - k = q + 1 by omega, show k + 1 + q - (k + 1) = q by omega, List.map_append, List.set_append_right _ _ (by simp)]
  simp only [List.map_replicate, List.length_replicate, Nat.sub_self, List.map_append]
  rw [List.replicate_succ (n := q), List.set_cons_zero, List.replicate_succ' (n := k), List.append_assoc]; rfl

theorem fword (k : Nat) : 0 ≤ IntKind.u64.wrap (wrap64 (wrap64 (4 * (k : Int)) + 1)) ∧ IntKind.u64.wrap (wrap64 (wrap64 (4 * (k : Int)) + 1)) < 18446744073709551616 ∧ IntKind.u64.wrap (wrap64 (wrap64 (4 * (k : Int)) + 1)) % 4 = 1 := by
  rw [IntKind.wrap_u64]; unfold wrap64; omega
theorem u64_wf {x : Int} (h : (Lit.int .u64 x).wf = true) : 0 ≤ x ∧ x < 18446744073709551616 := by
  unfold Lit.wf at h
  rw [Bool.and_eq_true] at h
  have h1 := of_decide_eq_true h.1
  have h2 := of_decide_eq_true h.2
  rw [show IntKind.u64.min = 0 from rfl] at h1
  rw [show IntKind.u64.max = 18446744073709551615 from rfl] at h2
  omega

theorem want_set {w : World} {V : HV} {S : HS} {bn m : Nat} {want : List Int} {R : HP} (h : HeapW w V S (row 28 1 bn m (want.map u64) * R)) {q : Nat} (hq : q < want.length) (x : Int) :
    w.cell? ⟨bn, q, none⟩ = some (.int .u64 (want.getD q 0)) ∧ w.frozen? ⟨bn, q, none⟩ = false ∧ HeapW (w.setCell ⟨bn, q, none⟩ (.int .u64 x)) V S (row 28 1 bn m ((want.set q x).map u64) * R) := by
  have hs : sat w (row 28 1 bn m (want.map u64) * (isHeap V S * R)) := h.s.perm (by ac_rfl)
  refine ⟨hs.row_cell (by rw [List.getElem?_map, getD_get hq]; rfl), hs.row_frozen q, ?_, h.ok⟩
  have h2 := hs.row_set q (.int .u64 x)
  rw [show (want.map u64).set q (.int .u64 x) = (want.set q x).map u64 by rw [List.map_set]] at h2
  exact h2.perm (by ac_rfl)

def FRel2 (w : World) (g bn t r len : Nat) (i : Value) (wr : World) : Prop :=
  ∃ (k : Nat) (V : HV) (S : HS) (want : List Int), k ≤ len ∧ i = .int .i64 k ∧ V.g = g ∧ FH t r want S ∧ HeapW wr V S (row 28 1 bn (t + r) (want.map u64) * whole w) ∧ Below 0 w wr

def FRel3 (w : World) (g : Nat) (S : HS) (bn t r : Nat) (want : List Int) (i : Value) (wr : World) : Prop :=
  ∃ (k : Nat) (V : HV), k ≤ t + r ∧ i = .int .i64 k ∧ V.g = g ∧ HeapW wr V S (row 28 1 bn (t + r) (want.map u64) * whole w) ∧ Below 0 w wr

set_option maxHeartbeats 2000000 in
set_option maxRecDepth 100000 in
theorem heapFields_walk (a0 a1 : Int) (a2 : Option Addr) (len2 cap2 : Nat) (z2 : List Int) (a3 : Option Addr) (len3 cap3 : Nat) (z3 : List Int) (w : World) (w2 : IsRow .i64 w a2 len2 cap2 z2) (w3 : IsRow .u64 w a3 len3 cap3 z3) :
    Calls Try.prog 4 #[.int .i64 a0, .int .i64 a1, .slice a2 len2 cap2, .slice a3 len3 cap3] w fun e w' => e = .returned (.bool true) ∧ Below w.heap.size w w' := by
  have hl2 := w2.len_le
  have hl3 := w3.len_le
  go_enter Try.func4, Try.ntmps4
  go_wp2_with fail
  refine (place_any a0 8 w (by decide) (by decide)).mono ?_
  rintro e w' ⟨rfl, rfl⟩
  obtain ⟨t, ht⟩ : ∃ t : Nat, place a0 8 = t := ⟨(place a0 8).toNat, by have := place_bd a0 8 (by decide); omega⟩
  have ht8 : t < 8 := by have := place_bd a0 8 (by decide); omega
  rw [ht]
  clear ht
  go_wp2_with fail
  refine (place_any a1 8 w (by decide) (by decide)).mono ?_
  rintro e w' ⟨rfl, rfl⟩
  obtain ⟨r, hr⟩ : ∃ r : Nat, place a1 8 = r := ⟨(place a1 8).toNat, by have := place_bd a1 8 (by decide); omega⟩
  have hr8 : r < 8 := by have := place_bd a1 8 (by decide); omega
  rw [hr]
  clear hr
  obtain ⟨r1, r2, r3, e1, e2, e3, hF⟩ := FH.start t r ht8 hr8
  have HR := Lib.hid (And.intro r1 (And.intro r2 r3))
  have HE := Lib.hid (And.intro e1 (And.intro e2 e3))
  clear r1 r2 r3 e1 e2 e3
  go_wp2_with fail
  refine (New_good 60 (sat_whole w) (by decide) (by decide)).mono ?_
  rintro e w1 ⟨V, rfl, h1, hb1⟩
  go_wp2_with fail
  refine (h1.Alloc 3 1 1).mono ?_
  rintro e w4 ⟨rfl, hb2, V2, hg2, h2⟩
  rw [← hg2, HR.out.1, HE.out.1]
  simp only [if_true]
  clear hg2
  go_wp2_with fail
  refine (h2.Alloc 9 t r).mono ?_
  rintro e w5 ⟨rfl, hb3, V3, hg3, h3⟩
  rw [← hg3, HR.out.2.1, HE.out.2.1]
  simp only [if_true]
  clear hg3
  go_wp2_with fail
  refine (h3.Alloc 4 1 1).mono ?_
  rintro e w6 ⟨rfl, hb4, V4, hg4, h4⟩
  rw [← hg4, HR.out.2.2, HE.out.2.2]
  simp only [if_true]
  clear hg4
  have hb5 : Below 0 w w6 := ((hb1.trans hb2).trans hb3).trans hb4
  clear hb1 hb2 hb3 hb4 h1 h2 h3 HR HE
  generalize (((HS.new 60).alloc 3 1 1).alloc 9 t r).alloc 4 1 1 = S at hF h4
  obtain ⟨i0, hi, hz0, hz1, hz2⟩ := info_parts info_u64
  have H1 := Lib.hid (And.intro hi (And.intro hz0 (And.intro hz1 hz2)))
  clear hi hz0 hz1 hz2
  go_wp2_with (at_make; refine halt ?_)
  refine goon ?_
  obtain ⟨hi, hz0, hz1, hz2⟩ := H1.out
  refine wpList_make_sat rfl 33 (.tmp 73) (.tmp 73) rfl 28 i0 (.int .u64 0) 8 Try.underlying33 hi hz0 hz1 hz2 rfl .i64 .i64 ((t : Int) + r) (isHeap V4 S * whole w) rfl rfl ?_ ?h ?c1 ?c2 ?c3
  case h => exact h4.s
  case c1 => omega
  case c2 => omega
  case c3 => omega
  clear hi hz0 hz1 hz2
  intro bn w7 hs7 hb7
  have hn : ((t : Int) + r).toNat = t + r := by omega
  rw [hn] at hs7 ⊢
  clear hn
  have hb8 := hb5.trans hb7
  clear hb5 hb7
  go_wp2_with fail
  go_loopw [20] (FRel0 w bn t r V4 S) (fun i _ => t - (intOf i).toNat)
  case atStart => exact ⟨0, Nat.zero_le _, rfl, by simpa using hs7, hb8⟩
  case round =>
    obtain ⟨k, hk, rfl, hs9, hb9⟩ := hrel
    clear hs7 hb8
    by_cases hlt : k < t
    · have q1 : wr.cell? ⟨bn, k, none⟩ = some (.int .u64 0) := hs9.row_cell (by rw [List.map_append, List.getElem?_append_right (by simp), List.length_map, List.length_replicate, Nat.sub_self, List.map_replicate, List.getElem?_replicate, if_pos (by omega)])
      have q2 : wr.frozen? ⟨bn, k, none⟩ = false := hs9.row_frozen _
      go_wp2_with fail
      go_roundw
      case rel =>
        have h10 := hs9.row_set k (.int .u64 2)
        rw [frel0_step k (t + r) (by omega)] at h10
        exact ⟨k + 1, by omega, by go_num, h10, hb9.setCell (Nat.zero_le _) _⟩
      case measure => simp [intOf]; omega
    · obtain rfl : t = k := by omega
      have hge : (t : Int) ≤ t := by omega
      obtain ⟨g, hg⟩ : ∃ g, V4.g = g := ⟨_, rfl⟩
      have HG := Lib.hid hg
      rw [hg]
      clear hg
      rw [Nat.add_sub_cancel_left] at hs9
      go_wp2_with fail
      go_loopw [21] (FRel2 w g bn t r len2) (fun i _ => len2 - (intOf i).toNat)
      case atStart => exact ⟨0, V4, S, _, Nat.zero_le _, rfl, HG.out, hF, ⟨hs9.perm (by ac_rfl), h4.ok⟩, hb9⟩
      case round =>
        clear hF h4 hs9 hb9 HG
        obtain ⟨k, V, S, want, hk, rfl, rfl, hF, hW, hb⟩ := hrel
        by_cases hcont : k < len2 ∧ 0 < t + r
        · obtain ⟨hk2, htr⟩ := hcont
          obtain ⟨x, rfl, hlc, hzl, hcell, hwf⟩ := w2.cell hk2
          have hs0 : sat wr (isHeap V S * row 28 1 bn (t + r) (want.map u64) * whole w) := hW.s.perm (by ac_rfl)
          have hc := hs0.old_cell hcell
          generalize z2.getD k 0 = z at hc
          clear hcell hwf
          have htr2 : (0 : Int) < (t : Int) + r := by omega
          go_wp2_with fail
          refine (place_any z _ _ htr2 (by omega)).mono ?_
          rintro e w' ⟨rfl, rfl⟩
          obtain ⟨q, hq⟩ : ∃ q : Nat, place z ((t : Int) + r) = q := ⟨(place z ((t : Int) + r)).toNat, by have := place_bd z _ htr2; omega⟩
          have hq2 : q < t + r := by have := place_bd z _ htr2; omega
          rw [hq]
          clear hq hc
          by_cases hqt : q < t
          · have hlt2 : (q : Int) < t := by omega
            by_cases hk3 : k < len3
            · go_wp2_with fail
              generalize hX : IntKind.u64.wrap (wrap64 (wrap64 (4 * (k : Int)) + 1)) = X
              have hX1 : 0 ≤ X ∧ X < 18446744073709551616 ∧ X % 4 = 1 := by rw [← hX]; exact fword k
              clear hX
              obtain ⟨hok, hF2⟩ := hF.set ht8 hr8 q hqt X hX1.2.2
              refine (hW.Set 16 q X (by decide) (by decide) hX1.1 hX1.2.1).mono ?_
              rintro e w9 ⟨rfl, hW2, hb2⟩
              rw [hok]
              generalize S.set 16 q X = S2 at hF2 hW2
              clear hok
              obtain ⟨q1, q2, hW3⟩ := want_set hW2 (q := q) (by rw [hF.len]; omega) X
              go_wp2_with fail
              go_roundw
              case rel => exact ⟨k + 1, V, S2, _, by omega, by go_num, rfl, hF2, hW3, (hb.trans hb2).setCell (Nat.zero_le _) _⟩
              case measure => simp [intOf]; omega
            · go_wp2_with fail
              generalize hX : IntKind.u64.wrap (wrap64 (wrap64 (4 * (k : Int)) + 1)) = X
              have hX1 : 0 ≤ X ∧ X < 18446744073709551616 ∧ X % 4 = 1 := by rw [← hX]; exact fword k
              clear hX
              obtain ⟨hok, hF2⟩ := hF.set ht8 hr8 q hqt X hX1.2.2
              refine (hW.Set 16 q X (by decide) (by decide) hX1.1 hX1.2.1).mono ?_
              rintro e w9 ⟨rfl, hW2, hb2⟩
              rw [hok]
              generalize S.set 16 q X = S2 at hF2 hW2
              clear hok
              obtain ⟨q1, q2, hW3⟩ := want_set hW2 (q := q) (by rw [hF.len]; omega) X
              go_wp2_with fail
              go_roundw
              case rel => exact ⟨k + 1, V, S2, _, by omega, by go_num, rfl, hF2, hW3, (hb.trans hb2).setCell (Nat.zero_le _) _⟩
              case measure => simp [intOf]; omega
          · have hge2 : (t : Int) ≤ q := by omega
            have hs1 : IntKind.i64.wrap ((q : Int) - t) = (q : Int) - t := IntWalk.i64_in _ (by omega)
            by_cases hk3 : k < len3
            · obtain ⟨y, rfl, hlc3, hzl3, hcell3, hwf3⟩ := w3.cell hk3
              have hc3 := hs0.old_cell hcell3
              have hyb := u64_wf hwf3
              generalize z3.getD k 0 = X at hc3 hyb
              have hX1 : 0 ≤ X ∧ X < 18446744073709551616 := hyb
              clear hcell3 hwf3 hyb
              go_wp2_with fail
              obtain ⟨hok, hF2⟩ := hF.setRaw ht8 hr8 q (by omega) hq2 X
              refine (hW.SetRaw 16 _ X (by decide) (by decide) hX1.1 hX1.2).mono ?_
              rintro e w9 ⟨rfl, hW2, hb2⟩
              rw [hok]
              generalize S.setRaw 16 ((q : Int) - t) X = S2 at hF2 hW2
              clear hok
              obtain ⟨q1, q2, hW3⟩ := want_set hW2 (q := q) (by rw [hF.len]; omega) X
              go_wp2_with fail
              go_roundw
              case rel => exact ⟨k + 1, V, S2, _, by omega, by go_num, rfl, hF2, hW3, (hb.trans hb2).setCell (Nat.zero_le _) _⟩
              case measure => simp [intOf]; omega
            · go_wp2_with fail
              generalize hX : IntKind.u64.wrap (wrap64 (wrap64 (4 * (k : Int)) + 1)) = X
              have hX1 : 0 ≤ X ∧ X < 18446744073709551616 ∧ X % 4 = 1 := by rw [← hX]; exact fword k
              clear hX
              obtain ⟨hok, hF2⟩ := hF.setRaw ht8 hr8 q (by omega) hq2 X
              refine (hW.SetRaw 16 _ X (by decide) (by decide) hX1.1 hX1.2.1).mono ?_
              rintro e w9 ⟨rfl, hW2, hb2⟩
              rw [hok]
              generalize S.setRaw 16 ((q : Int) - t) X = S2 at hF2 hW2
              clear hok
              obtain ⟨q1, q2, hW3⟩ := want_set hW2 (q := q) (by rw [hF.len]; omega) X
              go_wp2_with fail
              go_roundw
              case rel => exact ⟨k + 1, V, S2, _, by omega, by go_num, rfl, hF2, hW3, (hb.trans hb2).setCell (Nat.zero_le _) _⟩
              case measure => simp [intOf]; omega
        · clear w2 w3
          have hexit : len2 ≤ k ∨ (t + r = 0) := by omega
          have hout : (len2 : Int) ≤ k ∨ ((k : Int) < len2 ∧ (t : Int) + r ≤ 0) := by omega
          clear hcont hexit
          rcases hout with hno | ⟨hyes, hzero⟩
          all_goals
            go_wp2_with fail
            go_loopw [24] (FRel3 w V.g S bn t r want) (fun i _ => t + r - (intOf i).toNat)
            case atStart => exact ⟨0, V, Nat.zero_le _, rfl, rfl, hW, hb⟩
            case round =>
              clear hW hb
              obtain ⟨q, V', hq, rfl, hg, hW, hb⟩ := hrel
              rw [← hg]
              have HG3 := Lib.hid hg
              clear hg
              by_cases hlt : q < t + r
              · have hlt2 : (q : Int) < (t : Int) + r := by omega
                obtain ⟨q1, _, _⟩ := want_set hW (q := q) (by rw [hF.len]; omega) 0
                by_cases hqt : q < t
                · have hqt2 : (q : Int) < t := by omega
                  have hget := hF.get ht8 hr8 q hqt
                  have HGET := Lib.hid hget
                  clear hget
                  go_wp2_with fail
                  refine (hW.v.Get 16 q (by decide) (by decide)).mono ?_
                  rintro e w9 ⟨rfl, n, rfl⟩
                  rw [HGET.out]
                  go_wp2_with fail
                  rw [HG3.out]
                  go_roundw
                  case rel => exact ⟨q + 1, V', by omega, by go_num, HG3.out, hW.drewN n, hb.trans (drewN_below0 _ _)⟩
                  case measure => simp [intOf]; omega
                · have hqt2 : (t : Int) ≤ q := by omega
                  have hs1 : IntKind.i64.wrap ((q : Int) - t) = (q : Int) - t := IntWalk.i64_in _ (by omega)
                  have hget := hF.getRaw ht8 hr8 q (by omega) hlt
                  have HGET := Lib.hid hget
                  clear hget
                  go_wp2_with fail
                  refine (hW.v.Raw 16 _ (by decide) (by decide)).mono ?_
                  rintro e w9 ⟨rfl, n, rfl⟩
                  rw [HGET.out]
                  go_wp2_with fail
                  rw [HG3.out]
                  go_roundw
                  case rel => exact ⟨q + 1, V', by omega, by go_num, HG3.out, hW.drewN n, hb.trans (drewN_below0 _ _)⟩
                  case measure => simp [intOf]; omega
              · have hge2 : (t : Int) + r ≤ q := by omega
                have H4 := Lib.hid hF.before
                have H5 := Lib.hid hF.behind
                go_wp2_with fail
                refine (hW.v.Get 4 0 (by decide) (by decide)).mono ?_
                rintro e w9 ⟨rfl, n, rfl⟩
                rw [H4.out]
                go_wp2_with fail
                refine ((hW.v.drewN n).Raw _ 0 (by omega) (by omega)).mono ?_
                rintro e w9 ⟨rfl, n2, rfl⟩
                rw [H5.out.1]
                go_wp2_with fail
                refine ((hW.v.drewN (n + n2)).Kind _ (by omega) (by omega)).mono ?_
                rintro e w9 ⟨rfl, n3, rfl⟩
                rw [H5.out.2]
                go_wp2_with fail
                refine (awake_any _ ((hW.drewN (n + n2 + n3)).s)).mono ?_
                rintro e w10 ⟨rfl, h10, hb10⟩
                go_wp2_with fail
                go_ret
                have h11 : sat w10 (isHeap V' S * row 28 1 bn (t + r) (want.map u64) * whole w) := h10.perm (by ac_rfl)
                exact ⟨rfl, below_of_whole h11 ((hb.trans (drewN_below0 _ _)).trans hb10)⟩
end Go.Proofs.Ythkodbmijgehbaa
