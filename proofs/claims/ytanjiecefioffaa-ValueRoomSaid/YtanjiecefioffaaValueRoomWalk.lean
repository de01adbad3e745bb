/- ValueRoom's walk. -/
import Derived.Test.YtanjiecefioffaaChainWalk
import Derived.Test.YtanjiecefioffaaAwake4
import Derived.Test.YtanjiecefioffaaRowsIn
namespace Go.Proofs.Ytanjiecefioffaa
open Go.RowKit

theorem tmod_bd (x : Int) : -1000 < x.tmod 1000 ∧ x.tmod 1000 < 1000 := by
  by_cases h : 0 ≤ x
  · rw [Int.tmod_eq_emod_of_nonneg h]; omega
  · have h2 : x.tmod 1000 = -((-x).tmod 1000) := by rw [Int.neg_tmod]; omega
    rw [h2, Int.tmod_eq_emod_of_nonneg (by omega)]; omega
/-- The items' words. -/
def itemW (x : Int) : Int := fixW (x.tmod 1000)
theorem itemW_ok (x : Int) (n : Nat) : (0 ≤ itemW x ∧ itemW x < 18446744073709551616) ∧ (HS.new n).may (itemW x) = true := by
  have h := tmod_bd x
  unfold itemW fixW
  rw [if_pos (by omega)]
  refine ⟨by omega, ?_⟩
  unfold HS.may mayB
  rw [Bool.or_eq_true, Bool.or_eq_true]
  left; left
  simp only [decide_eq_true_eq]
  omega
theorem ten_may (S : HS) : S.may 10 = true := by
  unfold HS.may mayB
  rw [Bool.or_eq_true, Bool.or_eq_true]
  exact .inl (.inr rfl)
/-- What stands behind the maker's call. -/
def RoomEnd (W w : World) (xg g : Nat) (bw : Option Addr) (cw n : Nat) (S : HS) : Prop :=
  ∃ (X : StV) (V : HV) (Y : StS), X.g = xg ∧ V.g = g ∧ StW w X V S Y (own 22 1 (.slice bw (HS.new n).ws.length cw) (HS.new n).ws.length ((HS.new n).ws.map Go.Proofs.Ytanjiecefioffaa.u64) * whole W) ∧ Below 0 W w
theorem StW.alloc {w : World} {X : StV} {V : HV} {S : HS} {Y : StS} {R : HP} (h : StW w X V S Y R) (o : Obj) : StW (w.alloc o) X V S Y (Go.Proofs.Ytanjiecefioffaa.blk w.heap.size o * R) := ⟨(h.s.alloc o).perm (by ac_rfl), h.ok⟩
def ItemsRel (W : World) (X : StV) (V : HV) (n : Nat) (zs : List Int) (o i : Value) (wr : World) : Prop :=
  ∃ k : Nat, k ≤ zs.length ∧ i = .int .i64 k ∧ StW wr X V (HS.new n) ⟨[], [], 0⟩ (own 22 1 o k ((zs.take k).map fun x => Go.Proofs.Ytanjiecefioffaa.u64 (itemW x)) * whole W) ∧ Below 0 W wr

set_option maxHeartbeats 2000000 in
set_option maxRecDepth 100000 in
theorem valueRoom_told (W : World) (a0 : Int) (a1 : Option Addr) (len1 cap1 : Nat) (z1 : List Int) (s : ByteArray) (a3 : Int) (_ : (Lit.int .i64 a0).wf = true) (hr : IsRowB .i64 W a1 len1 cap1 z1) (hsl : s.size ≤ 140737488351232) (_ : (Lit.int .i64 a3).wf = true) :
    Calls Try.prog 4 #[.int .i64 a0, .slice a1 len1 cap1, .string s, .int .i64 a3] W fun e w' => e = .returned (.bool true) ∧ Below W.heap.size W w' := by
  have hp := place_bd a0 60 (by decide)
  have hre := hr.eq
  have hll := hr.bd
  subst hre
  have HRs := Lib.hid hr
  clear hr
  obtain ⟨i0, hi, hz0, hz1, hz2⟩ := info_parts info_u64
  have H1 := Lib.hid (And.intro hi (And.intro hz0 (And.intro hz1 hz2)))
  clear hi hz0 hz1 hz2
  go_enter Try.func4, Try.ntmps4
  go_wp2_with fail
  refine (place_any a0 60 W (by decide) (by decide)).mono ?_
  rintro e w' ⟨rfl, rfl⟩
  go_wp2_with fail
  obtain ⟨n, hn⟩ : ∃ n : Nat, 4 + place a0 60 = n := ⟨(4 + place a0 60).toNat, by omega⟩
  rw [hn]
  refine (StNew_good n (sat_whole _) (by omega) (by omega)).mono ?_
  rintro e w2 ⟨X, V, rfl, h1, hb1⟩
  have hn1 : 4 ≤ n := by omega
  have hn2 : n ≤ 64 := by omega
  clear hn hp
  go_wp2_with fail
  go_loopw [12, 13] (ItemsRel W X V n z1) (fun _ i _ => z1.length - (intOf i).toNat)
  case atStart => exact ⟨0, Nat.zero_le _, rfl, ⟨(h1.s.nil_own (e := 22) (sz := 1)).perm (by ac_rfl), h1.ok⟩, hb1⟩
  case round =>
    clear h1 hb1
    obtain ⟨k, hk, rfl, h1, hb⟩ := hrel
    by_cases hlt : k < z1.length
    · obtain ⟨x, ex⟩ : ∃ x, z1[k]? = some x := ⟨_, List.getElem?_eq_getElem hlt⟩
      obtain ⟨ad, rfl, hcx⟩ := HRs.out.get h1.s.right.right.right ex
      have hwf := i64_wf (HRs.out.each k x ex).1
      have htk : (z1.take (k + 1)).map (fun x => Go.Proofs.Ytanjiecefioffaa.u64 (itemW x)) = (z1.take k).map (fun x => Go.Proofs.Ytanjiecefioffaa.u64 (itemW x)) ++ [Go.Proofs.Ytanjiecefioffaa.u64 (itemW x)] := by
        rw [List.take_add_one, ex]; simp
      have htb := tmod_bd x
      have hFx := fun w => Fix_any w (x.tmod 1000) (by omega) (by omega)
      have HE := Lib.hid (And.intro ex htk)
      clear ex htk
      go_wp2_with fail
      refine (hFx wr).mono ?_
      rintro e w' ⟨rfl, j1, rfl⟩
      go_wp2_with (at_builtin; refine halt ?_)
      refine goon ?_
      have hfe : fixW (x.tmod 1000) = itemW x := rfl
      rw [hfe]
      have HB := Lib.hid hb
      clear hb hFx hcx hfe htb hwf
      generalize itemW x = px at *
      have hs7 : sat ((wr.drewN j1).alloc (.cells #[.int .u64 px] 22)) (own 22 1 u12 k ((z1.take k).map fun x => Go.Proofs.Ytanjiecefioffaa.u64 (itemW x)) * (Go.Proofs.Ytanjiecefioffaa.blk wr.heap.size (.cells #[.int .u64 px] 22 (0, 0)) * (isHeap V (HS.new n) * (isSt X V.g ⟨[], [], 0⟩ * whole W)))) := ((h1.drewN j1).s.alloc (.cells #[.int .u64 px] 22)).perm (by ac_rfl)
      have hnew : ((wr.drewN j1).alloc (.cells #[.int .u64 px] 22)).cell? ⟨wr.heap.size, 0, none⟩ = some (.int .u64 px) := (hs7.right.left.cell 0).trans rfl
      have hb7 : Below 0 W ((wr.drewN j1).alloc (.cells #[.int .u64 px] 22)) := (HB.out.trans (drewN_below0 _ j1)).trans (Below.zero_alloc _ _)
      have hokk := h1.ok
      generalize (wr.drewN j1).alloc (.cells #[.int .u64 px] 22) = w7 at *
      generalize wr.heap.size = bn at *
      obtain ⟨hi, hz0, hz1, hz2⟩ := H1.out
      refine wpList_append_one rfl (.tmp 48) (.tmp 50) 35 rfl 22 i0 (.int .u64 0) 8 Try.underlying35 hi hz0 hz1 hz2 rfl u12 k ((z1.take k).map fun x => Go.Proofs.Ytanjiecefioffaa.u64 (itemW x)) rfl _ bn (.int .u64 px) rfl ?_ hs7 hnew rfl (by omega) (by unfold maxLen; omega)
      clear hi hz0 hz1 hz2 hnew hs7
      intro v' w9 hs9 hb9
      have HQ := Lib.hid (And.intro hs9 (And.intro (hb7.trans hb9) hokk))
      clear hs9 hb9 hb7 h1 hokk
      go_wp2_with fail
      go_roundw
      case rel =>
        refine ⟨k + 1, by omega, by go_num, ⟨?_, HQ.out.2.2⟩, HQ.out.2.1⟩
        rw [HE.out.2]
        have h12 : sat w9 (Go.Proofs.Ytanjiecefioffaa.blk bn (.cells #[.int .u64 px] 22 (0, 0)) * (isHeap V (HS.new n) * (isSt X V.g ⟨[], [], 0⟩ * (own 22 1 v' (k + 1) ((z1.take k).map (fun x => Go.Proofs.Ytanjiecefioffaa.u64 (itemW x)) ++ [.int .u64 px]) * whole W)))) := HQ.out.1.perm (by ac_rfl)
        exact h12.right
      case measure => simp [intOf]; omega
    · obtain rfl : k = z1.length := by omega
      have hge : (z1.length : Int) ≤ z1.length := by omega
      rw [List.take_of_length_le (Nat.le_refl _)] at h1
      generalize hxs : z1.map itemW = xs at *
      have hxl : xs.length = z1.length := by rw [← hxs]; simp
      have hxm : (z1.map fun x => Go.Proofs.Ytanjiecefioffaa.u64 (itemW x)) = xs.map Go.Proofs.Ytanjiecefioffaa.u64 := by rw [← hxs, List.map_map]; rfl
      rw [hxm] at h1
      obtain ⟨lo, lc, rfl⟩ := own_val h1.s.right.right
      have hxu : ∀ x ∈ xs, (0 ≤ x ∧ x < 18446744073709551616) ∧ (HS.new n).may x = true := by
        intro x hx
        rw [← hxs] at hx
        obtain ⟨y, _, rfl⟩ := List.mem_map.1 hx
        exact itemW_ok y n
      have hin : ∀ Q : HP, WordsIn (own 22 1 (.slice lo z1.length lc) z1.length (xs.map Go.Proofs.Ytanjiecefioffaa.u64) * Q) lo xs := fun Q w hs => own_reads hxl rfl hs
      have HB := Lib.hid (And.intro hb (And.intro hxl (And.intro hxu hin)))
      clear hb hxs hxl hxm hxu hin HRs
      have c0 := h1.c0
      have hW := h1.hw.Words
      have HH := Lib.hid h1
      clear h1
      go_wp2_with fail
      refine hW.mono ?_
      rintro e w2 ⟨vv, rfl, hs2, hb2⟩
      obtain ⟨bw, cw, rfl⟩ := own_val hs2
      have h2 : StW w2 X V (HS.new n) ⟨[], [], 0⟩ (own 22 1 (.slice lo z1.length lc) z1.length (xs.map Go.Proofs.Ytanjiecefioffaa.u64) * (own 22 1 (.slice bw (HS.new n).ws.length cw) (HS.new n).ws.length ((HS.new n).ws.map Go.Proofs.Ytanjiecefioffaa.u64) * whole W)) := ⟨hs2.perm (by ac_rfl), HH.out.ok⟩
      have hb3 := HB.out.1.trans hb2
      have HK := Lib.hid (And.intro h2 hb3)
      clear hs2 hb2 h2 hb3 c0 hW
      have hp4 := place_bd a3 4 (by decide)
      go_wp2_with fail
      refine (place_any a3 4 w2 (by decide) (by decide)).mono ?_
      rintro e w' ⟨rfl, rfl⟩
      generalize place a3 4 = kd at *
      have hkd : kd = 0 ∨ kd = 1 ∨ kd = 2 ∨ kd = 3 := by omega
      clear hp4
      rcases hkd with rfl | rfl | rfl | rfl
      · by_cases hok : z1.length ≤ (n - 1) / 3
        · skip
          obtain ⟨want, hw1⟩ : ∃ want : Int, IntKind.i64.wrap (3 * (z1.length : Int)) = want := ⟨_, rfl⟩
          have hw2 : want = 3 * (z1.length : Int) := by rw [← hw1, IntWalk.i64_in _ (by omega)]
          have g2 : IntKind.i64.wrap (1 + want) = 1 + want := IntWalk.i64_in _ (by omega)
          have g3 : decide (1 + want ≤ (n : Int)) = true := by rw [decide_eq_true_eq]; omega
          have hc := StW.List_any _ _ _ _ _ _ (HK.out.1.chain_yes 10 lo lc xs (HB.out.2.2.2 _) (fun x hx => (HB.out.2.2.1 x hx).1) (by have := HB.out.2.1; omega) (by decide) (ten_may _) (List.all_eq_true.2 fun x hx => (HB.out.2.2.1 x hx).2) (by rw [HB.out.2.1]; exact hok))
          rw [HB.out.2.1] at hc
          have HC := Lib.hid hc
          have HW := Lib.hid hw2
          clear hc hok hw2
          go_wp2_with fail
          refine HC.out.mono ?_
          rintro e w5 ⟨rfl, hb5, V5, hg5, h5⟩
          have hE : RoomEnd W w5 X.g V.g bw cw n (((HS.new n).chain 10 xs).1) := ⟨X, V5, _, rfl, hg5, h5.drop, HK.out.2.trans hb5⟩
          clear hb5 hg5 h5 V5
          have hl : ((((HS.new n).chain 10 xs).1).ws.length : Int) = 1 + want := by rw [(chain_len (HS.new n) 10 xs).1, HB.out.2.1, HW.out]; rw [show (HS.new n).ws.length = 1 from rfl]; omega
          generalize ((HS.new n).chain 10 xs).1 = S5 at *
          clear HC HB HK HH HW
          obtain ⟨X5, V5, Y5, hxg, hvg, h5, hb5⟩ := hE
          have c0 := h5.c0
          rw [hxg] at c0
          have hU := h5.hw.v.Used
          have HT := Lib.hid (And.intro h5 hb5)
          have g4 : ((S5.ws.length : Int) == 1 + want) = true := by rw [beq_iff_eq]; exact hl
          clear hxg hvg h5 hb5 hl
          go_wp2_with fail
          refine hU.mono ?_
          rintro e w6 ⟨rfl, j6, rfl⟩
          go_wp2_with fail
          refine (awake_any _ (HT.out.1.drewN j6).s.right.right.right).mono ?_
          rintro e w7 ⟨rfl, h7, hb7⟩
          go_wp2_with fail
          go_ret
          exact ⟨rfl, below_of_whole' h7 ((HT.out.2.trans (drewN_below0 _ j6)).trans hb7)⟩
        · skip
          obtain ⟨want, hw1⟩ : ∃ want : Int, IntKind.i64.wrap (3 * (z1.length : Int)) = want := ⟨_, rfl⟩
          have hw2 : want = 3 * (z1.length : Int) := by rw [← hw1, IntWalk.i64_in _ (by omega)]
          have g2 : IntKind.i64.wrap (1 + want) = 1 + want := IntWalk.i64_in _ (by omega)
          have g3 : decide (1 + want ≤ (n : Int)) = false := by rw [decide_eq_false_iff_not]; omega
          have hc := StW.List_any _ _ _ _ _ _ (HK.out.1.chain_no 10 lo lc xs (HB.out.2.2.2 _) (fun x hx => (HB.out.2.2.1 x hx).1) (by have := HB.out.2.1; omega) (List.all_eq_true.2 fun x hx => (HB.out.2.2.1 x hx).2) (by rw [HB.out.2.1]; rw [show (HS.new n).size = n from rfl, show (HS.new n).ws.length = 1 from rfl]; omega))
          rw [HB.out.2.1] at hc
          have HC := Lib.hid hc
          have HW := Lib.hid hw2
          clear hc hok hw2
          go_wp2_with fail
          refine HC.out.mono ?_
          rintro e w5 ⟨rfl, hb5, V5, hg5, h5⟩
          have hE : RoomEnd W w5 X.g V.g bw cw n (HS.new n) := ⟨X, V5, _, rfl, hg5, h5.drop, HK.out.2.trans hb5⟩
          clear hb5 hg5 h5 V5
          clear HC HB HK HH HW
          obtain ⟨X5, V5, Y5, hxg, hvg, h5, hb5⟩ := hE
          have c0 := h5.c0
          rw [hxg] at c0
          have hW := h5.hw.Words
          have HT := Lib.hid (And.intro h5 hb5)
          clear hxg hvg h5 hb5
          go_wp2_with fail
          refine hW.mono ?_
          rintro e w6 ⟨v6, rfl, hs6, hb6⟩
          obtain ⟨b6, c6, rfl⟩ := own_val hs6
          have hsm := same_words w6 b6 bw c6 cw (HS.new n).ws (HS.new n).ws (own_reads rfl rfl hs6) (own_reads rfl rfl hs6.right.right.right) (by rw [show (HS.new n).ws.length = 1 from rfl]; omega) (by rw [show (HS.new n).ws.length = 1 from rfl]; omega)
          rw [decide_eq_true rfl] at hsm
          have HU := Lib.hid (And.intro hs6.right.right.right.right (HT.out.2.trans hb6))
          clear hs6 hb6 hW
          go_wp2_with fail
          refine hsm.mono ?_
          rintro e w7 ⟨rfl, j7, rfl⟩
          go_wp2_with fail
          refine (awake_any _ (HU.out.1.drewN j7)).mono ?_
          rintro e w8 ⟨rfl, h8, hb8⟩
          go_wp2_with fail
          go_ret
          exact ⟨rfl, below_of_whole' h8 ((HU.out.2.trans (drewN_below0 _ j7)).trans hb8)⟩
      · by_cases hok : 2 + z1.length ≤ n
        · skip
          obtain ⟨want, hw1⟩ : ∃ want : Int, IntKind.i64.wrap (1 + (z1.length : Int)) = want := ⟨_, rfl⟩
          have hw2 : want = 1 + (z1.length : Int) := by rw [← hw1, IntWalk.i64_in _ (by omega)]
          have g2 : IntKind.i64.wrap (1 + want) = 1 + want := IntWalk.i64_in _ (by omega)
          have g3 : decide (1 + want ≤ (n : Int)) = true := by rw [decide_eq_true_eq]; omega
          have hc := StW.Vector_any _ _ _ _ _ _ (HK.out.1.lay_yes 2 lo lc xs (HB.out.2.2.2 _) (fun x hx => (HB.out.2.2.1 x hx).1) (List.all_eq_true.2 fun x hx => (HB.out.2.2.1 x hx).2) (by unfold HS.room; rw [HB.out.2.1, show (HS.new n).size = n from rfl, show (HS.new n).ws.length = 1 from rfl]; simp only [Bool.and_eq_true, decide_eq_true_eq]; omega))
          rw [HB.out.2.1] at hc
          have HC := Lib.hid hc
          have HW := Lib.hid hw2
          clear hc hok hw2
          go_wp2_with fail
          refine HC.out.mono ?_
          rintro e w5 ⟨rfl, hb5, V5, hg5, h5⟩
          have hE : RoomEnd W w5 X.g V.g bw cw n ((HS.new n).part 2 z1.length 0 2 xs z1.length) := ⟨X, V5, _, rfl, hg5, h5.drop, HK.out.2.trans hb5⟩
          clear hb5 hg5 h5 V5
          have hl : (((HS.new n).part 2 z1.length 0 2 xs z1.length).ws.length : Int) = 1 + want := by unfold HS.part; simp; rw [HB.out.2.1, show (HS.new n).ws.length = 1 from rfl, HW.out]; omega
          generalize (HS.new n).part 2 z1.length 0 2 xs z1.length = S5 at *
          clear HC HB HK HH HW
          obtain ⟨X5, V5, Y5, hxg, hvg, h5, hb5⟩ := hE
          have c0 := h5.c0
          rw [hxg] at c0
          have hU := h5.hw.v.Used
          have HT := Lib.hid (And.intro h5 hb5)
          have g4 : ((S5.ws.length : Int) == 1 + want) = true := by rw [beq_iff_eq]; exact hl
          clear hxg hvg h5 hb5 hl
          go_wp2_with fail
          refine hU.mono ?_
          rintro e w6 ⟨rfl, j6, rfl⟩
          go_wp2_with fail
          refine (awake_any _ (HT.out.1.drewN j6).s.right.right.right).mono ?_
          rintro e w7 ⟨rfl, h7, hb7⟩
          go_wp2_with fail
          go_ret
          exact ⟨rfl, below_of_whole' h7 ((HT.out.2.trans (drewN_below0 _ j6)).trans hb7)⟩
        · skip
          obtain ⟨want, hw1⟩ : ∃ want : Int, IntKind.i64.wrap (1 + (z1.length : Int)) = want := ⟨_, rfl⟩
          have hw2 : want = 1 + (z1.length : Int) := by rw [← hw1, IntWalk.i64_in _ (by omega)]
          have g2 : IntKind.i64.wrap (1 + want) = 1 + want := IntWalk.i64_in _ (by omega)
          have g3 : decide (1 + want ≤ (n : Int)) = false := by rw [decide_eq_false_iff_not]; omega
          have hc := StW.Vector_any _ _ _ _ _ _ (HK.out.1.lay_full 2 lo lc xs (HB.out.2.2.2 _) (fun x hx => (HB.out.2.2.1 x hx).1) (by have := HB.out.2.1; omega) (List.all_eq_true.2 fun x hx => (HB.out.2.2.1 x hx).2) (by unfold HS.room; rw [HB.out.2.1, show (HS.new n).size = n from rfl, show (HS.new n).ws.length = 1 from rfl]; simp only [Bool.and_eq_false_iff, decide_eq_false_iff_not]; omega))
          rw [HB.out.2.1] at hc
          have HC := Lib.hid hc
          have HW := Lib.hid hw2
          clear hc hok hw2
          go_wp2_with fail
          refine HC.out.mono ?_
          rintro e w5 ⟨rfl, hb5, V5, hg5, h5⟩
          have hE : RoomEnd W w5 X.g V.g bw cw n (HS.new n) := ⟨X, V5, _, rfl, hg5, h5.drop, HK.out.2.trans hb5⟩
          clear hb5 hg5 h5 V5
          clear HC HB HK HH HW
          obtain ⟨X5, V5, Y5, hxg, hvg, h5, hb5⟩ := hE
          have c0 := h5.c0
          rw [hxg] at c0
          have hW := h5.hw.Words
          have HT := Lib.hid (And.intro h5 hb5)
          clear hxg hvg h5 hb5
          go_wp2_with fail
          refine hW.mono ?_
          rintro e w6 ⟨v6, rfl, hs6, hb6⟩
          obtain ⟨b6, c6, rfl⟩ := own_val hs6
          have hsm := same_words w6 b6 bw c6 cw (HS.new n).ws (HS.new n).ws (own_reads rfl rfl hs6) (own_reads rfl rfl hs6.right.right.right) (by rw [show (HS.new n).ws.length = 1 from rfl]; omega) (by rw [show (HS.new n).ws.length = 1 from rfl]; omega)
          rw [decide_eq_true rfl] at hsm
          have HU := Lib.hid (And.intro hs6.right.right.right.right (HT.out.2.trans hb6))
          clear hs6 hb6 hW
          go_wp2_with fail
          refine hsm.mono ?_
          rintro e w7 ⟨rfl, j7, rfl⟩
          go_wp2_with fail
          refine (awake_any _ (HU.out.1.drewN j7)).mono ?_
          rintro e w8 ⟨rfl, h8, hb8⟩
          go_wp2_with fail
          go_ret
          exact ⟨rfl, below_of_whole' h8 ((HU.out.2.trans (drewN_below0 _ j7)).trans hb8)⟩
      · skip
        have hcv := fun w s => run_bytes_of_string (P := Try.prog) w 9 44 5 s Try.underlying9 Try.underlying44 Try.underlying5
        obtain ⟨q, hq⟩ : ∃ q : Nat, (s.size + 7) / 8 = q := ⟨_, rfl⟩
        have hlw := wordsOf_len (bytesOf s)
        rw [bytesOf_len, hq] at hlw
        have q1 : ((s.size : Int) + 7) / 8 = q := by omega
        have h4 := (HK.out.1.drewN 1).alloc (.cells (bytesRow s (grownCap w2 s.size 0 5)) 5 ((bytesRow s (grownCap w2 s.size 0 5)).size, (bytesRow s (grownCap w2 s.size 0 5)).size + 1))
        have hbb := HK.out.2.trans ((drewN_below0 w2 1).trans (Below.zero_alloc _ (.cells (bytesRow s (grownCap w2 s.size 0 5)) 5 ((bytesRow s (grownCap w2 s.size 0 5)).size, (bytesRow s (grownCap w2 s.size 0 5)).size + 1))))
        have H4 := Lib.hid (And.intro h4 hbb)
        clear h4 hbb
        by_cases hok : 3 + q ≤ n
        · skip
          have hw2 : (2 : Int) + q + 1 = 3 + q := by omega
          obtain ⟨want, hw1⟩ : ∃ want : Int, IntKind.i64.wrap (2 + (q : Int)) = want := ⟨_, rfl⟩
          have hw2 : want = 2 + (q : Int) := by rw [← hw1, IntWalk.i64_in _ (by omega)]
          have g2 : IntKind.i64.wrap (1 + want) = 1 + want := IntWalk.i64_in _ (by omega)
          have g3 : decide (1 + want ≤ (n : Int)) = true := by rw [decide_eq_true_eq]; omega
          have hto : textOk (HS.new n) (bytesOf s) = true := by
            unfold textOk HS.room
            rw [hlw, bytesOf_len, show (HS.new n).size = n from rfl, show (HS.new n).ws.length = 1 from rfl]
            simp only [Bool.and_eq_true, decide_eq_true_eq]
            omega
          have hc := H4.out.1.Text_yes (some ⟨w2.heap.size, 0, none⟩) (grownCap w2 s.size 0 5) (bytesOf s) (bytesRow_in s _ _ _ _) (bytesOf_u s) (by rw [bytesOf_len]; omega) hto
          rw [bytesOf_len] at hc
          have HC := Lib.hid hc
          have HW := Lib.hid (And.intro hw2 hlw)
          clear hc hok hw2 hto hlw hq
          go_wp2_with fail
          refine HC.out.mono ?_
          rintro e w5 ⟨rfl, hb5, V5, hg5, h5⟩
          have hE : RoomEnd W w5 X.g V.g bw cw n ((HS.new n).text (bytesOf s)) := ⟨X, V5, _, rfl, hg5, h5.drop.drop, H4.out.2.trans hb5⟩
          clear hb5 hg5 h5 V5
          have hl : (((HS.new n).text (bytesOf s)).ws.length : Int) = 1 + want := by rw [(text_len (HS.new n) (bytesOf s)).1, HW.out.2, HW.out.1, show (HS.new n).ws.length = 1 from rfl]; omega
          generalize (HS.new n).text (bytesOf s) = S5 at *
          clear HC HB HK HH HW H4
          obtain ⟨X5, V5, Y5, hxg, hvg, h5, hb5⟩ := hE
          have c0 := h5.c0
          rw [hxg] at c0
          have hU := h5.hw.v.Used
          have HT := Lib.hid (And.intro h5 hb5)
          have g4 : ((S5.ws.length : Int) == 1 + want) = true := by rw [beq_iff_eq]; exact hl
          clear hxg hvg h5 hb5 hl
          go_wp2_with fail
          refine hU.mono ?_
          rintro e w6 ⟨rfl, j6, rfl⟩
          go_wp2_with fail
          refine (awake_any _ (HT.out.1.drewN j6).s.right.right.right).mono ?_
          rintro e w7 ⟨rfl, h7, hb7⟩
          go_wp2_with fail
          go_ret
          exact ⟨rfl, below_of_whole' h7 ((HT.out.2.trans (drewN_below0 _ j6)).trans hb7)⟩
        · skip
          have hw2 : (2 : Int) + q + 1 = 3 + q := by omega
          obtain ⟨want, hw1⟩ : ∃ want : Int, IntKind.i64.wrap (2 + (q : Int)) = want := ⟨_, rfl⟩
          have hw2 : want = 2 + (q : Int) := by rw [← hw1, IntWalk.i64_in _ (by omega)]
          have g2 : IntKind.i64.wrap (1 + want) = 1 + want := IntWalk.i64_in _ (by omega)
          have g3 : decide (1 + want ≤ (n : Int)) = false := by rw [decide_eq_false_iff_not]; omega
          have hto : textOk (HS.new n) (bytesOf s) = false := by
            unfold textOk HS.room
            rw [hlw, bytesOf_len, show (HS.new n).size = n from rfl, show (HS.new n).ws.length = 1 from rfl]
            simp only [Bool.and_eq_false_iff, decide_eq_false_iff_not]
            omega
          have hc := H4.out.1.Text_no (some ⟨w2.heap.size, 0, none⟩) (grownCap w2 s.size 0 5) (bytesOf s) (bytesRow_in s _ _ _ _) (bytesOf_u s) (by rw [bytesOf_len]; omega) hto
          rw [bytesOf_len] at hc
          have HC := Lib.hid hc
          have HW := Lib.hid (And.intro hw2 hlw)
          clear hc hok hw2 hto hlw hq
          go_wp2_with fail
          refine HC.out.mono ?_
          rintro e w5 ⟨rfl, hb5, V5, hg5, h5⟩
          have hE : RoomEnd W w5 X.g V.g bw cw n (HS.new n) := ⟨X, V5, _, rfl, hg5, h5.drop.drop, H4.out.2.trans hb5⟩
          clear hb5 hg5 h5 V5
          clear HC HB HK HH HW H4
          obtain ⟨X5, V5, Y5, hxg, hvg, h5, hb5⟩ := hE
          have c0 := h5.c0
          rw [hxg] at c0
          have hW := h5.hw.Words
          have HT := Lib.hid (And.intro h5 hb5)
          clear hxg hvg h5 hb5
          go_wp2_with fail
          refine hW.mono ?_
          rintro e w6 ⟨v6, rfl, hs6, hb6⟩
          obtain ⟨b6, c6, rfl⟩ := own_val hs6
          have hsm := same_words w6 b6 bw c6 cw (HS.new n).ws (HS.new n).ws (own_reads rfl rfl hs6) (own_reads rfl rfl hs6.right.right.right) (by rw [show (HS.new n).ws.length = 1 from rfl]; omega) (by rw [show (HS.new n).ws.length = 1 from rfl]; omega)
          rw [decide_eq_true rfl] at hsm
          have HU := Lib.hid (And.intro hs6.right.right.right.right (HT.out.2.trans hb6))
          clear hs6 hb6 hW
          go_wp2_with fail
          refine hsm.mono ?_
          rintro e w7 ⟨rfl, j7, rfl⟩
          go_wp2_with fail
          refine (awake_any _ (HU.out.1.drewN j7)).mono ?_
          rintro e w8 ⟨rfl, h8, hb8⟩
          go_wp2_with fail
          go_ret
          exact ⟨rfl, below_of_whole' h8 ((HU.out.2.trans (drewN_below0 _ j7)).trans hb8)⟩
      · skip
        have hcv := fun w s => run_bytes_of_string (P := Try.prog) w 9 44 5 s Try.underlying9 Try.underlying44 Try.underlying5
        obtain ⟨q, hq⟩ : ∃ q : Nat, (s.size + 7) / 8 = q := ⟨_, rfl⟩
        have hlw := wordsOf_len (bytesOf s)
        rw [bytesOf_len, hq] at hlw
        have q1 : ((s.size : Int) + 7) / 8 = q := by omega
        by_cases hok : 5 + q ≤ n
        · skip
          obtain ⟨want0, hw0⟩ : ∃ want : Int, IntKind.i64.wrap (2 + (q : Int)) = want := ⟨_, rfl⟩
          obtain ⟨want, hw1⟩ : ∃ want : Int, IntKind.i64.wrap (want0 + 2) = want := ⟨_, rfl⟩
          have hw3 : want0 = 2 + (q : Int) := by rw [← hw0, IntWalk.i64_in _ (by omega)]
          have hw2 : want = 4 + (q : Int) := by rw [← hw1, IntWalk.i64_in _ (by omega)]; omega
          have g2 : IntKind.i64.wrap (1 + want) = 1 + want := IntWalk.i64_in _ (by omega)
          have g3 : decide (1 + want ≤ (n : Int)) = true := by rw [decide_eq_true_eq]; omega
          have hto : symOk (HS.new n) (bytesOf s) = true := by
            unfold symOk
            rw [hlw, bytesOf_len, show (HS.new n).size = n from rfl, show (HS.new n).ws.length = 1 from rfl]
            simp only [Bool.and_eq_true, decide_eq_true_eq]
            omega
          have hc := HK.out.1.Intern_new rfl s rfl (by omega) hto (by decide)
          have HC := Lib.hid hc
          have HW := Lib.hid (And.intro hw2 hlw)
          clear hc hok hw2 hw3 hto hlw hq
          go_wp2_with fail
          refine HC.out.mono ?_
          rintro e w5 ⟨rfl, hb5, X5, V5, hx5, hm5, hg5, h5⟩
          have hE : RoomEnd W w5 X.g V.g bw cw n ((HS.new n).sym (bytesOf s)) := ⟨X5, V5, _, hx5, hg5, h5.drop, HK.out.2.trans hb5⟩
          clear hb5 hx5 hm5 hg5 h5 V5 X5
          have hl : (((HS.new n).sym (bytesOf s)).ws.length : Int) = 1 + want := by
            have ht := (text_len (HS.new n) (bytesOf s)).1
            rw [HW.out.2, show (HS.new n).ws.length = 1 from rfl] at ht
            unfold HS.sym HS.part
            rw [HW.out.1]
            simp [ht]
            omega
          generalize (HS.new n).sym (bytesOf s) = S5 at *
          generalize (HS.new n).text (bytesOf s) = S6 at *
          clear HC HB HK HH HW
          obtain ⟨X5, V5, Y5, hxg, hvg, h5, hb5⟩ := hE
          have c0 := h5.c0
          rw [hxg] at c0
          have hU := h5.hw.v.Used
          have HT := Lib.hid (And.intro h5 hb5)
          have g4 : ((S5.ws.length : Int) == 1 + want) = true := by rw [beq_iff_eq]; exact hl
          clear hxg hvg h5 hb5 hl
          go_wp2_with fail
          refine hU.mono ?_
          rintro e w6 ⟨rfl, j6, rfl⟩
          go_wp2_with fail
          refine (awake_any _ (HT.out.1.drewN j6).s.right.right.right).mono ?_
          rintro e w7 ⟨rfl, h7, hb7⟩
          go_wp2_with fail
          go_ret
          exact ⟨rfl, below_of_whole' h7 ((HT.out.2.trans (drewN_below0 _ j6)).trans hb7)⟩
        · by_cases hsz : n < s.size / 8
          · skip
            obtain ⟨want0, hw0⟩ : ∃ want : Int, IntKind.i64.wrap (2 + (q : Int)) = want := ⟨_, rfl⟩
            obtain ⟨want, hw1⟩ : ∃ want : Int, IntKind.i64.wrap (want0 + 2) = want := ⟨_, rfl⟩
            have hw3 : want0 = 2 + (q : Int) := by rw [← hw0, IntWalk.i64_in _ (by omega)]
            have hw2 : want = 4 + (q : Int) := by rw [← hw1, IntWalk.i64_in _ (by omega)]; omega
            have g2 : IntKind.i64.wrap (1 + want) = 1 + want := IntWalk.i64_in _ (by omega)
            have g3 : decide (1 + want ≤ (n : Int)) = false := by rw [decide_eq_false_iff_not]; omega
            have hc := HK.out.1.Intern_big rfl s rfl (by omega) (by rw [show (HS.new n).size = n from rfl]; omega)
            have HC := Lib.hid hc
            have HW := Lib.hid (And.intro hw2 hlw)
            clear hc hok hw2 hw3 hlw hq hsz
            go_wp2_with fail
            refine HC.out.mono ?_
            rintro e w5 ⟨rfl, j5, rfl⟩
            have hE : RoomEnd W (w2.drewN j5) X.g V.g bw cw n (HS.new n) := ⟨X, V, _, rfl, rfl, (HK.out.1.drewN j5).drop, HK.out.2.trans (drewN_below0 w2 j5)⟩
            generalize w2.drewN j5 = w5 at *
            clear HC HB HK HH HW
            obtain ⟨X5, V5, Y5, hxg, hvg, h5, hb5⟩ := hE
            have c0 := h5.c0
            rw [hxg] at c0
            have hW := h5.hw.Words
            have HT := Lib.hid (And.intro h5 hb5)
            clear hxg hvg h5 hb5
            go_wp2_with fail
            refine hW.mono ?_
            rintro e w6 ⟨v6, rfl, hs6, hb6⟩
            obtain ⟨b6, c6, rfl⟩ := own_val hs6
            have hsm := same_words w6 b6 bw c6 cw (HS.new n).ws (HS.new n).ws (own_reads rfl rfl hs6) (own_reads rfl rfl hs6.right.right.right) (by rw [show (HS.new n).ws.length = 1 from rfl]; omega) (by rw [show (HS.new n).ws.length = 1 from rfl]; omega)
            rw [decide_eq_true rfl] at hsm
            have HU := Lib.hid (And.intro hs6.right.right.right.right (HT.out.2.trans hb6))
            clear hs6 hb6 hW
            go_wp2_with fail
            refine hsm.mono ?_
            rintro e w7 ⟨rfl, j7, rfl⟩
            go_wp2_with fail
            refine (awake_any _ (HU.out.1.drewN j7)).mono ?_
            rintro e w8 ⟨rfl, h8, hb8⟩
            go_wp2_with fail
            go_ret
            exact ⟨rfl, below_of_whole' h8 ((HU.out.2.trans (drewN_below0 _ j7)).trans hb8)⟩
          · skip
            obtain ⟨want0, hw0⟩ : ∃ want : Int, IntKind.i64.wrap (2 + (q : Int)) = want := ⟨_, rfl⟩
            obtain ⟨want, hw1⟩ : ∃ want : Int, IntKind.i64.wrap (want0 + 2) = want := ⟨_, rfl⟩
            have hw3 : want0 = 2 + (q : Int) := by rw [← hw0, IntWalk.i64_in _ (by omega)]
            have hw2 : want = 4 + (q : Int) := by rw [← hw1, IntWalk.i64_in _ (by omega)]; omega
            have g2 : IntKind.i64.wrap (1 + want) = 1 + want := IntWalk.i64_in _ (by omega)
            have g3 : decide (1 + want ≤ (n : Int)) = false := by rw [decide_eq_false_iff_not]; omega
            have hto : symOk (HS.new n) (bytesOf s) = false := by
              unfold symOk
              rw [hlw, bytesOf_len, show (HS.new n).size = n from rfl, show (HS.new n).ws.length = 1 from rfl]
              simp only [Bool.and_eq_false_iff, decide_eq_false_iff_not]
              omega
            have hc := HK.out.1.Intern_full rfl s rfl (by omega) (by rw [show (HS.new n).size = n from rfl]; omega) hto
            have HC := Lib.hid hc
            have HW := Lib.hid (And.intro hw2 hlw)
            clear hc hok hw2 hw3 hto hlw hq hsz
            go_wp2_with fail
            refine HC.out.mono ?_
            rintro e w5 ⟨rfl, hb5, V5, hg5, h5⟩
            have hE : RoomEnd W w5 X.g V.g bw cw n (HS.new n) := ⟨X, V5, _, rfl, hg5, h5.drop, HK.out.2.trans hb5⟩
            clear hb5 hg5 h5 V5
            clear HC HB HK HH HW
            obtain ⟨X5, V5, Y5, hxg, hvg, h5, hb5⟩ := hE
            have c0 := h5.c0
            rw [hxg] at c0
            have hW := h5.hw.Words
            have HT := Lib.hid (And.intro h5 hb5)
            clear hxg hvg h5 hb5
            go_wp2_with fail
            refine hW.mono ?_
            rintro e w6 ⟨v6, rfl, hs6, hb6⟩
            obtain ⟨b6, c6, rfl⟩ := own_val hs6
            have hsm := same_words w6 b6 bw c6 cw (HS.new n).ws (HS.new n).ws (own_reads rfl rfl hs6) (own_reads rfl rfl hs6.right.right.right) (by rw [show (HS.new n).ws.length = 1 from rfl]; omega) (by rw [show (HS.new n).ws.length = 1 from rfl]; omega)
            rw [decide_eq_true rfl] at hsm
            have HU := Lib.hid (And.intro hs6.right.right.right.right (HT.out.2.trans hb6))
            clear hs6 hb6 hW
            go_wp2_with fail
            refine hsm.mono ?_
            rintro e w7 ⟨rfl, j7, rfl⟩
            go_wp2_with fail
            refine (awake_any _ (HU.out.1.drewN j7)).mono ?_
            rintro e w8 ⟨rfl, h8, hb8⟩
            go_wp2_with fail
            go_ret
            exact ⟨rfl, below_of_whole' h8 ((HU.out.2.trans (drewN_below0 _ j7)).trans hb8)⟩
end Go.Proofs.Ytanjiecefioffaa
