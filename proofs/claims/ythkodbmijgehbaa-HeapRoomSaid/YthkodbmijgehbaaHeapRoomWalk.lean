/- HeapRoom's walk. -/
import Derived.Test.YthkodbmijgehbaaRowWords
namespace Go.Proofs.Ythkodbmijgehbaa
open Go.RowKit

def RoomRel (w : World) (g n : Nat) (len : Nat) (u i : Value) (wr : World) : Prop :=
  ∃ (k : Nat) (V : HV) (S : HS), k ≤ len ∧ i = .int .i64 k ∧ u = .int .i64 S.ws.length ∧ V.g = g ∧ S.size = n ∧ HeapW wr V S (whole w) ∧ Below 0 w wr

theorem room_small {S : HS} {k t r : Int} (a : 1 ≤ k) (b : k ≤ 63) (c : 0 ≤ t) (d : 0 ≤ r) (e : t ≤ 1048576) (f : r ≤ 1048576) : S.room k t r = decide (S.ws.length + 1 + t + r ≤ (S.size : Int)) := by
  unfold HS.room
  rw [decide_eq_true a, decide_eq_true b, decide_eq_true c, decide_eq_true d, decide_eq_true e, decide_eq_true f]
  simp only [Bool.true_and]
  exact decide_eq_decide.2 (by omega)

set_option maxHeartbeats 1000000 in
set_option maxRecDepth 100000 in
theorem heapRoom_walk (a0 : Int) (a1 : Option Addr) (len1 cap1 : Nat) (z1 : List Int) (w : World) (w1 : IsRow .i64 w a1 len1 cap1 z1) :
    Calls Try.prog 3 #[.int .i64 a0, .slice a1 len1 cap1] w fun e w' => e = .returned (.bool true) ∧ Below w.heap.size w w' := by
  have hp := place_bd a0 200 (by decide)
  have hlen := w1.len_le
  go_enter Try.func3, Try.ntmps3
  go_wp2_with fail
  refine (place_any a0 200 w (by decide) (by decide)).mono ?_
  rintro e w' ⟨rfl, rfl⟩
  go_wp2_with fail
  obtain ⟨n, hn⟩ : ∃ n : Nat, 2 + place a0 200 = n := ⟨(2 + place a0 200).toNat, by omega⟩
  rw [hn]
  refine (New_good n (sat_whole w) (by omega) (by omega)).mono ?_
  rintro e w2 ⟨V, rfl, h1, hb1⟩
  have hn1 : 2 ≤ n := by omega
  have hn2 : n ≤ 1000 := by omega
  clear hn hp
  obtain ⟨g, hg⟩ : ∃ g, V.g = g := ⟨_, rfl⟩
  rw [hg]
  have HG := Lib.hid hg
  clear hg
  go_wp2_with fail
  go_loopw [8, 9] (RoomRel w g n len1) (fun _ i _ => len1 - (intOf i).toNat)
  case atStart => exact ⟨0, V, HS.new n, Nat.zero_le _, rfl, rfl, HG.out, rfl, h1, hb1⟩
  case round =>
    obtain ⟨k, V', S, hk, rfl, rfl, rfl, hsz, h2, hb2⟩ := hrel
    by_cases hlt : k < len1
    · obtain ⟨x, rfl, hlc, hzl, hcell, hwf⟩ := w1.cell hlt
      have hc := h2.s.old_cell hcell
      have hl := h2.v.len
      have hus := h2.ok.used
      generalize z1.getD k 0 = z at hc
      clear hcell
      go_wp2_with fail
      refine (place_any z 9 _ (by decide) (by decide)).mono ?_
      rintro e w' ⟨rfl, rfl⟩
      have hp1 := place_bd z 9 (by decide)
      generalize place z 9 = t at hp1
      go_wp2_with fail
      refine (place_any _ 5 _ (by decide) (by decide)).mono ?_
      rintro e w' ⟨rfl, rfl⟩
      generalize hz9 : place _ 5 = r
      have hp2 : 0 ≤ r ∧ r < 5 := by rw [← hz9]; exact place_bd _ 5 (by decide)
      clear hz9
      go_wp2_with fail
      have hkd : 1 ≤ 1 + (k : Int) % 60 ∧ 1 + (k : Int) % 60 ≤ 63 := by omega
      have hrm := room_small (S := S) (t := t) (r := r) hkd.1 hkd.2 hp1.1 hp2.1 (by omega) (by omega)
      rw [hsz] at hrm
      by_cases hroom : (S.ws.length : Int) + 1 + t + r ≤ n
      · rw [decide_eq_true hroom] at hrm
        refine (h2.Alloc _ t r).mono ?_
        rintro e w3 ⟨rfl, hb3, V3, hg3, h3⟩
        rw [hrm]
        simp only [if_true]
        obtain ⟨f1, f2, f3⟩ := alloc_facts hrm h2.ok.wf.len
        have f4 := alloc_len hrm
        have hsz3 : (S.alloc (1 + (k : Int) % 60) t r).size = n := by rw [alloc_ws hrm]; exact hsz
        have hl3 := h3.v.len
        generalize S.alloc (1 + (k : Int) % 60) t r = S3 at *
        have F := Lib.hid (And.intro f1 (And.intro f2 (And.intro f3 f4)))
        clear f1 f2 f3 f4 hrm hc
        rw [show 4 * (S.ws.length : Int) = (S.ws.length : Int) * 4 from Int.mul_comm _ _] at F ⊢
        rw [← hg3]
        have HG3 := Lib.hid hg3
        clear hg3
        go_wp2_with fail
        with_reducible refine (h3.v.Tagged ((S.ws.length : Int) * 4) (by omega) (by omega)).mono ?_
        rintro e w4 ⟨rfl, n4, rfl⟩
        rw [F.out.1]
        go_wp2_with fail
        refine ((h3.v.drewN n4).Raws ((S.ws.length : Int) * 4) (by omega) (by omega)).mono ?_
        rintro e w4 ⟨rfl, n5, rfl⟩
        rw [F.out.2.1]
        go_wp2_with fail
        refine ((h3.v.drewN (n4 + n5)).Kind ((S.ws.length : Int) * 4) (by omega) (by omega)).mono ?_
        rintro e w4 ⟨rfl, n6, rfl⟩
        rw [F.out.2.2.1]
        go_wp2_with fail
        refine ((h3.v.drewN (n4 + n5 + n6)).Used).mono ?_
        rintro e w4 ⟨rfl, n7, rfl⟩
        rw [F.out.2.2.2]
        go_wp2_with fail
        refine ((h3.drewN (n4 + n5 + n6 + n7)).Words).mono ?_
        rintro e w4 ⟨v, rfl, hs4, hb4⟩
        obtain ⟨bv, cv, rfl, hn4, hl4, hs5⟩ := hs4.own_some h3.ok.wf.pos
        have hlen3 : ((S3.ws.length : Nat) : Int) = (S.ws.length : Int) + 1 + t + r := F.out.2.2.2
        go_wp2_with fail
        rw [HG3.out]
        go_roundw
        case rel => exact ⟨k + 1, V3, S3, by omega, by go_num, by rw [F.out.2.2.2], HG3.out, hsz3, ⟨hs5.right, h3.ok⟩, ((hb2.trans hb3).trans (drewN_below0 _ _)).trans hb4⟩
        case measure => simp [intOf]; omega
      · rw [decide_eq_false hroom] at hrm
        refine (h2.Alloc _ t r).mono ?_
        rintro e w3 ⟨rfl, hb3, V3, hg3, h3⟩
        have hS : S.alloc (1 + (k : Int) % 60) t r = S := by unfold HS.alloc; rw [if_neg (by rw [hrm]; simp)]
        rw [hrm]
        rw [hS] at h3
        simp only [Bool.false_eq_true, if_false]
        clear hrm hS
        rw [← hg3]
        have HG3 := Lib.hid hg3
        clear hg3 hc
        go_wp2_with fail
        refine ((h3.v).Used).mono ?_
        rintro e w4 ⟨rfl, n7, rfl⟩
        go_wp2_with fail
        refine ((h3.drewN n7).Words).mono ?_
        rintro e w4 ⟨v, rfl, hs4, hb4⟩
        obtain ⟨bv, cv, rfl, hn4, hl4, hs5⟩ := hs4.own_some h3.ok.wf.pos
        go_wp2_with fail
        rw [HG3.out]
        go_roundw
        case rel => exact ⟨k + 1, V3, S, by omega, by go_num, rfl, HG3.out, hsz, ⟨hs5.right, h3.ok⟩, ((hb2.trans hb3).trans (drewN_below0 _ _)).trans hb4⟩
        case measure => simp [intOf]; omega
    · have hge : len1 ≤ k := by omega
      go_wp2_with fail
      refine (awake_any wr h2.s.right).mono ?_
      rintro e w4 ⟨rfl, h4, hb4⟩
      go_wp2_with fail
      go_ret
      exact ⟨rfl, below_of_whole' h4 (hb2.trans hb4)⟩
end Go.Proofs.Ythkodbmijgehbaa
