/- ValueRounds' walk. -/
import Derived.Test.YtanjiecefioffaaRingList
import Derived.Test.YtanjiecefioffaaChainWalk
import Derived.Test.YtanjiecefioffaaRowsIn
import Derived.Test.YtanjiecefioffaaAwake4
namespace Go.Proofs.Ytanjiecefioffaa
open Go.RowKit

theorem three_words {R : HP} {bo e : Nat} : WordsIn (Go.Proofs.Ytanjiecefioffaa.blk bo (.cells #[.int .u64 5, .int .u64 5, .int .u64 5] e (0, 0)) * R) (some ⟨bo, 0, none⟩) [5, 5, 5] := by
  intro w hs j z hj
  match j, hj with
  | 0, hj => simp at hj; subst hj; exact ⟨_, rfl, (hs.left.cell 0).trans rfl⟩
  | 1, hj => simp at hj; subst hj; exact ⟨_, rfl, (hs.left.cell 1).trans rfl⟩
  | 2, hj => simp at hj; subst hj; exact ⟨_, rfl, (hs.left.cell 2).trans rfl⟩
set_option maxHeartbeats 4000000 in
set_option maxRecDepth 100000 in
theorem valueRounds_told (W : World) (a0 a1 : Int) (_ : (Lit.int .i64 a0).wf = true) (_ : (Lit.int .i64 a1).wf = true) :
    Calls Try.prog 11 #[.int .i64 a0, .int .i64 a1] W fun e w' => e = .returned (.bool true) ∧ Below W.heap.size W w' := by
  obtain ⟨p0, p0'⟩ := place_bd a0 20 (by decide)
  obtain ⟨p1, p1'⟩ := place_bd a1 20 (by decide)
  have hP0 := fun w => place_any a0 20 w (by decide) (by decide)
  have hP1 := fun w => place_any a1 20 w (by decide) (by decide)
  obtain ⟨m0, hm0⟩ : ∃ m : Nat, place a0 20 = m := ⟨(place a0 20).toNat, by omega⟩
  obtain ⟨m1, hm1⟩ : ∃ m : Nat, place a1 20 = m := ⟨(place a1 20).toNat, by omega⟩
  rw [hm0] at hP0 p0 p0'
  rw [hm1] at hP1 p1 p1'
  have g0 : IntKind.i64.wrap (1 + (m0 : Int)) = ((m0 + 1 : Nat) : Int) := by rw [IntWalk.i64_in _ (by omega)]; omega
  have g1 : IntKind.i64.wrap (1 + (m1 : Int)) = ((m1 + 1 : Nat) : Int) := by rw [IntWalk.i64_in _ (by omega)]; omega
  clear hm0 hm1
  have HP0 := Lib.hid (And.intro hP0 hP1)
  clear hP0 hP1
  go_enter Try.func11, Try.ntmps11
  go_wp2_with fail
  refine (StNew_good 1000 (sat_whole W) (by decide) (by decide)).mono ?_
  rintro e w2 ⟨X, V, rfl, h1, hb1⟩
  obtain ⟨S0, hS0⟩ : ∃ S, HS.new 1000 = S := ⟨_, rfl⟩
  have l0 : S0.ws.length = 1 ∧ S0.size = 1000 := by rw [← hS0]; exact ⟨rfl, rfl⟩
  rw [hS0] at h1
  have HX := Lib.hid (And.intro h1 (And.intro hb1 l0))
  clear h1 hb1 hS0 l0
  go_wp2_with fail
  refine (HP0.out.1 _).mono ?_
  rintro e w' ⟨rfl, rfl⟩
  have hR := HX.out.1.ring (m0 + 1) (by omega) (by have := HX.out.2.2; omega)
  have ec0 : ((m0 + 1 : Nat) : Int) = (m0 : Int) + 1 := by omega
  have ec1 : ((m1 + 1 : Nat) : Int) = (m1 : Int) + 1 := by omega
  rw [ec0] at hR
  obtain ⟨a, ha⟩ : ∃ a : Int, 4 * ((S0.ws.length + 3 * (m0 + 1 - 1) : Nat) : Int) = a := ⟨_, rfl⟩
  rw [ha] at hR
  have HA := Lib.hid ha
  clear ha
  go_wp2_with fail
  refine hR.mono ?_
  rintro e w3 ⟨V1, S1, rfl, hg1, h3, hr1, ho1, hl1, hz1, hb3⟩
  have hR2 := h3.ring (m1 + 1) (by omega) (by have := HX.out.2.2; omega)
  rw [ec1] at hR2
  obtain ⟨b, hb⟩ : ∃ b : Int, 4 * ((S1.ws.length + 3 * (m1 + 1 - 1) : Nat) : Int) = b := ⟨_, rfl⟩
  rw [hb] at hR2
  have HX3 := Lib.hid (And.intro h3.ok.wf (And.intro hr1 (And.intro hl1 (And.intro hz1 (And.intro (HX.out.2.1.trans hb3) hb)))))
  clear hR h3 hg1 hr1 ho1 hl1 hz1 hb3 hb
  go_wp2_with fail
  refine (HP0.out.2 _).mono ?_
  rintro e w' ⟨rfl, rfl⟩
  go_wp2_with fail
  refine hR2.mono ?_
  rintro e w4 ⟨V2, S2, rfl, hg2, h4, hr2, ho2, hl2, hz2, hb4⟩
  have hr1 := HX3.out.2.1.over ho2 HX3.out.1
  have hch := hr1.chain 20000 0
  have eP : (fun k => 4 * ((S0.ws.length + 3 * (m0 + 1 - 1 - k) : Nat) : Int)) 0 = a := HA.out
  have eQ : (fun k => 4 * ((S1.ws.length + 3 * (m1 + 1 - 1 - k) : Nat) : Int)) 0 = b := HX3.out.2.2.2.2.2
  have hne : ∀ i j, i < m0 + 1 → j < m1 + 1 → (fun k => 4 * ((S0.ws.length + 3 * (m0 + 1 - 1 - k) : Nat) : Int)) i ≠ (fun k => 4 * ((S1.ws.length + 3 * (m1 + 1 - 1 - k) : Nat) : Int)) j := by
    intro i j hi hj
    have := HX3.out.2.2.1
    simp only
    omega
  have heq : S2.equal a b = (false, false) := by
    rw [← eP, ← eQ]
    exact rings_equal hr1 hr2 hne 0 0 (by omega) (by omega)
  have hli : (S2.chain 10 [5, 5, 5]).1.equal a (4 * ((S2.ws.length + 3 * 2 : Nat) : Int)) = (false, true) := by
    rw [← eP]
    exact ring_list h4.ok.wf hr1 0 (by omega)
  have hT := h4.Take_long (fun k => (fun k => 4 * ((S0.ws.length + 3 * (m0 + 1 - 1 - k) : Nat) : Int)) ((0 + k) % (m0 + 1))) (fun _ => 1) hch (ten_none S2).1
  rw [show (fun k => (fun k => 4 * ((S0.ws.length + 3 * (m0 + 1 - 1 - k) : Nat) : Int)) ((0 + k) % (m0 + 1))) 0 = a from by simpa using eP] at hT
  have bab : 0 ≤ a ∧ a < 18446744073709551616 := by
    rw [← eP]
    exact (hr1.is 0 (by omega)).2
  have bbb : 0 ≤ b ∧ b < 18446744073709551616 := by
    rw [← eQ]
    exact (hr2.is 0 (by omega)).2
  have hsz : S2.ws.length ≤ 121 ∧ S2.size = 1000 := by have h1 := HX.out.2.2; have h2 := HX3.out.2.2.1; have h3 := HX3.out.2.2.2.1; omega
  have HX4 := Lib.hid (And.intro heq (And.intro hli (And.intro hsz (HX3.out.2.2.2.2.1.trans hb4))))
  clear hR2 h4 hg2 hr1 hr2 ho2 hl2 hz2 hb4 hch eP eQ hne heq hli hsz ec0 ec1
  go_wp2_with fail
  with_reducible refine hT.mono ?_
  rintro e w5 ⟨rfl, h5, hb5⟩
  unfold zeroD
  have h6 := (h5.push (.cells #[.int .i64 0, .int .i64 0, .bool false, .slice none 0 0, .string ⟨#[]⟩, .slice none 0 0, .slice none 0 0] 54))
  have hb6 := (HX4.out.2.2.2.trans hb5).trans (Below.zero_alloc w5 (.cells #[.int .i64 0, .int .i64 0, .bool false, .slice none 0 0, .string ⟨#[]⟩, .slice none 0 0, .slice none 0 0] 54))
  have h7 := h6.drop
  have hE := h7.Equal a b bab.1 bab.2 bbb.1 bbb.2
  rw [HX4.out.1] at hE
  have HX6 := Lib.hid hb6
  clear hT h5 hb5 h6 hb6 h7
  go_wp2_with fail
  with_reducible refine hE.mono ?_
  rintro e w8 ⟨rfl, h8, hb8⟩
  have h9 := h8.push (.cells #[.int .u64 5, .int .u64 5, .int .u64 5] 22)
  have hb9 := (HX6.out.trans hb8).trans (Below.zero_alloc w8 (.cells #[.int .u64 5, .int .u64 5, .int .u64 5] 22))
  have hL := StW.List_any _ _ _ _ _ _ (h9.chain_yes 10 (some ⟨w8.heap.size, 0, none⟩) 3 [5, 5, 5] three_words (by decide) (by decide) (by decide) (may_ten S2) (by simp [may_five]) (by have := HX4.out.2.2.1; show 3 ≤ _; omega))
  obtain ⟨l, hl⟩ : ∃ l : Int, (S2.chain 10 [5, 5, 5]).2 = l := ⟨_, rfl⟩
  have hl2 := hl
  rw [list3_snd] at hl2
  rw [hl] at hL
  have bl : 0 ≤ l ∧ l < 18446744073709551616 := by have := HX4.out.2.2.1; omega
  have hli := HX4.out.2.1
  rw [hl2] at hli
  have HX9 := Lib.hid (And.intro hb9 hli)
  clear hE h8 hb8 h9 hb9 hl hl2 hli
  go_wp2_with fail
  refine hL.mono ?_
  rintro e w10 ⟨rfl, hb10, V3, hg3, h10⟩
  have h11 := h10.drop
  have hE := h11.Equal a l bab.1 bab.2 bl.1 bl.2
  rw [HX9.out.2] at hE
  have HX10 := Lib.hid (HX9.out.1.trans hb10)
  clear hL h10 hb10 h11
  go_wp2_with fail
  with_reducible refine hE.mono ?_
  rintro e w12 ⟨rfl, h12, hb12⟩
  have hS := h12.Equal a a bab.1 bab.2 bab.1 bab.2
  rw [equal_self] at hS
  have HX12 := Lib.hid (HX10.out.trans hb12)
  clear hE h12 hb12
  go_wp2_with fail
  with_reducible refine hS.mono ?_
  rintro e w13 ⟨rfl, h13, hb13⟩
  have HX13 := Lib.hid (And.intro h13.s.right.right (HX12.out.trans hb13))
  clear hS h13 hb13
  go_wp2_with fail
  refine (awake_any _ HX13.out.1).mono ?_
  rintro e w14 ⟨rfl, h14, hb14⟩
  go_wp2_with fail
  go_ret
  exact ⟨rfl, below_of_whole' h14 (HX13.out.2.trans hb14)⟩
end Go.Proofs.Ytanjiecefioffaa
