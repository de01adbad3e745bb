/- tandemlaw04.ring; Take of a chain that does not end. -/
import Derived.Test.YtanjiecefioffaaTakeRing
namespace Go.Proofs.Ytanjiecefioffaa
open Go.RowKit

/-- All that was there is there yet. -/
structure Over (S S' : HS) : Prop where
  is : ∀ x, S.is x = true → S'.is x = true
  word : ∀ k, k < S.ws.length → S'.ws.getD k 0 = S.ws.getD k 0
theorem RingIn.over {S S' : HS} {P : Nat → Int} {n : Nat} (h : RingIn S P n) (e : Over S S') (hw : WfH S.ws S.bs) : RingIn S' P n := by
  have hlt : ∀ k, k < n → (P k / 4).toNat + 3 ≤ S.ws.length := by
    intro k hk
    have h1 := is_lt hw (h.is k hk).1
    obtain ⟨g1, g2, _⟩ := pair_head
    unfold HS.tag HS.raw at h1
    rw [h.head k hk, g1, g2] at h1
    omega
  refine ⟨h.pos, fun k hk => ⟨e.is _ (h.is k hk).1, (h.is k hk).2⟩, fun k hk => ?_, fun k hk => ?_, fun k hk => ?_⟩
  · rw [is_head (e.is _ (h.is k hk).1), e.word _ (by have := hlt k hk; omega), ← is_head (h.is k hk).1]; exact h.head k hk
  · rw [e.word _ (by have := hlt k hk; omega)]; exact h.car k hk
  · rw [e.word _ (by have := hlt k hk; omega)]; exact h.cdr k hk
theorem Links.over {S T : HS} {n : Nat} (h : Links S T n) (x : Int) : Over S (T.set (4 * (S.ws.length : Int)) 1 x) := by
  unfold HS.set
  split
  · refine ⟨fun y hy => h.ext.is hy, fun k hk => ?_⟩
    simp only
    rw [show fieldAt (4 * (S.ws.length : Int)) 0 1 = S.ws.length + 2 by unfold fieldAt; omega, getD_set, if_neg (by omega)]
    exact h.ext.at hk
  · exact ⟨fun y hy => h.ext.is hy, fun k hk => h.ext.at hk⟩
theorem may_five (S : HS) : S.may 5 = true := by unfold HS.may mayB; simp
theorem may_ten (S : HS) : S.may 10 = true := by unfold HS.may mayB; simp
theorem may_is {S : HS} {x : Int} (h : S.is x = true) : S.may x = true := by
  have h4 := (is_iff.1 h).1
  unfold HS.may mayB
  unfold HS.is at h
  rw [h]
  simp
theorem set_len (S : HS) (p i x : Int) : (S.set p i x).ws.length = S.ws.length ∧ (S.set p i x).size = S.size := by
  unfold HS.set
  split <;> simp
def RingRel (W : World) (X : StV) (V : HV) (S : HS) (Y : StS) (R : HP) (n : Nat) (l i : Value) (wr : World) : Prop :=
  ∃ (k : Nat) (V1 : HV) (T : HS), 1 ≤ k ∧ k ≤ n ∧ i = .int .i64 k ∧ l = .int .u64 (4 * ((S.ws.length + 3 * (k - 1) : Nat) : Int)) ∧ V1.g = V.g ∧ StW wr X V1 T Y R ∧ Links S T k ∧ Below 0 W wr
section
variable {w : World} {X : StV} {V : HV} {S : HS} {Y : StS} {R : HP}
set_option maxRecDepth 100000 in
set_option maxHeartbeats 2000000 in
theorem StW.ring (h : StW w X V S Y R) (n : Nat) (hn : 1 ≤ n ∧ n ≤ 20) (hroom : S.ws.length + 3 * n ≤ S.size) :
    Calls Try.prog 48 #[.pointer (some ⟨X.g, 0, none⟩), .int .i64 n] w fun e w' => ∃ (V' : HV) (S' : HS), e = .returned (.int .u64 (4 * ((S.ws.length + 3 * (n - 1) : Nat) : Int))) ∧ V'.g = V.g ∧
      StW w' X V' S' Y R ∧ RingIn S' (fun k => 4 * ((S.ws.length + 3 * (n - 1 - k) : Nat) : Int)) n ∧ Over S S' ∧ S'.ws.length = S.ws.length + 3 * n ∧ S'.size = S.size ∧ Below 0 w w' := by
  have hl := h.hw.v.len
  have hr : ∀ T : HS, T.size = S.size → T.ws.length + 3 ≤ S.size → T.room 1 2 0 = true := by
    intro T h1 h2
    unfold HS.room
    rw [h1]
    simp only [Bool.and_eq_true, decide_eq_true_eq]
    omega
  have hC := h.Cons_yes 5 10 (by decide) (by decide) ⟨may_five S, may_ten S⟩ (hr S rfl (by omega))
  have HX := Lib.hid (And.intro h (And.intro hr hl))
  have hw0 := h.ok.wf
  have HW := Lib.hid hw0
  obtain ⟨p0, hp0⟩ : ∃ p0 : Int, 4 * (S.ws.length : Int) = p0 := ⟨_, rfl⟩
  rw [hp0] at hC
  have HP := Lib.hid hp0
  clear h hr hw0 hp0
  go_enter Try.func48, Try.ntmps48
  go_wp2_with fail
  refine hC.mono ?_
  rintro e w2 ⟨rfl, hb2, V2, hg2, h2⟩
  have HX2 := Lib.hid (And.intro h2 (And.intro hb2 hg2))
  clear hC h2 hb2 hg2
  go_wp2_with fail
  go_loopw [7, 8] (RingRel w X V S Y R n) (fun _ i _ => n - (intOf i).toNat)
  case atStart =>
    refine ⟨1, V2, S.cons 5 10, Nat.le_refl _, hn.1, rfl, ?_, HX2.out.2.2, HX2.out.1, (Links.start S).step HW.out 10 (fun h => by omega), HX2.out.2.1⟩
    rw [← HP.out]; rfl
  case round =>
    clear HX2
    obtain ⟨k, V1, T, hk1, hkn, rfl, rfl, hg, hs, hL, hb⟩ := hrel
    obtain ⟨x, hx⟩ : ∃ x : Int, 4 * ((S.ws.length + 3 * (k - 1) : Nat) : Int) = x := ⟨_, rfl⟩
    have hix := hL.is (k - 1) (by omega)
    have hTl := hL.len
    have bx : 0 ≤ x ∧ x < 18446744073709551616 := by have := HX.out.2.2; omega
    rw [hx] at hix ⊢
    by_cases hlt : k < n
    · have hC := hs.Cons_yes 5 x (by decide) bx ⟨may_five T, may_is hix⟩ (HX.out.2.1 T hL.size (by omega))
      have hL2 := hL.step hs.ok.wf x (fun _ => hx.symm)
      have hxx : 4 * (T.ws.length : Int) = 4 * ((S.ws.length + 3 * (k + 1 - 1) : Nat) : Int) := by rw [hTl]; rfl
      rw [hxx] at hC
      have HF := Lib.hid (And.intro hL2 (And.intro hb hg))
      obtain ⟨y, hy⟩ : ∃ y : Int, 4 * ((S.ws.length + 3 * (k + 1 - 1) : Nat) : Int) = y := ⟨_, rfl⟩
      rw [hy] at hC
      have HY := Lib.hid hy
      clear hs hL hL2 hb hg hx hTl hxx hix hy
      go_wp2_with fail
      refine hC.mono ?_
      rintro e w3 ⟨rfl, hb3, V3, hg3, h3⟩
      have HQ := Lib.hid (And.intro h3 (And.intro (HF.out.2.1.trans hb3) (hg3.trans HF.out.2.2)))
      clear hC h3 hb3 hg3
      go_wp2_with fail
      go_roundw
      case rel => exact ⟨k + 1, V3, T.cons 5 x, by omega, by omega, by go_num, by rw [HY.out], HQ.out.2.2, HQ.out.1, HF.out.1, HQ.out.2.1⟩
      case measure => simp [intOf]; omega
    · obtain rfl : k = n := by omega
      have hge : (k : Int) ≤ k := by omega
      have c0 := hs.c0
      have bp : 0 ≤ p0 ∧ p0 < 18446744073709551616 := by have h1 := HP.out; have := HX.out.2.2; omega
      have hS := hs.hw.Set p0 1 x bp.1 bp.2 bx.1 bx.2
      have hR := hL.ring (by omega) hs.hw.v.len (by rw [hx]; exact may_is hix)
      have hO := hL.over x
      rw [hx, HP.out] at hR
      rw [HP.out] at hO
      have hsl := set_len T p0 1 x
      rw [hTl, hL.size] at hsl
      have HF := Lib.hid (And.intro hR (And.intro hO (And.intro hsl (And.intro hb hg))))
      have HXX := Lib.hid hx
      clear hs hL hR hO hsl hb hg hTl hix hx
      go_wp2_with fail
      refine hS.mono ?_
      rintro e w3 ⟨rfl, h3, hb3⟩
      have HQ := Lib.hid (And.intro h3 (HF.out.2.2.2.1.trans hb3))
      clear hS h3 hb3
      go_wp2_with fail
      go_ret
      exact ⟨V1, _, by rw [HXX.out]; rfl, HF.out.2.2.2.2, ⟨HQ.out.1.s, HQ.out.1.ok⟩, HF.out.1, HF.out.2.1, HF.out.2.2.1.1, HF.out.2.2.1.2, HQ.out.2⟩
set_option maxRecDepth 100000 in
set_option maxHeartbeats 2000000 in
/-- What goes on for more than 19999 numbers is not told. -/
theorem StW.Take_long (h : StW w X V S Y R) (p cs : Nat → Int) (hc : Chain S p cs 20000) (h10 : S.shape 10 1 2 0 = false) :
    Calls Try.prog 28 #[.pointer (some ⟨X.g, 0, none⟩), .int .u64 (p 0), .int .i64 20000] w (StKeeps X V S Y R (.tuple #[zeroD, .bool false]) w) := by
  have HH := Lib.hid h
  clear h
  go_enter Try.func28, Try.ntmps28
  go_wp2_with fail
  have hp0 := (HH.out.push (.cells #[.int .i64 0, .int .i64 0, .bool false, .slice none 0 0, .string ⟨#[]⟩, .slice none 0 0, .slice none 0 0] 54)).push (.cells #[.int .i64 20000] 3)
  rw [World.size_alloc] at hp0
  have hbp : Below 0 w ((w.alloc (.cells #[.int .i64 0, .int .i64 0, .bool false, .slice none 0 0, .string ⟨#[]⟩, .slice none 0 0, .slice none 0 0] 54)).alloc (.cells #[.int .i64 20000] 3)) := (Below.zero_alloc _ _).trans (Below.zero_alloc _ _)
  have hT := StW.take_pair (w.heap.size + 1) 20000 19999 p cs 100 (by decide) hp0 (by decide) (by decide) hc (fun h => absurd h (by decide)) h10
  unfold TakePost at hT
  simp only [if_neg (by decide : ¬ (20000 ≤ 19999))] at hT
  have HB := Lib.hid hbp
  clear hp0 hbp hc
  with_reducible refine hT.mono ?_
  rintro e w3 ⟨rfl, h3, hb3⟩
  unfold zeroD
  have h4 := h3.push (.cells #[.int .i64 0, .int .i64 0, .bool false, .slice none 0 0, .string ⟨#[]⟩, .slice none 0 0, .slice none 0 0] 54)
  have hso : sat (w3.alloc (.cells #[.int .i64 0, .int .i64 0, .bool false, .slice none 0 0, .string ⟨#[]⟩, .slice none 0 0, .slice none 0 0] 54)) (Go.Proofs.Ytanjiecefioffaa.blk w.heap.size (.cells #[.int .i64 0, .int .i64 0, .bool false, .slice none 0 0, .string ⟨#[]⟩, .slice none 0 0, .slice none 0 0] 54 (0, 0)) * (Go.Proofs.Ytanjiecefioffaa.blk w3.heap.size (.cells #[.int .i64 0, .int .i64 0, .bool false, .slice none 0 0, .string ⟨#[]⟩, .slice none 0 0, .slice none 0 0] 54 (0, 0)) * (isHeap V S * (isSt X V.g Y * R)))) := h4.s.perm (by ac_rfl)
  have hb5 := (HB.out.trans hb3).trans (Below.zero_alloc w3 (.cells #[.int .i64 0, .int .i64 0, .bool false, .slice none 0 0, .string ⟨#[]⟩, .slice none 0 0, .slice none 0 0] 54))
  have HG := Lib.hid (And.intro h4.ok (And.intro hso hb5))
  have c0 := (hso.left.cell 0).trans rfl
  have f0 := hso.left.frozen 0
  have c1 := (hso.left.cell 1).trans rfl
  have f1 := hso.left.frozen 1
  have c2 := (hso.left.cell 2).trans rfl
  have f2 := hso.left.frozen 2
  have c3 := (hso.left.cell 3).trans rfl
  have f3 := hso.left.frozen 3
  have c4 := (hso.left.cell 4).trans rfl
  have f4 := hso.left.frozen 4
  have c5 := (hso.left.cell 5).trans rfl
  have f5 := hso.left.frozen 5
  have c6 := (hso.left.cell 6).trans rfl
  have f6 := hso.left.frozen 6
  clear h3 hb3 h4 hT hso hb5
  go_wp2_with fail
  have hs7 := (((((((HG.out.2.1.setCell (off := 0) (.int .i64 0)).setCell (off := 1) (.int .i64 0)).setCell (off := 2) (.bool false)).setCell (off := 3) (.slice none 0 0)).setCell (off := 4) (.string ⟨#[]⟩)).setCell (off := 5) (.slice none 0 0)).setCell (off := 6) (.slice none 0 0))
  have hb7 := (((((((HG.out.2.2.setCell (p := ⟨w.heap.size, 0, none⟩) (Nat.zero_le _) (.int .i64 0)).setCell (p := ⟨w.heap.size, 1, none⟩) (Nat.zero_le _) (.int .i64 0)).setCell (p := ⟨w.heap.size, 2, none⟩) (Nat.zero_le _) (.bool false)).setCell (p := ⟨w.heap.size, 3, none⟩) (Nat.zero_le _) (.slice none 0 0)).setCell (p := ⟨w.heap.size, 4, none⟩) (Nat.zero_le _) (.string ⟨#[]⟩)).setCell (p := ⟨w.heap.size, 5, none⟩) (Nat.zero_le _) (.slice none 0 0)).setCell (p := ⟨w.heap.size, 6, none⟩) (Nat.zero_le _) (.slice none 0 0))
  clear c0 f0 c1 f1 c2 f2 c3 f3 c4 f4 c5 f5 c6 f6
  generalize ((((((((w3.alloc (.cells #[.int .i64 0, .int .i64 0, .bool false, .slice none 0 0, .string ⟨#[]⟩, .slice none 0 0, .slice none 0 0] 54)).setCell ⟨w.heap.size, 0, none⟩ (.int .i64 0)).setCell ⟨w.heap.size, 1, none⟩ (.int .i64 0)).setCell ⟨w.heap.size, 2, none⟩ (.bool false)).setCell ⟨w.heap.size, 3, none⟩ (.slice none 0 0)).setCell ⟨w.heap.size, 4, none⟩ (.string ⟨#[]⟩)).setCell ⟨w.heap.size, 5, none⟩ (.slice none 0 0)).setCell ⟨w.heap.size, 6, none⟩ (.slice none 0 0)) = w7 at *
  have r0 : w7.cell? ⟨w.heap.size, 0, none⟩ = some (.int .i64 0) := (hs7.left.cell 0).trans rfl
  have r1 : w7.cell? ⟨w.heap.size, 1, none⟩ = some (.int .i64 0) := (hs7.left.cell 1).trans rfl
  have r2 : w7.cell? ⟨w.heap.size, 2, none⟩ = some (.bool false) := (hs7.left.cell 2).trans rfl
  have r3 : w7.cell? ⟨w.heap.size, 3, none⟩ = some (.slice none 0 0) := (hs7.left.cell 3).trans rfl
  have r4 : w7.cell? ⟨w.heap.size, 4, none⟩ = some (.string ⟨#[]⟩) := (hs7.left.cell 4).trans rfl
  have r5 : w7.cell? ⟨w.heap.size, 5, none⟩ = some (.slice none 0 0) := (hs7.left.cell 5).trans rfl
  have r6 : w7.cell? ⟨w.heap.size, 6, none⟩ = some (.slice none 0 0) := (hs7.left.cell 6).trans rfl
  refine bodyPost_ret (v := .tuple #[zeroD, .bool false]) (by simp [results, Try.results28, go_sem, r0, r1, r2, r3, r4, r5, r6, zeroD]) rfl ⟨rfl, ⟨hs7.right.right, HG.out.1⟩, hb7⟩
end
end Go.Proofs.Ytanjiecefioffaa
