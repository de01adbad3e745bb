/- value.Store: Text. -/
import Derived.Test.YtanjiecefioffaaStoreWords
namespace Go.Proofs.Ytanjiecefioffaa
open Go.RowKit

theorem wordsOf_len (b : List Int) : (wordsOf b).length = 1 + (b.length + 7) / 8 := by unfold wordsOf wordsB; simp; omega
theorem wordsOf_u {b : List Int} (hb : Bytes b) (hn : b.length ≤ 140737488355328) : ∀ x ∈ wordsOf b, 0 ≤ x ∧ x < 18446744073709551616 := by
  intro x hx
  unfold wordsOf wordsB at hx
  rcases List.mem_cons.1 hx with rfl | hx
  · omega
  · obtain ⟨i, _, rfl⟩ := List.mem_map.1 hx
    exact wordB_bd hb i

/-- Is a text laid? -/
def textOk (S : HS) (b : List Int) : Bool := decide ((b.length / 8 : Nat) ≤ S.size) && S.room 3 0 ((wordsOf b).length : Nat)
def HS.text (S : HS) (b : List Int) : HS := S.part 3 0 (wordsOf b).length 0 (wordsOf b) (wordsOf b).length

section
variable {w : World} {X : StV} {V : HV} {S : HS} {Y : StS} {R Q : HP}
theorem StW.drop (h : StW w X V S Y (Q * R)) : StW w X V S Y R := by
  refine ⟨?_, h.ok⟩
  have h1 : sat w ((isHeap V S * (isSt X V.g Y * R)) * Q) := h.s.perm (by ac_rfl)
  exact h1.left
theorem StLaid.drop {g : Nat} {S' : HS} {p : Int} {ok : Bool} {e : Ending} {w' : World} (h : StLaid X g S' Y (Q * R) p ok w e w') : StLaid X g S' Y R p ok w e w' := by
  obtain ⟨h1, h2, V', h3, h4⟩ := h
  exact ⟨h1, h2, V', h3, h4.drop⟩

set_option maxHeartbeats 1000000 in
theorem StW.Text_big (h : StW w X V S Y R) (ao : Option Addr) (cap : Nat) (b : List Int) (hn : b.length ≤ 140737488355328) (hbig : S.size < b.length / 8) :
    Calls Try.prog 22 #[.pointer (some ⟨X.g, 0, none⟩), .slice ao b.length cap] w (StLaid X V.g S Y R 0 false w) := by
  have c0 := h.c0
  have e2 : decide ((S.size : Int) < (b.length : Int) / 8) = true := by rw [decide_eq_true_eq]; omega
  have H := Lib.hid h
  clear h hbig
  go_enter Try.func22, Try.ntmps22
  go_wp2_with fail
  refine H.out.hw.v.Size.mono ?_
  rintro e w' ⟨rfl, j, rfl⟩
  go_wp2_with fail
  go_ret2
  exact ⟨rfl, drewN_below0 _ _, V, rfl, H.out.drewN _⟩

set_option maxHeartbeats 1000000 in
theorem StW.Text_any (h : StW w X V S Y R) (ao : Option Addr) (cap : Nat) (b : List Int) (hx : BytesIn R ao b) (hb : Bytes b) (hn : b.length ≤ 140737488355328) (hsm : b.length / 8 ≤ S.size)
    (p : Int) (ok : Bool) (S' : HS) (hraw : ∀ (w' : World) (bo : Nat), StW w' X V S Y (row 22 1 bo (wordsOf b).length ((wordsOf b).map Go.Proofs.Ytanjiecefioffaa.u64) * R) →
      Calls Try.prog 54 #[.pointer (some ⟨X.g, 0, none⟩), .int .i64 3, .slice (some ⟨bo, 0, none⟩) (wordsOf b).length (wordsOf b).length] w' (StLaid X V.g S' Y (row 22 1 bo (wordsOf b).length ((wordsOf b).map Go.Proofs.Ytanjiecefioffaa.u64) * R) p ok w')) :
    Calls Try.prog 22 #[.pointer (some ⟨X.g, 0, none⟩), .slice ao b.length cap] w (StLaid X V.g S' Y R p ok w) := by
  have c0 := h.c0
  have e2 : decide ((S.size : Int) < (b.length : Int) / 8) = false := by rw [decide_eq_false_iff_not]; omega
  have H := Lib.hid h
  have HX := Lib.hid (And.intro hx hraw)
  clear h hsm hx hraw
  go_enter Try.func22, Try.ntmps22
  go_wp2_with fail
  refine H.out.hw.v.Size.mono ?_
  rintro e w' ⟨rfl, j, rfl⟩
  have hbi : BytesIn (isHeap V S * (isSt X V.g Y * R)) ao b := fun w hs => HX.out.1 w hs.right.right
  go_wp2_with fail
  refine (words_any (H.out.drewN j).s ao cap b hbi hb hn).mono ?_
  rintro e w2 ⟨bo, rfl, hs2, hb2⟩
  have h2 : StW w2 X V S Y (row 22 1 bo (wordsOf b).length ((wordsOf b).map Go.Proofs.Ytanjiecefioffaa.u64) * R) := ⟨hs2.perm (by ac_rfl), H.out.ok⟩
  have hR := HX.out.2 w2 bo h2
  clear hbi hs2 h2
  go_wp2_with fail
  refine hR.mono ?_
  rintro e w3 ⟨rfl, hb3, V3, hg3, h3⟩
  have HF := Lib.hid (And.intro hg3 (And.intro h3.drop (((drewN_below0 w j).trans hb2).trans hb3)))
  clear hR hg3 h3 hb2 hb3
  go_wp2_with fail
  go_ret2
  exact ⟨rfl, HF.out.2.2, V3, HF.out.1, HF.out.2.1⟩

theorem StW.Text_yes (h : StW w X V S Y R) (ao : Option Addr) (cap : Nat) (b : List Int) (hx : BytesIn R ao b) (hb : Bytes b) (hn : b.length ≤ 140737488355328) (hok : textOk S b = true) :
    Calls Try.prog 22 #[.pointer (some ⟨X.g, 0, none⟩), .slice ao b.length cap] w (StLaid X V.g (S.text b) Y R (4 * (S.ws.length : Int)) true w) := by
  unfold textOk at hok
  rw [Bool.and_eq_true] at hok
  refine h.Text_any ao cap b hx hb hn (of_decide_eq_true hok.1) _ true _ ?_
  intro w' bo h'
  exact h'.raw_yes 3 (some ⟨bo, 0, none⟩) (wordsOf b).length (wordsOf b) (fun w hs j x hj => ⟨_, rfl, by
    have ha : ((⟨bo, 0, none⟩ : Addr).add j) = ⟨bo, j, none⟩ := by unfold Addr.add; split <;> simp_all
    rw [ha]; exact hs.row_cell (by rw [List.getElem?_map, hj]; rfl)⟩) (wordsOf_u hb hn) hok.2
theorem StW.Text_no (h : StW w X V S Y R) (ao : Option Addr) (cap : Nat) (b : List Int) (hx : BytesIn R ao b) (hb : Bytes b) (hn : b.length ≤ 140737488355328) (hok : textOk S b = false) :
    Calls Try.prog 22 #[.pointer (some ⟨X.g, 0, none⟩), .slice ao b.length cap] w (StLaid X V.g S Y R 0 false w) := by
  by_cases hs : b.length / 8 ≤ S.size
  · have hr : S.room 3 0 ((wordsOf b).length : Nat) = false := by
      unfold textOk at hok; rw [decide_eq_true hs] at hok; simpa using hok
    refine h.Text_any ao cap b hx hb hn hs _ false _ ?_
    intro w' bo h'
    have hl := wordsOf_len b
    exact h'.raw_no 3 (some ⟨bo, 0, none⟩) (wordsOf b).length (wordsOf b) (fun w hs j x hj => ⟨_, rfl, by
      have ha : ((⟨bo, 0, none⟩ : Addr).add j) = ⟨bo, j, none⟩ := by unfold Addr.add; split <;> simp_all
      rw [ha]; exact hs.row_cell (by rw [List.getElem?_map, hj]; rfl)⟩) (wordsOf_u hb hn) (by omega) hr
  · exact h.Text_big ao cap b hn (by omega)
end
end Go.Proofs.Ytanjiecefioffaa
