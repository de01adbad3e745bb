/- value.Store: chain, List, Vector. -/
import Derived.Test.YtanjiecefioffaaChainPure
namespace Go.Proofs.Ytanjiecefioffaa
open Go.RowKit

section
variable {w : World} {X : StV} {V : HV} {S : HS} {Y : StS} {R : HP}
set_option maxRecDepth 100000 in
set_option maxHeartbeats 1000000 in
theorem StW.chain_no (h : StW w X V S Y R) (last : Int) (ao : Option Addr) (cap : Nat) (xs : List Int) (hx : WordsIn R ao xs) (hu : ∀ x ∈ xs, 0 ≤ x ∧ x < 18446744073709551616) (hn : xs.length < 4611686018427387904)
    (hm : xs.all (S.may ·) = true) (hno : (S.size - S.ws.length) / 3 < xs.length) :
    Calls Try.prog 51 #[.pointer (some ⟨X.g, 0, none⟩), .int .u64 last, .slice ao xs.length cap] w (StLaid X V.g S Y R 0 false w) := by
  have c0 := h.c0
  have hul := h.ok.used
  have hsz := h.ok.hi
  have hMay := fun m : Nat => (h.drewN m).May ao cap xs (hx _ h.s.right.right) hu hn
  rw [hm] at hMay
  have hS := fun n : Nat => (h.drewN n).hw.v.Size
  have hU := fun n : Nat => (h.drewN n).hw.v.Used
  have g1 : IntKind.i64.wrap ((S.size : Int) - S.ws.length) = (S.size : Int) - S.ws.length := IntWalk.i64_in _ (by omega)
  have e1 : decide ((((S.size : Int) - S.ws.length) / 3) < (xs.length : Int)) = true := by simp; omega
  have HH := Lib.hid h
  clear h hm hno
  go_enter Try.func51, Try.ntmps51
  go_wp2_with fail
  go_quiet ((first
    | (go_at_call 80; exact Calls.said (hMay _))
    | (go_at_call 53; exact Calls.said (hS _))
    | (go_at_call 25; exact Calls.said (hU _))))
  go_wp2_with fail
  go_ret2
  exact ⟨rfl, drewN_below0 _ _, V, rfl, HH.out.drewN _⟩

def ChainRel (w : World) (X : StV) (g : Nat) (S : HS) (Y : StS) (R : HP) (last : Int) (xs : List Int) (v i : Value) (wr : World) : Prop :=
  ∃ (k : Nat) (V : HV), k ≤ xs.length ∧ v = .int .u64 (S.chain last (xs.drop k)).2 ∧ i = .int .i64 ((k : Int) - 1) ∧ V.g = g ∧ StW wr X V (S.chain last (xs.drop k)).1 Y R ∧ Below 0 w wr
set_option maxRecDepth 100000 in
set_option maxHeartbeats 1000000 in
theorem StW.chain_yes (h : StW w X V S Y R) (last : Int) (ao : Option Addr) (cap : Nat) (xs : List Int) (hx : WordsIn R ao xs) (hu : ∀ x ∈ xs, 0 ≤ x ∧ x < 18446744073709551616) (hn : xs.length < 4611686018427387904)
    (hl : 0 ≤ last ∧ last < 18446744073709551616) (hml : S.may last = true) (hm : xs.all (S.may ·) = true) (hok : xs.length ≤ (S.size - S.ws.length) / 3) :
    Calls Try.prog 51 #[.pointer (some ⟨X.g, 0, none⟩), .int .u64 last, .slice ao xs.length cap] w (StLaid X V.g (S.chain last xs).1 Y R (S.chain last xs).2 true w) := by
  have c0 := h.c0
  have hul := h.ok.used
  have hsz := h.ok.hi
  have hMay := fun m : Nat => (h.drewN m).May ao cap xs (hx _ h.s.right.right) hu hn
  rw [hm] at hMay
  have hS := fun n : Nat => (h.drewN n).hw.v.Size
  have hU := fun n : Nat => (h.drewN n).hw.v.Used
  have g1 : IntKind.i64.wrap ((S.size : Int) - S.ws.length) = (S.size : Int) - S.ws.length := IntWalk.i64_in _ (by omega)
  have g2 : IntKind.i64.wrap ((xs.length : Int) - 1) = (xs.length : Int) - 1 := IntWalk.i64_in _ (by omega)
  have e1 : decide ((((S.size : Int) - S.ws.length) / 3) < (xs.length : Int)) = false := by simp; omega
  have HH := Lib.hid (And.intro h (And.intro hm (And.intro hml hok)))
  clear h hm hml hok
  go_enter Try.func51, Try.ntmps51
  go_wp2_with fail
  go_quiet ((first
    | (go_at_call 80; exact Calls.said (hMay _))
    | (go_at_call 53; exact Calls.said (hS _))
    | (go_at_call 25; exact Calls.said (hU _))))
  go_wp2_with fail
  go_loopw [1, 8] (ChainRel w X V.g S Y R last xs) (fun _ i _ => (intOf i + 1).toNat)
  case atStart => exact ⟨xs.length, V, Nat.le_refl _, by rw [List.drop_length]; rfl, rfl, rfl, by rw [List.drop_length]; exact HH.out.1.drewN _, drewN_below0 _ _⟩
  case round =>
    obtain ⟨k, V1, hk, rfl, rfl, hg1, h1, hb1⟩ := hrel
    cases k with
    | zero =>
      have b1 : decide ((((0 : Nat) : Int) - 1) ≥ 0) = false := by decide
      have HF := Lib.hid (And.intro hg1 (And.intro h1 hb1))
      clear h1 hb1 hg1
      go_wp2_with fail
      go_ret2
      have h2 := HF.out.2.1
      rw [List.drop_zero] at h2
      exact ⟨rfl, HF.out.2.2, V1, HF.out.1, h2⟩
    | succ k =>
      obtain ⟨x, ex⟩ : ∃ x, xs[k]? = some x := ⟨_, List.getElem?_eq_getElem (by omega)⟩
      obtain ⟨a, rfl, hcx⟩ := hx wr h1.s.right.right k x ex
      have hdr : xs.drop k = x :: xs.drop (k + 1) := by
        rw [List.drop_eq_getElem_cons (by omega)]
        congr 1
        exact (List.getElem?_eq_some_iff.1 ex).2
      obtain ⟨hh, hm, hml, hok⟩ := HH.out
      have hlen := chain_len S last (xs.drop (k + 1))
      rw [List.length_drop] at hlen
      have hsu := chain_snd_u (S := S) hl (xs.drop (k + 1)) (by rw [List.length_drop]; omega)
      have hcons := h1.Cons_yes x (S.chain last (xs.drop (k + 1))).2 (hu x (List.mem_of_getElem? ex)) hsu ⟨chain_may S last (List.all_eq_true.1 hm x (List.mem_of_getElem? ex)) _, chain_snd hh.ok.wf.len hml _⟩ (by
        unfold HS.room
        simp only [Bool.and_eq_true, decide_eq_true_eq]
        rw [hlen.1, hlen.2.1]
        omega)
      have hce : (S.chain last (xs.drop k)) = ((S.chain last (xs.drop (k + 1))).1.cons x (S.chain last (xs.drop (k + 1))).2, 4 * (((S.chain last (xs.drop (k + 1))).1.ws.length : Nat) : Int)) := by rw [hdr]; rfl
      have HC := Lib.hid (And.intro hcons (And.intro hce (And.intro hg1 hb1)))
      have b1 : decide ((((k + 1 : Nat) : Int) - 1) ≥ 0) = true := by rw [decide_eq_true_eq]; omega
      have b2 : (((k + 1 : Nat) : Int) - 1) = (k : Int) := by omega
      rw [b2] at b1 ⊢
      clear hcons hce hg1 hb1 h1 hdr hlen hsu hh hm hml hok b2
      go_wp2_with fail
      refine HC.out.1.mono ?_
      rintro e w7 ⟨rfl, hb7, V7, hg7, h7⟩
      have HD := Lib.hid (And.intro hb7 (And.intro hg7 h7))
      clear hb7 hg7 h7
      go_wp2_with fail
      go_roundw
      case rel =>
        refine ⟨k, V7, by omega, by rw [HC.out.2.1], by go_num, HD.out.2.1.trans HC.out.2.2.1, ?_, HC.out.2.2.2.trans HD.out.1⟩
        rw [HC.out.2.1]
        exact HD.out.2.2
      case measure => simp [intOf]
set_option maxRecDepth 100000 in
theorem StW.List_any (p : Int) (ok : Bool) (S' : HS) (ao : Option Addr) (n cap : Nat)
    (hc : Calls Try.prog 51 #[.pointer (some ⟨X.g, 0, none⟩), .int .u64 10, .slice ao n cap] w (StLaid X V.g S' Y R p ok w)) :
    Calls Try.prog 20 #[.pointer (some ⟨X.g, 0, none⟩), .slice ao n cap] w (StLaid X V.g S' Y R p ok w) := by
  have HL := Lib.hid hc
  clear hc
  go_enter Try.func20, Try.ntmps20
  go_wp2_with fail
  refine HL.out.mono ?_
  rintro e w7 ⟨rfl, hb7, V7, hg7, h7⟩
  go_wp2_with fail
  go_ret2
  exact ⟨rfl, hb7, V7, hg7, h7⟩
set_option maxRecDepth 100000 in
theorem StW.Vector_any (p : Int) (ok : Bool) (S' : HS) (ao : Option Addr) (n cap : Nat)
    (hc : Calls Try.prog 52 #[.pointer (some ⟨X.g, 0, none⟩), .int .i64 2, .slice ao n cap] w (StLaid X V.g S' Y R p ok w)) :
    Calls Try.prog 21 #[.pointer (some ⟨X.g, 0, none⟩), .slice ao n cap] w (StLaid X V.g S' Y R p ok w) := by
  have HL := Lib.hid hc
  clear hc
  go_enter Try.func21, Try.ntmps21
  go_wp2_with fail
  refine HL.out.mono ?_
  rintro e w7 ⟨rfl, hb7, V7, hg7, h7⟩
  go_wp2_with fail
  go_ret2
  exact ⟨rfl, hb7, V7, hg7, h7⟩
end
end Go.Proofs.Ytanjiecefioffaa
