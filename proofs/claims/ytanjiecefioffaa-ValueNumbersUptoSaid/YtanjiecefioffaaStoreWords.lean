/- value.words. -/
import Derived.Test.YtanjiecefioffaaStoreRaw
import Derived.Test.YtanjiecefioffaaWordsPure
namespace Go.Proofs.Ytanjiecefioffaa
open Go.RowKit

/-- The bytes can be read wherever R lies. -/
def BytesIn (R : HP) (ao : Option Addr) (b : List Int) : Prop := ∀ w, sat w R → ∀ (j : Nat) x, b[j]? = some x → ∃ a, ao = some a ∧ w.cell? (a.add j) = some (.int .u8 x)
def WRel (w : World) (bo m q : Nat) (b : List Int) (R : HP) (i : Value) (wr : World) : Prop :=
  ∃ k : Nat, k ≤ b.length ∧ i = .int .i64 k ∧ sat wr (row 22 1 bo m (((b.length : Int) :: wordsB (b.take k) q).map u64) * R) ∧ Below 0 w wr

theorem word_or (W x : Int) (r : Nat) (hr : r < 8) (h0 : 0 ≤ W) (h1 : W < 256 ^ r) (x0 : 0 ≤ x) (x1 : x < 256) : bits .or .u64 W (IntKind.u64.wrap (x * 2 ^ (r * 8))) = W + 256 ^ r * x := by
  have e : (2 : Int) ^ (r * 8) = 256 ^ r := by rw [Nat.mul_comm, Int.pow_mul]; rfl
  have hb : (256 : Int) ^ r ≤ 72057594037927936 := by
    match r, hr with
    | 0, _ => decide
    | 1, _ => decide
    | 2, _ => decide
    | 3, _ => decide
    | 4, _ => decide
    | 5, _ => decide
    | 6, _ => decide
    | 7, _ => decide
  have hp : (0 : Int) ≤ 256 ^ r := Int.le_of_lt (Int.pow_pos (by decide))
  have hm : (256 : Int) ^ r * x ≤ 72057594037927936 * 255 := Int.mul_le_mul hb (by omega) x0 (by decide)
  have hm0 : 0 ≤ (256 : Int) ^ r * x := Int.mul_nonneg hp x0
  have h := u64_or_add (r * 8) W x h0 (by rw [e]; exact h1) x0 (by omega) (by rw [e]; omega)
  rw [e] at h ⊢
  rw [Int.mul_comm x, IntKind.wrap_u64, Int.emod_eq_of_lt hm0 (by omega)]
  exact h
theorem words_set (b : List Int) {k q : Nat} {x : Int} (hx : b[k]? = some x) (hk : k / 8 < q) (n : Int) :
    ((n :: wordsB (b.take k) q).map u64).set (1 + k / 8) (.int .u64 (wordB (b.take (k + 1)) (k / 8))) = (n :: wordsB (b.take (k + 1)) q).map u64 := by
  rw [Nat.add_comm, List.map_cons, List.set_cons_succ, List.map_cons]
  congr 1
  unfold wordsB
  apply List.ext_getElem?
  intro j
  rw [List.map_map, List.map_map]
  by_cases hj : j = k / 8
  · subst hj
    rw [List.getElem?_set_self (by simp; exact hk), List.getElem?_map, List.getElem?_range hk]; rfl
  · rw [List.getElem?_set_ne (fun e => hj e.symm), List.getElem?_map, List.getElem?_map]
    rcases Nat.lt_or_ge j q with a | a
    · rw [List.getElem?_range a]
      simp only [Option.map_some, Function.comp]
      rw [wordB_step hx j, if_neg hj]
    · rw [List.getElem?_eq_none (by simp; omega)]; rfl

set_option maxHeartbeats 1000000 in
theorem words_any {w : World} {R : HP} (hs : sat w R) (ao : Option Addr) (cap : Nat) (b : List Int) (hx : BytesIn R ao b) (hb : Bytes b) (hn : b.length ≤ 140737488355328) :
    Calls Try.prog 55 #[.slice ao b.length cap] w fun e w' => ∃ bo, e = .returned (.slice (some ⟨bo, 0, none⟩) (wordsOf b).length (wordsOf b).length) ∧ sat w' (row 22 1 bo (wordsOf b).length ((wordsOf b).map u64) * R) ∧ Below 0 w w' := by
  obtain ⟨i0, hi, hz0, hz1, hz2⟩ := info_parts info_u64
  have H1 := Lib.hid (And.intro hi (And.intro hz0 (And.intro hz1 hz2)))
  clear hi hz0 hz1 hz2
  obtain ⟨q, hq⟩ : ∃ q : Nat, (b.length + 7) / 8 = q := ⟨_, rfl⟩
  have hqq : ((b.length : Int) + 7) / 8 = q := by omega
  have hqb : q ≤ 17592186044417 := by omega
  go_enter Try.func55, Try.ntmps55
  go_wp2_with (at_make; refine halt ?_)
  refine goon ?_
  obtain ⟨hi, hz0, hz1, hz2⟩ := H1.out
  refine wpList_make_sat rfl 35 (.tmp 10) (.tmp 10) rfl 22 i0 (.int .u64 0) 8 Try.underlying35 hi hz0 hz1 hz2 rfl .i64 .i64 (1 + (q : Int)) R rfl rfl ?_ hs (by omega) (by omega) (by omega)
  clear hi hz0 hz1 hz2
  intro bo w2 hs2 hb2
  rw [show (1 + (q : Int)).toNat = 1 + q by omega] at hs2 ⊢
  have c0 : w2.cell? ⟨bo, 0, none⟩ = some (.int .u64 0) := hs2.row_cell (by rw [List.getElem?_replicate, if_pos (by omega)])
  have f0 := hs2.row_frozen 0
  have s1 : IntKind.u64.wrap (b.length : Int) = b.length := by rw [IntKind.wrap_u64]; omega
  go_upto_region 3 with (fail)
  have hs3 := hs2.row_set 0 (.int .u64 (b.length : Int))
  have hb3 := hb2.setCell (p := ⟨bo, 0, none⟩) (Nat.zero_le _) (.int .u64 (b.length : Int))
  have hz : (List.replicate (1 + q) (Value.int .u64 0)).set 0 (.int .u64 (b.length : Int)) = ((b.length : Int) :: wordsB (b.take 0) q).map Go.Proofs.Ytanjiecefioffaa.u64 := by
    rw [show 1 + q = q + 1 by omega, List.replicate_succ, List.set_cons_zero, List.map_cons]
    congr 1
    apply List.ext_getElem?
    intro j
    unfold wordsB
    rw [List.map_map, List.getElem?_map, List.getElem?_replicate]
    by_cases hj : j < q
    · rw [if_pos hj, List.getElem?_range hj]
      simp [wordB, packB]
    · rw [if_neg hj, List.getElem?_eq_none (by simp; omega)]; rfl
  rw [hz] at hs3
  have HS := Lib.hid (And.intro hs3 hb3)
  clear hs2 hb2 hs3 hb3 hz c0 f0
  generalize w2.setCell ⟨bo, 0, none⟩ (.int .u64 (b.length : Int)) = w3 at *
  go_wp2_with fail
  go_loopw [19] (WRel w bo (1 + q) q b R) (fun i _ => b.length - (intOf i).toNat)
  case atStart => exact ⟨0, Nat.zero_le _, rfl, HS.out.1, HS.out.2⟩
  case round =>
    clear HS
    obtain ⟨k, hk, rfl, hs, hb'⟩ := hrel
    by_cases hlt : k < b.length
    · obtain ⟨x, ex⟩ : ∃ x, b[k]? = some x := ⟨_, List.getElem?_eq_getElem hlt⟩
      have hxb := hb x (List.mem_of_getElem? ex)
      obtain ⟨a, rfl, hcx⟩ := hx wr hs.right k x ex
      have hkq : k / 8 < q := by omega
      have hcell := hs.row_cell (j := 1 + k / 8) (v := .int .u64 (wordB (b.take k) (k / 8))) (by
        rw [Nat.add_comm, List.map_cons, List.getElem?_cons_succ, List.getElem?_map]
        unfold wordsB
        rw [List.getElem?_map, List.getElem?_range hkq]; rfl)
      have hfr := hs.row_frozen (1 + k / 8)
      have e1 : ((k : Int) / 8) = ((k / 8 : Nat) : Int) := by omega
      have e2 : ((k : Int).tdiv 8) = ((k / 8 : Nat) : Int) := by rw [Int.tdiv_eq_ediv_of_nonneg (by omega)]; omega
      have e3 : ((k : Int).tmod 8) = ((k % 8 : Nat) : Int) := by rw [Int.tmod_eq_emod_of_nonneg (by omega)]; omega
      have HX := Lib.hid (And.intro ex (And.intro e1 hx))
      clear ex e1
      go_wp2_with fail
      have g1 : IntKind.i64.wrap ((k / 8 : Nat) : Int) = ((k / 8 : Nat) : Int) := IntWalk.i64_in _ (by omega)
      have g2 : IntKind.i64.wrap (1 + ((k / 8 : Nat) : Int)) = 1 + ((k / 8 : Nat) : Int) := IntWalk.i64_in _ (by omega)
      have g3 : (1 + ((k / 8 : Nat) : Int)).toNat = 1 + k / 8 := by omega
      have g4 : IntKind.u64.wrap x = x := by rw [IntKind.wrap_u64]; omega
      have g5 : IntKind.i64.wrap ((k % 8 : Nat) : Int) = ((k % 8 : Nat) : Int) := IntWalk.i64_in _ (by omega)
      have g6 : IntKind.i64.wrap (((k % 8 : Nat) : Int) * 8) = ((8 * (k % 8) : Nat) : Int) := by rw [IntWalk.i64_in _ (by omega)]; omega
      have g7 : decide (1 + ((k / 8 : Nat) : Int) < 1 + (q : Int)) = true := by simp; omega
      go_region
      have hlow := wordB_low hb k (by omega)
      have hwb := wordB_bd (b := b.take k) (fun z hz => hb z (List.mem_of_mem_take hz)) (k / 8)
      rw [word_or (wordB (b.take k) (k / 8)) x (k % 8) (by omega) hwb.1 hlow hxb.1 hxb.2]
      have hst := wordB_step HX.out.1 (k / 8)
      rw [if_pos rfl] at hst
      rw [← hst]
      have hs4 := hs.row_set (1 + k / 8) (.int .u64 (wordB (b.take (k + 1)) (k / 8)))
      rw [words_set b HX.out.1 hkq] at hs4
      have hb4 := hb'.setCell (p := ⟨bo, 1 + k / 8, none⟩) (Nat.zero_le _) (.int .u64 (wordB (b.take (k + 1)) (k / 8)))
      have HF := Lib.hid (And.intro hs4.drew (hb4.trans (drewN_below0 _ 1)))
      clear hst hlow hwb hs4 hb4 hs hb' hcell hfr hcx
      go_wp2_with fail
      go_roundw
      case rel => exact ⟨k + 1, by omega, by go_num, HF.out.1, HF.out.2⟩
      case measure => simp [intOf]; omega
    · obtain rfl : k = b.length := by omega
      have hge : (b.length : Int) ≤ b.length := by omega
      rw [List.take_of_length_le (Nat.le_refl _)] at hs
      have hlen : (wordsOf b).length = 1 + q := by unfold wordsOf wordsB; rw [hq]; simp; omega
      have HF := Lib.hid (And.intro hs (And.intro hb' hlen))
      clear hs hb' hlen
      go_wp2_with fail
      go_ret
      rw [HF.out.2.2]
      refine ⟨bo, rfl, ?_, HF.out.2.1⟩
      have h9 := HF.out.1
      unfold wordsOf
      rw [hq]
      exact h9
end Go.Proofs.Ytanjiecefioffaa
