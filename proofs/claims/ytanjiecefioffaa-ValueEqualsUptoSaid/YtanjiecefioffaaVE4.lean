/- value.words. -/
import Derived.Test.YtanjiecefioffaaVE3
import Derived.Test.YtanjiecefioffaaVE1
import Derived.Laws.IdiomStrings
namespace Go.Proofs.Ytanjiecefioffaa
open Go.RowKit

/-- The bytes can be read wherever R lies. -/
def BytesIn (R : HP) (ao : Option Addr) (b : List Int) : Prop := ∀ w, sat w R → ∀ (j : Nat) x, b[j]? = some x → ∃ a, ao = some a ∧ w.cell? (a.add j) = some (.int .u8 x)
def WRel (w : World) (bo m q : Nat) (b : List Int) (R : HP) (i : Value) (wr : World) : Prop :=
  ∃ k : Nat, k ≤ b.length ∧ i = .int .i64 k ∧ sat wr (row 22 1 bo m (((b.length : Int) :: wordsB (b.take k) q).map u64) * R) ∧ Below 0 w wr

theorem word_or (W x : Int) (r : Nat) (hr : r < 8) (h0 : 0 ≤ W) (h1 : W < 256 ^ r) (x0 : 0 ≤ x) (x1 : x < 256) : bits .or .u64 W (IntKind.u64.wrap (x * 2 ^ (r * 8))) = W + 256 ^ r * x := by
  have e : (2 : Int) ^ (r * 8) = 256 ^ r := by rw [Nat.mul_comm, Int.pow_mul]; rfl
  have hb : (256 : Int) ^ r ≤ 72057594037927936 := by
    match r, hr with
    | 0, _ => decide
    | 1, _ => decide
    | 2, _ => decide
    | 3, _ => decide
    | 4, _ => decide
    | 5, _ => decide
    | 6, _ => decide
    | 7, _ => decide
  have hp : (0 : Int) ≤ 256 ^ r := Int.le_of_lt (Int.pow_pos (by decide))
  have hm : (256 : Int) ^ r * x ≤ 72057594037927936 * 255 := Int.mul_le_mul hb (by omega) x0 (by decide)
  have hm0 : 0 ≤ (256 : Int) ^ r * x := Int.mul_nonneg hp x0
  have h := u64_or_add (r * 8) W x h0 (by rw [e]; exact h1) x0 (by omega) (by rw [e]; omega)
  rw [e] at h ⊢
  rw [Int.mul_comm x, IntKind.wrap_u64, Int.emod_eq_of_lt hm0 (by omega)]
  exact h
theorem words_set (b : List Int) {k q : Nat} {x : Int} (hx : b[k]? = some x) (hk : k / 8 < q) (n : Int) :
    ((n :: wordsB (b.take k) q).map u64).set (1 + k / 8) (.int .u64 (wordB (b.take (k + 1)) (k / 8))) = (n :: wordsB (b.take (k + 1)) q).map u64 := by
  rw [Nat.add_comm, List.map_cons, List.set_cons_succ, List.map_cons]
  congr 1
  unfold wordsB
  apply List.ext_getElem?
  intro j
  rw [List.map_map, List.map_map]
  by_cases hj : j = k / 8
  · subst hj
    rw [List.getElem?_set_self (by simp; exact hk), List.getElem?_map, List.getElem?_range hk]; rfl
  · rw [List.getElem?_set_ne (fun e => hj e.symm), List.getElem?_map, List.getElem?_map]
    rcases Nat.lt_or_ge j q with a | a
    · rw [List.getElem?_range a]
      simp only [Option.map_some, Function.comp]
      rw [wordB_step hx j, if_neg hj]
    · rw [List.getElem?_eq_none (by simp; omega)]; rfl

set_option maxHeartbeats 1000000 in
theorem words_any {w : World} {R : HP} (hs : sat w R) (ao : Option Addr) (cap : Nat) (b : List Int) (hx : BytesIn R ao b) (hb : Bytes b) (hn : b.length ≤ 140737488355328) :
    Calls Try.prog 55 #[.slice ao b.length cap] w fun e w' => ∃ bo, e = .returned (.slice (some ⟨bo, 0, none⟩) (wordsOf b).length (wordsOf b).length) ∧ sat w' (row 22 1 bo (wordsOf b).length ((wordsOf b).map u64) * R) ∧ Below 0 w w' := by
  obtain ⟨i0, hi, hz0, hz1, hz2⟩ := info_parts info_u64
  have H1 := Lib.hid (And.intro hi (And.intro hz0 (And.intro hz1 hz2)))
  clear hi hz0 hz1 hz2
  obtain ⟨q, hq⟩ : ∃ q : Nat, (b.length + 7) / 8 = q := ⟨_, rfl⟩
  have hqq : ((b.length : Int) + 7) / 8 = q := by omega
  have hqb : q ≤ 17592186044417 := by omega
  go_enter Try.func55, Try.ntmps55
  go_wp2_with (at_make; refine halt ?_)
  refine goon ?_
  obtain ⟨hi, hz0, hz1, hz2⟩ := H1.out
  refine wpList_make_sat rfl 35 (.tmp 10) (.tmp 10) rfl 22 i0 (.int .u64 0) 8 Try.underlying35 hi hz0 hz1 hz2 rfl .i64 .i64 (1 + (q : Int)) R rfl rfl ?_ hs (by omega) (by omega) (by omega)
  clear hi hz0 hz1 hz2
  intro bo w2 hs2 hb2
  rw [show (1 + (q : Int)).toNat = 1 + q by omega] at hs2 ⊢
  have c0 : w2.cell? ⟨bo, 0, none⟩ = some (.int .u64 0) := hs2.row_cell (by rw [List.getElem?_replicate, if_pos (by omega)])
  have f0 := hs2.row_frozen 0
  have s1 : IntKind.u64.wrap (b.length : Int) = b.length := by rw [IntKind.wrap_u64]; omega
  go_upto_region 3 with (fail)
  have hs3 := hs2.row_set 0 (.int .u64 (b.length : Int))
  have hb3 := hb2.setCell (p := ⟨bo, 0, none⟩) (Nat.zero_le _) (.int .u64 (b.length : Int))
  have hz : (List.replicate (1 + q) (Value.int .u64 0)).set 0 (.int .u64 (b.length : Int)) = ((b.length : Int) :: wordsB (b.take 0) q).map Go.Proofs.Ytanjiecefioffaa.u64 := by
    rw [show 1 + q = q + 1 by omega, List.replicate_succ, List.set_cons_zero, List.map_cons]
    congr 1
    apply List.ext_getElem?
    intro j
    unfold wordsB
    rw [List.map_map, List.getElem?_map, List.getElem?_replicate]
    by_cases hj : j < q
    · rw [if_pos hj, List.getElem?_range hj]
      simp [wordB, packB]
    · rw [if_neg hj, List.getElem?_eq_none (by simp; omega)]; rfl
  rw [hz] at hs3
  have HS := Lib.hid (And.intro hs3 hb3)
  clear hs2 hb2 hs3 hb3 hz c0 f0
  generalize w2.setCell ⟨bo, 0, none⟩ (.int .u64 (b.length : Int)) = w3 at *
  go_wp2_with fail
  go_loopw [19] (WRel w bo (1 + q) q b R) (fun i _ => b.length - (intOf i).toNat)
  case atStart => exact ⟨0, Nat.zero_le _, rfl, HS.out.1, HS.out.2⟩
  case round =>
    clear HS
    obtain ⟨k, hk, rfl, hs, hb'⟩ := hrel
    by_cases hlt : k < b.length
    · obtain ⟨x, ex⟩ : ∃ x, b[k]? = some x := ⟨_, List.getElem?_eq_getElem hlt⟩
      have hxb := hb x (List.mem_of_getElem? ex)
      obtain ⟨a, rfl, hcx⟩ := hx wr hs.right k x ex
      have hkq : k / 8 < q := by omega
      have hcell := hs.row_cell (j := 1 + k / 8) (v := .int .u64 (wordB (b.take k) (k / 8))) (by
        rw [Nat.add_comm, List.map_cons, List.getElem?_cons_succ, List.getElem?_map]
        unfold wordsB
        rw [List.getElem?_map, List.getElem?_range hkq]; rfl)
      have hfr := hs.row_frozen (1 + k / 8)
      have e1 : ((k : Int) / 8) = ((k / 8 : Nat) : Int) := by omega
      have e2 : ((k : Int).tdiv 8) = ((k / 8 : Nat) : Int) := by rw [Int.tdiv_eq_ediv_of_nonneg (by omega)]; omega
      have e3 : ((k : Int).tmod 8) = ((k % 8 : Nat) : Int) := by rw [Int.tmod_eq_emod_of_nonneg (by omega)]; omega
      have HX := Lib.hid (And.intro ex (And.intro e1 hx))
      clear ex e1
      go_wp2_with fail
      have g1 : IntKind.i64.wrap ((k / 8 : Nat) : Int) = ((k / 8 : Nat) : Int) := IntWalk.i64_in _ (by omega)
      have g2 : IntKind.i64.wrap (1 + ((k / 8 : Nat) : Int)) = 1 + ((k / 8 : Nat) : Int) := IntWalk.i64_in _ (by omega)
      have g3 : (1 + ((k / 8 : Nat) : Int)).toNat = 1 + k / 8 := by omega
      have g4 : IntKind.u64.wrap x = x := by rw [IntKind.wrap_u64]; omega
      have g5 : IntKind.i64.wrap ((k % 8 : Nat) : Int) = ((k % 8 : Nat) : Int) := IntWalk.i64_in _ (by omega)
      have g6 : IntKind.i64.wrap (((k % 8 : Nat) : Int) * 8) = ((8 * (k % 8) : Nat) : Int) := by rw [IntWalk.i64_in _ (by omega)]; omega
      have g7 : decide (1 + ((k / 8 : Nat) : Int) < 1 + (q : Int)) = true := by simp; omega
      go_region
      have hlow := wordB_low hb k (by omega)
      have hwb := wordB_bd (b := b.take k) (fun z hz => hb z (List.mem_of_mem_take hz)) (k / 8)
      rw [word_or (wordB (b.take k) (k / 8)) x (k % 8) (by omega) hwb.1 hlow hxb.1 hxb.2]
      have hst := wordB_step HX.out.1 (k / 8)
      rw [if_pos rfl] at hst
      rw [← hst]
      have hs4 := hs.row_set (1 + k / 8) (.int .u64 (wordB (b.take (k + 1)) (k / 8)))
      rw [words_set b HX.out.1 hkq] at hs4
      have hb4 := hb'.setCell (p := ⟨bo, 1 + k / 8, none⟩) (Nat.zero_le _) (.int .u64 (wordB (b.take (k + 1)) (k / 8)))
      have HF := Lib.hid (And.intro hs4.drew (hb4.trans (drewN_below0 _ 1)))
      clear hst hlow hwb hs4 hb4 hs hb' hcell hfr hcx
      go_wp2_with fail
      go_roundw
      case rel => exact ⟨k + 1, by omega, by go_num, HF.out.1, HF.out.2⟩
      case measure => simp [intOf]; omega
    · obtain rfl : k = b.length := by omega
      have hge : (b.length : Int) ≤ b.length := by omega
      rw [List.take_of_length_le (Nat.le_refl _)] at hs
      have hlen : (wordsOf b).length = 1 + q := by unfold wordsOf wordsB; rw [hq]; simp; omega
      have HF := Lib.hid (And.intro hs (And.intro hb' hlen))
      clear hs hb' hlen
      go_wp2_with fail
      go_ret
      rw [HF.out.2.2]
      refine ⟨bo, rfl, ?_, HF.out.2.1⟩
      have h9 := HF.out.1
      unfold wordsOf
      rw [hq]
      exact h9
end Go.Proofs.Ytanjiecefioffaa

/- value.Store: Text. -/
namespace Go.Proofs.Ytanjiecefioffaa
open Go.RowKit

theorem wordsOf_len (b : List Int) : (wordsOf b).length = 1 + (b.length + 7) / 8 := by unfold wordsOf wordsB; simp; omega
theorem wordsOf_u {b : List Int} (hb : Bytes b) (hn : b.length ≤ 140737488355328) : ∀ x ∈ wordsOf b, 0 ≤ x ∧ x < 18446744073709551616 := by
  intro x hx
  unfold wordsOf wordsB at hx
  rcases List.mem_cons.1 hx with rfl | hx
  · omega
  · obtain ⟨i, _, rfl⟩ := List.mem_map.1 hx
    exact wordB_bd hb i

/-- Is a text laid? -/
def textOk (S : HS) (b : List Int) : Bool := decide ((b.length / 8 : Nat) ≤ S.size) && S.room 3 0 ((wordsOf b).length : Nat)
def HS.text (S : HS) (b : List Int) : HS := S.part 3 0 (wordsOf b).length 0 (wordsOf b) (wordsOf b).length

section
variable {w : World} {X : StV} {V : HV} {S : HS} {Y : StS} {R Q : HP}
theorem StW.drop (h : StW w X V S Y (Q * R)) : StW w X V S Y R := by
  refine ⟨?_, h.ok⟩
  have h1 : sat w ((isHeap V S * (isSt X V.g Y * R)) * Q) := h.s.perm (by ac_rfl)
  exact h1.left
theorem StLaid.drop {g : Nat} {S' : HS} {p : Int} {ok : Bool} {e : Ending} {w' : World} (h : StLaid X g S' Y (Q * R) p ok w e w') : StLaid X g S' Y R p ok w e w' := by
  obtain ⟨h1, h2, V', h3, h4⟩ := h
  exact ⟨h1, h2, V', h3, h4.drop⟩

set_option maxHeartbeats 1000000 in
theorem StW.Text_big (h : StW w X V S Y R) (ao : Option Addr) (cap : Nat) (b : List Int) (hn : b.length ≤ 140737488355328) (hbig : S.size < b.length / 8) :
    Calls Try.prog 22 #[.pointer (some ⟨X.g, 0, none⟩), .slice ao b.length cap] w (StLaid X V.g S Y R 0 false w) := by
  have c0 := h.c0
  have e2 : decide ((S.size : Int) < (b.length : Int) / 8) = true := by rw [decide_eq_true_eq]; omega
  have H := Lib.hid h
  clear h hbig
  go_enter Try.func22, Try.ntmps22
  go_wp2_with fail
  refine H.out.hw.v.Size.mono ?_
  rintro e w' ⟨rfl, j, rfl⟩
  go_wp2_with fail
  go_ret2
  exact ⟨rfl, drewN_below0 _ _, V, rfl, H.out.drewN _⟩

set_option maxHeartbeats 1000000 in
theorem StW.Text_any (h : StW w X V S Y R) (ao : Option Addr) (cap : Nat) (b : List Int) (hx : BytesIn R ao b) (hb : Bytes b) (hn : b.length ≤ 140737488355328) (hsm : b.length / 8 ≤ S.size)
    (p : Int) (ok : Bool) (S' : HS) (hraw : ∀ (w' : World) (bo : Nat), StW w' X V S Y (row 22 1 bo (wordsOf b).length ((wordsOf b).map Go.Proofs.Ytanjiecefioffaa.u64) * R) →
      Calls Try.prog 54 #[.pointer (some ⟨X.g, 0, none⟩), .int .i64 3, .slice (some ⟨bo, 0, none⟩) (wordsOf b).length (wordsOf b).length] w' (StLaid X V.g S' Y (row 22 1 bo (wordsOf b).length ((wordsOf b).map Go.Proofs.Ytanjiecefioffaa.u64) * R) p ok w')) :
    Calls Try.prog 22 #[.pointer (some ⟨X.g, 0, none⟩), .slice ao b.length cap] w (StLaid X V.g S' Y R p ok w) := by
  have c0 := h.c0
  have e2 : decide ((S.size : Int) < (b.length : Int) / 8) = false := by rw [decide_eq_false_iff_not]; omega
  have H := Lib.hid h
  have HX := Lib.hid (And.intro hx hraw)
  clear h hsm hx hraw
  go_enter Try.func22, Try.ntmps22
  go_wp2_with fail
  refine H.out.hw.v.Size.mono ?_
  rintro e w' ⟨rfl, j, rfl⟩
  have hbi : BytesIn (isHeap V S * (isSt X V.g Y * R)) ao b := fun w hs => HX.out.1 w hs.right.right
  go_wp2_with fail
  refine (words_any (H.out.drewN j).s ao cap b hbi hb hn).mono ?_
  rintro e w2 ⟨bo, rfl, hs2, hb2⟩
  have h2 : StW w2 X V S Y (row 22 1 bo (wordsOf b).length ((wordsOf b).map Go.Proofs.Ytanjiecefioffaa.u64) * R) := ⟨hs2.perm (by ac_rfl), H.out.ok⟩
  have hR := HX.out.2 w2 bo h2
  clear hbi hs2 h2
  go_wp2_with fail
  refine hR.mono ?_
  rintro e w3 ⟨rfl, hb3, V3, hg3, h3⟩
  have HF := Lib.hid (And.intro hg3 (And.intro h3.drop (((drewN_below0 w j).trans hb2).trans hb3)))
  clear hR hg3 h3 hb2 hb3
  go_wp2_with fail
  go_ret2
  exact ⟨rfl, HF.out.2.2, V3, HF.out.1, HF.out.2.1⟩

theorem StW.Text_yes (h : StW w X V S Y R) (ao : Option Addr) (cap : Nat) (b : List Int) (hx : BytesIn R ao b) (hb : Bytes b) (hn : b.length ≤ 140737488355328) (hok : textOk S b = true) :
    Calls Try.prog 22 #[.pointer (some ⟨X.g, 0, none⟩), .slice ao b.length cap] w (StLaid X V.g (S.text b) Y R (4 * (S.ws.length : Int)) true w) := by
  unfold textOk at hok
  rw [Bool.and_eq_true] at hok
  refine h.Text_any ao cap b hx hb hn (of_decide_eq_true hok.1) _ true _ ?_
  intro w' bo h'
  exact h'.raw_yes 3 (some ⟨bo, 0, none⟩) (wordsOf b).length (wordsOf b) (fun w hs j x hj => ⟨_, rfl, by
    have ha : ((⟨bo, 0, none⟩ : Addr).add j) = ⟨bo, j, none⟩ := by unfold Addr.add; split <;> simp_all
    rw [ha]; exact hs.row_cell (by rw [List.getElem?_map, hj]; rfl)⟩) (wordsOf_u hb hn) hok.2
theorem StW.Text_no (h : StW w X V S Y R) (ao : Option Addr) (cap : Nat) (b : List Int) (hx : BytesIn R ao b) (hb : Bytes b) (hn : b.length ≤ 140737488355328) (hok : textOk S b = false) :
    Calls Try.prog 22 #[.pointer (some ⟨X.g, 0, none⟩), .slice ao b.length cap] w (StLaid X V.g S Y R 0 false w) := by
  by_cases hs : b.length / 8 ≤ S.size
  · have hr : S.room 3 0 ((wordsOf b).length : Nat) = false := by
      unfold textOk at hok; rw [decide_eq_true hs] at hok; simpa using hok
    refine h.Text_any ao cap b hx hb hn hs _ false _ ?_
    intro w' bo h'
    have hl := wordsOf_len b
    exact h'.raw_no 3 (some ⟨bo, 0, none⟩) (wordsOf b).length (wordsOf b) (fun w hs j x hj => ⟨_, rfl, by
      have ha : ((⟨bo, 0, none⟩ : Addr).add j) = ⟨bo, j, none⟩ := by unfold Addr.add; split <;> simp_all
      rw [ha]; exact hs.row_cell (by rw [List.getElem?_map, hj]; rfl)⟩) (wordsOf_u hb hn) (by omega) hr
  · exact h.Text_big ao cap b hn (by omega)
end
end Go.Proofs.Ytanjiecefioffaa

/- value.Store: Intern. -/
namespace Go.Proofs.Ytanjiecefioffaa
open Go.RowKit

def bytesOf (s : ByteArray) : List Int := s.data.toList.map fun b => (b.toNat : Int)
theorem bytesOf_len (s : ByteArray) : (bytesOf s).length = s.size := by unfold bytesOf; rw [List.length_map, Array.length_toList]; rfl
theorem bytesOf_u (s : ByteArray) : Bytes (bytesOf s) := by
  intro x hx
  unfold bytesOf at hx
  obtain ⟨b, _, rfl⟩ := List.mem_map.1 hx
  have := b.toNat_lt
  omega
theorem bytesRow_in {R : HP} (s : ByteArray) (bo cap e : Nat) (fr : Nat × Nat) : BytesIn (blk bo (.cells (bytesRow s cap) e fr) * R) (some ⟨bo, 0, none⟩) (bytesOf s) := by
  intro w hs j x hj
  refine ⟨⟨bo, 0, none⟩, rfl, ?_⟩
  have ha : ((⟨bo, 0, none⟩ : Addr).add j) = ⟨bo, j, none⟩ := by unfold Addr.add; split <;> simp_all
  rw [ha, hs.left.cell j]
  have h1 := (List.getElem?_eq_some_iff.1 hj).1
  rw [bytesOf_len] at h1
  unfold bytesRow
  unfold bytesOf at hj
  rw [List.getElem?_map] at hj
  rw [Array.getElem?_append_left (by rw [Array.size_map]; exact h1), Array.getElem?_map]
  rw [Array.getElem?_toList] at hj
  cases hq : s.data[j]? with
  | none => rw [hq] at hj; cases hj
  | some b => rw [hq] at hj; simp at hj; simp [hj]

theorem zero_u64 (w : World) : (zeroValue 22).run Try.prog w = .ok (.int .u64 0) w := by kernel_rfl

theorem words_str {w : World} {R : HP} (hs : sat w R) (ao : Option Addr) (cap n : Nat) (b : List Int) (hx : BytesIn R ao b) (hb : Bytes b) (hl : b.length = n) (hn : n ≤ 140737488355328) :
    Calls Try.prog 55 #[.slice ao n cap] w fun e w' => ∃ bo, e = .returned (.slice (some ⟨bo, 0, none⟩) (wordsOf b).length (wordsOf b).length) ∧ sat w' (row 22 1 bo (wordsOf b).length ((wordsOf b).map Go.Proofs.Ytanjiecefioffaa.u64) * R) ∧ Below 0 w w' := by
  subst hl
  exact words_any hs ao cap b hx hb hn

/-- Is there room for a new symbol? -/
def symOk (S : HS) (b : List Int) : Bool := decide ((b.length / 8 : Nat) ≤ S.size) && decide ((1 : Int) + (wordsOf b).length + 2 ≤ (S.size : Int) - S.ws.length)
def HS.sym (S : HS) (b : List Int) : HS := (S.text b).part 4 1 0 2 [4 * (S.ws.length : Int)] 1

section
variable {w : World} {X : StV} {V : HV} {S : HS} {Y : StS} {R : HP}
set_option maxRecDepth 100000 in
set_option maxHeartbeats 1000000 in
theorem StW.Intern_old (h : StW w X V S Y R) (ht : Y.tm = S.times) (s : ByteArray) (v : Int) (hv : Y.syms.get s = some v) :
    Calls Try.prog 23 #[.pointer (some ⟨X.g, 0, none⟩), .string s] w (Says (.tuple #[.int .u64 v, .bool true]) w) := by
  have hK := h.known ht
  have hm : sat w (mapS X.mb Y.syms * (own 9 1 X.ov Y.ord.length (Y.ord.map .string) * (Go.Proofs.Ytanjiecefioffaa.blk X.g (.cells #[.pointer (some ⟨V.g, 0, none⟩), .map (some X.mb), X.ov, i64 Y.tm] 41 (0, 0)) * (isHeap V S * R)))) := by
    have h1 := h.s
    unfold isSt at h1
    exact h1.perm (by ac_rfl)
  have hlk : ∀ n, (Instr.lookup 38 (.map (some X.mb)) (.string s) true).run Try.prog (w.drewN n) = .ok (.tuple #[.int .u64 v, .bool true]) (w.drewN n) := fun n => by
    have h1 := run_lookup_str (P := Try.prog) (hm.drewN n) Try.underlying38 Try.underlying9 (zero_u64 _) s
    rw [hv] at h1
    exact h1
  clear h ht hv hm
  go_enter Try.func23, Try.ntmps23
  go_wp2_with fail
  refine hK.mono ?_
  rintro e w' ⟨rfl, j, rfl⟩
  go_wp2_with fail
  go_ret2
  exact ⟨rfl, j, rfl⟩
theorem StW.syms (h : StW w X V S Y R) : sat w (mapS X.mb Y.syms * (own 9 1 X.ov Y.ord.length (Y.ord.map .string) * (Go.Proofs.Ytanjiecefioffaa.blk X.g (.cells #[.pointer (some ⟨V.g, 0, none⟩), .map (some X.mb), X.ov, i64 Y.tm] 41 (0, 0)) * (isHeap V S * R)))) := by
  have h1 := h.s
  unfold isSt at h1
  exact h1.perm (by ac_rfl)

set_option maxRecDepth 100000 in
set_option maxHeartbeats 1000000 in
theorem StW.Intern_big (h : StW w X V S Y R) (ht : Y.tm = S.times) (s : ByteArray) (hv : Y.syms.get s = none) (hn : s.size ≤ 140737488355328) (hbig : S.size < s.size / 8) :
    Calls Try.prog 23 #[.pointer (some ⟨X.g, 0, none⟩), .string s] w (Says (.tuple #[.int .u64 0, .bool false]) w) := by
  have c0 := h.c0
  have hK := h.known ht
  have hlk : ∀ n, (Instr.lookup 38 (.map (some X.mb)) (.string s) true).run Try.prog (w.drewN n) = .ok (.tuple #[.int .u64 0, .bool false]) (w.drewN n) := fun n => by
    have h1 := run_lookup_str (P := Try.prog) (h.syms.drewN n) Try.underlying38 Try.underlying9 (zero_u64 _) s
    rw [hv] at h1
    exact h1
  have e2 : decide ((S.size : Int) < (s.size : Int) / 8) = true := by rw [decide_eq_true_eq]; omega
  have hS := fun n : Nat => (h.drewN n).hw.v.Size
  clear h ht hv hbig
  go_enter Try.func23, Try.ntmps23
  go_wp2_with fail
  refine hK.mono ?_
  rintro e w' ⟨rfl, j, rfl⟩
  go_wp2_with fail
  refine (hS j).mono ?_
  rintro e w' ⟨rfl, j2, rfl⟩
  go_wp2_with fail
  go_ret2
  exact ⟨rfl, j + j2, rfl⟩

set_option maxRecDepth 100000 in
set_option maxHeartbeats 1000000 in
theorem StW.Intern_full (h : StW w X V S Y R) (ht : Y.tm = S.times) (s : ByteArray) (hv : Y.syms.get s = none) (hn : s.size ≤ 140737488355328) (hsm : s.size / 8 ≤ S.size) (hno : symOk S (bytesOf s) = false) :
    Calls Try.prog 23 #[.pointer (some ⟨X.g, 0, none⟩), .string s] w (StLaid X V.g S Y R 0 false w) := by
  have c0 := h.c0
  have hK := h.known ht
  have hlk : ∀ n, (Instr.lookup 38 (.map (some X.mb)) (.string s) true).run Try.prog (w.drewN n) = .ok (.tuple #[.int .u64 0, .bool false]) (w.drewN n) := fun n => by
    have h1 := run_lookup_str (P := Try.prog) (h.syms.drewN n) Try.underlying38 Try.underlying9 (zero_u64 _) s
    rw [hv] at h1
    exact h1
  have hcv := fun w s => run_bytes_of_string (P := Try.prog) w 9 44 5 s Try.underlying9 Try.underlying44 Try.underlying5
  have e2 : decide ((S.size : Int) < (s.size : Int) / 8) = false := by rw [decide_eq_false_iff_not]; omega
  have hS := fun n : Nat => (h.drewN n).hw.v.Size
  have hul := h.ok.used
  have hsz := h.ok.hi
  have hlw := wordsOf_len (bytesOf s)
  rw [bytesOf_len] at hlw
  have e3 : decide ((1 : Int) + (wordsOf (bytesOf s)).length + 2 ≤ (S.size : Int) - S.ws.length) = false := by
    unfold symOk at hno
    rw [bytesOf_len, decide_eq_true hsm] at hno
    simpa using hno
  have HH := Lib.hid (And.intro h (And.intro hlw e3))
  clear h ht hv hsm hno hlw e3
  go_enter Try.func23, Try.ntmps23
  go_wp2_with fail
  refine hK.mono ?_
  rintro e w' ⟨rfl, j, rfl⟩
  go_wp2_with fail
  refine (hS j).mono ?_
  rintro e w' ⟨rfl, j2, rfl⟩
  go_wp2_with fail
  have hs1 := (HH.out.1.drewN (j + j2 + 1)).s.alloc (.cells (bytesRow s (grownCap (w.drewN (j + j2)) s.size 0 5)) 5 ((bytesRow s (grownCap (w.drewN (j + j2)) s.size 0 5)).size, (bytesRow s (grownCap (w.drewN (j + j2)) s.size 0 5)).size + 1))
  refine (words_str hs1 _ _ _ (bytesOf s) (bytesRow_in s _ _ _ _) (bytesOf_u s) (bytesOf_len s) hn).mono ?_
  rintro e w2 ⟨bo, rfl, hs2, hb2⟩
  have hb3 : Below 0 w w2 := ((drewN_below0 w (j + j2 + 1)).trans (Below.zero_alloc _ _)).trans hb2
  have h2 : StW w2 X V S Y R := StW.drop (StW.drop (Q := row 22 1 bo (wordsOf (bytesOf s)).length ((wordsOf (bytesOf s)).map Go.Proofs.Ytanjiecefioffaa.u64)) ⟨hs2.perm (by ac_rfl), HH.out.1.ok⟩)
  have hR := h2.room (1 + (wordsOf (bytesOf s)).length + 2)
  rw [HH.out.2.2] at hR
  have g1 : IntKind.i64.wrap (1 + ((wordsOf (bytesOf s)).length : Int)) = 1 + ((wordsOf (bytesOf s)).length : Int) := IntWalk.i64_in _ (by have := HH.out.2.1; omega)
  have g2 : IntKind.i64.wrap (1 + ((wordsOf (bytesOf s)).length : Int) + 2) = 1 + ((wordsOf (bytesOf s)).length : Int) + 2 := IntWalk.i64_in _ (by have := HH.out.2.1; omega)
  have HF := Lib.hid (And.intro h2 hb3)
  clear hs1 hs2 hb2 h2 hb3 hS hK hlk
  go_wp2_with fail
  refine hR.mono ?_
  rintro e w3 ⟨rfl, j3, rfl⟩
  go_wp2_with fail
  go_ret2
  exact ⟨rfl, HF.out.2.trans (drewN_below0 _ _), V, rfl, HF.out.1.drewN _⟩
end

/-- The store with a new symbol. -/
def StS.sym (Y : StS) (s : ByteArray) (p : Int) : StS := ⟨Y.syms ++ [(s, p)], Y.ord ++ [s], Y.tm⟩
def SymDone (X : StV) (g : Nat) (S' : HS) (Y' : StS) (R : HP) (p : Int) (ok : Bool) (w : World) (e : Ending) (w' : World) : Prop :=
  e = .returned (.tuple #[.int .u64 p, .bool ok]) ∧ Below 0 w w' ∧ ∃ (X' : StV) (V' : HV), X'.g = X.g ∧ X'.mb = X.mb ∧ V'.g = g ∧ StW w' X' V' S' Y' R
theorem info_string : (Try.prog.info? 9).map (fun i => (i.zero, i.size, i.bytes)) = some (some (.string ⟨#[]⟩), 1, 16) := by kernel_rfl
theorem one_word {R : HP} {bo e : Nat} {x : Int} : WordsIn (Go.Proofs.Ytanjiecefioffaa.blk bo (.cells #[.int .u64 x] e (0, 0)) * R) (some ⟨bo, 0, none⟩) [x] := by
  intro w hs j y hj
  match j, hj with
  | 0, hj =>
    simp at hj
    subst hj
    exact ⟨_, rfl, (hs.left.cell 0).trans rfl⟩
theorem text_len (S : HS) (b : List Int) : (S.text b).ws.length = S.ws.length + 1 + (wordsOf b).length ∧ (S.text b).size = S.size ∧ (S.text b).times = S.times := by
  unfold HS.text HS.part
  simp
  omega
theorem symOk_text {S : HS} {b : List Int} (h : symOk S b = true) (hi : S.size ≤ 1048576) : textOk S b = true := by
  unfold symOk at h
  rw [Bool.and_eq_true, decide_eq_true_eq, decide_eq_true_eq] at h
  unfold textOk HS.room
  simp only [Bool.and_eq_true, decide_eq_true_eq]
  omega
theorem symOk_room {S : HS} {b : List Int} (h : symOk S b = true) : (S.text b).room 4 1 0 = true := by
  unfold symOk at h
  rw [Bool.and_eq_true, decide_eq_true_eq, decide_eq_true_eq] at h
  obtain ⟨h1, h2, _⟩ := text_len S b
  unfold HS.room
  simp only [Bool.and_eq_true, decide_eq_true_eq]
  rw [h1, h2]
  omega
theorem text_may {S : HS} (hl : S.bs.length = S.ws.length) (b : List Int) : (S.text b).may (4 * (S.ws.length : Int)) = true := by
  have h := part_is hl 3 0 (wordsOf b).length 0 (wordsOf b) (wordsOf b).length
  unfold HS.may mayB
  rw [Bool.or_eq_true]
  exact .inr h
theorem symOk_size {S : HS} {b : List Int} (h : symOk S b = true) : b.length / 8 ≤ S.size := by
  unfold symOk at h
  rw [Bool.and_eq_true] at h
  exact of_decide_eq_true h.1

section
variable {w : World} {X : StV} {V : HV} {S : HS} {Y : StS} {R : HP}
set_option maxRecDepth 100000 in
set_option maxHeartbeats 1000000 in
theorem StW.Intern_new (h : StW w X V S Y R) (ht : Y.tm = S.times) (s : ByteArray) (hv : Y.syms.get s = none) (hn : s.size ≤ 140737488355328) (hok : symOk S (bytesOf s) = true) (hol : Y.ord.length ≤ 4294967296) :
    Calls Try.prog 23 #[.pointer (some ⟨X.g, 0, none⟩), .string s] w (SymDone X V.g (S.sym (bytesOf s)) (Y.sym s (4 * ((S.text (bytesOf s)).ws.length : Int))) R (4 * ((S.text (bytesOf s)).ws.length : Int)) true w) := by
  have c0 := h.c0
  have hK := h.known ht
  have hlk : ∀ n, (Instr.lookup 38 (.map (some X.mb)) (.string s) true).run Try.prog (w.drewN n) = .ok (.tuple #[.int .u64 0, .bool false]) (w.drewN n) := fun n => by
    have h1 := run_lookup_str (P := Try.prog) (h.syms.drewN n) Try.underlying38 Try.underlying9 (zero_u64 _) s
    rw [hv] at h1
    exact h1
  have hcv := fun w s => run_bytes_of_string (P := Try.prog) w 9 44 5 s Try.underlying9 Try.underlying44 Try.underlying5
  have hsm := symOk_size hok
  rw [bytesOf_len] at hsm
  have e2 : decide ((S.size : Int) < (s.size : Int) / 8) = false := by rw [decide_eq_false_iff_not]; omega
  have hS := fun n : Nat => (h.drewN n).hw.v.Size
  have hul := h.ok.used
  have hsz := h.ok.hi
  have hlw := wordsOf_len (bytesOf s)
  rw [bytesOf_len] at hlw
  have e3 : decide ((1 : Int) + (wordsOf (bytesOf s)).length + 2 ≤ (S.size : Int) - S.ws.length) = true := by
    unfold symOk at hok
    rw [Bool.and_eq_true] at hok
    exact hok.2
  have HH := Lib.hid (And.intro h (And.intro hlw (And.intro e3 (And.intro hok (And.intro hv hol)))))
  clear h ht hv hsm hok hlw e3 hol
  go_enter Try.func23, Try.ntmps23
  go_wp2_with fail
  refine hK.mono ?_
  rintro e w' ⟨rfl, j, rfl⟩
  go_wp2_with fail
  refine (hS j).mono ?_
  rintro e w' ⟨rfl, j2, rfl⟩
  go_wp2_with fail
  have hs1 := (HH.out.1.drewN (j + j2 + 1)).s.alloc (.cells (bytesRow s (grownCap (w.drewN (j + j2)) s.size 0 5)) 5 ((bytesRow s (grownCap (w.drewN (j + j2)) s.size 0 5)).size, (bytesRow s (grownCap (w.drewN (j + j2)) s.size 0 5)).size + 1))
  refine (words_str hs1 _ _ _ (bytesOf s) (bytesRow_in s _ _ _ _) (bytesOf_u s) (bytesOf_len s) hn).mono ?_
  rintro e w2 ⟨bo, rfl, hs2, hb2⟩
  have hb3 : Below 0 w w2 := ((drewN_below0 w (j + j2 + 1)).trans (Below.zero_alloc _ _)).trans hb2
  have h2 : StW w2 X V S Y R := StW.drop (StW.drop (Q := row 22 1 bo (wordsOf (bytesOf s)).length ((wordsOf (bytesOf s)).map Go.Proofs.Ytanjiecefioffaa.u64)) ⟨hs2.perm (by ac_rfl), HH.out.1.ok⟩)
  have hR := h2.room (1 + (wordsOf (bytesOf s)).length + 2)
  rw [HH.out.2.2.1] at hR
  have g1 : IntKind.i64.wrap (1 + ((wordsOf (bytesOf s)).length : Int)) = 1 + ((wordsOf (bytesOf s)).length : Int) := IntWalk.i64_in _ (by have := HH.out.2.1; omega)
  have g2 : IntKind.i64.wrap (1 + ((wordsOf (bytesOf s)).length : Int) + 2) = 1 + ((wordsOf (bytesOf s)).length : Int) + 2 := IntWalk.i64_in _ (by have := HH.out.2.1; omega)
  have HF := Lib.hid (And.intro h2 hb3)
  clear hs1 hs2 hb2 h2 hb3 hS hK hlk
  go_wp2_with fail
  refine hR.mono ?_
  rintro e w3 ⟨rfl, j3, rfl⟩
  go_wp2_with fail
  have hs4 := (HF.out.1.drewN (j3 + 1)).s.alloc (.cells (bytesRow s (grownCap (w2.drewN j3) s.size 0 5)) 5 ((bytesRow s (grownCap (w2.drewN j3) s.size 0 5)).size, (bytesRow s (grownCap (w2.drewN j3) s.size 0 5)).size + 1))
  have h4 : StW _ X V S Y _ := ⟨hs4.perm (Q := isHeap V S * (isSt X V.g Y * (_ * R))) (by ac_rfl), HF.out.1.ok⟩
  have hT := h4.Text_yes (some ⟨w2.heap.size, 0, none⟩) (grownCap (w2.drewN j3) s.size 0 5) (bytesOf s) (bytesRow_in s _ _ _ _) (bytesOf_u s) (by rw [bytesOf_len]; exact hn) (symOk_text HH.out.2.2.2.1 hsz)
  rw [bytesOf_len] at hT
  clear hs4 h4
  refine hT.mono ?_
  rintro e w5 ⟨rfl, hb5, V5, hg5, h5⟩
  have HG := Lib.hid (And.intro hg5 (And.intro h5.drop ((HF.out.2.trans (drewN_below0 w2 (j3 + 1))).trans ((Below.zero_alloc _ _).trans hb5))))
  clear hT h5 hb5 hg5
  go_wp2_with fail
  have hs6 := HG.out.2.1.s.alloc (.cells #[.int .u64 (4 * (S.ws.length : Int))] 22)
  have h6 : StW (w5.alloc (.cells #[.int .u64 (4 * (S.ws.length : Int))] 22)) X V5 (S.text (bytesOf s)) Y (Go.Proofs.Ytanjiecefioffaa.blk w5.heap.size (.cells #[.int .u64 (4 * (S.ws.length : Int))] 22 (0, 0)) * R) := ⟨hs6.perm (by ac_rfl), HG.out.2.1.ok⟩
  have hL := h6.lay_yes 4 (some ⟨w5.heap.size, 0, none⟩) 1 [4 * (S.ws.length : Int)] one_word (by intro x hx; simp at hx; subst hx; omega) (by simp [text_may HH.out.1.ok.wf.len]) (symOk_room HH.out.2.2.2.1)
  clear hs6 h6
  refine hL.mono ?_
  rintro e w7 ⟨rfl, hb7, V7, hg7, h7⟩
  clear hL
  have h7' : StW w7 X V7 (S.sym (bytesOf s)) Y R := h7.drop
  have hb8 := HG.out.2.2.trans ((Below.zero_alloc _ _).trans hb7)
  obtain ⟨w8, hr8, hs8, hb9⟩ := run_store_str (P := Try.prog) h7'.syms Try.underlying38 Try.underlying9 s (4 * ((S.text (bytesOf s)).ws.length : Int)) HH.out.2.2.2.2.1
  have c7 := h7'.c1
  have c8 := (hs8.right.right.left.cell 2).trans rfl
  have f8 := hs8.right.right.left.frozen 2
  have hg := hg7.trans HG.out.1
  have hok := h7'.ok
  have HJ := Lib.hid (And.intro hs8 (And.intro (hb8.trans hb9) (And.intro hg hok)))
  clear h7 h7' hb7 hb8 hs8 hb9 hg hok hg7
  go_wp2_with (at_builtin; refine halt ?_)
  refine goon ?_
  obtain ⟨i0, hi, hz0, hz1, hz2⟩ := info_parts info_string
  generalize hpp : 4 * ((S.text (bytesOf s)).ws.length : Int) = p at *
  have hs9 : sat (w8.alloc (.cells #[.string s] 9)) (own 9 1 X.ov Y.ord.length (Y.ord.map .string) * (Go.Proofs.Ytanjiecefioffaa.blk w8.heap.size (.cells #[.string s] 9 (0, 0)) * (mapS X.mb (Y.syms ++ [(s, p)]) * (Go.Proofs.Ytanjiecefioffaa.blk X.g (.cells #[.pointer (some ⟨V7.g, 0, none⟩), .map (some X.mb), X.ov, i64 Y.tm] 41 (0, 0)) * (isHeap V7 (S.sym (bytesOf s)) * R))))) := (HJ.out.1.alloc _).perm (by ac_rfl)
  have hb9 : Below 0 w (w8.alloc (.cells #[.string s] 9)) := HJ.out.2.1.trans (Below.zero_alloc _ _)
  have hnew : (w8.alloc (.cells #[.string s] 9)).cell? ⟨w8.heap.size, 0, none⟩ = some (.string s) := (hs9.right.left.cell 0).trans rfl
  have hol := HH.out.2.2.2.2.2
  generalize w8.alloc (.cells #[.string s] 9) = w9 at *
  refine wpList_append_one rfl (.tmp 65) (.tmp 67) 39 rfl 9 i0 (.string ⟨#[]⟩) 16 Try.underlying39 hi hz0 hz1 hz2 rfl X.ov Y.ord.length (Y.ord.map .string) rfl _ w8.heap.size (.string s) rfl ?_ hs9 hnew rfl (by omega) (by unfold maxLen; omega)
  intro v' w10 hs10 hb10
  obtain ⟨bo', co', rfl, hco, hlo, hro⟩ := hs10.own_some (by omega)
  have f10 := hs10.right.right.right.left.frozen 2
  have c10 := (hs10.right.right.right.left.cell 2).trans rfl
  have hs11 := (show sat w10 (Go.Proofs.Ytanjiecefioffaa.blk X.g (.cells #[.pointer (some ⟨V7.g, 0, none⟩), .map (some X.mb), X.ov, i64 Y.tm] 41 (0, 0)) * (own 9 1 (.slice (some ⟨bo', 0, none⟩) (Y.ord.length + 1) co') (Y.ord.length + 1) (Y.ord.map .string ++ [.string s]) * (Go.Proofs.Ytanjiecefioffaa.blk w8.heap.size (.cells #[.string s] 9 (0, 0)) * (mapS X.mb (Y.syms ++ [(s, p)]) * (isHeap V7 (S.sym (bytesOf s)) * R))))) from hs10.perm (by ac_rfl)).setCell (off := 2) (.slice (some ⟨bo', 0, none⟩) (Y.ord.length + 1) co')
  have hb11 := (hb9.trans hb10).setCell (p := ⟨X.g, 2, none⟩) (Nat.zero_le _) (.slice (some ⟨bo', 0, none⟩) (Y.ord.length + 1) co')
  have HK := Lib.hid (And.intro hs11 hb11)
  clear hs9 hnew hro hlo hco hs10 hs11 hb11 hb9 hb10 hi hz0 hz1 hz2 hol c8 f8 c7 hr8
  go_wp2_with fail
  go_ret2
  refine ⟨rfl, HK.out.2, ⟨X.g, X.mb, .slice (some ⟨bo', 0, none⟩) (Y.ord.length + 1) co'⟩, V7, rfl, rfl, HJ.out.2.2.1, ⟨?_, HJ.out.2.2.2⟩⟩
  have h12 := HK.out.1
  unfold isSt StS.sym
  simp only [List.map_append, List.map_cons, List.map_nil, List.length_append, List.length_cons, List.length_nil, Nat.zero_add]
  have h13 : sat _ (Go.Proofs.Ytanjiecefioffaa.blk w8.heap.size (.cells #[.string s] 9 (0, 0)) * (isHeap V7 (S.sym (bytesOf s)) * (Go.Proofs.Ytanjiecefioffaa.blk X.g (.cells #[.pointer (some ⟨V7.g, 0, none⟩), .map (some X.mb), .slice (some ⟨bo', 0, none⟩) (Y.ord.length + 1) co', i64 Y.tm] 41 (0, 0)) * (mapS X.mb (Y.syms ++ [(s, p)]) * own 9 1 (.slice (some ⟨bo', 0, none⟩) (Y.ord.length + 1) co') (Y.ord.length + 1) (Y.ord.map .string ++ [.string s])) * R))) := h12.perm (by
    simp only [List.setIfInBounds_toArray, List.set_cons_succ, List.set_cons_zero]
    ac_rfl)
  exact h13.right
end
end Go.Proofs.Ytanjiecefioffaa

/- value.Store: shape. -/
namespace Go.Proofs.Ytanjiecefioffaa
open Go.RowKit

/-- Is a word an object of a kind, with so many fields? -/
def HS.shape (S : HS) (x k t r : Int) : Bool := decide (S.kind x = k) && ((decide (t < 0) || decide (S.tag x = t)) && (decide (r < 0) || decide (S.raw x = r)))

section
variable {w : World} {X : StV} {V : HV} {S : HS} {Y : StS} {R : HP}
set_option maxRecDepth 100000 in
set_option maxHeartbeats 1000000 in
theorem StW.shape (h : StW w X V S Y R) (x k t r : Int) (x0 : 0 ≤ x) (x1 : x < 18446744073709551616) :
    Calls Try.prog 63 #[.pointer (some ⟨X.g, 0, none⟩), .int .u64 x, .int .i64 k, .int .i64 t, .int .i64 r] w (Says (.bool (S.shape x k t r)) w) := by
  have c0 := h.c0
  have hK := h.hw.v.Kind x x0 x1
  have hT := fun n : Nat => (h.drewN n).hw.v.Tagged x x0 x1
  have hR := fun n : Nat => (h.drewN n).hw.v.Raws x x0 x1
  unfold HS.shape
  generalize S.kind x = kk at *
  generalize S.tag x = tt at *
  generalize S.raw x = rr at *
  clear h
  by_cases h1 : kk = k
  · have b1 : (kk == k) = true := by simp [h1]
    rw [decide_eq_true h1]
    clear h1
    by_cases h2 : t < 0
    · have b2 : decide (t < 0) = true := by simp [h2]
      rw [b2]
      clear h2
      by_cases h3 : r < 0
      · have b3 : decide (r < 0) = true := by simp [h3]
        rw [b3]
        clear h3
        go_enter Try.func63, Try.ntmps63
        go_wp2_with fail
        refine hK.mono ?_
        rintro e w' ⟨rfl, j, rfl⟩
        go_wp2_with fail
        go_ret
        exact ⟨by first | rfl | (simp; done) | (simp; rfl), _, rfl⟩
      · have b3 : decide (r < 0) = false := by simp; omega
        rw [b3]
        clear h3
        go_enter Try.func63, Try.ntmps63
        go_wp2_with fail
        refine hK.mono ?_
        rintro e w' ⟨rfl, j, rfl⟩
        go_wp2_with fail
        refine (hR (j)).mono ?_
        rintro e w' ⟨rfl, j0, rfl⟩
        go_wp2_with fail
        go_ret
        exact ⟨by first | rfl | (simp; done) | (simp; rfl), _, rfl⟩
    · have b2 : decide (t < 0) = false := by simp; omega
      rw [b2]
      by_cases h4 : tt = t
      · have b4 : (tt == t) = true := by simp [h4]
        rw [decide_eq_true h4]
        clear h2 h4
        by_cases h3 : r < 0
        · have b3 : decide (r < 0) = true := by simp [h3]
          rw [b3]
          clear h3
          go_enter Try.func63, Try.ntmps63
          go_wp2_with fail
          refine hK.mono ?_
          rintro e w' ⟨rfl, j, rfl⟩
          go_wp2_with fail
          refine (hT (j)).mono ?_
          rintro e w' ⟨rfl, j0, rfl⟩
          go_wp2_with fail
          go_ret
          exact ⟨by first | rfl | (simp; done) | (simp; rfl), _, rfl⟩
        · have b3 : decide (r < 0) = false := by simp; omega
          rw [b3]
          clear h3
          go_enter Try.func63, Try.ntmps63
          go_wp2_with fail
          refine hK.mono ?_
          rintro e w' ⟨rfl, j, rfl⟩
          go_wp2_with fail
          refine (hT (j)).mono ?_
          rintro e w' ⟨rfl, j0, rfl⟩
          go_wp2_with fail
          refine (hR (j + j0)).mono ?_
          rintro e w' ⟨rfl, j1, rfl⟩
          go_wp2_with fail
          go_ret
          exact ⟨by first | rfl | (simp; done) | (simp; rfl), _, rfl⟩
      · have b4 : (tt == t) = false := by simp [h4]
        rw [decide_eq_false h4]
        clear h2 h4
        go_enter Try.func63, Try.ntmps63
        go_wp2_with fail
        refine hK.mono ?_
        rintro e w' ⟨rfl, j, rfl⟩
        go_wp2_with fail
        refine (hT (j)).mono ?_
        rintro e w' ⟨rfl, j0, rfl⟩
        go_wp2_with fail
        go_ret
        exact ⟨by first | rfl | (simp; done) | (simp; rfl), _, rfl⟩
  · have b1 : (kk == k) = false := by simp [h1]
    rw [decide_eq_false h1]
    clear h1
    go_enter Try.func63, Try.ntmps63
    go_wp2_with fail
    refine hK.mono ?_
    rintro e w' ⟨rfl, j, rfl⟩
    go_wp2_with fail
    go_ret
    exact ⟨by first | rfl | (simp; done) | (simp; rfl), _, rfl⟩
end
end Go.Proofs.Ytanjiecefioffaa

/- value.Store: Bytes. -/
namespace Go.Proofs.Ytanjiecefioffaa
open Go.RowKit

def u8v (x : Int) : Value := .int .u8 x
def HS.rawAt (S : HS) (x i : Int) : Int := (S.getRaw x i).1
def HS.bytesN (S : HS) (x : Int) : Int := S.rawAt x 0
def HS.byteAt (S : HS) (x : Int) (i : Nat) : Int := S.rawAt x (1 + (i / 8 : Nat)) / 2 ^ (8 * (i % 8)) % 256
def HS.bytesFit (S : HS) (x : Int) : Bool := S.shape x 3 0 (-1) && (decide (S.bytesN x ≤ 8388608) && decide (S.raw x = 1 + (S.bytesN x + 7) / 8))
/-- Nothing stands behind the last byte. -/
def HS.bytesEnd (S : HS) (x : Int) : Bool := decide (S.bytesN x % 8 = 0) || decide (S.rawAt x (S.raw x - 1) / 2 ^ (8 * (S.bytesN x % 8).toNat) = 0)
def HS.bytesOk (S : HS) (x : Int) : Bool := S.bytesFit x && S.bytesEnd x
def HS.bytesL (S : HS) (x : Int) : List Int := (List.range (S.bytesN x).toNat).map (S.byteAt x)
def HS.bytes (S : HS) (x : Int) : List Int := if S.bytesOk x = true then S.bytesL x else []

def BytesPost (X : StV) (V : HV) (S : HS) (Y : StS) (R : HP) (x : Int) (w : World) (e : Ending) (w' : World) : Prop :=
  ∃ v, e = .returned (.tuple #[v, .bool (S.bytesOk x)]) ∧ StW w' X V S Y (own 5 1 v (S.bytes x).length ((S.bytes x).map u8v) * R) ∧ Below 0 w w'
def BRel (W : World) (X : StV) (V : HV) (S : HS) (Y : StS) (R : HP) (bo n : Nat) (l : List Int) (i : Value) (wr : World) : Prop :=
  ∃ k : Nat, k ≤ n ∧ i = .int .i64 k ∧ StW wr X V S Y (row 5 1 bo n ((l.take k ++ List.replicate (n - k) 0).map u8v) * R) ∧ Below 0 W wr
theorem info_u8 : (Try.prog.info? 5).map (fun i => (i.zero, i.size, i.bytes)) = some (some (.int .u8 0), 1, 1) := by kernel_rfl
theorem HeapV.raw_bd {w : World} {V : HV} {S : HS} (h : HeapV w V S) (x i : Int) (x0 : 0 ≤ x) : 0 ≤ S.rawAt x i ∧ S.rawAt x i < 18446744073709551616 := by
  unfold HS.rawAt HS.getRaw
  split
  · rename_i hi
    obtain ⟨hp, hlt, hb⟩ := h.raw_is hi.1 hi.2
    have ht := tagH_bd (S.head x)
    have ht' : 0 ≤ S.tag x ∧ S.tag x ≤ 16777216 := by unfold HS.tag; omega
    have hl : fieldAt x (S.tag x) i < S.ws.length := by unfold fieldAt; omega
    rw [List.getD_eq_getElem?_getD, List.getElem?_eq_getElem hl]
    exact h.ok.wf.u _ (List.getElem_mem hl)
  · exact ⟨by decide, by decide⟩
theorem HS.getRaw_eq (S : HS) (x i : Int) : S.getRaw x i = (S.rawAt x i, decide (0 ≤ i ∧ i < S.raw x)) := by
  unfold HS.rawAt HS.getRaw
  split <;> simp_all

theorem take_step {α β : Type} (f : α → β) (l : List α) (n k : Nat) (z v : α) (hv : l[k]? = some v) (hk : k < n) :
    ((l.take k ++ List.replicate (n - k) z).map f).set k (f v) = (l.take (k + 1) ++ List.replicate (n - (k + 1)) z).map f := by
  have hl := (List.getElem?_eq_some_iff.1 hv).1
  have hxl : ((l.take k).map f).length = k := by rw [List.length_map, List.length_take]; omega
  rw [List.map_append, List.set_append_right _ _ (by omega), hxl, Nat.sub_self, List.take_add_one, hv, List.map_append, List.map_append, List.append_assoc]
  congr 1
  rw [show n - k = (n - (k + 1)) + 1 by omega, List.replicate_succ]
  simp

section
variable {w : World} {X : StV} {V : HV} {S : HS} {Y : StS} {R : HP}
theorem StW.Raw (h : StW w X V S Y R) (x i : Int) (x0 : 0 ≤ x) (x1 : x < 18446744073709551616) :
    Calls Try.prog 70 #[.pointer (some ⟨V.g, 0, none⟩), .int .u64 x, .int .i64 i] w (Says (.tuple #[.int .u64 (S.rawAt x i), .bool (decide (0 ≤ i ∧ i < S.raw x))]) w) := by
  have h1 := h.hw.v.Raw x i x0 x1
  rw [HS.getRaw_eq] at h1
  exact h1

set_option maxRecDepth 100000 in
set_option maxHeartbeats 1000000 in
theorem StW.Bytes_unfit (h : StW w X V S Y R) (x : Int) (x0 : 0 ≤ x) (x1 : x < 18446744073709551616) (hf : S.bytesFit x = false) :
    Calls Try.prog 46 #[.pointer (some ⟨X.g, 0, none⟩), .int .u64 x] w (Says (.tuple #[.slice none 0 0, .bool false]) w) := by
  have c0 := h.c0
  have hRaw := h.Raw x 0 x0 x1
  have hSh := fun n : Nat => (h.drewN n).shape x 3 0 (-1) x0 x1
  have hR := fun n : Nat => (h.drewN n).hw.v.Raws x x0 x1
  have hb := h.hw.v.raw_bd x 0 x0
  unfold HS.bytesFit HS.bytesN at hf
  generalize S.shape x 3 0 (-1) = sh at *
  generalize S.rawAt x 0 = n at *
  have hrr : S.raw x < 16777216 ∧ 0 ≤ S.raw x := by unfold HS.raw; have := rawH_bd (S.head x); omega
  generalize S.raw x = rr at *
  generalize decide ((0 : Int) ≤ 0 ∧ 0 < rr) = bb at *
  clear h
  cases sh with
  | false =>
    clear hf
    go_enter Try.func46, Try.ntmps46
    go_wp2_with fail
    refine hRaw.mono ?_
    rintro e w' ⟨rfl, j, rfl⟩
    go_wp2_with fail
    refine (hSh j).mono ?_
    rintro e w' ⟨rfl, j2, rfl⟩
    go_wp2_with fail
    go_ret2
    exact ⟨rfl, _, rfl⟩
  | true =>
    by_cases h1 : n ≤ 8388608
    · have b1 : decide (n > 8388608) = false := by simp; omega
      have w1 : IntKind.i64.wrap n = n := IntWalk.i64_in _ (by omega)
      have w2 : IntKind.i64.wrap (n + 7) = n + 7 := IntWalk.i64_in _ (by omega)
      obtain ⟨q, hq⟩ : ∃ q, (n + 7) / 8 = q := ⟨_, rfl⟩
      have b2 : (rr != 1 + q) = true := by
        rw [bne_iff_ne]
        rintro rfl
        rw [decide_eq_true h1, hq] at hf
        simp at hf
      have d1 : (n + 7).tdiv 8 = q := by rw [Int.tdiv_eq_ediv_of_nonneg (by omega)]; exact hq
      have w3 : IntKind.i64.wrap q = q := IntWalk.i64_in _ (by omega)
      have w4 : IntKind.i64.wrap (1 + q) = 1 + q := IntWalk.i64_in _ (by omega)
      clear hf hq h1
      go_enter Try.func46, Try.ntmps46
      go_wp2_with fail
      refine hRaw.mono ?_
      rintro e w' ⟨rfl, j, rfl⟩
      go_wp2_with fail
      refine (hSh j).mono ?_
      rintro e w' ⟨rfl, j2, rfl⟩
      go_wp2_with fail
      refine (hR (j + j2)).mono ?_
      rintro e w' ⟨rfl, j3, rfl⟩
      go_wp2_with fail
      go_ret2
      exact ⟨rfl, _, rfl⟩
    · have b1 : decide (n > 8388608) = true := by simp; omega
      clear hf
      go_enter Try.func46, Try.ntmps46
      go_wp2_with fail
      refine hRaw.mono ?_
      rintro e w' ⟨rfl, j, rfl⟩
      go_wp2_with fail
      refine (hSh j).mono ?_
      rintro e w' ⟨rfl, j2, rfl⟩
      go_wp2_with fail
      go_ret2
      exact ⟨rfl, _, rfl⟩

set_option maxRecDepth 100000 in
set_option maxHeartbeats 1000000 in
theorem StW.Bytes_fit (h : StW w X V S Y R) (x : Int) (x0 : 0 ≤ x) (x1 : x < 18446744073709551616) (hf : S.bytesFit x = true) :
    Calls Try.prog 46 #[.pointer (some ⟨X.g, 0, none⟩), .int .u64 x] w (BytesPost X V S Y R x w) := by
  have c0 := h.c0
  have hRaw := h.Raw x 0 x0 x1
  have hSh := fun n : Nat => (h.drewN n).shape x 3 0 (-1) x0 x1
  have hR := fun n : Nat => (h.drewN n).hw.v.Raws x x0 x1
  have hb := h.hw.v.raw_bd x 0 x0
  obtain ⟨i0, hi, hz0, hz1, hz2⟩ := info_parts info_u8
  have H1 := Lib.hid (And.intro hi (And.intro hz0 (And.intro hz1 hz2)))
  clear hi hz0 hz1 hz2
  have hf2 := hf
  unfold HS.bytesFit HS.bytesN at hf2
  rw [Bool.and_eq_true, Bool.and_eq_true, decide_eq_true_eq, decide_eq_true_eq] at hf2
  obtain ⟨f1, f2, f3⟩ := hf2
  obtain ⟨n, hn⟩ : ∃ n : Nat, S.rawAt x 0 = n := ⟨(S.rawAt x 0).toNat, by omega⟩
  rw [hn] at hRaw hb f2 f3
  rw [f1] at hSh
  obtain ⟨q, hq⟩ : ∃ q : Nat, (n + 7) / 8 = q := ⟨_, rfl⟩
  have b1 : decide ((n : Int) > 8388608) = false := by simp; omega
  have w1 : IntKind.i64.wrap (n : Int) = n := IntWalk.i64_in _ (by omega)
  have w2 : IntKind.i64.wrap ((n : Int) + 7) = n + 7 := IntWalk.i64_in _ (by omega)
  have d1 : ((n : Int) + 7).tdiv 8 = q := by rw [Int.tdiv_eq_ediv_of_nonneg (by omega)]; omega
  have w3 : IntKind.i64.wrap (q : Int) = q := IntWalk.i64_in _ (by omega)
  have w4 : IntKind.i64.wrap (1 + (q : Int)) = 1 + q := IntWalk.i64_in _ (by omega)
  have f4 : S.raw x = 1 + (q : Int) := by omega
  have hnb : n ≤ 8388608 := by omega
  have hqb : q ≤ 1048577 := by omega
  rw [f4] at hR
  have b2 : ((1 + (q : Int)) != 1 + q) = false := by simp
  generalize decide ((0 : Int) ≤ 0 ∧ 0 < S.raw x) = bb at *
  have HH := Lib.hid (And.intro h (And.intro hf (And.intro hn (And.intro hq f4))))
  clear h hf f1 f2 f3 f4 hn hq
  go_enter Try.func46, Try.ntmps46
  go_wp2_with fail
  refine hRaw.mono ?_
  rintro e w' ⟨rfl, j, rfl⟩
  go_wp2_with fail
  refine (hSh j).mono ?_
  rintro e w' ⟨rfl, j2, rfl⟩
  go_wp2_with fail
  refine (hR (j + j2)).mono ?_
  rintro e w' ⟨rfl, j3, rfl⟩
  go_wp2_with (at_make; refine halt ?_)
  refine goon ?_
  obtain ⟨hi, hz0, hz1, hz2⟩ := H1.out
  have hs0 := (HH.out.1.drewN (j + j2 + j3)).s
  have hb0 := drewN_below0 w (j + j2 + j3)
  generalize w.drewN (j + j2 + j3) = w0 at *
  refine wpList_make_sat rfl 44 (.tmp 45) (.tmp 45) rfl 5 i0 (.int .u8 0) 1 Try.underlying44 hi hz0 hz1 hz2 rfl .u64 .u64 (n : Int) (isHeap V S * (isSt X V.g Y * R)) rfl rfl ?_ hs0 (by omega) (by omega) (by omega)
  clear hi hz0 hz1 hz2
  intro bo w2 hs2 hb2
  rw [show (n : Int).toNat = n by omega] at hs2 ⊢
  have hl : ∃ l : List Int, S.bytesL x = l ∧ l.length = n := ⟨_, rfl, by unfold HS.bytesL HS.bytesN; rw [HH.out.2.2.1]; simp⟩
  obtain ⟨l, hl, hln⟩ := hl
  have h2 : StW w2 X V S Y (row 5 1 bo n ((l.take 0 ++ List.replicate (n - 0) 0).map u8v) * R) := ⟨(hs2.perm (by simp only [List.take_zero, List.nil_append, Nat.sub_zero, List.map_replicate]; show _ = isHeap V S * (isSt X V.g Y * (row 5 1 bo n (List.replicate n (Value.int .u8 0)) * R)); ac_rfl)), HH.out.1.ok⟩
  have HB := Lib.hid (And.intro h2 (hb0.trans hb2))
  clear hs0 hb0 hs2 hb2 h2
  go_wp2_with fail
  go_loopw [49] (BRel w X V S Y R bo n l) (fun i _ => n - (intOf i).toNat)
  case atStart => exact ⟨0, Nat.zero_le _, rfl, HB.out.1, HB.out.2⟩
  case round =>
    clear HB
    obtain ⟨k, hk, rfl, hs, hb'⟩ := hrel
    by_cases hlt : k < n
    · have c0' := hs.c0
      have hRk := hs.Raw x (1 + (k / 8 : Nat)) x0 x1
      have e2 : ((k : Int).tdiv 8) = ((k / 8 : Nat) : Int) := by rw [Int.tdiv_eq_ediv_of_nonneg (by omega)]; omega
      have e3 : ((k : Int).tmod 8) = ((k % 8 : Nat) : Int) := by rw [Int.tmod_eq_emod_of_nonneg (by omega)]; omega
      have g1 : IntKind.i64.wrap ((k / 8 : Nat) : Int) = ((k / 8 : Nat) : Int) := IntWalk.i64_in _ (by omega)
      have g2 : IntKind.i64.wrap (1 + ((k / 8 : Nat) : Int)) = 1 + ((k / 8 : Nat) : Int) := IntWalk.i64_in _ (by omega)
      have HX := Lib.hid (And.intro hs hb')
      clear hs hb'
      go_wp2_with fail
      refine hRk.mono ?_
      rintro e w' ⟨rfl, j4, rfl⟩
      have hs4 := (HX.out.1.drewN j4)
      have hb4 := HX.out.2.trans (drewN_below0 wr j4)
      generalize wr.drewN j4 = w4 at *
      have hrow : sat w4 (row 5 1 bo n ((l.take k ++ List.replicate (n - k) 0).map u8v) * (isHeap V S * (isSt X V.g Y * R))) := hs4.s.perm (by ac_rfl)
      have hxl : (l.take k).length = k := by rw [List.length_take]; omega
      have hcell := hrow.row_cell (j := k) (v := .int .u8 0) (by rw [List.getElem?_map, List.getElem?_append_right (by omega), hxl, Nat.sub_self, List.getElem?_replicate, if_pos (by omega)]; rfl)
      have hfr := hrow.row_frozen k
      have g6 : IntKind.i64.wrap (((k % 8 : Nat) : Int) * 8) = ((8 * (k % 8) : Nat) : Int) := by rw [IntWalk.i64_in _ (by omega)]; omega
      have HY := Lib.hid (And.intro hrow (And.intro hb4 hs4.ok))
      clear HX hs4 hb4 hrow
      go_wp2_with fail
      go_roundw
      case rel =>
        have hlk : l[k]? = some (S.byteAt x k) := by
          rw [← hl]
          unfold HS.bytesL HS.bytesN
          rw [HH.out.2.2.1, List.getElem?_map, List.getElem?_range (by omega)]
          rfl
        have hv : S.rawAt x (1 + (k : Int) / 8) / 2 ^ (k % 8 * 8) % 256 = S.byteAt x k := by
          unfold HS.byteAt
          rw [Nat.mul_comm (k % 8) 8]
          rfl
        rw [hv]
        have hs5 := HY.out.1.row_set k (u8v (S.byteAt x k))
        rw [take_step u8v l n k 0 _ hlk hlt] at hs5
        exact ⟨k + 1, by omega, by go_num, ⟨hs5.perm (by ac_rfl), HY.out.2.2⟩, HY.out.2.1.setCell (p := ⟨bo, k, none⟩) (Nat.zero_le _) _⟩
      case measure => simp [intOf]; omega
    · obtain rfl : k = n := by omega
      have hge : (k : Int) ≤ k := by omega
      rw [Nat.sub_self, List.replicate_zero, List.append_nil, List.take_of_length_le (by omega)] at hs
      have c0' := hs.c0
      have hRl := fun m : Nat => (hs.drewN m).Raw x q x0 x1
      have hRs := fun m : Nat => (hs.drewN m).hw.v.Raws x x0 x1
      rw [HH.out.2.2.2.2] at hRs hRl
      have HX := Lib.hid (And.intro hs hb')
      have g5 : IntKind.i64.wrap (1 + (q : Int) - 1) = q := by rw [IntWalk.i64_in _ (by omega)]; omega
      clear hs hb'
      go_wp2_with fail
      go_quiet ((first
        | (go_at_call 71; exact Calls.said (hRs _))
        | (go_at_call 70; exact Calls.said (hRl _))))
      obtain ⟨last, hlast⟩ : ∃ last, S.rawAt x q = last := ⟨_, rfl⟩
      have hend : S.bytesEnd x = (decide (k % 8 = 0) || decide (last / 2 ^ (8 * (k % 8)) = 0)) := by
        unfold HS.bytesEnd HS.bytesN
        rw [HH.out.2.2.1, HH.out.2.2.2.2, show (1 + (q : Int) - 1) = q by omega, hlast, show ((k : Int) % 8).toNat = k % 8 by omega]
        congr 1
        exact decide_eq_decide.2 (by omega)
      rw [hlast] at hRl ⊢
      have HE := Lib.hid hend
      clear hend hlast
      have hyes : S.bytesEnd x = true → BytesPost X V S Y R x w (.returned (.tuple #[.slice (some ⟨bo, 0, none⟩) k k, .bool true])) (wr.drewN nq) := by
        intro he
        have hok : S.bytesOk x = true := by unfold HS.bytesOk; rw [HH.out.2.1, he]; rfl
        have hby : S.bytes x = l := by unfold HS.bytes; rw [if_pos hok]; exact hl
        refine ⟨_, by rw [hok], ⟨?_, HX.out.1.ok⟩, HX.out.2.trans (drewN_below0 _ _)⟩
        rw [hby, hln]
        have h1 : sat (wr.drewN nq) (row 5 1 bo k (l.map u8v) * (isHeap V S * (isSt X V.g Y * R))) := (HX.out.1.drewN nq).s.perm (by ac_rfl)
        exact (sat.shut_own (by simp [hln]) (Nat.le_refl _) h1).perm (by ac_rfl)
      have hno : S.bytesEnd x = false → BytesPost X V S Y R x w (.returned (.tuple #[.slice none 0 0, .bool false])) (wr.drewN nq) := by
        intro he
        have hok : S.bytesOk x = false := by unfold HS.bytesOk; rw [he]; exact Bool.and_false _
        have hby : S.bytes x = [] := by unfold HS.bytes; rw [if_neg (by rw [hok]; simp)]
        refine ⟨_, by rw [hok], ⟨?_, HX.out.1.ok⟩, HX.out.2.trans (drewN_below0 _ _)⟩
        rw [hby]
        exact ((HX.out.1.drewN nq).drop.s.nil_own).perm (by simp only [List.map_nil, List.length_nil]; ac_rfl)
      have HQ := Lib.hid (And.intro hyes hno)
      clear hyes hno
      by_cases hz : k % 8 = 0
      · have b4 : decide ((k : Int) % 8 > 0) = false := by simp; omega
        go_wp2_with fail
        go_ret2
        exact HQ.out.1 (by rw [HE.out]; simp [hz])
      · have b4 : decide ((k : Int) % 8 > 0) = true := by simp; omega
        have g7 : ((k : Int) % 8) = ((k % 8 : Nat) : Int) := by omega
        have g8 : IntKind.u64.wrap (((k % 8 : Nat) : Int) * 8) = ((8 * (k % 8) : Nat) : Int) := by rw [IntKind.wrap_u64]; omega
        have HG := Lib.hid g7
        by_cases he : last / 2 ^ (8 * (k % 8)) = 0
        · have b5 : (last / 2 ^ (k % 8 * 8) != 0) = false := by rw [Nat.mul_comm]; simp [he]
          clear g7
          go_wp2_with fail
          go_ret2
          exact HQ.out.1 (by rw [HE.out]; simp [he])
        · have b5 : (last / 2 ^ (k % 8 * 8) != 0) = true := by rw [Nat.mul_comm]; simp [he]
          clear g7
          go_wp2_with fail
          go_ret2
          exact HQ.out.2 (by rw [HE.out]; simp [he, hz])
theorem StW.Bytes (h : StW w X V S Y R) (x : Int) (x0 : 0 ≤ x) (x1 : x < 18446744073709551616) :
    Calls Try.prog 46 #[.pointer (some ⟨X.g, 0, none⟩), .int .u64 x] w (BytesPost X V S Y R x w) := by
  cases hf : S.bytesFit x with
  | true => exact h.Bytes_fit x x0 x1 hf
  | false =>
    refine (h.Bytes_unfit x x0 x1 hf).mono ?_
    rintro e w' ⟨rfl, j, rfl⟩
    have hok : S.bytesOk x = false := by unfold HS.bytesOk; rw [hf]; rfl
    have hby : S.bytes x = [] := by unfold HS.bytes; rw [if_neg (by rw [hok]; simp)]
    refine ⟨_, by rw [hok], ⟨?_, h.ok⟩, drewN_below0 _ _⟩
    rw [hby]
    exact ((h.drewN j).s.nil_own).perm (by simp only [List.map_nil, List.length_nil]; ac_rfl)
end
end Go.Proofs.Ytanjiecefioffaa
