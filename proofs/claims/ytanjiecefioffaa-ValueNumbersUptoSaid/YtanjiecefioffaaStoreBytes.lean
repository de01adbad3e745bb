/- value.Store: Bytes. -/
import Derived.Test.YtanjiecefioffaaShape
namespace Go.Proofs.Ytanjiecefioffaa
open Go.RowKit

def u8v (x : Int) : Value := .int .u8 x
def HS.rawAt (S : HS) (x i : Int) : Int := (S.getRaw x i).1
def HS.bytesN (S : HS) (x : Int) : Int := S.rawAt x 0
def HS.byteAt (S : HS) (x : Int) (i : Nat) : Int := S.rawAt x (1 + (i / 8 : Nat)) / 2 ^ (8 * (i % 8)) % 256
def HS.bytesFit (S : HS) (x : Int) : Bool := S.shape x 3 0 (-1) && (decide (S.bytesN x ≤ 8388608) && decide (S.raw x = 1 + (S.bytesN x + 7) / 8))
/-- Nothing stands behind the last byte. -/
def HS.bytesEnd (S : HS) (x : Int) : Bool := decide (S.bytesN x % 8 = 0) || decide (S.rawAt x (S.raw x - 1) / 2 ^ (8 * (S.bytesN x % 8).toNat) = 0)
def HS.bytesOk (S : HS) (x : Int) : Bool := S.bytesFit x && S.bytesEnd x
def HS.bytesL (S : HS) (x : Int) : List Int := (List.range (S.bytesN x).toNat).map (S.byteAt x)
def HS.bytes (S : HS) (x : Int) : List Int := if S.bytesOk x = true then S.bytesL x else []

def BytesPost (X : StV) (V : HV) (S : HS) (Y : StS) (R : HP) (x : Int) (w : World) (e : Ending) (w' : World) : Prop :=
  ∃ v, e = .returned (.tuple #[v, .bool (S.bytesOk x)]) ∧ StW w' X V S Y (own 5 1 v (S.bytes x).length ((S.bytes x).map u8v) * R) ∧ Below 0 w w'
def BRel (W : World) (X : StV) (V : HV) (S : HS) (Y : StS) (R : HP) (bo n : Nat) (l : List Int) (i : Value) (wr : World) : Prop :=
  ∃ k : Nat, k ≤ n ∧ i = .int .i64 k ∧ StW wr X V S Y (row 5 1 bo n ((l.take k ++ List.replicate (n - k) 0).map u8v) * R) ∧ Below 0 W wr
theorem info_u8 : (Try.prog.info? 5).map (fun i => (i.zero, i.size, i.bytes)) = some (some (.int .u8 0), 1, 1) := by kernel_rfl
theorem HeapV.raw_bd {w : World} {V : HV} {S : HS} (h : HeapV w V S) (x i : Int) (x0 : 0 ≤ x) : 0 ≤ S.rawAt x i ∧ S.rawAt x i < 18446744073709551616 := by
  unfold HS.rawAt HS.getRaw
  split
  · rename_i hi
    obtain ⟨hp, hlt, hb⟩ := h.raw_is hi.1 hi.2
    have ht := tagH_bd (S.head x)
    have ht' : 0 ≤ S.tag x ∧ S.tag x ≤ 16777216 := by unfold HS.tag; omega
    have hl : fieldAt x (S.tag x) i < S.ws.length := by unfold fieldAt; omega
    rw [List.getD_eq_getElem?_getD, List.getElem?_eq_getElem hl]
    exact h.ok.wf.u _ (List.getElem_mem hl)
  · exact ⟨by decide, by decide⟩
theorem HS.getRaw_eq (S : HS) (x i : Int) : S.getRaw x i = (S.rawAt x i, decide (0 ≤ i ∧ i < S.raw x)) := by
  unfold HS.rawAt HS.getRaw
  split <;> simp_all

theorem take_step {α β : Type} (f : α → β) (l : List α) (n k : Nat) (z v : α) (hv : l[k]? = some v) (hk : k < n) :
    ((l.take k ++ List.replicate (n - k) z).map f).set k (f v) = (l.take (k + 1) ++ List.replicate (n - (k + 1)) z).map f := by
  have hl := (List.getElem?_eq_some_iff.1 hv).1
  have hxl : ((l.take k).map f).length = k := by rw [List.length_map, List.length_take]; omega
  rw [List.map_append, List.set_append_right _ _ (by omega), hxl, Nat.sub_self, List.take_add_one, hv, List.map_append, List.map_append, List.append_assoc]
  congr 1
  rw [show n - k = (n - (k + 1)) + 1 by omega, List.replicate_succ]
  simp

section
variable {w : World} {X : StV} {V : HV} {S : HS} {Y : StS} {R : HP}
theorem StW.Raw (h : StW w X V S Y R) (x i : Int) (x0 : 0 ≤ x) (x1 : x < 18446744073709551616) :
    Calls Try.prog 70 #[.pointer (some ⟨V.g, 0, none⟩), .int .u64 x, .int .i64 i] w (Says (.tuple #[.int .u64 (S.rawAt x i), .bool (decide (0 ≤ i ∧ i < S.raw x))]) w) := by
  have h1 := h.hw.v.Raw x i x0 x1
  rw [HS.getRaw_eq] at h1
  exact h1

set_option maxRecDepth 100000 in
set_option maxHeartbeats 1000000 in
theorem StW.Bytes_unfit (h : StW w X V S Y R) (x : Int) (x0 : 0 ≤ x) (x1 : x < 18446744073709551616) (hf : S.bytesFit x = false) :
    Calls Try.prog 46 #[.pointer (some ⟨X.g, 0, none⟩), .int .u64 x] w (Says (.tuple #[.slice none 0 0, .bool false]) w) := by
  have c0 := h.c0
  have hRaw := h.Raw x 0 x0 x1
  have hSh := fun n : Nat => (h.drewN n).shape x 3 0 (-1) x0 x1
  have hR := fun n : Nat => (h.drewN n).hw.v.Raws x x0 x1
  have hb := h.hw.v.raw_bd x 0 x0
  unfold HS.bytesFit HS.bytesN at hf
  generalize S.shape x 3 0 (-1) = sh at *
  generalize S.rawAt x 0 = n at *
  have hrr : S.raw x < 16777216 ∧ 0 ≤ S.raw x := by unfold HS.raw; have := rawH_bd (S.head x); omega
  generalize S.raw x = rr at *
  generalize decide ((0 : Int) ≤ 0 ∧ 0 < rr) = bb at *
  clear h
  cases sh with
  | false =>
    clear hf
    go_enter Try.func46, Try.ntmps46
    go_wp2_with fail
    refine hRaw.mono ?_
    rintro e w' ⟨rfl, j, rfl⟩
    go_wp2_with fail
    refine (hSh j).mono ?_
    rintro e w' ⟨rfl, j2, rfl⟩
    go_wp2_with fail
    go_ret2
    exact ⟨rfl, _, rfl⟩
  | true =>
    by_cases h1 : n ≤ 8388608
    · have b1 : decide (n > 8388608) = false := by simp; omega
      have w1 : IntKind.i64.wrap n = n := IntWalk.i64_in _ (by omega)
      have w2 : IntKind.i64.wrap (n + 7) = n + 7 := IntWalk.i64_in _ (by omega)
      obtain ⟨q, hq⟩ : ∃ q, (n + 7) / 8 = q := ⟨_, rfl⟩
      have b2 : (rr != 1 + q) = true := by
        rw [bne_iff_ne]
        rintro rfl
        rw [decide_eq_true h1, hq] at hf
        simp at hf
      have d1 : (n + 7).tdiv 8 = q := by rw [Int.tdiv_eq_ediv_of_nonneg (by omega)]; exact hq
      have w3 : IntKind.i64.wrap q = q := IntWalk.i64_in _ (by omega)
      have w4 : IntKind.i64.wrap (1 + q) = 1 + q := IntWalk.i64_in _ (by omega)
      clear hf hq h1
      go_enter Try.func46, Try.ntmps46
      go_wp2_with fail
      refine hRaw.mono ?_
      rintro e w' ⟨rfl, j, rfl⟩
      go_wp2_with fail
      refine (hSh j).mono ?_
      rintro e w' ⟨rfl, j2, rfl⟩
      go_wp2_with fail
      refine (hR (j + j2)).mono ?_
      rintro e w' ⟨rfl, j3, rfl⟩
      go_wp2_with fail
      go_ret2
      exact ⟨rfl, _, rfl⟩
    · have b1 : decide (n > 8388608) = true := by simp; omega
      clear hf
      go_enter Try.func46, Try.ntmps46
      go_wp2_with fail
      refine hRaw.mono ?_
      rintro e w' ⟨rfl, j, rfl⟩
      go_wp2_with fail
      refine (hSh j).mono ?_
      rintro e w' ⟨rfl, j2, rfl⟩
      go_wp2_with fail
      go_ret2
      exact ⟨rfl, _, rfl⟩

set_option maxRecDepth 100000 in
set_option maxHeartbeats 1000000 in
theorem StW.Bytes_fit (h : StW w X V S Y R) (x : Int) (x0 : 0 ≤ x) (x1 : x < 18446744073709551616) (hf : S.bytesFit x = true) :
    Calls Try.prog 46 #[.pointer (some ⟨X.g, 0, none⟩), .int .u64 x] w (BytesPost X V S Y R x w) := by
  have c0 := h.c0
  have hRaw := h.Raw x 0 x0 x1
  have hSh := fun n : Nat => (h.drewN n).shape x 3 0 (-1) x0 x1
  have hR := fun n : Nat => (h.drewN n).hw.v.Raws x x0 x1
  have hb := h.hw.v.raw_bd x 0 x0
  obtain ⟨i0, hi, hz0, hz1, hz2⟩ := info_parts info_u8
  have H1 := Lib.hid (And.intro hi (And.intro hz0 (And.intro hz1 hz2)))
  clear hi hz0 hz1 hz2
  have hf2 := hf
  unfold HS.bytesFit HS.bytesN at hf2
  rw [Bool.and_eq_true, Bool.and_eq_true, decide_eq_true_eq, decide_eq_true_eq] at hf2
  obtain ⟨f1, f2, f3⟩ := hf2
  obtain ⟨n, hn⟩ : ∃ n : Nat, S.rawAt x 0 = n := ⟨(S.rawAt x 0).toNat, by omega⟩
  rw [hn] at hRaw hb f2 f3
  rw [f1] at hSh
  obtain ⟨q, hq⟩ : ∃ q : Nat, (n + 7) / 8 = q := ⟨_, rfl⟩
  have b1 : decide ((n : Int) > 8388608) = false := by simp; omega
  have w1 : IntKind.i64.wrap (n : Int) = n := IntWalk.i64_in _ (by omega)
  have w2 : IntKind.i64.wrap ((n : Int) + 7) = n + 7 := IntWalk.i64_in _ (by omega)
  have d1 : ((n : Int) + 7).tdiv 8 = q := by rw [Int.tdiv_eq_ediv_of_nonneg (by omega)]; omega
  have w3 : IntKind.i64.wrap (q : Int) = q := IntWalk.i64_in _ (by omega)
  have w4 : IntKind.i64.wrap (1 + (q : Int)) = 1 + q := IntWalk.i64_in _ (by omega)
  have f4 : S.raw x = 1 + (q : Int) := by omega
  have hnb : n ≤ 8388608 := by omega
  have hqb : q ≤ 1048577 := by omega
  rw [f4] at hR
  have b2 : ((1 + (q : Int)) != 1 + q) = false := by simp
  generalize decide ((0 : Int) ≤ 0 ∧ 0 < S.raw x) = bb at *
  have HH := Lib.hid (And.intro h (And.intro hf (And.intro hn (And.intro hq f4))))
  clear h hf f1 f2 f3 f4 hn hq
  go_enter Try.func46, Try.ntmps46
  go_wp2_with fail
  refine hRaw.mono ?_
  rintro e w' ⟨rfl, j, rfl⟩
  go_wp2_with fail
  refine (hSh j).mono ?_
  rintro e w' ⟨rfl, j2, rfl⟩
  go_wp2_with fail
  refine (hR (j + j2)).mono ?_
  rintro e w' ⟨rfl, j3, rfl⟩
  go_wp2_with (at_make; refine halt ?_)
  refine goon ?_
  obtain ⟨hi, hz0, hz1, hz2⟩ := H1.out
  have hs0 := (HH.out.1.drewN (j + j2 + j3)).s
  have hb0 := drewN_below0 w (j + j2 + j3)
  generalize w.drewN (j + j2 + j3) = w0 at *
  refine wpList_make_sat rfl 44 (.tmp 45) (.tmp 45) rfl 5 i0 (.int .u8 0) 1 Try.underlying44 hi hz0 hz1 hz2 rfl .u64 .u64 (n : Int) (isHeap V S * (isSt X V.g Y * R)) rfl rfl ?_ hs0 (by omega) (by omega) (by omega)
  clear hi hz0 hz1 hz2
  intro bo w2 hs2 hb2
  rw [show (n : Int).toNat = n by omega] at hs2 ⊢
  have hl : ∃ l : List Int, S.bytesL x = l ∧ l.length = n := ⟨_, rfl, by unfold HS.bytesL HS.bytesN; rw [HH.out.2.2.1]; simp⟩
  obtain ⟨l, hl, hln⟩ := hl
  have h2 : StW w2 X V S Y (row 5 1 bo n ((l.take 0 ++ List.replicate (n - 0) 0).map u8v) * R) := ⟨(hs2.perm (by simp only [List.take_zero, List.nil_append, Nat.sub_zero, List.map_replicate]; show _ = isHeap V S * (isSt X V.g Y * (row 5 1 bo n (List.replicate n (Value.int .u8 0)) * R)); ac_rfl)), HH.out.1.ok⟩
  have HB := Lib.hid (And.intro h2 (hb0.trans hb2))
  clear hs0 hb0 hs2 hb2 h2
  go_wp2_with fail
  go_loopw [49] (BRel w X V S Y R bo n l) (fun i _ => n - (intOf i).toNat)
  case atStart => exact ⟨0, Nat.zero_le _, rfl, HB.out.1, HB.out.2⟩
  case round =>
    clear HB
    obtain ⟨k, hk, rfl, hs, hb'⟩ := hrel
    by_cases hlt : k < n
    · have c0' := hs.c0
      have hRk := hs.Raw x (1 + (k / 8 : Nat)) x0 x1
      have e2 : ((k : Int).tdiv 8) = ((k / 8 : Nat) : Int) := by rw [Int.tdiv_eq_ediv_of_nonneg (by omega)]; omega
      have e3 : ((k : Int).tmod 8) = ((k % 8 : Nat) : Int) := by rw [Int.tmod_eq_emod_of_nonneg (by omega)]; omega
      have g1 : IntKind.i64.wrap ((k / 8 : Nat) : Int) = ((k / 8 : Nat) : Int) := IntWalk.i64_in _ (by omega)
      have g2 : IntKind.i64.wrap (1 + ((k / 8 : Nat) : Int)) = 1 + ((k / 8 : Nat) : Int) := IntWalk.i64_in _ (by omega)
      have HX := Lib.hid (And.intro hs hb')
      clear hs hb'
      go_wp2_with fail
      refine hRk.mono ?_
      rintro e w' ⟨rfl, j4, rfl⟩
      have hs4 := (HX.out.1.drewN j4)
      have hb4 := HX.out.2.trans (drewN_below0 wr j4)
      generalize wr.drewN j4 = w4 at *
      have hrow : sat w4 (row 5 1 bo n ((l.take k ++ List.replicate (n - k) 0).map u8v) * (isHeap V S * (isSt X V.g Y * R))) := hs4.s.perm (by ac_rfl)
      have hxl : (l.take k).length = k := by rw [List.length_take]; omega
      have hcell := hrow.row_cell (j := k) (v := .int .u8 0) (by rw [List.getElem?_map, List.getElem?_append_right (by omega), hxl, Nat.sub_self, List.getElem?_replicate, if_pos (by omega)]; rfl)
      have hfr := hrow.row_frozen k
      have g6 : IntKind.i64.wrap (((k % 8 : Nat) : Int) * 8) = ((8 * (k % 8) : Nat) : Int) := by rw [IntWalk.i64_in _ (by omega)]; omega
      have HY := Lib.hid (And.intro hrow (And.intro hb4 hs4.ok))
      clear HX hs4 hb4 hrow
      go_wp2_with fail
      go_roundw
      case rel =>
        have hlk : l[k]? = some (S.byteAt x k) := by
          rw [← hl]
          unfold HS.bytesL HS.bytesN
          rw [HH.out.2.2.1, List.getElem?_map, List.getElem?_range (by omega)]
          rfl
        have hv : S.rawAt x (1 + (k : Int) / 8) / 2 ^ (k % 8 * 8) % 256 = S.byteAt x k := by
          unfold HS.byteAt
          rw [Nat.mul_comm (k % 8) 8]
          rfl
        rw [hv]
        have hs5 := HY.out.1.row_set k (u8v (S.byteAt x k))
        rw [take_step u8v l n k 0 _ hlk hlt] at hs5
        exact ⟨k + 1, by omega, by go_num, ⟨hs5.perm (by ac_rfl), HY.out.2.2⟩, HY.out.2.1.setCell (p := ⟨bo, k, none⟩) (Nat.zero_le _) _⟩
      case measure => simp [intOf]; omega
    · obtain rfl : k = n := by omega
      have hge : (k : Int) ≤ k := by omega
      rw [Nat.sub_self, List.replicate_zero, List.append_nil, List.take_of_length_le (by omega)] at hs
      have c0' := hs.c0
      have hRl := fun m : Nat => (hs.drewN m).Raw x q x0 x1
      have hRs := fun m : Nat => (hs.drewN m).hw.v.Raws x x0 x1
      rw [HH.out.2.2.2.2] at hRs hRl
      have HX := Lib.hid (And.intro hs hb')
      have g5 : IntKind.i64.wrap (1 + (q : Int) - 1) = q := by rw [IntWalk.i64_in _ (by omega)]; omega
      clear hs hb'
      go_wp2_with fail
      go_quiet ((first
        | (go_at_call 71; exact Calls.said (hRs _))
        | (go_at_call 70; exact Calls.said (hRl _))))
      obtain ⟨last, hlast⟩ : ∃ last, S.rawAt x q = last := ⟨_, rfl⟩
      have hend : S.bytesEnd x = (decide (k % 8 = 0) || decide (last / 2 ^ (8 * (k % 8)) = 0)) := by
        unfold HS.bytesEnd HS.bytesN
        rw [HH.out.2.2.1, HH.out.2.2.2.2, show (1 + (q : Int) - 1) = q by omega, hlast, show ((k : Int) % 8).toNat = k % 8 by omega]
        congr 1
        exact decide_eq_decide.2 (by omega)
      rw [hlast] at hRl ⊢
      have HE := Lib.hid hend
      clear hend hlast
      have hyes : S.bytesEnd x = true → BytesPost X V S Y R x w (.returned (.tuple #[.slice (some ⟨bo, 0, none⟩) k k, .bool true])) (wr.drewN nq) := by
        intro he
        have hok : S.bytesOk x = true := by unfold HS.bytesOk; rw [HH.out.2.1, he]; rfl
        have hby : S.bytes x = l := by unfold HS.bytes; rw [if_pos hok]; exact hl
        refine ⟨_, by rw [hok], ⟨?_, HX.out.1.ok⟩, HX.out.2.trans (drewN_below0 _ _)⟩
        rw [hby, hln]
        have h1 : sat (wr.drewN nq) (row 5 1 bo k (l.map u8v) * (isHeap V S * (isSt X V.g Y * R))) := (HX.out.1.drewN nq).s.perm (by ac_rfl)
        exact (sat.shut_own (by simp [hln]) (Nat.le_refl _) h1).perm (by ac_rfl)
      have hno : S.bytesEnd x = false → BytesPost X V S Y R x w (.returned (.tuple #[.slice none 0 0, .bool false])) (wr.drewN nq) := by
        intro he
        have hok : S.bytesOk x = false := by unfold HS.bytesOk; rw [he]; exact Bool.and_false _
        have hby : S.bytes x = [] := by unfold HS.bytes; rw [if_neg (by rw [hok]; simp)]
        refine ⟨_, by rw [hok], ⟨?_, HX.out.1.ok⟩, HX.out.2.trans (drewN_below0 _ _)⟩
        rw [hby]
        exact ((HX.out.1.drewN nq).drop.s.nil_own).perm (by simp only [List.map_nil, List.length_nil]; ac_rfl)
      have HQ := Lib.hid (And.intro hyes hno)
      clear hyes hno
      by_cases hz : k % 8 = 0
      · have b4 : decide ((k : Int) % 8 > 0) = false := by simp; omega
        go_wp2_with fail
        go_ret2
        exact HQ.out.1 (by rw [HE.out]; simp [hz])
      · have b4 : decide ((k : Int) % 8 > 0) = true := by simp; omega
        have g7 : ((k : Int) % 8) = ((k % 8 : Nat) : Int) := by omega
        have g8 : IntKind.u64.wrap (((k % 8 : Nat) : Int) * 8) = ((8 * (k % 8) : Nat) : Int) := by rw [IntKind.wrap_u64]; omega
        have HG := Lib.hid g7
        by_cases he : last / 2 ^ (8 * (k % 8)) = 0
        · have b5 : (last / 2 ^ (k % 8 * 8) != 0) = false := by rw [Nat.mul_comm]; simp [he]
          clear g7
          go_wp2_with fail
          go_ret2
          exact HQ.out.1 (by rw [HE.out]; simp [he])
        · have b5 : (last / 2 ^ (k % 8 * 8) != 0) = true := by rw [Nat.mul_comm]; simp [he]
          clear g7
          go_wp2_with fail
          go_ret2
          exact HQ.out.2 (by rw [HE.out]; simp [he, hz])
theorem StW.Bytes (h : StW w X V S Y R) (x : Int) (x0 : 0 ≤ x) (x1 : x < 18446744073709551616) :
    Calls Try.prog 46 #[.pointer (some ⟨X.g, 0, none⟩), .int .u64 x] w (BytesPost X V S Y R x w) := by
  cases hf : S.bytesFit x with
  | true => exact h.Bytes_fit x x0 x1 hf
  | false =>
    refine (h.Bytes_unfit x x0 x1 hf).mono ?_
    rintro e w' ⟨rfl, j, rfl⟩
    have hok : S.bytesOk x = false := by unfold HS.bytesOk; rw [hf]; rfl
    have hby : S.bytes x = [] := by unfold HS.bytes; rw [if_neg (by rw [hok]; simp)]
    refine ⟨_, by rw [hok], ⟨?_, h.ok⟩, drewN_below0 _ _⟩
    rw [hby]
    exact ((h.drewN j).s.nil_own).perm (by simp only [List.map_nil, List.length_nil]; ac_rfl)
end
end Go.Proofs.Ytanjiecefioffaa
