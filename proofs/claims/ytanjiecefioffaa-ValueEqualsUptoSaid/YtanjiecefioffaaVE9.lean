/- value.Store: Name; string(b) of bytes of the call's own. -/
import Derived.Test.YtanjiecefioffaaVE4
import Derived.Laws.BytesArg
import Derived.Test.YtanjiecefioffaaVE2
import Derived.Test.YtanjiecefioffaaVE6
import Derived.Test.YtanjiecefioffaaVE3
namespace Go.Proofs.Ytanjiecefioffaa
open Go.RowKit

theorem run_own_string {P : Program} {w : World} {R : HP} (src dst e : TypeId) (hs : P.underlying src = some (.slice e)) (he : P.underlying e = some (.int .u8)) (hd : P.underlying dst = some .string)
    {v : Value} {n : Nat} {bs : List Int} (hl : bs.length = n) (h : sat w (own 5 1 v n (bs.map u8v) * R)) : (convert src dst v).run P w = .ok (.string (strOfNums bs)) w := by
  rcases h.open_own.2 with ⟨rfl, rfl, hb, _⟩ | ⟨b, cap, rfl, hn, hr⟩
  · have : bs = [] := List.eq_nil_of_length_eq_zero hl
    subst this
    exact run_convert_bytes_nil w src e hs he 0 0 dst hd
  · refine run_convert_bytes_arg w src e hs he b 0 n cap bs hl (fun i hi => ?_) dst hd
    rw [Nat.zero_add]
    refine hr.row_cell ?_
    rw [List.getElem?_map, List.getElem?_eq_getElem (by omega), List.getD_eq_getElem?_getD, List.getElem?_eq_getElem (by omega)]
    rfl
theorem strOf_bytesOf (s : ByteArray) : strOfNums (bytesOf s) = s := by
  have h : ∀ l : List UInt8, (l.map fun b => (b.toNat : Int)).map (fun n => UInt8.ofNat n.toNat) = l := by
    intro l
    induction l with
    | nil => rfl
    | cons b l ih => simp only [List.map_cons, ih, Int.toNat_natCast, UInt8.ofNat_toNat]
  unfold strOfNums bytesOf
  rw [h]
theorem bytesOf_strOf {l : List Int} (h : Bytes l) : bytesOf (strOfNums l) = l := by
  unfold bytesOf
  rw [strOfNums_data, List.map_map]
  have : ∀ x ∈ l, ((fun b : UInt8 => (b.toNat : Int)) ∘ fun n : Int => UInt8.ofNat n.toNat) x = x := by
    intro x hx
    have := h x hx
    simp only [Function.comp, UInt8.toNat_ofNat']
    omega
  rw [List.map_congr_left this]
  simp

def HS.getAt (S : HS) (x i : Int) : Int := (S.get x i).1
theorem HS.get_eq (S : HS) (x i : Int) : S.get x i = (S.getAt x i, decide (0 ≤ i ∧ i < S.tag x)) := by
  unfold HS.getAt HS.get
  split <;> simp_all
theorem HeapV.get_bd {w : World} {V : HV} {S : HS} (h : HeapV w V S) (x i : Int) (x0 : 0 ≤ x) : 0 ≤ S.getAt x i ∧ S.getAt x i < 18446744073709551616 := by
  unfold HS.getAt HS.get
  split
  · rename_i hi
    obtain ⟨hp, hlt, hb⟩ := h.tag_is hi.1 hi.2
    have hl : fieldAt x 0 i < S.ws.length := by unfold fieldAt; omega
    rw [List.getD_eq_getElem?_getD, List.getElem?_eq_getElem hl]
    exact h.ok.wf.u _ (List.getElem_mem hl)
  · exact ⟨by decide, by decide⟩
def HS.nameOk (S : HS) (x : Int) : Bool := S.shape x 4 1 0 && S.bytesOk (S.getAt x 0)
def HS.name (S : HS) (x : Int) : ByteArray := if S.nameOk x = true then strOfNums (S.bytes (S.getAt x 0)) else ⟨#[]⟩
def NamePost (X : StV) (V : HV) (S : HS) (Y : StS) (R : HP) (x : Int) (w : World) (e : Ending) (w' : World) : Prop :=
  e = .returned (.tuple #[.string (S.name x), .bool (S.nameOk x)]) ∧ StW w' X V S Y R ∧ Below 0 w w'

section
variable {w : World} {X : StV} {V : HV} {S : HS} {Y : StS} {R : HP}
theorem StW.Get (h : StW w X V S Y R) (x i : Int) (x0 : 0 ≤ x) (x1 : x < 18446744073709551616) :
    Calls Try.prog 42 #[.pointer (some ⟨V.g, 0, none⟩), .int .u64 x, .int .i64 i] w (Says (.tuple #[.int .u64 (S.getAt x i), .bool (decide (0 ≤ i ∧ i < S.tag x))]) w) := by
  have h1 := h.hw.v.Get x i x0 x1
  rw [HS.get_eq] at h1
  exact h1

set_option maxRecDepth 100000 in
set_option maxHeartbeats 1000000 in
theorem StW.Name (h : StW w X V S Y R) (x : Int) (x0 : 0 ≤ x) (x1 : x < 18446744073709551616) :
    Calls Try.prog 32 #[.pointer (some ⟨X.g, 0, none⟩), .int .u64 x] w (NamePost X V S Y R x w) := by
  have c0 := h.c0
  have hSh := h.shape x 4 1 0 x0 x1
  have hG := fun n : Nat => (h.drewN n).Get x 0 x0 x1
  have hgb := h.hw.v.get_bd x 0 x0
  cases hs : S.shape x 4 1 0 with
  | false =>
    have hok : S.nameOk x = false := by unfold HS.nameOk; rw [hs]; rfl
    have hnm : S.name x = ⟨#[]⟩ := by unfold HS.name; rw [if_neg (by rw [hok]; simp)]
    rw [hs] at hSh
    have HH := Lib.hid (And.intro h (And.intro hok hnm))
    clear h hok hnm hs
    go_enter Try.func32, Try.ntmps32
    go_wp2_with fail
    refine hSh.mono ?_
    rintro e w' ⟨rfl, j, rfl⟩
    go_wp2_with fail
    go_ret2
    refine ⟨?_, HH.out.1.drewN j, drewN_below0 _ _⟩
    rw [HH.out.2.1, HH.out.2.2]
    rfl
  | true =>
    rw [hs] at hSh
    have hB := fun n : Nat => (h.drewN n).Bytes (S.getAt x 0) hgb.1 hgb.2
    have hok : S.nameOk x = S.bytesOk (S.getAt x 0) := by unfold HS.nameOk; rw [hs]; rfl
    have hnm : S.name x = strOfNums (S.bytes (S.getAt x 0)) := by
      unfold HS.name
      rw [hok]
      split
      · rfl
      · rename_i hb
        unfold HS.bytes
        rw [if_neg hb]
        rfl
    have HH := Lib.hid (And.intro h (And.intro hok hnm))
    clear h hok hnm hs
    generalize S.getAt x 0 = g at *
    generalize decide ((0 : Int) ≤ 0 ∧ 0 < S.tag x) = bb at *
    go_enter Try.func32, Try.ntmps32
    go_wp2_with fail
    refine hSh.mono ?_
    rintro e w' ⟨rfl, j, rfl⟩
    go_wp2_with fail
    refine (hG j).mono ?_
    rintro e w' ⟨rfl, j2, rfl⟩
    go_wp2_with fail
    refine (hB (j + j2)).mono ?_
    rintro e w2 ⟨v, rfl, h2, hb2⟩
    have hcv := run_own_string (P := Try.prog) 44 9 5 Try.underlying44 Try.underlying5 Try.underlying9 (bs := S.bytes g) rfl (show sat w2 (own 5 1 v (S.bytes g).length ((S.bytes g).map u8v) * (isHeap V S * (isSt X V.g Y * R))) from h2.s.perm (by ac_rfl))
    have HB := Lib.hid (And.intro h2.drop ((drewN_below0 w (j + j2)).trans hb2))
    clear h2 hb2 hB hG hSh
    go_wp2_with fail
    go_ret2
    refine ⟨?_, HB.out.1, HB.out.2⟩
    rw [HH.out.2.1, HH.out.2.2]
    rfl
end
end Go.Proofs.Ytanjiecefioffaa

/- Fixnums as words, and back: value and tandemref04. -/
namespace Go.Proofs.Ytanjiecefioffaa
open Go.RowKit

theorem u64_or_low (i : Nat) (x y : Int) (hx : 0 ≤ x) (hx2 : x < 2 ^ i) (hy : 0 ≤ y) (hi : i < 64) (hs : 2 ^ i * y < 18446744073709551616) : bits .or .u64 (2 ^ i * y) x = x + 2 ^ i * y := by
  obtain ⟨m, rfl⟩ := Int.eq_ofNat_of_zero_le hx
  obtain ⟨n, rfl⟩ := Int.eq_ofNat_of_zero_le hy
  have hp : ((2 ^ i : Nat) : Int) = (2 : Int) ^ i := by simp
  have hlt : 2 ^ i < 18446744073709551616 := Nat.pow_lt_pow_right (by decide) (show i < 64 from hi)
  have e : ((2 : Int) ^ i * (n : Int)) = ((2 ^ i * n : Nat) : Int) := by simp
  rw [e] at hs ⊢
  have hm : m < 2 ^ i := by omega
  rw [u64_or_nat _ _ (by omega) (by omega), ← Nat.two_pow_add_eq_or_of_lt hm]
  omega

def fixW (n : Int) : Int := if -2305843009213693952 ≤ n ∧ n < 2305843009213693952 then (4 * n + 1) % 18446744073709551616 else 0
def fixB (n : Int) : Bool := decide (-2305843009213693952 ≤ n) && decide (n < 2305843009213693952)
def intW (w : Int) : Int := if w % 4 = 1 then (if w < 9223372036854775808 then w / 4 else (w - 18446744073709551616) / 4) else 0
def intB (w : Int) : Bool := decide (w % 4 = 1)

set_option maxRecDepth 100000 in
theorem Fix_any (w : World) (n : Int) (h0 : -9223372036854775808 ≤ n) (h1 : n < 9223372036854775808) :
    Calls Try.prog 12 #[.int .i64 n] w (Says (.tuple #[.int .u64 (fixW n), .bool (fixB n)]) w) := by
  by_cases ha : n < -2305843009213693952
  · have b1 : decide (n < -2305843009213693952) = true := by simp [ha]
    go_enter Try.func12, Try.ntmps12
    go_wp2_with fail
    go_ret2
    have hf : fixW n = 0 := by unfold fixW; rw [if_neg (by omega)]
    have hb : fixB n = false := by unfold fixB; simp; omega
    rw [hf, hb]
    exact ⟨rfl, 0, rfl⟩
  · by_cases hb : n < 2305843009213693952
    · have b1 : decide (n < -2305843009213693952) = false := by simp; omega
      have b2 : decide (n ≥ 2305843009213693952) = false := by simp; omega
      go_enter Try.func12, Try.ntmps12
      go_wp2_with fail
      go_ret2
      have hw : IntKind.u64.wrap (IntKind.u64.wrap n * 4) = 2 ^ 2 * ((IntKind.u64.wrap (IntKind.u64.wrap n * 4)) / 4) := by rw [IntKind.wrap_u64, IntKind.wrap_u64]; omega
      have hl : 0 ≤ IntKind.u64.wrap (IntKind.u64.wrap n * 4) ∧ IntKind.u64.wrap (IntKind.u64.wrap n * 4) < 18446744073709551616 := by rw [IntKind.wrap_u64]; omega
      have ho := u64_or_low 2 1 ((IntKind.u64.wrap (IntKind.u64.wrap n * 4)) / 4) (by omega) (by omega) (by omega) (by omega) (by rw [← hw]; exact hl.2)
      rw [← hw] at ho
      have hb : fixB n = true := by unfold fixB; simp; omega
      have hf : bits .or .u64 (IntKind.u64.wrap (IntKind.u64.wrap n * 4)) 1 = fixW n := by
        rw [ho, IntKind.wrap_u64, IntKind.wrap_u64]; unfold fixW; rw [if_pos (by omega)]; omega
      rw [← hf, hb]
      exact ⟨rfl, 0, rfl⟩
    · have b1 : decide (n < -2305843009213693952) = false := by simp; omega
      have b2 : decide (n ≥ 2305843009213693952) = true := by simp; omega
      go_enter Try.func12, Try.ntmps12
      go_wp2_with fail
      go_ret2
      have hf : fixW n = 0 := by unfold fixW; rw [if_neg (by omega)]
      have hb : fixB n = false := by unfold fixB; simp; omega
      rw [hf, hb]
      exact ⟨rfl, 0, rfl⟩

set_option maxRecDepth 100000 in
theorem Int_any (w : World) (x : Int) (h0 : 0 ≤ x) (h1 : x < 18446744073709551616) :
    Calls Try.prog 14 #[.int .u64 x] w (Says (.tuple #[.int .i64 (intW x), .bool (intB x)]) w) := by
  have hm : bits .and .u64 x 3 = x % 4 := u64_mask2 x h0 h1
  by_cases ha : x % 4 = 1
  · have b1 : (x % 4 != 1) = false := by simp [ha]
    go_enter Try.func14, Try.ntmps14
    go_wp2_with fail
    go_ret2
    have hf : wrap64 x / 4 = intW x := by unfold wrap64 intW; rw [if_pos ha]; split <;> omega
    have hb : intB x = true := by unfold intB; simp [ha]
    rw [← hf, hb]
    exact ⟨rfl, 0, rfl⟩
  · have b1 : (x % 4 != 1) = true := by simp [ha]
    go_enter Try.func14, Try.ntmps14
    go_wp2_with fail
    go_ret2
    have hf : intW x = 0 := by unfold intW; rw [if_neg ha]
    have hb : intB x = false := by unfold intB; simp [ha]
    rw [hf, hb]
    exact ⟨rfl, 0, rfl⟩

set_option maxRecDepth 100000 in
theorem rFix_any (w : World) (n : Int) (h0 : -9223372036854775808 ≤ n) (h1 : n < 9223372036854775808) :
    Calls Try.prog 13 #[.int .i64 n] w (Says (.tuple #[.int .u64 (fixW n), .bool (fixB n)]) w) := by
  by_cases ha : n < -2305843009213693952
  · have b1 : decide (n < -2305843009213693952) = true := by simp [ha]
    go_enter Try.func13, Try.ntmps13
    go_wp2_with fail
    go_ret2
    have hf : fixW n = 0 := by unfold fixW; rw [if_neg (by omega)]
    have hb : fixB n = false := by unfold fixB; simp; omega
    rw [hf, hb]
    exact ⟨rfl, 0, rfl⟩
  · by_cases hb : n < 2305843009213693952
    · have b1 : decide (n < -2305843009213693952) = false := by simp; omega
      have b2 : decide (n ≥ 2305843009213693952) = false := by simp; omega
      go_enter Try.func13, Try.ntmps13
      go_wp2_with fail
      go_ret2
      have hw : IntKind.u64.wrap (IntKind.u64.wrap n * 4) = 2 ^ 2 * ((IntKind.u64.wrap (IntKind.u64.wrap n * 4)) / 4) := by rw [IntKind.wrap_u64, IntKind.wrap_u64]; omega
      have hl : 0 ≤ IntKind.u64.wrap (IntKind.u64.wrap n * 4) ∧ IntKind.u64.wrap (IntKind.u64.wrap n * 4) < 18446744073709551616 := by rw [IntKind.wrap_u64]; omega
      have hb : fixB n = true := by unfold fixB; simp; omega
      have hf : IntKind.u64.wrap (IntKind.u64.wrap (IntKind.u64.wrap n * 4) + 1) = fixW n := by
        rw [IntKind.wrap_u64, IntKind.wrap_u64, IntKind.wrap_u64]; unfold fixW; rw [if_pos (by omega)]; omega
      rw [← hf, hb]
      exact ⟨rfl, 0, rfl⟩
    · have b1 : decide (n < -2305843009213693952) = false := by simp; omega
      have b2 : decide (n ≥ 2305843009213693952) = true := by simp; omega
      go_enter Try.func13, Try.ntmps13
      go_wp2_with fail
      go_ret2
      have hf : fixW n = 0 := by unfold fixW; rw [if_neg (by omega)]
      have hb : fixB n = false := by unfold fixB; simp; omega
      rw [hf, hb]
      exact ⟨rfl, 0, rfl⟩

set_option maxRecDepth 100000 in
theorem rInt_any (w : World) (x : Int) (h0 : 0 ≤ x) (h1 : x < 18446744073709551616) :
    Calls Try.prog 15 #[.int .u64 x] w (Says (.tuple #[.int .i64 (intW x), .bool (intB x)]) w) := by
  by_cases ha : x % 4 = 1
  · have b1 : (x % 4 != 1) = false := by simp [ha]
    go_enter Try.func15, Try.ntmps15
    go_wp2_with fail
    go_ret2
    have hf : wrap64 x / 4 = intW x := by unfold wrap64 intW; rw [if_pos ha]; split <;> omega
    have hb : intB x = true := by unfold intB; simp [ha]
    rw [← hf, hb]
    exact ⟨rfl, 0, rfl⟩
  · have b1 : (x % 4 != 1) = true := by simp [ha]
    go_enter Try.func15, Try.ntmps15
    go_wp2_with fail
    go_ret2
    have hf : intW x = 0 := by unfold intW; rw [if_neg ha]
    have hb : intB x = false := by unfold intB; simp [ha]
    rw [hf, hb]
    exact ⟨rfl, 0, rfl⟩
end Go.Proofs.Ytanjiecefioffaa

/- value.Store: Num of a fixnum, and of what is no number. value.Store: Num of an object. -/
/- value.Store: Num of a fixnum, and of what is no number. -/
namespace Go.Proofs.Ytanjiecefioffaa
open Go.RowKit

def NumPost (X : StV) (V : HV) (S : HS) (Y : StS) (R : HP) (v : Int) (ok : Bool) (w : World) (e : Ending) (w' : World) : Prop :=
  ∃ ao cap, e = .returned (.tuple #[.agg #[.bool (decide (v < 0)), .slice ao (limbsOf v.natAbs).length cap], .bool ok]) ∧ (limbsOf v.natAbs).length ≤ cap ∧
    StW w' X V S Y (own 70 1 (.slice ao (limbsOf v.natAbs).length cap) (limbsOf v.natAbs).length ((limbsOf v.natAbs).map u32v) * R) ∧ Below 0 w w'
theorem intW_bd (x : Int) (x0 : 0 ≤ x) (x1 : x < 18446744073709551616) : -9223372036854775808 ≤ intW x ∧ intW x < 9223372036854775808 := by unfold intW; split <;> (try split) <;> omega

section
variable {w : World} {X : StV} {V : HV} {S : HS} {Y : StS} {R : HP}
set_option maxRecDepth 100000 in
set_option maxHeartbeats 1000000 in
theorem StW.Num_fix (h : StW w X V S Y R) (x : Int) (x0 : 0 ≤ x) (x1 : x < 18446744073709551616) (hx : x % 4 = 1) :
    Calls Try.prog 39 #[.pointer (some ⟨X.g, 0, none⟩), .int .u64 x] w (NumPost X V S Y R (intW x) true w) := by
  have hI := Int_any (w.alloc (.cells #[.bool false, .slice none 0 0] 51)) x x0 x1
  have hb : intB x = true := by unfold intB; simp [hx]
  rw [hb] at hI
  obtain ⟨i0, i1⟩ := intW_bd x x0 x1
  have hs1 := h.s.alloc (.cells #[.bool false, .slice none 0 0] 51)
  have hb1 : Below 0 w (w.alloc (.cells #[.bool false, .slice none 0 0] 51)) := Below.zero_alloc _ _
  have HH := Lib.hid (And.intro hs1 (And.intro hb1 h.ok))
  generalize intW x = v at *
  clear hs1 hb1 h hb hx
  go_enter Try.func39, Try.ntmps39
  go_wp2_with fail
  refine hI.mono ?_
  rintro e w' ⟨rfl, j, rfl⟩
  obtain ⟨g, hg⟩ : ∃ g, w.heap.size = g := ⟨_, rfl⟩
  rw [hg] at HH ⊢
  have hs2 := HH.out.1.drewN j
  have hb2 := HH.out.2.1.trans (drewN_below0 _ j)
  clear hI
  generalize (w.alloc (.cells #[.bool false, .slice none 0 0] 51)).drewN j = w2 at *
  have hO := num_Of hs2 v i0 i1
  have HB := Lib.hid hb2
  clear hs2 hb2
  go_wp2_with fail
  with_reducible refine hO.mono ?_
  rintro e w3 ⟨sl, rfl, hs3, hb3⟩
  obtain ⟨lo, lc, rfl⟩ := own_val hs3
  have hlc := own_cap hs3
  have d1 : w3.cell? ⟨g, 0, none⟩ = some (.bool false) := (hs3.right.left.cell 0).trans rfl
  have d2 : w3.cell? ⟨g, 1, none⟩ = some (.slice none 0 0) := (hs3.right.left.cell 1).trans rfl
  have e1 := hs3.right.left.frozen 0
  have e2 := hs3.right.left.frozen 1
  have HW := Lib.hid (And.intro hs3 (HB.out.trans hb3))
  clear hs3 hb3 hO
  obtain ⟨B, hB⟩ : ∃ B, decide (v < 0) = B := ⟨_, rfl⟩
  rw [hB]
  have HBB := Lib.hid hB
  clear hB
  go_wp2_with fail
  have hs8 := ((show sat w3 (Go.Proofs.Ytanjiecefioffaa.blk g (.cells #[.bool false, .slice none 0 0] 51 (0, 0)) * (isHeap V S * (isSt X V.g Y * (own 70 1 (.slice lo (limbsOf v.natAbs).length lc) (limbsOf v.natAbs).length ((limbsOf v.natAbs).map u32v) * R)))) from HW.out.1.perm (by ac_rfl)).setCell (off := 0) (.bool B)).setCell (off := 1) (.slice lo (limbsOf v.natAbs).length lc)
  have hb8 : Below 0 w ((w3.setCell ⟨g, 0, none⟩ (.bool B)).setCell ⟨g, 1, none⟩ (.slice lo (limbsOf v.natAbs).length lc)) := (HW.out.2.setCell (p := ⟨g, 0, none⟩) (Nat.zero_le _) _).setCell (p := ⟨g, 1, none⟩) (Nat.zero_le _) _
  generalize (w3.setCell ⟨g, 0, none⟩ (.bool B)).setCell ⟨g, 1, none⟩ (.slice lo (limbsOf v.natAbs).length lc) = w8 at hs8 hb8 ⊢
  have r0 : w8.cell? ⟨g, 0, none⟩ = some (.bool B) := (hs8.left.cell 0).trans rfl
  have r1 : w8.cell? ⟨g, 1, none⟩ = some (.slice lo (limbsOf v.natAbs).length lc) := (hs8.left.cell 1).trans rfl
  refine bodyPost_ret (v := .tuple #[.agg #[.bool B, .slice lo (limbsOf v.natAbs).length lc], .bool true]) (by simp [results, Try.results39, go_sem, r0, r1]) rfl ⟨lo, lc, by rw [HBB.out], hlc, ⟨hs8.right, HH.out.2.2⟩, hb8⟩

set_option maxRecDepth 100000 in
set_option maxHeartbeats 1000000 in
theorem StW.Num_not (h : StW w X V S Y R) (x : Int) (x0 : 0 ≤ x) (x1 : x < 18446744073709551616) (hx : x % 4 ≠ 1) (hsh : S.shape x 5 0 (-1) = false) :
    Calls Try.prog 39 #[.pointer (some ⟨X.g, 0, none⟩), .int .u64 x] w (NumPost X V S Y R 0 false w) := by
  have hI := Int_any (w.alloc (.cells #[.bool false, .slice none 0 0] 51)) x x0 x1
  have hb : intB x = false := by unfold intB; simp [hx]
  have hi0 : intW x = 0 := by unfold intW; rw [if_neg hx]
  rw [hb, hi0] at hI
  have h1 : StW (w.alloc (.cells #[.bool false, .slice none 0 0] 51)) X V S Y (Go.Proofs.Ytanjiecefioffaa.blk w.heap.size (.cells #[.bool false, .slice none 0 0] 51 (0, 0)) * R) := ⟨(h.s.alloc _).perm (by ac_rfl), h.ok⟩
  have hb1 : Below 0 w (w.alloc (.cells #[.bool false, .slice none 0 0] 51)) := Below.zero_alloc _ _
  have HH := Lib.hid (And.intro h1 hb1)
  clear h1 hb1 h hb hx hi0
  go_enter Try.func39, Try.ntmps39
  go_wp2_with fail
  refine hI.mono ?_
  rintro e w' ⟨rfl, j, rfl⟩
  obtain ⟨g, hg⟩ : ∃ g, w.heap.size = g := ⟨_, rfl⟩
  rw [hg] at HH ⊢
  have h2 := HH.out.1.drewN j
  have hb2 := HH.out.2.trans (drewN_below0 _ j)
  clear hI
  generalize (w.alloc (.cells #[.bool false, .slice none 0 0] 51)).drewN j = w2 at *
  have c0 := h2.c0
  have hR := h2.Raw x 0 x0 x1
  have hS := fun n : Nat => (h2.drewN n).shape x 5 0 (-1) x0 x1
  rw [hsh] at hS
  have HB := Lib.hid (And.intro h2 hb2)
  clear h2 hb2 hsh
  generalize S.rawAt x 0 = sg at *
  generalize decide ((0 : Int) ≤ 0 ∧ 0 < S.raw x) = bb at *
  go_wp2_with fail
  with_reducible refine hR.mono ?_
  rintro e w' ⟨rfl, j2, rfl⟩
  go_wp2_with fail
  with_reducible refine (hS j2).mono ?_
  rintro e w' ⟨rfl, j3, rfl⟩
  have h3 := (HB.out.1.drewN j2).drewN j3
  have hb3 := (HB.out.2.trans (drewN_below0 w2 j2)).trans (drewN_below0 _ j3)
  clear hR hS c0
  generalize (w2.drewN j2).drewN j3 = w3 at *
  have hs3 := (show sat w3 (Go.Proofs.Ytanjiecefioffaa.blk g (.cells #[.bool false, .slice none 0 0] 51 (0, 0)) * (isHeap V S * (isSt X V.g Y * R))) from h3.s.perm (by ac_rfl))
  have d1 : w3.cell? ⟨g, 0, none⟩ = some (.bool false) := (hs3.left.cell 0).trans rfl
  have d2 : w3.cell? ⟨g, 1, none⟩ = some (.slice none 0 0) := (hs3.left.cell 1).trans rfl
  have e1 := hs3.left.frozen 0
  have e2 := hs3.left.frozen 1
  have HW := Lib.hid (And.intro hs3 (And.intro hb3 h3.ok))
  clear hs3 hb3 h3
  go_wp2_with fail
  have hs8 := (HW.out.1.setCell (off := 0) (.bool false)).setCell (off := 1) (.slice none 0 0)
  have hb8 : Below 0 w ((w3.setCell ⟨g, 0, none⟩ (.bool false)).setCell ⟨g, 1, none⟩ (.slice none 0 0)) := (HW.out.2.1.setCell (p := ⟨g, 0, none⟩) (Nat.zero_le _) _).setCell (p := ⟨g, 1, none⟩) (Nat.zero_le _) _
  generalize (w3.setCell ⟨g, 0, none⟩ (.bool false)).setCell ⟨g, 1, none⟩ (.slice none 0 0) = w8 at hs8 hb8 ⊢
  have r0 : w8.cell? ⟨g, 0, none⟩ = some (.bool false) := (hs8.left.cell 0).trans rfl
  have r1 : w8.cell? ⟨g, 1, none⟩ = some (.slice none 0 0) := (hs8.left.cell 1).trans rfl
  have hl0 : limbsOf (0 : Int).natAbs = [] := limbsOf_zero
  refine bodyPost_ret (v := .tuple #[.agg #[.bool false, .slice none 0 0], .bool false]) (by simp [results, Try.results39, go_sem, r0, r1]) rfl ⟨none, 0, ?_, ?_, ?_, hb8⟩
  · rw [hl0]; rfl
  · rw [hl0]; exact Nat.le_refl _
  · rw [hl0]
    refine ⟨?_, HW.out.2.2⟩
    exact (hs8.right.nil_own).perm (by simp only [List.map_nil, List.length_nil]; ac_rfl)
set_option maxRecDepth 100000 in
set_option maxHeartbeats 1000000 in
theorem StW.Num_big (h : StW w X V S Y R) (x : Int) (x0 : 0 ≤ x) (x1 : x < 18446744073709551616) (hx : x % 4 ≠ 1) (hsh : S.shape x 5 0 (-1) = true) (hsg : 1 < S.rawAt x 0) :
    Calls Try.prog 39 #[.pointer (some ⟨X.g, 0, none⟩), .int .u64 x] w (NumPost X V S Y R 0 false w) := by
  have hI := Int_any (w.alloc (.cells #[.bool false, .slice none 0 0] 51)) x x0 x1
  have hb : intB x = false := by unfold intB; simp [hx]
  have hi0 : intW x = 0 := by unfold intW; rw [if_neg hx]
  rw [hb, hi0] at hI
  have h1 : StW (w.alloc (.cells #[.bool false, .slice none 0 0] 51)) X V S Y (Go.Proofs.Ytanjiecefioffaa.blk w.heap.size (.cells #[.bool false, .slice none 0 0] 51 (0, 0)) * R) := ⟨(h.s.alloc _).perm (by ac_rfl), h.ok⟩
  have hb1 : Below 0 w (w.alloc (.cells #[.bool false, .slice none 0 0] 51)) := Below.zero_alloc _ _
  have HH := Lib.hid (And.intro h1 hb1)
  clear h1 hb1 h hb hx hi0
  go_enter Try.func39, Try.ntmps39
  go_wp2_with fail
  refine hI.mono ?_
  rintro e w' ⟨rfl, j, rfl⟩
  obtain ⟨g, hg⟩ : ∃ g, w.heap.size = g := ⟨_, rfl⟩
  rw [hg] at HH ⊢
  have h2 := HH.out.1.drewN j
  have hb2 := HH.out.2.trans (drewN_below0 _ j)
  clear hI
  generalize (w.alloc (.cells #[.bool false, .slice none 0 0] 51)).drewN j = w2 at *
  have c0 := h2.c0
  have hR := h2.Raw x 0 x0 x1
  have hS := fun n : Nat => (h2.drewN n).shape x 5 0 (-1) x0 x1
  rw [hsh] at hS
  have HB := Lib.hid (And.intro h2 hb2)
  have bgt : decide (S.rawAt x 0 > 1) = true := by simp; omega
  clear h2 hb2 hsh hsg
  generalize S.rawAt x 0 = sg at *
  generalize decide ((0 : Int) ≤ 0 ∧ 0 < S.raw x) = bb at *
  go_wp2_with fail
  with_reducible refine hR.mono ?_
  rintro e w' ⟨rfl, j2, rfl⟩
  go_wp2_with fail
  with_reducible refine (hS j2).mono ?_
  rintro e w' ⟨rfl, j3, rfl⟩
  have h3 := (HB.out.1.drewN j2).drewN j3
  have hb3 := (HB.out.2.trans (drewN_below0 w2 j2)).trans (drewN_below0 _ j3)
  clear hR hS c0
  generalize (w2.drewN j2).drewN j3 = w3 at *
  have hs3 := (show sat w3 (Go.Proofs.Ytanjiecefioffaa.blk g (.cells #[.bool false, .slice none 0 0] 51 (0, 0)) * (isHeap V S * (isSt X V.g Y * R))) from h3.s.perm (by ac_rfl))
  have d1 : w3.cell? ⟨g, 0, none⟩ = some (.bool false) := (hs3.left.cell 0).trans rfl
  have d2 : w3.cell? ⟨g, 1, none⟩ = some (.slice none 0 0) := (hs3.left.cell 1).trans rfl
  have e1 := hs3.left.frozen 0
  have e2 := hs3.left.frozen 1
  have HW := Lib.hid (And.intro hs3 (And.intro hb3 h3.ok))
  clear hs3 hb3 h3
  go_wp2_with fail
  have hs8 := (HW.out.1.setCell (off := 0) (.bool false)).setCell (off := 1) (.slice none 0 0)
  have hb8 : Below 0 w ((w3.setCell ⟨g, 0, none⟩ (.bool false)).setCell ⟨g, 1, none⟩ (.slice none 0 0)) := (HW.out.2.1.setCell (p := ⟨g, 0, none⟩) (Nat.zero_le _) _).setCell (p := ⟨g, 1, none⟩) (Nat.zero_le _) _
  generalize (w3.setCell ⟨g, 0, none⟩ (.bool false)).setCell ⟨g, 1, none⟩ (.slice none 0 0) = w8 at hs8 hb8 ⊢
  have r0 : w8.cell? ⟨g, 0, none⟩ = some (.bool false) := (hs8.left.cell 0).trans rfl
  have r1 : w8.cell? ⟨g, 1, none⟩ = some (.slice none 0 0) := (hs8.left.cell 1).trans rfl
  have hl0 : limbsOf (0 : Int).natAbs = [] := limbsOf_zero
  refine bodyPost_ret (v := .tuple #[.agg #[.bool false, .slice none 0 0], .bool false]) (by simp [results, Try.results39, go_sem, r0, r1]) rfl ⟨none, 0, ?_, ?_, ?_, hb8⟩
  · rw [hl0]; rfl
  · rw [hl0]; exact Nat.le_refl _
  · rw [hl0]
    refine ⟨?_, HW.out.2.2⟩
    exact (hs8.right.nil_own).perm (by simp only [List.map_nil, List.length_nil]; ac_rfl)
end
end Go.Proofs.Ytanjiecefioffaa

/- value.Store: Num of an object. -/
namespace Go.Proofs.Ytanjiecefioffaa
open Go.RowKit

def twoL (r : Int) : List Int := [r % 4294967296, r / 4294967296]
/-- The limbs of a number's raw words, behind the sign. -/
def HS.limbs (S : HS) (x : Int) : Nat → List Int
  | 0 => []
  | k + 1 => S.limbs x k ++ twoL (S.rawAt x (1 + k))
def HS.numV (S : HS) (x : Int) : Int := sgn (decide (S.rawAt x 0 = 1)) (valL (S.limbs x (S.raw x - 1).toNat))
def HS.numFit (S : HS) (x : Int) : Bool := S.shape x 5 0 (-1) && decide (S.rawAt x 0 ≤ 1)
def HS.numOk (S : HS) (x : Int) : Bool := S.numFit x && (!isSmall (S.numV x) && decide (((limbsOf (S.numV x).natAbs).length + 1) / 2 = (S.raw x - 1).toNat))
/-- The number that a word is. -/
def HS.num (S : HS) (x : Int) : Option Int := if x % 4 = 1 then some (intW x) else if S.numOk x = true then some (S.numV x) else none
theorem limbs_len (S : HS) (x : Int) (k : Nat) : (S.limbs x k).length = 2 * k := by
  induction k with
  | zero => rfl
  | succ k ih => simp only [HS.limbs, List.length_append, ih, twoL, List.length_cons, List.length_nil]; omega
theorem limbs_lim {w : World} {V : HV} {S : HS} (h : HeapV w V S) (x : Int) (x0 : 0 ≤ x) (k : Nat) : Limbs (S.limbs x k) := by
  induction k with
  | zero => intro z hz; simp [HS.limbs] at hz
  | succ k ih =>
    intro z hz
    simp only [HS.limbs, List.mem_append] at hz
    rcases hz with hz | hz
    · exact ih z hz
    · have := h.raw_bd x (1 + k) x0
      simp [twoL] at hz
      rcases hz with rfl | rfl <;> omega
def NumRel (W : World) (gn go : Nat) (neg : Bool) (X : StV) (V : HV) (S : HS) (Y : StS) (R : HP) (x : Int) (n : Nat) (i : Value) (wr : World) : Prop :=
  ∃ (k : Nat) (v : Value), k ≤ n ∧ i = .int .i64 (1 + (k : Int)) ∧ StW wr X V S Y (blk gn (.cells #[.bool neg, v] 51 (0, 0)) * (own 70 1 v (2 * k) ((S.limbs x k).map u32v) * (blk go (.cells #[.bool false, .slice none 0 0] 51 (0, 0)) * R))) ∧ Below 0 W wr

section
variable {w : World} {X : StV} {V : HV} {S : HS} {Y : StS} {R : HP}
set_option maxRecDepth 100000 in
set_option maxHeartbeats 2000000 in
theorem StW.Num_obj (h : StW w X V S Y R) (x : Int) (x0 : 0 ≤ x) (x1 : x < 18446744073709551616) (hx : x % 4 ≠ 1) (hf : S.numFit x = true) :
    Calls Try.prog 39 #[.pointer (some ⟨X.g, 0, none⟩), .int .u64 x] w (NumPost X V S Y R ((S.num x).getD 0) (S.num x).isSome w) := by
  have hI := Int_any (w.alloc (.cells #[.bool false, .slice none 0 0] 51)) x x0 x1
  have hb : intB x = false := by unfold intB; simp [hx]
  have hi0 : intW x = 0 := by unfold intW; rw [if_neg hx]
  rw [hb, hi0] at hI
  obtain ⟨i0, hi, hz0, hz1, hz2⟩ := info_parts info_u32
  have H1 := Lib.hid (And.intro hi (And.intro hz0 (And.intro hz1 hz2)))
  clear hi hz0 hz1 hz2
  have h1 : StW (w.alloc (.cells #[.bool false, .slice none 0 0] 51)) X V S Y (Go.Proofs.Ytanjiecefioffaa.blk w.heap.size (.cells #[.bool false, .slice none 0 0] 51 (0, 0)) * R) := ⟨(h.s.alloc _).perm (by ac_rfl), h.ok⟩
  have hb1 : Below 0 w (w.alloc (.cells #[.bool false, .slice none 0 0] 51)) := Below.zero_alloc _ _
  have hf2 := hf
  unfold HS.numFit at hf2
  rw [Bool.and_eq_true, decide_eq_true_eq] at hf2
  obtain ⟨hsh, hsg⟩ := hf2
  have hnum : S.num x = if S.numOk x = true then some (S.numV x) else none := by unfold HS.num; rw [if_neg hx]
  have hlim := fun k => limbs_lim h.hw.v x x0 k
  have hrd := fun i => h.hw.v.raw_bd x i x0
  have hsg0 := (hrd 0).1
  have hrw : 0 ≤ S.raw x ∧ S.raw x < 16777216 := by unfold HS.raw; exact rawH_bd _
  have HH := Lib.hid (And.intro h1 (And.intro hb1 (And.intro hf (And.intro hnum (And.intro hlim hrd)))))
  clear h1 hb1 h hb hx hi0 hf hnum hlim hrd
  go_enter Try.func39, Try.ntmps39
  go_wp2_with fail
  refine hI.mono ?_
  rintro e w' ⟨rfl, j, rfl⟩
  obtain ⟨g, hg⟩ : ∃ g, w.heap.size = g := ⟨_, rfl⟩
  rw [hg] at HH ⊢
  have h2 := HH.out.1.drewN j
  have hb2 := HH.out.2.1.trans (drewN_below0 _ j)
  clear hI
  generalize (w.alloc (.cells #[.bool false, .slice none 0 0] 51)).drewN j = w2 at *
  have c0 := h2.c0
  have hR := h2.Raw x 0 x0 x1
  have hS := fun n : Nat => (h2.drewN n).shape x 5 0 (-1) x0 x1
  rw [hsh] at hS
  have HB := Lib.hid (And.intro h2 hb2)
  clear h2 hb2 hsh
  obtain ⟨sg, hsgv⟩ : ∃ sg, S.rawAt x 0 = sg := ⟨_, rfl⟩
  rw [hsgv] at hR hsg hsg0
  generalize decide ((0 : Int) ≤ 0 ∧ 0 < S.raw x) = bb at *
  have bgt : decide (sg > 1) = false := by simp; omega
  obtain ⟨neg, hneg⟩ : ∃ neg, (sg == 1) = neg := ⟨_, rfl⟩
  have HG := Lib.hid (And.intro hsgv hneg)
  clear hsgv
  go_wp2_with fail
  with_reducible refine hR.mono ?_
  rintro e w' ⟨rfl, j2, rfl⟩
  go_wp2_with fail
  with_reducible refine (hS j2).mono ?_
  rintro e w' ⟨rfl, j3, rfl⟩
  have h3 := (HB.out.1.drewN j2).drewN j3
  have hb3 := (HB.out.2.trans (drewN_below0 w2 j2)).trans (drewN_below0 _ j3)
  clear hR hS c0
  generalize (w2.drewN j2).drewN j3 = w3 at *
  go_upto_region 8 with (fail)
  have h4 : StW (w3.alloc (.cells #[.bool neg, .slice none 0 0] 51)) X V S Y (Go.Proofs.Ytanjiecefioffaa.blk w3.heap.size (.cells #[.bool neg, .slice none 0 0] 51 (0, 0)) * (own 70 1 (.slice none 0 0) (2 * 0) ((S.limbs x 0).map u32v) * (Go.Proofs.Ytanjiecefioffaa.blk g (.cells #[.bool false, .slice none 0 0] 51 (0, 0)) * R))) := ⟨((h3.s.alloc (.cells #[.bool neg, .slice none 0 0] 51)).nil_own (e := 70) (sz := 1)).perm (by unfold HS.limbs; simp only [List.map_nil, Nat.mul_zero]; ac_rfl), h3.ok⟩
  have hb4 : Below 0 w (w3.alloc (.cells #[.bool neg, .slice none 0 0] 51)) := hb3.trans (Below.zero_alloc _ _)
  clear h3 hb3
  generalize w3.alloc (.cells #[.bool neg, .slice none 0 0] 51) = w4 at *
  generalize w3.heap.size = gn at *
  obtain ⟨n, hn⟩ : ∃ n : Nat, (S.raw x - 1).toNat = n := ⟨_, rfl⟩
  have HC := Lib.hid (And.intro h4 (And.intro hb4 hn))
  clear h4 hb4
  go_wp2_with fail
  go_loopw [11] (NumRel w gn g neg X V S Y R x n) (fun i _ => n + 1 - (intOf i).toNat)
  case atStart => exact ⟨0, _, Nat.zero_le _, rfl, HC.out.1, HC.out.2.1⟩
  case round =>
    obtain ⟨k, v, hk, rfl, hs, hb⟩ := hrel
    have c0 := hs.c0
    have hRs := hs.hw.v.Raws x x0 x1
    by_cases hlt : k < n
    · have b1 : decide (1 + (k : Int) < S.raw x) = true := by simp; omega
      have hRa := fun j : Nat => (hs.drewN j).Raw x (1 + (k : Int)) x0 x1
      obtain ⟨r0, r1⟩ := HH.out.2.2.2.2.2 (1 + (k : Int))
      have hlk : S.limbs x (k + 1) = S.limbs x k ++ twoL (S.rawAt x (1 + (k : Int))) := rfl
      generalize S.rawAt x (1 + (k : Int)) = r at *
      generalize hrr : S.raw x = rr at *
      generalize decide (0 ≤ 1 + (k : Int) ∧ 1 + (k : Int) < rr) = b2 at *
      have HX := Lib.hid (And.intro hs (And.intro hb hlk))
      clear hs hb hlk
      go_wp2_with fail
      refine hRs.mono ?_
      rintro e w' ⟨rfl, j4, rfl⟩
      go_wp2_with fail
      refine (hRa j4).mono ?_
      rintro e w' ⟨rfl, j5, rfl⟩
      have hs5 := (HX.out.1.drewN j4).drewN j5
      have hb5 := (HX.out.2.1.trans (drewN_below0 wr j4)).trans (drewN_below0 _ j5)
      generalize (wr.drewN j4).drewN j5 = w5 at *
      have w32 : IntKind.u32.wrap r = r % 4294967296 := rfl
      have w33 : IntKind.u32.wrap (r / 4294967296) = r / 4294967296 := by rw [show IntKind.u32.wrap (r / 4294967296) = (r / 4294967296) % 4294967296 from rfl]; omega
      have d1 : w5.cell? ⟨gn, 1, none⟩ = some v := (hs5.fr.left.cell 1).trans rfl
      clear hRs hRa c0
      go_wp2_with (at_builtin; refine halt ?_)
      refine goon ?_
      obtain ⟨hi, hz0, hz1, hz2⟩ := H1.out
      have hs7 : sat (w5.alloc (.cells #[.int .u32 (r % 4294967296), .int .u32 (r / 4294967296)] 70)) (own 70 1 v (2 * k) ((S.limbs x k).map u32v) * (Go.Proofs.Ytanjiecefioffaa.blk w5.heap.size (.cells #[.int .u32 (r % 4294967296), .int .u32 (r / 4294967296)] 70 (0, 0)) * (Go.Proofs.Ytanjiecefioffaa.blk gn (.cells #[.bool neg, v] 51 (0, 0)) * (isHeap V S * (isSt X V.g Y * (Go.Proofs.Ytanjiecefioffaa.blk g (.cells #[.bool false, .slice none 0 0] 51 (0, 0)) * R)))))) := (hs5.s.alloc (.cells #[.int .u32 (r % 4294967296), .int .u32 (r / 4294967296)] 70)).perm (by ac_rfl)
      have hb7 : Below 0 w (w5.alloc (.cells #[.int .u32 (r % 4294967296), .int .u32 (r / 4294967296)] 70)) := hb5.trans (Below.zero_alloc _ _)
      have hnew : ∀ (j : Nat) u, [Value.int .u32 (r % 4294967296), Value.int .u32 (r / 4294967296)][j]? = some u → (w5.alloc (.cells #[.int .u32 (r % 4294967296), .int .u32 (r / 4294967296)] 70)).cell? ((⟨w5.heap.size, 0, none⟩ : Addr).add j) = some u := by
        intro j u hj
        have ha : ((⟨w5.heap.size, 0, none⟩ : Addr).add j) = ⟨w5.heap.size, j, none⟩ := by unfold Addr.add; split <;> simp_all
        rw [ha, hs7.right.left.cell j]
        match j, hj with
        | 0, hj => simpa using hj
        | 1, hj => simpa using hj
      have hok5 := hs5.ok
      clear hs5 hb5
      generalize w5.alloc (.cells #[.int .u32 (r % 4294967296), .int .u32 (r / 4294967296)] 70) = w7 at *
      generalize w5.heap.size = bn at *
      refine wpList_append_sat rfl (.tmp 67) (.tmp 73) 49 rfl 70 i0 (.int .u32 0) 1 4 Try.underlying49 hi hz0 hz1 hz2 rfl v (2 * k) ((S.limbs x k).map u32v) rfl _ ⟨bn, 0, none⟩ 2 2 [.int .u32 (r % 4294967296), .int .u32 (r / 4294967296)] rfl ?_ hs7 rfl hnew (by intro u hu; simp at hu; rcases hu with rfl | rfl <;> rfl) (by omega) (by unfold maxLen; omega)
      clear hi hz0 hz1 hz2 hnew hs7
      intro v' w9 hs9 hb9
      obtain ⟨vo, vc, rfl⟩ := own_val hs9
      have e1 : w9.cell? ⟨gn, 1, none⟩ = some v := (hs9.right.right.left.cell 1).trans rfl
      have e2 := hs9.right.right.left.frozen 1
      have HQ := Lib.hid (And.intro hs9 (And.intro (hb7.trans hb9) hok5))
      clear hs9 hb9 hb7 hok5 d1
      go_wp2_with fail
      go_roundw
      case rel =>
        have hs10 := (show sat w9 (Go.Proofs.Ytanjiecefioffaa.blk gn (.cells #[.bool neg, v] 51 (0, 0)) * (Go.Proofs.Ytanjiecefioffaa.blk bn (.cells #[.int .u32 (r % 4294967296), .int .u32 (r / 4294967296)] 70 (0, 0)) * (own 70 1 (.slice vo (2 * k + 2) vc) (2 * k + 2) ((S.limbs x k).map u32v ++ [.int .u32 (r % 4294967296), .int .u32 (r / 4294967296)]) * (isHeap V S * (isSt X V.g Y * (Go.Proofs.Ytanjiecefioffaa.blk g (.cells #[.bool false, .slice none 0 0] 51 (0, 0)) * R)))))) from HQ.out.1.perm (by ac_rfl)).setCell (off := 1) (.slice vo (2 * k + 2) vc)
        refine ⟨k + 1, .slice vo (2 * k + 2) vc, by omega, by go_num, ⟨?_, HQ.out.2.2⟩, HQ.out.2.1.setCell (p := ⟨gn, 1, none⟩) (Nat.zero_le _) _⟩
        rw [HX.out.2.2]
        have hs11 := (show sat _ (Go.Proofs.Ytanjiecefioffaa.blk bn (.cells #[.int .u32 (r % 4294967296), .int .u32 (r / 4294967296)] 70 (0, 0)) * (isHeap V S * (isSt X V.g Y * (Go.Proofs.Ytanjiecefioffaa.blk gn (.cells #[.bool neg, .slice vo (2 * k + 2) vc] 51 (0, 0)) * (own 70 1 (.slice vo (2 * k + 2) vc) (2 * k + 2) ((S.limbs x k ++ twoL r).map u32v) * (Go.Proofs.Ytanjiecefioffaa.blk g (.cells #[.bool false, .slice none 0 0] 51 (0, 0)) * R)))))) from hs10.perm (by simp only [List.setIfInBounds_toArray, List.set_cons_zero, List.set_cons_succ, twoL, List.map_append, List.map_cons, List.map_nil]; ac_rfl)).right
        exact hs11
      case measure => simp [intOf]; omega
    · obtain rfl : k = n := by omega
      have b1 : decide (1 + (k : Int) < S.raw x) = false := by simp; omega
      have hs0 := (show sat wr (own 70 1 v (2 * k) ((S.limbs x k).map u32v) * (Go.Proofs.Ytanjiecefioffaa.blk gn (.cells #[.bool neg, v] 51 (0, 0)) * (Go.Proofs.Ytanjiecefioffaa.blk g (.cells #[.bool false, .slice none 0 0] 51 (0, 0)) * (isHeap V S * (isSt X V.g Y * R))))) from hs.s.perm (by ac_rfl))
      obtain ⟨vo, vc, rfl⟩ := own_val hs0
      have hvc := own_cap hs0
      have hll := limbs_len S x k
      have hLL := HH.out.2.2.2.2.1 k
      have hnv : S.numV x = sgn neg (valL (S.limbs x k)) := by
        unfold HS.numV
        rw [hn, HG.out.1]
        rw [← HG.out.2]
        rfl
      have hnok : S.numOk x = (!isSmall (sgn neg (valL (S.limbs x k))) && decide (((limbsOf (valL (S.limbs x k))).length + 1) / 2 = k)) := by
        unfold HS.numOk
        rw [HH.out.2.2.1, hnv, sgn_abs, hn, Bool.true_and]
      obtain ⟨L, hL⟩ : ∃ L, S.limbs x k = L := ⟨_, rfl⟩
      rw [hL] at hs0 hll hLL hnv hnok
      obtain ⟨F, hF⟩ : ∃ F : HP, F = own 70 1 (.slice vo (2 * k) vc) (2 * k) (L.map u32v) * (Go.Proofs.Ytanjiecefioffaa.blk gn (.cells #[.bool neg, .slice vo (2 * k) vc] 51 (0, 0)) * (Go.Proofs.Ytanjiecefioffaa.blk g (.cells #[.bool false, .slice none 0 0] 51 (0, 0)) * (isHeap V S * (isSt X V.g Y * R)))) := ⟨_, rfl⟩
      rw [← hF] at hs0
      have hFl : ∀ w', sat w' F → LimbsW w' vo L := fun w' h => by rw [hF] at h; exact limbs_own rfl h
      have hFc : ∀ w', sat w' F → (w'.cell? ⟨gn, 0, none⟩ = some (.bool neg) ∧ w'.cell? ⟨gn, 1, none⟩ = some (.slice vo (2 * k) vc)) ∧ (w'.cell? ⟨g, 0, none⟩ = some (.bool false) ∧ w'.cell? ⟨g, 1, none⟩ = some (.slice none 0 0)) ∧ w'.frozen? ⟨g, 0, none⟩ = false ∧ w'.frozen? ⟨g, 1, none⟩ = false := by
        intro w' h
        rw [hF] at h
        exact ⟨⟨(h.right.left.cell 0).trans rfl, (h.right.left.cell 1).trans rfl⟩, ⟨(h.right.right.left.cell 0).trans rfl, (h.right.right.left.cell 1).trans rfl⟩, h.right.right.left.frozen 0, h.right.right.left.frozen 1⟩
      obtain ⟨⟨d0, d1⟩, _⟩ := hFc wr hs0
      have hfin : ∀ w', sat w' F → StW w' X V S Y (Go.Proofs.Ytanjiecefioffaa.blk g (.cells #[.bool false, .slice none 0 0] 51 (0, 0)) * R) := by
        intro w' h
        rw [hF] at h
        exact ⟨h.right.right.perm (by ac_rfl), hs.ok⟩
      have HX := Lib.hid (And.intro hs0 (And.intro hb (And.intro hFl (And.intro hFc (And.intro hfin (And.intro hLL (And.intro hnv hnok)))))))
      have hkb : k < 16777216 := by omega
      have HFF := Lib.hid (And.intro hF hs.ok)
      clear hs hs0 hb hFl hFc hfin hLL hnv hnok hF hL hlt hk
      go_wp2_with fail
      refine hRs.mono ?_
      rintro e w' ⟨rfl, j4, rfl⟩
      have hs5 := HX.out.1.drewN j4
      have hb5 := HX.out.2.1.trans (drewN_below0 wr j4)
      have d0' : (wr.drewN j4).cell? ⟨gn, 0, none⟩ = some (.bool neg) := d0
      have d1' : (wr.drewN j4).cell? ⟨gn, 1, none⟩ = some (.slice vo (2 * k) vc) := d1
      clear d0 d1 hRs c0
      generalize wr.drewN j4 = w5 at *
      have hs6 := hs5.alloc (.cells #[.bool neg, .slice vo (2 * k) vc] 51)
      have hSum := num_Sum w5.heap.size 1 #[.bool neg, .slice vo (2 * k) vc] [(neg, L)] hs6 (by
        intro j m l hj
        match j, hj with
        | 0, hj =>
          simp at hj
          obtain ⟨rfl, rfl⟩ := hj
          exact ⟨vo, vc, rfl, by rw [hll]; rfl, by rw [hll]; exact hvc, HX.out.2.2.1, HX.out.2.2.2.2.2.1, by rw [hll]; unfold topB; omega⟩) (by show 1 ≤ 2; decide)
      rw [show [(neg, L)].length = 1 from rfl, show sumI [(neg, L)] = sgn neg (valL L) by simp [sumI]] at hSum
      have HS := Lib.hid (hb5.trans (Below.zero_alloc w5 (.cells #[.bool neg, .slice vo (2 * k) vc] 51)))
      clear hs6 hb5 hs5
      go_wp2_with fail
      with_reducible refine hSum.mono ?_
      rintro e w7 ⟨sl, rfl, hs7, hb7⟩
      obtain ⟨lo, lc, rfl⟩ := own_val hs7
      have hlc := own_cap hs7
      rw [sgn_abs] at hlc hs7 ⊢
      have HQ := Lib.hid (And.intro hs7 (HS.out.trans hb7))
      clear hSum hs7 hb7
      obtain ⟨B, hB⟩ : ∃ B, decide (sgn neg (valL L) < 0) = B := ⟨_, rfl⟩
      rw [hB]
      have HBB := Lib.hid hB
      clear hB
      obtain ⟨e, he⟩ : ∃ e, (limbsOf (valL L)).length = e := ⟨_, rfl⟩
      have hel := limbsOf_len_le HX.out.2.2.2.2.2.1
      rw [hll, he] at hel
      rw [he] at hlc ⊢
      have HE := Lib.hid he
      clear he
      go_upto_region 14 with (fail)
      have hs9 := HQ.out.1.alloc (.cells #[.bool B, .slice lo e lc] 51)
      have hb9 := HQ.out.2.trans (Below.zero_alloc w7 (.cells #[.bool B, .slice lo e lc] 51))
      generalize w7.alloc (.cells #[.bool B, .slice lo e lc] 51) = w9 at *
      generalize w7.heap.size = g9 at *
      obtain ⟨⟨c0, c1⟩, _⟩ := HX.out.2.2.2.1 w9 hs9.right.right
      have hSm := num_Small hs9 neg vo vc L (fun w' h => HX.out.2.2.1 w' h.right.right) HX.out.2.2.2.2.2.1 (by rw [hll]; unfold topB; omega) (by rw [hll]; exact hvc)
      rw [hll] at hSm
      generalize hvv : sgn neg (valL L) = vv at *
      have HS9 := Lib.hid (And.intro hb9 hvv)
      clear hs9 hb9 hvv d0' d1'
      go_wp2_with fail
      with_reducible refine hSm.mono ?_
      rintro e' w10 ⟨rfl, hs10, hb10⟩
      obtain ⟨⟨c2, c3⟩, ⟨c4, c5⟩, f4, f5⟩ := HX.out.2.2.2.1 w10 hs10.right.right
      have k0 : w10.cell? ⟨g9, 0, none⟩ = some (.bool B) := (hs10.left.cell 0).trans rfl
      have k1 : w10.cell? ⟨g9, 1, none⟩ = some (.slice lo e lc) := (hs10.left.cell 1).trans rfl
      have g1 : IntKind.i64.wrap ((e : Int) + 1) = e + 1 := IntWalk.i64_in _ (by omega)
      have g2 : ((e : Int) + 1).tdiv 2 = ((e + 1) / 2 : Nat) := by rw [Int.tdiv_eq_ediv_of_nonneg (by omega)]; omega
      have g3 : (2 * (k : Int)).tdiv 2 = k := by rw [Int.tdiv_eq_ediv_of_nonneg (by omega)]; omega
      have g4 : IntKind.i64.wrap (k : Int) = k := IntWalk.i64_in _ (by omega)
      have g5 : IntKind.i64.wrap (((e + 1) / 2 : Nat) : Int) = ((e + 1) / 2 : Nat) := IntWalk.i64_in _ (by omega)
      obtain ⟨q, hq⟩ : ∃ q, (e + 1) / 2 = q := ⟨_, rfl⟩
      rw [hq] at g2 g5
      have HT := Lib.hid (And.intro hs10 (And.intro (HS9.out.1.trans hb10) hq))
      clear hs10 hb10 hq hSm c0 c1
      generalize smallI vv = sv at *
      cases hsm : isSmall vv with
      | true =>
        have hnone : S.num x = none := by
          rw [HH.out.2.2.2.1, if_neg]
          rw [HX.out.2.2.2.2.2.2.2, hsm]
          simp
        have HN := Lib.hid hnone
        clear hnone hsm
        go_wp2_with fail
        have h11 := HX.out.2.2.2.2.1 w10 HT.out.1.right.right
        have hs11 := ((show sat w10 (Go.Proofs.Ytanjiecefioffaa.blk g (.cells #[.bool false, .slice none 0 0] 51 (0, 0)) * (isHeap V S * (isSt X V.g Y * R))) from h11.s.perm (by ac_rfl)).setCell (off := 0) (.bool false)).setCell (off := 1) (.slice none 0 0)
        have hb11 : Below 0 w ((w10.setCell ⟨g, 0, none⟩ (.bool false)).setCell ⟨g, 1, none⟩ (.slice none 0 0)) := (HT.out.2.1.setCell (p := ⟨g, 0, none⟩) (Nat.zero_le _) _).setCell (p := ⟨g, 1, none⟩) (Nat.zero_le _) _
        generalize (w10.setCell ⟨g, 0, none⟩ (.bool false)).setCell ⟨g, 1, none⟩ (.slice none 0 0) = w11 at hs11 hb11 ⊢
        have r0 : w11.cell? ⟨g, 0, none⟩ = some (.bool false) := (hs11.left.cell 0).trans rfl
        have r1 : w11.cell? ⟨g, 1, none⟩ = some (.slice none 0 0) := (hs11.left.cell 1).trans rfl
        have hl0 : limbsOf (0 : Int).natAbs = [] := limbsOf_zero
        refine bodyPost_ret (v := .tuple #[.agg #[.bool false, .slice none 0 0], .bool false]) (by simp [results, Try.results39, go_sem, r0, r1]) rfl ⟨none, 0, ?_, ?_, ?_, hb11⟩
        · rw [HN.out, Option.getD_none, hl0]; rfl
        · rw [HN.out, Option.getD_none, hl0]; exact Nat.le_refl _
        · rw [HN.out, Option.getD_none, hl0]
          refine ⟨?_, HFF.out.2⟩
          exact (hs11.right.nil_own).perm (by simp only [List.map_nil, List.length_nil]; ac_rfl)
      | false =>
        by_cases hqk : q = k
        · skip
          have hvv2 : vv.natAbs = valL L := by rw [← HS9.out.2, sgn_abs]
          have hsome : S.num x = some vv := by
            rw [HH.out.2.2.2.1, HX.out.2.2.2.2.2.2.2, HX.out.2.2.2.2.2.2.1, hsm, HE.out, HT.out.2.2, hqk]
            simp
          have HN := Lib.hid (And.intro hsome hvv2)
          have b5 : (((q : Nat) : Int) != k) = false := by simp [hqk]
          clear hsome hvv2 hsm hqk
          go_wp2_with fail
          have hs10 := HT.out.1.right
          rw [HFF.out.1] at hs10
          have hs11 := ((show sat w10 (Go.Proofs.Ytanjiecefioffaa.blk g (.cells #[.bool false, .slice none 0 0] 51 (0, 0)) * ((own 70 1 (.slice vo (2 * k) vc) (2 * k) (L.map u32v) * Go.Proofs.Ytanjiecefioffaa.blk gn (.cells #[.bool neg, .slice vo (2 * k) vc] 51 (0, 0))) * (isHeap V S * (isSt X V.g Y * (own 70 1 (.slice lo (limbsOf (valL L)).length lc) (limbsOf (valL L)).length ((limbsOf (valL L)).map u32v) * R))))) from hs10.perm (by rw [HE.out]; ac_rfl)).setCell (off := 0) (.bool B)).setCell (off := 1) (.slice lo e lc)
          have hb11 : Below 0 w ((w10.setCell ⟨g, 0, none⟩ (.bool B)).setCell ⟨g, 1, none⟩ (.slice lo e lc)) := (HT.out.2.1.setCell (p := ⟨g, 0, none⟩) (Nat.zero_le _) _).setCell (p := ⟨g, 1, none⟩) (Nat.zero_le _) _
          generalize (w10.setCell ⟨g, 0, none⟩ (.bool B)).setCell ⟨g, 1, none⟩ (.slice lo e lc) = w11 at hs11 hb11 ⊢
          have r0 : w11.cell? ⟨g, 0, none⟩ = some (.bool B) := (hs11.left.cell 0).trans rfl
          have r1 : w11.cell? ⟨g, 1, none⟩ = some (.slice lo e lc) := (hs11.left.cell 1).trans rfl
          refine bodyPost_ret (v := .tuple #[.agg #[.bool B, .slice lo e lc], .bool true]) (by simp [results, Try.results39, go_sem, r0, r1]) rfl ⟨lo, lc, ?_, ?_, ?_, hb11⟩
          · rw [HN.out.1, Option.getD_some, HN.out.2, HE.out, HBB.out]; rfl
          · rw [HN.out.1, Option.getD_some, HN.out.2, HE.out]; exact hlc
          · rw [HN.out.1, Option.getD_some, HN.out.2]
            exact ⟨hs11.right.right, HFF.out.2⟩
        · have hnone : S.num x = none := by
            rw [HH.out.2.2.2.1, if_neg]
            rw [HX.out.2.2.2.2.2.2.2, HE.out, HT.out.2.2]
            simp [hqk]
          have b5 : (((q : Nat) : Int) != k) = true := by rw [bne_iff_ne]; omega
          have HN := Lib.hid hnone
          clear hnone hsm hqk
          go_wp2_with fail
          have h11 := HX.out.2.2.2.2.1 w10 HT.out.1.right.right
          have hs11 := ((show sat w10 (Go.Proofs.Ytanjiecefioffaa.blk g (.cells #[.bool false, .slice none 0 0] 51 (0, 0)) * (isHeap V S * (isSt X V.g Y * R))) from h11.s.perm (by ac_rfl)).setCell (off := 0) (.bool false)).setCell (off := 1) (.slice none 0 0)
          have hb11 : Below 0 w ((w10.setCell ⟨g, 0, none⟩ (.bool false)).setCell ⟨g, 1, none⟩ (.slice none 0 0)) := (HT.out.2.1.setCell (p := ⟨g, 0, none⟩) (Nat.zero_le _) _).setCell (p := ⟨g, 1, none⟩) (Nat.zero_le _) _
          generalize (w10.setCell ⟨g, 0, none⟩ (.bool false)).setCell ⟨g, 1, none⟩ (.slice none 0 0) = w11 at hs11 hb11 ⊢
          have r0 : w11.cell? ⟨g, 0, none⟩ = some (.bool false) := (hs11.left.cell 0).trans rfl
          have r1 : w11.cell? ⟨g, 1, none⟩ = some (.slice none 0 0) := (hs11.left.cell 1).trans rfl
          have hl0 : limbsOf (0 : Int).natAbs = [] := limbsOf_zero
          refine bodyPost_ret (v := .tuple #[.agg #[.bool false, .slice none 0 0], .bool false]) (by simp [results, Try.results39, go_sem, r0, r1]) rfl ⟨none, 0, ?_, ?_, ?_, hb11⟩
          · rw [HN.out, Option.getD_none, hl0]; rfl
          · rw [HN.out, Option.getD_none, hl0]; exact Nat.le_refl _
          · rw [HN.out, Option.getD_none, hl0]
            refine ⟨?_, HFF.out.2⟩
            exact (hs11.right.nil_own).perm (by simp only [List.map_nil, List.length_nil]; ac_rfl)
/-- Num of any word. -/
theorem StW.Num (h : StW w X V S Y R) (x : Int) (x0 : 0 ≤ x) (x1 : x < 18446744073709551616) :
    Calls Try.prog 39 #[.pointer (some ⟨X.g, 0, none⟩), .int .u64 x] w (NumPost X V S Y R ((S.num x).getD 0) (S.num x).isSome w) := by
  by_cases hx : x % 4 = 1
  · have e : S.num x = some (intW x) := by unfold HS.num; rw [if_pos hx]
    rw [e]
    exact h.Num_fix x x0 x1 hx
  · cases hf : S.numFit x with
    | true => exact h.Num_obj x x0 x1 hx hf
    | false =>
      have e : S.num x = none := by
        unfold HS.num
        rw [if_neg hx, if_neg]
        unfold HS.numOk
        rw [hf]
        simp
      rw [e]
      cases hsh : S.shape x 5 0 (-1) with
      | false => exact h.Num_not x x0 x1 hx hsh
      | true =>
        refine h.Num_big x x0 x1 hx hsh ?_
        unfold HS.numFit at hf
        rw [hsh, Bool.true_and, decide_eq_false_iff_not] at hf
        omega
end
end Go.Proofs.Ytanjiecefioffaa

/- A collection, plainly: each step keeps what holds. -/
namespace Go.Proofs.Ytanjiecefioffaa
open Go.RowKit

/-- What was copied stays where it is. -/
def Later (c c' : CS) : Prop := ∀ k : Nat, c.at_ k ≠ 0 → c'.at_ k = c.at_ k
theorem Later.refl (c : CS) : Later c c := fun _ _ => rfl
theorem Later.trans {a b c : CS} (h : Later a b) (g : Later b c) : Later a c := fun k hk => by rw [g k (by rw [h k hk]; exact hk), h k hk]
theorem Later.res {S : HS} {c c' : CS} (h : Later c c') {w : Int} (hr : Res S c w) : Res S c' w ∧ fwd S c' w = fwd S c w := by
  refine ⟨fun hi => by rw [h _ (hr hi)]; exact hr hi, ?_⟩
  unfold fwd
  by_cases hi : S.is w = true
  · rw [if_pos hi, if_pos hi, h _ (hr hi)]
  · rw [if_neg hi, if_neg hi]

theorem place_unique {ws : List Int} {bs : List Bool} (h : WfH ws bs) {j j' p : Nat} (hj : bs[j]? = some true) (hj' : bs[j']? = some true) (a : j ≤ p) (b : p < j + sizeAt ws j) (a' : j' ≤ p) (b' : p < j' + sizeAt ws j') : j = j' := by
  unfold sizeAt at *
  rcases Nat.lt_trichotomy j j' with e | e | e
  · have := h.apart j j' hj hj' e; omega
  · exact e
  · have := h.apart j' j hj' hj e; omega

theorem put_at {S : HS} {c : CS} {k : Nat} (hl : c.gone.length = S.ws.length) (hk : k < S.ws.length) (q : Nat) : (c.put S k).at_ q = if q = k then 4 * (c.tw.length : Int) else c.at_ q := by
  unfold CS.at_ CS.put
  simp only
  by_cases e : q = k
  · subst e; rw [if_pos rfl, getD_set_eq (by omega)]
  · rw [if_neg e, getD_set_ne (fun h => e h.symm)]

/-- An object is copied. -/
theorem GcInv.put {S : HS} {c : CS} {P : Nat} (h : GcInv S c P) (hw : WfH S.ws S.bs) {k : Nat} (hk : S.bs[k]? = some true) (h0 : c.at_ k = 0) :
    GcInv S (c.put S k) P ∧ Later c (c.put S k) ∧ c.tw.length ≤ (c.put S k).tw.length ∧ ∀ j, j < c.tw.length → (c.put S k).tw.getD j 0 = c.tw.getD j 0 := by
  have hkl : k < S.ws.length := by have := (List.getElem?_eq_some_iff.1 hk).1; have := hw.len; omega
  have hfit := hw.fits k hk
  have hat := put_at (S := S) (c := c) (k := k) h.gone hkl
  have hpos := h.wf.pos
  have hxl : ((S.ws.drop k).take (sizeAt S.ws k)).length = sizeAt S.ws k := by rw [List.length_take, List.length_drop]; unfold sizeAt at *; omega
  have hx0 : ((S.ws.drop k).take (sizeAt S.ws k)).getD 0 0 = S.ws.getD k 0 := getD_piece (i := 0) (by unfold sizeAt; omega)
  have hlate : Later c (c.put S k) := by
    intro q hq
    rw [hat, if_neg]
    rintro rfl
    exact hq h0
  have hpre : ∀ j, j < c.tw.length → (c.put S k).tw.getD j 0 = c.tw.getD j 0 := fun j hj => getD_app_left hj
  have hplen : (c.put S k).tw.length = c.tw.length + sizeAt S.ws k := by unfold CS.put; simp only [List.length_append, hxl]
  have htb : ∀ j : Nat, (c.put S k).tb[j]? = some true ↔ c.tb[j]? = some true ∨ j = c.tw.length := by
    intro j
    rw [← h.wf.len]
    exact laid_at _ _ _
  have hjlt : ∀ j : Nat, c.tb[j]? = some true → j < c.tw.length := by
    intro j hj; have := (List.getElem?_eq_some_iff.1 hj).1; have := h.wf.len; omega
  have hres : ∀ w, Res S c w → Res S (c.put S k) w ∧ fwd S (c.put S k) w = fwd S c w := fun w hr => hlate.res hr
  have hold : ∀ q j : Nat, c.at_ q = 4 * (j : Int) → Copied S c P q j → Copied S (c.put S k) P q j := by
    intro q j _ hc
    have hjl := hjlt j hc.now
    have hjf := h.wf.fits j hc.now
    rw [hc.head] at hjf
    refine ⟨hc.was, (htb j).2 (.inl hc.now), by rw [hpre j hjl]; exact hc.head, ?_, ?_, ?_⟩
    · intro i h1 h2
      rw [hpre _ (by unfold tagAt rawAt at *; omega)]; exact hc.raws i h1 h2
    · intro i h1 h2
      obtain ⟨g1, g2⟩ := hc.done i h1 h2
      obtain ⟨g3, g4⟩ := hres _ g1
      rw [hpre _ (by unfold tagAt at *; omega), g4]; exact ⟨g3, g2⟩
    · intro i h1 h2
      rw [hpre _ (by unfold tagAt at *; omega)]; exact hc.todo i h1 h2
  refine ⟨⟨?_, ?_, ?_, ?_, ?_, ?_, ?_⟩, hlate, by omega, hpre⟩
  · simp only [CS.put, List.length_set]; exact h.gone
  · have hwa := wf_append h.wf (xs := (S.ws.drop k).take (sizeAt S.ws k)) (by rw [hxl]; show _ = 1 + (tagH _).toNat + (rawH _).toNat; rw [hx0]; rfl) (fun x hx => hw.u x (List.mem_of_mem_drop (List.mem_of_mem_take hx))) (by rw [hx0]; exact hw.hdr k hk)
    rw [hxl] at hwa
    exact hwa
  · rw [hplen, h.sum]
    have h1 := sumO_set (p := fun q => decide (c.at_ q ≠ 0)) (q := fun q => decide ((c.put S k).at_ q ≠ 0)) (f := sizeAt S.ws) (m := S.ws.length) (k := k) hkl (by simp [h0]) (by rw [hat, if_pos rfl, decide_eq_true_eq]; omega) (fun j hj => by simp only [hat, if_neg hj])
    rw [h1]; omega
  · intro q hq
    rw [hat] at hq ⊢
    by_cases e : q = k
    · subst e
      rw [if_pos rfl]
      refine ⟨c.tw.length, rfl, hk, (htb _).2 (.inr rfl), ?_, ?_, ?_, ?_⟩
      · have := getD_app_right (l := c.tw) (m := (S.ws.drop q).take (sizeAt S.ws q)) (k := 0)
        rw [hx0] at this
        exact this
      · intro i h1 h2
        have := getD_app_right (l := c.tw) (m := (S.ws.drop q).take (sizeAt S.ws q)) (k := 1 + i)
        rw [getD_piece (by unfold sizeAt tagAt rawAt at *; omega)] at this
        rw [show c.tw.length + 1 + i = c.tw.length + (1 + i) by omega, show q + 1 + i = q + (1 + i) by omega]
        exact this
      · intro i h1 h2
        have := h.front; omega
      · intro i h1 h2
        have := getD_app_right (l := c.tw) (m := (S.ws.drop q).take (sizeAt S.ws q)) (k := 1 + i)
        rw [getD_piece (by unfold sizeAt tagAt at *; omega)] at this
        rw [show c.tw.length + 1 + i = c.tw.length + (1 + i) by omega, show q + 1 + i = q + (1 + i) by omega]
        exact this
    · rw [if_neg e] at hq ⊢
      obtain ⟨j, h1, h2⟩ := h.tgt q hq
      exact ⟨j, h1, hold q j h1 h2⟩
  · intro j hj
    rcases (htb j).1 hj with hj' | rfl
    · clear hj; have hj := hj'; clear hj'; obtain ⟨q, hq⟩ := h.onto j hj
      have hqk : q ≠ k := by
        rintro rfl
        rw [h0] at hq
        have e0 : j = 0 := by omega
        rw [e0, h.wf.zero.1] at hj; cases hj
      exact ⟨q, by rw [hat, if_neg hqk]; exact hq⟩
    · exact ⟨k, by rw [hat, if_pos rfl]⟩
  · have hne : ∀ q, c.at_ q ≠ 4 * (c.tw.length : Int) := by
      intro q hq
      obtain ⟨j, h1, h2⟩ := h.tgt q (by rw [hq]; omega)
      have := hjlt j h2.now
      omega
    intro q q' hq he
    rw [hat] at hq he
    rw [hat q'] at he
    by_cases e : q = k
    · by_cases e' : q' = k
      · rw [e, e']
      · rw [if_pos e, if_neg e'] at he
        exact absurd he.symm (hne q')
    · by_cases e' : q' = k
      · rw [if_neg e, if_pos e'] at he
        exact absurd he (hne q)
      · rw [if_neg e] at hq he
        rw [if_neg e'] at he
        exact h.inj q q' hq he
  · rw [hplen]; have := h.front; omega

/-- A word is copied. -/
theorem GcInv.copy1 {S : HS} {c : CS} {P : Nat} (h : GcInv S c P) (hw : WfH S.ws S.bs) (hs : S.ws.length ≤ 1048576) (x : Int) (x0 : 0 ≤ x) (x1 : x < 18446744073709551616) :
    GcInv S (copy1 S c x).1 P ∧ Later c (copy1 S c x).1 ∧ c.tw.length ≤ (copy1 S c x).1.tw.length ∧ (∀ j, j < c.tw.length → (copy1 S c x).1.tw.getD j 0 = c.tw.getD j 0) ∧
    (copy1 S c x).2 = fwd S (copy1 S c x).1 x ∧ Res S (copy1 S c x).1 x ∧ 0 ≤ (copy1 S c x).2 ∧ (copy1 S c x).2 < 18446744073709551616 := by
  have hlen := h.len hw
  unfold Go.Proofs.Ytanjiecefioffaa.copy1
  by_cases hi : S.is x = true
  · have hik := is_iff.1 hi
    have hkl : (x / 4).toNat < S.ws.length := by have := (List.getElem?_eq_some_iff.1 hik.2).1; have := hw.len; omega
    rw [if_pos hi]
    by_cases hg : c.gone.getD (x / 4).toNat 0 = 0
    · rw [if_pos hg]
      obtain ⟨g1, g2, g3, g4⟩ := h.put hw hik.2 hg
      have hat := put_at (S := S) (c := c) (k := (x / 4).toNat) h.gone hkl (x / 4).toNat
      rw [if_pos rfl] at hat
      have hpos := h.wf.pos
      refine ⟨g1, g2, g3, g4, ?_, ?_, ?_, ?_⟩
      · unfold fwd; rw [if_pos hi, hat]
      · intro _; rw [hat]; omega
      · simp only; omega
      · simp only; omega
    · rw [if_neg hg]
      refine ⟨h, Later.refl c, Nat.le_refl _, fun _ _ => rfl, ?_, ?_, ?_, ?_⟩
      · unfold fwd; rw [if_pos hi]; rfl
      · intro _; exact hg
      · obtain ⟨j, h1, _⟩ := h.tgt _ hg
        show 0 ≤ c.at_ (x / 4).toNat
        rw [h1]; omega
      · obtain ⟨j, h1, h2⟩ := h.tgt _ hg
        have := (List.getElem?_eq_some_iff.1 h2.now).1
        have := h.wf.len
        show c.at_ (x / 4).toNat < _
        rw [h1]; omega
  · rw [if_neg hi]
    refine ⟨h, Later.refl c, Nat.le_refl _, fun _ _ => rfl, ?_, fun e => absurd e hi, x0, x1⟩
    unfold fwd; rw [if_neg hi]

/-- The roots are copied. -/
theorem GcInv.copyAll {S : HS} {P : Nat} (hw : WfH S.ws S.bs) (hs : S.ws.length ≤ 1048576) (l : List Int) : ∀ {c : CS}, GcInv S c P → (∀ x ∈ l, 0 ≤ x ∧ x < 18446744073709551616) →
    GcInv S (copyAll S c l).1 P ∧ Later c (copyAll S c l).1 ∧ (copyAll S c l).2 = l.map (fwd S (copyAll S c l).1) ∧ (∀ x ∈ l, Res S (copyAll S c l).1 x) ∧ (∀ y ∈ (copyAll S c l).2, 0 ≤ y ∧ y < 18446744073709551616) := by
  induction l with
  | nil =>
    intro c h _
    exact ⟨h, Later.refl c, rfl, (fun _ h => nomatch h), (fun _ h => nomatch h)⟩
  | cons w l ih =>
    intro c h hl
    obtain ⟨h1, h2, _, _, h5, h6, h7, h8⟩ := h.copy1 hw hs w (hl w (by simp)).1 (hl w (by simp)).2
    obtain ⟨g1, g2, g3, g4, g5⟩ := ih h1 (fun x hx => hl x (by simp [hx]))
    simp only [Go.Proofs.Ytanjiecefioffaa.copyAll]
    obtain ⟨e1, e2⟩ := g2.res h6
    refine ⟨g1, h2.trans g2, ?_, ?_, ?_⟩
    · rw [List.map_cons, e2, ← h5, ← g3]
    · intro x hx
      rcases List.mem_cons.1 hx with rfl | hx
      · exact e1
      · exact g4 x hx
    · intro y hy
      rcases List.mem_cons.1 hy with rfl | hy
      · exact ⟨h7, h8⟩
      · exact g5 y hy
end Go.Proofs.Ytanjiecefioffaa

/- A collection, plainly: the second finger; what is there at the end. -/
namespace Go.Proofs.Ytanjiecefioffaa
open Go.RowKit

/-- A tagged field at the front is told anew. -/
theorem GcInv.oneField {S : HS} {c : CS} {P : Nat} (h : GcInv S c P) (hw : WfH S.ws S.bs) (hs : S.ws.length ≤ 1048576) {j i : Nat} (hj : c.tb[j]? = some true) (hi : i < tagAt c.tw j) (hP : P = j + 1 + i) :
    GcInv S (fix1 S c P) (P + 1) ∧ Later c (fix1 S c P) ∧ (∀ q, q ≤ j → (fix1 S c P).tw.getD q 0 = c.tw.getD q 0) ∧ (fix1 S c P).tb[j]? = some true := by
  have hjf := h.wf.fits j hj
  have hPl : P < c.tw.length := by unfold tagAt at hi; omega
  have hxm : c.tw.getD P 0 ∈ c.tw := by
    have := getD_get hPl
    exact List.mem_of_getElem? this
  have hxu := h.wf.u _ hxm
  obtain ⟨g1, g2, g3, g4, g5, g6, g7, g8⟩ := h.copy1 hw hs (c.tw.getD P 0) hxu.1 hxu.2
  have hjh : (Go.Proofs.Ytanjiecefioffaa.copy1 S c (c.tw.getD P 0)).1.tw.getD j 0 = c.tw.getD j 0 := g4 j (by omega)
  obtain ⟨k, hk⟩ := h.onto j hj
  have hj0 : 0 < j := by
    rcases Nat.eq_zero_or_pos j with e | e
    · rw [e, h.wf.zero.1] at hj; cases hj
    · exact e
  obtain ⟨j2, e2, hcop⟩ := h.tgt k (by rw [hk]; omega)
  have ej : j2 = j := by omega
  rw [ej] at hcop
  have hx : c.tw.getD P 0 = S.ws.getD (k + 1 + i) 0 := by
    rw [hP]; refine hcop.todo i ?_ (by omega)
    unfold tagAt at *; rw [← hcop.head]; exact hi
  have hk1 := g2 k (by rw [hk]; omega)
  have hj1 : (Go.Proofs.Ytanjiecefioffaa.copy1 S c (c.tw.getD P 0)).1.tb[j]? = some true := by
    obtain ⟨j3, e3, hc3⟩ := g1.tgt k (by rw [hk1, hk]; omega)
    have : j3 = j := by rw [hk1, hk] at e3; omega
    rw [this] at hc3; exact hc3.now
  unfold Go.Proofs.Ytanjiecefioffaa.fix1
  generalize Go.Proofs.Ytanjiecefioffaa.copy1 S c (c.tw.getD P 0) = r at *
  obtain ⟨c1, v⟩ := r
  simp only at *
  have hjf1 := g1.wf.fits j hj1
  have hne : ∀ q : Nat, c1.tb[q]? = some true → q ≠ P := by
    intro q hq e
    have h1 := place_unique g1.wf hj1 hq (p := P) (by omega) (by unfold sizeAt; rw [hjh]; unfold tagAt at hi; omega) (by omega) (by unfold sizeAt; omega)
    omega
  have hget : ∀ q : Nat, q ≠ P → (c1.tw.set P v).getD q 0 = c1.tw.getD q 0 := fun q hq => getD_set_ne (fun e => hq e.symm)
  have hPv : (c1.tw.set P v).getD P 0 = v := getD_set_eq (by omega)
  have hti : i < (tagH (c1.tw.getD j 0)).toNat := by rw [hjh]; exact hi
  refine ⟨⟨g1.gone, wf_set g1.wf hj1 (by omega) (by omega) g7 g8, by simp only [List.length_set]; exact g1.sum, ?_, g1.onto, g1.inj, by simp only [List.length_set]; omega⟩, g2, ?_, hj1⟩
  · intro q hq
    obtain ⟨j', e', hc'⟩ := g1.tgt q hq
    have hfit' := g1.wf.fits j' hc'.now
    have hj'P := hne j' hc'.now
    have hhd : c1.tw.getD j' 0 = S.ws.getD q 0 := hc'.head
    -- a field's place that is P: the same object
    have hsame : ∀ i', i' < tagAt S.ws q + rawAt S.ws q → j' + 1 + i' = P → j' = j ∧ i' = i := by
      intro i' h1 h2
      have := place_unique g1.wf hj1 hc'.now (p := P) (by omega) (by unfold sizeAt; omega) (by omega) (by unfold sizeAt; rw [hhd]; unfold tagAt rawAt at h1; omega)
      omega
    refine ⟨j', e', hc'.was, hc'.now, by simp only; rw [hget j' hj'P]; exact hhd, ?_, ?_, ?_⟩
    · intro i' h1 h2
      simp only
      rw [hget]
      · exact hc'.raws i' h1 h2
      · intro e
        obtain ⟨a, b⟩ := hsame i' h2 e
        rw [a] at hhd
        rw [hhd] at hti
        unfold tagAt at h1; omega
    · intro i' h1 h2
      by_cases e : j' + 1 + i' = P
      · obtain ⟨a, b⟩ := hsame i' (by omega) e
        have hqk : q = k := g1.inj q k hq (by rw [e', hk1, hk, a])
        rw [hqk, b, ← hx]
        refine ⟨g6, ?_⟩
        simp only
        rw [← b, e, hPv]; exact g5
      · obtain ⟨a, b⟩ := hc'.done i' h1 (by omega)
        refine ⟨a, ?_⟩
        simp only
        rw [hget _ e]; exact b
    · intro i' h1 h2
      simp only
      rw [hget _ (by omega)]; exact hc'.todo i' h1 (by omega)
  · intro q hq
    rw [hget q (by omega)]; exact g4 q (by omega)

theorem GcInv.manyFields {S : HS} (hw : WfH S.ws S.bs) (hs : S.ws.length ≤ 1048576) {j : Nat} (n : Nat) : ∀ {c : CS} {i : Nat}, GcInv S c (j + 1 + i) → c.tb[j]? = some true → i + n ≤ tagAt c.tw j →
    GcInv S (fixN S c (j + 1 + i) n) (j + 1 + i + n) ∧ Later c (fixN S c (j + 1 + i) n) ∧ (fixN S c (j + 1 + i) n).tw.getD j 0 = c.tw.getD j 0 ∧ (fixN S c (j + 1 + i) n).tb[j]? = some true := by
  induction n with
  | zero => intro c i h hj _; exact ⟨h, Later.refl c, rfl, hj⟩
  | succ n ih =>
    intro c i h hj hn
    obtain ⟨g1, g2, g3, g4⟩ := h.oneField hw hs hj (i := i) (by omega) rfl
    have gj := g3 j (Nat.le_refl _)
    have ih' := ih (c := Go.Proofs.Ytanjiecefioffaa.fix1 S c (j + 1 + i)) (i := i + 1) g1 g4 (by unfold tagAt at *; rw [gj]; omega)
    simp only [Go.Proofs.Ytanjiecefioffaa.fixN]
    obtain ⟨e1, e2, e3, e4⟩ := ih'
    have hq : j + 1 + i + (n + 1) = j + 1 + (i + 1) + n := by omega
    rw [hq]
    exact ⟨e1, g2.trans e2, by rw [← gj]; exact e3, e4⟩

/-- The front moves where there is no tagged field. -/
theorem GcInv.move {S : HS} {c : CS} {P P' : Nat} (h : GcInv S c P) (hP : P ≤ P') (hl : P' ≤ c.tw.length) (hno : ∀ j i, c.tb[j]? = some true → i < tagAt c.tw j → P ≤ j + 1 + i → P' ≤ j + 1 + i) : GcInv S c P' := by
  refine ⟨h.gone, h.wf, h.sum, ?_, h.onto, h.inj, hl⟩
  intro k hk
  obtain ⟨j, e, hc⟩ := h.tgt k hk
  refine ⟨j, e, hc.was, hc.now, hc.head, hc.raws, ?_, ?_⟩
  · intro i h1 h2
    refine hc.done i h1 ?_
    rcases Nat.lt_or_ge (j + 1 + i) P with a | a
    · exact a
    · have := hno j i hc.now (by unfold tagAt at *; rw [hc.head]; exact h1) a
      omega
  · intro i h1 h2
    exact hc.todo i h1 (by omega)

/-- One object of the new half. -/
theorem GcInv.object {S : HS} {c : CS} {j : Nat} (h : GcInv S c j) (hw : WfH S.ws S.bs) (hs : S.ws.length ≤ 1048576) (hj : c.tb[j]? = some true) :
    GcInv S (fixN S c (j + 1) (tagAt c.tw j)) (j + sizeAt c.tw j) ∧ Later c (fixN S c (j + 1) (tagAt c.tw j)) ∧
    (j + sizeAt c.tw j = (fixN S c (j + 1) (tagAt c.tw j)).tw.length ∨ (fixN S c (j + 1) (tagAt c.tw j)).tb[j + sizeAt c.tw j]? = some true) := by
  have hf := h.wf.fits j hj
  have h1 : GcInv S c (j + 1 + 0) := by
    refine h.move (by omega) (by omega) ?_
    intro q i hq hi hle
    rcases Nat.lt_or_ge q j with a | a
    · have := h.wf.apart q j hq hj a; unfold tagAt at hi; omega
    · omega
  obtain ⟨g1, g2, g3, g4⟩ := GcInv.manyFields hw hs (tagAt c.tw j) h1 hj (by omega)
  simp only [Nat.add_zero] at g1 g2 g3 g4
  generalize Go.Proofs.Ytanjiecefioffaa.fixN S c (j + 1) (tagAt c.tw j) = c' at *
  have hf2 := g1.wf.fits j g4
  have hn2 := g1.wf.next j g4
  rw [g3] at hf2 hn2
  refine ⟨g1.move (by unfold sizeAt tagAt; omega) (by unfold sizeAt; omega) ?_, g2, ?_⟩
  · intro q i hq hi hle
    rcases Nat.lt_trichotomy q j with a | a | a
    · have := g1.wf.apart q j hq g4 a; unfold tagAt at hi; omega
    · subst a; unfold tagAt at hi; rw [g3] at hi; unfold tagAt at hle; omega
    · have := g1.wf.apart j q g4 hq a; rw [g3] at this; unfold sizeAt; omega
  · unfold sizeAt
    rcases hn2 with e | e
    · left; omega
    · right; rw [← e]; congr 1; omega

theorem GcInv.scanned {S : HS} (hw : WfH S.ws S.bs) (hs : S.ws.length ≤ 1048576) (f : Nat) : ∀ {c : CS} {j : Nat}, GcInv S c j → (j = c.tw.length ∨ c.tb[j]? = some true) → S.ws.length ≤ f + j →
    GcInv S (scan S f c j) (scan S f c j).tw.length ∧ Later c (scan S f c j) := by
  induction f with
  | zero =>
    intro c j h hb hf
    have hl := h.len hw
    simp only [Go.Proofs.Ytanjiecefioffaa.scan]
    have : j = c.tw.length := by have := h.front; omega
    exact ⟨this ▸ h, Later.refl c⟩
  | succ f ih =>
    intro c j h hb hf
    simp only [Go.Proofs.Ytanjiecefioffaa.scan]
    by_cases hlt : j < c.tw.length
    · rw [if_pos hlt]
      have hj := hb.resolve_left (by omega)
      obtain ⟨g1, g2, g3⟩ := h.object hw hs hj
      obtain ⟨e1, e2⟩ := ih g1 g3 (by unfold sizeAt; omega)
      exact ⟨e1, g2.trans e2⟩
    · rw [if_neg hlt]
      have : j = c.tw.length := by have := h.front; omega
      exact ⟨this ▸ h, Later.refl c⟩

/-- What a collection comes to. -/
structure GcEnd (S : HS) (roots : List Int) (c : CS) : Prop where
  inv : GcInv S c c.tw.length
  out : S.moved roots = roots.map (fwd S c)
  res : ∀ x ∈ roots, Res S c x
  u : ∀ y ∈ S.moved roots, 0 ≤ y ∧ y < 18446744073709551616

theorem gc_end {S : HS} (hw : WfH S.ws S.bs) (hs : S.ws.length ≤ 1048576) {roots : List Int} (hr : ∀ x ∈ roots, 0 ≤ x ∧ x < 18446744073709551616) : GcEnd S roots (gcEnd S roots) := by
  obtain ⟨h1, _, h3, h4, h5⟩ := GcInv.copyAll hw hs roots (GcInv.zero (S := S) 1 (Nat.le_refl _)) hr
  have hb : 1 = (copyAll S (CS.zero S) roots).1.tw.length ∨ (copyAll S (CS.zero S) roots).1.tb[1]? = some true := by
    rcases h1.wf.first with e | e
    · left; omega
    · right; exact e
  obtain ⟨g1, g2⟩ := GcInv.scanned hw hs S.ws.length h1 hb (by omega)
  refine ⟨g1, ?_, fun x hx => (g2.res (h4 x hx)).1, h5⟩
  show (copyAll S (CS.zero S) roots).2 = _
  rw [h3]
  exact List.map_congr_left fun x hx => ((g2.res (h4 x hx)).2).symm

theorem Res.may {S : HS} {c : CS} {P : Nat} (h : GcInv S c P) {w : Int} (hm : mayB S.bs w = true) (hr : Res S c w) : mayB c.tb (fwd S c w) = true := by
  unfold fwd
  by_cases hi : S.is w = true
  · rw [if_pos hi]
    obtain ⟨j, e, hc⟩ := h.tgt _ (hr hi)
    rw [e]
    unfold mayB
    rw [isB_place.2 hc.now]; simp
  · rw [if_neg hi]
    unfold mayB at hm ⊢
    have : isB S.bs w = false := Bool.eq_false_iff.2 hi
    rw [this] at hm
    simp only [Bool.or_false] at hm
    rw [hm]; rfl

/-- The heap behind a collection is as it should be. -/
theorem gc_ok {S : HS} (hw : WfH S.ws S.bs) (hp : PtrOk S.ws S.bs) (hs : S.ws.length ≤ 1048576) {roots : List Int} (hr : ∀ x ∈ roots, 0 ≤ x ∧ x < 18446744073709551616) :
    WfH (S.collect roots).ws (S.collect roots).bs ∧ PtrOk (S.collect roots).ws (S.collect roots).bs ∧ (S.collect roots).ws.length ≤ S.ws.length := by
  have h := (gc_end hw hs hr).inv
  refine ⟨h.wf, ?_, h.len hw⟩
  intro j i hj hi
  obtain ⟨k, hk⟩ := h.onto j hj
  have hj0 : 0 < j := by
    rcases Nat.eq_zero_or_pos j with e | e
    · rw [e] at hj; have := h.wf.zero.1; unfold HS.collect at hj; simp only at hj; rw [this] at hj; cases hj
    · exact e
  obtain ⟨j2, e2, hc⟩ := h.tgt k (by rw [hk]; omega)
  have ej : j2 = j := by omega
  rw [ej] at hc
  have hi' : i < tagAt S.ws k := by unfold tagAt; rw [← hc.head]; exact hi
  have hf := h.wf.fits j hj
  obtain ⟨a, b⟩ := hc.done i hi' (by rw [hc.head] at hf; unfold tagAt at hi'; omega)
  show mayB (gcEnd S roots).tb ((gcEnd S roots).tw.getD (j + 1 + i) 0) = true
  rw [b]
  exact a.may h (hp k i hc.was hi')
end Go.Proofs.Ytanjiecefioffaa

/- Symbols and texts, plainly: what is laid is told again, also behind a collection. -/
namespace Go.Proofs.Ytanjiecefioffaa
open Go.RowKit

theorem pack_digit : ∀ {l : List Int} (_ : Bytes l) (j : Nat) (x : Int), l[j]? = some x → packB l / 256 ^ j % 256 = x
  | [], _, j, x, hx => by simp at hx
  | y :: l, h, 0, x, hx => by
    simp at hx
    subst hx
    have := h y (by simp)
    simp only [packB, Int.pow_zero, Int.ediv_one]
    omega
  | y :: l, h, j + 1, x, hx => by
    have hy := h y (by simp)
    have ih := pack_digit (l := l) (fun z hz => h z (by simp [hz])) j x (by simpa using hx)
    simp only [packB]
    rw [Int.pow_succ, Int.mul_comm (256 ^ j), ← Int.ediv_ediv_of_nonneg (by decide), show (y + 256 * packB l) / 256 = packB l by omega]
    exact ih
theorem wordB_digit {b : List Int} (h : Bytes b) (i : Nat) (x : Int) (hx : b[i]? = some x) : wordB b (i / 8) / 256 ^ (i % 8) % 256 = x := by
  unfold wordB
  refine pack_digit (fun z hz => h z (List.mem_of_mem_drop (List.mem_of_mem_take hz))) (i % 8) x ?_
  rw [List.getElem?_take, if_pos (by omega), List.getElem?_drop, show 8 * (i / 8) + i % 8 = i by omega]
  exact hx
theorem wordB_end {b : List Int} (h : Bytes b) : wordB b (b.length / 8) < 256 ^ (b.length % 8) := by
  have := wordB_low h b.length (Nat.le_refl _)
  rw [List.take_length] at this
  exact this

structure TextIn (S : HS) (b : List Int) (t : Int) : Prop where
  is : S.is t = true
  head : S.head t = headerOf 3 0 (wordsOf b).length
  raws : ∀ (i : Nat) x, (wordsOf b)[i]? = some x → S.ws.getD ((t / 4).toNat + 1 + i) 0 = x
structure SymIn (S : HS) (b : List Int) (w : Int) : Prop where
  is : S.is w = true
  head : S.head w = headerOf 4 1 0
  text : TextIn S b (S.ws.getD ((w / 4).toNat + 1) 0)

theorem is_nonneg {S : HS} (hw : WfH S.ws S.bs) {t : Int} (h : S.is t = true) : 0 ≤ t := by
  rcases Int.lt_or_le t 0 with a | a
  · have := (is_iff.1 h).2
    rw [show (t / 4).toNat = 0 by omega, hw.zero.1] at this
    cases this
  · exact a
theorem is_head {S : HS} {t : Int} (h : S.is t = true) : S.head t = S.ws.getD (t / 4).toNat 0 := by
  unfold HS.head headOf; unfold HS.is at h; rw [if_pos h]
theorem wordsOf_get (b : List Int) (i : Nat) (h : i < (b.length + 7) / 8) : (wordsOf b)[1 + i]? = some (wordB b i) := by
  unfold wordsOf wordsB
  rw [show 1 + i = i + 1 by omega, List.getElem?_cons_succ, List.getElem?_map, List.getElem?_range h]; rfl
theorem text_head (n : Nat) (h : n ≤ 1048576) : tagH (headerOf 3 0 n) = 0 ∧ rawH (headerOf 3 0 n) = n ∧ kindH (headerOf 3 0 n) = 3 := header_tag (kind := 3) (t := 0) (r := n) (by decide) (by decide) (by decide) h
theorem sym_head : tagH (headerOf 4 1 0) = 1 ∧ rawH (headerOf 4 1 0) = 0 ∧ kindH (headerOf 4 1 0) = 4 := by decide

theorem TextIn.bytes {S : HS} {b : List Int} {t : Int} (h : TextIn S b t) (hw : WfH S.ws S.bs) (hb : Bytes b) (hl : b.length ≤ 8388600) : S.bytesOk t = true ∧ S.bytes t = b := by
  have ht0 := is_nonneg hw h.is
  have hwl := wordsOf_len b
  obtain ⟨g1, g2, g3⟩ := text_head (wordsOf b).length (by omega)
  have e1 : S.tag t = 0 := by unfold HS.tag; rw [h.head]; exact g1
  have e2 : S.raw t = (wordsOf b).length := by unfold HS.raw; rw [h.head]; exact g2
  have e3 : S.kind t = 3 := by unfold HS.kind; rw [h.head]; exact g3
  have hraw : ∀ (i : Nat) x, (wordsOf b)[i]? = some x → S.rawAt t i = x := by
    intro i x hx
    have hi := (List.getElem?_eq_some_iff.1 hx).1
    unfold HS.rawAt HS.getRaw
    rw [if_pos (by rw [e2]; omega), e1]
    simp only
    rw [show fieldAt t 0 i = (t / 4).toNat + 1 + i by unfold fieldAt; omega]
    exact h.raws i x hx
  have hn : S.bytesN t = b.length := hraw 0 _ rfl
  have hfit : S.bytesFit t = true := by
    unfold HS.bytesFit HS.shape
    rw [hn, e1, e2, e3, hwl]
    simp only [Bool.and_eq_true, decide_eq_true_eq, Bool.or_eq_true]
    exact ⟨⟨trivial, .inr trivial, .inl (by decide)⟩, by omega, by omega⟩
  have hend : S.bytesEnd t = true := by
    unfold HS.bytesEnd
    rw [hn]
    by_cases h8 : b.length % 8 = 0
    · rw [Bool.or_eq_true]; left; rw [decide_eq_true_eq]; omega
    · rw [Bool.or_eq_true]; right; rw [decide_eq_true_eq]
      have hq : S.raw t - 1 = ((1 + b.length / 8 : Nat) : Int) := by rw [e2, hwl]; omega
      rw [hq, hraw (1 + b.length / 8) _ (wordsOf_get b (b.length / 8) (by omega))]
      have h1 := wordB_end hb
      have h2 := (wordB_bd hb (b.length / 8)).1
      rw [show ((b.length : Int) % 8).toNat = b.length % 8 by omega, Int.pow_mul, show ((2 : Int) ^ 8) = 256 from rfl]
      exact Int.ediv_eq_zero_of_lt h2 h1
  have hok : S.bytesOk t = true := by unfold HS.bytesOk; rw [hfit, hend]; rfl
  refine ⟨hok, ?_⟩
  unfold HS.bytes
  rw [if_pos hok]
  unfold HS.bytesL
  rw [hn]
  apply List.ext_getElem?
  intro i
  rw [List.getElem?_map]
  rcases Nat.lt_or_ge i b.length with hi | hi
  · rw [List.getElem?_range (by omega), List.getElem?_eq_getElem hi]
    simp only [Option.map_some, Option.some.injEq]
    unfold HS.byteAt
    have := hraw (1 + i / 8) _ (wordsOf_get b (i / 8) (by omega))
    rw [show (1 + ((i / 8 : Nat) : Int)) = ((1 + i / 8 : Nat) : Int) by omega, this, Int.pow_mul, show ((2 : Int) ^ 8) = 256 from rfl]
    exact wordB_digit hb i _ (List.getElem?_eq_getElem hi)
  · rw [List.getElem?_eq_none (by simp; omega), List.getElem?_eq_none (by omega)]; rfl

theorem SymIn.name {S : HS} {b : List Int} {w : Int} (h : SymIn S b w) (hw : WfH S.ws S.bs) (hb : Bytes b) (hl : b.length ≤ 8388600) : S.nameOk w = true ∧ S.name w = strOfNums b := by
  have hw0 := is_nonneg hw h.is
  obtain ⟨g1, g2, g3⟩ := sym_head
  have e1 : S.tag w = 1 := by unfold HS.tag; rw [h.head]; exact g1
  have e2 : S.raw w = 0 := by unfold HS.raw; rw [h.head]; exact g2
  have e3 : S.kind w = 4 := by unfold HS.kind; rw [h.head]; exact g3
  have hg : S.getAt w 0 = S.ws.getD ((w / 4).toNat + 1) 0 := by
    unfold HS.getAt HS.get
    rw [if_pos (by rw [e1]; omega)]
    simp only
    rw [show fieldAt w 0 0 = (w / 4).toNat + 1 by unfold fieldAt; omega]
  obtain ⟨k1, k2⟩ := h.text.bytes hw hb hl
  have hok : S.nameOk w = true := by
    unfold HS.nameOk HS.shape
    rw [e1, e2, e3, hg, k1]
    rfl
  refine ⟨hok, ?_⟩
  unfold HS.name
  rw [if_pos hok, hg, k2]
/-- One word is no symbol of two names. -/
theorem SymIn.one {S : HS} {b c : List Int} {w : Int} (h : SymIn S b w) (h' : SymIn S c w) (hw : WfH S.ws S.bs) (hb : Bytes b) (hl : b.length ≤ 8388600) (hc : Bytes c) (hl' : c.length ≤ 8388600) : b = c := by
  rw [← (h.text.bytes hw hb hl).2, (h'.text.bytes hw hc hl').2]

/-! ### More is laid -/
structure Ext (S S' : HS) : Prop where
  ws : ∃ l, S'.ws = S.ws ++ l
  bs : ∃ l, S'.bs = S.bs ++ l
theorem Ext.refl (S : HS) : Ext S S := ⟨⟨[], by simp⟩, ⟨[], by simp⟩⟩
theorem Ext.trans {A B C : HS} (h : Ext A B) (g : Ext B C) : Ext A C := by
  obtain ⟨⟨l, h1⟩, ⟨m, h2⟩⟩ := h
  obtain ⟨⟨l', g1⟩, ⟨m', g2⟩⟩ := g
  exact ⟨⟨l ++ l', by rw [g1, h1, List.append_assoc]⟩, ⟨m ++ m', by rw [g2, h2, List.append_assoc]⟩⟩
theorem part_ext (S : HS) (kind : Int) (t r : Nat) (z : Int) (xs : List Int) (i : Nat) : Ext S (S.part kind t r z xs i) := ⟨⟨_, rfl⟩, ⟨_, rfl⟩⟩
theorem Ext.is {S S' : HS} (h : Ext S S') {x : Int} (hx : S.is x = true) : S'.is x = true := by
  obtain ⟨_, ⟨m, h2⟩⟩ := h
  unfold HS.is at *
  rw [h2]
  exact isB_app S.bs m x hx
theorem Ext.at {S S' : HS} (h : Ext S S') {k : Nat} (hk : k < S.ws.length) : S'.ws.getD k 0 = S.ws.getD k 0 := by
  obtain ⟨⟨l, h1⟩, _⟩ := h
  rw [h1]; exact getD_app_left hk
theorem is_lt {S : HS} (hw : WfH S.ws S.bs) {x : Int} (hx : S.is x = true) : (x / 4).toNat + 1 + (S.tag x).toNat + (S.raw x).toNat ≤ S.ws.length := by
  have h1 := hw.fits _ (is_iff.1 hx).2
  unfold HS.tag HS.raw
  rw [is_head hx]
  exact h1
theorem Ext.head {S S' : HS} (h : Ext S S') (hw : WfH S.ws S.bs) {x : Int} (hx : S.is x = true) : S'.head x = S.head x := by
  rw [is_head hx, is_head (h.is hx)]
  exact h.at (by have := is_lt hw hx; omega)
theorem TextIn.ext {S S' : HS} {b : List Int} {t : Int} (h : TextIn S b t) (e : Ext S S') (hw : WfH S.ws S.bs) (hl : b.length ≤ 8388600) : TextIn S' b t := by
  refine ⟨e.is h.is, by rw [e.head hw h.is]; exact h.head, ?_⟩
  intro i x hx
  have hi := (List.getElem?_eq_some_iff.1 hx).1
  have hwl := wordsOf_len b
  obtain ⟨g1, g2, g3⟩ := text_head (wordsOf b).length (by omega)
  have h1 := is_lt hw h.is
  unfold HS.tag HS.raw at h1
  rw [h.head, g1, g2] at h1
  rw [e.at (by omega)]
  exact h.raws i x hx
theorem SymIn.ext {S S' : HS} {b : List Int} {w : Int} (h : SymIn S b w) (e : Ext S S') (hw : WfH S.ws S.bs) (hl : b.length ≤ 8388600) : SymIn S' b w := by
  obtain ⟨g1, g2, g3⟩ := sym_head
  have h1 := is_lt hw h.is
  unfold HS.tag HS.raw at h1
  rw [h.head, g1, g2] at h1
  refine ⟨e.is h.is, by rw [e.head hw h.is]; exact h.head, ?_⟩
  rw [e.at (by omega)]
  exact h.text.ext e hw hl
theorem text_in {S : HS} (hl : S.bs.length = S.ws.length) (b : List Int) : TextIn (S.text b) b (4 * (S.ws.length : Int)) := by
  refine ⟨part_is hl 3 0 _ 0 _ _, part_head hl 3 0 _ 0 _ _, ?_⟩
  intro i x hx
  have hi := (List.getElem?_eq_some_iff.1 hx).1
  unfold HS.text HS.part
  simp only
  rw [show (4 * (S.ws.length : Int) / 4).toNat + 1 + i = S.ws.length + (1 + i) by omega, getD_app_right, List.getD_eq_getElem?_getD, Nat.add_comm 1 i, List.getElem?_cons_succ, List.getElem?_append_left (by rw [List.length_take]; omega), List.take_of_length_le (Nat.le_refl _), hx]
  rfl
theorem text_bs {S : HS} (hl : S.bs.length = S.ws.length) (b : List Int) : (S.text b).bs.length = (S.text b).ws.length := by
  unfold HS.text HS.part
  simp only [List.length_append, List.length_cons, List.length_take, List.length_replicate]
  rw [laid_len _ (by omega), hl]
  omega
theorem sym_in {S : HS} (b : List Int) (hw : WfH S.ws S.bs) : SymIn (S.sym b) b (4 * ((S.text b).ws.length : Int)) := by
  have hbl := text_bs hw.len b
  have hti := text_in hw.len b
  have htl := (text_len S b).1
  have hext : Ext (S.text b) (S.sym b) := part_ext (S.text b) 4 1 0 2 _ 1
  refine ⟨part_is hbl 4 1 0 2 _ 1, part_head hbl 4 1 0 2 _ 1, ?_⟩
  have hx : (S.sym b).ws.getD ((4 * ((S.text b).ws.length : Int) / 4).toNat + 1) 0 = 4 * (S.ws.length : Int) := by
    unfold HS.sym HS.part
    simp only
    rw [show (4 * ((S.text b).ws.length : Int) / 4).toNat + 1 = (S.text b).ws.length + 1 by omega, getD_app_right]
    rfl
  rw [hx]
  refine ⟨hext.is hti.is, ?_, ?_⟩
  · rw [← hti.head, is_head hti.is, is_head (hext.is hti.is)]
    exact hext.at (by omega)
  · intro i x hxi
    have hi := (List.getElem?_eq_some_iff.1 hxi).1
    rw [hext.at (by omega)]
    exact hti.raws i x hxi

/-! ### Behind a collection -/
theorem collect_obj {S : HS} (hw : WfH S.ws S.bs) (hs : S.ws.length ≤ 1048576) {roots : List Int} (hr : ∀ x ∈ roots, 0 ≤ x ∧ x < 18446744073709551616) {x : Int} (hx : S.is x = true) (hres : Res S (gcEnd S roots) x) :
    (S.collect roots).is (fwd S (gcEnd S roots) x) = true ∧ (S.collect roots).head (fwd S (gcEnd S roots) x) = S.head x ∧ 0 ≤ fwd S (gcEnd S roots) x ∧ fwd S (gcEnd S roots) x < 4611686018427387904 ∧
    (∀ i, (S.tag x).toNat ≤ i → i < (S.tag x).toNat + (S.raw x).toNat → (S.collect roots).ws.getD ((fwd S (gcEnd S roots) x / 4).toNat + 1 + i) 0 = S.ws.getD ((x / 4).toNat + 1 + i) 0) ∧
    (∀ i, i < (S.tag x).toNat → Res S (gcEnd S roots) (S.ws.getD ((x / 4).toNat + 1 + i) 0) ∧ (S.collect roots).ws.getD ((fwd S (gcEnd S roots) x / 4).toNat + 1 + i) 0 = fwd S (gcEnd S roots) (S.ws.getD ((x / 4).toNat + 1 + i) 0)) := by
  have he := gc_end hw hs hr
  obtain ⟨j, hj, hc⟩ := he.inv.tgt _ (hres hx)
  have hf : fwd S (gcEnd S roots) x = 4 * (j : Int) := by unfold fwd; rw [if_pos hx]; exact hj
  have e4 : (4 * (j : Int) / 4).toNat = j := by omega
  have hlt : j < (gcEnd S roots).tw.length := by have := (List.getElem?_eq_some_iff.1 hc.now).1; have := he.inv.wf.len; omega
  have hgl := he.inv.len hw
  have hfits := he.inv.wf.fits j hc.now
  have his : (S.collect roots).is (4 * (j : Int)) = true := isB_place.2 hc.now
  rw [hf, e4]
  have ht : (S.tag x).toNat = tagAt S.ws (x / 4).toNat := by unfold HS.tag tagAt; rw [is_head hx]
  have hrw : (S.raw x).toNat = rawAt S.ws (x / 4).toNat := by unfold HS.raw rawAt; rw [is_head hx]
  refine ⟨his, ?_, by omega, by omega, ?_, ?_⟩
  · rw [is_head his, is_head hx, e4]; exact hc.head
  · intro i h1 h2
    rw [ht] at h1 h2
    rw [hrw] at h2
    exact hc.raws i h1 h2
  · intro i h1
    rw [ht] at h1
    refine hc.done i h1 ?_
    rw [hc.head] at hfits
    unfold tagAt at h1
    omega
theorem TextIn.moved {S : HS} {b : List Int} {t : Int} (h : TextIn S b t) (hw : WfH S.ws S.bs) (hs : S.ws.length ≤ 1048576) {roots : List Int} (hr : ∀ x ∈ roots, 0 ≤ x ∧ x < 18446744073709551616) (hres : Res S (gcEnd S roots) t) (hl : b.length ≤ 8388600) :
    TextIn (S.collect roots) b (fwd S (gcEnd S roots) t) := by
  obtain ⟨a1, a2, a3, a4, a5, a6⟩ := collect_obj hw hs hr h.is hres
  have hwl := wordsOf_len b
  obtain ⟨g1, g2, g3⟩ := text_head (wordsOf b).length (by omega)
  have e1 : S.tag t = 0 := by unfold HS.tag; rw [h.head]; exact g1
  have e2 : S.raw t = (wordsOf b).length := by unfold HS.raw; rw [h.head]; exact g2
  refine ⟨a1, a2.trans h.head, ?_⟩
  intro i x hx
  have hi := (List.getElem?_eq_some_iff.1 hx).1
  rw [a5 i (by rw [e1]; omega) (by rw [e1, e2]; omega)]
  exact h.raws i x hx
theorem SymIn.moved {S : HS} {b : List Int} {w : Int} (h : SymIn S b w) (hw : WfH S.ws S.bs) (hs : S.ws.length ≤ 1048576) {roots : List Int} (hr : ∀ x ∈ roots, 0 ≤ x ∧ x < 18446744073709551616) (hres : Res S (gcEnd S roots) w) (hl : b.length ≤ 8388600) :
    SymIn (S.collect roots) b (fwd S (gcEnd S roots) w) := by
  obtain ⟨a1, a2, a3, a4, a5, a6⟩ := collect_obj hw hs hr h.is hres
  obtain ⟨g1, g2, g3⟩ := sym_head
  have e1 : S.tag w = 1 := by unfold HS.tag; rw [h.head]; exact g1
  obtain ⟨b1, b2⟩ := a6 0 (by rw [e1]; decide)
  refine ⟨a1, a2.trans h.head, ?_⟩
  rw [Nat.add_zero] at b1 b2
  rw [b2]
  exact h.text.moved hw hs hr b1 hl
end Go.Proofs.Ytanjiecefioffaa

/- '[]byte("..")' of a constant. -/
namespace Go.Proofs.Ytanjiecefioffaa
open Go.RowKit

theorem run_convert_lit {P : Program} (w : World) (t e : TypeId) (C : Array Value) (n c : Nat) (ht : P.underlying t = some (.slice e)) (he : P.underlying e = some (.int .u8)) :
    (convert t t (.slice (some ⟨w.heap.size, 0, none⟩) n c)).run P (w.alloc (.cells C e)) = .ok (.slice (some ⟨w.heap.size, 0, none⟩) n c) (w.alloc (.cells C e (C.size, C.size + 1))) := by
  have hsh : (w.alloc (.cells C e)).shape? w.heap.size = some (e, C.size) := by
    have : (w.alloc (.cells C e)).heap[w.heap.size]? = some (.cells C e) := by
      show (w.heap.push (.cells C e))[w.heap.size]? = _
      simp
    unfold World.shape?
    rw [this]
  have hfr : (w.alloc (.cells C e)).freeze ⟨w.heap.size, C.size, none⟩ 1 = w.alloc (.cells C e (C.size, C.size + 1)) := by
    have hm : ∀ (a : Array Obj) (x : Obj) (f : Obj → Obj), (a.push x).modify a.size f = a.push (f x) := by
      intro a x f
      apply Array.ext
      · simp
      · intro i h1 h2
        simp only [Array.getElem_modify, Array.getElem_push]
        by_cases h : a.size = i
        · subst h
          simp
        · have hi : i < a.size := by simp at h1; omega
          simp [h, hi]
    unfold World.freeze
    rw [if_neg (by decide)]
    show ({ w.alloc (.cells C e) with heap := (w.heap.push (.cells C e)).modify w.heap.size _ } : World) = _
    rw [hm]
    rfl
  simp [convert, run_underlying ht, run_underlying he, markStringish, hsh]
  exact hfr
theorem StW.push {w : World} {X : StV} {V : HV} {S : HS} {Y : StS} {R : HP} (h : StW w X V S Y R) (o : Obj) : StW (w.alloc o) X V S Y (Go.Proofs.Ytanjiecefioffaa.blk w.heap.size o * R) := ⟨(h.s.alloc o).perm (by ac_rfl), h.ok⟩
theorem bytes_in {R : HP} (b : List Int) (C : Array Value) (hC : C.toList = b.map u8v) (bo e : Nat) (fr : Nat × Nat) : BytesIn (blk bo (.cells C e fr) * R) (some ⟨bo, 0, none⟩) b := by
  intro w hs j x hj
  refine ⟨⟨bo, 0, none⟩, rfl, ?_⟩
  have ha : ((⟨bo, 0, none⟩ : Addr).add j) = ⟨bo, j, none⟩ := by unfold Addr.add; split <;> simp_all
  rw [ha, hs.left.cell j, ← Array.getElem?_toList, hC, List.getElem?_map, hj]
  rfl
end Go.Proofs.Ytanjiecefioffaa
