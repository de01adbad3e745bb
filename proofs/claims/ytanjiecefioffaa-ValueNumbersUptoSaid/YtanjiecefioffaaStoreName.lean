/- value.Store: Name; string(b) of bytes of the call's own. -/
import Derived.Test.YtanjiecefioffaaStoreBytes
import Derived.Laws.BytesArg
namespace Go.Proofs.Ytanjiecefioffaa
open Go.RowKit

theorem run_own_string {P : Program} {w : World} {R : HP} (src dst e : TypeId) (hs : P.underlying src = some (.slice e)) (he : P.underlying e = some (.int .u8)) (hd : P.underlying dst = some .string)
    {v : Value} {n : Nat} {bs : List Int} (hl : bs.length = n) (h : sat w (own 5 1 v n (bs.map u8v) * R)) : (convert src dst v).run P w = .ok (.string (strOfNums bs)) w := by
  rcases h.open_own.2 with ⟨rfl, rfl, hb, _⟩ | ⟨b, cap, rfl, hn, hr⟩
  · have : bs = [] := List.eq_nil_of_length_eq_zero hl
    subst this
    exact run_convert_bytes_nil w src e hs he 0 0 dst hd
  · refine run_convert_bytes_arg w src e hs he b 0 n cap bs hl (fun i hi => ?_) dst hd
    rw [Nat.zero_add]
    refine hr.row_cell ?_
    rw [List.getElem?_map, List.getElem?_eq_getElem (by omega), List.getD_eq_getElem?_getD, List.getElem?_eq_getElem (by omega)]
    rfl
theorem strOf_bytesOf (s : ByteArray) : strOfNums (bytesOf s) = s := by
  have h : ∀ l : List UInt8, (l.map fun b => (b.toNat : Int)).map (fun n => UInt8.ofNat n.toNat) = l := by
    intro l
    induction l with
    | nil => rfl
    | cons b l ih => simp only [List.map_cons, ih, Int.toNat_natCast, UInt8.ofNat_toNat]
  unfold strOfNums bytesOf
  rw [h]
theorem bytesOf_strOf {l : List Int} (h : Bytes l) : bytesOf (strOfNums l) = l := by
  unfold bytesOf
  rw [strOfNums_data, List.map_map]
  have : ∀ x ∈ l, ((fun b : UInt8 => (b.toNat : Int)) ∘ fun n : Int => UInt8.ofNat n.toNat) x = x := by
    intro x hx
    have := h x hx
    simp only [Function.comp, UInt8.toNat_ofNat']
    omega
  rw [List.map_congr_left this]
  simp

def HS.getAt (S : HS) (x i : Int) : Int := (S.get x i).1
theorem HS.get_eq (S : HS) (x i : Int) : S.get x i = (S.getAt x i, decide (0 ≤ i ∧ i < S.tag x)) := by
  unfold HS.getAt HS.get
  split <;> simp_all
theorem HeapV.get_bd {w : World} {V : HV} {S : HS} (h : HeapV w V S) (x i : Int) (x0 : 0 ≤ x) : 0 ≤ S.getAt x i ∧ S.getAt x i < 18446744073709551616 := by
  unfold HS.getAt HS.get
  split
  · rename_i hi
    obtain ⟨hp, hlt, hb⟩ := h.tag_is hi.1 hi.2
    have hl : fieldAt x 0 i < S.ws.length := by unfold fieldAt; omega
    rw [List.getD_eq_getElem?_getD, List.getElem?_eq_getElem hl]
    exact h.ok.wf.u _ (List.getElem_mem hl)
  · exact ⟨by decide, by decide⟩
def HS.nameOk (S : HS) (x : Int) : Bool := S.shape x 4 1 0 && S.bytesOk (S.getAt x 0)
def HS.name (S : HS) (x : Int) : ByteArray := if S.nameOk x = true then strOfNums (S.bytes (S.getAt x 0)) else ⟨#[]⟩
def NamePost (X : StV) (V : HV) (S : HS) (Y : StS) (R : HP) (x : Int) (w : World) (e : Ending) (w' : World) : Prop :=
  e = .returned (.tuple #[.string (S.name x), .bool (S.nameOk x)]) ∧ StW w' X V S Y R ∧ Below 0 w w'

section
variable {w : World} {X : StV} {V : HV} {S : HS} {Y : StS} {R : HP}
theorem StW.Get (h : StW w X V S Y R) (x i : Int) (x0 : 0 ≤ x) (x1 : x < 18446744073709551616) :
    Calls Try.prog 42 #[.pointer (some ⟨V.g, 0, none⟩), .int .u64 x, .int .i64 i] w (Says (.tuple #[.int .u64 (S.getAt x i), .bool (decide (0 ≤ i ∧ i < S.tag x))]) w) := by
  have h1 := h.hw.v.Get x i x0 x1
  rw [HS.get_eq] at h1
  exact h1

set_option maxRecDepth 100000 in
set_option maxHeartbeats 1000000 in
theorem StW.Name (h : StW w X V S Y R) (x : Int) (x0 : 0 ≤ x) (x1 : x < 18446744073709551616) :
    Calls Try.prog 32 #[.pointer (some ⟨X.g, 0, none⟩), .int .u64 x] w (NamePost X V S Y R x w) := by
  have c0 := h.c0
  have hSh := h.shape x 4 1 0 x0 x1
  have hG := fun n : Nat => (h.drewN n).Get x 0 x0 x1
  have hgb := h.hw.v.get_bd x 0 x0
  cases hs : S.shape x 4 1 0 with
  | false =>
    have hok : S.nameOk x = false := by unfold HS.nameOk; rw [hs]; rfl
    have hnm : S.name x = ⟨#[]⟩ := by unfold HS.name; rw [if_neg (by rw [hok]; simp)]
    rw [hs] at hSh
    have HH := Lib.hid (And.intro h (And.intro hok hnm))
    clear h hok hnm hs
    go_enter Try.func32, Try.ntmps32
    go_wp2_with fail
    refine hSh.mono ?_
    rintro e w' ⟨rfl, j, rfl⟩
    go_wp2_with fail
    go_ret2
    refine ⟨?_, HH.out.1.drewN j, drewN_below0 _ _⟩
    rw [HH.out.2.1, HH.out.2.2]
    rfl
  | true =>
    rw [hs] at hSh
    have hB := fun n : Nat => (h.drewN n).Bytes (S.getAt x 0) hgb.1 hgb.2
    have hok : S.nameOk x = S.bytesOk (S.getAt x 0) := by unfold HS.nameOk; rw [hs]; rfl
    have hnm : S.name x = strOfNums (S.bytes (S.getAt x 0)) := by
      unfold HS.name
      rw [hok]
      split
      · rfl
      · rename_i hb
        unfold HS.bytes
        rw [if_neg hb]
        rfl
    have HH := Lib.hid (And.intro h (And.intro hok hnm))
    clear h hok hnm hs
    generalize S.getAt x 0 = g at *
    generalize decide ((0 : Int) ≤ 0 ∧ 0 < S.tag x) = bb at *
    go_enter Try.func32, Try.ntmps32
    go_wp2_with fail
    refine hSh.mono ?_
    rintro e w' ⟨rfl, j, rfl⟩
    go_wp2_with fail
    refine (hG j).mono ?_
    rintro e w' ⟨rfl, j2, rfl⟩
    go_wp2_with fail
    refine (hB (j + j2)).mono ?_
    rintro e w2 ⟨v, rfl, h2, hb2⟩
    have hcv := run_own_string (P := Try.prog) 44 9 5 Try.underlying44 Try.underlying5 Try.underlying9 (bs := S.bytes g) rfl (show sat w2 (own 5 1 v (S.bytes g).length ((S.bytes g).map u8v) * (isHeap V S * (isSt X V.g Y * R))) from h2.s.perm (by ac_rfl))
    have HB := Lib.hid (And.intro h2.drop ((drewN_below0 w (j + j2)).trans hb2))
    clear h2 hb2 hB hG hSh
    go_wp2_with fail
    go_ret2
    refine ⟨?_, HB.out.1, HB.out.2⟩
    rw [HH.out.2.1, HH.out.2.2]
    rfl
end
end Go.Proofs.Ytanjiecefioffaa
