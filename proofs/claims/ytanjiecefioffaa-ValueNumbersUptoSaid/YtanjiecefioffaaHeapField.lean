/- The heap's fields: field, read, Get, Raw, Set, SetRaw. -/
import Derived.Test.YtanjiecefioffaaHeapRead
namespace Go.Proofs.Ytanjiecefioffaa
open Go.RowKit

def fieldAt (p ahead i : Int) : Nat := (p / 4 + 1 + ahead + i).toNat

set_option maxHeartbeats 400000 in
theorem field_none (a : Value) (p i many ahead : Int) (w : World) (h : i < 0 ∨ many ≤ i) :
    Calls Try.prog 75 #[a, .int .u64 p, .int .i64 i, .int .i64 many, .int .i64 ahead] w (Says (.pointer none) w) := by
  by_cases h1 : i < 0
  · go_enter Try.func75, Try.ntmps75
    go_wp2_with fail
    go_ret
    exact says_ret0 rfl
  · have h2 : many ≤ i := by omega
    go_enter Try.func75, Try.ntmps75
    go_wp2_with fail
    go_ret
    exact says_ret0 rfl

set_option maxHeartbeats 400000 in
theorem read_none (w : World) : Calls Try.prog 74 #[.pointer none] w (Says (.tuple #[.int .u64 0, .bool false]) w) := by
  go_enter Try.func74, Try.ntmps74
  go_wp2_with fail
  go_ret2
  exact says_ret0 rfl

set_option maxHeartbeats 400000 in
theorem read_some (a : Addr) (x : Int) (w : World) (h : w.cell? a = some (.int .u64 x)) : Calls Try.prog 74 #[.pointer (some a)] w (Says (.tuple #[.int .u64 x, .bool true]) w) := by
  go_enter Try.func74, Try.ntmps74
  go_wp2_with fail
  go_ret2
  exact says_ret0 rfl

section
variable {w : World} {V : HV} {S : HS}

set_option maxHeartbeats 400000 in
theorem HeapV.Field (h : HeapV w V S) (p i many ahead : Int) (h0 : 0 ≤ p) (h1 : p < 4611686018427387904) (hi : 0 ≤ i) (hm : i < many) (ha : 0 ≤ ahead) (ha2 : ahead ≤ 16777216) (hlt : p / 4 + 1 + ahead + i < (S.ws.length : Int)) :
    Calls Try.prog 75 #[.pointer (some ⟨V.g, 0, none⟩), .int .u64 p, .int .i64 i, .int .i64 many, .int .i64 ahead] w (Says (.pointer (some ⟨V.bw, fieldAt p ahead i, none⟩)) w) := by
  have hcw := h.cw
  have hin := h.ok.inn
  have hl := h.len
  unfold fieldAt
  go_enter Try.func75, Try.ntmps75
  go_wp2_with fail
  refine (h.half).mono ?_
  rintro e w' ⟨rfl, n, rfl⟩
  go_wp2_with fail
  go_ret
  exact says_ret rfl

def HS.get (S : HS) (p i : Int) : Int × Bool := if 0 ≤ i ∧ i < S.tag p then (S.ws.getD (fieldAt p 0 i) 0, true) else (0, false)
def HS.getRaw (S : HS) (p i : Int) : Int × Bool := if 0 ≤ i ∧ i < S.raw p then (S.ws.getD (fieldAt p (S.tag p) i) 0, true) else (0, false)

theorem HeapV.tag_is (h : HeapV w V S) {p i : Int} (hi : 0 ≤ i) (ht : i < S.tag p) : S.is p = true ∧ p / 4 + 1 + 0 + i < (S.ws.length : Int) ∧ p < 4611686018427387904 := by
  have hp : S.is p = true := by
    cases hp : S.is p with
    | true => rfl
    | false => unfold HS.tag HS.head headOf at ht; rw [if_neg (by unfold HS.is at hp; simp [hp])] at ht; unfold tagH at ht; omega
  obtain ⟨hlt, hj, hm, hb⟩ := h.word hp
  refine ⟨hp, ?_, by omega⟩
  have hf : S.bs[(p / 4).toNat]? = some true := by
    unfold HS.is at hp
    rw [List.getElem?_eq_getElem (by have := h.ok.wf.len; omega)]
    rw [isB_true hm (by have := h.ok.wf.len; omega)] at hp
    rw [hp]
  have := h.ok.wf.fits _ hf
  have e : S.ws.getD (p / 4).toNat 0 = S.head p := by rw [List.getD_eq_getElem?_getD, hj]; rfl
  rw [e] at this
  unfold HS.tag at ht
  have := tagH_bd (S.head p)
  omega
theorem HeapV.raw_is (h : HeapV w V S) {p i : Int} (hi : 0 ≤ i) (ht : i < S.raw p) : S.is p = true ∧ p / 4 + 1 + S.tag p + i < (S.ws.length : Int) ∧ p < 4611686018427387904 := by
  have hp : S.is p = true := by
    cases hp : S.is p with
    | true => rfl
    | false => unfold HS.raw HS.head headOf at ht; rw [if_neg (by unfold HS.is at hp; simp [hp])] at ht; unfold rawH at ht; omega
  obtain ⟨hlt, hj, hm, hb⟩ := h.word hp
  refine ⟨hp, ?_, by omega⟩
  have hf : S.bs[(p / 4).toNat]? = some true := by
    unfold HS.is at hp
    rw [List.getElem?_eq_getElem (by have := h.ok.wf.len; omega)]
    rw [isB_true hm (by have := h.ok.wf.len; omega)] at hp
    rw [hp]
  have := h.ok.wf.fits _ hf
  have e : S.ws.getD (p / 4).toNat 0 = S.head p := by rw [List.getD_eq_getElem?_getD, hj]; rfl
  rw [e] at this
  unfold HS.raw at ht
  unfold HS.tag
  have := tagH_bd (S.head p)
  have := rawH_bd (S.head p)
  omega

theorem getD_get {l : List Int} {k : Nat} (h : k < l.length) : l[k]? = some (l.getD k 0) := by
  rw [List.getD_eq_getElem?_getD, List.getElem?_eq_getElem h]; rfl

set_option maxHeartbeats 400000 in
theorem HeapV.Get (h : HeapV w V S) (p i : Int) (h0 : 0 ≤ p) (h1 : p < 18446744073709551616) :
    Calls Try.prog 42 #[.pointer (some ⟨V.g, 0, none⟩), .int .u64 p, .int .i64 i] w (Says (.tuple #[.int .u64 (S.get p i).1, .bool (S.get p i).2]) w) := by
  by_cases hi : 0 ≤ i ∧ i < S.tag p
  · obtain ⟨hp, hlt, hb⟩ := h.tag_is hi.1 hi.2
    have hcell := h.hw _ _ (getD_get (l := S.ws) (k := fieldAt p 0 i) (by unfold fieldAt; omega))
    have e : S.get p i = (S.ws.getD (fieldAt p 0 i) 0, true) := by unfold HS.get; rw [if_pos hi]
    rw [e]
    have H := Lib.hid hp; clear hp
    go_enter Try.func42, Try.ntmps42
    go_wp2_with fail
    refine (h.Tagged p h0 h1).mono ?_
    rintro e w' ⟨rfl, n, rfl⟩
    go_wp2_with fail
    refine ((h.drewN n).Field p i (S.tag p) 0 h0 hb hi.1 hi.2 (by omega) (by omega) hlt).mono ?_
    rintro e w' ⟨rfl, m, rfl⟩
    go_wp2_with fail
    refine (read_some ⟨V.bw, fieldAt p 0 i, none⟩ (S.ws.getD (fieldAt p 0 i) 0) (w.drewN (n + m)) hcell).mono ?_
    rintro e w' ⟨rfl, m, rfl⟩
    go_wp2_with fail
    go_ret2
    exact says_ret rfl
  · have e : S.get p i = (0, false) := by unfold HS.get; rw [if_neg hi]
    rw [e]
    have hi2 : i < 0 ∨ S.tag p ≤ i := by omega
    clear hi
    have H := Lib.hid hi2; clear hi2
    go_enter Try.func42, Try.ntmps42
    go_wp2_with fail
    refine (h.Tagged p h0 h1).mono ?_
    rintro e w' ⟨rfl, n, rfl⟩
    go_wp2_with fail
    refine (field_none _ p i (S.tag p) 0 _ H.out).mono ?_
    rintro e w' ⟨rfl, m, rfl⟩
    go_wp2_with fail
    refine (read_none _).mono ?_
    rintro e w' ⟨rfl, m, rfl⟩
    go_wp2_with fail
    go_ret2
    exact says_ret rfl

set_option maxHeartbeats 400000 in
theorem HeapV.Raw (h : HeapV w V S) (p i : Int) (h0 : 0 ≤ p) (h1 : p < 18446744073709551616) :
    Calls Try.prog 70 #[.pointer (some ⟨V.g, 0, none⟩), .int .u64 p, .int .i64 i] w (Says (.tuple #[.int .u64 (S.getRaw p i).1, .bool (S.getRaw p i).2]) w) := by
  have ht := tagH_bd (S.head p)
  by_cases hi : 0 ≤ i ∧ i < S.raw p
  · obtain ⟨hp, hlt, hb⟩ := h.raw_is hi.1 hi.2
    have ht' : 0 ≤ S.tag p ∧ S.tag p ≤ 16777216 := by unfold HS.tag; omega
    have hcell := h.hw _ _ (getD_get (l := S.ws) (k := fieldAt p (S.tag p) i) (by unfold fieldAt; omega))
    have e : S.getRaw p i = (S.ws.getD (fieldAt p (S.tag p) i) 0, true) := by unfold HS.getRaw; rw [if_pos hi]
    rw [e]
    have H := Lib.hid hp; clear hp
    go_enter Try.func70, Try.ntmps70
    go_wp2_with fail
    refine (h.Raws p h0 h1).mono ?_
    rintro e w' ⟨rfl, n, rfl⟩
    go_wp2_with fail
    refine ((h.drewN n).Tagged p h0 h1).mono ?_
    rintro e w' ⟨rfl, n2, rfl⟩
    go_wp2_with fail
    refine ((h.drewN (n + n2)).Field p i (S.raw p) (S.tag p) h0 hb hi.1 hi.2 ht'.1 ht'.2 hlt).mono ?_
    rintro e w' ⟨rfl, m, rfl⟩
    go_wp2_with fail
    refine (read_some ⟨V.bw, fieldAt p (S.tag p) i, none⟩ (S.ws.getD (fieldAt p (S.tag p) i) 0) (w.drewN (n + n2 + m)) hcell).mono ?_
    rintro e w' ⟨rfl, m, rfl⟩
    go_wp2_with fail
    go_ret2
    exact says_ret rfl
  · have e : S.getRaw p i = (0, false) := by unfold HS.getRaw; rw [if_neg hi]
    rw [e]
    have hi2 : i < 0 ∨ S.raw p ≤ i := by omega
    clear hi
    have H := Lib.hid hi2; clear hi2
    go_enter Try.func70, Try.ntmps70
    go_wp2_with fail
    refine (h.Raws p h0 h1).mono ?_
    rintro e w' ⟨rfl, n, rfl⟩
    go_wp2_with fail
    refine ((h.drewN n).Tagged p h0 h1).mono ?_
    rintro e w' ⟨rfl, n2, rfl⟩
    go_wp2_with fail
    refine (field_none _ p i (S.raw p) (S.tag p) _ H.out).mono ?_
    rintro e w' ⟨rfl, m, rfl⟩
    go_wp2_with fail
    refine (read_none _).mono ?_
    rintro e w' ⟨rfl, m, rfl⟩
    go_wp2_with fail
    go_ret2
    exact says_ret rfl
end
end Go.Proofs.Ytanjiecefioffaa
