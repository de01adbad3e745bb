/- The heap's writers of fields: Set, SetRaw. -/
import Derived.Test.YtanjiecefioffaaHeapField
namespace Go.Proofs.Ytanjiecefioffaa
open Go.RowKit

def HS.may (S : HS) (x : Int) : Bool := mayB S.bs x
def HS.setOk (S : HS) (p i x : Int) : Bool := decide (0 ≤ i ∧ i < S.tag p) && S.may x
def HS.set (S : HS) (p i x : Int) : HS := if S.setOk p i x = true then { S with ws := S.ws.set (fieldAt p 0 i) x } else S
def HS.setRawOk (S : HS) (p i : Int) : Bool := decide (0 ≤ i ∧ i < S.raw p)
def HS.setRaw (S : HS) (p i x : Int) : HS := if S.setRawOk p i = true then { S with ws := S.ws.set (fieldAt p (S.tag p) i) x } else S

/-- A heap lies here, as it should be. -/
structure HeapW (w : World) (V : HV) (S : HS) (R : HP) : Prop where
  s : sat w (isHeap V S * R)
  ok : HOk V S
theorem HeapW.v {w : World} {V : HV} {S : HS} {R : HP} (h : HeapW w V S R) : HeapV w V S := h.s.heapV h.ok
theorem HeapW.drewN {w : World} {V : HV} {S : HS} {R : HP} (h : HeapW w V S R) (n : Nat) : HeapW (w.drewN n) V S R := ⟨h.s, h.ok⟩
theorem HeapW.below {w w' : World} {V : HV} {S : HS} {R : HP} (h : HeapW w V S R) (hb : Below w.heap.size w w') : HeapW w' V S R := ⟨h.s.below hb, h.ok⟩

/-- It answers v; the heap is S' then. -/
def Leaves (v : Value) (V : HV) (S' : HS) (R : HP) (w : World) (e : Ending) (w' : World) : Prop := e = .returned v ∧ HeapW w' V S' R ∧ Below 0 w w'

theorem drewN_below0 (w : World) (n : Nat) : Below 0 w (w.drewN n) := ⟨rfl, rfl, rfl, Nat.le_refl _, fun _ _ => rfl⟩

/-- A word inside an object's fields is set. -/
theorem wf_set {ws : List Int} {bs : List Bool} (h : WfH ws bs) {k j : Nat} {x : Int} (hk : bs[k]? = some true) (hkj : k < j) (hj : j < k + 1 + (tagH (ws.getD k 0)).toNat + (rawH (ws.getD k 0)).toNat) (h0 : 0 ≤ x) (h1 : x < 18446744073709551616) :
    WfH (ws.set j x) bs := by
  have hnot : ∀ q, bs[q]? = some true → q ≠ j := by
    intro q hq e
    subst e
    have := h.apart k q hk hq hkj
    omega
  have hget : ∀ q, bs[q]? = some true → (ws.set j x).getD q 0 = ws.getD q 0 := by
    intro q hq
    rw [List.getD_eq_getElem?_getD, List.getElem?_set_ne (fun e => hnot q hq e.symm), ← List.getD_eq_getElem?_getD]
  have hj0 : 0 < j := by omega
  refine ⟨by simpa using h.len, by simpa using h.pos, ?_, ?_, ⟨h.zero.1, ?_⟩, ?_, ?_, ?_, ?_⟩
  · intro y hy
    rcases List.mem_or_eq_of_mem_set hy with hy | rfl
    · exact h.u y hy
    · exact ⟨h0, h1⟩
  · intro q hq; rw [hget q hq, List.length_set]; exact h.fits q hq
  · rw [List.getElem?_set_ne (by omega)]; exact h.zero.2
  · rw [List.length_set]; exact h.first
  · intro q hq; rw [hget q hq, List.length_set]; exact h.next q hq
  · intro q hq; rw [hget q hq]; exact h.hdr q hq
  · intro a b ha hb hab; rw [hget a ha]; exact h.apart a b ha hb hab

/-- .. and tagged fields stay well. -/
theorem ptr_set {ws : List Int} {bs : List Bool} (h : WfH ws bs) (hp : PtrOk ws bs) {k j : Nat} {x : Int} (hk : bs[k]? = some true) (hkj : k < j) (hj : j < k + 1 + (tagH (ws.getD k 0)).toNat + (rawH (ws.getD k 0)).toNat)
    (hx : j < k + 1 + (tagH (ws.getD k 0)).toNat → mayB bs x = true) : PtrOk (ws.set j x) bs := by
  have hnot : ∀ q, bs[q]? = some true → q ≠ j := by
    intro q hq e
    subst e
    have := h.apart k q hk hq hkj
    omega
  have hjl : j < ws.length := by have := h.fits k hk; omega
  intro q i hq hi
  have e : (ws.set j x).getD q 0 = ws.getD q 0 := by
    rw [List.getD_eq_getElem?_getD, List.getElem?_set_ne (fun e => hnot q hq e.symm), ← List.getD_eq_getElem?_getD]
  rw [e] at hi
  by_cases hqj : q + 1 + i = j
  · rw [hqj, List.getD_eq_getElem?_getD, List.getElem?_set_self hjl]
    refine hx ?_
    rcases Nat.lt_trichotomy q k with a | a | a
    · have := h.apart q k hq hk a; omega
    · subst a; omega
    · have := h.apart k q hk hq a; omega
  · rw [List.getD_eq_getElem?_getD, List.getElem?_set_ne (fun e => hqj e.symm), ← List.getD_eq_getElem?_getD]
    exact hp q i hq hi

section
variable {w : World} {V : HV} {S : HS} {R : HP}

theorem HeapW.setCell (h : HeapW w V S R) {k j : Nat} {x : Int} (hk : S.bs[k]? = some true) (hkj : k < j) (hj : j < k + 1 + (tagH (S.ws.getD k 0)).toNat + (rawH (S.ws.getD k 0)).toNat) (h0 : 0 ≤ x) (h1 : x < 18446744073709551616)
    (hx : j < k + 1 + (tagH (S.ws.getD k 0)).toNat → mayB S.bs x = true) :
    HeapW (w.setCell ⟨V.bw, j, none⟩ (.int .u64 x)) V { S with ws := S.ws.set j x } R := by
  have ok := h.ok
  refine ⟨?_, ⟨ok.inn, ok.lo, ok.hi, by simpa using ok.used, wf_set ok.wf hk hkj hj h0 h1, ok.times, ptr_set ok.wf ok.ptr hk hkj hj hx⟩⟩
  have hs : sat w (row 22 1 V.bw V.cw (S.ws.map u64) * (blk V.g (.cells (heapCells V S) 125 (0, 0)) * (row 4 1 V.bb V.cb (S.bs.map .bool) * R))) := h.s.perm (by unfold isHeap; ac_rfl)
  have h2 := hs.row_set j (.int .u64 x)
  have e : (S.ws.map u64).set j (.int .u64 x) = (S.ws.set j x).map u64 := by rw [List.map_set]
  rw [e] at h2
  have e2 : heapCells V { S with ws := S.ws.set j x } = heapCells V S := by unfold heapCells HV.vw HV.vb; simp
  refine h2.perm ?_
  unfold isHeap
  rw [e2]
  ac_rfl

theorem HeapV.begins (h : HeapV w V S) {p : Int} (hp : S.is p = true) : S.bs[(p / 4).toNat]? = some true ∧ S.ws.getD (p / 4).toNat 0 = S.head p := by
  obtain ⟨hlt, hj, hm, hb⟩ := h.word hp
  refine ⟨?_, by rw [List.getD_eq_getElem?_getD, hj]; rfl⟩
  unfold HS.is at hp
  rw [List.getElem?_eq_getElem (by have := h.ok.wf.len; omega)]
  rw [isB_true hm (by have := h.ok.wf.len; omega)] at hp
  rw [hp]

set_option maxHeartbeats 400000 in
theorem HeapW.Set_in (h : HeapW w V S R) (p i x : Int) (h0 : 0 ≤ p) (h1 : p < 18446744073709551616) (x0 : 0 ≤ x) (x1 : x < 18446744073709551616) (hi : 0 ≤ i ∧ i < S.tag p) :
    Calls Try.prog 78 #[.pointer (some ⟨V.g, 0, none⟩), .int .u64 p, .int .i64 i, .int .u64 x] w (fun e w' => (S.may x = false ∧ Says (.bool false) w e w') ∨ (S.may x = true ∧ e = .returned (.bool true) ∧ ∃ n, w' = (w.drewN n).setCell ⟨V.bw, fieldAt p 0 i, none⟩ (.int .u64 x))) := by
  obtain ⟨hp, hlt, hb⟩ := h.v.tag_is hi.1 hi.2
  have HP' := Lib.hid hp; clear hp
  have hcell := h.v.hw _ _ (getD_get (l := S.ws) (k := fieldAt p 0 i) (by unfold fieldAt; omega))
  have hfr : w.frozen? ⟨V.bw, fieldAt p 0 i, none⟩ = false := (h.s.perm (by unfold isHeap; ac_rfl) : sat w (row 22 1 V.bw V.cw (S.ws.map u64) * (blk V.g (.cells (heapCells V S) 125 (0, 0)) * (row 4 1 V.bb V.cb (S.bs.map .bool) * R)))).row_frozen _
  have m4 := u64_mask2 x x0 x1
  have hx : x % 4 = 3 ∨ x % 4 = 0 ∨ x % 4 = 1 ∨ x % 4 = 2 := by omega
  rcases hx with hx | hx | hx | hx
  · have hmay : S.may x = false := by unfold HS.may mayB; rw [isB_odd (by omega)]; simp [hx]
    have HM := Lib.hid hmay; clear hmay
    rw [hx] at m4
    clear hx
    go_enter Try.func78, Try.ntmps78
    go_wp2_with fail
    refine (h.v.Tagged p h0 h1).mono ?_
    rintro e w' ⟨rfl, n, rfl⟩
    go_wp2_with fail
    refine ((h.v.drewN n).Field p i (S.tag p) 0 h0 hb hi.1 hi.2 (by omega) (by omega) hlt).mono ?_
    rintro e w' ⟨rfl, m, rfl⟩
    go_wp2_with fail
    go_ret
    exact .inl ⟨HM.out, says_ret rfl⟩
  · have hmay : S.may x = S.is x := by unfold HS.may mayB HS.is; simp [hx]
    have HM := Lib.hid hmay; clear hmay
    rw [hx] at m4
    clear hx
    cases hix : S.is x with
    | true =>
      have HI := Lib.hid hix; clear hix
      go_enter Try.func78, Try.ntmps78
      go_wp2_with fail
      refine (h.v.Tagged p h0 h1).mono ?_
      rintro e w' ⟨rfl, n, rfl⟩
      go_wp2_with fail
      refine ((h.v.drewN n).Field p i (S.tag p) 0 h0 hb hi.1 hi.2 (by omega) (by omega) hlt).mono ?_
      rintro e w' ⟨rfl, m, rfl⟩
      go_wp2_with fail
      refine (((h.v.drewN (n + m))).Is x x0 x1).mono ?_
      rintro e w' ⟨rfl, q, rfl⟩
      rw [HI.out]
      go_wp2_with fail
      go_ret
      exact .inr ⟨by rw [HM.out, HI.out], rfl, _, rfl⟩
    | false =>
      have HI := Lib.hid hix; clear hix
      go_enter Try.func78, Try.ntmps78
      go_wp2_with fail
      refine (h.v.Tagged p h0 h1).mono ?_
      rintro e w' ⟨rfl, n, rfl⟩
      go_wp2_with fail
      refine ((h.v.drewN n).Field p i (S.tag p) 0 h0 hb hi.1 hi.2 (by omega) (by omega) hlt).mono ?_
      rintro e w' ⟨rfl, m, rfl⟩
      go_wp2_with fail
      refine (((h.v.drewN (n + m))).Is x x0 x1).mono ?_
      rintro e w' ⟨rfl, q, rfl⟩
      rw [HI.out]
      go_wp2_with fail
      go_ret
      exact .inl ⟨by rw [HM.out, HI.out], says_ret rfl⟩
  · have hmay : S.may x = true := by unfold HS.may mayB; simp [hx]
    have HM := Lib.hid hmay; clear hmay
    rw [hx] at m4
    clear hx
    go_enter Try.func78, Try.ntmps78
    go_wp2_with fail
    refine (h.v.Tagged p h0 h1).mono ?_
    rintro e w' ⟨rfl, n, rfl⟩
    go_wp2_with fail
    refine ((h.v.drewN n).Field p i (S.tag p) 0 h0 hb hi.1 hi.2 (by omega) (by omega) hlt).mono ?_
    rintro e w' ⟨rfl, m, rfl⟩
    go_wp2_with fail
    go_ret
    exact .inr ⟨HM.out, rfl, _, rfl⟩
  · have hmay : S.may x = true := by unfold HS.may mayB; simp [hx]
    have HM := Lib.hid hmay; clear hmay
    rw [hx] at m4
    clear hx
    go_enter Try.func78, Try.ntmps78
    go_wp2_with fail
    refine (h.v.Tagged p h0 h1).mono ?_
    rintro e w' ⟨rfl, n, rfl⟩
    go_wp2_with fail
    refine ((h.v.drewN n).Field p i (S.tag p) 0 h0 hb hi.1 hi.2 (by omega) (by omega) hlt).mono ?_
    rintro e w' ⟨rfl, m, rfl⟩
    go_wp2_with fail
    go_ret
    exact .inr ⟨HM.out, rfl, _, rfl⟩

set_option maxHeartbeats 400000 in
theorem HeapW.Set (h : HeapW w V S R) (p i x : Int) (h0 : 0 ≤ p) (h1 : p < 18446744073709551616) (x0 : 0 ≤ x) (x1 : x < 18446744073709551616) :
    Calls Try.prog 78 #[.pointer (some ⟨V.g, 0, none⟩), .int .u64 p, .int .i64 i, .int .u64 x] w (Leaves (.bool (S.setOk p i x)) V (S.set p i x) R w) := by
  by_cases hi : 0 ≤ i ∧ i < S.tag p
  · obtain ⟨hp, hlt, hb⟩ := h.v.tag_is hi.1 hi.2
    obtain ⟨hk, hkw⟩ := h.v.begins hp
    refine (h.Set_in p i x h0 h1 x0 x1 hi).mono ?_
    rintro e w' (⟨hm, he, n, rfl⟩ | ⟨hm, he, n, rfl⟩)
    · have e1 : S.setOk p i x = false := by unfold HS.setOk; simp [hm]
      have e2 : S.set p i x = S := by unfold HS.set; rw [if_neg (by rw [e1]; simp)]
      rw [e1, e2]
      exact ⟨he, h.drewN n, drewN_below0 _ _⟩
    · have e1 : S.setOk p i x = true := by unfold HS.setOk; simp [hm, hi]
      have e2 : S.set p i x = { S with ws := S.ws.set (fieldAt p 0 i) x } := by unfold HS.set; rw [if_pos e1]
      rw [e1, e2]
      refine ⟨he, (h.drewN n).setCell hk ?_ ?_ x0 x1 (fun _ => hm), (drewN_below0 _ _).setCell (Nat.zero_le _) _⟩
      · unfold fieldAt; omega
      · rw [hkw]; unfold fieldAt; unfold HS.tag at hi; omega
  · have e : S.setOk p i x = false := by unfold HS.setOk; simp [hi]
    have e2 : S.set p i x = S := by unfold HS.set; rw [if_neg (by rw [e]; simp)]
    rw [e, e2]
    have hi2 : i < 0 ∨ S.tag p ≤ i := by omega
    clear hi e e2
    have H := Lib.hid hi2; clear hi2
    go_enter Try.func78, Try.ntmps78
    go_wp2_with fail
    refine (h.v.Tagged p h0 h1).mono ?_
    rintro e w' ⟨rfl, n, rfl⟩
    go_wp2_with fail
    refine (field_none _ p i (S.tag p) 0 _ H.out).mono ?_
    rintro e w' ⟨rfl, m, rfl⟩
    go_wp2_with fail
    go_ret
    exact ⟨rfl, h.drewN _, drewN_below0 _ _⟩

set_option maxHeartbeats 400000 in
theorem HeapW.SetRaw (h : HeapW w V S R) (p i x : Int) (h0 : 0 ≤ p) (h1 : p < 18446744073709551616) (x0 : 0 ≤ x) (x1 : x < 18446744073709551616) :
    Calls Try.prog 82 #[.pointer (some ⟨V.g, 0, none⟩), .int .u64 p, .int .i64 i, .int .u64 x] w (Leaves (.bool (S.setRawOk p i)) V (S.setRaw p i x) R w) := by
  have ht := tagH_bd (S.head p)
  by_cases hi : 0 ≤ i ∧ i < S.raw p
  · obtain ⟨hp, hlt, hb⟩ := h.v.raw_is hi.1 hi.2
    have ht' : 0 ≤ S.tag p ∧ S.tag p ≤ 16777216 := by unfold HS.tag; omega
    obtain ⟨hk, hkw⟩ := h.v.begins hp
    have e : S.setRawOk p i = true := by unfold HS.setRawOk; simp [hi]
    have e2 : S.setRaw p i x = { S with ws := S.ws.set (fieldAt p (S.tag p) i) x } := by unfold HS.setRaw; rw [if_pos e]
    rw [e, e2]
    have hcell := h.v.hw _ _ (getD_get (l := S.ws) (k := fieldAt p (S.tag p) i) (by unfold fieldAt; omega))
    have hfr : w.frozen? ⟨V.bw, fieldAt p (S.tag p) i, none⟩ = false := (h.s.perm (by unfold isHeap; ac_rfl) : sat w (row 22 1 V.bw V.cw (S.ws.map u64) * (blk V.g (.cells (heapCells V S) 125 (0, 0)) * (row 4 1 V.bb V.cb (S.bs.map .bool) * R)))).row_frozen _
    have hfa : (p / 4).toNat < fieldAt p (S.tag p) i := by unfold fieldAt; omega
    have hfb : fieldAt p (S.tag p) i < (p / 4).toNat + 1 + (tagH (S.ws.getD (p / 4).toNat 0)).toNat + (rawH (S.ws.getD (p / 4).toNat 0)).toNat := by
      rw [hkw]; unfold fieldAt; unfold HS.tag; unfold HS.raw at hi; omega
    have hft : ¬ fieldAt p (S.tag p) i < (p / 4).toNat + 1 + (tagH (S.ws.getD (p / 4).toNat 0)).toNat := by rw [hkw]; unfold fieldAt; unfold HS.tag; unfold HS.raw at hi; omega
    have HF := Lib.hid hft; clear hft
    have HH := Lib.hid (And.intro hk (And.intro hfa hfb))
    clear hp hk hkw hfa hfb e e2
    go_enter Try.func82, Try.ntmps82
    go_wp2_with fail
    refine (h.v.Raws p h0 h1).mono ?_
    rintro e w' ⟨rfl, n, rfl⟩
    go_wp2_with fail
    refine ((h.v.drewN n).Tagged p h0 h1).mono ?_
    rintro e w' ⟨rfl, n2, rfl⟩
    go_wp2_with fail
    refine ((h.v.drewN (n + n2)).Field p i (S.raw p) (S.tag p) h0 hb hi.1 hi.2 ht'.1 ht'.2 hlt).mono ?_
    rintro e w' ⟨rfl, m, rfl⟩
    go_wp2_with fail
    go_ret
    exact ⟨rfl, (h.drewN _).setCell HH.out.1 HH.out.2.1 HH.out.2.2 x0 x1 (fun hb => absurd hb HF.out), (drewN_below0 _ _).setCell (Nat.zero_le _) _⟩
  · have e : S.setRawOk p i = false := by unfold HS.setRawOk; simp [hi]
    have e2 : S.setRaw p i x = S := by unfold HS.setRaw; rw [if_neg (by rw [e]; simp)]
    rw [e, e2]
    have hi2 : i < 0 ∨ S.raw p ≤ i := by omega
    clear hi e e2
    have H := Lib.hid hi2; clear hi2
    go_enter Try.func82, Try.ntmps82
    go_wp2_with fail
    refine (h.v.Raws p h0 h1).mono ?_
    rintro e w' ⟨rfl, n, rfl⟩
    go_wp2_with fail
    refine ((h.v.drewN n).Tagged p h0 h1).mono ?_
    rintro e w' ⟨rfl, n2, rfl⟩
    go_wp2_with fail
    refine (field_none _ p i (S.raw p) (S.tag p) _ H.out).mono ?_
    rintro e w' ⟨rfl, m, rfl⟩
    go_wp2_with fail
    go_ret
    exact ⟨rfl, h.drewN _, drewN_below0 _ _⟩
end
end Go.Proofs.Ytanjiecefioffaa
