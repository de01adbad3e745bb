/- HeapRefuses: what is refused. -/
import Derived.Test.YthkodbmijgehbaaHeapDropsWalk
namespace Go.Proofs.Ythkodbmijgehbaa
open Go.RowKit

theorem u64_or3 (x : Int) (h0 : 0 ≤ x) (h1 : x < 18446744073709551616) : 0 ≤ bits .or .u64 x 3 ∧ bits .or .u64 x 3 < 18446744073709551616 ∧ bits .or .u64 x 3 % 4 = 3 := by
  obtain ⟨n, rfl⟩ := Int.eq_ofNat_of_zero_le h0
  rw [show (3 : Int) = ((3 : Nat) : Int) from rfl, u64_or_nat _ _ (by omega) (by omega)]
  have h2 : n ||| 3 < 2 ^ 64 := Nat.or_lt_two_pow (by omega) (by decide)
  have h3 : (n ||| 3) % 2 ^ 2 = n % 2 ^ 2 ||| 3 % 2 ^ 2 := Nat.or_mod_two_pow
  have h4 : n % 4 < 4 := Nat.mod_lt _ (by decide)
  have h5 : n % 4 ||| 3 = 3 := by
    generalize n % 4 = r at h4
    match r, h4 with
    | 0, _ => rfl
    | 1, _ => rfl
    | 2, _ => rfl
    | 3, _ => rfl
  have h6 : (n ||| 3) % 4 = 3 := by rw [show (2 : Nat) ^ 2 = 4 from rfl] at h3; rw [h3]; exact h5
  refine ⟨by omega, by omega, by omega⟩

section
variable {S : HS}
theorem setOk_or3 (p i y : Int) (hy : y % 4 = 3) : S.setOk p i y = false := by
  unfold HS.setOk HS.may mayB isB; simp [hy]
theorem setOk_zero (hw : WfH S.ws S.bs) (p i : Int) : S.setOk p i 0 = false := by
  have : isB S.bs 0 = false := by
    unfold isB
    rw [List.getD_eq_getElem?_getD, show ((0 : Int) / 4).toNat = 0 from rfl, hw.zero.1]
    rfl
  unfold HS.setOk HS.may mayB; rw [this]; simp
theorem setOk_neg (p x : Int) : S.setOk p (-1) x = false := by unfold HS.setOk; simp
theorem setRawOk_end (p x : Int) (h : x = S.raw p) : S.setRawOk p x = false := by subst h; unfold HS.setRawOk; simp
theorem set_same {p i x : Int} (h : S.setOk p i x = false) : S.set p i x = S := by unfold HS.set; rw [if_neg (by rw [h]; simp)]
theorem setRaw_same {p i x : Int} (h : S.setRawOk p i = false) : S.setRaw p i x = S := by unfold HS.setRaw; rw [if_neg (by rw [h]; simp)]
theorem set_bs (p i x : Int) : (S.set p i x).bs = S.bs := by unfold HS.set; split <;> rfl
theorem setOk_may {p i x : Int} (h : S.may x = false) : S.setOk p i x = false := by unfold HS.setOk; rw [h]; simp
theorem setOk_true_may {p i x : Int} (h : S.setOk p i x = true) : S.may x = true := by unfold HS.setOk at h; rw [Bool.and_eq_true] at h; exact h.2
theorem setOk_in {p i x : Int} (h : S.setOk p i x = true) : 0 ≤ i ∧ i < S.tag p := by
  unfold HS.setOk at h; rw [Bool.and_eq_true] at h; exact of_decide_eq_true h.1
/-- A header stays, whatever field is set. -/
theorem set_tag (ok : SOk S) {p i x : Int} (h : S.setOk p i x = true) : (S.set p i x).tag p = S.tag p := by
  obtain ⟨h0, h1⟩ := setOk_in h
  obtain ⟨hp, hlt, _⟩ := ok.tag_is h0 h1
  obtain ⟨_, _, hm, _, hk, hkw⟩ := ok.word hp
  unfold HS.set
  rw [if_pos h]
  unfold HS.tag HS.head headOf
  have hb : isB S.bs p = true := hp
  simp only [hb, if_true]
  rw [List.getD_eq_getElem?_getD, List.getElem?_set_ne, ← List.getD_eq_getElem?_getD]
  unfold fieldAt
  have : 0 ≤ p / 4 := by
    rcases Int.lt_or_le p 0 with a | a
    · exfalso
      have : (p / 4).toNat = 0 := by omega
      rw [this, ok.wf.zero.1] at hk; cases hk
    · omega
  omega
end

section
variable {w : World} {V : HV} {S : HS} {R : HP}
set_option maxHeartbeats 400000 in
theorem HeapW.Set_no (h : HeapW w V S R) (p i x : Int) (h0 : 0 ≤ p) (h1 : p < 18446744073709551616) (x0 : 0 ≤ x) (x1 : x < 18446744073709551616) (hno : S.setOk p i x = false) :
    Calls Try.prog 24 #[.pointer (some ⟨V.g, 0, none⟩), .int .u64 p, .int .i64 i, .int .u64 x] w (Says (.bool false) w) := by
  by_cases hi : 0 ≤ i ∧ i < S.tag p
  · refine (h.Set_in p i x h0 h1 x0 x1 hi).mono ?_
    rintro e w' (⟨_, hs⟩ | ⟨hm, _⟩)
    · exact hs
    · exfalso; unfold HS.setOk at hno; rw [hm] at hno; simp at hno; omega
  · have hi2 : i < 0 ∨ S.tag p ≤ i := by omega
    clear hi hno
    have H := Lib.hid hi2; clear hi2
    go_enter Try.func24, Try.ntmps24
    go_wp2_with fail
    refine (h.v.Tagged p h0 h1).mono ?_
    rintro e w' ⟨rfl, n, rfl⟩
    go_wp2_with fail
    refine (field_none _ p i (S.tag p) 0 _ H.out).mono ?_
    rintro e w' ⟨rfl, m, rfl⟩
    go_wp2_with fail
    go_ret
    exact ⟨rfl, _, rfl⟩
set_option maxHeartbeats 400000 in
theorem HeapW.SetRaw_no (h : HeapW w V S R) (p i x : Int) (h0 : 0 ≤ p) (h1 : p < 18446744073709551616) (hno : S.setRawOk p i = false) :
    Calls Try.prog 25 #[.pointer (some ⟨V.g, 0, none⟩), .int .u64 p, .int .i64 i, .int .u64 x] w (Says (.bool false) w) := by
  have hi2 : i < 0 ∨ S.raw p ≤ i := by
    unfold HS.setRawOk at hno
    have := of_decide_eq_false hno
    omega
  clear hno
  have H := Lib.hid hi2; clear hi2
  go_enter Try.func25, Try.ntmps25
  go_wp2_with fail
  refine (h.v.Raws p h0 h1).mono ?_
  rintro e w' ⟨rfl, n, rfl⟩
  go_wp2_with fail
  refine ((h.v.drewN n).Tagged p h0 h1).mono ?_
  rintro e w' ⟨rfl, n2, rfl⟩
  go_wp2_with fail
  refine (field_none _ p i (S.raw p) _ _ H.out).mono ?_
  rintro e w' ⟨rfl, m, rfl⟩
  go_wp2_with fail
  go_ret
  exact ⟨rfl, _, rfl⟩
theorem HeapW.set_or3 (h : HeapW w V S R) (p y : Int) (h0 : 0 ≤ p) (h1 : p < 18446744073709551616) (x0 : 0 ≤ y) (x1 : y < 18446744073709551616) (hy : y % 4 = 3) :
    Calls Try.prog 24 #[.pointer (some ⟨V.g, 0, none⟩), .int .u64 p, .int .i64 0, .int .u64 y] w (Says (.bool false) w) := h.Set_no p 0 y h0 h1 x0 x1 (setOk_or3 p 0 y hy)
theorem HeapW.set_zero (h : HeapW w V S R) (p : Int) (h0 : 0 ≤ p) (h1 : p < 18446744073709551616) :
    Calls Try.prog 24 #[.pointer (some ⟨V.g, 0, none⟩), .int .u64 p, .int .i64 0, .int .u64 0] w (Says (.bool false) w) := h.Set_no p 0 0 h0 h1 (by decide) (by decide) (setOk_zero h.ok.wf p 0)
theorem HeapW.set_neg (h : HeapW w V S R) (p : Int) (h0 : 0 ≤ p) (h1 : p < 18446744073709551616) :
    Calls Try.prog 24 #[.pointer (some ⟨V.g, 0, none⟩), .int .u64 p, .int .i64 (-1), .int .u64 2] w (Says (.bool false) w) := h.Set_no p (-1) 2 h0 h1 (by decide) (by decide) (setOk_neg p 2)
theorem HeapW.raw_end (h : HeapW w V S R) (p : Int) (h0 : 0 ≤ p) (h1 : p < 18446744073709551616) :
    Calls Try.prog 25 #[.pointer (some ⟨V.g, 0, none⟩), .int .u64 p, .int .i64 (S.raw p), .int .u64 1] w (Says (.bool false) w) := h.SetRaw_no p (S.raw p) 1 h0 h1 (setRawOk_end p _ rfl)
theorem HeapW.c {O : OV} {Q : HP} (h : HeapW w V S (isOn O * Q)) (hp : O.p = V.g) : w.cell? ⟨O.g, 0, none⟩ = some (.pointer (some ⟨V.g, 0, none⟩)) := on_cell h.s hp
theorem HeapW.c2 {O : OV} {Q : HP} (h : HeapW w V S (isOn O * Q)) : w.cell? ⟨O.g, 2, none⟩ = some O.vo := by
  have h1 := h.s.right.left
  unfold isOn at h1
  exact (h1.left.cell 2).trans rfl
theorem on_vo {O : OV} (h : sat w (isOn O * R)) : ∃ ao cap, O.vo = .slice ao O.obj.length cap := by
  have h1 : sat w (own 28 1 O.vo O.obj.length (O.obj.map u64) * (blk O.g (.cells #[.pointer (some ⟨O.p, 0, none⟩), .pointer (some ⟨O.q, 0, none⟩), O.vo] 48 (0, 0)) * R)) := h.perm (by unfold isOn; ac_rfl)
  rcases h1.open_own.2 with ⟨a, b, _, _⟩ | ⟨b, cap, a, _⟩
  · exact ⟨none, 0, by rw [a, b]⟩
  · exact ⟨_, _, a⟩
theorem obj_reads {O : OV} (h : sat w (isOn O * R)) {ao : Option Addr} {cap : Nat} (hv : O.vo = .slice ao O.obj.length cap) : Reads w ao O.obj := by
  intro j x hx
  have h1 : sat w (own 28 1 O.vo O.obj.length (O.obj.map u64) * (blk O.g (.cells #[.pointer (some ⟨O.p, 0, none⟩), .pointer (some ⟨O.q, 0, none⟩), O.vo] 48 (0, 0)) * R)) := h.perm (by unfold isOn; ac_rfl)
  have hj := (List.getElem?_eq_some_iff.1 hx).1
  obtain ⟨b, c, hb, _, _, hr⟩ := h1.own_some (by omega)
  rw [hv] at hb
  simp only [Value.slice.injEq] at hb
  obtain ⟨rfl, _⟩ := hb
  exact reads_row hr j x hx
end

/-- Behind k of the objects. -/
def RRel (W : World) (O : OV) (V : HV) (V2 : RV) (S0 : HS) (x : Int) (bw cw : Nat) (i : Value) (wr : World) : Prop :=
  ∃ (k : Nat) (S : HS), k ≤ O.obj.length ∧ i = .int .i64 k ∧ HeapW wr V S (isOn O * (isRef V2 S0 * (row 28 1 bw cw (S0.ws.map u64) * whole W))) ∧ S.bs = S0.bs ∧ S.ws.length = S0.ws.length ∧ (S0.may x = false → S = S0) ∧ Below 0 W wr
end Go.Proofs.Ythkodbmijgehbaa
