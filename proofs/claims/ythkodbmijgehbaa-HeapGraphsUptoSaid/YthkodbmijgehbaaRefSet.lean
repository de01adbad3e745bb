/- The reference's fields: Get, Raw, Set, SetRaw; New. -/
import Derived.Test.YthkodbmijgehbaaRefRead
namespace Go.Proofs.Ythkodbmijgehbaa
open Go.RowKit

section
variable {w : World} {V : RV} {S : HS} {R : HP}

theorem SOk.tag_is (h : SOk S) {p i : Int} (hi : 0 ≤ i) (ht : i < S.tag p) : S.is p = true ∧ p / 4 + 1 + 0 + i < (S.ws.length : Int) ∧ p < 4611686018427387904 := by
  have hp : S.is p = true := by
    cases hp : S.is p with
    | true => rfl
    | false => unfold HS.tag HS.head headOf at ht; rw [if_neg (by unfold HS.is at hp; simp [hp])] at ht; unfold tagH at ht; omega
  obtain ⟨hlt, hj, hm, hb, hf, e⟩ := h.word hp
  refine ⟨hp, ?_, by omega⟩
  have := h.wf.fits _ hf
  rw [e] at this
  unfold HS.tag at ht
  have := tagH_bd (S.head p)
  omega
theorem SOk.raw_is (h : SOk S) {p i : Int} (hi : 0 ≤ i) (ht : i < S.raw p) : S.is p = true ∧ p / 4 + 1 + S.tag p + i < (S.ws.length : Int) ∧ p < 4611686018427387904 := by
  have hp : S.is p = true := by
    cases hp : S.is p with
    | true => rfl
    | false => unfold HS.raw HS.head headOf at ht; rw [if_neg (by unfold HS.is at hp; simp [hp])] at ht; unfold rawH at ht; omega
  obtain ⟨hlt, hj, hm, hb, hf, e⟩ := h.word hp
  refine ⟨hp, ?_, by omega⟩
  have := h.wf.fits _ hf
  rw [e] at this
  unfold HS.raw at ht
  unfold HS.tag
  have := tagH_bd (S.head p)
  have := rawH_bd (S.head p)
  omega

set_option maxHeartbeats 400000 in
theorem RefV.Get (h : RefV w V S) (p i : Int) (h0 : 0 ≤ p) (h1 : p < 18446744073709551616) :
    Calls Try.prog 65 #[.pointer (some ⟨V.g, 0, none⟩), .int .u64 p, .int .i64 i] w (Says (.tuple #[.int .u64 (S.get p i).1, .bool (S.get p i).2]) w) := by
  by_cases hi : 0 ≤ i ∧ i < S.tag p
  · obtain ⟨hp, hlt, hb⟩ := h.ok.tag_is hi.1 hi.2
    have hcell := h.hw _ _ (getD_get (l := S.ws) (k := fieldAt p 0 i) (by unfold fieldAt; omega))
    have hidx : p / 4 + 1 + i < (S.ws.length : Int) := by omega
    have hl := h.len
    have c1 := h.c1
    have e : S.get p i = (S.ws.getD (fieldAt p 0 i) 0, true) := by unfold HS.get; rw [if_pos hi]
    have ef : (p / 4 + 1 + i).toNat = fieldAt p 0 i := by unfold fieldAt; rw [Int.add_zero]
    rw [← ef] at hcell e
    rw [e]
    have H := Lib.hid hp; clear hp e ef hlt
    obtain ⟨hi0, hi1⟩ := hi
    go_enter Try.func65, Try.ntmps65
    go_wp2_with fail
    refine (h.Tagged p h0 h1).mono ?_
    rintro e w' ⟨rfl, n, rfl⟩
    go_wp2_with fail
    go_ret2
    exact says_ret rfl
  · have e : S.get p i = (0, false) := by unfold HS.get; rw [if_neg hi]
    rw [e]
    by_cases hneg : i < 0
    · clear hi e
      go_enter Try.func65, Try.ntmps65
      go_wp2_with fail
      go_ret2
      exact says_ret0 rfl
    · have hge : S.tag p ≤ i := by omega
      clear hi e
      go_enter Try.func65, Try.ntmps65
      go_wp2_with fail
      refine (h.Tagged p h0 h1).mono ?_
      rintro e w' ⟨rfl, n, rfl⟩
      go_wp2_with fail
      go_ret2
      exact says_ret rfl

set_option maxHeartbeats 400000 in
theorem RefV.Raw (h : RefV w V S) (p i : Int) (h0 : 0 ≤ p) (h1 : p < 18446744073709551616) :
    Calls Try.prog 66 #[.pointer (some ⟨V.g, 0, none⟩), .int .u64 p, .int .i64 i] w (Says (.tuple #[.int .u64 (S.getRaw p i).1, .bool (S.getRaw p i).2]) w) := by
  by_cases hi : 0 ≤ i ∧ i < S.raw p
  · obtain ⟨hp, hlt, hb⟩ := h.ok.raw_is hi.1 hi.2
    have ht := tagH_bd (S.head p)
    have ht' : 0 ≤ S.tag p ∧ S.tag p < 16777216 := by unfold HS.tag; omega
    have hcell := h.hw _ _ (getD_get (l := S.ws) (k := fieldAt p (S.tag p) i) (by unfold fieldAt; omega))
    have hl := h.len
    have c1 := h.c1
    have e : S.getRaw p i = (S.ws.getD (fieldAt p (S.tag p) i) 0, true) := by unfold HS.getRaw; rw [if_pos hi]
    rw [show fieldAt p (S.tag p) i = (p / 4 + 1 + S.tag p + i).toNat from rfl] at hcell e
    rw [e]
    generalize S.ws.getD (p / 4 + 1 + S.tag p + i).toNat 0 = y at hcell ⊢
    have H := Lib.hid hp; clear hp e ht
    obtain ⟨hi0, hi1⟩ := hi
    go_enter Try.func66, Try.ntmps66
    go_wp2_with fail
    refine (h.Raws p h0 h1).mono ?_
    rintro e w' ⟨rfl, n, rfl⟩
    go_wp2_with fail
    have s1 : IntKind.i64.wrap (p / 4 + 1) = p / 4 + 1 := IntWalk.i64_in _ (by omega)
    have s2 : IntKind.i64.wrap (p / 4 + 1 + S.tag p) = p / 4 + 1 + S.tag p := IntWalk.i64_in _ (by omega)
    have s3 : IntKind.i64.wrap (p / 4 + 1 + S.tag p + i) = p / 4 + 1 + S.tag p + i := IntWalk.i64_in _ (by omega)
    have b1 : 0 ≤ p / 4 + 1 + S.tag p + i := by omega
    have h2 := h.drewN n
    have c1' := h2.c1
    have hcell' : (w.drewN n).cell? ⟨V.bw, (p / 4 + 1 + S.tag p + i).toNat, none⟩ = _ := hcell
    generalize hw1 : w.drewN n = w1 at *
    have HW := Lib.hid hw1
    clear hw1 hcell c1 h
    go_quiet ((go_at_call 70; exact Calls.said ((h2.drewN _).Tagged p h0 h1)))
    clear s1 s2 s3
    go_wp2_with fail
    go_ret2
    rw [← HW.out, World.drewN_drewN]
    exact says_ret rfl
  · have e : S.getRaw p i = (0, false) := by unfold HS.getRaw; rw [if_neg hi]
    rw [e]
    by_cases hneg : i < 0
    · clear hi e
      go_enter Try.func66, Try.ntmps66
      go_wp2_with fail
      go_ret2
      exact says_ret0 rfl
    · have hge : S.raw p ≤ i := by omega
      clear hi e
      go_enter Try.func66, Try.ntmps66
      go_wp2_with fail
      refine (h.Raws p h0 h1).mono ?_
      rintro e w' ⟨rfl, n, rfl⟩
      go_wp2_with fail
      go_ret2
      exact says_ret rfl

structure RefW (w : World) (V : RV) (S : HS) (R : HP) : Prop where
  s : sat w (isRef V S * R)
  ok : SOk S
theorem RefW.v (h : RefW w V S R) : RefV w V S := h.s.refV h.ok
theorem RefW.drewN (h : RefW w V S R) (n : Nat) : RefW (w.drewN n) V S R := ⟨h.s, h.ok⟩

def RLeaves (v : Value) (V : RV) (S' : HS) (R : HP) (w : World) (e : Ending) (w' : World) : Prop := e = .returned v ∧ RefW w' V S' R ∧ Below 0 w w'

theorem RefW.words (h : RefW w V S R) : sat w (row 28 1 V.bw V.cw (S.ws.map u64) * (blk V.g (.cells #[i64 S.size, .slice (some ⟨V.bw, 0, none⟩) S.ws.length V.cw, V.vh S, i64 S.times] 109 (0, 0)) * (own 3 1 (V.vh S) (headsOf S.bs).length ((headsOf S.bs).map hVal) * R))) := h.s.perm (by unfold isRef; ac_rfl)

theorem RefW.setCell (h : RefW w V S R) {k j : Nat} {x : Int} (hk : S.bs[k]? = some true) (hkj : k < j) (hj : j < k + 1 + (tagH (S.ws.getD k 0)).toNat + (rawH (S.ws.getD k 0)).toNat) (h0 : 0 ≤ x) (h1 : x < 18446744073709551616)
    (hx : j < k + 1 + (tagH (S.ws.getD k 0)).toNat → mayB S.bs x = true) :
    RefW (w.setCell ⟨V.bw, j, none⟩ (.int .u64 x)) V { S with ws := S.ws.set j x } R := by
  have ok := h.ok
  refine ⟨?_, ⟨ok.lo, ok.hi, by simpa using ok.used, wf_set ok.wf hk hkj hj h0 h1, ok.times, ptr_set ok.wf ok.ptr hk hkj hj hx⟩⟩
  have h2 := h.words.row_set j (.int .u64 x)
  rw [show (S.ws.map u64).set j (.int .u64 x) = (S.ws.set j x).map u64 by rw [List.map_set]] at h2
  refine h2.perm ?_
  unfold isRef RV.vh
  simp only [List.length_set]
  ac_rfl

set_option maxHeartbeats 1000000 in
theorem RefW.Set (h : RefW w V S R) (p i x : Int) (h0 : 0 ≤ p) (h1 : p < 18446744073709551616) (x0 : 0 ≤ x) (x1 : x < 18446744073709551616) :
    Calls Try.prog 63 #[.pointer (some ⟨V.g, 0, none⟩), .int .u64 p, .int .i64 i, .int .u64 x] w (RLeaves (.bool (S.setOk p i x)) V (S.set p i x) R w) := by
  by_cases hi : 0 ≤ i ∧ i < S.tag p
  · obtain ⟨hp, hlt, hb⟩ := h.ok.tag_is hi.1 hi.2
    obtain ⟨_, _, _, _, hk, hkw⟩ := h.ok.word hp
    cases hmay : S.may x with
    | false =>
      have e1 : S.setOk p i x = false := by unfold HS.setOk; simp [hmay]
      have e2 : S.set p i x = S := by unfold HS.set; rw [if_neg (by rw [e1]; simp)]
      rw [e1, e2]
      have HM := Lib.hid hmay
      clear hmay e1 e2 hp hk hkw
      obtain ⟨hi0, hi1⟩ := hi
      go_enter Try.func63, Try.ntmps63
      go_wp2_with fail
      refine (h.v.Tagged p h0 h1).mono ?_
      rintro e w' ⟨rfl, n, rfl⟩
      go_wp2_with fail
      refine ((h.v.drewN n).May x x0 x1).mono ?_
      rintro e w' ⟨rfl, n2, rfl⟩
      rw [HM.out]
      go_wp2_with fail
      go_ret
      exact ⟨rfl, h.drewN _, drewN_below0 _ _⟩
    | true =>
      have e1 : S.setOk p i x = true := by unfold HS.setOk; simp [hmay, hi]
      have e2 : S.set p i x = { S with ws := S.ws.set (fieldAt p 0 i) x } := by unfold HS.set; rw [if_pos e1]
      rw [e1, e2]
      have hcell := h.v.hw _ _ (getD_get (l := S.ws) (k := fieldAt p 0 i) (by unfold fieldAt; omega))
      have hfr : w.frozen? ⟨V.bw, fieldAt p 0 i, none⟩ = false := h.words.row_frozen _
      have hfa : (p / 4).toNat < fieldAt p 0 i := by unfold fieldAt; omega
      have hfb : fieldAt p 0 i < (p / 4).toNat + 1 + (tagH (S.ws.getD (p / 4).toNat 0)).toNat + (rawH (S.ws.getD (p / 4).toNat 0)).toNat := by
        rw [hkw]; unfold fieldAt; unfold HS.tag at hi; omega
      have HH := Lib.hid (And.intro hk (And.intro hfa (And.intro hfb hmay)))
      have ef : (p / 4 + 1 + i).toNat = fieldAt p 0 i := by unfold fieldAt; rw [Int.add_zero]
      rw [← ef] at hcell hfr HH ⊢
      have hidx : p / 4 + 1 + i < (S.ws.length : Int) := by omega
      have hl := h.v.len
      have c1 := h.v.c1
      have HM := Lib.hid hmay
      clear hmay e1 e2 hp hk hkw ef hlt hfa hfb
      obtain ⟨hi0, hi1⟩ := hi
      go_enter Try.func63, Try.ntmps63
      go_wp2_with fail
      refine (h.v.Tagged p h0 h1).mono ?_
      rintro e w' ⟨rfl, n, rfl⟩
      go_wp2_with fail
      refine ((h.v.drewN n).May x x0 x1).mono ?_
      rintro e w' ⟨rfl, n2, rfl⟩
      rw [HM.out]
      go_wp2_with fail
      go_ret
      exact ⟨rfl, (h.drewN _).setCell HH.out.1 HH.out.2.1 HH.out.2.2.1 x0 x1 (fun _ => HH.out.2.2.2), (drewN_below0 _ _).setCell (Nat.zero_le _) _⟩
  · have e : S.setOk p i x = false := by unfold HS.setOk; simp [hi]
    have e2 : S.set p i x = S := by unfold HS.set; rw [if_neg (by rw [e]; simp)]
    rw [e, e2]
    by_cases hneg : i < 0
    · clear hi e e2
      go_enter Try.func63, Try.ntmps63
      go_wp2_with fail
      go_ret
      exact ⟨rfl, h, Below.refl _ _⟩
    · have hge : S.tag p ≤ i := by omega
      clear hi e e2
      go_enter Try.func63, Try.ntmps63
      go_wp2_with fail
      refine (h.v.Tagged p h0 h1).mono ?_
      rintro e w' ⟨rfl, n, rfl⟩
      go_wp2_with fail
      go_ret
      exact ⟨rfl, h.drewN _, drewN_below0 _ _⟩

set_option maxHeartbeats 1000000 in
theorem RefW.SetRaw (h : RefW w V S R) (p i x : Int) (h0 : 0 ≤ p) (h1 : p < 18446744073709551616) (x0 : 0 ≤ x) (x1 : x < 18446744073709551616) :
    Calls Try.prog 64 #[.pointer (some ⟨V.g, 0, none⟩), .int .u64 p, .int .i64 i, .int .u64 x] w (RLeaves (.bool (S.setRawOk p i)) V (S.setRaw p i x) R w) := by
  by_cases hi : 0 ≤ i ∧ i < S.raw p
  · obtain ⟨hp, hlt, hb⟩ := h.ok.raw_is hi.1 hi.2
    obtain ⟨_, _, _, _, hk, hkw⟩ := h.ok.word hp
    have ht := tagH_bd (S.head p)
    have ht' : 0 ≤ S.tag p ∧ S.tag p < 16777216 := by unfold HS.tag; omega
    have e1 : S.setRawOk p i = true := by unfold HS.setRawOk; simp [hi]
    have e2 : S.setRaw p i x = { S with ws := S.ws.set (fieldAt p (S.tag p) i) x } := by unfold HS.setRaw; rw [if_pos e1]
    rw [e1, e2]
    have hcell := h.v.hw _ _ (getD_get (l := S.ws) (k := fieldAt p (S.tag p) i) (by unfold fieldAt; omega))
    have hfr : w.frozen? ⟨V.bw, fieldAt p (S.tag p) i, none⟩ = false := h.words.row_frozen _
    have hfa : (p / 4).toNat < fieldAt p (S.tag p) i := by unfold fieldAt; omega
    have hfb : fieldAt p (S.tag p) i < (p / 4).toNat + 1 + (tagH (S.ws.getD (p / 4).toNat 0)).toNat + (rawH (S.ws.getD (p / 4).toNat 0)).toNat := by
      rw [hkw]; unfold fieldAt; unfold HS.tag; unfold HS.raw at hi; omega
    have hft : ¬ fieldAt p (S.tag p) i < (p / 4).toNat + 1 + (tagH (S.ws.getD (p / 4).toNat 0)).toNat := by rw [hkw]; unfold fieldAt; unfold HS.tag; omega
    have HH := Lib.hid (And.intro hk (And.intro hfa (And.intro hfb hft)))
    rw [show fieldAt p (S.tag p) i = (p / 4 + 1 + S.tag p + i).toNat from rfl] at hcell hfr HH ⊢
    have hl := h.v.len
    have c1 := h.v.c1
    clear e1 e2 hp hk hkw hfa hfb hft ht
    obtain ⟨hi0, hi1⟩ := hi
    go_enter Try.func64, Try.ntmps64
    go_wp2_with fail
    refine (h.v.Raws p h0 h1).mono ?_
    rintro e w' ⟨rfl, n, rfl⟩
    go_wp2_with fail
    have s1 : IntKind.i64.wrap (p / 4 + 1) = p / 4 + 1 := IntWalk.i64_in _ (by omega)
    have s2 : IntKind.i64.wrap (p / 4 + 1 + S.tag p) = p / 4 + 1 + S.tag p := IntWalk.i64_in _ (by omega)
    have s3 : IntKind.i64.wrap (p / 4 + 1 + S.tag p + i) = p / 4 + 1 + S.tag p + i := IntWalk.i64_in _ (by omega)
    have b1 : 0 ≤ p / 4 + 1 + S.tag p + i := by omega
    have b2 : p / 4 + 1 + S.tag p + i < (S.ws.length : Int) := hlt
    have t1 : p.tdiv 4 = p / 4 := Int.tdiv_eq_ediv_of_nonneg h0
    have t2 : IntKind.u64.wrap (p / 4) = p / 4 := by rw [IntKind.wrap_u64]; omega
    have t3 : IntKind.i64.wrap (p / 4) = p / 4 := IntWalk.i64_in _ (by omega)
    go_region_with ((go_at_call 70; refine ((h.v.drewN _).Tagged p h0 h1).mono ?_; rintro e w' ⟨rfl, n2, rfl⟩))
    all_goals
      clear s1 s2 s3 t1 t2 t3
      go_wp2_with fail
      go_ret
      exact ⟨rfl, (h.drewN _).setCell HH.out.1 HH.out.2.1 HH.out.2.2.1 x0 x1 (fun e => absurd e HH.out.2.2.2), (drewN_below0 _ _).setCell (Nat.zero_le _) _⟩
  · have e : S.setRawOk p i = false := by unfold HS.setRawOk; simp [hi]
    have e2 : S.setRaw p i x = S := by unfold HS.setRaw; rw [if_neg (by rw [e]; simp)]
    rw [e, e2]
    by_cases hneg : i < 0
    · clear hi e e2
      go_enter Try.func64, Try.ntmps64
      go_wp2_with fail
      go_ret
      exact ⟨rfl, h, Below.refl _ _⟩
    · have hge : S.raw p ≤ i := by omega
      clear hi e e2
      go_enter Try.func64, Try.ntmps64
      go_wp2_with fail
      refine (h.v.Raws p h0 h1).mono ?_
      rintro e w' ⟨rfl, n, rfl⟩
      go_wp2_with fail
      go_ret
      exact ⟨rfl, h.drewN _, drewN_below0 _ _⟩

set_option maxHeartbeats 400000 in
theorem RNew_bad (n : Int) (h : n < 2 ∨ 1048576 < n) : Calls Try.prog 61 #[.int .i64 n] w (Says (.tuple #[.pointer none, .int .i64 1]) w) := by
  by_cases h1 : n < 2
  · go_enter Try.func61, Try.ntmps61
    go_wp2_with fail
    go_ret2
    exact says_ret0 rfl
  · have h2 : 1048576 < n := by omega
    go_enter Try.func61, Try.ntmps61
    go_wp2_with fail
    go_ret2
    exact says_ret0 rfl

def RNewPost (n : Nat) (R : HP) (w : World) (e : Ending) (w' : World) : Prop :=
  ∃ V : RV, e = .returned (.tuple #[.pointer (some ⟨V.g, 0, none⟩), .int .i64 0]) ∧ RefW w' V (HS.new n) R ∧ Below 0 w w'

set_option maxHeartbeats 400000 in
theorem RNew_good (n : Nat) (hs : sat w R) (h1 : 2 ≤ n) (h2 : n ≤ 1048576) : Calls Try.prog 61 #[.int .i64 n] w (RNewPost n R w) := by
  go_enter Try.func61, Try.ntmps61
  go_wp2_with fail
  go_ret2
  refine ⟨⟨w.heap.size + 1, w.heap.size, 1, none, 0⟩, rfl, ⟨?_, (HOk_new ⟨0, 0, 0, 0, 0, 0, .bool false, .bool false⟩ n Nat.zero_lt_two h1 h2).s⟩, (Below.zero_alloc _ _).trans (Below.zero_alloc _ _)⟩
  have h3 := (hs.alloc (.cells #[.int .u64 0] 28)).shut_row (xs := [.int .u64 0]) (cap := 1) (sz := 1) rfl (by simp) (by unfold maxLen; omega) rfl
  have h4 := (h3.nil_own (e := 3) (sz := 1)).alloc (.cells #[.int .i64 n, .slice (some ⟨w.heap.size, 0, none⟩) 1 1, .slice none 0 0, .int .i64 0] 109)
  rw [World.size_alloc] at h4
  refine h4.perm ?_
  have e1 : (HS.new n).ws = [0] ∧ headsOf (HS.new n).bs = [] := ⟨rfl, rfl⟩
  unfold isRef RV.vh
  rw [e1.1, e1.2]
  simp only [HS.new, List.map_cons, List.map_nil, List.length_nil, List.length_cons, Option.map_none]
  ac_rfl
end
end Go.Proofs.Ythkodbmijgehbaa
