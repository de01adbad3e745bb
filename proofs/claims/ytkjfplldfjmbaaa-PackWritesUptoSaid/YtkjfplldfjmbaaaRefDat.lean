/- tandemref10.datum: of data without parts. -/
import Derived.Test.YtkjfplldfjmbaaaRefPack
namespace Go.Proofs.Ytkjfplldfjmbaaa
open Go.RowKit
/-- The reference's datum gives just these bytes. -/
def RefDatAt (d : Dm) : Prop := ∀ (w : World) (R : HP) (cs : List Value), sat w R → DK R d cs →
  Calls Try.prog 30 #[.agg cs.toArray] w (BytesR R (constB d) w)
theorem refp_len {w : World} {R : HP} (hs : sat w R) (k : Nat) (hk : k ≤ 1048576) : Calls Try.prog 26 #[.int .i64 k] w (BytesR R (numB k) w) := by
  have h := refp_num k (k : Int) (by omega) hs (by omega) (by omega)
  rw [show ((k : Nat) : Int).toNat = k by omega] at h
  exact h
theorem zigB_pos (n : Int) : 0 < (zigB n).length := numB_pos _
theorem textB_pos (s : ByteArray) : 0 < (textB s).length := by unfold textB; rw [List.length_append]; have := numB_pos s.size; omega
set_option maxRecDepth 100000 in
set_option maxHeartbeats 4000000 in
theorem rdat_sign2 (n : Int) (neg : Bool) (mag : List Int) (text : ByteArray) (items rest : List Dm) (hn : -549755813888 ≤ n ∧ n ≤ 549755813888) (w : World) (R : HP) (am : Option Addr) (cm : Nat) (ai : Option Addr) (ci : Nat) (ar : Option Addr) (cr : Nat)
    (hs : sat w R) (hd : DK R (.mk 2 n neg mag text items rest) [.int .i64 2, .int .i64 n, .bool neg, .slice am mag.length cm, .string text, .slice ai items.length ci, .slice ar rest.length cr]) :
    Calls Try.prog 30 #[.agg #[.int .i64 2, .int .i64 n, .bool neg, .slice am mag.length cm, .string text, .slice ai items.length ci, .slice ar rest.length cr]] w (BytesR R (constB (.mk 2 n neg mag text items rest)) w) := by
  obtain ⟨i0, hi, hz0, hz1, hz2⟩ := info_parts info_b8
  have H1 := Lib.hid (And.intro hi (And.intro hz0 (And.intro hz1 hz2)))
  clear hi hz0 hz1 hz2
  have h1 : sat (w.alloc (dmO [.int .i64 2, .int .i64 n, .bool neg, .slice am mag.length cm, .string text, .slice ai items.length ci, .slice ar rest.length cr])) (Go.Proofs.Ytkjfplldfjmbaaa.blk w.heap.size (dmO [.int .i64 2, .int .i64 n, .bool neg, .slice am mag.length cm, .string text, .slice ai items.length ci, .slice ar rest.length cr]) * R) := hs.alloc (dmO [.int .i64 2, .int .i64 n, .bool neg, .slice am mag.length cm, .string text, .slice ai items.length ci, .slice ar rest.length cr])
  have hb1 := Below.zero_alloc w (dmO [.int .i64 2, .int .i64 n, .bool neg, .slice am mag.length cm, .string text, .slice ai items.length ci, .slice ar rest.length cr])
  obtain ⟨g, hg⟩ : ∃ g, w.heap.size = g := ⟨_, rfl⟩
  rw [hg] at h1
  have a0 := h1.left.cell 0
  simp only [List.getElem?_toArray, List.getElem?_cons_zero] at a0
  obtain ⟨G, hG⟩ : ∃ G : HP, G = Go.Proofs.Ytkjfplldfjmbaaa.blk g (dmO [.int .i64 2, .int .i64 n, .bool neg, .slice am mag.length cm, .string text, .slice ai items.length ci, .slice ar rest.length cr]) * R := ⟨_, rfl⟩
  rw [← hG] at h1
  have hGc : ∀ w', sat w' G → w'.cell? ⟨g, 0, none⟩ = some (.int .i64 2) ∧ w'.cell? ⟨g, 1, none⟩ = some (.int .i64 n) ∧ w'.cell? ⟨g, 2, none⟩ = some (.bool neg) ∧ w'.cell? ⟨g, 3, none⟩ = some (.slice am mag.length cm) ∧ w'.cell? ⟨g, 4, none⟩ = some (.string text) ∧ w'.cell? ⟨g, 5, none⟩ = some (.slice ai items.length ci) ∧ w'.cell? ⟨g, 6, none⟩ = some (.slice ar rest.length cr) := fun w' h => by
    rw [hG] at h
    exact ⟨(h.left.cell 0).trans rfl, (h.left.cell 1).trans rfl, (h.left.cell 2).trans rfl, (h.left.cell 3).trans rfl, (h.left.cell 4).trans rfl, (h.left.cell 5).trans rfl, (h.left.cell 6).trans rfl⟩
  have hGR : ∀ w', sat w' G → sat w' R := fun w' h => by rw [hG] at h; exact h.right
  have hGd : ∀ (w' : World) (v : Value) (l : List Int), sat w' (own 5 1 v l.length (l.map bv) * G) → sat w' (own 5 1 v l.length (l.map bv) * R) := fun w' v l h => by
    rw [hG] at h
    exact (h.perm (show _ = Go.Proofs.Ytkjfplldfjmbaaa.blk g _ * (own _ _ _ _ _ * R) by ac_rfl)).right
  have hN := refp_num _ 2 rfl h1 (by decide) (by decide)
  have HX := Lib.hid (And.intro hb1 (And.intro hd (And.intro hGc (And.intro hGR (And.intro hGd hG)))))
  have HG := Lib.hid hg
  clear h1 hb1 hs hd hGc hGR hGd hG
  go_enter Try.func30, Try.ntmps30
  go_upto_region 1 with (fail)
  clear hg
  generalize w.alloc (dmO [.int .i64 2, .int .i64 n, .bool neg, .slice am mag.length cm, .string text, .slice ai items.length ci, .slice ar rest.length cr]) = w1 at *
  go_wp2_with fail
  refine hN.mono ?_
  clear hN a0
  rintro e w2 ⟨v2, rfl, h2, hb2⟩
  have hl2 := numB_ten (n := (2 : Int).toNat) (by decide)
  obtain ⟨ys, hys⟩ : ∃ ys, numB (2 : Int).toNat = ys := ⟨_, rfl⟩
  rw [hys] at h2 hl2
  obtain ⟨a0, a1, a2, a3, a4, a5, a6⟩ := HX.out.2.2.1 w2 h2.right
  have HH := Lib.hid (And.intro h2 (And.intro (HX.out.1.trans hb2) (And.intro hys hl2)))
  clear h2 hb2 hys hl2
  have hzl := zigB_len hn
  have hS := refp_signed HH.out.1 n hn
  go_wp2_with fail
  refine hS.mono ?_
  clear hS a0 a1 a2 a3 a4 a5 a6
  rintro e w3 ⟨v3, rfl, h3, hb3⟩
  have HQ := Lib.hid (And.intro h3 (And.intro hb3 hzl))
  clear h3 hb3 hzl
  go_wp2_with (at_builtin; refine halt ?_)
  refine goon ?_
  obtain ⟨hi, hz0, hz1, hz2⟩ := H1.out
  refine wpList_append_bytes rfl (.tmp 50) (.tmp 53) rfl i0 hi hz0 hz1 hz2 v2 v3 ys (zigB n) rfl G rfl ?_ HQ.out.1 (zigB_pos n) (by have := HH.out.2.2.2; have := HQ.out.2.2; omega)
  clear hi hz0 hz1 hz2
  intro v4 w4 hs4 hb4
  have HR := Lib.hid (And.intro hs4 hb4)
  clear hs4 hb4
  go_wp2_with fail
  go_ret
  refine ⟨_, rfl, ?_, (HH.out.2.1.trans HQ.out.2.1).trans HR.out.2⟩
  have e : constB (.mk 2 n neg mag text items rest) = ys ++ zigB n := by unfold constB; rw [← HH.out.2.2.1, if_neg (by decide), if_pos (by decide)]
  rw [e]
  exact HX.out.2.2.2.2.1 _ _ _ (HR.out.1)
set_option maxRecDepth 100000 in
set_option maxHeartbeats 4000000 in
theorem rdat_sign3 (n : Int) (neg : Bool) (mag : List Int) (text : ByteArray) (items rest : List Dm) (hn : -549755813888 ≤ n ∧ n ≤ 549755813888) (w : World) (R : HP) (am : Option Addr) (cm : Nat) (ai : Option Addr) (ci : Nat) (ar : Option Addr) (cr : Nat)
    (hs : sat w R) (hd : DK R (.mk 3 n neg mag text items rest) [.int .i64 3, .int .i64 n, .bool neg, .slice am mag.length cm, .string text, .slice ai items.length ci, .slice ar rest.length cr]) :
    Calls Try.prog 30 #[.agg #[.int .i64 3, .int .i64 n, .bool neg, .slice am mag.length cm, .string text, .slice ai items.length ci, .slice ar rest.length cr]] w (BytesR R (constB (.mk 3 n neg mag text items rest)) w) := by
  obtain ⟨i0, hi, hz0, hz1, hz2⟩ := info_parts info_b8
  have H1 := Lib.hid (And.intro hi (And.intro hz0 (And.intro hz1 hz2)))
  clear hi hz0 hz1 hz2
  have h1 : sat (w.alloc (dmO [.int .i64 3, .int .i64 n, .bool neg, .slice am mag.length cm, .string text, .slice ai items.length ci, .slice ar rest.length cr])) (Go.Proofs.Ytkjfplldfjmbaaa.blk w.heap.size (dmO [.int .i64 3, .int .i64 n, .bool neg, .slice am mag.length cm, .string text, .slice ai items.length ci, .slice ar rest.length cr]) * R) := hs.alloc (dmO [.int .i64 3, .int .i64 n, .bool neg, .slice am mag.length cm, .string text, .slice ai items.length ci, .slice ar rest.length cr])
  have hb1 := Below.zero_alloc w (dmO [.int .i64 3, .int .i64 n, .bool neg, .slice am mag.length cm, .string text, .slice ai items.length ci, .slice ar rest.length cr])
  obtain ⟨g, hg⟩ : ∃ g, w.heap.size = g := ⟨_, rfl⟩
  rw [hg] at h1
  have a0 := h1.left.cell 0
  simp only [List.getElem?_toArray, List.getElem?_cons_zero] at a0
  obtain ⟨G, hG⟩ : ∃ G : HP, G = Go.Proofs.Ytkjfplldfjmbaaa.blk g (dmO [.int .i64 3, .int .i64 n, .bool neg, .slice am mag.length cm, .string text, .slice ai items.length ci, .slice ar rest.length cr]) * R := ⟨_, rfl⟩
  rw [← hG] at h1
  have hGc : ∀ w', sat w' G → w'.cell? ⟨g, 0, none⟩ = some (.int .i64 3) ∧ w'.cell? ⟨g, 1, none⟩ = some (.int .i64 n) ∧ w'.cell? ⟨g, 2, none⟩ = some (.bool neg) ∧ w'.cell? ⟨g, 3, none⟩ = some (.slice am mag.length cm) ∧ w'.cell? ⟨g, 4, none⟩ = some (.string text) ∧ w'.cell? ⟨g, 5, none⟩ = some (.slice ai items.length ci) ∧ w'.cell? ⟨g, 6, none⟩ = some (.slice ar rest.length cr) := fun w' h => by
    rw [hG] at h
    exact ⟨(h.left.cell 0).trans rfl, (h.left.cell 1).trans rfl, (h.left.cell 2).trans rfl, (h.left.cell 3).trans rfl, (h.left.cell 4).trans rfl, (h.left.cell 5).trans rfl, (h.left.cell 6).trans rfl⟩
  have hGR : ∀ w', sat w' G → sat w' R := fun w' h => by rw [hG] at h; exact h.right
  have hGd : ∀ (w' : World) (v : Value) (l : List Int), sat w' (own 5 1 v l.length (l.map bv) * G) → sat w' (own 5 1 v l.length (l.map bv) * R) := fun w' v l h => by
    rw [hG] at h
    exact (h.perm (show _ = Go.Proofs.Ytkjfplldfjmbaaa.blk g _ * (own _ _ _ _ _ * R) by ac_rfl)).right
  have hN := refp_num _ 3 rfl h1 (by decide) (by decide)
  have HX := Lib.hid (And.intro hb1 (And.intro hd (And.intro hGc (And.intro hGR (And.intro hGd hG)))))
  have HG := Lib.hid hg
  clear h1 hb1 hs hd hGc hGR hGd hG
  go_enter Try.func30, Try.ntmps30
  go_upto_region 1 with (fail)
  clear hg
  generalize w.alloc (dmO [.int .i64 3, .int .i64 n, .bool neg, .slice am mag.length cm, .string text, .slice ai items.length ci, .slice ar rest.length cr]) = w1 at *
  go_wp2_with fail
  refine hN.mono ?_
  clear hN a0
  rintro e w2 ⟨v2, rfl, h2, hb2⟩
  have hl2 := numB_ten (n := (3 : Int).toNat) (by decide)
  obtain ⟨ys, hys⟩ : ∃ ys, numB (3 : Int).toNat = ys := ⟨_, rfl⟩
  rw [hys] at h2 hl2
  obtain ⟨a0, a1, a2, a3, a4, a5, a6⟩ := HX.out.2.2.1 w2 h2.right
  have HH := Lib.hid (And.intro h2 (And.intro (HX.out.1.trans hb2) (And.intro hys hl2)))
  clear h2 hb2 hys hl2
  have hzl := zigB_len hn
  have hS := refp_signed HH.out.1 n hn
  go_wp2_with fail
  refine hS.mono ?_
  clear hS a0 a1 a2 a3 a4 a5 a6
  rintro e w3 ⟨v3, rfl, h3, hb3⟩
  have HQ := Lib.hid (And.intro h3 (And.intro hb3 hzl))
  clear h3 hb3 hzl
  go_wp2_with (at_builtin; refine halt ?_)
  refine goon ?_
  obtain ⟨hi, hz0, hz1, hz2⟩ := H1.out
  refine wpList_append_bytes rfl (.tmp 50) (.tmp 53) rfl i0 hi hz0 hz1 hz2 v2 v3 ys (zigB n) rfl G rfl ?_ HQ.out.1 (zigB_pos n) (by have := HH.out.2.2.2; have := HQ.out.2.2; omega)
  clear hi hz0 hz1 hz2
  intro v4 w4 hs4 hb4
  have HR := Lib.hid (And.intro hs4 hb4)
  clear hs4 hb4
  go_wp2_with fail
  go_ret
  refine ⟨_, rfl, ?_, (HH.out.2.1.trans HQ.out.2.1).trans HR.out.2⟩
  have e : constB (.mk 3 n neg mag text items rest) = ys ++ zigB n := by unfold constB; rw [← HH.out.2.2.1, if_neg (by decide), if_pos (by decide)]
  rw [e]
  exact HX.out.2.2.2.2.1 _ _ _ (HR.out.1)
set_option maxRecDepth 100000 in
set_option maxHeartbeats 4000000 in
theorem rdat_sign9 (n : Int) (neg : Bool) (mag : List Int) (text : ByteArray) (items rest : List Dm) (hn : -549755813888 ≤ n ∧ n ≤ 549755813888) (w : World) (R : HP) (am : Option Addr) (cm : Nat) (ai : Option Addr) (ci : Nat) (ar : Option Addr) (cr : Nat)
    (hs : sat w R) (hd : DK R (.mk 9 n neg mag text items rest) [.int .i64 9, .int .i64 n, .bool neg, .slice am mag.length cm, .string text, .slice ai items.length ci, .slice ar rest.length cr]) :
    Calls Try.prog 30 #[.agg #[.int .i64 9, .int .i64 n, .bool neg, .slice am mag.length cm, .string text, .slice ai items.length ci, .slice ar rest.length cr]] w (BytesR R (constB (.mk 9 n neg mag text items rest)) w) := by
  obtain ⟨i0, hi, hz0, hz1, hz2⟩ := info_parts info_b8
  have H1 := Lib.hid (And.intro hi (And.intro hz0 (And.intro hz1 hz2)))
  clear hi hz0 hz1 hz2
  have h1 : sat (w.alloc (dmO [.int .i64 9, .int .i64 n, .bool neg, .slice am mag.length cm, .string text, .slice ai items.length ci, .slice ar rest.length cr])) (Go.Proofs.Ytkjfplldfjmbaaa.blk w.heap.size (dmO [.int .i64 9, .int .i64 n, .bool neg, .slice am mag.length cm, .string text, .slice ai items.length ci, .slice ar rest.length cr]) * R) := hs.alloc (dmO [.int .i64 9, .int .i64 n, .bool neg, .slice am mag.length cm, .string text, .slice ai items.length ci, .slice ar rest.length cr])
  have hb1 := Below.zero_alloc w (dmO [.int .i64 9, .int .i64 n, .bool neg, .slice am mag.length cm, .string text, .slice ai items.length ci, .slice ar rest.length cr])
  obtain ⟨g, hg⟩ : ∃ g, w.heap.size = g := ⟨_, rfl⟩
  rw [hg] at h1
  have a0 := h1.left.cell 0
  simp only [List.getElem?_toArray, List.getElem?_cons_zero] at a0
  obtain ⟨G, hG⟩ : ∃ G : HP, G = Go.Proofs.Ytkjfplldfjmbaaa.blk g (dmO [.int .i64 9, .int .i64 n, .bool neg, .slice am mag.length cm, .string text, .slice ai items.length ci, .slice ar rest.length cr]) * R := ⟨_, rfl⟩
  rw [← hG] at h1
  have hGc : ∀ w', sat w' G → w'.cell? ⟨g, 0, none⟩ = some (.int .i64 9) ∧ w'.cell? ⟨g, 1, none⟩ = some (.int .i64 n) ∧ w'.cell? ⟨g, 2, none⟩ = some (.bool neg) ∧ w'.cell? ⟨g, 3, none⟩ = some (.slice am mag.length cm) ∧ w'.cell? ⟨g, 4, none⟩ = some (.string text) ∧ w'.cell? ⟨g, 5, none⟩ = some (.slice ai items.length ci) ∧ w'.cell? ⟨g, 6, none⟩ = some (.slice ar rest.length cr) := fun w' h => by
    rw [hG] at h
    exact ⟨(h.left.cell 0).trans rfl, (h.left.cell 1).trans rfl, (h.left.cell 2).trans rfl, (h.left.cell 3).trans rfl, (h.left.cell 4).trans rfl, (h.left.cell 5).trans rfl, (h.left.cell 6).trans rfl⟩
  have hGR : ∀ w', sat w' G → sat w' R := fun w' h => by rw [hG] at h; exact h.right
  have hGd : ∀ (w' : World) (v : Value) (l : List Int), sat w' (own 5 1 v l.length (l.map bv) * G) → sat w' (own 5 1 v l.length (l.map bv) * R) := fun w' v l h => by
    rw [hG] at h
    exact (h.perm (show _ = Go.Proofs.Ytkjfplldfjmbaaa.blk g _ * (own _ _ _ _ _ * R) by ac_rfl)).right
  have hN := refp_num _ 9 rfl h1 (by decide) (by decide)
  have HX := Lib.hid (And.intro hb1 (And.intro hd (And.intro hGc (And.intro hGR (And.intro hGd hG)))))
  have HG := Lib.hid hg
  clear h1 hb1 hs hd hGc hGR hGd hG
  go_enter Try.func30, Try.ntmps30
  go_upto_region 1 with (fail)
  clear hg
  generalize w.alloc (dmO [.int .i64 9, .int .i64 n, .bool neg, .slice am mag.length cm, .string text, .slice ai items.length ci, .slice ar rest.length cr]) = w1 at *
  go_wp2_with fail
  refine hN.mono ?_
  clear hN a0
  rintro e w2 ⟨v2, rfl, h2, hb2⟩
  have hl2 := numB_ten (n := (9 : Int).toNat) (by decide)
  obtain ⟨ys, hys⟩ : ∃ ys, numB (9 : Int).toNat = ys := ⟨_, rfl⟩
  rw [hys] at h2 hl2
  obtain ⟨a0, a1, a2, a3, a4, a5, a6⟩ := HX.out.2.2.1 w2 h2.right
  have HH := Lib.hid (And.intro h2 (And.intro (HX.out.1.trans hb2) (And.intro hys hl2)))
  clear h2 hb2 hys hl2
  have hzl := zigB_len hn
  have hS := refp_signed HH.out.1 n hn
  go_wp2_with fail
  refine hS.mono ?_
  clear hS a0 a1 a2 a3 a4 a5 a6
  rintro e w3 ⟨v3, rfl, h3, hb3⟩
  have HQ := Lib.hid (And.intro h3 (And.intro hb3 hzl))
  clear h3 hb3 hzl
  go_wp2_with (at_builtin; refine halt ?_)
  refine goon ?_
  obtain ⟨hi, hz0, hz1, hz2⟩ := H1.out
  refine wpList_append_bytes rfl (.tmp 50) (.tmp 53) rfl i0 hi hz0 hz1 hz2 v2 v3 ys (zigB n) rfl G rfl ?_ HQ.out.1 (zigB_pos n) (by have := HH.out.2.2.2; have := HQ.out.2.2; omega)
  clear hi hz0 hz1 hz2
  intro v4 w4 hs4 hb4
  have HR := Lib.hid (And.intro hs4 hb4)
  clear hs4 hb4
  go_wp2_with fail
  go_ret
  refine ⟨_, rfl, ?_, (HH.out.2.1.trans HQ.out.2.1).trans HR.out.2⟩
  have e : constB (.mk 9 n neg mag text items rest) = ys ++ zigB n := by unfold constB; rw [← HH.out.2.2.1, if_neg (by decide), if_pos (by decide)]
  rw [e]
  exact HX.out.2.2.2.2.1 _ _ _ (HR.out.1)
set_option maxRecDepth 100000 in
set_option maxHeartbeats 4000000 in
theorem rdat_text (n : Int) (neg : Bool) (mag : List Int) (text : ByteArray) (items rest : List Dm) (hz : text.size ≤ 1048576) (w : World) (R : HP) (am : Option Addr) (cm : Nat) (ai : Option Addr) (ci : Nat) (ar : Option Addr) (cr : Nat)
    (hs : sat w R) (hd : DK R (.mk 4 n neg mag text items rest) [.int .i64 4, .int .i64 n, .bool neg, .slice am mag.length cm, .string text, .slice ai items.length ci, .slice ar rest.length cr]) :
    Calls Try.prog 30 #[.agg #[.int .i64 4, .int .i64 n, .bool neg, .slice am mag.length cm, .string text, .slice ai items.length ci, .slice ar rest.length cr]] w (BytesR R (constB (.mk 4 n neg mag text items rest)) w) := by
  obtain ⟨i0, hi, hz0, hz1, hz2⟩ := info_parts info_b8
  have H1 := Lib.hid (And.intro hi (And.intro hz0 (And.intro hz1 hz2)))
  clear hi hz0 hz1 hz2
  have h1 : sat (w.alloc (dmO [.int .i64 4, .int .i64 n, .bool neg, .slice am mag.length cm, .string text, .slice ai items.length ci, .slice ar rest.length cr])) (Go.Proofs.Ytkjfplldfjmbaaa.blk w.heap.size (dmO [.int .i64 4, .int .i64 n, .bool neg, .slice am mag.length cm, .string text, .slice ai items.length ci, .slice ar rest.length cr]) * R) := hs.alloc (dmO [.int .i64 4, .int .i64 n, .bool neg, .slice am mag.length cm, .string text, .slice ai items.length ci, .slice ar rest.length cr])
  have hb1 := Below.zero_alloc w (dmO [.int .i64 4, .int .i64 n, .bool neg, .slice am mag.length cm, .string text, .slice ai items.length ci, .slice ar rest.length cr])
  obtain ⟨g, hg⟩ : ∃ g, w.heap.size = g := ⟨_, rfl⟩
  rw [hg] at h1
  have a0 := h1.left.cell 0
  simp only [List.getElem?_toArray, List.getElem?_cons_zero] at a0
  obtain ⟨G, hG⟩ : ∃ G : HP, G = Go.Proofs.Ytkjfplldfjmbaaa.blk g (dmO [.int .i64 4, .int .i64 n, .bool neg, .slice am mag.length cm, .string text, .slice ai items.length ci, .slice ar rest.length cr]) * R := ⟨_, rfl⟩
  rw [← hG] at h1
  have hGc : ∀ w', sat w' G → w'.cell? ⟨g, 0, none⟩ = some (.int .i64 4) ∧ w'.cell? ⟨g, 1, none⟩ = some (.int .i64 n) ∧ w'.cell? ⟨g, 2, none⟩ = some (.bool neg) ∧ w'.cell? ⟨g, 3, none⟩ = some (.slice am mag.length cm) ∧ w'.cell? ⟨g, 4, none⟩ = some (.string text) ∧ w'.cell? ⟨g, 5, none⟩ = some (.slice ai items.length ci) ∧ w'.cell? ⟨g, 6, none⟩ = some (.slice ar rest.length cr) := fun w' h => by
    rw [hG] at h
    exact ⟨(h.left.cell 0).trans rfl, (h.left.cell 1).trans rfl, (h.left.cell 2).trans rfl, (h.left.cell 3).trans rfl, (h.left.cell 4).trans rfl, (h.left.cell 5).trans rfl, (h.left.cell 6).trans rfl⟩
  have hGR : ∀ w', sat w' G → sat w' R := fun w' h => by rw [hG] at h; exact h.right
  have hGd : ∀ (w' : World) (v : Value) (l : List Int), sat w' (own 5 1 v l.length (l.map bv) * G) → sat w' (own 5 1 v l.length (l.map bv) * R) := fun w' v l h => by
    rw [hG] at h
    exact (h.perm (show _ = Go.Proofs.Ytkjfplldfjmbaaa.blk g _ * (own _ _ _ _ _ * R) by ac_rfl)).right
  have hN := refp_num _ 4 rfl h1 (by decide) (by decide)
  have HX := Lib.hid (And.intro hb1 (And.intro hd (And.intro hGc (And.intro hGR (And.intro hGd hG)))))
  have HG := Lib.hid hg
  clear h1 hb1 hs hd hGc hGR hGd hG
  go_enter Try.func30, Try.ntmps30
  go_upto_region 1 with (fail)
  clear hg
  generalize w.alloc (dmO [.int .i64 4, .int .i64 n, .bool neg, .slice am mag.length cm, .string text, .slice ai items.length ci, .slice ar rest.length cr]) = w1 at *
  go_wp2_with fail
  refine hN.mono ?_
  clear hN a0
  rintro e w2 ⟨v2, rfl, h2, hb2⟩
  have hl2 := numB_ten (n := (4 : Int).toNat) (by decide)
  obtain ⟨ys, hys⟩ : ∃ ys, numB (4 : Int).toNat = ys := ⟨_, rfl⟩
  rw [hys] at h2 hl2
  obtain ⟨a0, a1, a2, a3, a4, a5, a6⟩ := HX.out.2.2.1 w2 h2.right
  have HH := Lib.hid (And.intro h2 (And.intro (HX.out.1.trans hb2) (And.intro hys hl2)))
  clear h2 hb2 hys hl2
  have hzl := textB_len text (by omega)
  have hS := refp_some HH.out.1 text (by omega)
  go_wp2_with fail
  refine hS.mono ?_
  clear hS a0 a1 a2 a3 a4 a5 a6
  rintro e w3 ⟨v3, rfl, h3, hb3⟩
  have HQ := Lib.hid (And.intro h3 (And.intro hb3 hzl))
  clear h3 hb3 hzl
  go_wp2_with (at_builtin; refine halt ?_)
  refine goon ?_
  obtain ⟨hi, hz0, hz1, hz2⟩ := H1.out
  refine wpList_append_bytes rfl (.tmp 57) (.tmp 60) rfl i0 hi hz0 hz1 hz2 v2 v3 ys (textB text) rfl G rfl ?_ HQ.out.1 (textB_pos text) (by have := HH.out.2.2.2; have := HQ.out.2.2; omega)
  clear hi hz0 hz1 hz2
  intro v4 w4 hs4 hb4
  have HR := Lib.hid (And.intro hs4 hb4)
  clear hs4 hb4
  go_wp2_with fail
  go_ret
  refine ⟨_, rfl, ?_, (HH.out.2.1.trans HQ.out.2.1).trans HR.out.2⟩
  have e : constB (.mk 4 n neg mag text items rest) = ys ++ textB text := by unfold constB; rw [← HH.out.2.2.1, if_neg (by decide), if_neg (by decide), if_pos rfl]
  rw [e]
  exact HX.out.2.2.2.2.1 _ _ _ (HR.out.1)
set_option maxRecDepth 100000 in
set_option maxHeartbeats 4000000 in
theorem rdat_void (n : Int) (neg : Bool) (mag : List Int) (text : ByteArray) (items rest : List Dm) (w : World) (R : HP) (am : Option Addr) (cm : Nat) (ai : Option Addr) (ci : Nat) (ar : Option Addr) (cr : Nat)
    (hs : sat w R) (hd : DK R (.mk 8 n neg mag text items rest) [.int .i64 8, .int .i64 n, .bool neg, .slice am mag.length cm, .string text, .slice ai items.length ci, .slice ar rest.length cr]) :
    Calls Try.prog 30 #[.agg #[.int .i64 8, .int .i64 n, .bool neg, .slice am mag.length cm, .string text, .slice ai items.length ci, .slice ar rest.length cr]] w (BytesR R (constB (.mk 8 n neg mag text items rest)) w) := by
  obtain ⟨i0, hi, hz0, hz1, hz2⟩ := info_parts info_b8
  have H1 := Lib.hid (And.intro hi (And.intro hz0 (And.intro hz1 hz2)))
  clear hi hz0 hz1 hz2
  have h1 : sat (w.alloc (dmO [.int .i64 8, .int .i64 n, .bool neg, .slice am mag.length cm, .string text, .slice ai items.length ci, .slice ar rest.length cr])) (Go.Proofs.Ytkjfplldfjmbaaa.blk w.heap.size (dmO [.int .i64 8, .int .i64 n, .bool neg, .slice am mag.length cm, .string text, .slice ai items.length ci, .slice ar rest.length cr]) * R) := hs.alloc (dmO [.int .i64 8, .int .i64 n, .bool neg, .slice am mag.length cm, .string text, .slice ai items.length ci, .slice ar rest.length cr])
  have hb1 := Below.zero_alloc w (dmO [.int .i64 8, .int .i64 n, .bool neg, .slice am mag.length cm, .string text, .slice ai items.length ci, .slice ar rest.length cr])
  obtain ⟨g, hg⟩ : ∃ g, w.heap.size = g := ⟨_, rfl⟩
  rw [hg] at h1
  have a0 := h1.left.cell 0
  simp only [List.getElem?_toArray, List.getElem?_cons_zero] at a0
  obtain ⟨G, hG⟩ : ∃ G : HP, G = Go.Proofs.Ytkjfplldfjmbaaa.blk g (dmO [.int .i64 8, .int .i64 n, .bool neg, .slice am mag.length cm, .string text, .slice ai items.length ci, .slice ar rest.length cr]) * R := ⟨_, rfl⟩
  rw [← hG] at h1
  have hGc : ∀ w', sat w' G → w'.cell? ⟨g, 0, none⟩ = some (.int .i64 8) ∧ w'.cell? ⟨g, 1, none⟩ = some (.int .i64 n) ∧ w'.cell? ⟨g, 2, none⟩ = some (.bool neg) ∧ w'.cell? ⟨g, 3, none⟩ = some (.slice am mag.length cm) ∧ w'.cell? ⟨g, 4, none⟩ = some (.string text) ∧ w'.cell? ⟨g, 5, none⟩ = some (.slice ai items.length ci) ∧ w'.cell? ⟨g, 6, none⟩ = some (.slice ar rest.length cr) := fun w' h => by
    rw [hG] at h
    exact ⟨(h.left.cell 0).trans rfl, (h.left.cell 1).trans rfl, (h.left.cell 2).trans rfl, (h.left.cell 3).trans rfl, (h.left.cell 4).trans rfl, (h.left.cell 5).trans rfl, (h.left.cell 6).trans rfl⟩
  have hGR : ∀ w', sat w' G → sat w' R := fun w' h => by rw [hG] at h; exact h.right
  have hGd : ∀ (w' : World) (v : Value) (l : List Int), sat w' (own 5 1 v l.length (l.map bv) * G) → sat w' (own 5 1 v l.length (l.map bv) * R) := fun w' v l h => by
    rw [hG] at h
    exact (h.perm (show _ = Go.Proofs.Ytkjfplldfjmbaaa.blk g _ * (own _ _ _ _ _ * R) by ac_rfl)).right
  have hN := refp_num _ 8 rfl h1 (by decide) (by decide)
  have HX := Lib.hid (And.intro hb1 (And.intro hd (And.intro hGc (And.intro hGR (And.intro hGd hG)))))
  have HG := Lib.hid hg
  clear h1 hb1 hs hd hGc hGR hGd hG
  go_enter Try.func30, Try.ntmps30
  go_upto_region 1 with (fail)
  clear hg
  generalize w.alloc (dmO [.int .i64 8, .int .i64 n, .bool neg, .slice am mag.length cm, .string text, .slice ai items.length ci, .slice ar rest.length cr]) = w1 at *
  go_wp2_with fail
  refine hN.mono ?_
  clear hN a0
  rintro e w2 ⟨v2, rfl, h2, hb2⟩
  have hl2 := numB_ten (n := (8 : Int).toNat) (by decide)
  obtain ⟨ys, hys⟩ : ∃ ys, numB (8 : Int).toNat = ys := ⟨_, rfl⟩
  rw [hys] at h2 hl2
  obtain ⟨a0, a1, a2, a3, a4, a5, a6⟩ := HX.out.2.2.1 w2 h2.right
  have HH := Lib.hid (And.intro h2 (And.intro (HX.out.1.trans hb2) (And.intro hys hl2)))
  clear h2 hb2 hys hl2
  go_wp2_with fail
  go_ret
  refine ⟨_, rfl, ?_, HH.out.2.1⟩
  have e : constB (.mk 8 n neg mag text items rest) = ys := by unfold constB; rw [← HH.out.2.2.1, if_neg (by decide), if_neg (by decide), if_neg (by decide), if_neg (by decide), if_neg (by decide), if_neg (by decide), List.append_nil]
  rw [e]
  exact HX.out.2.2.2.2.1 _ _ _ (HH.out.1)
set_option maxRecDepth 100000 in
set_option maxHeartbeats 4000000 in
theorem rdat_sym (n : Int) (neg : Bool) (mag : List Int) (text : ByteArray) (items rest : List Dm) (hz : text.size ≤ 1048576) (hn : -549755813888 ≤ n ∧ n ≤ 549755813888) (w : World) (R : HP) (am : Option Addr) (cm : Nat) (ai : Option Addr) (ci : Nat) (ar : Option Addr) (cr : Nat)
    (hs : sat w R) (hd : DK R (.mk 5 n neg mag text items rest) [.int .i64 5, .int .i64 n, .bool neg, .slice am mag.length cm, .string text, .slice ai items.length ci, .slice ar rest.length cr]) :
    Calls Try.prog 30 #[.agg #[.int .i64 5, .int .i64 n, .bool neg, .slice am mag.length cm, .string text, .slice ai items.length ci, .slice ar rest.length cr]] w (BytesR R (constB (.mk 5 n neg mag text items rest)) w) := by
  obtain ⟨i0, hi, hz0, hz1, hz2⟩ := info_parts info_b8
  have H1 := Lib.hid (And.intro hi (And.intro hz0 (And.intro hz1 hz2)))
  clear hi hz0 hz1 hz2
  have h1 : sat (w.alloc (dmO [.int .i64 5, .int .i64 n, .bool neg, .slice am mag.length cm, .string text, .slice ai items.length ci, .slice ar rest.length cr])) (Go.Proofs.Ytkjfplldfjmbaaa.blk w.heap.size (dmO [.int .i64 5, .int .i64 n, .bool neg, .slice am mag.length cm, .string text, .slice ai items.length ci, .slice ar rest.length cr]) * R) := hs.alloc (dmO [.int .i64 5, .int .i64 n, .bool neg, .slice am mag.length cm, .string text, .slice ai items.length ci, .slice ar rest.length cr])
  have hb1 := Below.zero_alloc w (dmO [.int .i64 5, .int .i64 n, .bool neg, .slice am mag.length cm, .string text, .slice ai items.length ci, .slice ar rest.length cr])
  obtain ⟨g, hg⟩ : ∃ g, w.heap.size = g := ⟨_, rfl⟩
  rw [hg] at h1
  have a0 := h1.left.cell 0
  simp only [List.getElem?_toArray, List.getElem?_cons_zero] at a0
  obtain ⟨G, hG⟩ : ∃ G : HP, G = Go.Proofs.Ytkjfplldfjmbaaa.blk g (dmO [.int .i64 5, .int .i64 n, .bool neg, .slice am mag.length cm, .string text, .slice ai items.length ci, .slice ar rest.length cr]) * R := ⟨_, rfl⟩
  rw [← hG] at h1
  have hGc : ∀ w', sat w' G → w'.cell? ⟨g, 0, none⟩ = some (.int .i64 5) ∧ w'.cell? ⟨g, 1, none⟩ = some (.int .i64 n) ∧ w'.cell? ⟨g, 2, none⟩ = some (.bool neg) ∧ w'.cell? ⟨g, 3, none⟩ = some (.slice am mag.length cm) ∧ w'.cell? ⟨g, 4, none⟩ = some (.string text) ∧ w'.cell? ⟨g, 5, none⟩ = some (.slice ai items.length ci) ∧ w'.cell? ⟨g, 6, none⟩ = some (.slice ar rest.length cr) := fun w' h => by
    rw [hG] at h
    exact ⟨(h.left.cell 0).trans rfl, (h.left.cell 1).trans rfl, (h.left.cell 2).trans rfl, (h.left.cell 3).trans rfl, (h.left.cell 4).trans rfl, (h.left.cell 5).trans rfl, (h.left.cell 6).trans rfl⟩
  have hGR : ∀ w', sat w' G → sat w' R := fun w' h => by rw [hG] at h; exact h.right
  have hGd : ∀ (w' : World) (v : Value) (l : List Int), sat w' (own 5 1 v l.length (l.map bv) * G) → sat w' (own 5 1 v l.length (l.map bv) * R) := fun w' v l h => by
    rw [hG] at h
    exact (h.perm (show _ = Go.Proofs.Ytkjfplldfjmbaaa.blk g _ * (own _ _ _ _ _ * R) by ac_rfl)).right
  have hN := refp_num _ 5 rfl h1 (by decide) (by decide)
  have HX := Lib.hid (And.intro hb1 (And.intro hd (And.intro hGc (And.intro hGR (And.intro hGd hG)))))
  have HG := Lib.hid hg
  clear h1 hb1 hs hd hGc hGR hGd hG
  go_enter Try.func30, Try.ntmps30
  go_upto_region 1 with (fail)
  clear hg
  generalize w.alloc (dmO [.int .i64 5, .int .i64 n, .bool neg, .slice am mag.length cm, .string text, .slice ai items.length ci, .slice ar rest.length cr]) = w1 at *
  go_wp2_with fail
  refine hN.mono ?_
  clear hN a0
  rintro e w2 ⟨v2, rfl, h2, hb2⟩
  have hl2 := numB_ten (n := (5 : Int).toNat) (by decide)
  obtain ⟨ys, hys⟩ : ∃ ys, numB (5 : Int).toNat = ys := ⟨_, rfl⟩
  rw [hys] at h2 hl2
  obtain ⟨a0, a1, a2, a3, a4, a5, a6⟩ := HX.out.2.2.1 w2 h2.right
  have HH := Lib.hid (And.intro h2 (And.intro (HX.out.1.trans hb2) (And.intro hys hl2)))
  clear h2 hb2 hys hl2
  have hzl := textB_len text (by omega)
  have hzz := zigB_len hn
  have hS := refp_some HH.out.1 text (by omega)
  go_wp2_with fail
  refine hS.mono ?_
  clear hS a0 a1 a2 a3 a4 a5 a6
  rintro e w3 ⟨v3, rfl, h3, hb3⟩
  have HQ := Lib.hid (And.intro h3 (And.intro hb3 (And.intro hzl hzz)))
  clear h3 hb3 hzl hzz
  go_wp2_with (at_builtin; refine halt ?_)
  refine goon ?_
  obtain ⟨hi, hz0, hz1, hz2⟩ := H1.out
  refine wpList_append_bytes rfl (.tmp 64) (.tmp 67) rfl i0 hi hz0 hz1 hz2 v2 v3 ys (textB text) rfl G rfl ?_ HQ.out.1 (textB_pos text) (by have := HH.out.2.2.2; have := HQ.out.2.2.1; omega)
  clear hi hz0 hz1 hz2
  intro v4 w4 hs4 hb4
  obtain ⟨a0, a1, a2, a3, a4, a5, a6⟩ := HX.out.2.2.1 w4 hs4.right
  obtain ⟨zs, hzs⟩ : ∃ zs, ys ++ textB text = zs := ⟨_, rfl⟩
  have lzs : zs.length ≤ text.size + 18 := by rw [← hzs, List.length_append]; have := HH.out.2.2.2; have := HQ.out.2.2.1; omega
  rw [hzs] at hs4
  have HR := Lib.hid (And.intro hs4 (And.intro hb4 (And.intro hzs lzs)))
  clear hs4 hb4 hzs lzs
  have hS := refp_signed HR.out.1 n hn
  go_wp2_with fail
  refine hS.mono ?_
  clear hS a0 a1 a2 a3 a4 a5 a6
  rintro e w5 ⟨v5, rfl, h5, hb5⟩
  have HT := Lib.hid (And.intro h5 hb5)
  clear h5 hb5
  go_wp2_with (at_builtin; refine halt ?_)
  refine goon ?_
  obtain ⟨hi, hz0, hz1, hz2⟩ := H1.out
  refine wpList_append_bytes rfl (.tmp 69) (.tmp 72) rfl i0 hi hz0 hz1 hz2 v4 v5 zs (zigB n) rfl G rfl ?_ HT.out.1 (zigB_pos n) (by have := HR.out.2.2.2; have := HQ.out.2.2.2; omega)
  clear hi hz0 hz1 hz2
  intro v6 w6 hs6 hb6
  have HU := Lib.hid (And.intro hs6 hb6)
  clear hs6 hb6
  go_wp2_with fail
  go_ret
  refine ⟨_, rfl, ?_, (((HH.out.2.1.trans HQ.out.2.1).trans HR.out.2.1).trans HT.out.2).trans HU.out.2⟩
  have e : constB (.mk 5 n neg mag text items rest) = zs ++ zigB n := by unfold constB; rw [← HR.out.2.2.1, ← HH.out.2.2.1, if_neg (by decide), if_neg (by decide), if_neg (by decide), if_pos rfl]; simp only [List.append_assoc]
  rw [e]
  exact HX.out.2.2.2.2.1 _ _ _ (HU.out.1)
end Go.Proofs.Ytkjfplldfjmbaaa
