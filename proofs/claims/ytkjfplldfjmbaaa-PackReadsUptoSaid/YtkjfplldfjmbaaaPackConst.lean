/- pack.constant. -/
import Derived.Test.YtkjfplldfjmbaaaPackData
namespace Go.Proofs.Ytkjfplldfjmbaaa
open Go.RowKit
/-- constant writes a datum's bytes behind those that are there. -/
def ConstAt (d : Dm) : Prop := ∀ (w : World) (R : HP) (v : Value) (xs : List Int) (cs : List Value), sat w (own 5 1 v xs.length (xs.map bv) * R) → DK R d cs → xs.length + 40 * d.size ≤ 17592186044416 →
  Calls Try.prog 23 #[v, .agg cs.toArray] w (BytesR R (xs ++ constB d) w)
theorem num_lit {w : World} {R : HP} {v : Value} {xs : List Int} (hs : sat w (own 5 1 v xs.length (xs.map bv) * R)) (x : Int) (hx : 0 ≤ x ∧ x < 9223372036854775808) (hl : xs.length ≤ 70368744177664) :
    Calls Try.prog 19 #[v, .int .i64 x] w (BytesR R (xs ++ numB x.toNat) w) := by
  have h := pack_number v xs hs x.toNat (by omega) hl
  rw [show ((x.toNat : Nat) : Int) = x by omega] at h
  exact h
theorem num_len {w : World} {R : HP} {v : Value} {xs : List Int} (hs : sat w (own 5 1 v xs.length (xs.map bv) * R)) (k : Nat) (hk : k ≤ 1048576) (hl : xs.length ≤ 70368744177664) :
    Calls Try.prog 19 #[v, .int .i64 k] w (BytesR R (xs ++ numB k) w) := pack_number v xs hs k (by omega) hl
theorem app_len (xs : List Int) (n : Nat) (h : n < 9223372036854775808) (hl : xs.length ≤ 17592186044416) : (xs ++ numB n).length ≤ 17592186044425 := by rw [List.length_append]; have := numB_ten h; omega
set_option maxRecDepth 100000 in
set_option maxHeartbeats 4000000 in
theorem const_sign2 (n : Int) (neg : Bool) (mag : List Int) (text : ByteArray) (items rest : List Dm) (hn : -549755813888 ≤ n ∧ n ≤ 549755813888) (w : World) (R : HP) (v : Value) (xs : List Int) (am : Option Addr) (cm : Nat) (ai : Option Addr) (ci : Nat) (ar : Option Addr) (cr : Nat)
    (hs : sat w (own 5 1 v xs.length (xs.map bv) * R)) (hd : DK R (.mk 2 n neg mag text items rest) [.int .i64 2, .int .i64 n, .bool neg, .slice am mag.length cm, .string text, .slice ai items.length ci, .slice ar rest.length cr]) (hl : xs.length ≤ 17592186044416) :
    Calls Try.prog 23 #[v, .agg #[.int .i64 2, .int .i64 n, .bool neg, .slice am mag.length cm, .string text, .slice ai items.length ci, .slice ar rest.length cr]] w (BytesR R (xs ++ constB (.mk 2 n neg mag text items rest)) w) := by
  have h1 : sat (w.alloc (dmO [.int .i64 2, .int .i64 n, .bool neg, .slice am mag.length cm, .string text, .slice ai items.length ci, .slice ar rest.length cr])) (own 5 1 v xs.length (xs.map bv) * (Go.Proofs.Ytkjfplldfjmbaaa.blk w.heap.size (dmO [.int .i64 2, .int .i64 n, .bool neg, .slice am mag.length cm, .string text, .slice ai items.length ci, .slice ar rest.length cr]) * R)) := (hs.alloc (dmO [.int .i64 2, .int .i64 n, .bool neg, .slice am mag.length cm, .string text, .slice ai items.length ci, .slice ar rest.length cr])).perm (by ac_rfl)
  have hb1 := Below.zero_alloc w (dmO [.int .i64 2, .int .i64 n, .bool neg, .slice am mag.length cm, .string text, .slice ai items.length ci, .slice ar rest.length cr])
  obtain ⟨g, hg⟩ : ∃ g, w.heap.size = g := ⟨_, rfl⟩
  rw [hg] at h1
  have a0 := h1.right.left.cell 0
  simp only [List.getElem?_toArray, List.getElem?_cons_zero] at a0
  have hN := num_lit h1 2 (by decide) (by omega)
  have HX := Lib.hid (And.intro hb1 (And.intro hl hd))
  have HG := Lib.hid hg
  clear h1 hb1 hs hl hd
  go_enter Try.func23, Try.ntmps23
  go_upto_region 1 with (fail)
  clear hg
  generalize w.alloc (dmO [.int .i64 2, .int .i64 n, .bool neg, .slice am mag.length cm, .string text, .slice ai items.length ci, .slice ar rest.length cr]) = w1 at *
  go_wp2_with fail
  refine hN.mono ?_
  clear hN a0
  rintro e w2 ⟨v2, rfl, h2, hb2⟩
  have hl2 := app_len xs (2 : Int).toNat (by decide) HX.out.2.1
  obtain ⟨ys, hys⟩ : ∃ ys, xs ++ numB (2 : Int).toNat = ys := ⟨_, rfl⟩
  rw [hys] at h2 hl2
  have a0 := h2.right.left.cell 0
  have a1 := h2.right.left.cell 1
  have a2 := h2.right.left.cell 2
  have a3 := h2.right.left.cell 3
  have a4 := h2.right.left.cell 4
  have a5 := h2.right.left.cell 5
  have a6 := h2.right.left.cell 6
  simp only [List.getElem?_toArray, List.getElem?_cons_zero, List.getElem?_cons_succ] at a0 a1 a2 a3 a4 a5 a6
  have hbb := HX.out.1.trans hb2
  have HH := Lib.hid (And.intro h2 (And.intro hbb (And.intro hys hl2)))
  clear h2 hbb hys hb2
  have hS := pack_sign v2 ys HH.out.1 n hn (by omega)
  go_wp2_with fail
  refine hS.mono ?_
  clear hS a0 a1 a2 a3 a4 a5 a6
  rintro e w3 ⟨v3, rfl, h3, hb3⟩
  have HQ := Lib.hid (And.intro h3 hb3)
  clear h3 hb3
  go_wp2_with fail
  go_ret
  refine ⟨v3, rfl, ?_, HH.out.2.1.trans HQ.out.2⟩
  have e : xs ++ constB (.mk 2 n neg mag text items rest) = ys ++ zigB n := by unfold constB; rw [← HH.out.2.2.1, if_neg (by decide), if_pos (by decide), List.append_assoc]
  rw [e]
  exact (HQ.out.1.perm (show _ = Go.Proofs.Ytkjfplldfjmbaaa.blk g _ * (own _ _ _ _ _ * R) by ac_rfl)).right
set_option maxRecDepth 100000 in
set_option maxHeartbeats 4000000 in
theorem const_sign3 (n : Int) (neg : Bool) (mag : List Int) (text : ByteArray) (items rest : List Dm) (hn : -549755813888 ≤ n ∧ n ≤ 549755813888) (w : World) (R : HP) (v : Value) (xs : List Int) (am : Option Addr) (cm : Nat) (ai : Option Addr) (ci : Nat) (ar : Option Addr) (cr : Nat)
    (hs : sat w (own 5 1 v xs.length (xs.map bv) * R)) (hd : DK R (.mk 3 n neg mag text items rest) [.int .i64 3, .int .i64 n, .bool neg, .slice am mag.length cm, .string text, .slice ai items.length ci, .slice ar rest.length cr]) (hl : xs.length ≤ 17592186044416) :
    Calls Try.prog 23 #[v, .agg #[.int .i64 3, .int .i64 n, .bool neg, .slice am mag.length cm, .string text, .slice ai items.length ci, .slice ar rest.length cr]] w (BytesR R (xs ++ constB (.mk 3 n neg mag text items rest)) w) := by
  have h1 : sat (w.alloc (dmO [.int .i64 3, .int .i64 n, .bool neg, .slice am mag.length cm, .string text, .slice ai items.length ci, .slice ar rest.length cr])) (own 5 1 v xs.length (xs.map bv) * (Go.Proofs.Ytkjfplldfjmbaaa.blk w.heap.size (dmO [.int .i64 3, .int .i64 n, .bool neg, .slice am mag.length cm, .string text, .slice ai items.length ci, .slice ar rest.length cr]) * R)) := (hs.alloc (dmO [.int .i64 3, .int .i64 n, .bool neg, .slice am mag.length cm, .string text, .slice ai items.length ci, .slice ar rest.length cr])).perm (by ac_rfl)
  have hb1 := Below.zero_alloc w (dmO [.int .i64 3, .int .i64 n, .bool neg, .slice am mag.length cm, .string text, .slice ai items.length ci, .slice ar rest.length cr])
  obtain ⟨g, hg⟩ : ∃ g, w.heap.size = g := ⟨_, rfl⟩
  rw [hg] at h1
  have a0 := h1.right.left.cell 0
  simp only [List.getElem?_toArray, List.getElem?_cons_zero] at a0
  have hN := num_lit h1 3 (by decide) (by omega)
  have HX := Lib.hid (And.intro hb1 (And.intro hl hd))
  have HG := Lib.hid hg
  clear h1 hb1 hs hl hd
  go_enter Try.func23, Try.ntmps23
  go_upto_region 1 with (fail)
  clear hg
  generalize w.alloc (dmO [.int .i64 3, .int .i64 n, .bool neg, .slice am mag.length cm, .string text, .slice ai items.length ci, .slice ar rest.length cr]) = w1 at *
  go_wp2_with fail
  refine hN.mono ?_
  clear hN a0
  rintro e w2 ⟨v2, rfl, h2, hb2⟩
  have hl2 := app_len xs (3 : Int).toNat (by decide) HX.out.2.1
  obtain ⟨ys, hys⟩ : ∃ ys, xs ++ numB (3 : Int).toNat = ys := ⟨_, rfl⟩
  rw [hys] at h2 hl2
  have a0 := h2.right.left.cell 0
  have a1 := h2.right.left.cell 1
  have a2 := h2.right.left.cell 2
  have a3 := h2.right.left.cell 3
  have a4 := h2.right.left.cell 4
  have a5 := h2.right.left.cell 5
  have a6 := h2.right.left.cell 6
  simp only [List.getElem?_toArray, List.getElem?_cons_zero, List.getElem?_cons_succ] at a0 a1 a2 a3 a4 a5 a6
  have hbb := HX.out.1.trans hb2
  have HH := Lib.hid (And.intro h2 (And.intro hbb (And.intro hys hl2)))
  clear h2 hbb hys hb2
  have hS := pack_sign v2 ys HH.out.1 n hn (by omega)
  go_wp2_with fail
  refine hS.mono ?_
  clear hS a0 a1 a2 a3 a4 a5 a6
  rintro e w3 ⟨v3, rfl, h3, hb3⟩
  have HQ := Lib.hid (And.intro h3 hb3)
  clear h3 hb3
  go_wp2_with fail
  go_ret
  refine ⟨v3, rfl, ?_, HH.out.2.1.trans HQ.out.2⟩
  have e : xs ++ constB (.mk 3 n neg mag text items rest) = ys ++ zigB n := by unfold constB; rw [← HH.out.2.2.1, if_neg (by decide), if_pos (by decide), List.append_assoc]
  rw [e]
  exact (HQ.out.1.perm (show _ = Go.Proofs.Ytkjfplldfjmbaaa.blk g _ * (own _ _ _ _ _ * R) by ac_rfl)).right
set_option maxRecDepth 100000 in
set_option maxHeartbeats 4000000 in
theorem const_sign9 (n : Int) (neg : Bool) (mag : List Int) (text : ByteArray) (items rest : List Dm) (hn : -549755813888 ≤ n ∧ n ≤ 549755813888) (w : World) (R : HP) (v : Value) (xs : List Int) (am : Option Addr) (cm : Nat) (ai : Option Addr) (ci : Nat) (ar : Option Addr) (cr : Nat)
    (hs : sat w (own 5 1 v xs.length (xs.map bv) * R)) (hd : DK R (.mk 9 n neg mag text items rest) [.int .i64 9, .int .i64 n, .bool neg, .slice am mag.length cm, .string text, .slice ai items.length ci, .slice ar rest.length cr]) (hl : xs.length ≤ 17592186044416) :
    Calls Try.prog 23 #[v, .agg #[.int .i64 9, .int .i64 n, .bool neg, .slice am mag.length cm, .string text, .slice ai items.length ci, .slice ar rest.length cr]] w (BytesR R (xs ++ constB (.mk 9 n neg mag text items rest)) w) := by
  have h1 : sat (w.alloc (dmO [.int .i64 9, .int .i64 n, .bool neg, .slice am mag.length cm, .string text, .slice ai items.length ci, .slice ar rest.length cr])) (own 5 1 v xs.length (xs.map bv) * (Go.Proofs.Ytkjfplldfjmbaaa.blk w.heap.size (dmO [.int .i64 9, .int .i64 n, .bool neg, .slice am mag.length cm, .string text, .slice ai items.length ci, .slice ar rest.length cr]) * R)) := (hs.alloc (dmO [.int .i64 9, .int .i64 n, .bool neg, .slice am mag.length cm, .string text, .slice ai items.length ci, .slice ar rest.length cr])).perm (by ac_rfl)
  have hb1 := Below.zero_alloc w (dmO [.int .i64 9, .int .i64 n, .bool neg, .slice am mag.length cm, .string text, .slice ai items.length ci, .slice ar rest.length cr])
  obtain ⟨g, hg⟩ : ∃ g, w.heap.size = g := ⟨_, rfl⟩
  rw [hg] at h1
  have a0 := h1.right.left.cell 0
  simp only [List.getElem?_toArray, List.getElem?_cons_zero] at a0
  have hN := num_lit h1 9 (by decide) (by omega)
  have HX := Lib.hid (And.intro hb1 (And.intro hl hd))
  have HG := Lib.hid hg
  clear h1 hb1 hs hl hd
  go_enter Try.func23, Try.ntmps23
  go_upto_region 1 with (fail)
  clear hg
  generalize w.alloc (dmO [.int .i64 9, .int .i64 n, .bool neg, .slice am mag.length cm, .string text, .slice ai items.length ci, .slice ar rest.length cr]) = w1 at *
  go_wp2_with fail
  refine hN.mono ?_
  clear hN a0
  rintro e w2 ⟨v2, rfl, h2, hb2⟩
  have hl2 := app_len xs (9 : Int).toNat (by decide) HX.out.2.1
  obtain ⟨ys, hys⟩ : ∃ ys, xs ++ numB (9 : Int).toNat = ys := ⟨_, rfl⟩
  rw [hys] at h2 hl2
  have a0 := h2.right.left.cell 0
  have a1 := h2.right.left.cell 1
  have a2 := h2.right.left.cell 2
  have a3 := h2.right.left.cell 3
  have a4 := h2.right.left.cell 4
  have a5 := h2.right.left.cell 5
  have a6 := h2.right.left.cell 6
  simp only [List.getElem?_toArray, List.getElem?_cons_zero, List.getElem?_cons_succ] at a0 a1 a2 a3 a4 a5 a6
  have hbb := HX.out.1.trans hb2
  have HH := Lib.hid (And.intro h2 (And.intro hbb (And.intro hys hl2)))
  clear h2 hbb hys hb2
  have hS := pack_sign v2 ys HH.out.1 n hn (by omega)
  go_wp2_with fail
  refine hS.mono ?_
  clear hS a0 a1 a2 a3 a4 a5 a6
  rintro e w3 ⟨v3, rfl, h3, hb3⟩
  have HQ := Lib.hid (And.intro h3 hb3)
  clear h3 hb3
  go_wp2_with fail
  go_ret
  refine ⟨v3, rfl, ?_, HH.out.2.1.trans HQ.out.2⟩
  have e : xs ++ constB (.mk 9 n neg mag text items rest) = ys ++ zigB n := by unfold constB; rw [← HH.out.2.2.1, if_neg (by decide), if_pos (by decide), List.append_assoc]
  rw [e]
  exact (HQ.out.1.perm (show _ = Go.Proofs.Ytkjfplldfjmbaaa.blk g _ * (own _ _ _ _ _ * R) by ac_rfl)).right
set_option maxRecDepth 100000 in
set_option maxHeartbeats 4000000 in
theorem const_text (n : Int) (neg : Bool) (mag : List Int) (text : ByteArray) (items rest : List Dm) (hz : text.size ≤ 1048576) (w : World) (R : HP) (v : Value) (xs : List Int) (am : Option Addr) (cm : Nat) (ai : Option Addr) (ci : Nat) (ar : Option Addr) (cr : Nat)
    (hs : sat w (own 5 1 v xs.length (xs.map bv) * R)) (hd : DK R (.mk 4 n neg mag text items rest) [.int .i64 4, .int .i64 n, .bool neg, .slice am mag.length cm, .string text, .slice ai items.length ci, .slice ar rest.length cr]) (hl : xs.length ≤ 17592186044416) :
    Calls Try.prog 23 #[v, .agg #[.int .i64 4, .int .i64 n, .bool neg, .slice am mag.length cm, .string text, .slice ai items.length ci, .slice ar rest.length cr]] w (BytesR R (xs ++ constB (.mk 4 n neg mag text items rest)) w) := by
  have h1 : sat (w.alloc (dmO [.int .i64 4, .int .i64 n, .bool neg, .slice am mag.length cm, .string text, .slice ai items.length ci, .slice ar rest.length cr])) (own 5 1 v xs.length (xs.map bv) * (Go.Proofs.Ytkjfplldfjmbaaa.blk w.heap.size (dmO [.int .i64 4, .int .i64 n, .bool neg, .slice am mag.length cm, .string text, .slice ai items.length ci, .slice ar rest.length cr]) * R)) := (hs.alloc (dmO [.int .i64 4, .int .i64 n, .bool neg, .slice am mag.length cm, .string text, .slice ai items.length ci, .slice ar rest.length cr])).perm (by ac_rfl)
  have hb1 := Below.zero_alloc w (dmO [.int .i64 4, .int .i64 n, .bool neg, .slice am mag.length cm, .string text, .slice ai items.length ci, .slice ar rest.length cr])
  obtain ⟨g, hg⟩ : ∃ g, w.heap.size = g := ⟨_, rfl⟩
  rw [hg] at h1
  have a0 := h1.right.left.cell 0
  simp only [List.getElem?_toArray, List.getElem?_cons_zero] at a0
  have hN := num_lit h1 4 (by decide) (by omega)
  have HX := Lib.hid (And.intro hb1 (And.intro hl hd))
  have HG := Lib.hid hg
  clear h1 hb1 hs hl hd
  go_enter Try.func23, Try.ntmps23
  go_upto_region 1 with (fail)
  clear hg
  generalize w.alloc (dmO [.int .i64 4, .int .i64 n, .bool neg, .slice am mag.length cm, .string text, .slice ai items.length ci, .slice ar rest.length cr]) = w1 at *
  go_wp2_with fail
  refine hN.mono ?_
  clear hN a0
  rintro e w2 ⟨v2, rfl, h2, hb2⟩
  have hl2 := app_len xs (4 : Int).toNat (by decide) HX.out.2.1
  obtain ⟨ys, hys⟩ : ∃ ys, xs ++ numB (4 : Int).toNat = ys := ⟨_, rfl⟩
  rw [hys] at h2 hl2
  have a0 := h2.right.left.cell 0
  have a1 := h2.right.left.cell 1
  have a2 := h2.right.left.cell 2
  have a3 := h2.right.left.cell 3
  have a4 := h2.right.left.cell 4
  have a5 := h2.right.left.cell 5
  have a6 := h2.right.left.cell 6
  simp only [List.getElem?_toArray, List.getElem?_cons_zero, List.getElem?_cons_succ] at a0 a1 a2 a3 a4 a5 a6
  have hbb := HX.out.1.trans hb2
  have HH := Lib.hid (And.intro h2 (And.intro hbb (And.intro hys hl2)))
  clear h2 hbb hys hb2
  have hS := pack_text v2 ys HH.out.1 text (by omega) (by omega)
  go_wp2_with fail
  refine hS.mono ?_
  clear hS a0 a1 a2 a3 a4 a5 a6
  rintro e w3 ⟨v3, rfl, h3, hb3⟩
  have HQ := Lib.hid (And.intro h3 hb3)
  clear h3 hb3
  go_wp2_with fail
  go_ret
  refine ⟨v3, rfl, ?_, HH.out.2.1.trans HQ.out.2⟩
  have e : xs ++ constB (.mk 4 n neg mag text items rest) = ys ++ textB text := by unfold constB; rw [← HH.out.2.2.1, if_neg (by decide), if_neg (by decide), if_pos rfl, List.append_assoc]
  rw [e]
  exact (HQ.out.1.perm (show _ = Go.Proofs.Ytkjfplldfjmbaaa.blk g _ * (own _ _ _ _ _ * R) by ac_rfl)).right
set_option maxRecDepth 100000 in
set_option maxHeartbeats 4000000 in
theorem const_void (n : Int) (neg : Bool) (mag : List Int) (text : ByteArray) (items rest : List Dm) (w : World) (R : HP) (v : Value) (xs : List Int) (am : Option Addr) (cm : Nat) (ai : Option Addr) (ci : Nat) (ar : Option Addr) (cr : Nat)
    (hs : sat w (own 5 1 v xs.length (xs.map bv) * R)) (hd : DK R (.mk 8 n neg mag text items rest) [.int .i64 8, .int .i64 n, .bool neg, .slice am mag.length cm, .string text, .slice ai items.length ci, .slice ar rest.length cr]) (hl : xs.length ≤ 17592186044416) :
    Calls Try.prog 23 #[v, .agg #[.int .i64 8, .int .i64 n, .bool neg, .slice am mag.length cm, .string text, .slice ai items.length ci, .slice ar rest.length cr]] w (BytesR R (xs ++ constB (.mk 8 n neg mag text items rest)) w) := by
  have h1 : sat (w.alloc (dmO [.int .i64 8, .int .i64 n, .bool neg, .slice am mag.length cm, .string text, .slice ai items.length ci, .slice ar rest.length cr])) (own 5 1 v xs.length (xs.map bv) * (Go.Proofs.Ytkjfplldfjmbaaa.blk w.heap.size (dmO [.int .i64 8, .int .i64 n, .bool neg, .slice am mag.length cm, .string text, .slice ai items.length ci, .slice ar rest.length cr]) * R)) := (hs.alloc (dmO [.int .i64 8, .int .i64 n, .bool neg, .slice am mag.length cm, .string text, .slice ai items.length ci, .slice ar rest.length cr])).perm (by ac_rfl)
  have hb1 := Below.zero_alloc w (dmO [.int .i64 8, .int .i64 n, .bool neg, .slice am mag.length cm, .string text, .slice ai items.length ci, .slice ar rest.length cr])
  obtain ⟨g, hg⟩ : ∃ g, w.heap.size = g := ⟨_, rfl⟩
  rw [hg] at h1
  have a0 := h1.right.left.cell 0
  simp only [List.getElem?_toArray, List.getElem?_cons_zero] at a0
  have hN := num_lit h1 8 (by decide) (by omega)
  have HX := Lib.hid (And.intro hb1 (And.intro hl hd))
  have HG := Lib.hid hg
  clear h1 hb1 hs hl hd
  go_enter Try.func23, Try.ntmps23
  go_upto_region 1 with (fail)
  clear hg
  generalize w.alloc (dmO [.int .i64 8, .int .i64 n, .bool neg, .slice am mag.length cm, .string text, .slice ai items.length ci, .slice ar rest.length cr]) = w1 at *
  go_wp2_with fail
  refine hN.mono ?_
  clear hN a0
  rintro e w2 ⟨v2, rfl, h2, hb2⟩
  have hl2 := app_len xs (8 : Int).toNat (by decide) HX.out.2.1
  obtain ⟨ys, hys⟩ : ∃ ys, xs ++ numB (8 : Int).toNat = ys := ⟨_, rfl⟩
  rw [hys] at h2 hl2
  have a0 := h2.right.left.cell 0
  have a1 := h2.right.left.cell 1
  have a2 := h2.right.left.cell 2
  have a3 := h2.right.left.cell 3
  have a4 := h2.right.left.cell 4
  have a5 := h2.right.left.cell 5
  have a6 := h2.right.left.cell 6
  simp only [List.getElem?_toArray, List.getElem?_cons_zero, List.getElem?_cons_succ] at a0 a1 a2 a3 a4 a5 a6
  have hbb := HX.out.1.trans hb2
  have HH := Lib.hid (And.intro h2 (And.intro hbb (And.intro hys hl2)))
  clear h2 hbb hys hb2
  go_wp2_with fail
  go_ret
  refine ⟨v2, rfl, ?_, HH.out.2.1⟩
  have e : xs ++ constB (.mk 8 n neg mag text items rest) = ys := by unfold constB; rw [← HH.out.2.2.1, if_neg (by decide), if_neg (by decide), if_neg (by decide), if_neg (by decide), if_neg (by decide), if_neg (by decide), List.append_nil]
  rw [e]
  exact (HH.out.1.perm (show _ = Go.Proofs.Ytkjfplldfjmbaaa.blk g _ * (own _ _ _ _ _ * R) by ac_rfl)).right
set_option maxRecDepth 100000 in
set_option maxHeartbeats 4000000 in
theorem const_sym (n : Int) (neg : Bool) (mag : List Int) (text : ByteArray) (items rest : List Dm) (hz : text.size ≤ 1048576) (hn : -549755813888 ≤ n ∧ n ≤ 549755813888) (w : World) (R : HP) (v : Value) (xs : List Int) (am : Option Addr) (cm : Nat) (ai : Option Addr) (ci : Nat) (ar : Option Addr) (cr : Nat)
    (hs : sat w (own 5 1 v xs.length (xs.map bv) * R)) (hd : DK R (.mk 5 n neg mag text items rest) [.int .i64 5, .int .i64 n, .bool neg, .slice am mag.length cm, .string text, .slice ai items.length ci, .slice ar rest.length cr]) (hl : xs.length ≤ 17592186044416) :
    Calls Try.prog 23 #[v, .agg #[.int .i64 5, .int .i64 n, .bool neg, .slice am mag.length cm, .string text, .slice ai items.length ci, .slice ar rest.length cr]] w (BytesR R (xs ++ constB (.mk 5 n neg mag text items rest)) w) := by
  have h1 : sat (w.alloc (dmO [.int .i64 5, .int .i64 n, .bool neg, .slice am mag.length cm, .string text, .slice ai items.length ci, .slice ar rest.length cr])) (own 5 1 v xs.length (xs.map bv) * (Go.Proofs.Ytkjfplldfjmbaaa.blk w.heap.size (dmO [.int .i64 5, .int .i64 n, .bool neg, .slice am mag.length cm, .string text, .slice ai items.length ci, .slice ar rest.length cr]) * R)) := (hs.alloc (dmO [.int .i64 5, .int .i64 n, .bool neg, .slice am mag.length cm, .string text, .slice ai items.length ci, .slice ar rest.length cr])).perm (by ac_rfl)
  have hb1 := Below.zero_alloc w (dmO [.int .i64 5, .int .i64 n, .bool neg, .slice am mag.length cm, .string text, .slice ai items.length ci, .slice ar rest.length cr])
  obtain ⟨g, hg⟩ : ∃ g, w.heap.size = g := ⟨_, rfl⟩
  rw [hg] at h1
  have a0 := h1.right.left.cell 0
  simp only [List.getElem?_toArray, List.getElem?_cons_zero] at a0
  have hN := num_lit h1 5 (by decide) (by omega)
  have HX := Lib.hid (And.intro hb1 (And.intro hl hd))
  have HG := Lib.hid hg
  clear h1 hb1 hs hl hd
  go_enter Try.func23, Try.ntmps23
  go_upto_region 1 with (fail)
  clear hg
  generalize w.alloc (dmO [.int .i64 5, .int .i64 n, .bool neg, .slice am mag.length cm, .string text, .slice ai items.length ci, .slice ar rest.length cr]) = w1 at *
  go_wp2_with fail
  refine hN.mono ?_
  clear hN a0
  rintro e w2 ⟨v2, rfl, h2, hb2⟩
  have hl2 := app_len xs (5 : Int).toNat (by decide) HX.out.2.1
  obtain ⟨ys, hys⟩ : ∃ ys, xs ++ numB (5 : Int).toNat = ys := ⟨_, rfl⟩
  rw [hys] at h2 hl2
  have a0 := h2.right.left.cell 0
  have a1 := h2.right.left.cell 1
  have a2 := h2.right.left.cell 2
  have a3 := h2.right.left.cell 3
  have a4 := h2.right.left.cell 4
  have a5 := h2.right.left.cell 5
  have a6 := h2.right.left.cell 6
  simp only [List.getElem?_toArray, List.getElem?_cons_zero, List.getElem?_cons_succ] at a0 a1 a2 a3 a4 a5 a6
  have hbb := HX.out.1.trans hb2
  have HH := Lib.hid (And.intro h2 (And.intro hbb (And.intro hys hl2)))
  clear h2 hbb hys hb2
  have hT := fun m => pack_text v2 ys (HH.out.1.drewN m) text (by omega) (by omega)
  have hlt := textB_len text (by omega)
  have HT := Lib.hid (And.intro hT hlt)
  clear hT hlt
  go_wp2_with fail
  go_region_held3 (fun w' => w'.cell? ⟨g, 1, none⟩ = some (.int .i64 n) ∧ w'.cell? ⟨g, 4, none⟩ = some (.string text)) (first | exact k9 | exact k8 | go_keep)
    (first
      | (go_at_call 22; refine (pack_sign v3 (ys ++ textB text) h3 n hn (by rw [List.length_append]; have := HT.out.2; have := HH.out.2.2.2; omega)).mono ?_; rintro e w4 ⟨v4, rfl, h4, hb4⟩; have k8 := And.intro ((h4.right.left.cell 1).trans (show _ = some (Value.int .i64 n) from rfl)) ((h4.right.left.cell 4).trans (show _ = some (Value.string text) from rfl)))
      | (go_at_call 21; refine (HT.out.1 1).mono ?_; rintro e w3 ⟨v3, rfl, h3, hb3⟩; have k9 := And.intro ((h3.right.left.cell 1).trans (show _ = some (Value.int .i64 n) from rfl)) ((h3.right.left.cell 4).trans (show _ = some (Value.string text) from rfl))))
  have HQ := Lib.hid (And.intro h4 (((HH.out.2.1.trans (drewN_below0 w2 1)).trans hb3).trans hb4))
  clear k9 k8 h3 h4 hb3 hb4 a0 a1 a2 a3 a4 a5 a6
  go_wp2_with fail
  go_ret
  refine ⟨v4, rfl, ?_, HQ.out.2⟩
  have e : xs ++ constB (.mk 5 n neg mag text items rest) = ys ++ textB text ++ zigB n := by unfold constB; rw [← HH.out.2.2.1, if_neg (by decide), if_neg (by decide), if_neg (by decide), if_pos rfl]; simp only [List.append_assoc]
  rw [e]
  exact (HQ.out.1.perm (show _ = Go.Proofs.Ytkjfplldfjmbaaa.blk g _ * (own _ _ _ _ _ * R) by ac_rfl)).right
def LmRel (W : World) (G : HP) (mag : List Int) (zs : List Int) (v i : Value) (wr : World) : Prop :=
  ∃ j : Nat, j ≤ mag.length ∧ i = .int .i64 j ∧ sat wr (own 5 1 v (zs ++ limbsB (mag.take j)).length ((zs ++ limbsB (mag.take j)).map bv) * G) ∧ Below 0 W wr
set_option maxRecDepth 100000 in
set_option maxHeartbeats 4000000 in
theorem const_int (n : Int) (neg : Bool) (mag : List Int) (text : ByteArray) (items rest : List Dm) (hz : mag.length ≤ 1048576) (w : World) (R : HP) (v : Value) (xs : List Int) (am : Option Addr) (cm : Nat) (ai : Option Addr) (ci : Nat) (ar : Option Addr) (cr : Nat)
    (hs : sat w (own 5 1 v xs.length (xs.map bv) * R)) (hd : DK R (.mk 1 n neg mag text items rest) [.int .i64 1, .int .i64 n, .bool neg, .slice am mag.length cm, .string text, .slice ai items.length ci, .slice ar rest.length cr]) (hl : xs.length ≤ 17592186044416) :
    Calls Try.prog 23 #[v, .agg #[.int .i64 1, .int .i64 n, .bool neg, .slice am mag.length cm, .string text, .slice ai items.length ci, .slice ar rest.length cr]] w (BytesR R (xs ++ constB (.mk 1 n neg mag text items rest)) w) := by
  have h1 : sat (w.alloc (dmO [.int .i64 1, .int .i64 n, .bool neg, .slice am mag.length cm, .string text, .slice ai items.length ci, .slice ar rest.length cr])) (own 5 1 v xs.length (xs.map bv) * (Go.Proofs.Ytkjfplldfjmbaaa.blk w.heap.size (dmO [.int .i64 1, .int .i64 n, .bool neg, .slice am mag.length cm, .string text, .slice ai items.length ci, .slice ar rest.length cr]) * R)) := (hs.alloc (dmO [.int .i64 1, .int .i64 n, .bool neg, .slice am mag.length cm, .string text, .slice ai items.length ci, .slice ar rest.length cr])).perm (by ac_rfl)
  have hb1 := Below.zero_alloc w (dmO [.int .i64 1, .int .i64 n, .bool neg, .slice am mag.length cm, .string text, .slice ai items.length ci, .slice ar rest.length cr])
  obtain ⟨g, hg⟩ : ∃ g, w.heap.size = g := ⟨_, rfl⟩
  rw [hg] at h1
  have a0 := h1.right.left.cell 0
  simp only [List.getElem?_toArray, List.getElem?_cons_zero] at a0
  have hN := num_lit h1 1 (by decide) (by omega)
  have HX := Lib.hid (And.intro hb1 (And.intro hl hd))
  have HG := Lib.hid hg
  clear h1 hb1 hs hl hd
  go_enter Try.func23, Try.ntmps23
  go_upto_region 1 with (fail)
  clear hg
  generalize w.alloc (dmO [.int .i64 1, .int .i64 n, .bool neg, .slice am mag.length cm, .string text, .slice ai items.length ci, .slice ar rest.length cr]) = w1 at *
  go_wp2_with fail
  refine hN.mono ?_
  clear hN a0
  rintro e w2 ⟨v2, rfl, h2, hb2⟩
  have hl2 := app_len xs (1 : Int).toNat (by decide) HX.out.2.1
  obtain ⟨ys, hys⟩ : ∃ ys, xs ++ numB (1 : Int).toNat = ys := ⟨_, rfl⟩
  rw [hys] at h2 hl2
  have a0 := h2.right.left.cell 0
  have a1 := h2.right.left.cell 1
  have a2 := h2.right.left.cell 2
  have a3 := h2.right.left.cell 3
  have a4 := h2.right.left.cell 4
  have a5 := h2.right.left.cell 5
  have a6 := h2.right.left.cell 6
  simp only [List.getElem?_toArray, List.getElem?_cons_zero, List.getElem?_cons_succ] at a0 a1 a2 a3 a4 a5 a6
  have hbb := HX.out.1.trans hb2
  have HH := Lib.hid (And.intro h2 (And.intro hbb (And.intro hys hl2)))
  clear h2 hbb hys hb2
  have hT := fun m => pack_truth v2 ys (HH.out.1.drewN m) neg (by omega)
  have hmg : (∀ w, sat w R → MagW w am mag) ∧ ∀ x ∈ mag, 0 ≤ x ∧ x < 4294967296 := by
    obtain ⟨am', cm', ai', ci', ar', cr', he, ⟨_, _, h3, h4, _⟩, _⟩ := HX.out.2.2.open
    simp only [List.cons.injEq, Value.slice.injEq, and_true, true_and] at he
    obtain ⟨⟨rfl, _⟩, _⟩ := he
    exact ⟨h3, h4⟩
  have HT := Lib.hid (And.intro hT hmg)
  clear hT hmg
  go_wp2_with fail
  go_region_held3 (fun w' => w'.cell? ⟨g, 2, none⟩ = some (.bool neg) ∧ w'.cell? ⟨g, 3, none⟩ = some (.slice am mag.length cm)) (first | exact k9 | exact k8 | go_keep)
    (first
      | (go_at_call 19; refine (num_len h3 mag.length hz (by rw [List.length_append]; have : (bitB neg).length = 1 := rfl; have := HH.out.2.2.2; omega)).mono ?_; rintro e w4 ⟨v4, rfl, h4, hb4⟩; have k8 := And.intro ((h4.right.left.cell 2).trans (show _ = some (Value.bool neg) from rfl)) ((h4.right.left.cell 3).trans (show _ = some (Value.slice am mag.length cm) from rfl)))
      | (go_at_call 20; refine (HT.out.1 1).mono ?_; rintro e w3 ⟨v3, rfl, h3, hb3⟩; have k9 := And.intro ((h3.right.left.cell 2).trans (show _ = some (Value.bool neg) from rfl)) ((h3.right.left.cell 3).trans (show _ = some (Value.slice am mag.length cm) from rfl))))
  have hlz : (ys ++ bitB neg ++ numB mag.length).length ≤ 17592186044435 := by
    rw [List.length_append, List.length_append]
    have h1 : (bitB neg).length = 1 := rfl
    have h2 := numB_ten (n := mag.length) (by omega)
    have h3 := HH.out.2.2.2
    omega
  obtain ⟨zs, hzs⟩ : ∃ zs, ys ++ bitB neg ++ numB mag.length = zs := ⟨_, rfl⟩
  rw [hzs] at h4 hlz
  have HQ := Lib.hid (And.intro h4 (And.intro (((HH.out.2.1.trans (drewN_below0 w2 1)).trans hb3).trans hb4) (And.intro hzs hlz)))
  have a3 := k8.2
  clear k9 k8 h3 h4 hb3 hb4 a0 a1 a2 a4 a5 a6 hzs hlz hl2
  go_wp2_with fail
  go_loopw [0, 33] (LmRel w (Go.Proofs.Ytkjfplldfjmbaaa.blk g (dmO [.int .i64 1, .int .i64 n, .bool neg, .slice am mag.length cm, .string text, .slice ai items.length ci, .slice ar rest.length cr]) * R) mag zs) (fun _ i _ => mag.length - (intOf i).toNat)
  case atStart => exact ⟨0, Nat.zero_le _, rfl, by rw [List.take_zero]; unfold limbsB; rw [List.flatMap_nil, List.append_nil]; exact HQ.out.1, HQ.out.2.1⟩
  case round =>
    obtain ⟨j, hj, rfl, h5, hb5⟩ := hrel
    by_cases hlt : j < mag.length
    · obtain ⟨x, ex⟩ : ∃ x, mag[j]? = some x := ⟨_, List.getElem?_eq_getElem hlt⟩
      obtain ⟨a, rfl, hca⟩ := HT.out.2.1 wr h5.right.right j x ex
      have hx := HT.out.2.2 x (List.mem_of_getElem? ex)
      have htk : limbsB (mag.take (j + 1)) = limbsB (mag.take j) ++ numB x.toNat := by
        rw [List.take_add_one, ex, limbsB_app]
        unfold limbsB
        simp
      have hlk : (limbsB (mag.take j)).length ≤ 9437184 := by
        have := limbsB_len (l := mag.take j) (fun y hy => HT.out.2.2 y (List.mem_of_mem_take hy))
        rw [List.length_take] at this
        omega
      have hN := num_lit h5 x (by omega) (by rw [List.length_append]; have := HQ.out.2.2.2; omega)
      have g1 : IntKind.i64.wrap x = x := IntWalk.i64_in _ (by omega)
      have HK := Lib.hid (And.intro hb5 (And.intro htk ex))
      clear h5 hb5 htk ex hlk
      go_wp2_with fail
      refine hN.mono ?_
      clear hN hca
      rintro e w6 ⟨v6, rfl, h6, hb6⟩
      have HL := Lib.hid (And.intro h6 hb6)
      clear h6 hb6
      go_wp2_with fail
      go_roundw
      case rel =>
        refine ⟨j + 1, by omega, by go_num, ?_, HK.out.1.trans HL.out.2⟩
        rw [HK.out.2.1, ← List.append_assoc]
        exact HL.out.1
      case measure => simp [intOf]; omega
    · obtain rfl : j = mag.length := by omega
      have hge : decide ((mag.length : Int) < (mag.length : Int)) = false := by simp
      rw [List.take_of_length_le (Nat.le_refl _)] at h5
      have HL := Lib.hid (And.intro h5 hb5)
      clear h5 hb5
      go_wp2_with fail
      go_ret
      refine ⟨_, rfl, ?_, HL.out.2⟩
      have e : xs ++ constB (.mk 1 n neg mag text items rest) = zs ++ limbsB mag := by unfold constB; rw [← HQ.out.2.2.1, ← HH.out.2.2.1, if_pos rfl]; simp only [List.append_assoc]
      rw [e]
      exact (HL.out.1.perm (show _ = Go.Proofs.Ytkjfplldfjmbaaa.blk g _ * (own _ _ _ _ _ * R) by ac_rfl)).right
end Go.Proofs.Ytkjfplldfjmbaaa
