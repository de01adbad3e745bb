/- What came in: a slice of calls, each with a slice of integers. -/
import Derived.Test.YthkodbmijgehbaaOnDo
import Derived.Deep.Slices
import Derived.SizedLaws
import Derived.ChangeSlices
namespace Go.Proofs.Ythkodbmijgehbaa
open Go.RowKit Go.ChangeShapes Go.WideShapes

structure OpIn (w : World) (x : OpD) : Prop where
  w0 : 0 ≤ x.xw
  w1 : x.xw < 18446744073709551616
  len : x.rs.length = x.len
  bd : x.len + 1 ≤ 17592186044416
  rs : ∀ (j : Nat) v, x.rs[j]? = some v → ∃ a, x.ao = some a ∧ w.cell? (a.add j) = some (.int .i64 v)
structure OpAt (w : World) (ao : Option Addr) (i : Nat) (x : OpD) : Prop where
  at_ : OpIn w x
  cs : ∃ ad, ao = some ad ∧ ∀ (j : Nat) v, x.cells[j]? = some v → w.cell? (ad.add (i * 7 + j)) = some v
/-- WHAT THE WALK IS TOLD. -/
structure IsOps (w : World) (ao : Option Addr) (len : Nat) (zs : List OpD) : Prop where
  bd : len ≤ 1954687338211
  eq : zs.length = len
  each : ∀ (i : Nat) x, zs[i]? = some x → OpAt w ao i x

theorem list_of_all {α : Type} {Q : Nat → α → Prop} (n : Nat) (h : ∀ i, i < n → ∃ x, Q i x) : ∃ zs : List α, zs.length = n ∧ ∀ (i : Nat) x, zs[i]? = some x → Q i x := by
  induction n with
  | zero => exact ⟨[], rfl, fun i x hx => by simp at hx⟩
  | succ n ih =>
    obtain ⟨zs, hl, hz⟩ := ih fun i hi => h i (by omega)
    obtain ⟨y, hy⟩ := h n (by omega)
    refine ⟨zs ++ [y], by simp [hl], ?_⟩
    intro i x hx
    rcases Nat.lt_or_ge i zs.length with a | a
    · rw [List.getElem?_append_left a] at hx; exact hz i x hx
    · rw [List.getElem?_append_right a] at hx
      have hi : i - zs.length = 0 := by
        have := (List.getElem?_eq_some_iff.1 hx).1
        simp at this; omega
      rw [hi] at hx; simp at hx; subst hx
      rw [show i = n by omega]; exact hy

theorem weights_in_all {H : Type} {P : Program} {e : TypeId} {d : DataW H} : ∀ {l : List (DataW H)}, d ∈ l → ∀ n ∈ d.weights P e, n ∈ DataW.weightsAll P e l
  | [], h => by cases h
  | x :: l, h => by
    intro n hn
    simp only [DataW.weightsAll, List.mem_append]
    rcases List.mem_cons.1 h with rfl | h
    · exact .inl hn
    · exact .inr (weights_in_all h n hn)

section
variable {H : Type} {enc : TypeId × Value → H} {W : World} {base : Nat} {spare : Nat → Bool} {held : Bool} {fuel : Nat}
theorem op_fields : (Try.prog.cellsOf 62 = 7 ∧ Try.prog.cellsOf 3 = 1 ∧ Try.prog.cellsOf 28 = 1 ∧ Try.prog.cellsOf 4 = 1 ∧ Try.prog.cellsOf 22 = 1) ∧ Try.prog.bytesOf 62 = 72 ∧ Try.prog.bytesOf 3 = 8 := by
  refine ⟨⟨?_, ?_, ?_, ?_, ?_⟩, ?_, ?_⟩ <;> kernel_rfl

theorem one_cell {cs : List Value} {j : Nat} (h : j < cs.length) : (cs.drop j).take 1 = [cs[j]] := by
  rw [List.drop_eq_getElem_cons h]; rfl
theorem u64_of_wf {x : Int} (h : (Lit.int .u64 x).wf = true) : 0 ≤ x ∧ x < 18446744073709551616 := by
  unfold Lit.wf at h
  rw [Bool.and_eq_true] at h
  have h1 := of_decide_eq_true h.1
  have h2 := of_decide_eq_true h.2
  rw [show IntKind.u64.min = 0 from rfl] at h1
  rw [show IntKind.u64.max = 18446744073709551615 from rfl] at h2
  omega
theorem list7 {α : Type} {l : List α} (h : l.length = 7) : ∃ a b c d e f g, l = [a, b, c, d, e, f, g] := by
  match l, h with
  | [a, b, c, d, e, f, g], _ => exact ⟨a, b, c, d, e, f, g, rfl⟩
theorem open_op {cs : List Value} {d : DataW H} {p : List MemPlace} (h : DataW.trod enc Try.prog W base spare held fuel 62 cs = some (d, p)) (hw : ∀ n ∈ d.weights Try.prog 62, n ≤ reachBytes) :
    ∃ x : OpD, cs = x.cells.toList ∧ OpIn W x := by
  obtain ⟨xs, n, _, hx, hl, hlen, hg⟩ := DataW.trod_struct Try.underlying62 h
  obtain ⟨⟨k0, k1, k2, k3, k4⟩, k5, k6⟩ := op_fields
  rw [k0] at hl
  simp only [Prod.mk.injEq] at hx
  have g0 : DataW.trod enc Try.prog W base spare held n 3 ((cs.drop 0).take (Try.prog.cellsOf 3)) = xs[0]? := hg 0 _ rfl
  have g1 : DataW.trod enc Try.prog W base spare held n 3 ((cs.drop 1).take (Try.prog.cellsOf 3)) = xs[1]? := hg 1 _ rfl
  have g2 : DataW.trod enc Try.prog W base spare held n 3 ((cs.drop 2).take (Try.prog.cellsOf 3)) = xs[2]? := hg 2 _ rfl
  have g3 : DataW.trod enc Try.prog W base spare held n 3 ((cs.drop 3).take (Try.prog.cellsOf 3)) = xs[3]? := hg 3 _ rfl
  have g4 : DataW.trod enc Try.prog W base spare held n 28 ((cs.drop 4).take (Try.prog.cellsOf 28)) = xs[4]? := hg 4 _ rfl
  have g5 : DataW.trod enc Try.prog W base spare held n 4 ((cs.drop 5).take (Try.prog.cellsOf 4)) = xs[5]? := hg 5 _ rfl
  have g6 : DataW.trod enc Try.prog W base spare held n 22 ((cs.drop 6).take (Try.prog.cellsOf 22)) = xs[6]? := hg 6 _ rfl
  rw [k1] at g0 g1 g2 g3
  rw [k2] at g4
  rw [k3] at g5
  rw [k4] at g6
  clear hg
  obtain ⟨v0, v1, v2, v3, v4, v5, v6, rfl⟩ := list7 hl
  obtain ⟨y0, y1, y2, y3, y4, y5, y6, rfl⟩ := list7 (show xs.length = 7 from hlen)
  simp only [List.drop_zero, List.drop_succ_cons, List.take_succ_cons, List.take_zero, List.getElem?_cons_zero, List.getElem?_cons_succ] at g0 g1 g2 g3 g4 g5 g6
  obtain ⟨n0, e0, _, _⟩ := DataW.trod_int Try.underlying3 g0
  obtain ⟨n1, e1, _, _⟩ := DataW.trod_int Try.underlying3 g1
  obtain ⟨n2, e2, _, _⟩ := DataW.trod_int Try.underlying3 g2
  obtain ⟨n3, e3, _, _⟩ := DataW.trod_int Try.underlying3 g3
  obtain ⟨n4, e4, _, hw4⟩ := DataW.trod_int Try.underlying28 g4
  obtain ⟨n5, e5, _⟩ := DataW.trod_bool Try.underlying4 g5
  simp only [List.cons.injEq, and_true] at e0 e1 e2 e3 e4 e5
  subst e0 e1 e2 e3 e4 e5
  have hw4' := u64_of_wf hw4
  rcases open_ints Try.underlying22 Try.underlying3 k1 g6 with ⟨e6, _⟩ | ⟨a, len, cap, zs, e6, _, hlc, _, hzl, hy, hc, _⟩
  · simp only [List.cons.injEq, and_true] at e6
    subst e6
    exact ⟨⟨n0, n1, n2, n3, n4, n5, none, 0, 0, []⟩, rfl, hw4'.1, hw4'.2, rfl, by simp, fun j v hv => by simp at hv⟩
  · simp only [List.cons.injEq, and_true] at e6
    subst e6
    have hlz : len ≤ zs.length := by rw [hzl]; split <;> omega
    have hwt : (((zs.take len).length + (zs.drop len).length) * 8) ≤ reachBytes := by
      refine hw _ ?_
      rw [hx.1]
      simp only [DataW.weights, Try.underlying62]
      refine DataW.weights_mem_each (j := 6) (t := 22) (d := y6.1) rfl rfl _ ?_
      rw [hy]
      simp [DataW.weights, Try.underlying22, k6, lits]
    refine ⟨⟨n0, n1, n2, n3, n4, n5, some a, len, cap, zs.take len⟩, rfl, hw4'.1, hw4'.2, by simp; omega, ?_, ?_⟩
    · rw [List.length_take, List.length_drop] at hwt
      unfold reachBytes at hwt
      simp only
      omega
    · intro j v hv
      simp only at hv ⊢
      rw [List.getElem?_take] at hv
      split at hv
      · refine ⟨a, rfl, ?_⟩
        rw [hc j (by omega), List.getD_eq_getElem?_getD, hv]; rfl
      · cases hv

theorem open_ops {ao : Option Addr} {len cap : Nat} {d : DataW H} {p : List MemPlace} (h : DataW.trod enc Try.prog W base spare held fuel 42 [.slice ao len cap] = some (d, p)) (hw : ∀ n ∈ d.weights Try.prog 42, n ≤ reachBytes) :
    ∃ zs : List OpD, IsOps W ao len zs := by
  obtain ⟨⟨k0, _⟩, k5, _⟩ := op_fields
  rcases Go.Deep.open_slice Try.underlying42 h with ⟨e, _⟩ | ⟨a, len', cap', m, n, D, Pl, e, _, hl, _, hm, hx, hi⟩
  · simp at e
    obtain ⟨rfl, rfl, rfl⟩ := e
    exact ⟨[], by decide, rfl, fun i x hx => by simp at hx⟩
  · simp at e
    obtain ⟨rfl, rfl, rfl⟩ := e
    simp only [Prod.mk.injEq] at hx
    have hlm : len ≤ m := by rw [hm]; split <;> omega
    obtain ⟨zs, hz, hall⟩ := list_of_all (Q := OpAt W (some a)) len (by
      intro i hi'
      obtain ⟨cs', hc, ht⟩ := hi i (by omega)
      rw [k0] at hc
      obtain ⟨_, hcl, hat⟩ := World.cells?_some hc
      obtain ⟨x, rfl, hx'⟩ := open_op ht (by
        intro q hq
        refine hw q ?_
        rw [hx.1]
        simp only [DataW.weights, Try.underlying42, List.mem_cons, List.mem_append]
        exact .inr (.inl (weights_in_all (List.mem_map.2 ⟨i, List.mem_range.2 hi', rfl⟩) q hq)))
      refine ⟨x, hx', a, rfl, ?_⟩
      intro j v hv
      have hj : j < 7 := by
        have := (Array.getElem?_eq_some_iff.1 hv).1
        exact this
      have := hat j hj
      rw [Go.Deep.add_add] at this
      rw [this, Array.getElem?_toList, hv])
    refine ⟨zs, ?_, hz, hall⟩
    have := hw ((len + (m - len)) * 72) (by
      rw [hx.1]
      simp [DataW.weights, Try.underlying42, k5])
    unfold reachBytes at this
    omega
end
end Go.Proofs.Ythkodbmijgehbaa
