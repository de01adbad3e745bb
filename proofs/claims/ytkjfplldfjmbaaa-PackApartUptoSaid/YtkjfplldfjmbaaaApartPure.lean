/- A program, and it with one thing turned: plainly. -/
import Derived.Test.YtkjfplldfjmbaaaAwake10
import Derived.Test.YtkjfplldfjmbaaaPackInj2
import Derived.Test.YtkjfplldfjmbaaaProtoCopy
import Derived.Test.YtkjfplldfjmbaaaProtoSame7
namespace Go.Proofs.Ytkjfplldfjmbaaa
open Go.RowKit
theorem okP_same {p p' : Pr} {n q : Int} (h : okP p n = some q) (hc : p'.consts = p.consts) (h1 : sizeB p'.args = true) (h2 : sizeB p'.free = true) (h3 : p'.code.all rightI = true) : okP p' n = some q := by
  unfold okP at h ⊢
  split at h
  · rw [if_pos (by rw [h1, h2, h3]; rfl), hc]; exact h
  · cases h
theorem okPs_set : ∀ {ps : List Pr} {i : Nat} {n q : Int} {p p' : Pr}, okPs ps n = some q → ps[i]? = some p → (∀ m r, okP p m = some r → okP p' m = some r) → okPs (ps.set i p') n = some q
  | [], i, n, q, p, p', _, hi, _ => by simp at hi
  | e :: ps, 0, n, q, p, p', h, hi, hp => by
    simp at hi
    subst hi
    have h' : (match okP e n with | none => none | some q => okPs ps q) = some q := h
    show (match okP p' n with | none => none | some q => okPs ps q) = some q
    cases he : okP e n with
    | none => rw [he] at h'; cases h'
    | some r =>
      rw [he] at h'
      rw [hp n r he]
      exact h'
  | e :: ps, i + 1, n, q, p, p', h, hi, hp => by
    have h' : (match okP e n with | none => none | some q => okPs ps q) = some q := h
    show (match okP e n with | none => none | some q => okPs (ps.set i p') q) = some q
    cases he : okP e n with
    | none => rw [he] at h'; cases h'
    | some r =>
      rw [he] at h'
      exact okPs_set (ps := ps) h' (by simpa using hi) hp
theorem prSizes_set : ∀ {ps : List Pr} {i : Nat} {p p' : Pr}, ps[i]? = some p → p'.size ≤ p.size + 1 → prSizes (ps.set i p') ≤ prSizes ps + 1
  | [], i, p, p', hi, _ => by simp at hi
  | e :: ps, 0, p, p', hi, h => by
    simp at hi
    subst hi
    simp only [List.set_cons_zero, prSizes, List.map_cons, List.sum_cons] at *
    omega
  | e :: ps, i + 1, p, p', hi, h => by
    have := prSizes_set (ps := ps) (i := i) (by simpa using hi) h
    simp only [List.set_cons_succ, prSizes, List.map_cons, List.sum_cons] at *
    omega
theorem flat7_set {css : List (List Value)} (h : ∀ cs ∈ css, cs.length = 7) {i j : Nat} {cs : List Value} (v : Value) (hi : css[i]? = some cs) (hj : j < 7) : css.flatten.set (i * 7 + j) v = (css.set i (cs.set j v)).flatten := by
  induction css generalizing i with
  | nil => simp at hi
  | cons c l ih =>
    have hc := h c (by simp)
    cases i with
    | zero =>
      simp at hi
      subst hi
      rw [List.flatten_cons, Nat.zero_mul, Nat.zero_add, List.set_append_left _ _ (by omega), List.set_cons_zero, List.flatten_cons]
    | succ i =>
      rw [List.flatten_cons, List.set_append_right _ _ (by omega), hc, show (i + 1) * 7 + j - 7 = i * 7 + j by omega, ih (fun x hx => h x (by simp [hx])) (by simpa using hi), List.set_cons_succ, List.flatten_cons]
/-- A proto with one thing turned. -/
def turnP (p : Pr) (c v : Int) : Pr :=
  if c = 0 then { p with args := place v 300 }
  else if c = 1 then { p with name := p.name ++ ⟨#[120]⟩ }
  else if c = 2 then { p with rest := !p.rest }
  else if c = 3 then { p with code := p.code ++ [(place v 300, v.tmod 1000, 0)] }
  else if c = 4 then { p with names := p.names ++ [⟨#[]⟩] }
  else { p with free := p.free / 2 }
theorem turn_ok {p : Pr} {c v n q : Int} (h : okP p n = some q) (hp : RightPr p) : okP (turnP p c v) n = some q := by
  obtain ⟨h1, h2, h3, h4⟩ := hp
  have hv := place_bd v 300 (by omega)
  have hf := size_bd h2
  have q1 : v.tmod 1000 < 1000 := Int.tmod_lt_of_pos v (by omega)
  have q2 : -1000 < v.tmod 1000 := Int.lt_tmod_of_pos v (by omega)
  unfold turnP
  split
  · exact okP_same h rfl (by unfold sizeB; simp only [decide_eq_true_eq]; omega) h2 h3
  · split
    · exact okP_same h rfl h1 h2 h3
    · split
      · exact okP_same h rfl h1 h2 h3
      · split
        · refine okP_same h rfl h1 h2 ?_
          show (p.code ++ [(place v 300, v.tmod 1000, 0)]).all rightI = true
          rw [List.all_append, h3]
          simp only [List.all_cons, List.all_nil, rightI, sizeB, wholeB, Bool.true_and, Bool.and_true, Bool.and_eq_true, decide_eq_true_eq]
          omega
        · split
          · exact okP_same h rfl h1 h2 h3
          · exact okP_same h rfl h1 (by show sizeB (p.free / 2) = true; unfold sizeB; simp only [decide_eq_true_eq]; omega) h3
theorem turn_size (p : Pr) (c v : Int) : (turnP p c v).size ≤ p.size + 1 := by
  unfold turnP
  split
  · exact Nat.le_add_right _ _
  · split
    · unfold Pr.size; simp only [ByteArray.size_append]; show 1 + (p.name.size + 1) + _ + _ + _ ≤ _; omega
    · split
      · exact Nat.le_add_right _ _
      · split
        · unfold Pr.size; simp only [List.length_append, List.length_cons, List.length_nil]; omega
        · split
          · unfold Pr.size; simp only [List.map_append, List.sum_append, List.map_cons, List.map_nil, List.sum_cons, List.sum_nil]; show _ + (_ + (1 + 0 + 0)) ≤ _; omega
          · exact Nat.le_add_right _ _
/-- The law: the same bytes, just where it is the same program. -/
theorem apart {ps : List Pr} {q : Int} {i : Nat} {p : Pr} {c v : Int} (ho : okPs ps 0 = some q) (hi : ps[i]? = some p) :
    okPs (ps.set i (turnP p c v)) 0 = some q ∧ (decide (writeB ps = writeB (ps.set i (turnP p c v))) == samePs ps (ps.set i (turnP p c v))) = true := by
  have hm := okPs_mem (by decide) ho
  have h1 : okPs (ps.set i (turnP p c v)) 0 = some q := okPs_set ho hi fun m r h => turn_ok h (hm p (List.mem_of_getElem? hi))
  have hm2 := okPs_mem (by decide) h1
  refine ⟨h1, ?_⟩
  rw [beq_iff_eq]
  cases hs : samePs ps (ps.set i (turnP p c v)) with
  | true => rw [samePs_true] at hs; rw [decide_eq_true_eq, ← hs]
  | false => rw [samePs_false] at hs; rw [decide_eq_false_iff_not]; exact fun h => hs (writeB_cut hm hm2 h)
theorem szs_of {ps : List Pr} {n : Nat} (h : prSizes ps ≤ n) : ps.length ≤ n ∧ ∀ p ∈ ps, p.code.length ≤ n ∧ Dm.sizes p.consts ≤ n ∧ p.names.length ≤ n ∧ p.name.size ≤ n := by
  have h0 := prSizes_len ps
  refine ⟨by omega, fun p hp => ?_⟩
  obtain ⟨i, hi⟩ := List.mem_iff_getElem?.1 hp
  have h1 := prSizes_take hi
  have h2 : p.size = 1 + p.name.size + p.code.length + Dm.sizes p.consts + namesZ p.names := rfl
  have h3 := namesZ_len p.names
  omega
end Go.Proofs.Ytkjfplldfjmbaaa
