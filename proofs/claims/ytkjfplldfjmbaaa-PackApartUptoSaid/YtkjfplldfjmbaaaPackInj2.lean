/- A program's bytes tell the program. -/
import Derived.Test.YtkjfplldfjmbaaaPackWr
import Derived.Test.YtkjfplldfjmbaaaPackInj
namespace Go.Proofs.Ytkjfplldfjmbaaa
open Go.RowKit
theorem codeB_cons (t : Int × Int × Int) (l : List (Int × Int × Int)) : codeB (t :: l) = numB t.1.toNat ++ zigB t.2.1 ++ zigB t.2.2 ++ codeB l := by simp [codeB]
theorem protosB_cons (p : Pr) (l : List Pr) : protosB (p :: l) = protoB p ++ protosB l := by simp [protosB]
theorem codeB_cut : ∀ {l m : List (Int × Int × Int)} {a b : List Int}, l.length = m.length → l.all rightI = true → m.all rightI = true → codeB l ++ a = codeB m ++ b → l = m ∧ a = b
  | [], [], a, b, _, _, _, h => by simpa [codeB] using h
  | [], _ :: _, _, _, hl, _, _, _ => by simp at hl
  | _ :: _, [], _, _, hl, _, _, _ => by simp at hl
  | (x1, x2, x3) :: l, (y1, y2, y3) :: m, a, b, hl, h1, h2, h => by
    rw [List.all_cons, Bool.and_eq_true] at h1 h2
    obtain ⟨b1, _, _⟩ := rightI_bd h1.1
    obtain ⟨b2, _, _⟩ := rightI_bd h2.1
    rw [codeB_cons, codeB_cons] at h
    simp only [List.append_assoc] at h
    obtain ⟨e1, e2⟩ := numB_cut _ _ _ _ h
    obtain ⟨e3, e4⟩ := zigB_cut e2
    obtain ⟨e5, e6⟩ := zigB_cut e4
    obtain ⟨e7, e8⟩ := codeB_cut (l := l) (m := m) (by simpa using hl) h1.2 h2.2 e6
    dsimp only at b1 b2
    exact ⟨by rw [e3, e5, e7, show x1 = y1 by omega], e8⟩
def RightPr (p : Pr) : Prop := sizeB p.args = true ∧ sizeB p.free = true ∧ p.code.all rightI = true ∧ RightDs p.consts
theorem protoB_cut {p q : Pr} {a b : List Int} (hp : RightPr p) (hq : RightPr q) (h : protoB p ++ a = protoB q ++ b) : p = q ∧ a = b := by
  obtain ⟨n1, a1, f1, r1, c1, d1, m1⟩ := p
  obtain ⟨n2, a2, f2, r2, c2, d2, m2⟩ := q
  unfold RightPr at hp hq
  obtain ⟨p1, p2, p3, p4⟩ := hp
  obtain ⟨q1, q2, q3, q4⟩ := hq
  dsimp only at p1 p2 p3 p4 q1 q2 q3 q4
  have := size_bd p1
  have := size_bd p2
  have := size_bd q1
  have := size_bd q2
  unfold protoB namesB at h
  simp only [List.append_assoc] at h
  obtain ⟨g1, h1⟩ := textB_cut h
  obtain ⟨g2, h2⟩ := numB_cut _ _ _ _ h1
  obtain ⟨g3, h3⟩ := bitB_cut h2
  obtain ⟨g4, h4⟩ := numB_cut _ _ _ _ h3
  obtain ⟨g5, h5⟩ := numB_cut _ _ _ _ h4
  obtain ⟨g6, h6⟩ := codeB_cut g5 p3 q3 h5
  obtain ⟨g7, h7⟩ := numB_cut _ _ _ _ h6
  obtain ⟨g8, h8⟩ := constBs_cut_of g7 (fun d hd => constB_cut d.size d (Nat.le_refl _) (p4.mem d hd)) q4 h7
  obtain ⟨g9, h9⟩ := numB_cut _ _ _ _ h8
  obtain ⟨g10, h10⟩ := namesB_cut g9 h9
  exact ⟨by rw [show a1 = a2 by omega, show f1 = f2 by omega, g1, g3, g6, g8, g10], h10⟩
theorem protosB_cut : ∀ {l m : List Pr} {a b : List Int}, l.length = m.length → (∀ p ∈ l, RightPr p) → (∀ p ∈ m, RightPr p) → protosB l ++ a = protosB m ++ b → l = m ∧ a = b
  | [], [], a, b, _, _, _, h => by simpa [protosB] using h
  | [], _ :: _, _, _, hl, _, _, _ => by simp at hl
  | _ :: _, [], _, _, hl, _, _, _ => by simp at hl
  | x :: l, y :: m, a, b, hl, h1, h2, h => by
    rw [protosB_cons, protosB_cons] at h
    simp only [List.append_assoc] at h
    obtain ⟨e1, e2⟩ := protoB_cut (h1 x (by simp)) (h2 y (by simp)) h
    obtain ⟨e3, e4⟩ := protosB_cut (l := l) (m := m) (by simpa using hl) (fun p hp => h1 p (by simp [hp])) (fun p hp => h2 p (by simp [hp])) e2
    exact ⟨by rw [e1, e3], e4⟩
theorem writeB_cut {l m : List Pr} (h1 : ∀ p ∈ l, RightPr p) (h2 : ∀ p ∈ m, RightPr p) (h : writeB l = writeB m) : l = m := by
  unfold writeB at h
  simp only [List.cons_append, List.nil_append, List.cons.injEq, true_and] at h
  obtain ⟨e1, e2⟩ := numB_cut _ _ _ _ h
  exact (protosB_cut (a := []) (b := []) e1 h1 h2 (by simpa using e2)).1
end Go.Proofs.Ytkjfplldfjmbaaa
