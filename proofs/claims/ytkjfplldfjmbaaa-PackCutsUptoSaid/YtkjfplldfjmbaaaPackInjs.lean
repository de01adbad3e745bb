/- The bytes tell what they are of: numbers, texts, bits. A program's bytes tell the program. -/
import Derived.Test.YtkjfplldfjmbaaaPackData
import Derived.Test.YtkjfplldfjmbaaaPackWr
/- The bytes tell what they are of: numbers, texts, bits. -/
namespace Go.Proofs.Ytkjfplldfjmbaaa
open Go.RowKit
theorem numB_cut (m : Nat) : ∀ (n : Nat) (a b : List Int), numB m ++ a = numB n ++ b → m = n ∧ a = b := by
  induction m using Nat.strongRecOn with
  | ind m ih =>
    intro n a b h
    by_cases hm : m < 128
    · by_cases hn : n < 128
      · rw [numB_lt hm, numB_lt hn] at h
        simp only [List.cons_append, List.nil_append, List.cons.injEq] at h
        exact ⟨by omega, h.2⟩
      · rw [numB_lt hm, numB_ge hn] at h
        simp only [List.cons_append, List.cons.injEq] at h
        omega
    · by_cases hn : n < 128
      · rw [numB_ge hm, numB_lt hn] at h
        simp only [List.cons_append, List.cons.injEq] at h
        omega
      · rw [numB_ge hm, numB_ge hn] at h
        simp only [List.cons_append, List.cons.injEq] at h
        obtain ⟨h1, h2⟩ := ih (m / 128) (by omega) (n / 128) a b h.2
        have := h.1
        exact ⟨by omega, h2⟩
theorem zigB_cut {m n : Int} {a b : List Int} (h : zigB m ++ a = zigB n ++ b) : m = n ∧ a = b := by
  unfold zigB at h
  obtain ⟨h1, h2⟩ := numB_cut _ _ _ _ h
  refine ⟨?_, h2⟩
  unfold zigN at h1
  split at h1 <;> split at h1 <;> omega
theorem textB_cut {s t : ByteArray} {a b : List Int} (h : textB s ++ a = textB t ++ b) : s = t ∧ a = b := by
  unfold textB at h
  rw [List.append_assoc, List.append_assoc] at h
  obtain ⟨h1, h2⟩ := numB_cut _ _ _ _ h
  obtain ⟨h3, h4⟩ := List.append_inj h2 (by rw [bytesO_len, bytesO_len, h1])
  exact ⟨bytesO_inj h3, h4⟩
theorem bitB_cut {s t : Bool} {a b : List Int} (h : bitB s ++ a = bitB t ++ b) : s = t ∧ a = b := by
  unfold bitB at h
  simp only [List.cons_append, List.nil_append, List.cons.injEq] at h
  refine ⟨?_, h.2⟩
  have := h.1
  cases s <;> cases t <;> simp at this ⊢
theorem limbsB_cut : ∀ {l m : List Int} {a b : List Int}, l.length = m.length → (∀ x ∈ l, 0 ≤ x) → (∀ x ∈ m, 0 ≤ x) → limbsB l ++ a = limbsB m ++ b → l = m ∧ a = b
  | [], [], a, b, _, _, _, h => by simpa [limbsB] using h
  | [], _ :: _, _, _, hl, _, _, _ => by simp at hl
  | _ :: _, [], _, _, hl, _, _, _ => by simp at hl
  | x :: l, y :: m, a, b, hl, h1, h2, h => by
    unfold limbsB at h
    rw [List.flatMap_cons, List.flatMap_cons, List.append_assoc, List.append_assoc] at h
    obtain ⟨e1, e2⟩ := numB_cut _ _ _ _ h
    have hx := h1 x (by simp)
    have hy := h2 y (by simp)
    obtain ⟨e3, e4⟩ := limbsB_cut (l := l) (m := m) (by simpa using hl) (fun z hz => h1 z (by simp [hz])) (fun z hz => h2 z (by simp [hz])) e2
    exact ⟨by rw [e3, show x = y by omega], e4⟩
theorem namesB_cut : ∀ {l m : List ByteArray} {a b : List Int}, l.length = m.length → (l.flatMap textB) ++ a = (m.flatMap textB) ++ b → l = m ∧ a = b
  | [], [], a, b, _, h => by simpa using h
  | [], _ :: _, _, _, hl, _ => by simp at hl
  | _ :: _, [], _, _, hl, _ => by simp at hl
  | x :: l, y :: m, a, b, hl, h => by
    rw [List.flatMap_cons, List.flatMap_cons, List.append_assoc, List.append_assoc] at h
    obtain ⟨e1, e2⟩ := textB_cut h
    obtain ⟨e3, e4⟩ := namesB_cut (l := l) (m := m) (by simpa using hl) e2
    exact ⟨by rw [e1, e3], e4⟩
theorem constBs_cut_of : ∀ {l m : List Dm} {a b : List Int}, l.length = m.length → (∀ d ∈ l, ∀ e a b, RightD e → constB d ++ a = constB e ++ b → d = e ∧ a = b) → RightDs m → constBs l ++ a = constBs m ++ b → l = m ∧ a = b
  | [], [], a, b, _, _, _, h => by simpa [constBs] using h
  | [], _ :: _, _, _, hl, _, _, _ => by simp at hl
  | _ :: _, [], _, _, hl, _, _, _ => by simp at hl
  | x :: l, y :: m, a, b, hl, hi, hm, h => by
    unfold RightDs at hm
    rw [constBs, constBs, List.append_assoc, List.append_assoc] at h
    obtain ⟨e1, e2⟩ := hi x (by simp) y _ _ hm.1 h
    obtain ⟨e3, e4⟩ := constBs_cut_of (l := l) (m := m) (by simpa using hl) (fun d hd => hi d (by simp [hd])) hm.2 e2
    exact ⟨by rw [e1, e3], e4⟩
theorem RightD.kind {k n : Int} {neg : Bool} {mag : List Int} {text : ByteArray} {items rest : List Dm} (h : RightD (.mk k n neg mag text items rest)) : 1 ≤ k ∧ k ≤ 9 := by
  unfold RightD at h
  rcases h with ⟨h, _⟩ | ⟨h, _⟩ | ⟨h, _⟩ | ⟨h, _⟩ | ⟨h, _⟩ | ⟨h, _⟩ <;> omega
theorem mag_nn {mag : List Int} (h : limbsOf (valL mag) = mag) : ∀ x ∈ mag, 0 ≤ x := fun x hx => by rw [← h] at hx; exact (limbsOf_limbs _ x hx).1
theorem constB_cut (s : Nat) : ∀ (d : Dm), d.size ≤ s → RightD d → ∀ e a b, RightD e → constB d ++ a = constB e ++ b → d = e ∧ a = b := by
  induction s with
  | zero => intro d hd; have := d.size_pos; omega
  | succ s ih =>
    intro d hd hr e a b hr2 h
    cases d with
    | mk k n neg mag text items rest =>
    cases e with
    | mk k2 n2 neg2 mag2 text2 items2 rest2 =>
    have b1 := hr.kind
    have b2 := hr2.kind
    unfold Dm.size at hd
    unfold constB at h
    simp only [List.append_assoc] at h
    obtain ⟨hk0, h2⟩ := numB_cut _ _ _ _ h
    obtain rfl : k = k2 := by omega
    clear hk0 h
    unfold RightD at hr hr2
    have hI : ∀ (l : List Dm), Dm.sizes l ≤ s → RightDs l → ∀ d ∈ l, ∀ e a b, RightD e → constB d ++ a = constB e ++ b → d = e ∧ a = b := by
      intro l hl hrl d hdl
      obtain ⟨i, hi⟩ := List.mem_iff_getElem?.1 hdl
      have := Dm.size_le hi
      exact ih d (by omega) (hrl.mem d hdl)
    rcases hr with ⟨hk, _, rfl, rfl, rfl, rfl, rfl⟩ | ⟨rfl, _, rfl, rfl, rfl, rfl⟩ | ⟨rfl, rfl, rfl, rfl, rfl, hm, _⟩ | ⟨rfl, rfl, rfl, rfl, rfl, rfl⟩ | ⟨rfl, rfl, rfl, rfl, rfl, rfl, rfl⟩ | ⟨hk, rfl, rfl, rfl, rfl, q7, _, hri, hrr⟩ <;>
    rcases hr2 with ⟨hk2, _, rfl, rfl, rfl, rfl, rfl⟩ | ⟨hk2, _, rfl, rfl, rfl, rfl⟩ | ⟨hk2, rfl, rfl, rfl, rfl, hm2, _⟩ | ⟨hk2, rfl, rfl, rfl, rfl, rfl⟩ | ⟨hk2, rfl, rfl, rfl, rfl, rfl, rfl⟩ | ⟨hk2, rfl, rfl, rfl, rfl, q72, _, hri2, hrr2⟩ <;>
    try omega
    · have c1 : ¬ k = 1 := by omega
      simp only [if_neg c1, if_pos hk] at h2
      obtain ⟨e1, e2⟩ := zigB_cut h2
      exact ⟨by rw [e1], e2⟩
    · rw [if_neg (by decide), if_neg (by decide), if_neg (by decide), if_pos rfl, if_neg (by decide), if_neg (by decide), if_neg (by decide), if_pos rfl] at h2
      simp only [List.append_assoc] at h2
      obtain ⟨e1, e2⟩ := textB_cut h2
      obtain ⟨e3, e4⟩ := zigB_cut e2
      exact ⟨by rw [e1, e3], e4⟩
    · rw [if_pos rfl, if_pos rfl] at h2
      simp only [List.append_assoc] at h2
      obtain ⟨e1, e2⟩ := bitB_cut h2
      obtain ⟨e3, e4⟩ := numB_cut _ _ _ _ e2
      obtain ⟨e5, e6⟩ := limbsB_cut e3 (mag_nn hm) (mag_nn hm2) e4
      exact ⟨by rw [e1, e5], e6⟩
    · rw [if_neg (by decide), if_neg (by decide), if_pos rfl, if_neg (by decide), if_neg (by decide), if_pos rfl] at h2
      obtain ⟨e1, e2⟩ := textB_cut h2
      exact ⟨by rw [e1], e2⟩
    · simpa using h2
    · rcases hk with rfl | rfl
      · rw [if_neg (by decide), if_neg (by decide), if_neg (by decide), if_neg (by decide), if_pos rfl, if_neg (by decide), if_neg (by decide), if_neg (by decide), if_neg (by decide), if_pos rfl] at h2
        simp only [List.append_assoc] at h2
        obtain ⟨e1, e2⟩ := numB_cut _ _ _ _ h2
        obtain ⟨e3, e4⟩ := constBs_cut_of e1 (hI items (by omega) hri) hri2 e2
        obtain ⟨e5, e6⟩ := numB_cut _ _ _ _ e4
        obtain ⟨e7, e8⟩ := constBs_cut_of e5 (hI rest (by omega) hrr) hrr2 e6
        exact ⟨by rw [e3, e7], e8⟩
      · obtain rfl := q7 rfl
        obtain rfl := q72 rfl
        rw [if_neg (by decide), if_neg (by decide), if_neg (by decide), if_neg (by decide), if_neg (by decide), if_pos rfl, if_neg (by decide), if_neg (by decide), if_neg (by decide), if_neg (by decide), if_neg (by decide), if_pos rfl] at h2
        simp only [constBs, List.append_nil, List.append_assoc] at h2
        obtain ⟨e1, e2⟩ := numB_cut _ _ _ _ h2
        obtain ⟨e3, e4⟩ := constBs_cut_of e1 (hI items (by omega) hri) hri2 e2
        exact ⟨by rw [e3], e4⟩
end Go.Proofs.Ytkjfplldfjmbaaa

/- A program's bytes tell the program. -/
namespace Go.Proofs.Ytkjfplldfjmbaaa
open Go.RowKit
theorem codeB_cons (t : Int × Int × Int) (l : List (Int × Int × Int)) : codeB (t :: l) = numB t.1.toNat ++ zigB t.2.1 ++ zigB t.2.2 ++ codeB l := by simp [codeB]
theorem protosB_cons (p : Pr) (l : List Pr) : protosB (p :: l) = protoB p ++ protosB l := by simp [protosB]
theorem codeB_cut : ∀ {l m : List (Int × Int × Int)} {a b : List Int}, l.length = m.length → l.all rightI = true → m.all rightI = true → codeB l ++ a = codeB m ++ b → l = m ∧ a = b
  | [], [], a, b, _, _, _, h => by simpa [codeB] using h
  | [], _ :: _, _, _, hl, _, _, _ => by simp at hl
  | _ :: _, [], _, _, hl, _, _, _ => by simp at hl
  | (x1, x2, x3) :: l, (y1, y2, y3) :: m, a, b, hl, h1, h2, h => by
    rw [List.all_cons, Bool.and_eq_true] at h1 h2
    obtain ⟨b1, _, _⟩ := rightI_bd h1.1
    obtain ⟨b2, _, _⟩ := rightI_bd h2.1
    rw [codeB_cons, codeB_cons] at h
    simp only [List.append_assoc] at h
    obtain ⟨e1, e2⟩ := numB_cut _ _ _ _ h
    obtain ⟨e3, e4⟩ := zigB_cut e2
    obtain ⟨e5, e6⟩ := zigB_cut e4
    obtain ⟨e7, e8⟩ := codeB_cut (l := l) (m := m) (by simpa using hl) h1.2 h2.2 e6
    dsimp only at b1 b2
    exact ⟨by rw [e3, e5, e7, show x1 = y1 by omega], e8⟩
def RightPr (p : Pr) : Prop := sizeB p.args = true ∧ sizeB p.free = true ∧ p.code.all rightI = true ∧ RightDs p.consts
theorem protoB_cut {p q : Pr} {a b : List Int} (hp : RightPr p) (hq : RightPr q) (h : protoB p ++ a = protoB q ++ b) : p = q ∧ a = b := by
  obtain ⟨n1, a1, f1, r1, c1, d1, m1⟩ := p
  obtain ⟨n2, a2, f2, r2, c2, d2, m2⟩ := q
  unfold RightPr at hp hq
  obtain ⟨p1, p2, p3, p4⟩ := hp
  obtain ⟨q1, q2, q3, q4⟩ := hq
  dsimp only at p1 p2 p3 p4 q1 q2 q3 q4
  have := size_bd p1
  have := size_bd p2
  have := size_bd q1
  have := size_bd q2
  unfold protoB namesB at h
  simp only [List.append_assoc] at h
  obtain ⟨g1, h1⟩ := textB_cut h
  obtain ⟨g2, h2⟩ := numB_cut _ _ _ _ h1
  obtain ⟨g3, h3⟩ := bitB_cut h2
  obtain ⟨g4, h4⟩ := numB_cut _ _ _ _ h3
  obtain ⟨g5, h5⟩ := numB_cut _ _ _ _ h4
  obtain ⟨g6, h6⟩ := codeB_cut g5 p3 q3 h5
  obtain ⟨g7, h7⟩ := numB_cut _ _ _ _ h6
  obtain ⟨g8, h8⟩ := constBs_cut_of g7 (fun d hd => constB_cut d.size d (Nat.le_refl _) (p4.mem d hd)) q4 h7
  obtain ⟨g9, h9⟩ := numB_cut _ _ _ _ h8
  obtain ⟨g10, h10⟩ := namesB_cut g9 h9
  exact ⟨by rw [show a1 = a2 by omega, show f1 = f2 by omega, g1, g3, g6, g8, g10], h10⟩
theorem protosB_cut : ∀ {l m : List Pr} {a b : List Int}, l.length = m.length → (∀ p ∈ l, RightPr p) → (∀ p ∈ m, RightPr p) → protosB l ++ a = protosB m ++ b → l = m ∧ a = b
  | [], [], a, b, _, _, _, h => by simpa [protosB] using h
  | [], _ :: _, _, _, hl, _, _, _ => by simp at hl
  | _ :: _, [], _, _, hl, _, _, _ => by simp at hl
  | x :: l, y :: m, a, b, hl, h1, h2, h => by
    rw [protosB_cons, protosB_cons] at h
    simp only [List.append_assoc] at h
    obtain ⟨e1, e2⟩ := protoB_cut (h1 x (by simp)) (h2 y (by simp)) h
    obtain ⟨e3, e4⟩ := protosB_cut (l := l) (m := m) (by simpa using hl) (fun p hp => h1 p (by simp [hp])) (fun p hp => h2 p (by simp [hp])) e2
    exact ⟨by rw [e1, e3], e4⟩
theorem writeB_cut {l m : List Pr} (h1 : ∀ p ∈ l, RightPr p) (h2 : ∀ p ∈ m, RightPr p) (h : writeB l = writeB m) : l = m := by
  unfold writeB at h
  simp only [List.cons_append, List.nil_append, List.cons.injEq, true_and] at h
  obtain ⟨e1, e2⟩ := numB_cut _ _ _ _ h
  exact (protosB_cut (a := []) (b := []) e1 h1 h2 (by simpa using e2)).1
end Go.Proofs.Ytkjfplldfjmbaaa
