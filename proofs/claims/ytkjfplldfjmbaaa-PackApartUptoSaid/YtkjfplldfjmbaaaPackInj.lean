/- The bytes tell what they are of: numbers, texts, bits. -/
import Derived.Test.YtkjfplldfjmbaaaPackData
namespace Go.Proofs.Ytkjfplldfjmbaaa
open Go.RowKit
theorem numB_cut (m : Nat) : ∀ (n : Nat) (a b : List Int), numB m ++ a = numB n ++ b → m = n ∧ a = b := by
  induction m using Nat.strongRecOn with
  | ind m ih =>
    intro n a b h
    by_cases hm : m < 128
    · by_cases hn : n < 128
      · rw [numB_lt hm, numB_lt hn] at h
        simp only [List.cons_append, List.nil_append, List.cons.injEq] at h
        exact ⟨by omega, h.2⟩
      · rw [numB_lt hm, numB_ge hn] at h
        simp only [List.cons_append, List.cons.injEq] at h
        omega
    · by_cases hn : n < 128
      · rw [numB_ge hm, numB_lt hn] at h
        simp only [List.cons_append, List.cons.injEq] at h
        omega
      · rw [numB_ge hm, numB_ge hn] at h
        simp only [List.cons_append, List.cons.injEq] at h
        obtain ⟨h1, h2⟩ := ih (m / 128) (by omega) (n / 128) a b h.2
        have := h.1
        exact ⟨by omega, h2⟩
theorem zigB_cut {m n : Int} {a b : List Int} (h : zigB m ++ a = zigB n ++ b) : m = n ∧ a = b := by
  unfold zigB at h
  obtain ⟨h1, h2⟩ := numB_cut _ _ _ _ h
  refine ⟨?_, h2⟩
  unfold zigN at h1
  split at h1 <;> split at h1 <;> omega
theorem textB_cut {s t : ByteArray} {a b : List Int} (h : textB s ++ a = textB t ++ b) : s = t ∧ a = b := by
  unfold textB at h
  rw [List.append_assoc, List.append_assoc] at h
  obtain ⟨h1, h2⟩ := numB_cut _ _ _ _ h
  obtain ⟨h3, h4⟩ := List.append_inj h2 (by rw [bytesO_len, bytesO_len, h1])
  exact ⟨bytesO_inj h3, h4⟩
theorem bitB_cut {s t : Bool} {a b : List Int} (h : bitB s ++ a = bitB t ++ b) : s = t ∧ a = b := by
  unfold bitB at h
  simp only [List.cons_append, List.nil_append, List.cons.injEq] at h
  refine ⟨?_, h.2⟩
  have := h.1
  cases s <;> cases t <;> simp at this ⊢
theorem limbsB_cut : ∀ {l m : List Int} {a b : List Int}, l.length = m.length → (∀ x ∈ l, 0 ≤ x) → (∀ x ∈ m, 0 ≤ x) → limbsB l ++ a = limbsB m ++ b → l = m ∧ a = b
  | [], [], a, b, _, _, _, h => by simpa [limbsB] using h
  | [], _ :: _, _, _, hl, _, _, _ => by simp at hl
  | _ :: _, [], _, _, hl, _, _, _ => by simp at hl
  | x :: l, y :: m, a, b, hl, h1, h2, h => by
    unfold limbsB at h
    rw [List.flatMap_cons, List.flatMap_cons, List.append_assoc, List.append_assoc] at h
    obtain ⟨e1, e2⟩ := numB_cut _ _ _ _ h
    have hx := h1 x (by simp)
    have hy := h2 y (by simp)
    obtain ⟨e3, e4⟩ := limbsB_cut (l := l) (m := m) (by simpa using hl) (fun z hz => h1 z (by simp [hz])) (fun z hz => h2 z (by simp [hz])) e2
    exact ⟨by rw [e3, show x = y by omega], e4⟩
theorem namesB_cut : ∀ {l m : List ByteArray} {a b : List Int}, l.length = m.length → (l.flatMap textB) ++ a = (m.flatMap textB) ++ b → l = m ∧ a = b
  | [], [], a, b, _, h => by simpa using h
  | [], _ :: _, _, _, hl, _ => by simp at hl
  | _ :: _, [], _, _, hl, _ => by simp at hl
  | x :: l, y :: m, a, b, hl, h => by
    rw [List.flatMap_cons, List.flatMap_cons, List.append_assoc, List.append_assoc] at h
    obtain ⟨e1, e2⟩ := textB_cut h
    obtain ⟨e3, e4⟩ := namesB_cut (l := l) (m := m) (by simpa using hl) e2
    exact ⟨by rw [e1, e3], e4⟩
theorem constBs_cut_of : ∀ {l m : List Dm} {a b : List Int}, l.length = m.length → (∀ d ∈ l, ∀ e a b, RightD e → constB d ++ a = constB e ++ b → d = e ∧ a = b) → RightDs m → constBs l ++ a = constBs m ++ b → l = m ∧ a = b
  | [], [], a, b, _, _, _, h => by simpa [constBs] using h
  | [], _ :: _, _, _, hl, _, _, _ => by simp at hl
  | _ :: _, [], _, _, hl, _, _, _ => by simp at hl
  | x :: l, y :: m, a, b, hl, hi, hm, h => by
    unfold RightDs at hm
    rw [constBs, constBs, List.append_assoc, List.append_assoc] at h
    obtain ⟨e1, e2⟩ := hi x (by simp) y _ _ hm.1 h
    obtain ⟨e3, e4⟩ := constBs_cut_of (l := l) (m := m) (by simpa using hl) (fun d hd => hi d (by simp [hd])) hm.2 e2
    exact ⟨by rw [e1, e3], e4⟩
theorem RightD.kind {k n : Int} {neg : Bool} {mag : List Int} {text : ByteArray} {items rest : List Dm} (h : RightD (.mk k n neg mag text items rest)) : 1 ≤ k ∧ k ≤ 9 := by
  unfold RightD at h
  rcases h with ⟨h, _⟩ | ⟨h, _⟩ | ⟨h, _⟩ | ⟨h, _⟩ | ⟨h, _⟩ | ⟨h, _⟩ <;> omega
theorem mag_nn {mag : List Int} (h : limbsOf (valL mag) = mag) : ∀ x ∈ mag, 0 ≤ x := fun x hx => by rw [← h] at hx; exact (limbsOf_limbs _ x hx).1
theorem constB_cut (s : Nat) : ∀ (d : Dm), d.size ≤ s → RightD d → ∀ e a b, RightD e → constB d ++ a = constB e ++ b → d = e ∧ a = b := by
  induction s with
  | zero => intro d hd; have := d.size_pos; omega
  | succ s ih =>
    intro d hd hr e a b hr2 h
    cases d with
    | mk k n neg mag text items rest =>
    cases e with
    | mk k2 n2 neg2 mag2 text2 items2 rest2 =>
    have b1 := hr.kind
    have b2 := hr2.kind
    unfold Dm.size at hd
    unfold constB at h
    simp only [List.append_assoc] at h
    obtain ⟨hk0, h2⟩ := numB_cut _ _ _ _ h
    obtain rfl : k = k2 := by omega
    clear hk0 h
    unfold RightD at hr hr2
    have hI : ∀ (l : List Dm), Dm.sizes l ≤ s → RightDs l → ∀ d ∈ l, ∀ e a b, RightD e → constB d ++ a = constB e ++ b → d = e ∧ a = b := by
      intro l hl hrl d hdl
      obtain ⟨i, hi⟩ := List.mem_iff_getElem?.1 hdl
      have := Dm.size_le hi
      exact ih d (by omega) (hrl.mem d hdl)
    rcases hr with ⟨hk, _, rfl, rfl, rfl, rfl, rfl⟩ | ⟨rfl, _, rfl, rfl, rfl, rfl⟩ | ⟨rfl, rfl, rfl, rfl, rfl, hm, _⟩ | ⟨rfl, rfl, rfl, rfl, rfl, rfl⟩ | ⟨rfl, rfl, rfl, rfl, rfl, rfl, rfl⟩ | ⟨hk, rfl, rfl, rfl, rfl, q7, _, hri, hrr⟩ <;>
    rcases hr2 with ⟨hk2, _, rfl, rfl, rfl, rfl, rfl⟩ | ⟨hk2, _, rfl, rfl, rfl, rfl⟩ | ⟨hk2, rfl, rfl, rfl, rfl, hm2, _⟩ | ⟨hk2, rfl, rfl, rfl, rfl, rfl⟩ | ⟨hk2, rfl, rfl, rfl, rfl, rfl, rfl⟩ | ⟨hk2, rfl, rfl, rfl, rfl, q72, _, hri2, hrr2⟩ <;>
    try omega
    · have c1 : ¬ k = 1 := by omega
      simp only [if_neg c1, if_pos hk] at h2
      obtain ⟨e1, e2⟩ := zigB_cut h2
      exact ⟨by rw [e1], e2⟩
    · rw [if_neg (by decide), if_neg (by decide), if_neg (by decide), if_pos rfl, if_neg (by decide), if_neg (by decide), if_neg (by decide), if_pos rfl] at h2
      simp only [List.append_assoc] at h2
      obtain ⟨e1, e2⟩ := textB_cut h2
      obtain ⟨e3, e4⟩ := zigB_cut e2
      exact ⟨by rw [e1, e3], e4⟩
    · rw [if_pos rfl, if_pos rfl] at h2
      simp only [List.append_assoc] at h2
      obtain ⟨e1, e2⟩ := bitB_cut h2
      obtain ⟨e3, e4⟩ := numB_cut _ _ _ _ e2
      obtain ⟨e5, e6⟩ := limbsB_cut e3 (mag_nn hm) (mag_nn hm2) e4
      exact ⟨by rw [e1, e5], e6⟩
    · rw [if_neg (by decide), if_neg (by decide), if_pos rfl, if_neg (by decide), if_neg (by decide), if_pos rfl] at h2
      obtain ⟨e1, e2⟩ := textB_cut h2
      exact ⟨by rw [e1], e2⟩
    · simpa using h2
    · rcases hk with rfl | rfl
      · rw [if_neg (by decide), if_neg (by decide), if_neg (by decide), if_neg (by decide), if_pos rfl, if_neg (by decide), if_neg (by decide), if_neg (by decide), if_neg (by decide), if_pos rfl] at h2
        simp only [List.append_assoc] at h2
        obtain ⟨e1, e2⟩ := numB_cut _ _ _ _ h2
        obtain ⟨e3, e4⟩ := constBs_cut_of e1 (hI items (by omega) hri) hri2 e2
        obtain ⟨e5, e6⟩ := numB_cut _ _ _ _ e4
        obtain ⟨e7, e8⟩ := constBs_cut_of e5 (hI rest (by omega) hrr) hrr2 e6
        exact ⟨by rw [e3, e7], e8⟩
      · obtain rfl := q7 rfl
        obtain rfl := q72 rfl
        rw [if_neg (by decide), if_neg (by decide), if_neg (by decide), if_neg (by decide), if_neg (by decide), if_pos rfl, if_neg (by decide), if_neg (by decide), if_neg (by decide), if_neg (by decide), if_neg (by decide), if_pos rfl] at h2
        simp only [constBs, List.append_nil, List.append_assoc] at h2
        obtain ⟨e1, e2⟩ := numB_cut _ _ _ _ h2
        obtain ⟨e3, e4⟩ := constBs_cut_of e1 (hI items (by omega) hri) hri2 e2
        exact ⟨by rw [e3], e4⟩
end Go.Proofs.Ytkjfplldfjmbaaa
