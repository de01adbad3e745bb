/- Data that may be written: as pack.datum goes over them. -/
import Derived.Test.YtkjfplldfjmbaaaPackConst2
import Derived.Test.YtkjfplldfjmbaaaPackEq
namespace Go.Proofs.Ytkjfplldfjmbaaa
open Go.RowKit
/-- What is asked of a datum by itself. -/
def ShapeD : Dm → Prop
  | .mk k n neg mag text items rest =>
    (k ≠ 1 → neg = false ∧ mag = []) ∧ (k ≠ 4 → k ≠ 5 → text = noT) ∧ (k ≠ 6 → k ≠ 7 → items = []) ∧ (k ≠ 6 → rest = []) ∧
    (((k = 2 ∨ k = 3 ∨ k = 9 ∨ k = 5) ∧ (-549755813888 ≤ n ∧ n ≤ 549755813888)) ∨
     ((k = 1 ∨ k = 4 ∨ k = 8 ∨ k = 6 ∨ k = 7) ∧ n = 0 ∧ limbsOf (valL mag) = mag ∧ (neg = true → mag ≠ []) ∧ (rest = [] ∨ ∃ r, rest = [r] ∧ items ≠ [] ∧ kindD r ≠ 6)))
theorem limbs_nil : limbsOf (valL []) = [] := by
  unfold valL
  rw [limbsOf]
  rfl
theorem right_iff (k n : Int) (neg : Bool) (mag : List Int) (text : ByteArray) (items rest : List Dm) : RightD (.mk k n neg mag text items rest) ↔ ShapeD (.mk k n neg mag text items rest) ∧ RightDs items ∧ RightDs rest := by
  constructor
  · intro h
    unfold RightD at h
    unfold ShapeD
    rcases h with ⟨hk, hn, rfl, rfl, rfl, rfl, rfl⟩ | ⟨rfl, hn, rfl, rfl, rfl, rfl⟩ | ⟨rfl, rfl, rfl, rfl, rfl, hc, hne⟩ | ⟨rfl, rfl, rfl, rfl, rfl, rfl⟩ | ⟨rfl, rfl, rfl, rfl, rfl, rfl, rfl⟩ | ⟨hk, rfl, rfl, rfl, rfl, h7, hrs, h8, h9⟩
    · exact ⟨⟨fun _ => ⟨rfl, rfl⟩, fun _ _ => rfl, fun _ _ => rfl, fun _ => rfl, .inl ⟨by omega, hn⟩⟩, by simp [RightDs], by simp [RightDs]⟩
    · exact ⟨⟨fun _ => ⟨rfl, rfl⟩, fun _ h => absurd rfl h, fun _ _ => rfl, fun _ => rfl, .inl ⟨by omega, hn⟩⟩, by simp [RightDs], by simp [RightDs]⟩
    · exact ⟨⟨fun h => absurd rfl h, fun _ _ => rfl, fun _ _ => rfl, fun _ => rfl, .inr ⟨by omega, rfl, hc, hne, .inl rfl⟩⟩, by simp [RightDs], by simp [RightDs]⟩
    · exact ⟨⟨fun _ => ⟨rfl, rfl⟩, fun h => absurd rfl h, fun _ _ => rfl, fun _ => rfl, .inr ⟨by omega, rfl, limbs_nil, fun h => (by cases h), .inl rfl⟩⟩, by simp [RightDs], by simp [RightDs]⟩
    · exact ⟨⟨fun _ => ⟨rfl, rfl⟩, fun _ _ => rfl, fun _ _ => rfl, fun _ => rfl, .inr ⟨by omega, rfl, limbs_nil, fun h => (by cases h), .inl rfl⟩⟩, by simp [RightDs], by simp [RightDs]⟩
    · exact ⟨⟨fun _ => ⟨rfl, rfl⟩, fun _ _ => rfl, fun h1 h2 => by omega, fun h => h7 (by omega), .inr ⟨by omega, rfl, limbs_nil, fun h => (by cases h), hrs⟩⟩, h8, h9⟩
  · rintro ⟨h, h8, h9⟩
    unfold ShapeD at h
    unfold RightD
    obtain ⟨q1, q2, q3, q4, h | ⟨hk, hn, hc, hne, hrs⟩⟩ := h
    · obtain ⟨hk, hn⟩ := h
      have hk1 : k ≠ 1 := by omega
      obtain ⟨rfl, rfl⟩ := q1 hk1
      have hi := q3 (by omega) (by omega)
      have hr := q4 (by omega)
      by_cases h5 : k = 5
      · exact .inr (.inl ⟨h5, hn, rfl, rfl, hi, hr⟩)
      · exact .inl ⟨by omega, hn, rfl, rfl, q2 (by omega) h5, hi, hr⟩
    · by_cases h1 : k = 1
      · exact .inr (.inr (.inl ⟨h1, hn, q2 (by omega) (by omega), q3 (by omega) (by omega), q4 (by omega), hc, hne⟩))
      · obtain ⟨rfl, rfl⟩ := q1 h1
        by_cases h4 : k = 4
        · exact .inr (.inr (.inr (.inl ⟨h4, hn, rfl, rfl, q3 (by omega) (by omega), q4 (by omega)⟩)))
        · have ht := q2 h4 (by omega)
          by_cases h88 : k = 8
          · exact .inr (.inr (.inr (.inr (.inl ⟨h88, hn, rfl, rfl, ht, q3 (by omega) (by omega), q4 (by omega)⟩))))
          · exact .inr (.inr (.inr (.inr (.inr ⟨by omega, hn, rfl, rfl, ht, fun h => q4 (by omega), hrs, h8, h9⟩))))
open Classical in
mutual
/-- How many parts there are behind a datum, if it may be written so deep, so many being told. -/
noncomputable def okD : Dm → Int → Int → Option Int
  | .mk k n neg mag text items rest, deep, p => if deep = 0 ∨ 20000 < p + 1 ∨ ¬ ShapeD (.mk k n neg mag text items rest) then none else
    match okDs items (deep - 1) (p + 1) with
    | none => none
    | some q => okDs rest (deep - 1) q
noncomputable def okDs : List Dm → Int → Int → Option Int
  | [], _, p => some p
  | d :: l, deep, p => match okD d deep p with
    | none => none
    | some q => okDs l deep q
end
theorem okDs_snoc (deep : Int) : ∀ (l : List Dm) (d : Dm) (p : Int), okDs (l ++ [d]) deep p = match okDs l deep p with
    | none => none
    | some q => okD d deep q
  | [], d, p => by
    rw [List.nil_append]
    conv => lhs; unfold okDs
    conv => rhs; unfold okDs
    simp only
    cases okD d deep p with
    | none => rfl
    | some q => simp [okDs]
  | e :: l, d, p => by
    rw [List.cons_append]
    conv => lhs; unfold okDs
    conv => rhs; unfold okDs
    cases okD e deep p with
    | none => rfl
    | some q => exact okDs_snoc deep l d q
mutual
theorem okD_bd : ∀ (d : Dm) (deep p q : Int), okD d deep p = some q → p < q ∧ q ≤ 20000
  | .mk k n neg mag text items rest, deep, p, q, h => by
    unfold okD at h
    split at h
    · cases h
    · rename_i hc
      cases h1 : okDs items (deep - 1) (p + 1) with
      | none => rw [h1] at h; cases h
      | some r =>
        rw [h1] at h
        have h2 := okDs_bd items (deep - 1) (p + 1) r h1
        have h3 := okDs_bd rest (deep - 1) r q h
        omega
theorem okDs_bd : ∀ (l : List Dm) (deep p q : Int), okDs l deep p = some q → p ≤ q ∧ (p ≤ 20000 → q ≤ 20000)
  | [], deep, p, q, h => by unfold okDs at h; cases h; exact ⟨Int.le_refl _, fun h => h⟩
  | d :: l, deep, p, q, h => by
    unfold okDs at h
    cases h1 : okD d deep p with
    | none => rw [h1] at h; cases h
    | some r =>
      rw [h1] at h
      have h2 := okD_bd d deep p r h1
      have h3 := okDs_bd l deep r q h
      omega
end
mutual
/-- How many parts a datum has; how deep it is. -/
def nodesD : Dm → Nat
  | .mk _ _ _ _ _ items rest => 1 + nodesDs items + nodesDs rest
def nodesDs : List Dm → Nat
  | [] => 0
  | d :: l => nodesD d + nodesDs l
end
mutual
def depthD : Dm → Nat
  | .mk _ _ _ _ _ items rest => 1 + max (depthDs items) (depthDs rest)
def depthDs : List Dm → Nat
  | [] => 0
  | d :: l => max (depthD d) (depthDs l)
end
mutual
theorem okD_iff : ∀ (d : Dm) (deep p q : Int), 0 ≤ deep → (okD d deep p = some q ↔ RightD d ∧ (depthD d : Int) ≤ deep ∧ q = p + nodesD d ∧ q ≤ 20000)
  | .mk k n neg mag text items rest, deep, p, q, hd => by
    rw [right_iff]
    unfold okD depthD nodesD
    constructor
    · intro h
      split at h
      · cases h
      · rename_i hc
        cases h1 : okDs items (deep - 1) (p + 1) with
        | none => rw [h1] at h; cases h
        | some r =>
          rw [h1] at h
          simp only at h
          obtain ⟨a1, a2, a3, a4⟩ := (okDs_iff items (deep - 1) (p + 1) r (by omega) (by omega)).1 h1
          obtain ⟨b1, b2, b3, b4⟩ := (okDs_iff rest (deep - 1) r q (by omega) a4).1 h
          have hs : ShapeD (.mk k n neg mag text items rest) := Classical.not_not.1 fun hh => hc (.inr (.inr hh))
          exact ⟨⟨hs, a1, b1⟩, by omega, by omega, b4⟩
    · rintro ⟨⟨hs, h8, h9⟩, h1, h2, h3⟩
      rw [if_neg (by intro hh; rcases hh with hh | hh | hh; omega; omega; exact hh hs)]
      have e1 : okDs items (deep - 1) (p + 1) = some (p + 1 + nodesDs items) := (okDs_iff items (deep - 1) (p + 1) _ (by omega) (by omega)).2 ⟨h8, by omega, rfl, by omega⟩
      rw [e1]
      simp only
      exact (okDs_iff rest (deep - 1) _ q (by omega) (by omega)).2 ⟨h9, by omega, by omega, h3⟩
theorem okDs_iff : ∀ (l : List Dm) (deep p q : Int), 0 ≤ deep → p ≤ 20000 → (okDs l deep p = some q ↔ RightDs l ∧ (depthDs l : Int) ≤ deep ∧ q = p + nodesDs l ∧ q ≤ 20000)
  | [], deep, p, q, hd, hp => by
    unfold okDs RightDs depthDs nodesDs
    constructor
    · intro h; cases h; exact ⟨trivial, by omega, by omega, hp⟩
    · rintro ⟨_, _, h, _⟩; rw [h]; simp
  | d :: l, deep, p, q, hd, hp => by
    unfold okDs RightDs depthDs nodesDs
    constructor
    · intro h
      cases h1 : okD d deep p with
      | none => rw [h1] at h; cases h
      | some r =>
        rw [h1] at h
        simp only at h
        obtain ⟨a1, a2, a3, a4⟩ := (okD_iff d deep p r hd).1 h1
        obtain ⟨b1, b2, b3, b4⟩ := (okDs_iff l deep r q hd a4).1 h
        exact ⟨⟨a1, b1⟩, by omega, by omega, b4⟩
    · rintro ⟨⟨a1, b1⟩, h1, h2, h3⟩
      have e1 : okD d deep p = some (p + nodesD d) := (okD_iff d deep p _ hd).2 ⟨a1, by omega, rfl, by omega⟩
      rw [e1]
      simp only
      exact (okDs_iff l deep _ q hd (by omega)).2 ⟨b1, by omega, by omega, h3⟩
end
end Go.Proofs.Ytkjfplldfjmbaaa
