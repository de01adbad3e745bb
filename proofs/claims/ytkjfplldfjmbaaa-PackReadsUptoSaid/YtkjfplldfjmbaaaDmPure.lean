/- Data as trees, and how they lie in memory. -/
import Derived.Test.YtkjfplldfjmbaaaSep5
namespace Go.Proofs.Ytkjfplldfjmbaaa
open Go.RowKit

/-- A walk is held here. -/
def Held' (p : Prop) : Prop := p
theorem hold {p : Prop} (h : Held' p) : p := h
theorem held {p : Prop} (h : p) : Held' p := h
/-- A datum. -/
inductive Dm where
  | mk (kind n : Int) (neg : Bool) (mag : List Int) (text : ByteArray) (items rest : List Dm)
mutual
/-- How much it is. -/
def Dm.size : Dm → Nat
  | .mk _ _ _ mag text items rest => 1 + mag.length + text.size + (Dm.sizes items + Dm.sizes rest)
def Dm.sizes : List Dm → Nat
  | [] => 0
  | d :: l => d.size + Dm.sizes l
end
def MagW (w : World) (ao : Option Addr) (l : List Int) : Prop := ∀ (j : Nat) x, l[j]? = some x → ∃ a, ao = some a ∧ w.cell? (a.add j) = some (.int .u32 x)
mutual
/-- The datum that these seven cells are, all of whose memory lies in R. -/
def DK (R : HP) : Dm → List Value → Prop
  | .mk kind n neg mag text items rest, cs => ∃ am cm ai ci ar cr, cs = [.int .i64 kind, .int .i64 n, .bool neg, .slice am mag.length cm, .string text, .slice ai items.length ci, .slice ar rest.length cr] ∧
      ((-9223372036854775808 ≤ kind ∧ kind < 9223372036854775808) ∧ (-9223372036854775808 ≤ n ∧ n < 9223372036854775808) ∧ (∀ w, sat w R → MagW w am mag) ∧ (∀ x ∈ mag, 0 ≤ x ∧ x < 4294967296) ∧ mag.length ≤ cm ∧ items.length ≤ ci ∧ rest.length ≤ cr) ∧
      DKs R items ai 0 ∧ DKs R rest ar 0
/-- Data in a row, from the k-th place on. -/
def DKs (R : HP) : List Dm → Option Addr → Nat → Prop
  | [], _, _ => True
  | d :: l, ao, k => (∃ b off cs, ao = some ⟨b, off, none⟩ ∧ (∀ w, sat w R → ∀ (i : Nat) v, cs[i]? = some v → w.cell? ⟨b, off + k * 7 + i, none⟩ = some v) ∧ DK R d cs) ∧ DKs R l ao (k + 1)
end
theorem DK.len {R : HP} {d : Dm} {cs : List Value} (h : DK R d cs) : cs.length = 7 := by
  cases d
  unfold DK at h
  obtain ⟨_, _, _, _, _, _, rfl, _⟩ := h
  rfl
mutual
theorem DK.mono {R Q : HP} (e : ∀ w, sat w Q → sat w R) : ∀ (d : Dm) {cs : List Value}, DK R d cs → DK Q d cs
  | .mk kind n neg mag text items rest, cs, h => by
    unfold DK at h ⊢
    obtain ⟨am, cm, ai, ci, ar, cr, h1, ⟨h2, h3, h4, h5⟩, h6, h7⟩ := h
    exact ⟨am, cm, ai, ci, ar, cr, h1, ⟨h2, h3, fun w hw => h4 w (e w hw), h5⟩, DKs.mono e items h6, DKs.mono e rest h7⟩
theorem DKs.mono {R Q : HP} (e : ∀ w, sat w Q → sat w R) : ∀ (l : List Dm) {ao : Option Addr} {k : Nat}, DKs R l ao k → DKs Q l ao k
  | [], _, _, _ => by unfold DKs; trivial
  | d :: l, ao, k, h => by
    unfold DKs at h ⊢
    obtain ⟨⟨b, off, cs, h1, h2, h3⟩, h4⟩ := h
    exact ⟨⟨b, off, cs, h1, fun w hw => h2 w (e w hw), DK.mono e d h3⟩, DKs.mono e l h4⟩
end
theorem DKs.get {R : HP} : ∀ {l : List Dm} {ao : Option Addr} {k : Nat}, DKs R l ao k → ∀ (i : Nat) d, l[i]? = some d → ∃ b off cs, ao = some ⟨b, off, none⟩ ∧ (∀ w, sat w R → ∀ (j : Nat) v, cs[j]? = some v → w.cell? ⟨b, off + (k + i) * 7 + j, none⟩ = some v) ∧ DK R d cs
  | [], _, _, _, i, d, hd => by simp at hd
  | x :: l, ao, k, h, 0, d, hd => by
    unfold DKs at h
    simp at hd
    subst hd
    exact h.1
  | x :: l, ao, k, h, i + 1, d, hd => by
    unfold DKs at h
    have := DKs.get h.2 i d (by simpa using hd)
    rw [show k + 1 + i = k + (i + 1) by omega] at this
    exact this
/-- Data each of which lies in R, in a row of the call's own. -/
theorem DKs.of_row {R : HP} {b off : Nat} : ∀ (l : List Dm) (css : List (List Value)) (k : Nat), css.length = l.length → (∀ (i : Nat) d cs, l[i]? = some d → css[i]? = some cs → DK R d cs) →
    (∀ w, sat w R → ∀ (i : Nat) cs, css[i]? = some cs → ∀ (j : Nat) v, cs[j]? = some v → w.cell? ⟨b, off + (k + i) * 7 + j, none⟩ = some v) → DKs R l (some ⟨b, off, none⟩) k
  | [], _, _, _, _, _ => by unfold DKs; trivial
  | d :: l, [], _, h, _, _ => by simp at h
  | d :: l, cs :: css, k, h, h1, h2 => by
    unfold DKs
    refine ⟨⟨b, off, cs, rfl, fun w hw j v hv => h2 w hw 0 cs rfl j v hv, h1 0 d cs rfl rfl⟩, ?_⟩
    refine DKs.of_row l css (k + 1) (by simpa using h) (fun i d' cs' hd hc => h1 (i + 1) d' cs' (by simpa using hd) (by simpa using hc)) ?_
    intro w hw i cs' hc j v hv
    have := h2 w hw (i + 1) cs' (by simpa using hc) j v hv
    rw [show k + 1 + i = k + (i + 1) by omega]
    exact this
theorem DKs.nil {R : HP} {ao : Option Addr} {k : Nat} : DKs R [] ao k := by unfold DKs; trivial
/-- What DK says, laid open. -/
theorem DK.open {R : HP} {kind n : Int} {neg : Bool} {mag : List Int} {text : ByteArray} {items rest : List Dm} {cs : List Value} (h : DK R (.mk kind n neg mag text items rest) cs) :
    ∃ am cm ai ci ar cr, cs = [.int .i64 kind, .int .i64 n, .bool neg, .slice am mag.length cm, .string text, .slice ai items.length ci, .slice ar rest.length cr] ∧
      ((-9223372036854775808 ≤ kind ∧ kind < 9223372036854775808) ∧ (-9223372036854775808 ≤ n ∧ n < 9223372036854775808) ∧ (∀ w, sat w R → MagW w am mag) ∧ (∀ x ∈ mag, 0 ≤ x ∧ x < 4294967296) ∧ mag.length ≤ cm ∧ items.length ≤ ci ∧ rest.length ≤ cr) ∧
      DKs R items ai 0 ∧ DKs R rest ar 0 := by
  unfold DK at h
  exact h
theorem DK.mk {R : HP} {kind n : Int} {neg : Bool} {mag : List Int} {text : ByteArray} {items rest : List Dm} {am ai ar : Option Addr} {cm ci cr : Nat}
    (h1 : (-9223372036854775808 ≤ kind ∧ kind < 9223372036854775808) ∧ (-9223372036854775808 ≤ n ∧ n < 9223372036854775808)) (h2 : ∀ w, sat w R → MagW w am mag) (h3 : ∀ x ∈ mag, 0 ≤ x ∧ x < 4294967296)
    (h4 : mag.length ≤ cm ∧ items.length ≤ ci ∧ rest.length ≤ cr) (h5 : DKs R items ai 0) (h6 : DKs R rest ar 0) :
    DK R (.mk kind n neg mag text items rest) [.int .i64 kind, .int .i64 n, .bool neg, .slice am mag.length cm, .string text, .slice ai items.length ci, .slice ar rest.length cr] := by
  unfold DK
  exact ⟨am, cm, ai, ci, ar, cr, rfl, ⟨h1.1, h1.2, h2, h3, h4⟩, h5, h6⟩
theorem Dm.size_le {l : List Dm} {i : Nat} {d : Dm} (h : l[i]? = some d) : d.size ≤ Dm.sizes l := by
  induction l generalizing i with
  | nil => simp at h
  | cons x l ih =>
    unfold Dm.sizes
    cases i with
    | zero => simp at h; subst h; omega
    | succ i => have := ih (i := i) (by simpa using h); omega
theorem Dm.size_pos (d : Dm) : 1 ≤ d.size := by cases d; unfold Dm.size; omega
theorem Dm.len_le (l : List Dm) : l.length ≤ Dm.sizes l := by
  induction l with
  | nil => simp
  | cons d l ih => unfold Dm.sizes; have := d.size_pos; simp only [List.length_cons]; omega
theorem Dm.sizes_app (l m : List Dm) : Dm.sizes (l ++ m) = Dm.sizes l + Dm.sizes m := by
  induction l with
  | nil => simp [Dm.sizes]
  | cons d l ih => simp only [List.cons_append, Dm.sizes, ih]; omega
theorem flat7 {css : List (List Value)} (h : ∀ cs ∈ css, cs.length = 7) : css.flatten.length = css.length * 7 := by
  induction css with
  | nil => rfl
  | cons c l ih => rw [List.flatten_cons, List.length_append, h c (by simp), ih fun x hx => h x (by simp [hx]), List.length_cons]; omega
theorem flat7_get {css : List (List Value)} (h : ∀ cs ∈ css, cs.length = 7) {i j : Nat} {cs : List Value} {v : Value} (hi : css[i]? = some cs) (hj : cs[j]? = some v) : css.flatten[i * 7 + j]? = some v := by
  induction css generalizing i with
  | nil => simp at hi
  | cons c l ih =>
    have hc := h c (by simp)
    cases i with
    | zero =>
      simp at hi
      subst hi
      rw [List.flatten_cons, Nat.zero_mul, Nat.zero_add, List.getElem?_append_left (List.getElem?_eq_some_iff.1 hj).1]
      exact hj
    | succ i =>
      rw [List.flatten_cons, List.getElem?_append_right (by omega), hc, show (i + 1) * 7 + j - 7 = i * 7 + j by omega]
      exact ih (fun x hx => h x (by simp [hx])) (by simpa using hi)
theorem DK.one {R : HP} {d : Dm} {cs : List Value} (h : DK R d cs) : ∀ u ∈ cs, u.oneCell' = true := by
  cases d
  obtain ⟨_, _, _, _, _, _, rfl, _⟩ := h.open
  intro u hu
  simp at hu
  rcases hu with rfl | rfl | rfl | rfl | rfl | rfl | rfl <;> rfl
end Go.Proofs.Ytkjfplldfjmbaaa
