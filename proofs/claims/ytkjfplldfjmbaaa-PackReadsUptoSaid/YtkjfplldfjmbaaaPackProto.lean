/- Programs, how they lie in memory, and their bytes. -/
import Derived.Test.YtkjfplldfjmbaaaPackDatum3
namespace Go.Proofs.Ytkjfplldfjmbaaa
open Go.RowKit
/-- A proto. -/
structure Pr where
  name : ByteArray
  args : Int
  free : Int
  rest : Bool
  code : List (Int × Int × Int)
  consts : List Dm
  names : List ByteArray
def i64b (x : Int) : Prop := -9223372036854775808 ≤ x ∧ x < 9223372036854775808
/-- Instructions in a row. -/
def CodeR (R : HP) (ao : Option Addr) (l : List (Int × Int × Int)) : Prop := ∀ (i : Nat) t, l[i]? = some t → (∃ b off, ao = some ⟨b, off, none⟩ ∧ ∀ w, sat w R →
  w.cell? ⟨b, off + i * 3, none⟩ = some (.int .i64 t.1) ∧ w.cell? ⟨b, off + i * 3 + 1, none⟩ = some (.int .i64 t.2.1) ∧ w.cell? ⟨b, off + i * 3 + 2, none⟩ = some (.int .i64 t.2.2)) ∧ i64b t.1 ∧ i64b t.2.1 ∧ i64b t.2.2
/-- Texts in a row. -/
def NamesR (R : HP) (ao : Option Addr) (l : List ByteArray) : Prop := ∀ (i : Nat) s, l[i]? = some s → ∃ b off, ao = some ⟨b, off, none⟩ ∧ ∀ w, sat w R → w.cell? ⟨b, off + i, none⟩ = some (.string s)
/-- The proto that these cells are. -/
def PrK (R : HP) (p : Pr) (cs : List Value) : Prop := ∃ ac cc ai ci an cn, cs = [.string p.name, .int .i64 p.args, .int .i64 p.free, .bool p.rest, .slice ac p.code.length cc, .slice ai p.consts.length ci, .slice an p.names.length cn] ∧
  (i64b p.args ∧ i64b p.free) ∧ CodeR R ac p.code ∧ DKs R p.consts ai 0 ∧ NamesR R an p.names ∧ p.code.length ≤ cc ∧ p.consts.length ≤ ci ∧ p.names.length ≤ cn
/-- Protos in a row. -/
def PrKs (R : HP) (l : List Pr) (ao : Option Addr) : Prop := ∀ (i : Nat) p, l[i]? = some p → ∃ b off cs, ao = some ⟨b, off, none⟩ ∧ (∀ w, sat w R → ∀ (j : Nat) v, cs[j]? = some v → w.cell? ⟨b, off + i * 7 + j, none⟩ = some v) ∧ PrK R p cs
theorem CodeR.mono {R Q : HP} {ao : Option Addr} {l : List (Int × Int × Int)} (h : CodeR R ao l) (e : ∀ w, sat w Q → sat w R) : CodeR Q ao l := fun i t ht => by
  obtain ⟨⟨b, off, h1, h2⟩, h3⟩ := h i t ht
  exact ⟨⟨b, off, h1, fun w hw => h2 w (e w hw)⟩, h3⟩
theorem NamesR.mono {R Q : HP} {ao : Option Addr} {l : List ByteArray} (h : NamesR R ao l) (e : ∀ w, sat w Q → sat w R) : NamesR Q ao l := fun i t ht => by
  obtain ⟨b, off, h1, h2⟩ := h i t ht
  exact ⟨b, off, h1, fun w hw => h2 w (e w hw)⟩
theorem PrK.mono {R Q : HP} {p : Pr} {cs : List Value} (h : PrK R p cs) (e : ∀ w, sat w Q → sat w R) : PrK Q p cs := by
  obtain ⟨ac, cc, ai, ci, an, cn, h1, h2, h3, h4, h5, h6⟩ := h
  exact ⟨ac, cc, ai, ci, an, cn, h1, h2, h3.mono e, h4.mono e _, h5.mono e, h6⟩
theorem PrKs.mono {R Q : HP} {l : List Pr} {ao : Option Addr} (h : PrKs R l ao) (e : ∀ w, sat w Q → sat w R) : PrKs Q l ao := fun i p hp => by
  obtain ⟨b, off, cs, h1, h2, h3⟩ := h i p hp
  exact ⟨b, off, cs, h1, fun w hw => h2 w (e w hw), h3.mono e⟩
/-- How much a program is. -/
def Pr.size (p : Pr) : Nat := 1 + p.name.size + p.code.length + Dm.sizes p.consts + (p.names.map fun s => 1 + s.size).sum
def prSizes (l : List Pr) : Nat := (l.map Pr.size).sum
def rightI (t : Int × Int × Int) : Bool := sizeB t.1 && (wholeB t.2.1 && wholeB t.2.2)
/-- How many parts there are behind a proto, if it may be written. -/
noncomputable def okP (p : Pr) (n : Int) : Option Int := if (sizeB p.args && (sizeB p.free && p.code.all rightI)) = true then okDs p.consts 100 n else none
noncomputable def okPs : List Pr → Int → Option Int
  | [], n => some n
  | p :: l, n => match okP p n with
    | none => none
    | some q => okPs l q
theorem okPs_snoc : ∀ (l : List Pr) (p : Pr) (n : Int), okPs (l ++ [p]) n = match okPs l n with
    | none => none
    | some q => okP p q
  | [], p, n => by
    show (match okP p n with | none => none | some q => okPs [] q) = okP p n
    cases okP p n <;> rfl
  | e :: l, p, n => by
    rw [List.cons_append]
    show (match okP e n with | none => none | some q => okPs (l ++ [p]) q) = match (match okP e n with | none => none | some q => okPs l q) with
      | none => none
      | some q => okP p q
    cases okP e n with
    | none => rfl
    | some q => exact okPs_snoc l p q
theorem okPs_none {l : List Pr} {j : Nat} {p : Pr} {n q : Int} (h : l[j]? = some p) (h1 : okPs (l.take j) n = some q) (h2 : okP p q = none) : okPs l n = none := by
  have key : ∀ (l : List Pr) (j : Nat) (p : Pr) (n q : Int), l[j]? = some p → okPs (l.take j) n = some q → okP p q = none → okPs l n = none := by
    intro l
    induction l with
    | nil => intro j d p q h; simp at h
    | cons e l ih =>
      intro j d p q h h1 h2
      cases j with
      | zero =>
        simp at h
        subst h
        rw [List.take_zero] at h1
        cases h1
        show (match okP e p with | none => none | some q => okPs l q) = none
        rw [h2]
      | succ j =>
        rw [List.take_succ_cons] at h1
        show (match okP e p with | none => none | some q => okPs l q) = none
        have h1' : (match okP e p with | none => none | some q => okPs (l.take j) q) = some q := h1
        cases he : okP e p with
        | none => rfl
        | some r =>
          rw [he] at h1'
          exact ih j d r q (by simpa using h) h1' h2
  exact key l j p n q h h1 h2
theorem okPs_next {l : List Pr} {j : Nat} {p : Pr} (h : l[j]? = some p) (n : Int) : okPs (l.take (j + 1)) n = match okPs (l.take j) n with
    | none => none
    | some q => okP p q := by
  rw [List.take_add_one, h]
  exact okPs_snoc (l.take j) p n
theorem all_next {l : List (Int × Int × Int)} {j : Nat} {t : Int × Int × Int} (h : l[j]? = some t) : (l.take (j + 1)).all rightI = ((l.take j).all rightI && rightI t) := by
  rw [List.take_add_one, h]
  simp [List.all_append]
theorem all_none {l : List (Int × Int × Int)} {j : Nat} {t : Int × Int × Int} (h : l[j]? = some t) (h2 : rightI t = false) : l.all rightI = false := by
  rw [List.all_eq_false]
  exact ⟨t, List.mem_of_getElem? h, by rw [h2]; decide⟩
def codeB (l : List (Int × Int × Int)) : List Int := l.flatMap fun t => numB t.1.toNat ++ zigB t.2.1 ++ zigB t.2.2
def namesB (l : List ByteArray) : List Int := l.flatMap textB
/-- A proto's bytes. -/
def protoB (p : Pr) : List Int := textB p.name ++ numB p.args.toNat ++ bitB p.rest ++ numB p.free.toNat ++ numB p.code.length ++ codeB p.code ++ numB p.consts.length ++ constBs p.consts ++ numB p.names.length ++ namesB p.names
def protosB (l : List Pr) : List Int := l.flatMap protoB
/-- A program's bytes. -/
def writeB (l : List Pr) : List Int := [84, 65, 78, 68] ++ numB l.length ++ protosB l
end Go.Proofs.Ytkjfplldfjmbaaa
