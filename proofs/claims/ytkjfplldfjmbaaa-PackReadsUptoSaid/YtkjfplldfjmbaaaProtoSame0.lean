/- tandemlaw00: SameCode, SameTexts, SameProtos. A region that draws its order, whose own operations only read, and whose calls may make memory: one walk in a class of worlds. -/
import Derived.Test.YtkjfplldfjmbaaaPackProto
import Derived.Test.YtkjfplldfjmbaaaDmSame
import Derived.Test.YtkjfplldfjmbaaaSep5
/- tandemlaw00: SameCode, SameTexts, SameProtos. -/
namespace Go.Proofs.Ytkjfplldfjmbaaa
open Go.RowKit
def ScRel {α : Type} (W : World) (R : HP) (n : Nat) (l m : List α) (i : Value) (wr : World) : Prop := ∃ k : Nat, k ≤ n ∧ i = .int .i64 k ∧ sat wr R ∧ Below 0 W wr ∧ l.take k = m.take k
def SqRel {α : Type} (W : World) (n : Nat) (l m : List α) (i : Value) (wr : World) : Prop := ∃ k j : Nat, k ≤ n ∧ i = .int .i64 k ∧ wr = W.drewN j ∧ l.take k = m.take k
theorem take_eq {α : Type} {l m : List α} {k : Nat} {x y : α} (h : l.take k = m.take k) (hx : l[k]? = some x) (hy : m[k]? = some y) (e : x = y) : l.take (k + 1) = m.take (k + 1) := by
  rw [List.take_add_one, List.take_add_one, h, hx, hy, e]
theorem get_ne {α : Type} {l m : List α} {k : Nat} {x y : α} (hx : l[k]? = some x) (hy : m[k]? = some y) (e : ¬ x = y) : ¬ l = m := by
  rintro rfl
  rw [hx] at hy
  exact e (Option.some.inj hy)
theorem take_all {α : Type} {l m : List α} {k : Nat} (h : l.take k = m.take k) (hl : l.length = k) (hm : m.length = k) : l = m := by
  rw [List.take_of_length_le (by omega), List.take_of_length_le (by omega)] at h
  exact h
set_option maxRecDepth 100000 in
set_option maxHeartbeats 2000000 in
theorem same_texts {w : World} {R : HP} (hs : sat w R) (ao bo : Option Addr) (ca cb : Nat) (l m : List ByteArray) (hx : NamesR R ao l) (hy : NamesR R bo m) (n1 n2 : Nat) (hn1 : l.length = n1) (hn2 : m.length = n2) (h1 : n1 ≤ 1048576) (h2 : n2 ≤ 1048576) :
    Calls Try.prog 33 #[.slice ao n1 ca, .slice bo n2 cb] w fun e w' => e = .returned (.bool (decide (l = m))) ∧ ∃ n, w' = w.drewN n := by
  obtain ⟨B, hB⟩ : ∃ B, decide (l = m) = B := ⟨_, rfl⟩
  rw [hB]
  have HL := Lib.hid (And.intro hn1 (And.intro hn2 (And.intro hB (And.intro hx hy))))
  clear hn1 hn2 hB hx hy
  go_enter Try.func33, Try.ntmps33
  by_cases hnn : n1 = n2
  · have e0 : ((n1 : Int) == (n2 : Int)) = true := by simp [hnn]
    subst hnn
    go_wp2_with fail
    go_loopw [5] (SqRel w n1 l m) (fun i _ => n1 - (intOf i).toNat)
    case atStart => exact ⟨0, 0, Nat.zero_le _, rfl, rfl, rfl⟩
    case round =>
      obtain ⟨k, n, hk, rfl, hwr, htk⟩ := hrel
      have hs1 : sat wr R := by rw [hwr]; exact hs.drewN n
      by_cases hlt : k < n1
      · obtain ⟨x, ex⟩ : ∃ d, l[k]? = some d := ⟨_, List.getElem?_eq_getElem (by have := HL.out.1; omega)⟩
        obtain ⟨y, ey⟩ : ∃ e, m[k]? = some e := ⟨_, List.getElem?_eq_getElem (by have := HL.out.2.1; omega)⟩
        obtain ⟨b1, o1, rfl, hcx⟩ := HL.out.2.2.2.1 k x ex
        obtain ⟨b2, o2, rfl, hcy⟩ := HL.out.2.2.2.2 k y ey
        have cx := hcx wr hs1
        have cy := hcy wr hs1
        have HS := Lib.hid (And.intro hwr (And.intro hwr (And.intro htk (And.intro ex ey))))
        clear hs1 hwr htk ex ey hcx hcy hs
        by_cases hxy : x = y
        · have e1 : (x.toList == y.toList) = true := by simp [hxy]
          have e2 : (x.toList != y.toList) = false := by simp [hxy]
          have HX := Lib.hid hxy
          clear hxy
          go_wp2_with fail
          go_quiet (fail)
          go_wp2_with fail
          go_roundw
          case rel => exact ⟨k + 1, _, by omega, by go_num, by rw [HS.out.1, World.drewN_drewN], take_eq HS.out.2.2.1 HS.out.2.2.2.1 HS.out.2.2.2.2 HX.out⟩
          case measure => simp [intOf]; omega
        · have hne : ¬ x.toList = y.toList := fun h => hxy (text_inj h)
          have e1 : (x.toList == y.toList) = false := by simp [hne]
          have e2 : (x.toList != y.toList) = true := by simp [hne]
          have hb0 : B = false := by rw [← HL.out.2.2.1, decide_eq_false_iff_not]; exact get_ne HS.out.2.2.2.1 HS.out.2.2.2.2 hxy
          clear hxy hne
          subst hb0
          go_wp2_with fail
          go_quiet (fail)
          go_wp2_with fail
          go_ret
          exact ⟨rfl, _, by rw [HS.out.1, World.drewN_drewN]⟩
      · obtain rfl : k = n1 := by omega
        have hge : decide ((k : Int) < (k : Int)) = false := by simp
        have hb0 : B = true := by rw [← HL.out.2.2.1, decide_eq_true_eq]; exact take_all htk HL.out.1 HL.out.2.1
        subst hb0
        go_wp2_with fail
        go_ret
        exact ⟨rfl, n, by first | exact hwr | rfl⟩
  · have e0 : ((n1 : Int) == (n2 : Int)) = false := by simp; omega
    have hb0 : B = false := by rw [← HL.out.2.2.1, decide_eq_false_iff_not]; rintro rfl; have h1 := HL.out.1; have h2 := HL.out.2.1; omega
    subst hb0
    go_wp2_with fail
    go_ret
    exact ⟨rfl, 0, rfl⟩
set_option maxRecDepth 100000 in
set_option maxHeartbeats 2000000 in
theorem same_code {w : World} {R : HP} (hs : sat w R) (ao bo : Option Addr) (ca cb : Nat) (l m : List (Int × Int × Int)) (hx : CodeR R ao l) (hy : CodeR R bo m) (n1 n2 : Nat) (hn1 : l.length = n1) (hn2 : m.length = n2) (h1 : n1 ≤ 1048576) (h2 : n2 ≤ 1048576) :
    Calls Try.prog 31 #[.slice ao n1 ca, .slice bo n2 cb] w fun e w' => e = .returned (.bool (decide (l = m))) ∧ ∃ n, w' = w.drewN n := by
  obtain ⟨B, hB⟩ : ∃ B, decide (l = m) = B := ⟨_, rfl⟩
  rw [hB]
  have HL := Lib.hid (And.intro hn1 (And.intro hn2 (And.intro hB (And.intro hx hy))))
  clear hn1 hn2 hB hx hy
  go_enter Try.func31, Try.ntmps31
  by_cases hnn : n1 = n2
  · have e0 : ((n1 : Int) == (n2 : Int)) = true := by simp [hnn]
    subst hnn
    go_wp2_with fail
    go_loopw [5] (SqRel w n1 l m) (fun i _ => n1 - (intOf i).toNat)
    case atStart => exact ⟨0, 0, Nat.zero_le _, rfl, rfl, rfl⟩
    case round =>
      obtain ⟨k, n, hk, rfl, hwr, htk⟩ := hrel
      have hs1 : sat wr R := by rw [hwr]; exact hs.drewN n
      by_cases hlt : k < n1
      · obtain ⟨x, ex⟩ : ∃ d, l[k]? = some d := ⟨_, List.getElem?_eq_getElem (by have := HL.out.1; omega)⟩
        obtain ⟨y, ey⟩ : ∃ e, m[k]? = some e := ⟨_, List.getElem?_eq_getElem (by have := HL.out.2.1; omega)⟩
        obtain ⟨⟨b1, o1, rfl, hcx⟩, _⟩ := HL.out.2.2.2.1 k x ex
        obtain ⟨⟨b2, o2, rfl, hcy⟩, _⟩ := HL.out.2.2.2.2 k y ey
        obtain ⟨x0, x1, x2⟩ := x
        obtain ⟨y0, y1, y2⟩ := y
        obtain ⟨cx0, cx1, cx2⟩ := hcx wr hs1
        obtain ⟨cy0, cy1, cy2⟩ := hcy wr hs1
        dsimp only at cx0 cx1 cx2 cy0 cy1 cy2
        have HS := Lib.hid (And.intro hwr (And.intro hwr (And.intro htk (And.intro ex ey))))
        clear hs1 hwr htk ex ey hcx hcy hs
        by_cases hxy : (x0, x1, x2) = (y0, y1, y2)
        · simp only [Prod.mk.injEq] at hxy
          obtain ⟨rfl, rfl, rfl⟩ := hxy
          go_wp2_with fail
          go_quiet (fail)
          go_wp2_with fail
          go_roundw
          case rel => exact ⟨k + 1, _, by omega, by go_num, by rw [HS.out.1, World.drewN_drewN], take_eq HS.out.2.2.1 HS.out.2.2.2.1 HS.out.2.2.2.2 rfl⟩
          case measure => simp [intOf]; omega
        · have hb0 : B = false := by rw [← HL.out.2.2.1, decide_eq_false_iff_not]; exact get_ne HS.out.2.2.2.1 HS.out.2.2.2.2 hxy
          have hne : ¬ x0 = y0 ∨ (x0 = y0 ∧ ¬ x1 = y1) ∨ (x0 = y0 ∧ x1 = y1 ∧ ¬ x2 = y2) := by
            by_cases a : x0 = y0
            · by_cases b : x1 = y1
              · exact .inr (.inr ⟨a, b, fun c => hxy (by rw [a, b, c])⟩)
              · exact .inr (.inl ⟨a, b⟩)
            · exact .inl a
          clear hxy
          subst hb0
          rcases hne with hq | ⟨rfl, hq⟩ | ⟨rfl, rfl, hq⟩
          all_goals
            go_wp2_with fail
            go_quiet (fail)
            go_wp2_with fail
            go_ret
            exact ⟨rfl, _, by rw [HS.out.1, World.drewN_drewN]⟩
      · obtain rfl : k = n1 := by omega
        have hge : decide ((k : Int) < (k : Int)) = false := by simp
        have hb0 : B = true := by rw [← HL.out.2.2.1, decide_eq_true_eq]; exact take_all htk HL.out.1 HL.out.2.1
        subst hb0
        go_wp2_with fail
        go_ret
        exact ⟨rfl, n, by first | exact hwr | rfl⟩
  · have e0 : ((n1 : Int) == (n2 : Int)) = false := by simp; omega
    have hb0 : B = false := by rw [← HL.out.2.2.1, decide_eq_false_iff_not]; rintro rfl; have h1 := HL.out.1; have h2 := HL.out.2.1; omega
    subst hb0
    go_wp2_with fail
    go_ret
    exact ⟨rfl, 0, rfl⟩
open Classical in
/-- Are two programs the same? -/
noncomputable def samePs (l m : List Pr) : Bool := decide (l = m)
theorem samePs_true {l m : List Pr} : samePs l m = true ↔ l = m := by unfold samePs; simp
theorem samePs_false {l m : List Pr} : samePs l m = false ↔ l ≠ m := by rw [← Bool.not_eq_true, samePs_true]
abbrev pcells (w' : World) (b o : Nat) (v0 v1 v2 v3 v4 v5 v6 : Value) : Prop :=
  w'.cell? ⟨b, o, none⟩ = some v0 ∧ w'.cell? ⟨b, o + 1, none⟩ = some v1 ∧ w'.cell? ⟨b, o + 2, none⟩ = some v2 ∧ w'.cell? ⟨b, o + 3, none⟩ = some v3 ∧ w'.cell? ⟨b, o + 4, none⟩ = some v4 ∧ w'.cell? ⟨b, o + 5, none⟩ = some v5 ∧ w'.cell? ⟨b, o + 6, none⟩ = some v6
/-- The kinds of a first difference. -/
def P1 (p q : Pr) : Prop := (p.name = q.name → p = q)
def P2 (p q : Pr) : Prop := p.name = q.name ∧ (p.args = q.args → p = q)
def P3 (p q : Pr) : Prop := p.name = q.name ∧ p.args = q.args ∧ (p.free = q.free → p = q)
def P4 (p q : Pr) : Prop := p.name = q.name ∧ p.args = q.args ∧ p.free = q.free ∧ (p.rest = q.rest → p = q)
def P5 (p q : Pr) : Prop := p.name = q.name ∧ p.args = q.args ∧ p.free = q.free ∧ p.rest = q.rest ∧ (p.code = q.code → p = q)
def P6 (p q : Pr) : Prop := p.name = q.name ∧ p.args = q.args ∧ p.free = q.free ∧ p.rest = q.rest ∧ p.code = q.code
def FirstD (P : Pr → Pr → Prop) (ps qs : List Pr) : Prop := ∀ (k : Nat) p q, ps.take k = qs.take k → ps[k]? = some p → qs[k]? = some q → P p q
end Go.Proofs.Ytkjfplldfjmbaaa

/- A region that draws its order, whose own operations only read, and whose calls may make memory: one walk in a class of worlds. -/
namespace Go.Proofs.Ytkjfplldfjmbaaa
open Go.RowKit
theorem wp_region_class {P : Program} {id : Nat} {Q : Exit → Act → World → Prop} {a : Act} {w : World} {l : List Oper} {T : Type} (f : T → World) (hm : P.follows .mixedOrders = true) (hB : Region.lexB .any l.toArray = true)
    (hC : ∃ n, w.drewN 1 = f n) (h : wpQuiet P l.toArray (fun w' => ∃ n, w' = f n) (fun a' => ∀ w', (∃ n, w' = f n) → Q .normal a' w') l a) : (Code.region id l.toArray true).wp P Q a w :=
  wp_region_quiet (C := fun w' => ∃ n, w' = f n) hm hB hC (by simpa using h)
/-- The worlds of a kind, numbered. -/
theorem worlds_class (S : World → Prop) : ∃ (T : Type) (f : T → World), (∀ n, S (f n)) ∧ ∀ w', S w' → ∃ n, w' = f n :=
  ⟨{ w // S w }, Subtype.val, Subtype.property, fun w' h => ⟨⟨w', h⟩, rfl⟩⟩
end Go.Proofs.Ytkjfplldfjmbaaa
