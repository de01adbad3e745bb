/- tandemlaw00.SameProtos. -/
import Derived.Test.YtkjfplldfjmbaaaProtoSame1
import Derived.Test.YtkjfplldfjmbaaaProtoSame2
import Derived.Test.YtkjfplldfjmbaaaProtoSame3
import Derived.Test.YtkjfplldfjmbaaaProtoSame4
import Derived.Test.YtkjfplldfjmbaaaProtoSame5
import Derived.Test.YtkjfplldfjmbaaaProtoSame6
namespace Go.Proofs.Ytkjfplldfjmbaaa
open Go.RowKit
theorem first_at {P : Pr → Pr → Prop} (hP : ∀ p, P p p) {ps qs : List Pr} {k : Nat} {p q : Pr} (ht : ps.take k = qs.take k) (hp : ps[k]? = some p) (hq : qs[k]? = some q) (hne : ¬ p = q) (h : P p q) : FirstD P ps qs := by
  intro j x y hj hx hy
  rcases Nat.lt_trichotomy j k with hl | rfl | hl
  · have e1 : (ps.take k)[j]? = some x := by rw [List.getElem?_take, if_pos hl]; exact hx
    have e2 : (qs.take k)[j]? = some y := by rw [List.getElem?_take, if_pos hl]; exact hy
    rw [ht, e2] at e1
    cases e1
    exact hP _
  · rw [hp] at hx
    rw [hq] at hy
    cases hx
    cases hy
    exact h
  · have e1 : (ps.take j)[k]? = some p := by rw [List.getElem?_take, if_pos hl]; exact hp
    have e2 : (qs.take j)[k]? = some q := by rw [List.getElem?_take, if_pos hl]; exact hq
    rw [hj, e2] at e1
    cases e1
    exact absurd rfl hne
theorem first_kind (ps qs : List Pr) : FirstD P1 ps qs ∨ FirstD P2 ps qs ∨ FirstD P3 ps qs ∨ FirstD P4 ps qs ∨ FirstD P5 ps qs ∨ FirstD P6 ps qs := by
  by_cases h1 : FirstD Eq ps qs
  · exact .inl fun k p q a b c _ => h1 k p q a b c
  · have h2 : ∃ k p q, ps.take k = qs.take k ∧ ps[k]? = some p ∧ qs[k]? = some q ∧ ¬ p = q := by
      apply Classical.byContradiction
      intro h
      refine h1 fun k p q a b c => Classical.byContradiction fun d => h ⟨k, p, q, a, b, c, d⟩
    obtain ⟨k, p, q, ht, hp, hq, hne⟩ := h2
    by_cases g1 : p.name = q.name
    case neg => exact .inl (first_at (fun p _ => rfl) ht hp hq hne (fun h => absurd h g1))
    by_cases g2 : p.args = q.args
    case neg => exact .inr (.inl (first_at (fun p => ⟨rfl, fun _ => rfl⟩) ht hp hq hne (⟨g1, fun h => absurd h g2⟩)))
    by_cases g3 : p.free = q.free
    case neg => exact .inr (.inr (.inl (first_at (fun p => ⟨rfl, rfl, fun _ => rfl⟩) ht hp hq hne (⟨g1, g2, fun h => absurd h g3⟩))))
    by_cases g4 : p.rest = q.rest
    case neg => exact .inr (.inr (.inr (.inl (first_at (fun p => ⟨rfl, rfl, rfl, fun _ => rfl⟩) ht hp hq hne (⟨g1, g2, g3, fun h => absurd h g4⟩)))))
    by_cases g5 : p.code = q.code
    case neg => exact .inr (.inr (.inr (.inr (.inl (first_at (fun p => ⟨rfl, rfl, rfl, rfl, fun _ => rfl⟩) ht hp hq hne (⟨g1, g2, g3, g4, fun h => absurd h g5⟩))))))
    exact .inr (.inr (.inr (.inr (.inr (first_at (fun p => ⟨rfl, rfl, rfl, rfl, rfl⟩) ht hp hq hne ⟨g1, g2, g3, g4, g5⟩)))))
theorem same_protos {w : World} {R : HP} (hs : sat w R) (ao bo : Option Addr) (ca cb : Nat) (ps qs : List Pr) (hx : PrKs R ps ao) (hy : PrKs R qs bo) (n1 n2 : Nat) (hn1 : ps.length = n1) (hn2 : qs.length = n2) (h1 : n1 ≤ 1048576) (h2 : n2 ≤ 1048576)
    (hz1 : ∀ p ∈ ps, p.code.length ≤ 1048576 ∧ Dm.sizes p.consts ≤ 1048576 ∧ p.names.length ≤ 1048576) (hz2 : ∀ p ∈ qs, p.code.length ≤ 1048576 ∧ Dm.sizes p.consts ≤ 1048576 ∧ p.names.length ≤ 1048576) :
    Calls Try.prog 14 #[.slice ao n1 ca, .slice bo n2 cb] w (SaysR R (.bool (samePs ps qs)) w) := by
  rcases first_kind ps qs with h | h | h | h | h | h
  · exact same_protos1 hs ao bo ca cb ps qs hx hy n1 n2 hn1 hn2 h1 h2 hz1 hz2 h
  · exact same_protos2 hs ao bo ca cb ps qs hx hy n1 n2 hn1 hn2 h1 h2 hz1 hz2 h
  · exact same_protos3 hs ao bo ca cb ps qs hx hy n1 n2 hn1 hn2 h1 h2 hz1 hz2 h
  · exact same_protos4 hs ao bo ca cb ps qs hx hy n1 n2 hn1 hn2 h1 h2 hz1 hz2 h
  · exact same_protos5 hs ao bo ca cb ps qs hx hy n1 n2 hn1 hn2 h1 h2 hz1 hz2 h
  · exact same_protos6 hs ao bo ca cb ps qs hx hy n1 n2 hn1 hn2 h1 h2 hz1 hz2 h
end Go.Proofs.Ytkjfplldfjmbaaa
