/- What Equal says of words that are data. -/
import Derived.Test.YtanjiecefioffaaVE15
import Derived.Test.YtanjiecefioffaaVE13
import Derived.Test.YtanjiecefioffaaVE16
import Derived.Test.YtanjiecefioffaaVE14
import Derived.Test.YtanjiecefioffaaVE2
namespace Go.Proofs.Ytanjiecefioffaa
open Go.RowKit

theorem Dm.size_mem {l : List Dm} {d : Dm} (h : d ∈ l) : d.size ≤ Dm.sizes l := by
  obtain ⟨i, hi⟩ := List.mem_iff_getElem?.1 h
  exact Dm.size_le hi
/-- A plain datum's class. -/
def pcode : Dm → Nat
  | .mk k _ _ _ _ items _ => if k = 1 then 0 else if k = 2 then 1 else if k = 3 then 2 else if k = 8 then 3 else if k = 6 then (if items = [] then 4 else 7) else if k = 4 then 5 else if k = 5 then 6 else if k = 7 then 8 else 9
def leafDm (k n : Int) (t : ByteArray) : Dm := .mk k n false [] t [] []
def numDm (v : Int) : Dm := .mk 1 0 (decide (v < 0)) (limbsOf v.natAbs) noText [] []
theorem hin_at {S : HS} {p : Dm} {u : Int} (h : HIn S p u) : (0 ≤ u ∧ u < 18446744073709551616) ∧
    ((pcode p = 0 ∧ ∃ v, p = numDm v ∧ NumTold S v u) ∨ (pcode p = 1 ∧ ∃ n, p = leafDm 2 n noText ∧ ((n = 0 ∧ u = 2) ∨ (n = 1 ∧ u = 6))) ∨ (pcode p = 2 ∧ ∃ n, p = leafDm 3 n noText ∧ 0 ≤ n ∧ n ≤ 255 ∧ u = 256 * n + 22) ∨
     (pcode p = 3 ∧ p = leafDm 8 0 noText ∧ u = 14) ∨ (pcode p = 4 ∧ p = leafDm 6 0 noText ∧ u = 10) ∨ (pcode p = 5 ∧ ∃ t, p = leafDm 4 0 t ∧ t.size ≤ 8388600 ∧ TextIn S (bytesOf t) u) ∨
     (pcode p = 6 ∧ ∃ t, p = leafDm 5 0 t ∧ t.size ≤ 8388600 ∧ SymIn S (bytesOf t) u) ∨ (pcode p = 7 ∧ ∃ d l rest y, p = .mk 6 0 false [] noText (d :: l) rest ∧ HTo S (d :: l) u y ∧ HEnd S rest y) ∨
     (pcode p = 8 ∧ ∃ items, p = .mk 7 0 false [] noText items [] ∧ items.length ≤ 1048576 ∧ S.is u = true ∧ S.head u = headerOf 2 items.length 0 ∧ HRow S items ((u / 4).toNat + 1))) := by
  cases p with
  | mk k n neg mag text items rest =>
  unfold HIn at h
  obtain ⟨hb, h⟩ := h
  refine ⟨hb, ?_⟩
  rcases h with ⟨v, rfl, rfl, rfl, rfl, rfl, rfl, rfl, h8⟩ | ⟨rfl, rfl, rfl, rfl, rfl, rfl, h7⟩ | ⟨rfl, rfl, rfl, rfl, rfl, rfl, h7, h8, h9⟩ | ⟨rfl, rfl, rfl, rfl, rfl, rfl, h7, h8⟩ | ⟨rfl, rfl, rfl, rfl, rfl, rfl, h7, h8⟩ | ⟨rfl, rfl, rfl, rfl, rfl, rfl, rfl, h8⟩ | ⟨rfl, rfl, rfl, rfl, rfl, y, h6, h7, h8⟩ | ⟨rfl, rfl, rfl, rfl, rfl, rfl, h7, h8, h9, h10⟩
  · exact .inl ⟨rfl, v, rfl, h8⟩
  · exact .inr (.inl ⟨rfl, n, rfl, h7⟩)
  · exact .inr (.inr (.inl ⟨rfl, n, rfl, h7, h8, h9⟩))
  · exact .inr (.inr (.inr (.inr (.inr (.inl ⟨rfl, text, rfl, h7, h8⟩)))))
  · exact .inr (.inr (.inr (.inr (.inr (.inr (.inl ⟨rfl, text, rfl, h7, h8⟩))))))
  · exact .inr (.inr (.inr (.inl ⟨rfl, rfl, h8⟩)))
  · cases items with
    | nil =>
      obtain rfl := h8 rfl
      unfold HTo at h6
      unfold HEnd at h7
      exact .inr (.inr (.inr (.inr (.inl ⟨rfl, rfl, by rw [h6, h7]⟩))))
    | cons d l => exact .inr (.inr (.inr (.inr (.inr (.inr (.inr (.inl ⟨rfl, d, l, rest, y, rfl, h6, h7⟩)))))))
  · exact .inr (.inr (.inr (.inr (.inr (.inr (.inr (.inr ⟨rfl, items, rfl, h7, h8, h9, h10⟩)))))))
/-- What a word asks: its number, its bytes, its shape. -/
structure Asked (S : HS) (c : Nat) (u : Int) : Prop where
  num : (S.num u).isSome = decide (c = 0)
  bytes : S.bytesOk u = decide (c = 5)
  kind5 : c = 5 → S.kind u = 3
  kind6 : c = 6 → S.kind u = 4
  kind7 : S.shape u 1 2 0 = decide (c = 7)
  kind8 : S.shape u 2 (-1) 0 = decide (c = 8)
  k7 : c = 7 → S.kind u = 1
  k8 : c = 8 → S.kind u = 2
theorem bytes_kind {S : HS} {u : Int} (h : S.kind u ≠ 3) : S.bytesOk u = false := by
  unfold HS.bytesOk HS.bytesFit
  rw [shape_kind h]
  rfl
theorem hin_asked {S : HS} (hw : WfH S.ws S.bs) {p : Dm} {u : Int} (h : HIn S p u) : Asked S (pcode p) u := by
  obtain ⟨hb, h⟩ := hin_at h
  have imm : ∀ c, u % 4 = 2 → c ≠ 0 → c ≠ 5 → c ≠ 6 → c ≠ 7 → c ≠ 8 → Asked S c u := by
    intro c h2 h0 h5 h6 h7 h8
    have hk := imm_kind (S := S) h2
    obtain ⟨q1, q2, q3⟩ := imm_no (S := S) h2
    exact ⟨by rw [q1]; simp [h0], by rw [q2]; simp [h5], fun h => absurd h h5, fun h => absurd h h6, by rw [shape_kind (by rw [hk]; decide)]; simp [h7], by rw [shape_kind (by rw [hk]; decide)]; simp [h8], fun h => absurd h h7, fun h => absurd h h8⟩
  rcases h with ⟨hp, v, rfl, h1⟩ | ⟨hp, n, rfl, h1⟩ | ⟨hp, n, rfl, h1, h2, h3⟩ | ⟨hp, rfl, h1⟩ | ⟨hp, rfl, h1⟩ | ⟨hp, t, rfl, h1, h2⟩ | ⟨hp, t, rfl, h1, h2⟩ | ⟨hp, d, l, rest, y, rfl, h1, h2⟩ | ⟨hp, items, rfl, h1, h2, h3, h4⟩
  all_goals rw [hp]
  · have h5 := h1.num hw
    have hk : S.kind u = 0 ∨ S.kind u = 5 := by
      obtain ⟨_, ⟨q1, rfl⟩ | ⟨q1, q2, q3⟩⟩ := h1
      · exact .inl (imm_kind1 (fixW_imm q1))
      · have hwl := numWords_len v
        exact .inr (by unfold HS.kind; rw [q3.head]; exact (num_head (numWords v).length (by omega)).2.2)
    exact ⟨by rw [h5]; rfl, by rw [bytes_kind (by omega)]; rfl, fun h => (by cases h), fun h => (by cases h), by rw [shape_kind (by omega)]; rfl, by rw [shape_kind (by omega)]; rfl, fun h => (by cases h), fun h => (by cases h)⟩
  · exact imm 1 (by omega) (by decide) (by decide) (by decide) (by decide) (by decide)
  · exact imm 2 (by omega) (by decide) (by decide) (by decide) (by decide) (by decide)
  · exact imm 3 (by omega) (by decide) (by decide) (by decide) (by decide) (by decide)
  · exact imm 4 (by omega) (by decide) (by decide) (by decide) (by decide) (by decide)
  · have hz : (bytesOf t).length ≤ 8388600 := by rw [bytesOf_len]; exact h1
    obtain ⟨q1, q2⟩ := h2.bytes hw (bytesOf_u t) hz
    have hwl := wordsOf_len (bytesOf t)
    have hk : S.kind u = 3 := by unfold HS.kind; rw [h2.head]; exact (text_head (wordsOf (bytesOf t)).length (by omega)).2.2
    exact ⟨by rw [text_no h2 hz]; rfl, by rw [q1]; rfl, fun _ => hk, fun h => (by cases h), by rw [shape_kind (by omega)]; rfl, by rw [shape_kind (by omega)]; rfl, fun h => (by cases h), fun h => (by cases h)⟩
  · have hk : S.kind u = 4 := by unfold HS.kind; rw [h2.head]; decide
    obtain ⟨q1, q2⟩ := sym_no h2
    exact ⟨by rw [q1]; rfl, by rw [q2]; rfl, fun h => (by cases h), fun _ => hk, by rw [shape_kind (by omega)]; rfl, by rw [shape_kind (by omega)]; rfl, fun h => (by cases h), fun h => (by cases h)⟩
  · unfold HTo at h1
    obtain ⟨_, hi, hh, _, _⟩ := h1
    obtain ⟨q1, q2, q3⟩ := pair_no hi hh
    have hk : S.kind u = 1 := by unfold HS.kind; rw [hh]; decide
    exact ⟨by rw [q1]; rfl, by rw [q2]; rfl, fun h => (by cases h), fun h => (by cases h), by rw [pair_shape hh]; rfl, by rw [shape_kind (by omega)]; rfl, fun _ => hk, fun h => (by cases h)⟩
  · obtain ⟨q1, q2, q3⟩ := vec_no h1 h2 h3
    obtain ⟨g1, g2, g3⟩ := vec_told hb.1 h1 h3 h4
    have hk : S.kind u = 2 := by unfold HS.kind; rw [h3]; exact (vec_head items.length h1).2.2
    exact ⟨by rw [q1]; rfl, by rw [q2]; rfl, fun h => (by cases h), fun h => (by cases h), by rw [shape_kind (by omega)]; rfl, by rw [g1]; rfl, fun h => (by cases h), fun _ => hk⟩
theorem HEnd.det {S : HS} {r r' : List Dm} {y y' : Int} (hd : ∀ (p q : Dm) (u : Int), p ∈ r → HIn S p u → HIn S q u → p = q) (h : HEnd S r y) (h' : HEnd S r' y') (e : y = y') : r = r' := by
  subst e
  cases r with
  | nil =>
    cases r' with
    | nil => rfl
    | cons d l =>
      unfold HEnd at h h'
      exact absurd h (h'.1.noten h'.2.1)
  | cons d l =>
    cases r' with
    | nil =>
      unfold HEnd at h h'
      exact absurd h' (h.1.noten h.2.1)
    | cons d' l' =>
      unfold HEnd at h h'
      obtain ⟨a1, a2, rfl⟩ := h
      obtain ⟨b1, b2, rfl⟩ := h'
      rw [hd d d' y (List.mem_singleton.2 rfl) a1 b1]
theorem HTo.det {S : HS} : ∀ (l l' : List Dm) {r r' : List Dm} {x y y' : Int}, (∀ (p q : Dm) (u : Int), p ∈ l ++ r → HIn S p u → HIn S q u → p = q) → HTo S l x y → HEnd S r y → HTo S l' x y' → HEnd S r' y' → l = l' ∧ r = r'
  | [], [], r, r', x, y, y', hd, h, he, h', he' => by
    unfold HTo at h h'
    exact ⟨rfl, HEnd.det (fun p q u hp => hd p q u (by simpa using hp)) he he' (by rw [← h, ← h'])⟩
  | [], d :: l, r, r', x, y, y', hd, h, he, h', he' => by
    have h2 := h'.fields.1
    unfold HTo at h
    rw [h, he.nopair] at h2
    cases h2
  | d :: l, [], r, r', x, y, y', hd, h, he, h', he' => by
    have h2 := h.fields.1
    unfold HTo at h'
    rw [h', he'.nopair] at h2
    cases h2
  | d :: l, d' :: l', r, r', x, y, y', hd, h, he, h', he' => by
    obtain ⟨_, _, h3, h4⟩ := h.fields
    obtain ⟨_, _, k3, k4⟩ := h'.fields
    have e1 := hd d d' _ (by simp) h3 k3
    obtain ⟨e2, e3⟩ := HTo.det l l' (fun p q u hp => hd p q u (by rw [List.cons_append]; exact List.mem_cons_of_mem _ hp)) h4 he k4 he'
    exact ⟨by rw [e1, e2], e3⟩
theorem HRow.det {S : HS} : ∀ (l l' : List Dm) {i : Nat}, (∀ (p q : Dm) (u : Int), p ∈ l → HIn S p u → HIn S q u → p = q) → l.length = l'.length → HRow S l i → HRow S l' i → l = l'
  | [], [], _, _, _, _, _ => rfl
  | [], _ :: _, _, _, h, _, _ => by simp at h
  | _ :: _, [], _, _, h, _, _ => by simp at h
  | d :: l, d' :: l', i, hd, hl, h, h' => by
    unfold HRow at h h'
    rw [hd d d' _ (by simp) h.1 h'.1, HRow.det l l' (fun p q u hp => hd p q u (List.mem_cons_of_mem _ hp)) (by simpa using hl) h.2 h'.2]
theorem bytesOf_inj {a b : ByteArray} (h : bytesOf a = bytesOf b) : a = b := by rw [← strOf_bytesOf a, ← strOf_bytesOf b, h]
/-- A word is one datum at most. -/
theorem hin_det {S : HS} (hw : WfH S.ws S.bs) : ∀ (s : Nat) (p q : Dm) (u : Int), p.size ≤ s → HIn S p u → HIn S q u → p = q := by
  intro s
  induction s with
  | zero => intro p q u hs; have := p.size_pos; omega
  | succ s ih =>
    intro p q u hs hp hq
    have ap := hin_asked hw hp
    have aq := hin_asked hw hq
    obtain ⟨hb, hp⟩ := hin_at hp
    obtain ⟨_, hq⟩ := hin_at hq
    have n1 := ap.num.symm.trans aq.num
    have n2 := ap.bytes.symm.trans aq.bytes
    have n3 := ap.kind7.symm.trans aq.kind7
    have n4 := ap.kind8.symm.trans aq.kind8
    simp only [decide_eq_decide] at n1 n2 n3 n4
    have n5 := ap.kind6
    have n6 := aq.kind6
    rcases hp with ⟨c1, v, rfl, h1⟩ | ⟨c1, n, rfl, h1⟩ | ⟨c1, n, rfl, h1, h2, h3⟩ | ⟨c1, rfl, h1⟩ | ⟨c1, rfl, h1⟩ | ⟨c1, t, rfl, h1, h2⟩ | ⟨c1, t, rfl, h1, h2⟩ | ⟨c1, d, l, rest, y, rfl, h1, h2⟩ | ⟨c1, items, rfl, h1, h2, h3, h4⟩
    · rw [c1] at n1
      have c2 := n1.1 rfl
      rcases hq with ⟨_, v', rfl, k1⟩ | ⟨c3, _⟩ | ⟨c3, _⟩ | ⟨c3, _⟩ | ⟨c3, _⟩ | ⟨c3, _⟩ | ⟨c3, _⟩ | ⟨c3, _⟩ | ⟨c3, _⟩
      · have e1 := h1.num hw
        rw [k1.num hw] at e1
        cases e1
        rfl
      all_goals rw [c2] at c3; cases c3
    · rcases hq with ⟨c3, _⟩ | ⟨c3, n', rfl, k1⟩ | ⟨c3, n', rfl, k1, k2, k3⟩ | ⟨c3, rfl, k1⟩ | ⟨c3, rfl, k1⟩ | ⟨c3, _⟩ | ⟨c3, _, _, _, k⟩ | ⟨c3, _⟩ | ⟨c3, _⟩
      · rw [c1, c3] at n1; exact absurd n1 (by decide)
      · rcases h1 with ⟨rfl, e1⟩ | ⟨rfl, e1⟩ <;> rcases k1 with ⟨rfl, e2⟩ | ⟨rfl, e2⟩ <;> first | rfl | omega
      · omega
      · omega
      · omega
      · rw [c1, c3] at n2; exact absurd n2 (by decide)
      · have := (is_iff.1 k.is).1; omega
      · rw [c1, c3] at n3; exact absurd n3 (by decide)
      · rw [c1, c3] at n4; exact absurd n4 (by decide)
    · rcases hq with ⟨c3, _⟩ | ⟨c3, n', rfl, k1⟩ | ⟨c3, n', rfl, k1, k2, k3⟩ | ⟨c3, rfl, k1⟩ | ⟨c3, rfl, k1⟩ | ⟨c3, _⟩ | ⟨c3, _, _, _, k⟩ | ⟨c3, _⟩ | ⟨c3, _⟩
      · rw [c1, c3] at n1; exact absurd n1 (by decide)
      · omega
      · obtain rfl : n = n' := by omega
        rfl
      · omega
      · omega
      · rw [c1, c3] at n2; exact absurd n2 (by decide)
      · have := (is_iff.1 k.is).1; omega
      · rw [c1, c3] at n3; exact absurd n3 (by decide)
      · rw [c1, c3] at n4; exact absurd n4 (by decide)
    · rcases hq with ⟨c3, _⟩ | ⟨c3, n', rfl, k1⟩ | ⟨c3, n', rfl, k1, k2, k3⟩ | ⟨c3, rfl, k1⟩ | ⟨c3, rfl, k1⟩ | ⟨c3, _⟩ | ⟨c3, _, _, _, k⟩ | ⟨c3, _⟩ | ⟨c3, _⟩
      · rw [c1, c3] at n1; exact absurd n1 (by decide)
      · omega
      · omega
      · rfl
      · omega
      · rw [c1, c3] at n2; exact absurd n2 (by decide)
      · have := (is_iff.1 k.is).1; omega
      · rw [c1, c3] at n3; exact absurd n3 (by decide)
      · rw [c1, c3] at n4; exact absurd n4 (by decide)
    · rcases hq with ⟨c3, _⟩ | ⟨c3, n', rfl, k1⟩ | ⟨c3, n', rfl, k1, k2, k3⟩ | ⟨c3, rfl, k1⟩ | ⟨c3, rfl, k1⟩ | ⟨c3, _⟩ | ⟨c3, _, _, _, k⟩ | ⟨c3, _⟩ | ⟨c3, _⟩
      · rw [c1, c3] at n1; exact absurd n1 (by decide)
      · omega
      · omega
      · omega
      · rfl
      · rw [c1, c3] at n2; exact absurd n2 (by decide)
      · have := (is_iff.1 k.is).1; omega
      · rw [c1, c3] at n3; exact absurd n3 (by decide)
      · rw [c1, c3] at n4; exact absurd n4 (by decide)
    · rw [c1] at n2
      have c2 := n2.1 rfl
      rcases hq with ⟨c3, _⟩ | ⟨c3, _⟩ | ⟨c3, _⟩ | ⟨c3, _⟩ | ⟨c3, _⟩ | ⟨_, t', rfl, k1, k2⟩ | ⟨c3, _⟩ | ⟨c3, _⟩ | ⟨c3, _⟩
      rotate_left 5
      · have e1 := (h2.bytes hw (bytesOf_u t) (by rw [bytesOf_len]; exact h1)).2
        rw [(k2.bytes hw (bytesOf_u t') (by rw [bytesOf_len]; exact k1)).2] at e1
        rw [bytesOf_inj e1]
      all_goals rw [c2] at c3; cases c3
    · have n7 := n5 c1
      have h4 := (is_iff.1 h2.is).1
      rcases hq with ⟨c3, _⟩ | ⟨c3, n', rfl, k1⟩ | ⟨c3, n', rfl, k1, k2, k3⟩ | ⟨c3, rfl, k1⟩ | ⟨c3, rfl, k1⟩ | ⟨c3, _⟩ | ⟨c3, t', rfl, k1, k2⟩ | ⟨c3, _⟩ | ⟨c3, _⟩
      · rw [c1, c3] at n1; exact absurd n1 (by decide)
      · omega
      · omega
      · omega
      · omega
      · rw [c1, c3] at n2; exact absurd n2 (by decide)
      · have e1 := (h2.name hw (bytesOf_u t) (by rw [bytesOf_len]; exact h1)).2
        rw [(k2.name hw (bytesOf_u t') (by rw [bytesOf_len]; exact k1)).2, strOf_bytesOf, strOf_bytesOf] at e1
        rw [e1]
      · rw [c1, c3] at n3; exact absurd n3 (by decide)
      · rw [c1, c3] at n4; exact absurd n4 (by decide)
    · rw [c1] at n3
      have c2 := n3.1 rfl
      rw [size_mk] at hs
      rcases hq with ⟨c3, _⟩ | ⟨c3, _⟩ | ⟨c3, _⟩ | ⟨c3, _⟩ | ⟨c3, _⟩ | ⟨c3, _⟩ | ⟨c3, _⟩ | ⟨_, d', l', rest', y', rfl, k1, k2⟩ | ⟨c3, _⟩
      rotate_left 7
      · obtain ⟨e1, e2⟩ := HTo.det (d :: l) (d' :: l') (fun p q u hp => ih p q u (by
          rcases List.mem_append.1 hp with hp | hp
          · have := Dm.size_mem hp; omega
          · have := Dm.size_mem hp; omega)) h1 h2 k1 k2
        rw [e1, e2]
      all_goals rw [c2] at c3; cases c3
    · rw [c1] at n4
      have c2 := n4.1 rfl
      rw [size_mk] at hs
      rcases hq with ⟨c3, _⟩ | ⟨c3, _⟩ | ⟨c3, _⟩ | ⟨c3, _⟩ | ⟨c3, _⟩ | ⟨c3, _⟩ | ⟨c3, _⟩ | ⟨c3, _⟩ | ⟨_, items', rfl, k1, k2, k3, k4⟩
      rotate_left 8
      · have hl : items.length = items'.length := by
          have e1 := (vec_told hb.1 h1 h3 h4).2.1
          have e2 := (vec_told hb.1 k1 k3 k4).2.1
          omega
        rw [HRow.det items items' (fun p q u hp => ih p q u (by have := Dm.size_mem hp; omega)) hl h4 k4]
      all_goals rw [c2] at c3; cases c3
/-- A chain's tail is a datum. -/
def tailDm (l r : List Dm) : Dm := match l, r with
  | [], [] => leafDm 6 0 noText
  | [], d :: _ => d
  | l, r => .mk 6 0 false [] noText l r
theorem tail_in {S : HS} {l r : List Dm} {x y : Int} (hx : 0 ≤ x ∧ x < 18446744073709551616) (h : HTo S l x y) (he : HEnd S r y) : HIn S (tailDm l r) x := by
  cases l with
  | nil =>
    unfold HTo at h
    subst h
    cases r with
    | nil =>
      unfold HEnd at he
      subst he
      show HIn S (leafDm 6 0 noText) 10
      unfold leafDm HIn
      refine ⟨hx, .inr (.inr (.inr (.inr (.inr (.inr (.inl ⟨rfl, rfl, rfl, rfl, rfl, 10, ?_, ?_, fun _ => rfl⟩))))))⟩
      · unfold HTo; rfl
      · unfold HEnd; rfl
    | cons d r =>
      unfold HEnd at he
      exact he.1
  | cons d l =>
    show HIn S (.mk 6 0 false [] noText (d :: l) r) x
    unfold HIn
    exact ⟨hx, .inr (.inr (.inr (.inr (.inr (.inr (.inl ⟨rfl, rfl, rfl, rfl, rfl, y, h, he, fun h => (by cases h)⟩))))))⟩
theorem tail_inj {S : HS} {l r l' r' : List Dm} {y y' : Int} (he : HEnd S r y) (he' : HEnd S r' y') : tailDm l r = tailDm l' r' ↔ l = l' ∧ r = r' := by
  constructor
  · intro h
    have hk : ∀ {r : List Dm} {y : Int}, HEnd S r y → ∀ d l, r = d :: l → d.kind ≠ 6 ∧ l = [] := by
      intro r y he d l hr
      subst hr
      unfold HEnd at he
      exact he.2
    cases l with
    | nil =>
      cases l' with
      | nil =>
        cases r with
        | nil =>
          cases r' with
          | nil => exact ⟨rfl, rfl⟩
          | cons d' t' =>
            have h' : leafDm 6 0 noText = d' := h
            exact absurd (by rw [← h']; rfl) (hk he' d' t' rfl).1
        | cons d t =>
          cases r' with
          | nil =>
            have h' : d = leafDm 6 0 noText := h
            exact absurd (by rw [h']; rfl) (hk he d t rfl).1
          | cons d' t' =>
            have h' : d = d' := h
            rw [h', (hk he d t rfl).2, (hk he' d' t' rfl).2]
            exact ⟨rfl, rfl⟩
      | cons e m =>
        cases r with
        | nil =>
          have h' : leafDm 6 0 noText = .mk 6 0 false [] noText (e :: m) r' := h
          unfold leafDm at h'
          simp at h'
        | cons d t =>
          have h' : d = .mk 6 0 false [] noText (e :: m) r' := h
          exact absurd (by rw [h']; rfl) (hk he d t rfl).1
    | cons e m =>
      cases l' with
      | nil =>
        cases r' with
        | nil =>
          have h' : .mk 6 0 false [] noText (e :: m) r = leafDm 6 0 noText := h
          unfold leafDm at h'
          simp at h'
        | cons d t =>
          have h' : .mk 6 0 false [] noText (e :: m) r = d := h
          exact absurd (by rw [← h']; rfl) (hk he' d t rfl).1
      | cons e' m' =>
        have h' : Dm.mk 6 0 false [] noText (e :: m) r = .mk 6 0 false [] noText (e' :: m') r' := h
        simp only [Dm.mk.injEq, true_and] at h'
        exact h'
  · rintro ⟨rfl, rfl⟩
    rfl
/-- Words that are still to be compared, and their data. -/
inductive Pend (S : HS) : List (Int × Int) → List (Dm × Dm) → Prop
  | nil : Pend S [] []
  | cons {p : Int × Int} {d : Dm × Dm} {l : List (Int × Int)} {D : List (Dm × Dm)} (h1 : HIn S d.1 p.1) (h2 : HIn S d.2 p.2) (h : Pend S l D) : Pend S (p :: l) (d :: D)
theorem Pend.app {S : HS} {l m : List (Int × Int)} {D E : List (Dm × Dm)} (h : Pend S l D) (h' : Pend S m E) : Pend S (l ++ m) (D ++ E) := by
  induction h with
  | nil => exact h'
  | cons h1 h2 _ ih => exact .cons h1 h2 ih
theorem Pend.last {S : HS} {l : List (Int × Int)} {D : List (Dm × Dm)} (h : Pend S l D) (hl : l ≠ []) : ∃ E d, D = E ++ [d] ∧ Pend S l.dropLast E ∧ HIn S d.1 (l.getLast hl).1 ∧ HIn S d.2 (l.getLast hl).2 := by
  induction h with
  | nil => exact absurd rfl hl
  | @cons p d l D h1 h2 h ih =>
    cases l with
    | nil =>
      cases h
      exact ⟨[], d, rfl, .nil, h1, h2⟩
    | cons q m =>
      obtain ⟨E, e, rfl, k1, k2, k3⟩ := ih (by simp)
      exact ⟨d :: E, e, rfl, .cons h1 h2 k1, k2, k3⟩
/-- The pairs of the fields of two vectors. -/
theorem pend_fields {S : HS} {u v : Int} : ∀ (n : Nat) (l m : List Dm), l.length = n → m.length = n → (∀ (k : Nat) d, l[k]? = some d → HIn S d (S.getAt u k)) → (∀ (k : Nat) d, m[k]? = some d → HIn S d (S.getAt v k)) →
    Pend S (S.fields2 u v n) (l.zip m).reverse
  | 0, l, m, hl, hm, _, _ => by
    rw [List.eq_nil_of_length_eq_zero hl]
    exact .nil
  | n + 1, l, m, hl, hm, h1, h2 => by
    have el : l = l.take n ++ [l[n]] := by rw [List.take_append_getElem (by omega), List.take_of_length_le (by omega)]
    have em : m = m.take n ++ [m[n]] := by rw [List.take_append_getElem (by omega), List.take_of_length_le (by omega)]
    have ez : (l.zip m).reverse = (l[n], m[n]) :: ((l.take n).zip (m.take n)).reverse := by
      conv => lhs; rw [el, em]
      rw [List.zip_append (by rw [List.length_take, List.length_take]; omega)]
      simp
    rw [ez]
    refine .cons (h1 n _ (List.getElem?_eq_getElem (by omega))) (h2 n _ (List.getElem?_eq_getElem (by omega))) ?_
    refine pend_fields n (l.take n) (m.take n) (by rw [List.length_take]; omega) (by rw [List.length_take]; omega) ?_ ?_
    · intro k d hd
      rw [List.getElem?_take] at hd
      split at hd
      · exact h1 k d hd
      · cases hd
    · intro k d hd
      rw [List.getElem?_take] at hd
      split at hd
      · exact h2 k d hd
      · cases hd
theorem zip_eq : ∀ (l m : List Dm), l.length = m.length → (l = m ↔ ∀ d ∈ (l.zip m).reverse, d.1 = d.2)
  | [], [], _ => by simp
  | [], _ :: _, h => by simp at h
  | _ :: _, [], h => by simp at h
  | a :: l, b :: m, h => by
    have ih := zip_eq l m (by simpa using h)
    simp only [List.mem_reverse] at ih ⊢
    constructor
    · intro e d hd
      simp only [List.cons.injEq] at e
      rw [List.zip_cons_cons] at hd
      rcases List.mem_cons.1 hd with rfl | hd
      · exact e.1
      · exact ih.1 e.2 d hd
    · intro e
      have h1 := e (a, b) (by simp)
      have h2 := ih.2 (fun d hd => e d (by rw [List.zip_cons_cons]; exact List.mem_cons_of_mem _ hd))
      simp only at h1
      rw [h1, h2]
/-- Each symbol is told by its name. -/
def SymOne (S : HS) : Prop := ∀ (t : ByteArray) x y, t.size ≤ 8388600 → SymIn S (bytesOf t) x → SymIn S (bytesOf t) y → x = y
theorem SyOk.one {S : HS} {Y : StS} (h : SyOk S Y) (hw : WfH S.ws S.bs) : SymOne S := by
  have key : ∀ (t : ByteArray) x, t.size ≤ 8388600 → SymIn S (bytesOf t) x → Y.syms.get t = some x := by
    intro t x ht hx
    have hk : S.kind x = 4 := by unfold HS.kind; rw [hx.head]; decide
    obtain ⟨s, hg⟩ := h.uniq x hx.is hk
    obtain ⟨h1, h2⟩ := h.sym s x hg
    have e1 := (hx.name hw (bytesOf_u t) (by rw [bytesOf_len]; exact ht)).2
    rw [(h1.name hw (bytesOf_u s) (by rw [bytesOf_len]; omega)).2, strOf_bytesOf, strOf_bytesOf] at e1
    rw [← e1]
    exact hg
  intro t x y ht hx hy
  have h1 := key t x ht hx
  rw [key t y ht hy] at h1
  exact (Option.some.inj h1).symm
theorem hto_bd {S : HS} {l r : List Dm} {x y : Int} (h : HTo S l x y) (he : HEnd S r y) : 0 ≤ x ∧ x < 18446744073709551616 := by
  cases l with
  | nil => unfold HTo at h; rw [h]; exact he.bd
  | cons d l => unfold HTo at h; exact h.1
theorem num_inj {v w : Int} (h1 : decide (v < 0) = decide (w < 0)) (h2 : limbsOf v.natAbs = limbsOf w.natAbs) : v = w := by
  have h3 : v.natAbs = w.natAbs := by rw [← valL_limbsOf v.natAbs, ← valL_limbsOf w.natAbs, h2]
  rw [decide_eq_decide] at h1
  omega
theorem parts_told {S : HS} (hw : WfH S.ws S.bs) (hs : SymOne S) {p q : Dm} {u v : Int} (hp : HIn S p u) (hq : HIn S q v) :
    match S.parts u v with
    | none => p ≠ q
    | some ps => ∃ D, Pend S ps D ∧ (p = q ↔ ∀ d ∈ D, d.1 = d.2) := by
  have ap := hin_asked hw hp
  have aq := hin_asked hw hq
  unfold HS.parts
  by_cases he : S.eqv u v = true
  · rw [if_pos he]
    refine ⟨[], .nil, fun _ d hd => by simp at hd, fun _ => ?_⟩
    unfold HS.eqv at he
    rw [Bool.or_eq_true, Bool.and_eq_true, Bool.and_eq_true] at he
    rcases he with he | ⟨h1, h2, h3⟩
    · obtain rfl := of_decide_eq_true he
      exact hin_det hw _ p q u (Nat.le_refl _) hp hq
    · have c1 := of_decide_eq_true (ap.num.symm.trans h1)
      have c2 := of_decide_eq_true (aq.num.symm.trans h2)
      obtain ⟨_, hp'⟩ := hin_at hp
      obtain ⟨_, hq'⟩ := hin_at hq
      have key : ∀ {p : Dm} {u : Int}, pcode p = 0 → HIn S p u → ∃ v, p = numDm v ∧ S.num u = some v := by
        intro p u hc h
        obtain ⟨_, h⟩ := hin_at h
        rcases h with ⟨_, v, h1, h2⟩ | ⟨c, _⟩ | ⟨c, _⟩ | ⟨c, _⟩ | ⟨c, _⟩ | ⟨c, _⟩ | ⟨c, _⟩ | ⟨c, _⟩ | ⟨c, _⟩
        · exact ⟨v, h1, h2.num hw⟩
        all_goals rw [hc] at c; cases c
      obtain ⟨x, rfl, e1⟩ := key c1 hp
      obtain ⟨y, rfl, e2⟩ := key c2 hq
      have := of_decide_eq_true h3
      rw [e1, e2] at this
      simp only [Option.getD_some] at this
      rw [this]
  · rw [if_neg he]
    have hne : u ≠ v := by
      rintro rfl
      exact he (by unfold HS.eqv; simp)
    by_cases hb : (S.bytesOk u && S.bytesOk v) = true
    · rw [if_pos hb]
      rw [Bool.and_eq_true, ap.bytes, aq.bytes] at hb
      have key : ∀ {p : Dm} {u : Int}, pcode p = 5 → HIn S p u → ∃ t, p = leafDm 4 0 t ∧ S.bytes u = bytesOf t := by
        intro p u hc h
        obtain ⟨_, h⟩ := hin_at h
        rcases h with ⟨c, _⟩ | ⟨c, _⟩ | ⟨c, _⟩ | ⟨c, _⟩ | ⟨c, _⟩ | ⟨_, t, h1, h2, h3⟩ | ⟨c, _⟩ | ⟨c, _⟩ | ⟨c, _⟩
        rotate_left 5
        · exact ⟨t, h1, (h3.bytes hw (bytesOf_u t) (by rw [bytesOf_len]; exact h2)).2⟩
        all_goals rw [hc] at c; cases c
      obtain ⟨x, rfl, e1⟩ := key (of_decide_eq_true hb.1) hp
      obtain ⟨y, rfl, e2⟩ := key (of_decide_eq_true hb.2) hq
      rw [e1, e2]
      by_cases hxy : bytesOf x = bytesOf y
      · rw [if_pos hxy]
        exact ⟨[], .nil, fun _ d hd => by simp at hd, fun _ => by rw [bytesOf_inj hxy]⟩
      · rw [if_neg hxy]
        intro h
        unfold leafDm at h
        simp only [Dm.mk.injEq, true_and, and_true] at h
        exact hxy (by rw [h])
    · rw [if_neg hb]
      obtain ⟨bu, hp'⟩ := hin_at hp
      obtain ⟨bv, hq'⟩ := hin_at hq
      by_cases hk : S.kin u v = true
      · rw [if_pos hk]
        unfold HS.kin at hk
        rw [Bool.or_eq_true, Bool.and_eq_true, Bool.and_eq_true, ap.kind7, aq.kind7, ap.kind8] at hk
        rcases hk with ⟨k1, k2⟩ | ⟨k1, k2⟩
        · have key : ∀ {p : Dm} {u : Int}, pcode p = 7 → HIn S p u → ∃ d l rest y, p = .mk 6 0 false [] noText (d :: l) rest ∧ HTo S (d :: l) u y ∧ HEnd S rest y := by
            intro p u hc h
            obtain ⟨_, h⟩ := hin_at h
            rcases h with ⟨c, _⟩ | ⟨c, _⟩ | ⟨c, _⟩ | ⟨c, _⟩ | ⟨c, _⟩ | ⟨c, _⟩ | ⟨c, _⟩ | ⟨_, h⟩ | ⟨c, _⟩
            rotate_left 7
            · exact h
            all_goals rw [hc] at c; cases c
          obtain ⟨d, l, r, y, rfl, h1, h2⟩ := key (of_decide_eq_true k1) hp
          obtain ⟨d', l', r', y', rfl, h1', h2'⟩ := key (of_decide_eq_true k2) hq
          obtain ⟨_, _, f1, f2⟩ := h1.fields
          obtain ⟨_, _, g1, g2⟩ := h1'.fields
          have ht : (S.tag u).toNat = 2 := by
            have := h1
            unfold HTo at this
            obtain ⟨_, _, hh, _⟩ := this
            unfold HS.tag
            rw [hh]
            decide
          rw [ht]
          have b1 : 0 ≤ S.getAt u 1 ∧ S.getAt u 1 < 18446744073709551616 := hto_bd f2 h2
          have b2 : 0 ≤ S.getAt v 1 ∧ S.getAt v 1 < 18446744073709551616 := hto_bd g2 h2'
          refine ⟨[(tailDm l r, tailDm l' r'), (d, d')], .cons (tail_in b1 f2 h2) (tail_in b2 g2 h2') (.cons f1 g1 .nil), ?_⟩
          constructor
          · intro e x hx
            simp only [Dm.mk.injEq, true_and, List.cons.injEq] at e
            obtain ⟨⟨e1, e2⟩, e3⟩ := e
            simp at hx
            rcases hx with rfl | rfl
            · simp only; rw [e2, e3]
            · exact e1
          · intro e
            have e1 := e (tailDm l r, tailDm l' r') (by simp)
            have e2 := e (d, d') (by simp)
            simp only at e1 e2
            obtain ⟨e3, e4⟩ := (tail_inj h2 h2').1 e1
            rw [e2, e3, e4]
        · have key : ∀ {p : Dm} {u : Int}, 0 ≤ u → pcode p = 8 → HIn S p u → ∃ items, p = .mk 7 0 false [] noText items [] ∧ S.tag u = items.length ∧ ∀ (k : Nat) d, items[k]? = some d → HIn S d (S.getAt u k) := by
            intro p u hu hc h
            obtain ⟨_, h⟩ := hin_at h
            rcases h with ⟨c, _⟩ | ⟨c, _⟩ | ⟨c, _⟩ | ⟨c, _⟩ | ⟨c, _⟩ | ⟨c, _⟩ | ⟨c, _⟩ | ⟨c, _⟩ | ⟨_, items, h1, h2, h3, h4, h5⟩
            rotate_left 8
            · exact ⟨items, h1, (vec_told hu h2 h4 h5).2⟩
            all_goals rw [hc] at c; cases c
          unfold HS.shape at k2
          rw [Bool.and_eq_true, Bool.and_eq_true] at k2
          have hkv := of_decide_eq_true k2.1
          have c2 : pcode q = 8 := by
            have a1 := aq.kind8
            by_cases hc : pcode q = 8
            · exact hc
            · exfalso
              rcases hq' with ⟨c, w, rfl, h1⟩ | ⟨c, n, rfl, h1⟩ | ⟨c, n, rfl, h1, h2, h3⟩ | ⟨c, rfl, h1⟩ | ⟨c, rfl, h1⟩ | ⟨c, _⟩ | ⟨c, _⟩ | ⟨c, _⟩ | ⟨c, _⟩
              · have hk5 : S.kind v = 0 ∨ S.kind v = 5 := by
                  obtain ⟨_, ⟨q1, rfl⟩ | ⟨q1, q2, q3⟩⟩ := h1
                  · exact .inl (imm_kind1 (fixW_imm q1))
                  · have hwl := numWords_len w
                    exact .inr (by unfold HS.kind; rw [q3.head]; exact (num_head (numWords w).length (by omega)).2.2)
                omega
              · have := imm_kind (S := S) (x := v) (by omega); omega
              · have := imm_kind (S := S) (x := v) (by omega); omega
              · have := imm_kind (S := S) (x := v) (by omega); omega
              · have := imm_kind (S := S) (x := v) (by omega); omega
              · have := aq.kind5 c; omega
              · have := aq.kind6 c; omega
              · have := aq.k7 c; omega
              · exact hc c
          obtain ⟨items, rfl, t1, f1⟩ := key bu.1 (of_decide_eq_true k1) hp
          obtain ⟨items', rfl, t2, f2⟩ := key bv.1 c2 hq
          have hl : items.length = items'.length := by
            have h3 := k2.2.1
            rw [Bool.or_eq_true] at h3
            rcases h3 with h3 | h3
            · have := of_decide_eq_true h3; omega
            · have := of_decide_eq_true h3; omega
          rw [t1]
          refine ⟨(items.zip items').reverse, pend_fields items.length items items' rfl hl.symm f1 f2, ?_⟩
          rw [← zip_eq items items' hl]
          simp only [Dm.mk.injEq, true_and, and_true]
      · rw [if_neg hk]
        rintro rfl
        have hc := ap
        rcases hp' with ⟨c, w, rfl, h1⟩ | ⟨c, n, rfl, h1⟩ | ⟨c, n, rfl, h1, h2, h3⟩ | ⟨c, rfl, h1⟩ | ⟨c, rfl, h1⟩ | ⟨c, t, rfl, h1⟩ | ⟨c, t, rfl, h1, h2⟩ | ⟨c, _⟩ | ⟨c, items, rfl, h1, h2, h3, h4⟩
        · rcases hq' with ⟨_, w', e, k1⟩ | ⟨c', _⟩ | ⟨c', _⟩ | ⟨c', _⟩ | ⟨c', _⟩ | ⟨c', _⟩ | ⟨c', _⟩ | ⟨c', _⟩ | ⟨c', _⟩
          · have e1 := h1.num hw
            have e2 := k1.num hw
            have e3 : w = w' := by
              have g1 := NumTold.num h1 hw
              unfold numDm at e
              simp only [Dm.mk.injEq, true_and, and_true] at e
              exact num_inj e.1 e.2
            refine he ?_
            unfold HS.eqv
            rw [e1, e2, e3]
            simp
          all_goals rw [c] at c'; cases c'
        · rcases hq' with ⟨c', _⟩ | ⟨_, n', e, k1⟩ | ⟨c', _⟩ | ⟨c', _⟩ | ⟨c', _⟩ | ⟨c', _⟩ | ⟨c', _⟩ | ⟨c', _⟩ | ⟨c', _⟩
          rotate_left 1
          · unfold leafDm at e
            simp only [Dm.mk.injEq, true_and, and_true] at e
            omega
          all_goals rw [c] at c'; cases c'
        · rcases hq' with ⟨c', _⟩ | ⟨c', _⟩ | ⟨_, n', e, k1, k2, k3⟩ | ⟨c', _⟩ | ⟨c', _⟩ | ⟨c', _⟩ | ⟨c', _⟩ | ⟨c', _⟩ | ⟨c', _⟩
          rotate_left 2
          · unfold leafDm at e
            simp only [Dm.mk.injEq, true_and, and_true] at e
            omega
          all_goals rw [c] at c'; cases c'
        · rcases hq' with ⟨c', _⟩ | ⟨c', _⟩ | ⟨c', _⟩ | ⟨_, e, k1⟩ | ⟨c', _⟩ | ⟨c', _⟩ | ⟨c', _⟩ | ⟨c', _⟩ | ⟨c', _⟩
          rotate_left 3
          · omega
          all_goals rw [c] at c'; cases c'
        · rcases hq' with ⟨c', _⟩ | ⟨c', _⟩ | ⟨c', _⟩ | ⟨c', _⟩ | ⟨_, e, k1⟩ | ⟨c', _⟩ | ⟨c', _⟩ | ⟨c', _⟩ | ⟨c', _⟩
          rotate_left 4
          · omega
          all_goals rw [c] at c'; cases c'
        · refine hb ?_
          rw [ap.bytes, aq.bytes, c]
          rfl
        · rcases hq' with ⟨c', _⟩ | ⟨c', _⟩ | ⟨c', _⟩ | ⟨c', _⟩ | ⟨c', _⟩ | ⟨c', _⟩ | ⟨_, t', e, k1, k2⟩ | ⟨c', _⟩ | ⟨c', _⟩
          rotate_left 6
          · unfold leafDm at e
            simp only [Dm.mk.injEq, true_and, and_true] at e
            rw [← e] at k2
            exact hne (hs t _ _ h1 h2 k2)
          all_goals rw [c] at c'; cases c'
        · refine hk ?_
          unfold HS.kin
          rw [ap.kind7, aq.kind7, c]
          rfl
        · rcases hq' with ⟨c', _⟩ | ⟨c', _⟩ | ⟨c', _⟩ | ⟨c', _⟩ | ⟨c', _⟩ | ⟨c', _⟩ | ⟨c', _⟩ | ⟨c', _⟩ | ⟨_, items', e, k1, k2, k3, k4⟩
          rotate_left 8
          · refine hk ?_
            simp only [Dm.mk.injEq, true_and, and_true] at e
            obtain ⟨_, t1, _⟩ := vec_told bu.1 h1 h3 h4
            obtain ⟨s2, t2, _⟩ := vec_told bv.1 k1 k3 k4
            unfold HS.kin
            have s3 : S.shape v 2 (S.tag u) 0 = true := by
              unfold HS.shape at s2 ⊢
              rw [Bool.and_eq_true, Bool.and_eq_true] at s2 ⊢
              refine ⟨s2.1, ?_, s2.2.2⟩
              rw [t1, t2, e]
              simp
            rw [ap.kind8, s3, c]
            simp
          all_goals rw [c] at c'; cases c'
theorem run_told {S : HS} (hw : WfH S.ws S.bs) (hs : SymOne S) : ∀ (f : Nat) (l : List (Int × Int)) (D : List (Dm × Dm)), Pend S l D → (S.eqRun f l).2 = true → ((S.eqRun f l).1 = true ↔ ∀ d ∈ D, d.1 = d.2)
  | 0, l, D, h, he => by
    unfold HS.eqRun at he ⊢
    by_cases hl : l = []
    · subst hl
      cases h
      simp
    · rw [if_neg hl] at he
      cases he
  | f + 1, l, D, h, he => by
    unfold HS.eqRun at he ⊢
    by_cases hl : l = []
    · subst hl
      cases h
      simp
    · rw [dif_neg hl] at he ⊢
      obtain ⟨E, d, rfl, h1, h2, h3⟩ := h.last hl
      have hp := parts_told hw hs h2 h3
      cases hps : S.parts (l.getLast hl).1 (l.getLast hl).2 with
      | none =>
        rw [hps] at hp
        simp only at hp
        constructor
        · intro h; cases h
        · intro h
          exact absurd (h d (by simp)) hp
      | some ps =>
        rw [hps] at hp he
        simp only at hp he ⊢
        obtain ⟨D2, k1, k2⟩ := hp
        rw [run_told hw hs f (l.dropLast ++ ps) (E ++ D2) (h1.app k1) he]
        constructor
        · intro g x hx
          rcases List.mem_append.1 hx with hx | hx
          · exact g x (List.mem_append.2 (.inl hx))
          · rw [List.mem_singleton.1 hx]
            exact k2.2 (fun y hy => g y (List.mem_append.2 (.inr hy)))
        · intro g x hx
          rcases List.mem_append.1 hx with hx | hx
          · exact g x (List.mem_append.2 (.inl hx))
          · exact k2.1 (g d (by simp)) x hx
theorem equal_told {S : HS} (hw : WfH S.ws S.bs) (hs : SymOne S) {p q : Dm} {u v : Int} (hp : HIn S p u) (hq : HIn S q v) (he : (S.equal u v).2 = true) : (S.equal u v).1 = sameB p q := by
  have h := run_told hw hs 20000 [(u, v)] [(p, q)] (.cons hp hq .nil) he
  rw [Bool.eq_iff_iff, sameB_true]
  unfold HS.equal
  rw [h]
  simp
end Go.Proofs.Ytanjiecefioffaa

/- ValueEquals' walk. -/
namespace Go.Proofs.Ytanjiecefioffaa
open Go.RowKit
section
variable {w : World} {X : StV} {V : HV} {S : HS} {Y : StS} {R : HP}
theorem StW.copyD (h : StW w X V S Y R) {d : Dm} {cs : List Value} (hd : DK R d cs) (hz : d.size ≤ 1048576) :
    Calls Try.prog 27 #[.agg cs.toArray] w fun e w' => ∃ cs2 M, e = .returned (.agg cs2.toArray) ∧ DK M d cs2 ∧ StW w' X V S Y (M * R) ∧ Below 0 w w' := by
  refine (copy_dm h.s (hd.mono (fun w h => h.right.right) _) hz).mono ?_
  rintro e w' ⟨cs2, M, he, hd2, hs2, hb2⟩
  exact ⟨cs2, M, he, hd2, ⟨hs2.perm (by ac_rfl), h.ok⟩, hb2⟩
/-- A datum that was put: its word. -/
structure WasPut (n0 : Nat) (d : Dm) (S : HS) (x : Int) : Prop where
  hin : HIn S (plainP d) x
  new : ∀ k n p m t i r, d = .mk k n p m t i r → (k = 4 ∨ k = 7 ∨ (k = 6 ∧ i ≠ []) → 4 * (n0 : Int) ≤ x) ∧ (k = 6 → i = [] → r = [])
theorem WasPut.ext {n0 : Nat} {d : Dm} {S S' : HS} {x : Int} (h : WasPut n0 d S x) (e : Ext S S') (hw : WfH S.ws S.bs) : WasPut n0 d S' x := ⟨HIn.ext e hw _ h.hin, h.new⟩
theorem HIn.lt {S : HS} {p : Dm} {x : Int} (hw : WfH S.ws S.bs) (h : HIn S p x) (hp : pcode p = 5 ∨ pcode p = 7 ∨ pcode p = 8) : x < 4 * (S.ws.length : Int) := by
  have key : S.is x = true := by
    obtain ⟨_, h⟩ := hin_at h
    rcases h with ⟨c, _⟩ | ⟨c, _⟩ | ⟨c, _⟩ | ⟨c, _⟩ | ⟨c, _⟩ | ⟨_, t, _, _, h1⟩ | ⟨c, _⟩ | ⟨_, d, l, r, y, _, h1, _⟩ | ⟨_, items, _, _, h1, _⟩
    rotate_left 5
    · exact h1.is
    rotate_left 1
    · unfold HTo at h1; exact h1.2.1
    · exact h1
    all_goals rw [c] at hp; rcases hp with hp | hp | hp <;> cases hp
  have h1 := is_lt hw key
  have h2 := is_nonneg hw key
  have h3 := (is_iff.1 key).1
  omega
/-- Eqv of a datum that is put twice. -/
theorem eqv_twice {S0 S : HS} (hw0 : WfH S0.ws S0.bs) (hw : WfH S.ws S.bs) (hs : SymOne S) {d : Dm} {a b : Int} (ha : HIn S0 (plainP d) a) (ha' : HIn S (plainP d) a) (hb : WasPut S0.ws.length d S b)
    (k n : Int) (p : Bool) (m : List Int) (t : ByteArray) (i r : List Dm) (hd : d = .mk k n p m t i r) : S.eqv a b = !(decide (k = 4) || (decide (k = 7) || (decide (k = 6) && decide (0 < i.length)))) := by
  subst hd
  obtain ⟨hn, hl⟩ := hb.new k n p m t i r rfl
  have aa := hin_asked hw ha'
  have ab := hin_asked hw hb.hin
  have hc : plainP (.mk k n p m t i r) = plainP (.mk k n p m t i r) := rfl
  have old : (pcode (plainP (.mk k n p m t i r)) = 5 ∨ pcode (plainP (.mk k n p m t i r)) = 7 ∨ pcode (plainP (.mk k n p m t i r)) = 8) → (k = 4 ∨ k = 7 ∨ (k = 6 ∧ i ≠ [])) → S.eqv a b = false := by
    intro h1 h2
    have h3 := ha.lt hw0 h1
    have h4 := hn h2
    have hne : a ≠ b := by omega
    have hnum : (S.num a).isSome = false := by
      rw [aa.num]
      rcases h1 with h1 | h1 | h1 <;> rw [h1] <;> rfl
    unfold HS.eqv
    rw [hnum, decide_eq_false hne]
    rfl
  have young : pcode (plainP (.mk k n p m t i r)) ≠ 5 → pcode (plainP (.mk k n p m t i r)) ≠ 7 → pcode (plainP (.mk k n p m t i r)) ≠ 8 → S.eqv a b = true := by
    intro c5 c7 c8
    obtain ⟨_, ha2⟩ := hin_at ha'
    obtain ⟨_, hb2⟩ := hin_at hb.hin
    have same : a = b → S.eqv a b = true := by rintro rfl; unfold HS.eqv; simp
    generalize plainP (.mk k n p m t i r) = q at *
    rcases ha2 with ⟨c, v, rfl, h1⟩ | ⟨c, z, rfl, h1⟩ | ⟨c, z, rfl, h1, h2, h3⟩ | ⟨c, rfl, h1⟩ | ⟨c, rfl, h1⟩ | ⟨c, _⟩ | ⟨c, z, rfl, h1, h2⟩ | ⟨c, _⟩ | ⟨c, _⟩
    · have e1 := h1.num hw
      rcases hb2 with ⟨_, v', e, k1⟩ | ⟨c', _⟩ | ⟨c', _⟩ | ⟨c', _⟩ | ⟨c', _⟩ | ⟨c', _⟩ | ⟨c', _⟩ | ⟨c', _⟩ | ⟨c', _⟩
      · unfold numDm at e
        simp only [Dm.mk.injEq, true_and, and_true] at e
        obtain rfl := num_inj e.1 e.2
        have e2 := k1.num hw
        unfold HS.eqv
        rw [e1, e2]
        simp
      all_goals rw [c] at c'; cases c'
    · rcases hb2 with ⟨c', _⟩ | ⟨_, z', e, k1⟩ | ⟨c', _⟩ | ⟨c', _⟩ | ⟨c', _⟩ | ⟨c', _⟩ | ⟨c', _⟩ | ⟨c', _⟩ | ⟨c', _⟩
      rotate_left 1
      · unfold leafDm at e
        simp only [Dm.mk.injEq, true_and, and_true] at e
        exact same (by omega)
      all_goals rw [c] at c'; cases c'
    · rcases hb2 with ⟨c', _⟩ | ⟨c', _⟩ | ⟨_, z', e, k1, k2, k3⟩ | ⟨c', _⟩ | ⟨c', _⟩ | ⟨c', _⟩ | ⟨c', _⟩ | ⟨c', _⟩ | ⟨c', _⟩
      rotate_left 2
      · unfold leafDm at e
        simp only [Dm.mk.injEq, true_and, and_true] at e
        exact same (by omega)
      all_goals rw [c] at c'; cases c'
    · rcases hb2 with ⟨c', _⟩ | ⟨c', _⟩ | ⟨c', _⟩ | ⟨_, e, k1⟩ | ⟨c', _⟩ | ⟨c', _⟩ | ⟨c', _⟩ | ⟨c', _⟩ | ⟨c', _⟩
      rotate_left 3
      · exact same (by omega)
      all_goals rw [c] at c'; cases c'
    · rcases hb2 with ⟨c', _⟩ | ⟨c', _⟩ | ⟨c', _⟩ | ⟨c', _⟩ | ⟨_, e, k1⟩ | ⟨c', _⟩ | ⟨c', _⟩ | ⟨c', _⟩ | ⟨c', _⟩
      rotate_left 4
      · exact same (by omega)
      all_goals rw [c] at c'; cases c'
    · exact absurd c c5
    · rcases hb2 with ⟨c', _⟩ | ⟨c', _⟩ | ⟨c', _⟩ | ⟨c', _⟩ | ⟨c', _⟩ | ⟨c', _⟩ | ⟨_, z', e, k1, k2⟩ | ⟨c', _⟩ | ⟨c', _⟩
      rotate_left 6
      · unfold leafDm at e
        simp only [Dm.mk.injEq, true_and, and_true] at e
        rw [← e] at k2
        exact same (hs z _ _ h1 h2 k2)
      all_goals rw [c] at c'; cases c'
    · exact absurd c c7
    · exact absurd c c8
  by_cases h4 : k = 4
  · subst h4
    rw [old (.inl (by rw [plain_at, if_neg (by decide), if_neg (by decide), if_pos (.inl rfl)]; rfl)) (.inl rfl)]
    rfl
  · by_cases h7 : k = 7
    · subst h7
      rw [old (.inr (.inr (by rw [plain_at, if_neg (by decide), if_neg (by decide), if_neg (by decide), if_neg (by decide), if_pos rfl]; rfl))) (.inr (.inl rfl))]
      rfl
    · by_cases h6 : k = 6
      · subst h6
        cases i with
        | nil =>
          obtain rfl := hl rfl rfl
          have e : plainP (.mk 6 n p m t [] []) = leafDm 6 0 noText := by rw [plain_at, if_neg (by decide), if_neg (by decide), if_neg (by decide), if_pos rfl]; rfl
          rw [e] at young
          exact young (by decide) (by decide) (by decide)
        | cons x l =>
          have e : pcode (plainP (.mk 6 n p m t (x :: l) r)) = 7 := by
            rw [plain_at, if_neg (by decide), if_neg (by decide), if_neg (by decide), if_pos rfl]
            have e2 : plainPs (x :: l) = plainP x :: plainPs l := by conv => lhs; unfold plainPs
            rw [e2]
            split
            · rename_i q hq
              cases q with
              | mk k2 n2 p2 m2 t2 i2 r2 =>
              simp only [joinD]
              split <;> rfl
            · rfl
          rw [old (.inr (.inl e)) (.inr (.inr ⟨rfl, by simp⟩))]
          simp
      · have e : pcode (plainP (.mk k n p m t i r)) ≠ 5 ∧ pcode (plainP (.mk k n p m t i r)) ≠ 7 ∧ pcode (plainP (.mk k n p m t i r)) ≠ 8 := by
          rw [plain_at]
          split
          · exact ⟨by simp [pcode], by simp [pcode], by simp [pcode]⟩
          · split
            · rename_i h
              rcases h with rfl | rfl <;> exact ⟨by simp [pcode], by simp [pcode], by simp [pcode]⟩
            · split
              · rename_i h
                rcases h with rfl | rfl
                · exact absurd rfl h4
                · exact ⟨by simp [pcode], by simp [pcode], by simp [pcode]⟩
              · rename_i q1 q2 q3
                have h23 : k ≠ 2 ∧ k ≠ 3 := by omega
                have h5 : k ≠ 5 := by omega
                simp only [pcode, if_neg q1, if_neg h23.1, if_neg h23.2, if_neg h6, if_neg h4, if_neg h5, if_neg h7]
                split <;> exact ⟨by decide, by decide, by decide⟩
        rw [young e.1 e.2.1 e.2.2, decide_eq_false h4, decide_eq_false h7, decide_eq_false h6]
        rfl
end
set_option maxRecDepth 100000 in
set_option maxHeartbeats 4000000 in
theorem valueEquals_walk (W : World) (d : Dm) (cs : List Value) (e : Dm) (ds : List Value) (hd : DK (whole W) d cs ∧ d.size ≤ 1048576) (he : DK (whole W) e ds ∧ e.size ≤ 1048576) :
    Calls Try.prog 9 #[.agg cs.toArray, .agg ds.toArray] W fun e w' => e = .returned (.bool true) ∧ Below W.heap.size W w' := by
  obtain ⟨hd, hdz⟩ := hd
  obtain ⟨he, hez⟩ := he
  have hdo : ∀ k n p m t i r, d = .mk k n p m t i r → ∃ ng am cm tx ai ci ar rl cr ml, cs = [.int .i64 k, .int .i64 n, .bool ng, .slice am ml cm, .string tx, .slice ai i.length ci, .slice ar rl cr] := by
    intro k n p m t i r hh
    subst hh
    obtain ⟨am, cm, ai, ci, ar, cr, h, _⟩ := hd.open
    exact ⟨_, _, _, _, _, _, _, _, _, _, h⟩
  obtain ⟨kd, nd, pd, md, td, id, rd, hdm⟩ : ∃ k n p m t i r, d = .mk k n p m t i r := by cases d; exact ⟨_, _, _, _, _, _, _, rfl⟩
  obtain ⟨ngd, amd, cmd, txd, aid, cid, ard, rld, crd, mld, rfl⟩ := hdo _ _ _ _ _ _ _ hdm
  obtain ⟨ild, hild⟩ : ∃ ild, id.length = ild := ⟨_, rfl⟩
  rw [hild] at hd ⊢
  obtain ⟨ke, ne, nge, ame, mle, cme, txe, aie, ile, cie, are, rle, cre, rfl⟩ := he.cells
  have hs0 := ((sat_whole W).alloc (dmO [.int .i64 kd, .int .i64 nd, .bool ngd, .slice amd mld cmd, .string txd, .slice aid ild cid, .slice ard rld crd])).alloc (dmO [.int .i64 ke, .int .i64 ne, .bool nge, .slice ame mle cme, .string txe, .slice aie ile cie, .slice are rle cre])
  have hb0 := (Below.zero_alloc W (dmO [.int .i64 kd, .int .i64 nd, .bool ngd, .slice amd mld cmd, .string txd, .slice aid ild cid, .slice ard rld crd])).trans (Below.zero_alloc _ (dmO [.int .i64 ke, .int .i64 ne, .bool nge, .slice ame mle cme, .string txe, .slice aie ile cie, .slice are rle cre]))
  rw [World.size_alloc] at hs0
  obtain ⟨g, hg⟩ : ∃ g, W.heap.size = g := ⟨_, rfl⟩
  rw [hg] at hs0
  have hcc : ∀ w', sat w' (Go.Proofs.Ytanjiecefioffaa.blk (g + 1) (dmO [.int .i64 ke, .int .i64 ne, .bool nge, .slice ame mle cme, .string txe, .slice aie ile cie, .slice are rle cre]) * (Go.Proofs.Ytanjiecefioffaa.blk g (dmO [.int .i64 kd, .int .i64 nd, .bool ngd, .slice amd mld cmd, .string txd, .slice aid ild cid, .slice ard rld crd]) * whole W)) → (w'.cell? ⟨g, 0, none⟩ = some (.int .i64 kd) ∧ w'.cell? ⟨g, 1, none⟩ = some (.int .i64 nd) ∧ w'.cell? ⟨g, 2, none⟩ = some (.bool ngd) ∧ w'.cell? ⟨g, 3, none⟩ = some (.slice amd mld cmd) ∧ w'.cell? ⟨g, 4, none⟩ = some (.string txd) ∧ w'.cell? ⟨g, 5, none⟩ = some (.slice aid ild cid) ∧ w'.cell? ⟨g, 6, none⟩ = some (.slice ard rld crd) ∧ w'.cell? ⟨g + 1, 0, none⟩ = some (.int .i64 ke) ∧ w'.cell? ⟨g + 1, 1, none⟩ = some (.int .i64 ne) ∧ w'.cell? ⟨g + 1, 2, none⟩ = some (.bool nge) ∧ w'.cell? ⟨g + 1, 3, none⟩ = some (.slice ame mle cme) ∧ w'.cell? ⟨g + 1, 4, none⟩ = some (.string txe) ∧ w'.cell? ⟨g + 1, 5, none⟩ = some (.slice aie ile cie) ∧ w'.cell? ⟨g + 1, 6, none⟩ = some (.slice are rle cre)) := fun w' h => ⟨(h.right.left.cell 0).trans rfl, (h.right.left.cell 1).trans rfl, (h.right.left.cell 2).trans rfl, (h.right.left.cell 3).trans rfl, (h.right.left.cell 4).trans rfl, (h.right.left.cell 5).trans rfl, (h.right.left.cell 6).trans rfl, (h.left.cell 0).trans rfl, (h.left.cell 1).trans rfl, (h.left.cell 2).trans rfl, (h.left.cell 3).trans rfl, (h.left.cell 4).trans rfl, (h.left.cell 5).trans rfl, (h.left.cell 6).trans rfl⟩
  obtain ⟨F, hF⟩ : ∃ F : HP, F = Go.Proofs.Ytanjiecefioffaa.blk (g + 1) (dmO [.int .i64 ke, .int .i64 ne, .bool nge, .slice ame mle cme, .string txe, .slice aie ile cie, .slice are rle cre]) * (Go.Proofs.Ytanjiecefioffaa.blk g (dmO [.int .i64 kd, .int .i64 nd, .bool ngd, .slice amd mld cmd, .string txd, .slice aid ild cid, .slice ard rld crd]) * whole W) := ⟨_, rfl⟩
  rw [← hF] at hs0 hcc
  have hFW : ∀ w', sat w' F → sat w' (whole W) := fun w' h => by rw [hF] at h; exact h.right.right
  have hdF : DK F d [.int .i64 kd, .int .i64 nd, .bool ngd, .slice amd mld cmd, .string txd, .slice aid ild cid, .slice ard rld crd] := hd.mono (fun w' h => hFW w' h) _
  have heF : DK F e [.int .i64 ke, .int .i64 ne, .bool nge, .slice ame mle cme, .string txe, .slice aie ile cie, .slice are rle cre] := he.mono (fun w' h => hFW w' h) _
  have H0 := Lib.hid (And.intro hs0 (And.intro hb0 (And.intro hdF (And.intro heF (And.intro hdz (And.intro hez (And.intro hcc (And.intro hFW (And.intro hdm (And.intro hild (And.intro hd he)))))))))))
  clear hs0 hb0 hd he hdz hez hcc hFW hdF heF hF hdo hdm hild
  go_enter Try.func9, Try.ntmps9
  go_wp2_with fail
  clear hg
  generalize (W.alloc (dmO [.int .i64 kd, .int .i64 nd, .bool ngd, .slice amd mld cmd, .string txd, .slice aid ild cid, .slice ard rld crd])).alloc (dmO [.int .i64 ke, .int .i64 ne, .bool nge, .slice ame mle cme, .string txe, .slice aie ile cie, .slice are rle cre]) = w0 at *
  refine (StNew_good 65536 H0.out.1 (by decide) (by decide)).mono ?_
  rintro e1 w1 ⟨X, V, rfl, h1, hb1⟩
  obtain ⟨x0, x1, x2, x3, x4, x5, x6, y0, y1, y2, y3, y4, y5, y6⟩ := H0.out.2.2.2.2.2.2.1 w1 h1.fr
  have hC := h1.copyD (H0.out.2.2.1) H0.out.2.2.2.2.1
  have H1 := Lib.hid (H0.out.2.1.trans hb1)
  clear h1 hb1
  go_wp2_with fail
  refine hC.mono ?_
  clear hC x0 x1 x2 x3 x4 x5 x6 y0 y1 y2 y3 y4 y5 y6
  rintro e2 w2 ⟨cs2, M2, rfl, hd2, h2, hb2⟩
  have hP := h2.Put_dm (SyOk.new 65536) d H0.out.2.2.2.2.1 cs2 (hd2.mono (fun w h => h.left) _)
  have H2 := Lib.hid (H1.out.trans hb2)
  clear hb2 h2 hd2
  go_wp2_with fail
  refine hP.mono ?_
  clear hP
  rintro e3 w3 ⟨X3, V3, S3, Y3, a, ok, rfl, hg3, h3, hy3, he3, hm3, ⟨hba, hqa⟩, hb3⟩
  have h3d : StW w3 X3 V3 S3 Y3 F := ⟨(h3.s.perm (show _ = M2 * (isHeap V3 S3 * (isSt X3 V3.g Y3 * F)) by ac_rfl)).right, h3.ok⟩
  obtain ⟨x0, x1, x2, x3, x4, x5, x6, y0, y1, y2, y3, y4, y5, y6⟩ := H0.out.2.2.2.2.2.2.1 w3 h3d.fr
  have hC := h3d.copyD (H0.out.2.2.1) H0.out.2.2.2.2.1
  have H3 := Lib.hid (And.intro (H2.out.trans hb3) (And.intro hg3 (And.intro h3.ok (And.intro hy3 (And.intro hba hqa)))))
  clear h3 h3d hy3 he3 hm3 hba hqa hb3 hg3
  go_wp2_with fail
  refine hC.mono ?_
  clear hC x0 x1 x2 x3 x4 x5 x6 y0 y1 y2 y3 y4 y5 y6
  rintro e4 w4 ⟨cs4, M4, rfl, hd4, h4, hb4⟩
  have hP := h4.Put_dm H3.out.2.2.2.1 d H0.out.2.2.2.2.1 cs4 (hd4.mono (fun w h => h.left) _)
  rw [H3.out.2.1.1] at hP
  have H4 := Lib.hid (H3.out.1.trans hb4)
  clear hb4 h4 hd4
  go_wp2_with fail
  refine hP.mono ?_
  clear hP
  rintro e5 w5 ⟨X5, V5, S5, Y5, b, ok2, rfl, hg5, h5, hy5, he5, hm5, ⟨hbb, hqb⟩, hb5⟩
  have h5d : StW w5 X5 V5 S5 Y5 F := ⟨(h5.s.perm (show _ = M4 * (isHeap V5 S5 * (isSt X5 V5.g Y5 * F)) by ac_rfl)).right, h5.ok⟩
  obtain ⟨x0, x1, x2, x3, x4, x5, x6, y0, y1, y2, y3, y4, y5, y6⟩ := H0.out.2.2.2.2.2.2.1 w5 h5d.fr
  have hC := h5d.copyD (H0.out.2.2.2.1) H0.out.2.2.2.2.2.1
  have H5 := Lib.hid (And.intro (H4.out.trans hb5) (And.intro (hg5.1.trans H3.out.2.1.1) (And.intro h5.ok (And.intro hy5 (And.intro hbb (And.intro hqb he5.1))))))
  clear h5 h5d hy5 he5 hm5 hbb hqb hb5 hg5
  go_wp2_with fail
  refine hC.mono ?_
  clear hC x0 x1 x2 x3 x4 x5 x6 y0 y1 y2 y3 y4 y5 y6
  rintro e6 w6 ⟨cs6, M6, rfl, hd6, h6, hb6⟩
  have hP := h6.Put_dm H5.out.2.2.2.1 e H0.out.2.2.2.2.2.1 cs6 (hd6.mono (fun w h => h.left) _)
  rw [H5.out.2.1] at hP
  have H6 := Lib.hid (H5.out.1.trans hb6)
  clear hb6 h6 hd6
  go_wp2_with fail
  refine hP.mono ?_
  clear hP
  rintro e7 w7 ⟨X7, V7, S7, Y7, c, ok3, rfl, hg7, h7, hy7, he7, hm7, ⟨hbc, hqc⟩, hb7⟩
  have h7d : StW w7 X7 V7 S7 Y7 F := ⟨(h7.s.perm (show _ = M6 * (isHeap V7 S7 * (isSt X7 V7.g Y7 * F)) by ac_rfl)).right, h7.ok⟩
  have hgg := hg7.1.trans H5.out.2.1
  have H7 := Lib.hid (And.intro h7d (And.intro (H6.out.trans hb7) (And.intro hgg (And.intro hy7 (And.intro hbc (And.intro hqc he7.1))))))
  clear h7 h7d hy7 he7 hm7 hbc hqc hb7 hg7 hgg
  have hbad : ∀ e8 w8, e8 = Ending.returned (.bool true) ∧ sat w8 F ∧ Below 0 w7 w8 → e8 = Ending.returned (.bool true) ∧ Below W.heap.size W w8 := by
    rintro e8 w8 ⟨rfl, h8, hb8⟩
    exact ⟨rfl, below_of_whole' (H0.out.2.2.2.2.2.2.2.1 _ h8) (H7.out.2.1.trans hb8)⟩
  have HB := Lib.hid hbad
  clear hbad
  by_cases hok : ok = true ∧ ok2 = true ∧ ok3 = true
  · obtain ⟨rfl, rfl, rfl⟩ := hok
    have hE1 := H7.out.1.Equal a b H3.out.2.2.2.2.1.1 H3.out.2.2.2.2.1.2 H5.out.2.2.2.2.1.1 H5.out.2.2.2.2.1.2
    have hA3 : WasPut (HS.new 65536).ws.length d S3 a := ⟨(H3.out.2.2.2.2.2 rfl).1, fun k n p m t i r h => ((H3.out.2.2.2.2.2 rfl).2 k n p m t i r h).2⟩
    have hB5 : WasPut S3.ws.length d S5 b := ⟨(H5.out.2.2.2.2.2.1 rfl).1, fun k n p m t i r h => ((H5.out.2.2.2.2.2.1 rfl).2 k n p m t i r h).2⟩
    have hC7 : HIn S7 (plainP e) c := (H7.out.2.2.2.2.2.1 rfl).1
    have hA5 := hA3.ext H5.out.2.2.2.2.2.2 H3.out.2.2.1.wf
    have hA7 := hA5.ext H7.out.2.2.2.2.2.2 H5.out.2.2.1.wf
    have hB7 := hB5.ext H7.out.2.2.2.2.2.2 H5.out.2.2.1.wf
    have hwf := H7.out.1.ok.wf
    have hone := H7.out.2.2.2.1.one hwf
    have hev := eqv_twice H3.out.2.2.1.wf hwf hone hA3.hin hA7.hin hB7 kd nd pd md td id rd H0.out.2.2.2.2.2.2.2.2.1
    have t1 := equal_told hwf hone hA7.hin hB7.hin
    have t2 := equal_told hwf hone hA7.hin hC7
    rw [H7.out.2.2.1] at hE1
    obtain ⟨r1, hr1⟩ : ∃ r, S7.equal a b = r := ⟨_, rfl⟩
    obtain ⟨r2, hr2⟩ : ∃ r, S7.equal a c = r := ⟨_, rfl⟩
    rw [hr1] at hE1 t1
    rw [hr2] at t2
    obtain ⟨x, dn⟩ := r1
    obtain ⟨y, en⟩ := r2
    simp only at hE1 t1 t2
    have hx : dn = true → x = true := fun h => by rw [t1 h]; exact sameB_true.2 rfl
    have HT := Lib.hid (And.intro hx (And.intro t2 (And.intro hev hr2)))
    clear hA3 hB5 hC7 hA5 hA7 hB7 hwf hone hev t1 t2 hx hr1 hr2
    go_wp2_with fail
    refine hE1.mono ?_
    clear hE1
    rintro e8 w8 ⟨rfl, h8, hb8⟩
    have hE2 := h8.Equal a c H3.out.2.2.2.2.1.1 H3.out.2.2.2.2.1.2 H7.out.2.2.2.2.1.1 H7.out.2.2.2.2.1.2
    rw [H7.out.2.2.1, HT.out.2.2.2] at hE2
    simp only at hE2
    have H8 := Lib.hid (H7.out.2.1.trans hb8)
    clear h8 hb8
    go_wp2_with fail
    refine hE2.mono ?_
    clear hE2
    rintro e9 w9 ⟨rfl, h9, hb9⟩
    have H9 := Lib.hid (And.intro h9 (H8.out.trans hb9))
    clear h9 hb9
    obtain ⟨G, hG⟩ : ∃ G : HP, G = isHeap V7 S7 * (isSt X7 V7.g Y7 * F) := ⟨_, rfl⟩
    cases en with
    | false =>
      cases dn with
      | false =>
        go_wp2_with fail
        go_quiet (fail)
        have hst := H9.out.1.drewN nq
        have hbl := H9.out.2.trans (drewN_below0 w9 nq)
        obtain ⟨x0, x1, x2, x3, x4, x5, x6, y0, y1, y2, y3, y4, y5, y6⟩ := H0.out.2.2.2.2.2.2.1 _ hst.fr
        have hV := hst.Eqv a b H3.out.2.2.2.2.1.1 H3.out.2.2.2.2.1.2 H5.out.2.2.2.2.1.1 H5.out.2.2.2.2.1.2
        rw [H7.out.2.2.1, HT.out.2.2.1] at hV
        have hild := H0.out.2.2.2.2.2.2.2.2.2.1
        rw [hild] at hV
        have HL := Lib.hid hbl
        clear hst hbl hild
        by_cases k4 : kd = 4
        case' pos =>
          subst k4
          rw [show (!(decide ((4 : Int) = 4) || (decide ((4 : Int) = 7) || (decide ((4 : Int) = 6) && decide (0 < ild))))) = false by simp] at hV
          go_upto_region 14 with fail
        case' neg =>
          have e4 : (kd == 4) = false := by rw [beq_eq_false_iff_ne]; exact k4
          by_cases k7 : kd = 7
          case' pos =>
            subst k7
            rw [show (!(decide ((7 : Int) = 4) || (decide ((7 : Int) = 7) || (decide ((7 : Int) = 6) && decide (0 < ild))))) = false by simp] at hV
            go_upto_region 14 with fail
          case' neg =>
            have e7 : (kd == 7) = false := by rw [beq_eq_false_iff_ne]; exact k7
            by_cases k6 : kd = 6 ∧ 0 < ild
            case' pos =>
              obtain ⟨k6, hi⟩ := k6
              subst k6
              have hi2 : decide ((ild : Int) > 0) = true := by rw [decide_eq_true_eq]; omega
              rw [show (!(decide ((6 : Int) = 4) || (decide ((6 : Int) = 7) || (decide ((6 : Int) = 6) && decide (0 < ild))))) = false by simp [hi]] at hV
              go_upto_region 14 with fail
            case' neg =>
              by_cases k66 : kd = 6
              case' pos =>
                have hi : ¬ 0 < ild := fun h => k6 ⟨k66, h⟩
                clear k6
                subst k66
                have hi2 : decide ((ild : Int) > 0) = false := by rw [decide_eq_false_iff_not]; omega
                rw [show (!(decide ((6 : Int) = 4) || (decide ((6 : Int) = 7) || (decide ((6 : Int) = 6) && decide (0 < ild))))) = true by simp [hi]] at hV
                go_upto_region 14 with fail
              case' neg =>
                have e6 : (kd == 6) = false := by rw [beq_eq_false_iff_ne]; exact k66
                rw [show (!(decide (kd = 4) || (decide (kd = 7) || (decide (kd = 6) && decide (0 < ild))))) = true by simp [k4, k7, k66]] at hV
                clear k6
                go_upto_region 14 with fail
        all_goals
          go_wp2_with fail
          refine hV.mono ?_
          clear hV
          rintro e11 w11 ⟨rfl, h11, hb11⟩
          have H11 := Lib.hid (And.intro h11 (HL.out.trans hb11))
          clear h11 hb11
          go_wp2_with fail
          refine (awake_any _ H11.out.1.fr).mono ?_
          rintro e12 w12 ⟨rfl, h12, hb12⟩
          go_wp2_with fail
          go_ret
          exact ⟨rfl, below_of_whole' (H0.out.2.2.2.2.2.2.2.1 _ h12) (H11.out.2.trans hb12)⟩
      | true =>
        obtain rfl := HT.out.1 (by trivial)
        go_wp2_with fail
        go_quiet (fail)
        have hst := H9.out.1.drewN nq
        have hbl := H9.out.2.trans (drewN_below0 w9 nq)
        obtain ⟨x0, x1, x2, x3, x4, x5, x6, y0, y1, y2, y3, y4, y5, y6⟩ := H0.out.2.2.2.2.2.2.1 _ hst.fr
        have hV := hst.Eqv a b H3.out.2.2.2.2.1.1 H3.out.2.2.2.2.1.2 H5.out.2.2.2.2.1.1 H5.out.2.2.2.2.1.2
        rw [H7.out.2.2.1, HT.out.2.2.1] at hV
        have hild := H0.out.2.2.2.2.2.2.2.2.2.1
        rw [hild] at hV
        have HL := Lib.hid hbl
        clear hst hbl hild
        by_cases k4 : kd = 4
        case' pos =>
          subst k4
          rw [show (!(decide ((4 : Int) = 4) || (decide ((4 : Int) = 7) || (decide ((4 : Int) = 6) && decide (0 < ild))))) = false by simp] at hV
          go_upto_region 14 with fail
        case' neg =>
          have e4 : (kd == 4) = false := by rw [beq_eq_false_iff_ne]; exact k4
          by_cases k7 : kd = 7
          case' pos =>
            subst k7
            rw [show (!(decide ((7 : Int) = 4) || (decide ((7 : Int) = 7) || (decide ((7 : Int) = 6) && decide (0 < ild))))) = false by simp] at hV
            go_upto_region 14 with fail
          case' neg =>
            have e7 : (kd == 7) = false := by rw [beq_eq_false_iff_ne]; exact k7
            by_cases k6 : kd = 6 ∧ 0 < ild
            case' pos =>
              obtain ⟨k6, hi⟩ := k6
              subst k6
              have hi2 : decide ((ild : Int) > 0) = true := by rw [decide_eq_true_eq]; omega
              rw [show (!(decide ((6 : Int) = 4) || (decide ((6 : Int) = 7) || (decide ((6 : Int) = 6) && decide (0 < ild))))) = false by simp [hi]] at hV
              go_upto_region 14 with fail
            case' neg =>
              by_cases k66 : kd = 6
              case' pos =>
                have hi : ¬ 0 < ild := fun h => k6 ⟨k66, h⟩
                clear k6
                subst k66
                have hi2 : decide ((ild : Int) > 0) = false := by rw [decide_eq_false_iff_not]; omega
                rw [show (!(decide ((6 : Int) = 4) || (decide ((6 : Int) = 7) || (decide ((6 : Int) = 6) && decide (0 < ild))))) = true by simp [hi]] at hV
                go_upto_region 14 with fail
              case' neg =>
                have e6 : (kd == 6) = false := by rw [beq_eq_false_iff_ne]; exact k66
                rw [show (!(decide (kd = 4) || (decide (kd = 7) || (decide (kd = 6) && decide (0 < ild))))) = true by simp [k4, k7, k66]] at hV
                clear k6
                go_upto_region 14 with fail
        all_goals
          go_wp2_with fail
          refine hV.mono ?_
          clear hV
          rintro e11 w11 ⟨rfl, h11, hb11⟩
          have H11 := Lib.hid (And.intro h11 (HL.out.trans hb11))
          clear h11 hb11
          go_wp2_with fail
          refine (awake_any _ H11.out.1.fr).mono ?_
          rintro e12 w12 ⟨rfl, h12, hb12⟩
          go_wp2_with fail
          go_ret
          exact ⟨rfl, below_of_whole' (H0.out.2.2.2.2.2.2.2.1 _ h12) (H11.out.2.trans hb12)⟩
    | true =>
      have hye := HT.out.2.1 (by trivial)
      obtain ⟨Q, hQ⟩ : ∃ Q, sameB (plainP d) (plainP e) = Q := ⟨_, rfl⟩
      rw [hQ] at hye
      subst hye
      have hs9 : sat w9 G := by rw [hG]; exact H9.out.1.s
      have hGF : ∀ w', sat w' G → sat w' F := fun w' h => by rw [hG] at h; exact h.right.right
      have hcG := fun w' (h : sat w' G) => H0.out.2.2.2.2.2.2.1 w' (hGF w' h)
      have hdG : DK G d [.int .i64 kd, .int .i64 nd, .bool ngd, .slice amd mld cmd, .string txd, .slice aid ild cid, .slice ard rld crd] := H0.out.2.2.1.mono (fun w' h => hGF w' h) _
      have heG : DK G e [.int .i64 ke, .int .i64 ne, .bool nge, .slice ame mle cme, .string txe, .slice aie ile cie, .slice are rle cre] := H0.out.2.2.2.1.mono (fun w' h => hGF w' h) _
      have hPl1 := fun w' (h : sat w' G) => plain_dm h hdG H0.out.2.2.2.2.1
      have hPl2 := fun w' (M : HP) (h : sat w' (M * G)) => plain_dm h (heG.mono (fun w h => h.right) _) H0.out.2.2.2.2.2.1
      have hSm := fun w' (M M' : HP) cs1 cs2 (h : sat w' (M' * (M * G))) (h1 : DK M (plainP d) cs1) (h2 : DK M' (plainP e) cs2) (z1 : (plainP d).size ≤ 1048576) (z2 : (plainP e).size ≤ 1048576) => same_dm h (h1.mono (fun w h => h.right.left) _) (h2.mono (fun w h => h.left) _) z1 z2
      rw [hQ] at hSm
      obtain ⟨x0, x1, x2, x3, x4, x5, x6, y0, y1, y2, y3, y4, y5, y6⟩ := hcG w9 hs9
      have HZ := Lib.hid (And.intro hcG (And.intro hPl1 (And.intro hPl2 (And.intro hSm (And.intro hs9 hG)))))
      clear hcG hPl1 hPl2 hSm hs9 hGF hdG heG hG hQ
      cases dn with
      | true =>
        obtain rfl := HT.out.1 (by trivial)
        go_wp2_with fail
        go_region_held3 (fun w' => w'.cell? ⟨g, 0, none⟩ = some (.int .i64 kd) ∧ w'.cell? ⟨g, 1, none⟩ = some (.int .i64 nd) ∧ w'.cell? ⟨g, 2, none⟩ = some (.bool ngd) ∧ w'.cell? ⟨g, 3, none⟩ = some (.slice amd mld cmd) ∧ w'.cell? ⟨g, 4, none⟩ = some (.string txd) ∧ w'.cell? ⟨g, 5, none⟩ = some (.slice aid ild cid) ∧ w'.cell? ⟨g, 6, none⟩ = some (.slice ard rld crd) ∧ w'.cell? ⟨g + 1, 0, none⟩ = some (.int .i64 ke) ∧ w'.cell? ⟨g + 1, 1, none⟩ = some (.int .i64 ne) ∧ w'.cell? ⟨g + 1, 2, none⟩ = some (.bool nge) ∧ w'.cell? ⟨g + 1, 3, none⟩ = some (.slice ame mle cme) ∧ w'.cell? ⟨g + 1, 4, none⟩ = some (.string txe) ∧ w'.cell? ⟨g + 1, 5, none⟩ = some (.slice aie ile cie) ∧ w'.cell? ⟨g + 1, 6, none⟩ = some (.slice are rle cre)) (first | exact k9 | exact k8 | exact k7 | go_keep)
          (first
            | (go_at_call 30; refine (HZ.out.2.2.2.1 _ _ _ _ _ h21 hd20 hd21 (Nat.le_trans hz20 H0.out.2.2.2.2.1) (Nat.le_trans hz21 H0.out.2.2.2.2.2.1)).mono ?_; rintro e22 w22 ⟨rfl, h22, hb22⟩; have k7 := HZ.out.1 _ h22.right.right)
            | (go_at_call 31; refine (HZ.out.2.2.1 _ _ h20).mono ?_; rintro e21 w21 ⟨cs21, M21, rfl, hd21, hz21, h21, hb21⟩; have k8 := HZ.out.1 _ h21.right.right)
            | (go_at_call 31; refine (HZ.out.2.1 _ (HZ.out.2.2.2.2.1.drewN 1)).mono ?_; rintro e20 w20 ⟨cs20, M20, rfl, hd20, hz20, h20, hb20⟩; have k9 := HZ.out.1 _ h20.right))
        have hst : StW w22 X7 V7 S7 Y7 F := ⟨by have := h22.right.right; rw [HZ.out.2.2.2.2.2] at this; exact this, H9.out.1.ok⟩
        have hbl := ((H9.out.2.trans (drewN_below0 w9 1)).trans hb20).trans (hb21.trans hb22)
        clear k9 k8 k7 h20 h21 h22 hb20 hb21 hb22 hd20 hd21 hz20 hz21 HZ
        obtain ⟨x0, x1, x2, x3, x4, x5, x6, y0, y1, y2, y3, y4, y5, y6⟩ := H0.out.2.2.2.2.2.2.1 _ hst.fr
        have hV := hst.Eqv a b H3.out.2.2.2.2.1.1 H3.out.2.2.2.2.1.2 H5.out.2.2.2.2.1.1 H5.out.2.2.2.2.1.2
        rw [H7.out.2.2.1, HT.out.2.2.1] at hV
        have hild := H0.out.2.2.2.2.2.2.2.2.2.1
        rw [hild] at hV
        have HL := Lib.hid hbl
        clear hst hbl hild
        by_cases k4 : kd = 4
        case' pos =>
          subst k4
          rw [show (!(decide ((4 : Int) = 4) || (decide ((4 : Int) = 7) || (decide ((4 : Int) = 6) && decide (0 < ild))))) = false by simp] at hV
          go_upto_region 14 with fail
        case' neg =>
          have e4 : (kd == 4) = false := by rw [beq_eq_false_iff_ne]; exact k4
          by_cases k7 : kd = 7
          case' pos =>
            subst k7
            rw [show (!(decide ((7 : Int) = 4) || (decide ((7 : Int) = 7) || (decide ((7 : Int) = 6) && decide (0 < ild))))) = false by simp] at hV
            go_upto_region 14 with fail
          case' neg =>
            have e7 : (kd == 7) = false := by rw [beq_eq_false_iff_ne]; exact k7
            by_cases k6 : kd = 6 ∧ 0 < ild
            case' pos =>
              obtain ⟨k6, hi⟩ := k6
              subst k6
              have hi2 : decide ((ild : Int) > 0) = true := by rw [decide_eq_true_eq]; omega
              rw [show (!(decide ((6 : Int) = 4) || (decide ((6 : Int) = 7) || (decide ((6 : Int) = 6) && decide (0 < ild))))) = false by simp [hi]] at hV
              go_upto_region 14 with fail
            case' neg =>
              by_cases k66 : kd = 6
              case' pos =>
                have hi : ¬ 0 < ild := fun h => k6 ⟨k66, h⟩
                clear k6
                subst k66
                have hi2 : decide ((ild : Int) > 0) = false := by rw [decide_eq_false_iff_not]; omega
                rw [show (!(decide ((6 : Int) = 4) || (decide ((6 : Int) = 7) || (decide ((6 : Int) = 6) && decide (0 < ild))))) = true by simp [hi]] at hV
                go_upto_region 14 with fail
              case' neg =>
                have e6 : (kd == 6) = false := by rw [beq_eq_false_iff_ne]; exact k66
                rw [show (!(decide (kd = 4) || (decide (kd = 7) || (decide (kd = 6) && decide (0 < ild))))) = true by simp [k4, k7, k66]] at hV
                clear k6
                go_upto_region 14 with fail
        all_goals
          go_wp2_with fail
          refine hV.mono ?_
          clear hV
          rintro e11 w11 ⟨rfl, h11, hb11⟩
          have H11 := Lib.hid (And.intro h11 (HL.out.trans hb11))
          clear h11 hb11
          go_wp2_with fail
          refine (awake_any _ H11.out.1.fr).mono ?_
          rintro e12 w12 ⟨rfl, h12, hb12⟩
          go_wp2_with fail
          go_ret
          exact ⟨rfl, below_of_whole' (H0.out.2.2.2.2.2.2.2.1 _ h12) (H11.out.2.trans hb12)⟩
      | false =>
        go_wp2_with fail
        refine wp_region_noPanic ?_
        refine wp_region_held_drew (S := fun w' => w'.cell? ⟨g, 0, none⟩ = some (.int .i64 kd) ∧ w'.cell? ⟨g, 1, none⟩ = some (.int .i64 nd) ∧ w'.cell? ⟨g, 2, none⟩ = some (.bool ngd) ∧ w'.cell? ⟨g, 3, none⟩ = some (.slice amd mld cmd) ∧ w'.cell? ⟨g, 4, none⟩ = some (.string txd) ∧ w'.cell? ⟨g, 5, none⟩ = some (.slice aid ild cid) ∧ w'.cell? ⟨g, 6, none⟩ = some (.slice ard rld crd) ∧ w'.cell? ⟨g + 1, 0, none⟩ = some (.int .i64 ke) ∧ w'.cell? ⟨g + 1, 1, none⟩ = some (.int .i64 ne) ∧ w'.cell? ⟨g + 1, 2, none⟩ = some (.bool nge) ∧ w'.cell? ⟨g + 1, 3, none⟩ = some (.slice ame mle cme) ∧ w'.cell? ⟨g + 1, 4, none⟩ = some (.string txe) ∧ w'.cell? ⟨g + 1, 5, none⟩ = some (.slice aie ile cie) ∧ w'.cell? ⟨g + 1, 6, none⟩ = some (.slice are rle cre)) (by kernel_rfl) ?hS1 (fun hHeld => ?rest1)
        case hS1 => exact HZ.out.1 _ (HZ.out.2.2.2.2.1.drewN 1)
        refine wpAnyH_take (i := 0) (oi := { dst := some 74, op := _, type := _, pos := _, after := _, guard := _ }) (v := ?v2) rfl (by kernel_rfl) (by kernel_rfl) (by kernel_rfl) (fun _ _ _ h => h) (Or.inl ⟨by rfl, ?hy2⟩) hHeld ?rest2
        case hy2 => (intro w hSw; (try dsimp only at hSw); first | (go_simp; done) | (go_simp; with_reducible rfl))
        simp only [Act.put, List.setIfInBounds_toArray, List.set_cons_zero, List.set_cons_succ]
        refine wpAnyH_take (i := 1) (oi := { dst := some 75, op := _, type := _, pos := _, after := _, guard := _ }) (v := ?v3) rfl (by kernel_rfl) (by kernel_rfl) (by kernel_rfl) (fun _ _ _ h => h) (Or.inl ⟨by rfl, ?hy3⟩) hHeld ?rest3
        case hy3 => (intro w hSw; (try dsimp only at hSw); first | (go_simp; done) | (go_simp; with_reducible rfl))
        simp only [Act.put, List.setIfInBounds_toArray, List.set_cons_zero, List.set_cons_succ]
        refine wpAnyH_take (i := 2) (oi := { dst := some 76, op := _, type := _, pos := _, after := _, guard := _ }) (v := undef) rfl (by kernel_rfl) (by kernel_rfl) (by kernel_rfl) (fun _ _ _ h => h) (Or.inr ⟨by rfl, rfl⟩) hHeld ?rest4
        simp only [Act.put, List.setIfInBounds_toArray, List.set_cons_zero, List.set_cons_succ]
        refine wpAnyH_take (i := 3) (oi := { dst := some 77, op := _, type := _, pos := _, after := _, guard := _ }) (v := undef) rfl (by kernel_rfl) (by kernel_rfl) (by kernel_rfl) (fun _ _ _ h => h) (Or.inr ⟨by rfl, rfl⟩) hHeld ?rest5
        simp only [Act.put, List.setIfInBounds_toArray, List.set_cons_zero, List.set_cons_succ]
        refine wpAnyH_take (i := 4) (oi := { dst := some 78, op := _, type := _, pos := _, after := _, guard := _ }) (v := ?v6) rfl (by kernel_rfl) (by kernel_rfl) (by kernel_rfl) (fun _ _ _ h => h) (Or.inl ⟨by rfl, ?hy6⟩) hHeld ?rest6
        case hy6 => (intro w hSw; (try dsimp only at hSw); first | (go_simp; done) | (go_simp; with_reducible rfl))
        simp only [Act.put, List.setIfInBounds_toArray, List.set_cons_zero, List.set_cons_succ]
        refine wpAnyH_take (i := 5) (oi := { dst := some 79, op := _, type := _, pos := _, after := _, guard := _ }) (v := ?v7) rfl (by kernel_rfl) (by kernel_rfl) (by kernel_rfl) (fun _ _ _ h => h) (Or.inl ⟨by rfl, ?hy7⟩) hHeld ?rest7
        case hy7 => (intro w hSw; (try dsimp only at hSw); first | (go_simp; done) | (go_simp; with_reducible rfl))
        simp only [Act.put, List.setIfInBounds_toArray, List.set_cons_zero, List.set_cons_succ]
        refine wpAnyH_take (i := 6) (oi := { dst := some 80, op := _, type := _, pos := _, after := _, guard := _ }) (v := ?v8) rfl (by kernel_rfl) (by kernel_rfl) (by kernel_rfl) (fun _ _ _ h => h) (Or.inl ⟨by rfl, ?hy8⟩) hHeld ?rest8
        case hy8 => (intro w hSw; (try dsimp only at hSw); first | (go_simp; done) | (go_simp; with_reducible rfl))
        simp only [Act.put, List.setIfInBounds_toArray, List.set_cons_zero, List.set_cons_succ]
        refine wpAnyH_take (i := 7) (oi := { dst := some 81, op := _, type := _, pos := _, after := _, guard := _ }) (v := ?v9) rfl (by kernel_rfl) (by kernel_rfl) (by kernel_rfl) (fun _ _ _ h => h) (Or.inl ⟨by rfl, ?hy9⟩) hHeld ?rest9
        case hy9 => (intro w hSw; (try dsimp only at hSw); first | (go_simp; done) | (go_simp; with_reducible rfl))
        simp only [Act.put, List.setIfInBounds_toArray, List.set_cons_zero, List.set_cons_succ]
        refine wpAnyH_take (i := 8) (oi := { dst := some 82, op := _, type := _, pos := _, after := _, guard := _ }) (v := ?v10) rfl (by kernel_rfl) (by kernel_rfl) (by kernel_rfl) (fun _ _ _ h => h) (Or.inl ⟨by rfl, ?hy10⟩) hHeld ?rest10
        case hy10 => (intro w hSw; (try dsimp only at hSw); first | (go_simp; done) | (go_simp; with_reducible rfl))
        simp only [Act.put, List.setIfInBounds_toArray, List.set_cons_zero, List.set_cons_succ]
        refine wpAnyH_take (i := 9) (oi := { dst := some 83, op := _, type := _, pos := _, after := _, guard := _ }) (v := ?v11) rfl (by kernel_rfl) (by kernel_rfl) (by kernel_rfl) (fun _ _ _ h => h) (Or.inl ⟨by rfl, ?hy11⟩) hHeld ?rest11
        case hy11 => (intro w hSw; (try dsimp only at hSw); first | (go_simp; done) | (go_simp; with_reducible rfl))
        simp only [Act.put, List.setIfInBounds_toArray, List.set_cons_zero, List.set_cons_succ]
        refine wpAnyH_take (i := 11) (oi := { dst := some 85, op := _, type := _, pos := _, after := _, guard := _ }) (v := ?v12) rfl (by kernel_rfl) (by kernel_rfl) (by kernel_rfl) (fun _ _ _ h => h) (Or.inl ⟨by rfl, ?hy12⟩) hHeld ?rest12
        case hy12 => (intro w hSw; (try dsimp only at hSw); first | (go_simp; done) | (go_simp; with_reducible rfl))
        simp only [Act.put, List.setIfInBounds_toArray, List.set_cons_zero, List.set_cons_succ]
        refine wpAnyH_ready (rs := [10]) (by kernel_rfl) (by simp) ?_
        refine AllReadyH.cons (o := { dst := some 84, op := _, type := _, pos := _, after := _, guard := _ }) rfl (fun K hK => ?step13) ?more13
        case more13 => exact AllReadyH.nil
        clear hHeld
        go_simp
        (go_at_call 31; refine (HZ.out.2.1 _ (HZ.out.2.2.2.2.1.drewN 1)).mono ?_; rintro e20 w20 ⟨cs20, M20, rfl, hd20, hz20, h20, hb20⟩; have k9 := HZ.out.1 _ h20.right)
        first | (refine hK.out _ _ ?hS14 (fun hHeld => ?rest14)) | (go_wp2_with fail; refine hK.out _ _ ?hS14 (fun hHeld => ?rest14))
        case hS14 => exact k9
        clear hK K k9
        try simp only [Act.put, List.setIfInBounds_toArray, List.set_cons_zero, List.set_cons_succ]
        refine wpAnyH_ready (rs := [12]) (by kernel_rfl) (by simp) ?_
        refine AllReadyH.cons (o := { dst := some 86, op := _, type := _, pos := _, after := _, guard := _ }) rfl (fun K hK => ?step15) ?more15
        case more15 => exact AllReadyH.nil
        clear hHeld
        go_simp
        (go_at_call 31; refine (HZ.out.2.2.1 _ _ h20).mono ?_; rintro e21 w21 ⟨cs21, M21, rfl, hd21, hz21, h21, hb21⟩; have k9 := HZ.out.1 _ h21.right.right)
        first | (refine hK.out _ _ ?hS16 (fun hHeld => ?rest16)) | (go_wp2_with fail; refine hK.out _ _ ?hS16 (fun hHeld => ?rest16))
        case hS16 => exact k9
        clear hK K k9
        try simp only [Act.put, List.setIfInBounds_toArray, List.set_cons_zero, List.set_cons_succ]
        refine wpAnyH_ready (rs := [13]) (by kernel_rfl) (by simp) ?_
        refine AllReadyH.cons (o := { dst := some 87, op := _, type := _, pos := _, after := _, guard := _ }) rfl (fun K hK => ?step17) ?more17
        case more17 => exact AllReadyH.nil
        clear hHeld
        go_simp
        (go_at_call 30; refine (HZ.out.2.2.2.1 _ _ _ _ _ h21 hd20 hd21 (Nat.le_trans hz20 H0.out.2.2.2.2.1) (Nat.le_trans hz21 H0.out.2.2.2.2.2.1)).mono ?_; rintro e22 w22 ⟨rfl, h22, hb22⟩; have k9 := HZ.out.1 _ h22.right.right)
        first | (refine hK.out _ _ ?hS18 (fun hHeld => ?rest18)) | (go_wp2_with fail; refine hK.out _ _ ?hS18 (fun hHeld => ?rest18))
        case hS18 => exact k9
        clear hK K k9
        try simp only [Act.put, List.setIfInBounds_toArray, List.set_cons_zero, List.set_cons_succ]
        refine wpAnyH_take (i := 14) (oi := { dst := some 88, op := _, type := _, pos := _, after := _, guard := _ }) (v := ?v19) rfl (by kernel_rfl) (by kernel_rfl) (by kernel_rfl) (fun _ _ _ h => h) (Or.inl ⟨by rfl, ?hy19⟩) hHeld ?rest19
        case hy19 => (intro w hSw; (try dsimp only at hSw); first | (go_simp; done) | (go_simp; with_reducible rfl))
        simp only [Act.put, List.setIfInBounds_toArray, List.set_cons_zero, List.set_cons_succ]
        refine wpAnyH_take (i := 15) (oi := { dst := some 89, op := _, type := _, pos := _, after := _, guard := _ }) (v := ?v20) rfl (by kernel_rfl) (by kernel_rfl) (by kernel_rfl) (fun _ _ _ h => h) (Or.inl ⟨by rfl, ?hy20⟩) hHeld ?rest20
        case hy20 => (intro w hSw; (try dsimp only at hSw); first | (go_simp; done) | (go_simp; with_reducible rfl))
        simp only [Act.put, List.setIfInBounds_toArray, List.set_cons_zero, List.set_cons_succ]
        refine wpAnyH_take (i := 16) (oi := { dst := some 90, op := _, type := _, pos := _, after := _, guard := _ }) (v := ?v21) rfl (by kernel_rfl) (by kernel_rfl) (by kernel_rfl) (fun _ _ _ h => h) (Or.inl ⟨by rfl, ?hy21⟩) hHeld ?rest21
        case hy21 => (intro w hSw; (try dsimp only at hSw); first | (go_simp; done) | (go_simp; with_reducible rfl))
        simp only [Act.put, List.setIfInBounds_toArray, List.set_cons_zero, List.set_cons_succ]
        refine wpAnyH_done (by kernel_rfl) ?_ _
        refine NoPanic.normal ?_
        have hst : StW w22 X7 V7 S7 Y7 F := ⟨by have := h22.right.right; rw [HZ.out.2.2.2.2.2] at this; exact this, H9.out.1.ok⟩
        have hbl := ((H9.out.2.trans (drewN_below0 w9 1)).trans hb20).trans (hb21.trans hb22)
        clear h20 h21 h22 hb20 hb21 hb22 hd20 hd21 hz20 hz21 HZ
        obtain ⟨x0, x1, x2, x3, x4, x5, x6, y0, y1, y2, y3, y4, y5, y6⟩ := H0.out.2.2.2.2.2.2.1 _ hst.fr
        have hV := hst.Eqv a b H3.out.2.2.2.2.1.1 H3.out.2.2.2.2.1.2 H5.out.2.2.2.2.1.1 H5.out.2.2.2.2.1.2
        rw [H7.out.2.2.1, HT.out.2.2.1] at hV
        have hild := H0.out.2.2.2.2.2.2.2.2.2.1
        rw [hild] at hV
        have HL := Lib.hid hbl
        clear hst hbl hild
        by_cases k4 : kd = 4
        case' pos =>
          subst k4
          rw [show (!(decide ((4 : Int) = 4) || (decide ((4 : Int) = 7) || (decide ((4 : Int) = 6) && decide (0 < ild))))) = false by simp] at hV
          go_upto_region 14 with fail
        case' neg =>
          have e4 : (kd == 4) = false := by rw [beq_eq_false_iff_ne]; exact k4
          by_cases k7 : kd = 7
          case' pos =>
            subst k7
            rw [show (!(decide ((7 : Int) = 4) || (decide ((7 : Int) = 7) || (decide ((7 : Int) = 6) && decide (0 < ild))))) = false by simp] at hV
            go_upto_region 14 with fail
          case' neg =>
            have e7 : (kd == 7) = false := by rw [beq_eq_false_iff_ne]; exact k7
            by_cases k6 : kd = 6 ∧ 0 < ild
            case' pos =>
              obtain ⟨k6, hi⟩ := k6
              subst k6
              have hi2 : decide ((ild : Int) > 0) = true := by rw [decide_eq_true_eq]; omega
              rw [show (!(decide ((6 : Int) = 4) || (decide ((6 : Int) = 7) || (decide ((6 : Int) = 6) && decide (0 < ild))))) = false by simp [hi]] at hV
              go_upto_region 14 with fail
            case' neg =>
              by_cases k66 : kd = 6
              case' pos =>
                have hi : ¬ 0 < ild := fun h => k6 ⟨k66, h⟩
                clear k6
                subst k66
                have hi2 : decide ((ild : Int) > 0) = false := by rw [decide_eq_false_iff_not]; omega
                rw [show (!(decide ((6 : Int) = 4) || (decide ((6 : Int) = 7) || (decide ((6 : Int) = 6) && decide (0 < ild))))) = true by simp [hi]] at hV
                go_upto_region 14 with fail
              case' neg =>
                have e6 : (kd == 6) = false := by rw [beq_eq_false_iff_ne]; exact k66
                rw [show (!(decide (kd = 4) || (decide (kd = 7) || (decide (kd = 6) && decide (0 < ild))))) = true by simp [k4, k7, k66]] at hV
                clear k6
                go_upto_region 14 with fail
        all_goals
          go_wp2_with fail
          refine hV.mono ?_
          clear hV
          rintro e11 w11 ⟨rfl, h11, hb11⟩
          have H11 := Lib.hid (And.intro h11 (HL.out.trans hb11))
          clear h11 hb11
          go_wp2_with fail
          refine (awake_any _ H11.out.1.fr).mono ?_
          rintro e12 w12 ⟨rfl, h12, hb12⟩
          go_wp2_with fail
          go_ret
          exact ⟨rfl, below_of_whole' (H0.out.2.2.2.2.2.2.2.1 _ h12) (H11.out.2.trans hb12)⟩
  · have hk : (ok = false) ∨ (ok = true ∧ ok2 = false) ∨ (ok = true ∧ ok2 = true ∧ ok3 = false) := by
      cases ok <;> cases ok2 <;> cases ok3 <;> simp_all
    rcases hk with rfl | ⟨rfl, rfl⟩ | ⟨rfl, rfl, rfl⟩
    all_goals
      clear hok
      go_wp2_with fail
      refine (awake_any _ H7.out.1.fr).mono ?_
      rintro e8 w8 h8
      have h9 := HB.out _ _ h8
      obtain ⟨rfl, _⟩ := h8
      go_wp2_with fail
      go_ret
      exact ⟨rfl, h9.2⟩
end Go.Proofs.Ytanjiecefioffaa
