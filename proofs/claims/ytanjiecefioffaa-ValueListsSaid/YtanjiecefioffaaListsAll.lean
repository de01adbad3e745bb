/- Lists and vectors, plainly. Rows of integers that came in, with their room; the words of ValueLists. -/
import Derived.Test.YtanjiecefioffaaTakeMore
import Derived.Test.YtanjiecefioffaaRingAll
import Derived.Test.YtanjiecefioffaaRowsIn
import Derived.Test.YtanjiecefioffaaSameData
import Derived.Test.YtanjiecefioffaaChainWalk
import Derived.Test.YtanjiecefioffaaAwake4
/- Lists and vectors, plainly. -/
namespace Go.Proofs.Ytanjiecefioffaa
open Go.RowKit

/-- A list of these words lies here. -/
def ListIn (T : HS) : List Int → Int → Prop
  | [], l => l = 10
  | x :: xs, l => T.is l = true ∧ (0 ≤ l ∧ l < 18446744073709551616) ∧ (l / 4).toNat + 3 ≤ T.ws.length ∧ T.head l = headerOf 1 2 0 ∧ T.ws.getD ((l / 4).toNat + 1) 0 = x ∧ ListIn T xs (T.ws.getD ((l / 4).toNat + 2) 0)
theorem ListIn.ext {S S' : HS} (e : Ext S S') : ∀ (xs : List Int) (l : Int), ListIn S xs l → ListIn S' xs l
  | [], _, h => h
  | x :: xs, l, ⟨h1, h2, h3, h4, h5, h6⟩ => by
    have e1 : S'.head l = S.head l := by
      rw [is_head h1, is_head (e.is h1)]
      exact e.at (by omega)
    refine ⟨e.is h1, h2, ?_, by rw [e1]; exact h4, by rw [e.at (by omega)]; exact h5, ?_⟩
    · obtain ⟨m, hm⟩ := e.ws
      rw [hm, List.length_append]; omega
    · rw [e.at (by omega)]
      exact ListIn.ext e xs _ h6
theorem chain_list {S : HS} (hl : S.bs.length = S.ws.length) : ∀ (xs : List Int), S.ws.length + 3 * xs.length ≤ 1048576 → ListIn (S.chain 10 xs).1 xs (S.chain 10 xs).2
  | [], _ => rfl
  | x :: xs, hb => by
    rw [List.length_cons] at hb
    have ih := chain_list hl xs (by omega)
    have hcl := chain_len S 10 xs
    have hcb := chain_bs hl 10 xs
    unfold HS.chain
    generalize hT : (S.chain 10 xs).1 = T at *
    generalize hx : (S.chain 10 xs).2 = l at *
    obtain ⟨c1, _, _⟩ := cons_len T x l
    obtain ⟨g1, g2⟩ := cons_get (S := T) x l
    have e4 : (4 * (T.ws.length : Int) / 4).toNat = T.ws.length := by omega
    refine ⟨part_is hcb 1 2 0 2 [x, l] 2, by omega, by rw [e4, c1]; omega, part_head hcb 1 2 0 2 [x, l] 2, by rw [e4]; exact g1, ?_⟩
    rw [e4]
    simp only [g2]
    exact ListIn.ext (cons_ext T x l) xs l ih
/-- The rests of a list. -/
def restP (T : HS) (l : Int) : Nat → Int
  | 0 => l
  | k + 1 => T.getAt (restP T l k) 1
theorem rest_in {T : HS} {xs : List Int} {l : Int} (h : ListIn T xs l) : ∀ k, k ≤ xs.length → ListIn T (xs.drop k) (restP T l k)
  | 0, _ => by rw [List.drop_zero]; exact h
  | k + 1, hk => by
    have ih := rest_in h k (by omega)
    rw [List.drop_eq_getElem_cons (by omega)] at ih
    obtain ⟨_, h2, _, h4, _, h6⟩ := ih
    show ListIn T (xs.drop (k + 1)) (T.getAt (restP T l k) 1)
    rw [(get_field h4 h2.1).2]
    exact h6
theorem list_chain {T : HS} {xs : List Int} {l : Int} (h : ListIn T xs l) (hx : ∀ x ∈ xs, T.num x = some (intW x)) : Chain T (restP T l) (fun k => intW (xs.getD k 0)) xs.length ∧ restP T l xs.length = 10 ∧ ∀ k, k < xs.length → T.getAt (restP T l k) 0 = xs.getD k 0 := by
  have hat : ∀ k, k < xs.length → (0 ≤ restP T l k ∧ restP T l k < 18446744073709551616) ∧ T.head (restP T l k) = headerOf 1 2 0 ∧ T.getAt (restP T l k) 0 = xs.getD k 0 := by
    intro k hk
    have ih := rest_in h k (by omega)
    rw [List.drop_eq_getElem_cons hk] at ih
    obtain ⟨_, h2, _, h4, h5, _⟩ := ih
    refine ⟨h2, h4, ?_⟩
    rw [(get_field h4 h2.1).1, h5, List.getD_eq_getElem?_getD, List.getElem?_eq_getElem hk]; rfl
  have hlast : restP T l xs.length = 10 := by
    have := rest_in h xs.length (Nat.le_refl _)
    rw [List.drop_length] at this
    exact this
  refine ⟨⟨?_, fun k hk => (pair_is (hat k hk).2.1).1, ?_, fun k _ => rfl⟩, hlast, fun k hk => (hat k hk).2.2⟩
  · intro k hk
    rcases Nat.lt_or_ge k xs.length with h1 | h1
    · exact (hat k h1).1
    · obtain rfl : k = xs.length := by omega
      rw [hlast]; decide
  · intro k hk
    rw [(hat k hk).2.2, List.getD_eq_getElem?_getD, List.getElem?_eq_getElem hk]
    exact hx _ (List.getElem_mem hk)
/-! ### A vector -/
theorem vec_head (n : Nat) (h : n ≤ 1048576) : tagH (headerOf 2 n 0) = n ∧ rawH (headerOf 2 n 0) = 0 ∧ kindH (headerOf 2 n 0) = 2 := header_tag (kind := 2) (t := n) (r := 0) (by decide) (by decide) h (by decide)
theorem vec_in {S : HS} (hl : S.bs.length = S.ws.length) (xs : List Int) (hn : xs.length ≤ 1048576) :
    (S.part 2 xs.length 0 2 xs xs.length).shape (4 * (S.ws.length : Int)) 2 (-1) 0 = true ∧ (S.part 2 xs.length 0 2 xs xs.length).tag (4 * (S.ws.length : Int)) = xs.length ∧
    ∀ k, k < xs.length → (S.part 2 xs.length 0 2 xs xs.length).getAt (4 * (S.ws.length : Int)) k = xs.getD k 0 := by
  have hh := part_head hl 2 xs.length 0 2 xs xs.length
  obtain ⟨g1, g2, g3⟩ := vec_head xs.length hn
  have et : (S.part 2 xs.length 0 2 xs xs.length).tag (4 * (S.ws.length : Int)) = xs.length := by unfold HS.tag; rw [hh]; exact g1
  have er : (S.part 2 xs.length 0 2 xs xs.length).raw (4 * (S.ws.length : Int)) = 0 := by unfold HS.raw; rw [hh]; exact g2
  have ek : (S.part 2 xs.length 0 2 xs xs.length).kind (4 * (S.ws.length : Int)) = 2 := by unfold HS.kind; rw [hh]; exact g3
  refine ⟨?_, et, ?_⟩
  · unfold HS.shape
    rw [er, ek]; simp
  · intro k hk
    unfold HS.getAt HS.get
    rw [if_pos (by rw [et]; omega)]
    simp only
    rw [show fieldAt (4 * (S.ws.length : Int)) 0 (k : Int) = S.ws.length + (k + 1) by unfold fieldAt; omega]
    unfold HS.part
    simp only
    rw [getD_app_right, List.getD_eq_getElem?_getD, List.getElem?_cons_succ, List.take_length, List.getElem?_append_left hk, ← List.getD_eq_getElem?_getD]
end Go.Proofs.Ytanjiecefioffaa

/- Rows of integers that came in, with their room; the words of ValueLists. -/
namespace Go.Proofs.Ytanjiecefioffaa
open Go.RowKit Go.ChangeShapes Go.WideShapes

structure IsRowC (k : IntKind) (w : World) (ao : Option Addr) (len cap : Nat) (zs : List Int) : Prop where
  row : IsRowB k w ao len cap zs
  lc : len ≤ cap
section
variable {H : Type} {enc : TypeId × Value → H} {W : World} {base : Nat} {spare : Nat → Bool} {held : Bool} {fuel : Nat}
theorem open_rowC {t e : TypeId} {k : IntKind} (ht : Try.prog.underlying t = some (.slice e)) (he : Try.prog.underlying e = some (.int k)) (hc : Try.prog.cellsOf e = 1) (hb : Try.prog.bytesOf e = 8)
    {ao : Option Addr} {len cap : Nat} {d : DataW H} {p : List MemPlace} (h : DataW.trod enc Try.prog W base spare held fuel t [.slice ao len cap] = some (d, p)) (hw : ∀ n ∈ d.weights Try.prog t, n ≤ reachBytes) :
    ∃ zs : List Int, IsRowC k W ao len cap zs := by
  obtain ⟨zs, hz⟩ := open_rowB ht he hc hb h hw
  refine ⟨zs, hz, ?_⟩
  rcases open_ints ht he hc h with ⟨e0, _⟩ | ⟨a, len', cap', _, e0, _, hlc, _⟩
  · simp at e0
    obtain ⟨_, rfl, rfl⟩ := e0
    exact Nat.le_refl _
  · simp at e0
    obtain ⟨_, rfl, rfl⟩ := e0
    exact hlc
end
def itemL (x : Int) : Int := fixW (x.tmod 100000)
theorem tmodL_bd (x : Int) : -100000 < x.tmod 100000 ∧ x.tmod 100000 < 100000 := ⟨Int.lt_tmod_of_pos x (by decide), Int.tmod_lt_of_pos x (by decide)⟩
theorem itemL_ok (x : Int) : (0 ≤ itemL x ∧ itemL x < 18446744073709551616) ∧ itemL x % 4 = 1 ∧ intW (itemL x) = x.tmod 100000 := by
  have h := tmodL_bd x
  unfold itemL fixW
  rw [if_pos (by omega)]
  generalize x.tmod 100000 = y at *
  refine ⟨by omega, by omega, ?_⟩
  unfold intW
  rw [if_pos (by omega)]
  split <;> omega
theorem itemL_may (S : HS) (x : Int) : S.may (itemL x) = true := by
  have h := (itemL_ok x).2.1
  unfold HS.may mayB
  simp [h]
theorem itemL_num (S : HS) (x : Int) : S.num (itemL x) = some (intW (itemL x)) := by
  unfold HS.num
  rw [if_pos (itemL_ok x).2.1]
theorem fixB_item (x : Int) : fixB (x.tmod 100000) = true := by
  have h := tmodL_bd x
  unfold fixB
  rw [Bool.and_eq_true, decide_eq_true_eq, decide_eq_true_eq]
  omega
theorem listIn_bd {T : HS} {xs : List Int} {l : Int} (h : ListIn T xs l) : 0 ≤ l ∧ l < 18446744073709551616 := by
  cases xs with
  | nil => have : l = 10 := h; omega
  | cons x xs => exact h.2.1
def LjRel (T : HS) (l : Int) (n : Nat) (w6 : World) (x i : Value) (wr : World) : Prop := ∃ k j : Nat, k ≤ n ∧ i = .int .i64 k ∧ x = .int .u64 (restP T l k) ∧ wr = w6.drewN j
theorem intW_abs (x : Int) (h : 0 ≤ x ∧ x < 18446744073709551616) : (intW x).natAbs < 4294967296 ^ 2 := by
  unfold intW
  split <;> omega
theorem sat.left_pair {w : World} {P Q R : HP} (h : sat w (P * (Q * R))) : sat w (P * Q) := (show sat w (P * Q * R) from h.perm (by ac_rfl)).left
end Go.Proofs.Ytanjiecefioffaa
