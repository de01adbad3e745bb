/- What chains and vectors of data are. -/
import Derived.Test.YtanjiecefioffaaVE12
import Derived.Test.YtanjiecefioffaaVE14
import Derived.Test.YtanjiecefioffaaVE1
import Derived.Test.YtanjiecefioffaaVE10
namespace Go.Proofs.Ytanjiecefioffaa
open Go.RowKit

theorem imm_may (S : HS) {x : Int} (h : x % 4 = 1 ∨ x % 4 = 2) : S.may x = true := by
  unfold HS.may mayB
  rcases h with h | h <;> simp [h]
theorem fixW_imm {v : Int} (h : isSmall v = true) : fixW v % 4 = 1 := by
  unfold isSmall at h
  simp only [Bool.and_eq_true, decide_eq_true_eq] at h
  unfold fixW
  rw [if_pos h]
  omega
theorem HIn.bd {S : HS} {d : Dm} {x : Int} (h : HIn S d x) : 0 ≤ x ∧ x < 18446744073709551616 := by
  cases d
  unfold HIn at h
  exact h.1
theorem HIn.may {S : HS} : ∀ {d : Dm} {x : Int}, HIn S d x → S.may x = true
  | .mk k n neg mag text items rest, x, h => by
    unfold HIn at h
    obtain ⟨hb, h⟩ := h
    rcases h with ⟨v, h1, h2, h3, h4, h5, h6, h7, _, ⟨hsm, rfl⟩ | ⟨_, _, h8⟩⟩ | ⟨h1, h2, h3, h4, h5, h6, h⟩ | ⟨h1, h2, h3, h4, h5, h6, h7, h8, rfl⟩ | ⟨h1, h2, h3, h4, h5, h6, h7, h8⟩ | ⟨h1, h2, h3, h4, h5, h6, h7, h8⟩ | ⟨h1, h2, h3, h4, h5, h6, h7, rfl⟩ | ⟨h1, h2, h3, h4, h5, y, h6, h7, h8⟩ | ⟨h1, h2, h3, h4, h5, h6, h7, h8, h9, h10⟩
    · exact imm_may S (.inl (fixW_imm hsm))
    · exact may_is h8.is
    · rcases h with ⟨_, rfl⟩ | ⟨_, rfl⟩ <;> exact imm_may S (.inr (by decide))
    · exact imm_may S (.inr (by omega))
    · exact may_is h8.is
    · exact may_is h8.is
    · exact imm_may S (.inr (by decide))
    · cases items with
      | nil =>
        unfold HTo at h6
        subst h6
        rw [h8 rfl] at h7
        unfold HEnd at h7
        subst h7
        exact imm_may S (.inr (by decide))
      | cons d l =>
        unfold HTo at h6
        exact may_is h6.2.1
    · exact may_is h8
theorem rows_may {S : HS} {ds : List Dm} {xs : List Int} (hn : xs.length = ds.length) (h : ∀ (i : Nat) d x, ds[i]? = some d → xs[i]? = some x → HIn S d x) : xs.all (S.may ·) = true := by
  refine List.all_eq_true.2 fun x hx => ?_
  obtain ⟨i, hi⟩ := List.mem_iff_getElem?.1 hx
  have hlt := (List.getElem?_eq_some_iff.1 hi).1
  exact (h i _ x (List.getElem?_eq_getElem (by omega)) hi).may
theorem chain_ext (S : HS) (last : Int) : ∀ xs : List Int, Ext S (S.chain last xs).1
  | [] => Ext.refl _
  | x :: xs => by unfold HS.chain; exact (chain_ext S last xs).trans (cons_ext _ _ _)
/-- A chain of data's words, told in whatever heap that holds it. -/
theorem chain_to {S : HS} (hl : S.bs.length = S.ws.length) (hw : WfH S.ws S.bs) (last : Int) : ∀ (xs : List Int) (ds : List Dm), xs.length = ds.length → (∀ (i : Nat) d x, ds[i]? = some d → xs[i]? = some x → HIn S d x) → S.ws.length + 3 * xs.length ≤ 1048576 →
    ∀ S', Ext (S.chain last xs).1 S' → HTo S' ds (S.chain last xs).2 last
  | [], [], _, _, _, S', _ => by unfold HTo; rfl
  | [], d :: ds, h, _, _, _, _ => by simp at h
  | x :: xs, [], h, _, _, _, _ => by simp at h
  | x :: xs, d :: ds, hn, hi, hb, S', e => by
    rw [List.length_cons] at hb
    have e0 := (chain_ext S last (x :: xs)).trans e
    unfold HS.chain at e ⊢
    simp only at e ⊢
    have ih := chain_to hl hw last xs ds (by simpa using hn) (fun i d x h1 h2 => hi (i + 1) d x (by simpa using h1) (by simpa using h2)) (by omega) S' ((cons_ext _ _ _).trans e)
    have hcl := chain_len S last xs
    have hcb := chain_bs hl last xs
    generalize hT : (S.chain last xs).1 = T at *
    generalize hx : (S.chain last xs).2 = l at *
    obtain ⟨c1, _, _⟩ := cons_len T x l
    obtain ⟨g1, g2⟩ := cons_get (S := T) x l
    have e4 : (4 * (T.ws.length : Int) / 4).toNat = T.ws.length := by omega
    have hi1 : (T.cons x l).is (4 * (T.ws.length : Int)) = true := part_is hcb 1 2 0 2 [x, l] 2
    have hh1 : (T.cons x l).head (4 * (T.ws.length : Int)) = headerOf 1 2 0 := part_head hcb 1 2 0 2 [x, l] 2
    unfold HTo
    refine ⟨by omega, e.is hi1, ?_, ?_, ?_⟩
    · have h3 : S'.head (4 * (T.ws.length : Int)) = (T.cons x l).head (4 * (T.ws.length : Int)) := by
        rw [is_head hi1, is_head (e.is hi1)]
        exact e.at (by rw [e4, c1]; omega)
      rw [h3]
      exact hh1
    · rw [e4, e.at (by rw [c1]; omega), g1]
      exact (hi 0 d x rfl rfl).ext e0 hw
    · rw [e4, e.at (by rw [c1]; omega), g2]
      exact ih
theorem HTo.app {S : HS} : ∀ {l m : List Dm} {x y z : Int}, HTo S l x y → HTo S m y z → HTo S (l ++ m) x z
  | [], m, x, y, z, h1, h2 => by unfold HTo at h1; subst h1; exact h2
  | d :: l, m, x, y, z, h1, h2 => by
    unfold HTo at h1
    rw [List.cons_append]
    unfold HTo
    exact ⟨h1.1, h1.2.1, h1.2.2.1, h1.2.2.2.1, h1.2.2.2.2.app h2⟩
/-- A list that ends in a datum. -/
theorem join_in {S : HS} {ds : List Dm} {r : Dm} {x y : Int} (hb : 0 ≤ x ∧ x < 18446744073709551616) (h1 : HTo S ds x y) (h2 : HIn S r y) (hn : ds ≠ []) : HIn S (joinD ds r) x := by
  cases r with
  | mk k n p m t i r =>
  simp only [joinD]
  by_cases hk : k = 6
  · rw [if_pos hk]
    unfold HIn at h2 ⊢
    obtain ⟨_, h2⟩ := h2
    have h2' : ∃ z, HTo S i y z ∧ HEnd S r z ∧ (i = [] → r = []) := by
      rcases h2 with ⟨v, h, _⟩ | ⟨h, _⟩ | ⟨h, _⟩ | ⟨h, _⟩ | ⟨h, _⟩ | ⟨h, _⟩ | ⟨h1, h2, h3, h4, h5, h⟩ | ⟨h, _⟩
      case inr.inr.inr.inr.inr.inr.inl => exact h
      all_goals omega
    obtain ⟨z, h3, h4, h5⟩ := h2'
    exact ⟨hb, .inr (.inr (.inr (.inr (.inr (.inr (.inl ⟨rfl, rfl, rfl, rfl, rfl, z, h1.app h3, h4, fun h => h5 (List.append_eq_nil_iff.1 h).2⟩))))))⟩
  · rw [if_neg hk]
    unfold HIn
    refine ⟨hb, .inr (.inr (.inr (.inr (.inr (.inr (.inl ⟨rfl, rfl, rfl, rfl, rfl, y, h1, ?_, fun h => absurd h hn⟩))))))⟩
    unfold HEnd
    exact ⟨h2, hk, rfl⟩
/-- A list that ends in the empty list. -/
theorem list_in {S : HS} {ds : List Dm} {x : Int} (hb : 0 ≤ x ∧ x < 18446744073709551616) (h1 : HTo S ds x 10) : HIn S (.mk 6 0 false [] ⟨#[]⟩ ds []) x := by
  unfold HIn
  refine ⟨hb, .inr (.inr (.inr (.inr (.inr (.inr (.inl ⟨rfl, rfl, rfl, rfl, rfl, 10, h1, ?_, fun _ => rfl⟩))))))⟩
  unfold HEnd
  rfl
/-- A vector. -/
theorem row_in {S S' : HS} (hw : WfH S.ws S.bs) (e : Ext S S') : ∀ (xs : List Int) (ds : List Dm) (p : Nat), xs.length = ds.length → (∀ (i : Nat) d x, ds[i]? = some d → xs[i]? = some x → HIn S d x) →
    (∀ (i : Nat) x, xs[i]? = some x → S'.ws.getD (p + i) 0 = x) → HRow S' ds p
  | _, [], _, _, _, _ => by unfold HRow; trivial
  | [], d :: ds, _, h, _, _ => by simp at h
  | x :: xs, d :: ds, p, hn, hi, hp => by
    unfold HRow
    refine ⟨?_, row_in hw e xs ds (p + 1) (by simpa using hn) (fun i d x h1 h2 => hi (i + 1) d x (by simpa using h1) (by simpa using h2)) ?_⟩
    · have := hp 0 x rfl
      rw [Nat.add_zero] at this
      rw [this]
      exact (hi 0 d x rfl rfl).ext e hw
    · intro i y hy
      have := hp (i + 1) y (by simpa using hy)
      rw [show p + 1 + i = p + (i + 1) by omega]
      exact this
end Go.Proofs.Ytanjiecefioffaa

/- chain and Vector of data's words. -/
namespace Go.Proofs.Ytanjiecefioffaa
open Go.RowKit
theorem chain_still {S : HS} (hw : WfH S.ws S.bs) (last : Int) : ∀ xs : List Int, Still S (S.chain last xs).1 ∧ (xs ≠ [] → 4 * (S.ws.length : Int) ≤ (S.chain last xs).2)
  | [] => ⟨Still.refl _, fun h => absurd rfl h⟩
  | x :: xs => by
    have ih := (chain_still hw last xs).1
    have hl := chain_bs hw.len last xs
    obtain ⟨q1, _, _⟩ := chain_len S last xs
    have hz := wf_pos hw
    unfold HS.chain
    simp only
    refine ⟨ih.trans (part_still hl (by omega) (t := 2) (r := 0) (by decide) _ _ _) (cons_ext _ _ _) hl, fun _ => by omega⟩
section
variable {w : World} {X : StV} {V : HV} {S : HS} {Y : StS} {R : HP}
theorem StW.chain_data (h : StW w X V S Y R) (hy : SyOk S Y) (last : Int) (hlb : 0 ≤ last ∧ last < 18446744073709551616) (hlm : S.may last = true) (ds : List Dm) (xs : List Int) (hn : xs.length = ds.length) (hl : ds.length ≤ 1048576) (hb : ∀ x ∈ xs, 0 ≤ x ∧ x < 18446744073709551616)
    (hi : ∀ (i : Nat) d x, ds[i]? = some d → xs[i]? = some x → HIn S d x) (ao : Option Addr) (cap : Nat) (hx : WordsIn R ao xs) :
    Calls Try.prog 51 #[.pointer (some ⟨X.g, 0, none⟩), .int .u64 last, .slice ao xs.length cap] w (PutPost X V S Y R (fun S' _ x => (HTo S' ds x last ∧ Ext S S') ∧ (ds ≠ [] → 4 * (S.ws.length : Int) ≤ x)) w) := by
  have hul := h.ok.used
  have hsz := h.ok.hi
  have hwf := h.ok.wf
  have hm := rows_may hn hi
  by_cases hr : xs.length ≤ (S.size - S.ws.length) / 3
  · refine (h.chain_yes last ao cap xs hx hb (by omega) hlb hlm hm hr).mono ?_
    rintro e w' ⟨rfl, hb1, V', hg, h1⟩
    obtain ⟨q1, q2, q3⟩ := chain_len S last xs
    have hq : S.ws.length + 3 * xs.length ≤ 1048576 := by omega
    exact ⟨X, V', _, Y, _, true, rfl, ⟨rfl, hg⟩, h1, hy.ext (chain_ext S last xs) hwf q3 (chain_still hwf last xs).1, ⟨chain_ext S last xs, q2, q3⟩, fun _ _ h => h, ⟨chain_snd_u hlb xs hq, fun _ => ⟨⟨chain_to hwf.len hwf last xs ds hn hi hq _ (Ext.refl _), chain_ext S last xs⟩, fun hne => (chain_still hwf last xs).2 (fun h0 => hne (List.eq_nil_of_length_eq_zero (by rw [← hn, h0]; rfl)))⟩⟩, hb1⟩
  · refine (h.chain_no last ao cap xs hx hb (by omega) hm (by omega)).mono ?_
    rintro e w' ⟨rfl, hb1, V', hg, h1⟩
    exact ⟨X, V', S, Y, 0, false, rfl, ⟨rfl, hg⟩, h1, hy, ⟨Ext.refl _, rfl, rfl⟩, fun _ _ h => h, ⟨by decide, fun h => by cases h⟩, hb1⟩
theorem StW.vec_data (h : StW w X V S Y R) (hy : SyOk S Y) (ds : List Dm) (xs : List Int) (hn : xs.length = ds.length) (hl : ds.length ≤ 1048576) (hb : ∀ x ∈ xs, 0 ≤ x ∧ x < 18446744073709551616)
    (hi : ∀ (i : Nat) d x, ds[i]? = some d → xs[i]? = some x → HIn S d x) (ao : Option Addr) (cap : Nat) (hx : WordsIn R ao xs) :
    Calls Try.prog 21 #[.pointer (some ⟨X.g, 0, none⟩), .slice ao xs.length cap] w (PutPost X V S Y R (fun S' _ x => HIn S' (.mk 7 0 false [] ⟨#[]⟩ ds []) x ∧ 4 * (S.ws.length : Int) ≤ x) w) := by
  have hul := h.ok.used
  have hsz := h.ok.hi
  have hwf := h.ok.wf
  have hm := rows_may hn hi
  cases hr : S.room 2 xs.length 0 with
  | true =>
    refine (StW.Vector_any _ _ _ _ _ _ (h.lay_yes 2 ao cap xs hx hb hm hr)).mono ?_
    rintro e w' ⟨rfl, hb1, V', hg, h1⟩
    have hx2 := part_ext S 2 xs.length 0 2 xs xs.length
    have hq : 0 ≤ 4 * (S.ws.length : Int) ∧ 4 * (S.ws.length : Int) < 18446744073709551616 := by omega
    refine ⟨X, V', _, Y, _, true, rfl, ⟨rfl, hg⟩, h1, hy.ext hx2 hwf rfl (part_still hwf.len (wf_pos hwf) (by rw [show kindH (headerOf 2 (xs.length : Nat) (0 : Nat)) = 2 from (vec_head xs.length (by omega)).2.2]; decide) _ _ _), ⟨hx2, rfl, rfl⟩, fun _ _ h => h, ⟨hq, fun _ => ⟨?_, Int.le_refl _⟩⟩, hb1⟩
    have hp1 := part_is hwf.len 2 xs.length 0 2 xs xs.length
    have hp2 := part_head hwf.len 2 xs.length 0 2 xs xs.length
    unfold HIn
    refine ⟨hq, .inr (.inr (.inr (.inr (.inr (.inr (.inr ⟨rfl, rfl, rfl, rfl, rfl, rfl, hl, hp1, by rw [hp2, hn]; rfl, ?_⟩))))))⟩
    refine row_in hwf hx2 xs ds _ hn hi ?_
    intro i x hxi
    have hlt := (List.getElem?_eq_some_iff.1 hxi).1
    unfold HS.part
    simp only
    rw [show (4 * (S.ws.length : Int) / 4).toNat + 1 + i = S.ws.length + (i + 1) by omega, getD_app_right, List.getD_cons_succ, List.take_of_length_le (Nat.le_refl _), List.getD_eq_getElem?_getD, List.getElem?_append_left hlt, hxi]
    rfl
  | false =>
    refine (StW.Vector_any _ _ _ _ _ _ (h.lay_full 2 ao cap xs hx hb (by omega) hm hr)).mono ?_
    rintro e w' ⟨rfl, hb1, V', hg, h1⟩
    exact ⟨X, V', S, Y, 0, false, rfl, ⟨rfl, hg⟩, h1, hy, ⟨Ext.refl _, rfl, rfl⟩, fun _ _ h => h, ⟨by decide, fun h => by cases h⟩, hb1⟩
end
end Go.Proofs.Ytanjiecefioffaa

/- value.Store.list. -/
namespace Go.Proofs.Ytanjiecefioffaa
open Go.RowKit
theorem plains_nil : plainPs [] = [] := by unfold plainPs; rfl
theorem plains_one (r : Dm) : plainPs [r] = [plainP r] := by
  conv => lhs; unfold plainPs
  rw [plains_nil]
theorem plains_get : ∀ {l : List Dm} {i : Nat} {d : Dm}, (plainPs l)[i]? = some d → ∃ e, l[i]? = some e ∧ d = plainP e
  | [], i, d, h => by rw [plains_nil] at h; simp at h
  | e :: l, 0, d, h => by
    conv at h => lhs; arg 1; unfold plainPs
    simp at h
    exact ⟨e, rfl, h.symm⟩
  | e :: l, i + 1, d, h => by
    conv at h => lhs; arg 1; unfold plainPs
    rw [List.getElem?_cons_succ] at h
    obtain ⟨e', h1, h2⟩ := plains_get h
    exact ⟨e', by rw [List.getElem?_cons_succ]; exact h1, h2⟩
theorem last_at {S : HS} {rest : List Dm} {ls : List Int} (h1 : ¬1 < rest.length) (hll : ls.length = rest.length) (hi : ∀ (i : Nat) d x, rest[i]? = some d → ls[i]? = some x → HIn S (plainP d) x) :
    ∃ lw, (ls ++ [10])[0]? = some lw ∧ ((0 ≤ lw ∧ lw < 18446744073709551616) ∧ S.may lw = true) ∧ ((rest = [] ∧ lw = 10) ∨ ∃ r, rest = [r] ∧ HIn S (plainP r) lw) := by
  match rest, ls with
  | [], [] => exact ⟨10, rfl, ⟨by decide, may_ten S⟩, .inl ⟨rfl, rfl⟩⟩
  | [], x :: l => simp at hll
  | [r], [] => simp at hll
  | [r], [x] =>
    have h := hi 0 r x rfl rfl
    exact ⟨x, rfl, ⟨h.bd, h.may⟩, .inr ⟨r, rfl, h⟩⟩
  | [r], x :: y :: l => simp at hll
  | r :: r2 :: l, _ => simp at h1
section
variable {w : World} {X : StV} {V : HV} {S : HS} {Y : StS} {R : HP}
set_option maxRecDepth 100000 in
set_option maxHeartbeats 4000000 in
theorem StW.list (h : StW w X V S Y R) (hy : SyOk S Y) (n : Int) (neg : Bool) (mag : List Int) (text : ByteArray) (items rest : List Dm) (hli : items.length ≤ 1048576) (hlr : rest.length ≤ 1048576) (deep : Int) (hdp : 0 < deep ∧ deep ≤ 100)
    (hP : ∀ d ∈ items, PutsAt d (deep - 1)) (hP2 : ∀ d ∈ rest, PutsAt d (deep - 1)) (cs : List Value) (hd : DK R (.mk 6 n neg mag text items rest) cs) :
    Calls Try.prog 83 #[.pointer (some ⟨X.g, 0, none⟩), .agg cs.toArray, .int .i64 deep] w (PutPost X V S Y R (PutQ S.ws.length (.mk 6 n neg mag text items rest)) w) := by
  obtain ⟨i0, hi, hz0, hz1, hz2⟩ := info_parts info_u64
  have H1 := Lib.hid (And.intro hi (And.intro hz0 (And.intro hz1 hz2)))
  clear hi hz0 hz1 hz2
  obtain ⟨am, cm, ai, ci, ar, cr, rfl, hr1, hit, hre⟩ := hd.open
  have h1 := h.push (dmO [.int .i64 6, .int .i64 n, .bool neg, .slice am mag.length cm, .string text, .slice ai items.length ci, .slice ar rest.length cr])
  have hb1 := Below.zero_alloc w (dmO [.int .i64 6, .int .i64 n, .bool neg, .slice am mag.length cm, .string text, .slice ai items.length ci, .slice ar rest.length cr])
  obtain ⟨g, hg⟩ : ∃ g, w.heap.size = g := ⟨_, rfl⟩
  rw [hg] at h1
  have c5 := h1.fr.left.cell 5
  have c6 := h1.fr.left.cell 6
  simp only [List.getElem?_toArray, List.getElem?_cons_zero, List.getElem?_cons_succ] at c5 c6
  have hpn : PutPost X V S Y R (PutQ S.ws.length (.mk 6 n neg mag text items rest)) w (.returned (.tuple #[.int .u64 0, .bool false])) (w.alloc (dmO [.int .i64 6, .int .i64 n, .bool neg, .slice am mag.length cm, .string text, .slice ai items.length ci, .slice ar rest.length cr])) := put_none hy h1.drop hb1
  have hA := h1.all hy items hli deep hdp hP ai ci (hit.mono (fun w h => h.right) _)
  have HH := Lib.hid (And.intro hpn (And.intro hb1 (And.intro hre (And.intro hP2 hP))))
  have HA := Lib.hid hA
  clear h hd hr1 hit hre hpn hA hb1 hP hP2
  go_enter Try.func83, Try.ntmps83
  go_upto_region 1 with (fail)
  generalize w.alloc (dmO [.int .i64 6, .int .i64 n, .bool neg, .slice am mag.length cm, .string text, .slice ai items.length ci, .slice ar rest.length cr]) = w1 at *
  by_cases hr2 : 1 < rest.length
  · clear h1
    go_wp2_with fail
    go_ret2
    exact HH.out.1
  · by_cases hr3 : rest.length = 1 ∧ items.length = 0
    · obtain ⟨hr3, hr4⟩ := hr3
      clear h1
      go_wp2_with fail
      go_ret2
      exact HH.out.1
    · have hne : items.length = 0 → rest.length = 0 := fun h => by omega
      by_cases hr4 : rest.length = 1
      case' pos =>
        have hr5 : items.length ≠ 0 := by omega
        have HN := Lib.hid (And.intro hne hr2)
        clear hne
        go_wp2_with fail
        clear hr5 hr4
      case' neg =>
        have HN := Lib.hid (And.intro hne hr2)
        clear hne
        go_wp2_with fail
        clear hr4
      all_goals
        clear hr2 hr3 h1
        refine HA.out.mono ?_
        clear HA c5 c6
        rintro e w2 ⟨X1, V1, S1, Y1, sv, xs, ok, rfl, hg1, h2, hy1, he1, hm1, ⟨hxb, hxi⟩, hb2⟩
        have hbb := HH.out.2.1.trans hb2
        cases ok
        case' false =>
          have hpost : PutPost X V S Y R (PutQ S.ws.length (.mk 6 n neg mag text items rest)) w (.returned (.tuple #[.int .u64 0, .bool false])) w2 := ⟨X1, V1, S1, Y1, 0, false, rfl, hg1, h2.drop.drop, hy1, he1, hm1, ⟨by decide, fun h => by cases h⟩, hbb⟩
          have HP := Lib.hid hpost
          clear hpost hg1 h2 hy1 he1 hm1 hxb hxi hb2 hbb
          go_wp2_with fail
          go_ret2
          exact HP.out
        case' true =>
          have hxx := hxi rfl
          clear hxi
          obtain ⟨hxl, hxi⟩ := hxx
          obtain ⟨so, sc, rfl⟩ := own_val h2.s.right.right
          have c6 := h2.fr.right.left.cell 6
          simp only [List.getElem?_toArray, List.getElem?_cons_zero, List.getElem?_cons_succ] at c6
          have hA2 := h2.all hy1 rest hlr deep hdp HH.out.2.2.2.1 ar cr (HH.out.2.2.1.mono (fun w h => h.right.right) _)
          rw [hg1.1] at hA2
          have HK := Lib.hid (And.intro hg1 (And.intro h2.ok (And.intro he1 (And.intro hm1 (And.intro hxb (And.intro hxl (And.intro hxi hbb)))))))
          have HA2 := Lib.hid hA2
          clear hg1 h2 hy1 he1 hm1 hxb hxi hxl hb2 hbb hA2
          go_wp2_with fail
          refine HA2.out.mono ?_
          clear HA2 c6
          rintro e w3 ⟨X2, V2, S2, Y2, lv, ls, ok2, rfl, hg2, h3, hy2, he2, hm2, ⟨hlb, hlI⟩, hb3⟩
          have hbb := HK.out.2.2.2.2.2.2.2.trans hb3
          have he3 : Ext S S2 ∧ S2.size = S.size ∧ S2.times = S.times := ⟨HK.out.2.2.1.1.trans he2.1, he2.2.1.trans HK.out.2.2.1.2.1, he2.2.2.trans HK.out.2.2.1.2.2⟩
          have hm3 : ∀ s v, Y.syms.get s = some v → Y2.syms.get s = some v := fun s v h => hm2 s v (HK.out.2.2.2.1 s v h)
          have hg3 : X2.g = X.g ∧ V2.g = V.g := ⟨hg2.1.trans HK.out.1.1, hg2.2.trans HK.out.1.2⟩
          cases ok2
          case' false =>
            have hpost : PutPost X V S Y R (PutQ S.ws.length (.mk 6 n neg mag text items rest)) w (.returned (.tuple #[.int .u64 0, .bool false])) w3 := ⟨X2, V2, S2, Y2, 0, false, rfl, hg3, h3.drop.drop.drop, hy2, he3, hm3, ⟨by decide, fun h => by cases h⟩, hbb⟩
            have HP := Lib.hid hpost
            clear hpost hg2 h3 hy2 he2 hm2 hlb hlI hb3 hbb he3 hm3 hg3
            go_wp2_with fail
            go_ret2
            exact HP.out
          case' true =>
            have hll2 := hlI rfl
            clear hlI
            obtain ⟨hll, hlI⟩ := hll2
            have HL := Lib.hid (And.intro hg3 (And.intro h3 (And.intro hy2 (And.intro he2 (And.intro hm3 (And.intro hlb (And.intro hll (And.intro hlI (And.intro he3 hbb)))))))))
            clear hg2 h3 hy2 he2 hm2 hlb hll hlI hb3 hbb he3 hm3 hg3
            go_wp2_with (at_builtin; refine halt ?_)
            refine goon ?_
            have hs7 : sat (w3.alloc (.cells #[.int .u64 10] 22)) (own 22 1 lv ls.length (ls.map Go.Proofs.Ytanjiecefioffaa.u64) * (Go.Proofs.Ytanjiecefioffaa.blk w3.heap.size (.cells #[.int .u64 10] 22 (0, 0)) * (isHeap V2 S2 * (isSt X2 V2.g Y2 * (own 22 1 (.slice so xs.length sc) xs.length (xs.map Go.Proofs.Ytanjiecefioffaa.u64) * (Go.Proofs.Ytanjiecefioffaa.blk g (dmO [.int .i64 6, .int .i64 n, .bool neg, .slice am mag.length cm, .string text, .slice ai items.length ci, .slice ar rest.length cr]) * R)))))) := (HL.out.2.1.s.alloc (.cells #[.int .u64 10] 22)).perm (by ac_rfl)
            have hnew : (w3.alloc (.cells #[.int .u64 10] 22)).cell? ⟨w3.heap.size, 0, none⟩ = some (.int .u64 10) := (hs7.right.left.cell 0).trans rfl
            have hb7 : Below 0 w (w3.alloc (.cells #[.int .u64 10] 22)) := HL.out.2.2.2.2.2.2.2.2.2.trans (Below.zero_alloc _ _)
            generalize w3.alloc (.cells #[.int .u64 10] 22) = w7 at *
            generalize w3.heap.size = bn at *
            obtain ⟨hi, hz0, hz1, hz2⟩ := H1.out
            have hlx : (ls.map Go.Proofs.Ytanjiecefioffaa.u64).length = ls.length := by rw [List.length_map]
            have hl4 : ls.length ≤ 1048576 := by have := HL.out.2.2.2.2.2.2.1; omega
            refine wpList_append_one rfl (.tmp 48) (.tmp 49) 35 rfl 22 i0 (.int .u64 0) 8 Try.underlying35 hi hz0 hz1 hz2 rfl lv ls.length (ls.map Go.Proofs.Ytanjiecefioffaa.u64) rfl _ bn (.int .u64 10) rfl ?_ hs7 hnew rfl (by omega) (by unfold maxLen; omega)
            clear hi hz0 hz1 hz2 hnew hs7 hlx
            intro v' w9 hs9 hb9
            obtain ⟨lw, hlw, ⟨hlwb, hlwm⟩, hlast⟩ := last_at HN.out.2 HL.out.2.2.2.2.2.2.1 HL.out.2.2.2.2.2.2.2.1
            obtain ⟨bo', co', rfl, hco, hlo, hro⟩ := hs9.own_some (by omega)
            have hc0 : w9.cell? ⟨bo', 0, none⟩ = some (.int .u64 lw) := by
              refine hro.row_cell (j := 0) ?_
              have : ls.map Go.Proofs.Ytanjiecefioffaa.u64 ++ [.int .u64 10] = (ls ++ [10]).map Go.Proofs.Ytanjiecefioffaa.u64 := by rw [List.map_append]; rfl
              rw [this, List.getElem?_map, hlw]
              rfl
            have h9 : StW w9 X2 V2 S2 Y2 (own 22 1 (.slice so xs.length sc) xs.length (xs.map Go.Proofs.Ytanjiecefioffaa.u64) * (Go.Proofs.Ytanjiecefioffaa.blk bn (.cells #[.int .u64 10] 22 (0, 0)) * (own 22 1 (.slice (some ⟨bo', 0, none⟩) (ls.length + 1) co') (ls.length + 1) (ls.map Go.Proofs.Ytanjiecefioffaa.u64 ++ [.int .u64 10]) * (Go.Proofs.Ytanjiecefioffaa.blk g (dmO [.int .i64 6, .int .i64 n, .bool neg, .slice am mag.length cm, .string text, .slice ai items.length ci, .slice ar rest.length cr]) * R)))) := ⟨hs9.perm (by ac_rfl), HL.out.2.1.ok⟩
            have hin : ∀ (i : Nat) d x, (plainPs items)[i]? = some d → xs[i]? = some x → HIn S2 d x := by
              intro i d x hd hx
              obtain ⟨e, h1, rfl⟩ := plains_get hd
              exact (HK.out.2.2.2.2.2.2.1 i e x h1 hx).ext HL.out.2.2.2.1.1 HK.out.2.1.wf
            have hC := h9.chain_data HL.out.2.2.1 lw hlwb hlwm (plainPs items) xs (by rw [plainPs_len]; exact HK.out.2.2.2.2.2.1) (by rw [plainPs_len]; exact hli) HK.out.2.2.2.2.1 hin so sc (fun w hs => own_reads rfl rfl hs)
            rw [HL.out.1.1] at hC
            have HC := Lib.hid (And.intro hC (And.intro hlast (hb7.trans hb9)))
            clear hs9 hb9 hb7 hC hin h9 hro hlo hco hlw hlwb hlwm hlast hl4
            go_wp2_with fail
            refine HC.out.1.mono ?_
            rintro e w4 ⟨X4, V4, S4, Y4, x, ok4, rfl, hg4, h4, hy4, he4, hm4, ⟨hbx, hq⟩, hb4⟩
            have hfr : ok4 = true → items ≠ [] → 4 * (S.ws.length : Int) ≤ x := by
              intro hok hi
              have h1 := (hq hok).2 (fun h0 => hi (List.eq_nil_of_length_eq_zero (by rw [← plainPs_len, h0]; rfl)))
              obtain ⟨l, hl⟩ := HL.out.2.2.2.2.2.2.2.2.1.1.ws
              rw [hl, List.length_append] at h1
              omega
            have hpost : PutPost X V S Y R (PutQ S.ws.length (.mk 6 n neg mag text items rest)) w (.returned (.tuple #[.int .u64 x, .bool ok4])) w4 := by
              refine ⟨X4, V4, S4, Y4, x, ok4, rfl, ⟨hg4.1.trans HL.out.1.1, hg4.2.trans HL.out.1.2⟩, h4.drop.drop.drop.drop, hy4, ⟨HL.out.2.2.2.2.2.2.2.2.1.1.trans he4.1, he4.2.1.trans HL.out.2.2.2.2.2.2.2.2.1.2.1, he4.2.2.trans HL.out.2.2.2.2.2.2.2.2.1.2.2⟩, fun s v h => hm4 s v (HL.out.2.2.2.2.1 s v h), ⟨hbx, fun hok => ⟨?_, fun k n p m t i r he => by cases he; exact ⟨fun hk => (by cases hk), fun hk => hfr hok (by rcases hk with hk | hk | hk; exact absurd hk (by decide); exact absurd hk (by decide); exact hk.2), fun _ hi => List.eq_nil_of_length_eq_zero (HN.out.1 (by rw [hi]; rfl))⟩⟩⟩, HC.out.2.2.trans hb4⟩
              · obtain ⟨⟨hto, hxe⟩, _⟩ := hq hok
                rw [plain_at, if_neg (by decide), if_neg (by decide), if_neg (by decide), if_pos rfl]
                rcases HC.out.2.1 with ⟨rfl, rfl⟩ | ⟨r, rfl, hr⟩
                · rw [plains_nil]
                  exact list_in hbx hto
                · rw [plains_one]
                  refine join_in hbx hto (hr.ext hxe HL.out.2.1.ok.wf) ?_
                  intro h0
                  have h1 := plainPs_len items
                  rw [h0] at h1
                  have h2 := HN.out.1 h1.symm
                  simp at h2
            have HF := Lib.hid hpost
            clear hpost h4 hg4 hy4 he4 hm4 hbx hq hb4 hc0 hfr
            go_wp2_with fail
            go_ret2
            exact HF.out
end
end Go.Proofs.Ytanjiecefioffaa

/- value.Store.put of whatever datum. -/
namespace Go.Proofs.Ytanjiecefioffaa
open Go.RowKit
section
variable {w : World} {X : StV} {V : HV} {S : HS} {Y : StS} {R : HP}
set_option maxRecDepth 100000 in
set_option maxHeartbeats 4000000 in
theorem StW.put_deep (h : StW w X V S Y R) (hy : SyOk S Y) (d : Dm) (cs : List Value) (hd : DK R d cs) :
    Calls Try.prog 58 #[.pointer (some ⟨X.g, 0, none⟩), .agg cs.toArray, .int .i64 0] w (PutPost X V S Y R (PutQ S.ws.length d) w) := by
  cases d with
  | mk k n neg mag text items rest =>
  obtain ⟨am, cm, ai, ci, ar, cr, rfl, _⟩ := hd.open
  have h1 := h.push (dmO [.int .i64 k, .int .i64 n, .bool neg, .slice am mag.length cm, .string text, .slice ai items.length ci, .slice ar rest.length cr])
  have hb1 := Below.zero_alloc w (dmO [.int .i64 k, .int .i64 n, .bool neg, .slice am mag.length cm, .string text, .slice ai items.length ci, .slice ar rest.length cr])
  obtain ⟨g, hg⟩ : ∃ g, w.heap.size = g := ⟨_, rfl⟩
  rw [hg] at h1
  have hpn : PutPost X V S Y R (PutQ S.ws.length (.mk k n neg mag text items rest)) w (.returned (.tuple #[.int .u64 0, .bool false])) (w.alloc (dmO [.int .i64 k, .int .i64 n, .bool neg, .slice am mag.length cm, .string text, .slice ai items.length ci, .slice ar rest.length cr])) := put_none hy h1.drop hb1
  have HH := Lib.hid hpn
  clear h hd hpn hb1 h1
  go_enter Try.func58, Try.ntmps58
  go_wp2_with fail
  go_ret2
  exact HH.out
set_option maxRecDepth 100000 in
set_option maxHeartbeats 4000000 in
theorem StW.put_list (h : StW w X V S Y R) (hy : SyOk S Y) (n : Int) (neg : Bool) (mag : List Int) (text : ByteArray) (items rest : List Dm) (hli : items.length ≤ 1048576) (hlr : rest.length ≤ 1048576) (deep : Int) (hdp : 0 < deep ∧ deep ≤ 100)
    (hP : ∀ d ∈ items, PutsAt d (deep - 1)) (hP2 : ∀ d ∈ rest, PutsAt d (deep - 1)) (cs : List Value) (hd : DK R (.mk 6 n neg mag text items rest) cs) :
    Calls Try.prog 58 #[.pointer (some ⟨X.g, 0, none⟩), .agg cs.toArray, .int .i64 deep] w (PutPost X V S Y R (PutQ S.ws.length (.mk 6 n neg mag text items rest)) w) := by
  obtain ⟨am, cm, ai, ci, ar, cr, rfl, _⟩ := hd.open
  have h1 := h.push (dmO [.int .i64 6, .int .i64 n, .bool neg, .slice am mag.length cm, .string text, .slice ai items.length ci, .slice ar rest.length cr])
  have hb1 := Below.zero_alloc w (dmO [.int .i64 6, .int .i64 n, .bool neg, .slice am mag.length cm, .string text, .slice ai items.length ci, .slice ar rest.length cr])
  obtain ⟨g, hg⟩ : ∃ g, w.heap.size = g := ⟨_, rfl⟩
  rw [hg] at h1
  have hC := h1.list hy n neg mag text items rest hli hlr deep hdp hP hP2 _ (hd.mono (fun w h => h.right) _)
  have c0 := h1.fr.left.cell 0
  have c1 := h1.fr.left.cell 1
  have c2 := h1.fr.left.cell 2
  have c3 := h1.fr.left.cell 3
  have c4 := h1.fr.left.cell 4
  have c5 := h1.fr.left.cell 5
  have c6 := h1.fr.left.cell 6
  simp only [List.getElem?_toArray, List.getElem?_cons_zero, List.getElem?_cons_succ] at c0 c1 c2 c3 c4 c5 c6
  have gd : (deep == 0) = false := by simp; omega
  have HH := Lib.hid (And.intro hC hb1)
  clear h h1 hb1 hd hC hP hP2
  go_enter Try.func58, Try.ntmps58
  go_upto_region 1 with (fail)
  generalize w.alloc (dmO [.int .i64 6, .int .i64 n, .bool neg, .slice am mag.length cm, .string text, .slice ai items.length ci, .slice ar rest.length cr]) = w1 at *
  go_wp2_with fail
  refine HH.out.1.mono ?_
  rintro e w4 ⟨X4, V4, S4, Y4, x, ok4, rfl, hg4, h4, hy4, he4, hm4, hq, hb4⟩
  have hpost : PutPost X V S Y R (PutQ S.ws.length (.mk 6 n neg mag text items rest)) w (.returned (.tuple #[.int .u64 x, .bool ok4])) w4 := ⟨X4, V4, S4, Y4, x, ok4, rfl, hg4, h4.drop, hy4, he4, hm4, hq, HH.out.2.trans hb4⟩
  have HF := Lib.hid hpost
  clear hpost h4 hg4 hy4 he4 hm4 hq hb4 HH
  go_wp2_with fail
  go_ret2
  exact HF.out
set_option maxRecDepth 100000 in
set_option maxHeartbeats 4000000 in
theorem StW.put_vec (h : StW w X V S Y R) (hy : SyOk S Y) (n : Int) (neg : Bool) (mag : List Int) (text : ByteArray) (items rest : List Dm) (hli : items.length ≤ 1048576) (deep : Int) (hdp : 0 < deep ∧ deep ≤ 100)
    (hP : ∀ d ∈ items, PutsAt d (deep - 1)) (cs : List Value) (hd : DK R (.mk 7 n neg mag text items rest) cs) :
    Calls Try.prog 58 #[.pointer (some ⟨X.g, 0, none⟩), .agg cs.toArray, .int .i64 deep] w (PutPost X V S Y R (PutQ S.ws.length (.mk 7 n neg mag text items rest)) w) := by
  obtain ⟨am, cm, ai, ci, ar, cr, rfl, hr1, hit, hre⟩ := hd.open
  have h1 := h.push (dmO [.int .i64 7, .int .i64 n, .bool neg, .slice am mag.length cm, .string text, .slice ai items.length ci, .slice ar rest.length cr])
  have hb1 := Below.zero_alloc w (dmO [.int .i64 7, .int .i64 n, .bool neg, .slice am mag.length cm, .string text, .slice ai items.length ci, .slice ar rest.length cr])
  obtain ⟨g, hg⟩ : ∃ g, w.heap.size = g := ⟨_, rfl⟩
  rw [hg] at h1
  have hA := h1.all hy items hli deep hdp hP ai ci (hit.mono (fun w h => h.right) _)
  have c0 := h1.fr.left.cell 0
  have c5 := h1.fr.left.cell 5
  simp only [List.getElem?_toArray, List.getElem?_cons_zero, List.getElem?_cons_succ] at c0 c5
  have gd : (deep == 0) = false := by simp; omega
  have HH := Lib.hid (And.intro hA hb1)
  clear h h1 hb1 hd hA hP hr1 hit hre
  go_enter Try.func58, Try.ntmps58
  go_upto_region 1 with (fail)
  generalize w.alloc (dmO [.int .i64 7, .int .i64 n, .bool neg, .slice am mag.length cm, .string text, .slice ai items.length ci, .slice ar rest.length cr]) = w1 at *
  go_wp2_with fail
  refine HH.out.1.mono ?_
  rintro e w2 ⟨X1, V1, S1, Y1, sv, xs, ok, rfl, hg1, h2, hy1, he1, hm1, ⟨hxb, hxi⟩, hb2⟩
  have hbb := HH.out.2.trans hb2
  cases ok
  case' false =>
    have hpost : PutPost X V S Y R (PutQ S.ws.length (.mk 7 n neg mag text items rest)) w (.returned (.tuple #[.int .u64 0, .bool false])) w2 := ⟨X1, V1, S1, Y1, 0, false, rfl, hg1, h2.drop.drop, hy1, he1, hm1, ⟨by decide, fun h => by cases h⟩, hbb⟩
    have HP := Lib.hid hpost
    clear hpost hg1 h2 hy1 he1 hm1 hxb hxi hb2 hbb HH c0 c5
    go_wp2_with fail
    go_ret2
    exact HP.out
  case' true =>
    have hxx := hxi rfl
    clear hxi
    obtain ⟨hxl, hxi⟩ := hxx
    obtain ⟨so, sc, rfl⟩ := own_val h2.s.right.right
    have hin : ∀ (i : Nat) d x, (plainPs items)[i]? = some d → xs[i]? = some x → HIn S1 d x := by
      intro i d x hd hx
      obtain ⟨e, h1, rfl⟩ := plains_get hd
      exact hxi i e x h1 hx
    have hC := h2.vec_data hy1 (plainPs items) xs (by rw [plainPs_len]; exact hxl) (by rw [plainPs_len]; exact hli) hxb hin so sc (fun w hs => own_reads rfl rfl hs)
    rw [hg1.1] at hC
    have HC := Lib.hid (And.intro hC (And.intro hg1 (And.intro he1 (And.intro hm1 hbb))))
    clear hC hin hg1 h2 hy1 he1 hm1 hxb hxi hxl hb2 hbb HH c0 c5
    go_wp2_with fail
    refine HC.out.1.mono ?_
    rintro e w4 ⟨X4, V4, S4, Y4, x, ok4, rfl, hg4, h4, hy4, he4, hm4, ⟨hbx, hq⟩, hb4⟩
    have hfr : ok4 = true → 4 * (S.ws.length : Int) ≤ x := by
      intro hok
      have h1 := (hq hok).2
      obtain ⟨l, hl⟩ := HC.out.2.2.1.1.ws
      rw [hl, List.length_append] at h1
      omega
    have hpost : PutPost X V S Y R (PutQ S.ws.length (.mk 7 n neg mag text items rest)) w (.returned (.tuple #[.int .u64 x, .bool ok4])) w4 := by
      refine ⟨X4, V4, S4, Y4, x, ok4, rfl, ⟨hg4.1.trans HC.out.2.1.1, hg4.2.trans HC.out.2.1.2⟩, h4.drop.drop, hy4, ⟨HC.out.2.2.1.1.trans he4.1, he4.2.1.trans HC.out.2.2.1.2.1, he4.2.2.trans HC.out.2.2.1.2.2⟩, fun s v h => hm4 s v (HC.out.2.2.2.1 s v h), ⟨hbx, fun hok => ⟨?_, fun k n p m t i r he => by cases he; exact ⟨fun hk => (by cases hk), fun _ => hfr hok, fun hk => (by cases hk)⟩⟩⟩, HC.out.2.2.2.2.trans hb4⟩
      · rw [plain_at, if_neg (by decide), if_neg (by decide), if_neg (by decide), if_neg (by decide), if_pos rfl]
        exact (hq hok).1
    have HF := Lib.hid hpost
    clear hpost h4 hg4 hy4 he4 hm4 hbx hq hb4
    go_wp2_with fail
    go_ret2
    exact HF.out
end
/-- put of whatever datum of a bounded size. -/
theorem puts_all : ∀ s : Nat, s ≤ 1048576 → ∀ d : Dm, d.size ≤ s → ∀ deep : Int, 0 ≤ deep ∧ deep ≤ 100 → PutsAt d deep := by
  intro s
  induction s with
  | zero =>
    intro _ d hd
    exact absurd d.size_pos (by omega)
  | succ s ih =>
    intro hs d hd deep hdp w X V S Y R cs h hy hdk
    by_cases h0 : deep = 0
    · subst h0
      exact h.put_deep hy d cs hdk
    · have hdp2 : 0 < deep ∧ deep ≤ 100 := by omega
      cases d with
      | mk k n neg mag text items rest =>
      have hz := hd
      unfold Dm.size at hd
      have hl1 := Dm.len_le items
      have hl2 := Dm.len_le rest
      have q1 : ∀ d ∈ items, PutsAt d (deep - 1) := by
        intro d hd'
        obtain ⟨i, hi⟩ := List.mem_iff_getElem?.1 hd'
        have h1 := Dm.size_le hi
        exact ih (by omega) d (by omega) (deep - 1) (by omega)
      have q2 : ∀ d ∈ rest, PutsAt d (deep - 1) := by
        intro d hd'
        obtain ⟨i, hi⟩ := List.mem_iff_getElem?.1 hd'
        have h1 := Dm.size_le hi
        exact ih (by omega) d (by omega) (deep - 1) (by omega)
      by_cases h6 : k = 6
      · subst h6
        exact h.put_list hy n neg mag text items rest (by omega) (by omega) deep hdp2 q1 q2 cs hdk
      · by_cases h7 : k = 7
        · subst h7
          exact h.put_vec hy n neg mag text items rest (by omega) deep hdp2 q1 cs hdk
        · exact h.put_leaf hy k n neg mag text items rest (by omega) h6 h7 cs hdk deep hdp2
theorem put_dm {d : Dm} (hd : d.size ≤ 1048576) {deep : Int} (h : 0 ≤ deep ∧ deep ≤ 100) : PutsAt d deep := puts_all 1048576 (Nat.le_refl _) d hd deep h
end Go.Proofs.Ytanjiecefioffaa

/- value.Store.Put of whatever datum. -/
namespace Go.Proofs.Ytanjiecefioffaa
open Go.RowKit
section
variable {w : World} {X : StV} {V : HV} {S : HS} {Y : StS} {R : HP}
set_option maxRecDepth 100000 in
set_option maxHeartbeats 4000000 in
theorem StW.Put_dm (h : StW w X V S Y R) (hy : SyOk S Y) (d : Dm) (hsz : d.size ≤ 1048576) (cs : List Value) (hd : DK R d cs) :
    Calls Try.prog 26 #[.pointer (some ⟨X.g, 0, none⟩), .agg cs.toArray] w (PutPost X V S Y R (PutQ S.ws.length d) w) := by
  have hP := put_dm hsz (deep := 100) (by decide)
  cases d with
  | mk k n neg mag text items rest =>
  obtain ⟨am, cm, ai, ci, ar, cr, rfl, _⟩ := hd.open
  have h1 := h.push (dmO [.int .i64 k, .int .i64 n, .bool neg, .slice am mag.length cm, .string text, .slice ai items.length ci, .slice ar rest.length cr])
  have hb1 := Below.zero_alloc w (dmO [.int .i64 k, .int .i64 n, .bool neg, .slice am mag.length cm, .string text, .slice ai items.length ci, .slice ar rest.length cr])
  obtain ⟨g, hg⟩ : ∃ g, w.heap.size = g := ⟨_, rfl⟩
  rw [hg] at h1
  have hC := hP _ X V S Y _ _ h1 hy (hd.mono (fun w h => h.right) _)
  have c0 := h1.fr.left.cell 0
  have c1 := h1.fr.left.cell 1
  have c2 := h1.fr.left.cell 2
  have c3 := h1.fr.left.cell 3
  have c4 := h1.fr.left.cell 4
  have c5 := h1.fr.left.cell 5
  have c6 := h1.fr.left.cell 6
  simp only [List.getElem?_toArray, List.getElem?_cons_zero, List.getElem?_cons_succ] at c0 c1 c2 c3 c4 c5 c6
  have HH := Lib.hid (And.intro hC hb1)
  clear h h1 hb1 hd hC hP
  go_enter Try.func26, Try.ntmps26
  go_upto_region 1 with (fail)
  generalize w.alloc (dmO [.int .i64 k, .int .i64 n, .bool neg, .slice am mag.length cm, .string text, .slice ai items.length ci, .slice ar rest.length cr]) = w1 at *
  go_wp2_with fail
  refine HH.out.1.mono ?_
  rintro e w4 ⟨X4, V4, S4, Y4, x, ok4, rfl, hg4, h4, hy4, he4, hm4, hq, hb4⟩
  have hpost : PutPost X V S Y R (PutQ S.ws.length (.mk k n neg mag text items rest)) w (.returned (.tuple #[.int .u64 x, .bool ok4])) w4 := ⟨X4, V4, S4, Y4, x, ok4, rfl, hg4, h4.drop, hy4, he4, hm4, hq, HH.out.2.trans hb4⟩
  have HF := Lib.hid hpost
  clear hpost h4 hg4 hy4 he4 hm4 hq hb4 HH
  go_wp2_with fail
  go_ret2
  exact HF.out
end
end Go.Proofs.Ytanjiecefioffaa

/- value.Store.take of what is no number, no text and has no parts. -/
namespace Go.Proofs.Ytanjiecefioffaa
open Go.RowKit
/-- What a datum without parts is, taken. -/
def leafD (k n : Int) (t : ByteArray) : Value := .agg #[.int .i64 k, .int .i64 n, .bool false, .slice none 0 0, .string t, .slice none 0 0, .slice none 0 0]
/-- The end of take: the result's cells are told. -/
theorem take_end {w7 : World} (gz : Nat) (k n : Int) (t : ByteArray) {Q : HP} (h : sat w7 (Go.Proofs.Ytanjiecefioffaa.blk gz (.cells #[.int .i64 k, .int .i64 n, .bool false, .slice none 0 0, .string t, .slice none 0 0, .slice none 0 0] 54 (0, 0)) * Q)) :
    (w7.cell? ⟨gz, 0, none⟩ = some (.int .i64 k) ∧ w7.cell? ⟨gz, 1, none⟩ = some (.int .i64 n) ∧ w7.cell? ⟨gz, 2, none⟩ = some (.bool false)) ∧ w7.cell? ⟨gz, 3, none⟩ = some (.slice none 0 0) ∧ w7.cell? ⟨gz, 4, none⟩ = some (.string t) ∧ w7.cell? ⟨gz, 5, none⟩ = some (.slice none 0 0) ∧ w7.cell? ⟨gz, 6, none⟩ = some (.slice none 0 0) :=
  ⟨⟨h.left.cell 0, h.left.cell 1, h.left.cell 2⟩, h.left.cell 3, h.left.cell 4, h.left.cell 5, h.left.cell 6⟩
section
variable {w : World} {X : StV} {V : HV} {S : HS} {Y : StS} {R : HP}
set_option maxRecDepth 100000 in
set_option maxHeartbeats 2000000 in
theorem StW.take_leaf (gl : Nat) (n deep : Int) (h : StW w X V S Y (Go.Proofs.Ytanjiecefioffaa.blk gl (.cells #[.int .i64 n] 3 (0, 0)) * R)) (hn : 0 < n ∧ n ≤ 20000) (hd : 0 < deep ∧ deep ≤ 100) (x : Int) (x0 : 0 ≤ x) (x1 : x < 18446744073709551616)
    (hnum : S.num x = none) (hb : S.bytesOk x = false) (k m : Int) (t : ByteArray)
    (hc : (S.nameOk x = true ∧ k = 5 ∧ m = 0 ∧ t = S.name x) ∨ (S.nameOk x = false ∧ t = ⟨#[]⟩ ∧ ((k = 2 ∧ m = 0 ∧ x = 2) ∨ (k = 2 ∧ m = 1 ∧ x = 6) ∨ (k = 6 ∧ m = 0 ∧ x = 10)))) :
    Calls Try.prog 60 #[.pointer (some ⟨X.g, 0, none⟩), .int .u64 x, .pointer (some ⟨gl, 0, none⟩), .int .i64 deep] w fun e w' => e = .returned (.tuple #[leafD k m t, .bool true]) ∧
      StW w' X V S Y (Go.Proofs.Ytanjiecefioffaa.blk gl (.cells #[.int .i64 (n - 1)] 3 (0, 0)) * R) ∧ Below 0 w w' := by
  have hs : sat w (Go.Proofs.Ytanjiecefioffaa.blk gl (.cells #[.int .i64 n] 3 (0, 0)) * (isHeap V S * (isSt X V.g Y * R))) := h.s.perm (by ac_rfl)
  have c1 : w.cell? ⟨gl, 0, none⟩ = some (.int .i64 n) := (hs.left.cell 0).trans rfl
  have f1 := hs.left.frozen 0
  have cA : ∀ o, (w.alloc o).cell? ⟨gl, 0, none⟩ = some (.int .i64 n) := fun o => ((hs.alloc o).right.left.cell 0).trans rfl
  have fA : ∀ o, (w.alloc o).frozen? ⟨gl, 0, none⟩ = false := fun o => (hs.alloc o).right.left.frozen 0
  obtain ⟨Z, hZ⟩ : ∃ Z : Obj, Z = .cells #[.int .i64 0, .int .i64 0, .bool false, .slice none 0 0, .string ⟨#[]⟩, .slice none 0 0, .slice none 0 0] 54 := ⟨_, rfl⟩
  have hs2 : sat ((w.alloc Z).setCell ⟨gl, 0, none⟩ (.int .i64 (n - 1))) (Go.Proofs.Ytanjiecefioffaa.blk gl (.cells #[.int .i64 (n - 1)] 3 (0, 0)) * (Go.Proofs.Ytanjiecefioffaa.blk w.heap.size Z * (isHeap V S * (isSt X V.g Y * R)))) :=
    (show sat (w.alloc Z) (Go.Proofs.Ytanjiecefioffaa.blk gl (.cells #[.int .i64 n] 3 (0, 0)) * (Go.Proofs.Ytanjiecefioffaa.blk w.heap.size Z * (isHeap V S * (isSt X V.g Y * R)))) from (hs.alloc Z).perm (by ac_rfl)).setCell (off := 0) (.int .i64 (n - 1))
  have h2 : StW ((w.alloc Z).setCell ⟨gl, 0, none⟩ (.int .i64 (n - 1))) X V S Y (Go.Proofs.Ytanjiecefioffaa.blk w.heap.size Z * (Go.Proofs.Ytanjiecefioffaa.blk gl (.cells #[.int .i64 (n - 1)] 3 (0, 0)) * R)) := ⟨hs2.perm (by ac_rfl), h.ok⟩
  have hb2 : Below 0 w ((w.alloc Z).setCell ⟨gl, 0, none⟩ (.int .i64 (n - 1))) := (Below.zero_alloc w Z).setCell (p := ⟨gl, 0, none⟩) (Nat.zero_le _) _
  clear hs2
  rw [hZ] at h2 hb2
  clear hZ
  have g1 : IntKind.i64.wrap (n - 1) = n - 1 := IntWalk.i64_in _ (by omega)
  have g2 : decide (n ≤ 0) = false := by simp; omega
  have g3 : (deep == 0) = false := by simp; omega
  have HX := Lib.hid (And.intro h2 (And.intro hb2 (And.intro hnum (And.intro hb hc))))
  clear h h2 hs hb2 hnum hb hc
  go_enter Try.func60, Try.ntmps60
  go_wp2_with fail
  have hN := HX.out.1.Num x x0 x1
  rw [HX.out.2.2.1] at hN
  clear c1 f1 cA fA
  generalize hw2 : (w.alloc (.cells #[.int .i64 0, .int .i64 0, .bool false, .slice none 0 0, .string ⟨#[]⟩, .slice none 0 0, .slice none 0 0] 54)).setCell ⟨gl, 0, none⟩ (.int .i64 (n - 1)) = w2 at *
  with_reducible refine hN.mono ?_
  rintro e w3 ⟨ao, ac, rfl, hac, h3, hb3⟩
  simp only [Option.getD_none, Option.isSome_none] at h3 ⊢
  obtain ⟨P, hP⟩ : ∃ P, decide ((0 : Int) < 0) = P := ⟨_, rfl⟩
  rw [hP]
  generalize (limbsOf (0 : Int).natAbs).length = nl at *
  have hp := h3.push (.cells #[.bool P, .slice ao nl ac] 51)
  have hB := hp.Bytes x x0 x1
  unfold BytesPost at hB
  rw [HX.out.2.2.2.1] at hB
  have HB := Lib.hid (And.intro h3 (And.intro hb3 hp))
  clear hN h3 hb3 hp hac
  go_wp2_with fail
  with_reducible refine hB.mono ?_
  rintro e w4 ⟨v, rfl, h4, hb4⟩
  have h4b : StW w4 X V S Y (Go.Proofs.Ytanjiecefioffaa.blk w.heap.size (.cells #[.int .i64 0, .int .i64 0, .bool false, .slice none 0 0, .string ⟨#[]⟩, .slice none 0 0, .slice none 0 0] 54) * (Go.Proofs.Ytanjiecefioffaa.blk gl (.cells #[.int .i64 (n - 1)] 3 (0, 0)) * R)) := h4.drop.drop.drop
  have hNm := h4b.Name x x0 x1
  unfold NamePost at hNm
  have HD := Lib.hid (And.intro h4b ((HX.out.2.1.trans HB.out.2.1).trans ((Below.zero_alloc w3 (.cells #[.bool P, .slice ao nl ac] 51)).trans hb4)))
  clear h4 hb4 hB h4b HB
  go_wp2_with fail
  with_reducible refine hNm.mono ?_
  clear hNm
  rintro e w5 ⟨rfl, h5, hb5⟩
  obtain ⟨gz, hgz⟩ : ∃ gz, w.heap.size = gz := ⟨_, rfl⟩
  rw [hgz] at h5 ⊢
  have hso : sat w5 (Go.Proofs.Ytanjiecefioffaa.blk gz (.cells #[.int .i64 0, .int .i64 0, .bool false, .slice none 0 0, .string ⟨#[]⟩, .slice none 0 0, .slice none 0 0] 54 (0, 0)) * (isHeap V S * (isSt X V.g Y * (Go.Proofs.Ytanjiecefioffaa.blk gl (.cells #[.int .i64 (n - 1)] 3 (0, 0)) * R)))) := h5.s.perm (by ac_rfl)
  have c0 := (hso.left.cell 0).trans rfl
  have c1 := (hso.left.cell 1).trans rfl
  have c2 := (hso.left.cell 2).trans rfl
  have c3 := (hso.left.cell 3).trans rfl
  have c4 := (hso.left.cell 4).trans rfl
  have c5 := (hso.left.cell 5).trans rfl
  have c6 := (hso.left.cell 6).trans rfl
  have f0 := hso.left.frozen 0
  have f1 := hso.left.frozen 1
  have f2 := hso.left.frozen 2
  have f3 := hso.left.frozen 3
  have f4 := hso.left.frozen 4
  have f5 := hso.left.frozen 5
  have f6 := hso.left.frozen 6
  have hs7 := ((((((hso.setCell (off := 0) (.int .i64 k)).setCell (off := 1) (.int .i64 m)).setCell (off := 2) (.bool false)).setCell (off := 3) (.slice none 0 0)).setCell (off := 4) (.string t)).setCell (off := 5) (.slice none 0 0)).setCell (off := 6) (.slice none 0 0)
  have hb7 := ((((((((HD.out.2.trans hb5).setCell (p := ⟨gz, 0, none⟩) (Nat.zero_le _) (.int .i64 k)).setCell (p := ⟨gz, 1, none⟩) (Nat.zero_le _) (.int .i64 m)).setCell (p := ⟨gz, 2, none⟩) (Nat.zero_le _) (.bool false)).setCell (p := ⟨gz, 3, none⟩) (Nat.zero_le _) (.slice none 0 0)).setCell (p := ⟨gz, 4, none⟩) (Nat.zero_le _) (.string t)).setCell (p := ⟨gz, 5, none⟩) (Nat.zero_le _) (.slice none 0 0)).setCell (p := ⟨gz, 6, none⟩) (Nat.zero_le _) (.slice none 0 0))
  have HF := Lib.hid (And.intro hs7 (And.intro h5.ok hb7))
  have HC := Lib.hid HX.out.2.2.2.2
  clear hso h5 hb5 hs7 hb7 HX HD
  rcases HC.out with ⟨hno, rfl, rfl, ht⟩ | ⟨hno, rfl, ⟨rfl, rfl, rfl⟩ | ⟨rfl, rfl, rfl⟩ | ⟨rfl, rfl, rfl⟩⟩
  case' inl =>
    rw [hno, ← ht]
    clear hno HC ht
  all_goals
    first
      | rw [hno]; clear hno HC
      | skip
    go_wp2_with fail
    clear c0 c1 c2 c3 c4 c5 c6 f0 f1 f2 f3 f4 f5 f6
    obtain ⟨hs7, hok7, hb7⟩ := HF.out
    revert hs7 hb7
    generalize ((((((w5.setCell ⟨gz, 0, none⟩ _).setCell ⟨gz, 1, none⟩ _).setCell ⟨gz, 2, none⟩ _).setCell ⟨gz, 3, none⟩ _).setCell ⟨gz, 4, none⟩ _).setCell ⟨gz, 5, none⟩ _).setCell ⟨gz, 6, none⟩ _ = w7
    intro hs7 hb7
    obtain ⟨⟨r0, r1, r2⟩, r3, r4, r5, r6⟩ := take_end gz _ _ _ hs7
    exact bodyPost_ret (v := .tuple #[leafD _ _ _, .bool true]) (by simp [results, Try.results60, go_sem, r0, r1, r2, r3, r4, r5, r6, leafD]) rfl ⟨rfl, ⟨hs7.right.perm (by ac_rfl), hok7⟩, hb7⟩
end
end Go.Proofs.Ytanjiecefioffaa

/- value.Store.take of a character, and of what is nothing. -/
namespace Go.Proofs.Ytanjiecefioffaa
open Go.RowKit
theorem char_bits (n : Int) (h0 : 0 ≤ n) (h1 : n ≤ 255) : bits .and .u64 (256 * n + 22) 255 = 22 ∧ (256 * n + 22) / 256 = n := by
  have key : ∀ i : Fin 256, bits .and .u64 (256 * ((i.1 : Nat) : Int) + 22) 255 = 22 := by decide +kernel
  have := key ⟨n.toNat, by omega⟩
  simp only at this
  rw [show ((n.toNat : Nat) : Int) = n by omega] at this
  exact ⟨this, by omega⟩
section
variable {w : World} {X : StV} {V : HV} {S : HS} {Y : StS} {R : HP}
set_option maxRecDepth 100000 in
set_option maxHeartbeats 2000000 in
theorem StW.take_char (gl : Nat) (n deep : Int) (h : StW w X V S Y (Go.Proofs.Ytanjiecefioffaa.blk gl (.cells #[.int .i64 n] 3 (0, 0)) * R)) (hn : 0 < n ∧ n ≤ 20000) (hd : 0 < deep ∧ deep ≤ 100) (x : Int) (x0 : 0 ≤ x) (x1 : x < 18446744073709551616)
    (hnum : S.num x = none) (hb : S.bytesOk x = false) (k m : Int) (t : ByteArray)
    (hno : S.nameOk x = false) (ht : t = ⟨#[]⟩) (hc : k = 3 ∧ (0 ≤ m ∧ m ≤ 255) ∧ x = 256 * m + 22) :
    Calls Try.prog 60 #[.pointer (some ⟨X.g, 0, none⟩), .int .u64 x, .pointer (some ⟨gl, 0, none⟩), .int .i64 deep] w fun e w' => e = .returned (.tuple #[leafD k m t, .bool true]) ∧
      StW w' X V S Y (Go.Proofs.Ytanjiecefioffaa.blk gl (.cells #[.int .i64 (n - 1)] 3 (0, 0)) * R) ∧ Below 0 w w' := by
  have hs : sat w (Go.Proofs.Ytanjiecefioffaa.blk gl (.cells #[.int .i64 n] 3 (0, 0)) * (isHeap V S * (isSt X V.g Y * R))) := h.s.perm (by ac_rfl)
  have c1 : w.cell? ⟨gl, 0, none⟩ = some (.int .i64 n) := (hs.left.cell 0).trans rfl
  have f1 := hs.left.frozen 0
  have cA : ∀ o, (w.alloc o).cell? ⟨gl, 0, none⟩ = some (.int .i64 n) := fun o => ((hs.alloc o).right.left.cell 0).trans rfl
  have fA : ∀ o, (w.alloc o).frozen? ⟨gl, 0, none⟩ = false := fun o => (hs.alloc o).right.left.frozen 0
  obtain ⟨Z, hZ⟩ : ∃ Z : Obj, Z = .cells #[.int .i64 0, .int .i64 0, .bool false, .slice none 0 0, .string ⟨#[]⟩, .slice none 0 0, .slice none 0 0] 54 := ⟨_, rfl⟩
  have hs2 : sat ((w.alloc Z).setCell ⟨gl, 0, none⟩ (.int .i64 (n - 1))) (Go.Proofs.Ytanjiecefioffaa.blk gl (.cells #[.int .i64 (n - 1)] 3 (0, 0)) * (Go.Proofs.Ytanjiecefioffaa.blk w.heap.size Z * (isHeap V S * (isSt X V.g Y * R)))) :=
    (show sat (w.alloc Z) (Go.Proofs.Ytanjiecefioffaa.blk gl (.cells #[.int .i64 n] 3 (0, 0)) * (Go.Proofs.Ytanjiecefioffaa.blk w.heap.size Z * (isHeap V S * (isSt X V.g Y * R)))) from (hs.alloc Z).perm (by ac_rfl)).setCell (off := 0) (.int .i64 (n - 1))
  have h2 : StW ((w.alloc Z).setCell ⟨gl, 0, none⟩ (.int .i64 (n - 1))) X V S Y (Go.Proofs.Ytanjiecefioffaa.blk w.heap.size Z * (Go.Proofs.Ytanjiecefioffaa.blk gl (.cells #[.int .i64 (n - 1)] 3 (0, 0)) * R)) := ⟨hs2.perm (by ac_rfl), h.ok⟩
  have hb2 : Below 0 w ((w.alloc Z).setCell ⟨gl, 0, none⟩ (.int .i64 (n - 1))) := (Below.zero_alloc w Z).setCell (p := ⟨gl, 0, none⟩) (Nat.zero_le _) _
  clear hs2
  rw [hZ] at h2 hb2
  clear hZ
  have g1 : IntKind.i64.wrap (n - 1) = n - 1 := IntWalk.i64_in _ (by omega)
  have g2 : decide (n ≤ 0) = false := by simp; omega
  have g3 : (deep == 0) = false := by simp; omega
  have HX := Lib.hid (And.intro h2 (And.intro hb2 (And.intro hnum (And.intro hb hc))))
  have HNo := Lib.hid (And.intro hno ht)
  clear h h2 hs hb2 hnum hb hc hno ht
  go_enter Try.func60, Try.ntmps60
  go_wp2_with fail
  have hN := HX.out.1.Num x x0 x1
  rw [HX.out.2.2.1] at hN
  clear c1 f1 cA fA
  generalize hw2 : (w.alloc (.cells #[.int .i64 0, .int .i64 0, .bool false, .slice none 0 0, .string ⟨#[]⟩, .slice none 0 0, .slice none 0 0] 54)).setCell ⟨gl, 0, none⟩ (.int .i64 (n - 1)) = w2 at *
  with_reducible refine hN.mono ?_
  rintro e w3 ⟨ao, ac, rfl, hac, h3, hb3⟩
  simp only [Option.getD_none, Option.isSome_none] at h3 ⊢
  obtain ⟨P, hP⟩ : ∃ P, decide ((0 : Int) < 0) = P := ⟨_, rfl⟩
  rw [hP]
  generalize (limbsOf (0 : Int).natAbs).length = nl at *
  have hp := h3.push (.cells #[.bool P, .slice ao nl ac] 51)
  have hB := hp.Bytes x x0 x1
  unfold BytesPost at hB
  rw [HX.out.2.2.2.1] at hB
  have HB := Lib.hid (And.intro h3 (And.intro hb3 hp))
  clear hN h3 hb3 hp hac
  go_wp2_with fail
  with_reducible refine hB.mono ?_
  rintro e w4 ⟨v, rfl, h4, hb4⟩
  have h4b : StW w4 X V S Y (Go.Proofs.Ytanjiecefioffaa.blk w.heap.size (.cells #[.int .i64 0, .int .i64 0, .bool false, .slice none 0 0, .string ⟨#[]⟩, .slice none 0 0, .slice none 0 0] 54) * (Go.Proofs.Ytanjiecefioffaa.blk gl (.cells #[.int .i64 (n - 1)] 3 (0, 0)) * R)) := h4.drop.drop.drop
  have hNm := h4b.Name x x0 x1
  unfold NamePost at hNm
  have HD := Lib.hid (And.intro h4b ((HX.out.2.1.trans HB.out.2.1).trans ((Below.zero_alloc w3 (.cells #[.bool P, .slice ao nl ac] 51)).trans hb4)))
  clear h4 hb4 hB h4b HB
  go_wp2_with fail
  with_reducible refine hNm.mono ?_
  clear hNm
  rintro e w5 ⟨rfl, h5, hb5⟩
  obtain ⟨gz, hgz⟩ : ∃ gz, w.heap.size = gz := ⟨_, rfl⟩
  rw [hgz] at h5 ⊢
  have hso : sat w5 (Go.Proofs.Ytanjiecefioffaa.blk gz (.cells #[.int .i64 0, .int .i64 0, .bool false, .slice none 0 0, .string ⟨#[]⟩, .slice none 0 0, .slice none 0 0] 54 (0, 0)) * (isHeap V S * (isSt X V.g Y * (Go.Proofs.Ytanjiecefioffaa.blk gl (.cells #[.int .i64 (n - 1)] 3 (0, 0)) * R)))) := h5.s.perm (by ac_rfl)
  have c0 := (hso.left.cell 0).trans rfl
  have c1 := (hso.left.cell 1).trans rfl
  have c2 := (hso.left.cell 2).trans rfl
  have c3 := (hso.left.cell 3).trans rfl
  have c4 := (hso.left.cell 4).trans rfl
  have c5 := (hso.left.cell 5).trans rfl
  have c6 := (hso.left.cell 6).trans rfl
  have f0 := hso.left.frozen 0
  have f1 := hso.left.frozen 1
  have f2 := hso.left.frozen 2
  have f3 := hso.left.frozen 3
  have f4 := hso.left.frozen 4
  have f5 := hso.left.frozen 5
  have f6 := hso.left.frozen 6
  have hs7 := ((((((hso.setCell (off := 0) (.int .i64 k)).setCell (off := 1) (.int .i64 m)).setCell (off := 2) (.bool false)).setCell (off := 3) (.slice none 0 0)).setCell (off := 4) (.string t)).setCell (off := 5) (.slice none 0 0)).setCell (off := 6) (.slice none 0 0)
  have hb7 := ((((((((HD.out.2.trans hb5).setCell (p := ⟨gz, 0, none⟩) (Nat.zero_le _) (.int .i64 k)).setCell (p := ⟨gz, 1, none⟩) (Nat.zero_le _) (.int .i64 m)).setCell (p := ⟨gz, 2, none⟩) (Nat.zero_le _) (.bool false)).setCell (p := ⟨gz, 3, none⟩) (Nat.zero_le _) (.slice none 0 0)).setCell (p := ⟨gz, 4, none⟩) (Nat.zero_le _) (.string t)).setCell (p := ⟨gz, 5, none⟩) (Nat.zero_le _) (.slice none 0 0)).setCell (p := ⟨gz, 6, none⟩) (Nat.zero_le _) (.slice none 0 0))
  have HF := Lib.hid (And.intro hs7 (And.intro h5.ok hb7))
  have HC := Lib.hid HX.out.2.2.2.2
  clear hso h5 hb5 hs7 hb7 HX HD
  obtain ⟨rfl, hm, hx⟩ := HC.out
  have ha : bits .and .u64 x 255 = 22 := by rw [hx]; exact (char_bits m hm.1 hm.2).1
  have e2 : (x == 2) = false := by simp; omega
  have e6 : (x == 6) = false := by simp; omega
  have e10 : (x == 10) = false := by simp; omega
  have e8 : x / 256 = m := by rw [hx]; exact (char_bits m hm.1 hm.2).2
  have e9 : m < 256 := by omega
  have e7 : decide (m < 256) = true := by simp; omega
  have HH := Lib.hid (And.intro hm hx)
  clear hm hx HC
  rw [HNo.out.1]
  have ht := HNo.out.2
  subst ht
  clear HNo
  have only : True := trivial
  iterate 1
    go_wp2_with fail
    clear c0 c1 c2 c3 c4 c5 c6 f0 f1 f2 f3 f4 f5 f6
    obtain ⟨hs7, hok7, hb7⟩ := HF.out
    revert hs7 hb7
    generalize ((((((w5.setCell ⟨gz, 0, none⟩ _).setCell ⟨gz, 1, none⟩ _).setCell ⟨gz, 2, none⟩ _).setCell ⟨gz, 3, none⟩ _).setCell ⟨gz, 4, none⟩ _).setCell ⟨gz, 5, none⟩ _).setCell ⟨gz, 6, none⟩ _ = w7
    intro hs7 hb7
    obtain ⟨⟨r0, r1, r2⟩, r3, r4, r5, r6⟩ := take_end gz _ _ _ hs7
    exact bodyPost_ret (v := .tuple #[leafD _ _ _, .bool true]) (by simp [results, Try.results60, go_sem, r0, r1, r2, r3, r4, r5, r6, leafD]) rfl ⟨rfl, ⟨hs7.right.perm (by ac_rfl), hok7⟩, hb7⟩
end
end Go.Proofs.Ytanjiecefioffaa

/- value.Store.take of what is nothing. -/
namespace Go.Proofs.Ytanjiecefioffaa
open Go.RowKit
theorem shape_void (S : HS) (k t r : Int) (hk : k ≠ 0) : S.shape 14 k t r = false := by
  have h : S.is 14 = false := by
    cases hh : S.is 14 with
    | false => rfl
    | true => have := (is_iff.1 hh).1; omega
  have h2 : S.kind 14 = 0 := by
    unfold HS.is at h
    unfold HS.kind HS.head headOf
    rw [h]
    rfl
  unfold HS.shape
  rw [h2]
  have : decide ((0 : Int) = k) = false := by simp; omega
  rw [this]
  rfl
section
variable {w : World} {X : StV} {V : HV} {S : HS} {Y : StS} {R : HP}
set_option maxRecDepth 100000 in
set_option maxHeartbeats 2000000 in
theorem StW.take_void (gl : Nat) (n deep : Int) (h : StW w X V S Y (Go.Proofs.Ytanjiecefioffaa.blk gl (.cells #[.int .i64 n] 3 (0, 0)) * R)) (hn : 0 < n ∧ n ≤ 20000) (hd : 0 < deep ∧ deep ≤ 100)
    (hnum : S.num 14 = none) (hb : S.bytesOk 14 = false)
    (hno : S.nameOk 14 = false) :
    Calls Try.prog 60 #[.pointer (some ⟨X.g, 0, none⟩), .int .u64 14, .pointer (some ⟨gl, 0, none⟩), .int .i64 deep] w fun e w' => e = .returned (.tuple #[leafD 8 0 ⟨#[]⟩, .bool true]) ∧
      StW w' X V S Y (Go.Proofs.Ytanjiecefioffaa.blk gl (.cells #[.int .i64 (n - 1)] 3 (0, 0)) * R) ∧ Below 0 w w' := by
  have hs : sat w (Go.Proofs.Ytanjiecefioffaa.blk gl (.cells #[.int .i64 n] 3 (0, 0)) * (isHeap V S * (isSt X V.g Y * R))) := h.s.perm (by ac_rfl)
  have c1 : w.cell? ⟨gl, 0, none⟩ = some (.int .i64 n) := (hs.left.cell 0).trans rfl
  have f1 := hs.left.frozen 0
  have cA : ∀ o, (w.alloc o).cell? ⟨gl, 0, none⟩ = some (.int .i64 n) := fun o => ((hs.alloc o).right.left.cell 0).trans rfl
  have fA : ∀ o, (w.alloc o).frozen? ⟨gl, 0, none⟩ = false := fun o => (hs.alloc o).right.left.frozen 0
  obtain ⟨Z, hZ⟩ : ∃ Z : Obj, Z = .cells #[.int .i64 0, .int .i64 0, .bool false, .slice none 0 0, .string ⟨#[]⟩, .slice none 0 0, .slice none 0 0] 54 := ⟨_, rfl⟩
  have hs2 : sat ((w.alloc Z).setCell ⟨gl, 0, none⟩ (.int .i64 (n - 1))) (Go.Proofs.Ytanjiecefioffaa.blk gl (.cells #[.int .i64 (n - 1)] 3 (0, 0)) * (Go.Proofs.Ytanjiecefioffaa.blk w.heap.size Z * (isHeap V S * (isSt X V.g Y * R)))) :=
    (show sat (w.alloc Z) (Go.Proofs.Ytanjiecefioffaa.blk gl (.cells #[.int .i64 n] 3 (0, 0)) * (Go.Proofs.Ytanjiecefioffaa.blk w.heap.size Z * (isHeap V S * (isSt X V.g Y * R)))) from (hs.alloc Z).perm (by ac_rfl)).setCell (off := 0) (.int .i64 (n - 1))
  have h2 : StW ((w.alloc Z).setCell ⟨gl, 0, none⟩ (.int .i64 (n - 1))) X V S Y (Go.Proofs.Ytanjiecefioffaa.blk w.heap.size Z * (Go.Proofs.Ytanjiecefioffaa.blk gl (.cells #[.int .i64 (n - 1)] 3 (0, 0)) * R)) := ⟨hs2.perm (by ac_rfl), h.ok⟩
  have hb2 : Below 0 w ((w.alloc Z).setCell ⟨gl, 0, none⟩ (.int .i64 (n - 1))) := (Below.zero_alloc w Z).setCell (p := ⟨gl, 0, none⟩) (Nat.zero_le _) _
  clear hs2
  rw [hZ] at h2 hb2
  clear hZ
  have g1 : IntKind.i64.wrap (n - 1) = n - 1 := IntWalk.i64_in _ (by omega)
  have g2 : decide (n ≤ 0) = false := by simp; omega
  have g3 : (deep == 0) = false := by simp; omega
  have HX := Lib.hid (And.intro h2 (And.intro hb2 (And.intro hnum hb)))
  have HNo := Lib.hid hno
  clear h h2 hs hb2 hnum hb hno
  go_enter Try.func60, Try.ntmps60
  go_wp2_with fail
  have hN := HX.out.1.Num 14 (by decide) (by decide)
  rw [HX.out.2.2.1] at hN
  clear c1 f1 cA fA
  generalize hw2 : (w.alloc (.cells #[.int .i64 0, .int .i64 0, .bool false, .slice none 0 0, .string ⟨#[]⟩, .slice none 0 0, .slice none 0 0] 54)).setCell ⟨gl, 0, none⟩ (.int .i64 (n - 1)) = w2 at *
  with_reducible refine hN.mono ?_
  rintro e w3 ⟨ao, ac, rfl, hac, h3, hb3⟩
  simp only [Option.getD_none, Option.isSome_none] at h3 ⊢
  obtain ⟨P, hP⟩ : ∃ P, decide ((0 : Int) < 0) = P := ⟨_, rfl⟩
  rw [hP]
  generalize (limbsOf (0 : Int).natAbs).length = nl at *
  have hp := h3.push (.cells #[.bool P, .slice ao nl ac] 51)
  have hB := hp.Bytes 14 (by decide) (by decide)
  unfold BytesPost at hB
  rw [HX.out.2.2.2] at hB
  have HB := Lib.hid (And.intro h3 (And.intro hb3 hp))
  clear hN h3 hb3 hp hac
  go_wp2_with fail
  with_reducible refine hB.mono ?_
  rintro e w4 ⟨v, rfl, h4, hb4⟩
  have h4b : StW w4 X V S Y (Go.Proofs.Ytanjiecefioffaa.blk w.heap.size (.cells #[.int .i64 0, .int .i64 0, .bool false, .slice none 0 0, .string ⟨#[]⟩, .slice none 0 0, .slice none 0 0] 54) * (Go.Proofs.Ytanjiecefioffaa.blk gl (.cells #[.int .i64 (n - 1)] 3 (0, 0)) * R)) := h4.drop.drop.drop
  have hNm := h4b.Name 14 (by decide) (by decide)
  unfold NamePost at hNm
  have HD := Lib.hid (And.intro h4b ((HX.out.2.1.trans HB.out.2.1).trans ((Below.zero_alloc w3 (.cells #[.bool P, .slice ao nl ac] 51)).trans hb4)))
  clear h4 hb4 hB h4b HB
  go_wp2_with fail
  with_reducible refine hNm.mono ?_
  clear hNm
  rintro e w5 ⟨rfl, h5, hb5⟩
  obtain ⟨gz, hgz⟩ : ∃ gz, w.heap.size = gz := ⟨_, rfl⟩
  rw [hgz] at h5 ⊢
  rw [HNo.out]
  have hbx := HD.out.2.trans hb5
  clear hb5 HNo HD HX
  have ha : bits .and .u64 14 255 = 14 := by decide +kernel
  have hS1 := h5.shape 14 6 (-1) 1 (by decide) (by decide)
  rw [shape_void S 6 (-1) 1 (by decide)] at hS1
  have H5 := Lib.hid (And.intro h5 hbx)
  clear h5 hbx
  go_wp2_with fail
  with_reducible refine hS1.mono ?_
  clear hS1
  rintro e w' ⟨rfl, j1, rfl⟩
  have h6 := H5.out.1.drewN j1
  have hb6 := H5.out.2.trans (drewN_below0 _ j1)
  clear H5
  generalize w5.drewN j1 = u1 at *
  have hS2 := h6.shape 14 1 2 0 (by decide) (by decide)
  rw [shape_void S 1 2 0 (by decide)] at hS2
  have G1 := Lib.hid (And.intro h6 hb6)
  clear h6 hb6
  go_wp2_with fail
  with_reducible refine hS2.mono ?_
  clear hS2
  rintro e w' ⟨rfl, j2, rfl⟩
  have h6 := G1.out.1.drewN j2
  have hb6 := G1.out.2.trans (drewN_below0 _ j2)
  clear G1
  generalize u1.drewN j2 = u2 at *
  have hS3 := h6.shape 14 2 (-1) 0 (by decide) (by decide)
  rw [shape_void S 2 (-1) 0 (by decide)] at hS3
  have G2 := Lib.hid (And.intro h6 hb6)
  clear h6 hb6
  go_wp2_with fail
  with_reducible refine hS3.mono ?_
  clear hS3
  rintro e w' ⟨rfl, j3, rfl⟩
  have h6 := G2.out.1.drewN j3
  have hb6 := G2.out.2.trans (drewN_below0 _ j3)
  clear G2
  generalize u2.drewN j3 = u3 at *
  have hS4 := h6.shape 14 9 3 0 (by decide) (by decide)
  rw [shape_void S 9 3 0 (by decide)] at hS4
  have G3 := Lib.hid (And.intro h6 hb6)
  clear h6 hb6
  go_wp2_with fail
  with_reducible refine hS4.mono ?_
  clear hS4
  rintro e w' ⟨rfl, j4, rfl⟩
  have h6 := G3.out.1.drewN j4
  have hb6 := G3.out.2.trans (drewN_below0 _ j4)
  clear G3
  generalize u3.drewN j4 = u4 at *
  have hso : sat u4 (Go.Proofs.Ytanjiecefioffaa.blk gz (.cells #[.int .i64 0, .int .i64 0, .bool false, .slice none 0 0, .string ⟨#[]⟩, .slice none 0 0, .slice none 0 0] 54 (0, 0)) * (isHeap V S * (isSt X V.g Y * (Go.Proofs.Ytanjiecefioffaa.blk gl (.cells #[.int .i64 (n - 1)] 3 (0, 0)) * R)))) := h6.s.perm (by ac_rfl)
  have c0 := (hso.left.cell 0).trans rfl
  have c1 := (hso.left.cell 1).trans rfl
  have c2 := (hso.left.cell 2).trans rfl
  have c3 := (hso.left.cell 3).trans rfl
  have c4 := (hso.left.cell 4).trans rfl
  have c5 := (hso.left.cell 5).trans rfl
  have c6 := (hso.left.cell 6).trans rfl
  have f0 := hso.left.frozen 0
  have f1 := hso.left.frozen 1
  have f2 := hso.left.frozen 2
  have f3 := hso.left.frozen 3
  have f4 := hso.left.frozen 4
  have f5 := hso.left.frozen 5
  have f6 := hso.left.frozen 6
  have hs7 := ((((((hso.setCell (off := 0) (.int .i64 8)).setCell (off := 1) (.int .i64 0)).setCell (off := 2) (.bool false)).setCell (off := 3) (.slice none 0 0)).setCell (off := 4) (.string ⟨#[]⟩)).setCell (off := 5) (.slice none 0 0)).setCell (off := 6) (.slice none 0 0)
  have hb7 := (((((((hb6.setCell (p := ⟨gz, 0, none⟩) (Nat.zero_le _) (.int .i64 8)).setCell (p := ⟨gz, 1, none⟩) (Nat.zero_le _) (.int .i64 0)).setCell (p := ⟨gz, 2, none⟩) (Nat.zero_le _) (.bool false)).setCell (p := ⟨gz, 3, none⟩) (Nat.zero_le _) (.slice none 0 0)).setCell (p := ⟨gz, 4, none⟩) (Nat.zero_le _) (.string ⟨#[]⟩)).setCell (p := ⟨gz, 5, none⟩) (Nat.zero_le _) (.slice none 0 0)).setCell (p := ⟨gz, 6, none⟩) (Nat.zero_le _) (.slice none 0 0))
  have HF := Lib.hid (And.intro hs7 (And.intro h6.ok hb7))
  clear hso h6 hb6 hs7 hb7
  iterate 1
    go_wp2_with fail
    clear c0 c1 c2 c3 c4 c5 c6 f0 f1 f2 f3 f4 f5 f6
    obtain ⟨hs7, hok7, hb7⟩ := HF.out
    revert hs7 hb7
    generalize ((((((u4.setCell ⟨gz, 0, none⟩ _).setCell ⟨gz, 1, none⟩ _).setCell ⟨gz, 2, none⟩ _).setCell ⟨gz, 3, none⟩ _).setCell ⟨gz, 4, none⟩ _).setCell ⟨gz, 5, none⟩ _).setCell ⟨gz, 6, none⟩ _ = w7
    intro hs7 hb7
    obtain ⟨⟨r0, r1, r2⟩, r3, r4, r5, r6⟩ := take_end gz _ _ _ hs7
    exact bodyPost_ret (v := .tuple #[leafD _ _ _, .bool true]) (by simp [results, Try.results60, go_sem, r0, r1, r2, r3, r4, r5, r6, leafD]) rfl ⟨rfl, ⟨hs7.right.perm (by ac_rfl), hok7⟩, hb7⟩
end
end Go.Proofs.Ytanjiecefioffaa

/- How take goes over a plain datum: what steps are left, and whether it ends. -/
namespace Go.Proofs.Ytanjiecefioffaa
open Go.RowKit
mutual
/-- The steps that are left, and whether it was taken whole. -/
def takeD : Dm → Int → Int → Int × Bool
  | .mk _ _ _ _ _ items rest, left, deep =>
    if left ≤ 0 ∨ deep = 0 then (left, false)
    else match takeL items (left - 1) (deep - 1) with
      | (l, false) => (l, false)
      | (l, true) => takeL rest l (deep - 1)
def takeL : List Dm → Int → Int → Int × Bool
  | [], left, _ => (left, true)
  | d :: l, left, deep => match takeD d left deep with
    | (r, false) => (r, false)
    | (r, true) => takeL l r deep
end
theorem takeD_leaf {k n : Int} {neg : Bool} {mag : List Int} {text : ByteArray} {left deep : Int} (h : 0 < left) (hd : 0 < deep) : takeD (.mk k n neg mag text [] []) left deep = (left - 1, true) := by
  unfold takeD
  rw [if_neg (by omega)]
  unfold takeL
  simp only
theorem takeD_end {d : Dm} {left deep : Int} (h : left ≤ 0 ∨ deep = 0) : takeD d left deep = (left, false) := by
  cases d
  unfold takeD
  rw [if_pos h]
theorem takeL_snoc (deep : Int) : ∀ (l : List Dm) (d : Dm) (left : Int), takeL (l ++ [d]) left deep = match takeL l left deep with
    | (r, false) => (r, false)
    | (r, true) => takeD d r deep
  | [], d, left => by
    rw [List.nil_append]
    conv => lhs; unfold takeL
    conv => rhs; unfold takeL
    simp only
    cases h : takeD d left deep with
    | mk r b => cases b <;> simp [takeL]
  | e :: l, d, left => by
    rw [List.cons_append]
    conv => lhs; unfold takeL
    conv => rhs; unfold takeL
    cases h : takeD e left deep with
    | mk r b =>
      cases b with
      | false => rfl
      | true => simp only; exact takeL_snoc deep l d r
mutual
theorem takeD_le : ∀ (d : Dm) (left deep : Int), (takeD d left deep).1 ≤ left
  | .mk k n neg mag text items rest, left, deep => by
    unfold takeD
    split
    · exact Int.le_refl _
    · have h1 := takeL_le items (left - 1) (deep - 1)
      cases h : takeL items (left - 1) (deep - 1) with
      | mk r b =>
        rw [h] at h1
        have h2 := takeL_le rest r (deep - 1)
        cases b <;> simp only at h1 h2 ⊢ <;> omega
theorem takeL_le : ∀ (l : List Dm) (left deep : Int), (takeL l left deep).1 ≤ left
  | [], left, deep => by unfold takeL; exact Int.le_refl _
  | d :: l, left, deep => by
    unfold takeL
    have h1 := takeD_le d left deep
    cases h : takeD d left deep with
    | mk r b =>
      rw [h] at h1
      have h2 := takeL_le l r deep
      cases b <;> simp only at h1 h2 ⊢ <;> omega
end
mutual
theorem takeD_pos : ∀ (d : Dm) (left deep : Int), 0 ≤ left → 0 ≤ (takeD d left deep).1
  | .mk k n neg mag text items rest, left, deep, h0 => by
    unfold takeD
    split
    · exact h0
    · have h1 := takeL_pos items (left - 1) (deep - 1) (by omega)
      cases h : takeL items (left - 1) (deep - 1) with
      | mk r b =>
        rw [h] at h1
        have h2 := takeL_pos rest r (deep - 1) h1
        cases b <;> simp only at h1 h2 ⊢ <;> omega
theorem takeL_pos : ∀ (l : List Dm) (left deep : Int), 0 ≤ left → 0 ≤ (takeL l left deep).1
  | [], left, deep, h0 => by unfold takeL; exact h0
  | d :: l, left, deep, h0 => by
    unfold takeL
    have h1 := takeD_pos d left deep h0
    cases h : takeD d left deep with
    | mk r b =>
      rw [h] at h1
      have h2 := takeL_pos l r deep h1
      cases b <;> simp only at h1 h2 ⊢ <;> omega
end
theorem takeD_lt {d : Dm} {left deep : Int} (h : (takeD d left deep).2 = true) : (takeD d left deep).1 < left := by
  cases d with
  | mk k n neg mag text items rest =>
  unfold takeD at h ⊢
  split at h
  · cases h
  · rename_i hq
    rw [if_neg hq]
    have h1 := takeL_le items (left - 1) (deep - 1)
    cases hh : takeL items (left - 1) (deep - 1) with
    | mk r b =>
      rw [hh] at h1
      have h2 := takeL_le rest r (deep - 1)
      cases b <;> simp only at h1 h2 ⊢ <;> omega
end Go.Proofs.Ytanjiecefioffaa

/- What the words of data without parts are not. -/
namespace Go.Proofs.Ytanjiecefioffaa
open Go.RowKit
theorem imm_kind {S : HS} {x : Int} (h : x % 4 = 2) : S.kind x = 0 := by
  have h1 : S.is x = false := by
    cases hh : S.is x with
    | false => rfl
    | true => have := (is_iff.1 hh).1; omega
  unfold HS.is at h1
  unfold HS.kind HS.head headOf
  rw [h1]
  rfl
theorem imm_no {S : HS} {x : Int} (h : x % 4 = 2) : S.num x = none ∧ S.bytesOk x = false ∧ S.nameOk x = false := by
  have e := imm_kind (S := S) h
  refine ⟨?_, ?_, ?_⟩
  · unfold HS.num HS.numOk HS.numFit HS.shape
    rw [if_neg (by omega), e]
    rfl
  · unfold HS.bytesOk HS.bytesFit HS.shape
    rw [e]
    rfl
  · unfold HS.nameOk HS.shape
    rw [e]
    rfl
theorem sym_no {S : HS} {b : List Int} {x : Int} (h : SymIn S b x) : S.num x = none ∧ S.bytesOk x = false := by
  have e : S.kind x = 4 := by unfold HS.kind; rw [h.head]; decide
  have h4 := (is_iff.1 h.is).1
  refine ⟨?_, ?_⟩
  · unfold HS.num HS.numOk HS.numFit HS.shape
    rw [if_neg (by omega), e]
    rfl
  · unfold HS.bytesOk HS.bytesFit HS.shape
    rw [e]
    rfl
theorem pair_no {S : HS} {x : Int} (h : S.is x = true) (hh : S.head x = headerOf 1 2 0) : S.num x = none ∧ S.bytesOk x = false ∧ S.nameOk x = false := by
  have e : S.kind x = 1 := by unfold HS.kind; rw [hh]; decide
  have h4 := (is_iff.1 h).1
  refine ⟨?_, ?_, ?_⟩
  · unfold HS.num HS.numOk HS.numFit HS.shape
    rw [if_neg (by omega), e]
    rfl
  · unfold HS.bytesOk HS.bytesFit HS.shape
    rw [e]
    rfl
  · unfold HS.nameOk HS.shape
    rw [e]
    rfl
theorem vec_no {S : HS} {x : Int} {n : Nat} (hn : n ≤ 1048576) (h : S.is x = true) (hh : S.head x = headerOf 2 n 0) : S.num x = none ∧ S.bytesOk x = false ∧ S.nameOk x = false := by
  have e : S.kind x = 2 := by unfold HS.kind; rw [hh]; exact (vec_head n hn).2.2
  have h4 := (is_iff.1 h).1
  refine ⟨?_, ?_, ?_⟩
  · unfold HS.num HS.numOk HS.numFit HS.shape
    rw [if_neg (by omega), e]
    rfl
  · unfold HS.bytesOk HS.bytesFit HS.shape
    rw [e]
    rfl
  · unfold HS.nameOk HS.shape
    rw [e]
    rfl
end Go.Proofs.Ytanjiecefioffaa

/- What take leaves, in general; where it has no parts to go into. -/
namespace Go.Proofs.Ytanjiecefioffaa
open Go.RowKit
/-- What take of a plain datum leaves. -/
def TakeR (gl : Nat) (X : StV) (V : HV) (S : HS) (Y : StS) (R : HP) (p : Dm) (left deep : Int) (w : World) (e : Ending) (w' : World) : Prop :=
  ∃ (cs : List Value) (M : HP) (d : Dm), e = .returned (.tuple #[.agg cs.toArray, .bool (takeD p left deep).2]) ∧ DK M d cs ∧ ((takeD p left deep).2 = true → d = p) ∧
    StW w' X V S Y (Go.Proofs.Ytanjiecefioffaa.blk gl (.cells #[.int .i64 (takeD p left deep).1] 3 (0, 0)) * (M * R)) ∧ Below 0 w w'
def TakesAt (p : Dm) (deep : Int) : Prop := ∀ (w : World) (X : StV) (V : HV) (S : HS) (Y : StS) (R : HP) (gl : Nat) (left x : Int), 0 ≤ left ∧ left ≤ 20000 → StW w X V S Y (Go.Proofs.Ytanjiecefioffaa.blk gl (.cells #[.int .i64 left] 3 (0, 0)) * R) → HIn S p x →
  Calls Try.prog 60 #[.pointer (some ⟨X.g, 0, none⟩), .int .u64 x, .pointer (some ⟨gl, 0, none⟩), .int .i64 deep] w (TakeR gl X V S Y R p left deep w)
section
variable {w : World} {X : StV} {V : HV} {S : HS} {Y : StS} {R : HP}
set_option maxRecDepth 100000 in
theorem StW.take_shut (gl : Nat) (n : Int) (hn : 0 < n ∧ n ≤ 20000) (h : StW w X V S Y (Go.Proofs.Ytanjiecefioffaa.blk gl (.cells #[.int .i64 n] 3 (0, 0)) * R)) (x : Int) :
    Calls Try.prog 60 #[.pointer (some ⟨X.g, 0, none⟩), .int .u64 x, .pointer (some ⟨gl, 0, none⟩), .int .i64 0] w fun e w' => e = .returned (.tuple #[zeroD, .bool false]) ∧
      StW w' X V S Y (Go.Proofs.Ytanjiecefioffaa.blk gl (.cells #[.int .i64 n] 3 (0, 0)) * R) ∧ Below 0 w w' := by
  have hs : sat w (Go.Proofs.Ytanjiecefioffaa.blk gl (.cells #[.int .i64 n] 3 (0, 0)) * (isHeap V S * (isSt X V.g Y * R))) := h.s.perm (by ac_rfl)
  have cA : ∀ o, (w.alloc o).cell? ⟨gl, 0, none⟩ = some (.int .i64 n) := fun o => ((hs.alloc o).right.left.cell 0).trans rfl
  have hp := h.push (.cells #[.int .i64 0, .int .i64 0, .bool false, .slice none 0 0, .string ⟨#[]⟩, .slice none 0 0, .slice none 0 0] 54)
  have hb := Below.zero_alloc w (.cells #[.int .i64 0, .int .i64 0, .bool false, .slice none 0 0, .string ⟨#[]⟩, .slice none 0 0, .slice none 0 0] 54)
  have hl := (hp.s.perm (show _ = Go.Proofs.Ytanjiecefioffaa.blk w.heap.size (.cells #[.int .i64 0, .int .i64 0, .bool false, .slice none 0 0, .string ⟨#[]⟩, .slice none 0 0, .slice none 0 0] 54 (0, 0)) * (isHeap V S * (isSt X V.g Y * (Go.Proofs.Ytanjiecefioffaa.blk gl (.cells #[.int .i64 n] 3 (0, 0)) * R))) by ac_rfl))
  have g2 : decide (n ≤ 0) = false := by simp; omega
  have HH := Lib.hid (And.intro hp (And.intro hb hl))
  clear h hs hp hb hl
  go_enter Try.func60, Try.ntmps60
  go_wp2_with fail
  clear cA
  generalize w.alloc (.cells #[.int .i64 0, .int .i64 0, .bool false, .slice none 0 0, .string ⟨#[]⟩, .slice none 0 0, .slice none 0 0] 54) = w7 at *
  have r0 : w7.cell? ⟨w.heap.size, 0, none⟩ = some (.int .i64 0) := (HH.out.2.2.left.cell 0).trans rfl
  have r1 : w7.cell? ⟨w.heap.size, 1, none⟩ = some (.int .i64 0) := (HH.out.2.2.left.cell 1).trans rfl
  have r2 : w7.cell? ⟨w.heap.size, 2, none⟩ = some (.bool false) := (HH.out.2.2.left.cell 2).trans rfl
  have r3 : w7.cell? ⟨w.heap.size, 3, none⟩ = some (.slice none 0 0) := (HH.out.2.2.left.cell 3).trans rfl
  have r4 : w7.cell? ⟨w.heap.size, 4, none⟩ = some (.string ⟨#[]⟩) := (HH.out.2.2.left.cell 4).trans rfl
  have r5 : w7.cell? ⟨w.heap.size, 5, none⟩ = some (.slice none 0 0) := (HH.out.2.2.left.cell 5).trans rfl
  have r6 : w7.cell? ⟨w.heap.size, 6, none⟩ = some (.slice none 0 0) := (HH.out.2.2.left.cell 6).trans rfl
  refine bodyPost_ret (v := .tuple #[zeroD, .bool false]) (by simp [results, Try.results60, go_sem, r0, r1, r2, r3, r4, r5, r6, zeroD]) rfl ⟨rfl, ⟨HH.out.2.2.right.perm (by ac_rfl), HH.out.1.ok⟩, HH.out.2.1⟩
/-- A leaf's cells need no memory. -/
theorem leaf_DK (k m : Int) (t : ByteArray) (hk : -9223372036854775808 ≤ k ∧ k < 9223372036854775808) (hm : -9223372036854775808 ≤ m ∧ m < 9223372036854775808) (M : HP) :
    DK M (.mk k m false [] t [] []) [.int .i64 k, .int .i64 m, .bool false, .slice none 0 0, .string t, .slice none 0 0, .slice none 0 0] :=
  DK.mk (am := none) (cm := 0) (ai := none) (ci := 0) (ar := none) (cr := 0) ⟨hk, hm⟩ (fun w _ j x h => by simp at h) (fun x h => by simp at h) ⟨Nat.le_refl _, Nat.le_refl _, Nat.le_refl _⟩ DKs.nil DKs.nil
theorem leaf_done {gl : Nat} {k m left deep : Int} {t : ByteArray} {w' : World} (hl : 0 < left) (hd : 0 < deep) (hk : -9223372036854775808 ≤ k ∧ k < 9223372036854775808) (hm : -9223372036854775808 ≤ m ∧ m < 9223372036854775808)
    (h : StW w' X V S Y (Go.Proofs.Ytanjiecefioffaa.blk gl (.cells #[.int .i64 (left - 1)] 3 (0, 0)) * R)) (hb : Below 0 w w') :
    TakeR gl X V S Y R (.mk k m false [] t [] []) left deep w (.returned (.tuple #[leafD k m t, .bool true])) w' := by
  unfold TakeR
  rw [takeD_leaf hl hd]
  have hs : sat w' (own 70 1 (.slice none 0 0) 0 [] * (isHeap V S * (isSt X V.g Y * (Go.Proofs.Ytanjiecefioffaa.blk gl (.cells #[.int .i64 (left - 1)] 3 (0, 0)) * R)))) := (h.s.nil_own (e := 70) (sz := 1)).perm (by ac_rfl)
  exact ⟨_, own 70 1 (.slice none 0 0) 0 [], _, rfl, leaf_DK k m t hk hm _, fun _ => rfl, ⟨hs.perm (by ac_rfl), h.ok⟩, hb⟩
/-- take where it goes no deeper. -/
theorem takes_shut (p : Dm) {deep : Int} (gl : Nat) {left : Int} (hl : 0 ≤ left ∧ left ≤ 20000) (hd : left = 0 ∨ deep = 0) (x : Int) (h : StW w X V S Y (Go.Proofs.Ytanjiecefioffaa.blk gl (.cells #[.int .i64 left] 3 (0, 0)) * R)) :
    Calls Try.prog 60 #[.pointer (some ⟨X.g, 0, none⟩), .int .u64 x, .pointer (some ⟨gl, 0, none⟩), .int .i64 deep] w (TakeR gl X V S Y R p left deep w) := by
  have hpost : ∀ e w', (e = .returned (.tuple #[zeroD, .bool false]) ∧ StW w' X V S Y (Go.Proofs.Ytanjiecefioffaa.blk gl (.cells #[.int .i64 left] 3 (0, 0)) * R) ∧ Below 0 w w') → TakeR gl X V S Y R p left deep w e w' := by
    rintro e w' ⟨rfl, h, hb⟩
    unfold TakeR
    rw [takeD_end (by omega)]
    have hs : sat w' (own 70 1 (.slice none 0 0) 0 [] * (isHeap V S * (isSt X V.g Y * (Go.Proofs.Ytanjiecefioffaa.blk gl (.cells #[.int .i64 left] 3 (0, 0)) * R)))) := (h.s.nil_own (e := 70) (sz := 1)).perm (by ac_rfl)
    exact ⟨_, own 70 1 (.slice none 0 0) 0 [], _, rfl, leaf_DK 0 0 ⟨#[]⟩ (by decide) (by decide) _, fun h => (by cases h), ⟨hs.perm (by ac_rfl), h.ok⟩, hb⟩
  by_cases h0 : left = 0
  · subst h0
    exact (StW.take_out gl deep h x).mono hpost
  · obtain rfl : deep = 0 := by omega
    exact (StW.take_shut gl left (by omega) h x).mono hpost
end
end Go.Proofs.Ytanjiecefioffaa

/- value.Store.take of every datum without parts. -/
namespace Go.Proofs.Ytanjiecefioffaa
open Go.RowKit
theorem text_no {S : HS} {b : List Int} {t : Int} (h : TextIn S b t) (hl : b.length ≤ 8388600) : S.num t = none := by
  have hwl := wordsOf_len b
  obtain ⟨_, _, g3⟩ := text_head (wordsOf b).length (by omega)
  have e3 : S.kind t = 3 := by unfold HS.kind; rw [h.head]; exact g3
  have h4 := (is_iff.1 h.is).1
  unfold HS.num HS.numOk HS.numFit HS.shape
  rw [if_neg (by omega), e3]
  rfl
section
variable {w : World} {X : StV} {V : HV} {S : HS} {Y : StS} {R : HP}
theorem takes_ends (k n : Int) (neg : Bool) (mag : List Int) (text : ByteArray) (hk : k ≠ 7) {deep : Int} (hd : 0 < deep ∧ deep ≤ 100) (gl : Nat) {left : Int} (hl : 0 < left ∧ left ≤ 20000) (x : Int)
    (h : StW w X V S Y (Go.Proofs.Ytanjiecefioffaa.blk gl (.cells #[.int .i64 left] 3 (0, 0)) * R)) (hp : HIn S (.mk k n neg mag text [] []) x) :
    Calls Try.prog 60 #[.pointer (some ⟨X.g, 0, none⟩), .int .u64 x, .pointer (some ⟨gl, 0, none⟩), .int .i64 deep] w (TakeR gl X V S Y R (.mk k n neg mag text [] []) left deep w) := by
  have hwf := h.ok.wf
  unfold HIn at hp
  obtain ⟨hb, hp⟩ := hp
  have done : ∀ (k m : Int) (t : ByteArray) (hk : -9223372036854775808 ≤ k ∧ k < 9223372036854775808) (hm : -9223372036854775808 ≤ m ∧ m < 9223372036854775808) e w', (e = .returned (.tuple #[leafD k m t, .bool true]) ∧
      StW w' X V S Y (Go.Proofs.Ytanjiecefioffaa.blk gl (.cells #[.int .i64 (left - 1)] 3 (0, 0)) * R) ∧ Below 0 w w') → TakeR gl X V S Y R (.mk k m false [] t [] []) left deep w e w' := by
    rintro k m t hk hm e w' ⟨rfl, h1, h2⟩
    exact leaf_done hl.1 hd.1 hk hm h1 h2
  rcases hp with ⟨v, rfl, rfl, rfl, rfl, rfl, _, _, h8⟩ | ⟨rfl, rfl, rfl, rfl, _, _, hx⟩ | ⟨rfl, rfl, rfl, rfl, _, _, h7, h8, rfl⟩ | ⟨rfl, rfl, rfl, rfl, _, _, h7, h8⟩ | ⟨rfl, rfl, rfl, rfl, _, _, h7, h8⟩ | ⟨rfl, rfl, rfl, rfl, rfl, _, _, rfl⟩ | ⟨rfl, rfl, rfl, rfl, rfl, y, h6, h7, h8⟩ | ⟨h1, _⟩
  · refine (StW.take_num gl left deep h hl hd x hb.1 hb.2 v (h8.num hwf)).mono ?_
    rintro e w' ⟨ao, cap, rfl, hcap, h1, hb1⟩
    unfold TakeR
    rw [takeD_leaf hl.1 hd.1]
    refine ⟨_, own 70 1 (.slice ao (limbsOf v.natAbs).length cap) (limbsOf v.natAbs).length ((limbsOf v.natAbs).map u32v), _, rfl, ?_, fun _ => rfl, h1, hb1⟩
    exact DK.mk (ai := none) (ci := 0) (ar := none) (cr := 0) ⟨by decide, by decide⟩ (fun w hw => mag_own (R := own 70 1 (.slice none 0 0) 0 []) ((hw.nil_own (e := 70) (sz := 1)).perm (HP.comm _ _))) (fun x hx => limbsOf_limbs _ x hx) ⟨hcap, Nat.le_refl _, Nat.le_refl _⟩ DKs.nil DKs.nil
  · obtain ⟨q1, q2, q3⟩ := imm_no (S := S) (x := x) (by rcases hx with ⟨_, rfl⟩ | ⟨_, rfl⟩ <;> decide)
    refine (StW.take_leaf gl left deep h hl hd x hb.1 hb.2 q1 q2 2 n ⟨#[]⟩ (.inr ⟨q3, rfl, ?_⟩)).mono (done 2 n ⟨#[]⟩ (by decide) (by rcases hx with ⟨rfl, _⟩ | ⟨rfl, _⟩ <;> decide))
    rcases hx with ⟨rfl, rfl⟩ | ⟨rfl, rfl⟩ <;> simp
  · obtain ⟨q1, q2, q3⟩ := imm_no (S := S) (x := 256 * n + 22) (by omega)
    exact (StW.take_char gl left deep h hl hd _ hb.1 hb.2 q1 q2 3 n ⟨#[]⟩ q3 rfl ⟨rfl, ⟨h7, h8⟩, rfl⟩).mono (done 3 n ⟨#[]⟩ (by decide) (by omega))
  · have hz : (bytesOf text).length ≤ 8388600 := by rw [bytesOf_len]; exact h7
    obtain ⟨q1, q2⟩ := h8.bytes hwf (bytesOf_u text) hz
    have q3 := StW.take_text gl left deep h hl hd x hb.1 hb.2 (text_no h8 hz) q1
    rw [q2, strOf_bytesOf] at q3
    exact q3.mono (done 4 0 text (by decide) (by decide))
  · have hz : (bytesOf text).length ≤ 8388600 := by rw [bytesOf_len]; exact h7
    obtain ⟨q1, q2⟩ := h8.name hwf (bytesOf_u text) hz
    obtain ⟨q3, q4⟩ := sym_no h8
    rw [strOf_bytesOf] at q2
    exact (StW.take_leaf gl left deep h hl hd x hb.1 hb.2 q3 q4 5 0 text (.inl ⟨q1, rfl, rfl, q2.symm⟩)).mono (done 5 0 text (by decide) (by decide))
  · obtain ⟨q1, q2, q3⟩ := imm_no (S := S) (x := 14) (by decide)
    exact (StW.take_void gl left deep h hl hd q1 q2 q3).mono (done 8 0 ⟨#[]⟩ (by decide) (by decide))
  · unfold HTo at h6
    unfold HEnd at h7
    subst h6 h7
    obtain ⟨q1, q2, q3⟩ := imm_no (S := S) (x := 10) (by decide)
    exact (StW.take_leaf gl left deep h hl hd 10 hb.1 hb.2 q1 q2 6 0 ⟨#[]⟩ (.inr ⟨q3, rfl, by simp⟩)).mono (done 6 0 ⟨#[]⟩ (by decide) (by decide))
  · exact absurd h1 hk
end
end Go.Proofs.Ytanjiecefioffaa

/- Data behind a collection. -/
namespace Go.Proofs.Ytanjiecefioffaa
open Go.RowKit
theorem NumIn.moved {S : HS} {v t : Int} (h : NumIn S v t) (hw : WfH S.ws S.bs) (hs : S.ws.length ≤ 1048576) {roots : List Int} (hr : ∀ x ∈ roots, 0 ≤ x ∧ x < 18446744073709551616) (hres : Res S (gcEnd S roots) t) (hl : (limbsOf v.natAbs).length ≤ 256) :
    NumIn (S.collect roots) v (fwd S (gcEnd S roots) t) := by
  obtain ⟨a1, a2, a3, a4, a5, a6⟩ := collect_obj hw hs hr h.is hres
  have hwl := numWords_len v
  obtain ⟨g1, g2, g3⟩ := num_head (numWords v).length (by omega)
  have e1 : S.tag t = 0 := by unfold HS.tag; rw [h.head]; exact g1
  have e2 : S.raw t = (numWords v).length := by unfold HS.raw; rw [h.head]; exact g2
  refine ⟨a1, a2.trans h.head, ?_⟩
  intro i x hx
  have hi := (List.getElem?_eq_some_iff.1 hx).1
  rw [a5 i (by rw [e1]; omega) (by rw [e1, e2]; omega)]
  exact h.raws i x hx
theorem fwd_imm {S : HS} {c : CS} {x : Int} (h : x % 4 ≠ 0) : fwd S c x = x := by
  unfold fwd
  rw [if_neg]
  intro h1
  have := (is_iff.1 h1).1
  omega
section
variable {S : HS} {roots : List Int}
theorem fwd_bd (hw : WfH S.ws S.bs) (hs : S.ws.length ≤ 1048576) (hr : ∀ x ∈ roots, 0 ≤ x ∧ x < 18446744073709551616) {x : Int} (hx : 0 ≤ x ∧ x < 18446744073709551616) (hres : Res S (gcEnd S roots) x) : 0 ≤ fwd S (gcEnd S roots) x ∧ fwd S (gcEnd S roots) x < 18446744073709551616 := by
  cases h : S.is x with
  | true =>
    obtain ⟨_, _, a3, a4, _⟩ := collect_obj hw hs hr h hres
    omega
  | false =>
    unfold fwd
    rw [if_neg (by rw [h]; decide)]
    exact hx
mutual
theorem HIn.moved (hw : WfH S.ws S.bs) (hs : S.ws.length ≤ 1048576) (hr : ∀ x ∈ roots, 0 ≤ x ∧ x < 18446744073709551616) : ∀ (d : Dm) {x : Int}, HIn S d x → Res S (gcEnd S roots) x → HIn (S.collect roots) d (fwd S (gcEnd S roots) x)
  | .mk k n neg mag text items rest, x, h, hres => by
    unfold HIn at h ⊢
    obtain ⟨hb, h⟩ := h
    have hb2 := fwd_bd hw hs hr hb hres
    refine ⟨hb2, ?_⟩
    rcases h with ⟨v, h1, h2, h3, h4, h5, h6, h7, hbv, h8⟩ | ⟨h1, h2, h3, h4, h5, h6, h7⟩ | ⟨h1, h2, h3, h4, h5, h6, h7, h8, h9⟩ | ⟨h1, h2, h3, h4, h5, h6, h7, h8⟩ | ⟨h1, h2, h3, h4, h5, h6, h7, h8⟩ | ⟨h1, h2, h3, h4, h5, h6, h7, h8⟩ | ⟨h1, h2, h3, h4, h5, y, h6, h7, h8⟩ | ⟨h1, h2, h3, h4, h5, h6, h7, h8, h9, h10⟩
    · refine .inl ⟨v, h1, h2, h3, h4, h5, h6, h7, hb2, ?_⟩
      rcases h8 with ⟨q1, q2⟩ | ⟨q1, q2, q3⟩
      · refine .inl ⟨q1, ?_⟩
        have hv := q1
        unfold isSmall at hv
        simp only [Bool.and_eq_true, decide_eq_true_eq] at hv
        rw [fwd_imm (by rw [q2]; unfold fixW; rw [if_pos hv]; omega)]
        exact q2
      · exact .inr ⟨q1, q2, q3.moved hw hs hr hres q2⟩
    · refine .inr (.inl ⟨h1, h2, h3, h4, h5, h6, ?_⟩)
      rw [fwd_imm (by rcases h7 with ⟨_, rfl⟩ | ⟨_, rfl⟩ <;> decide)]
      exact h7
    · refine .inr (.inr (.inl ⟨h1, h2, h3, h4, h5, h6, h7, h8, ?_⟩))
      rw [fwd_imm (by omega)]
      exact h9
    · exact .inr (.inr (.inr (.inl ⟨h1, h2, h3, h4, h5, h6, h7, h8.moved hw hs hr hres (by rw [bytesOf_len]; exact h7)⟩)))
    · exact .inr (.inr (.inr (.inr (.inl ⟨h1, h2, h3, h4, h5, h6, h7, h8.moved hw hs hr hres (by rw [bytesOf_len]; exact h7)⟩))))
    · refine .inr (.inr (.inr (.inr (.inr (.inl ⟨h1, h2, h3, h4, h5, h6, h7, ?_⟩)))))
      rw [fwd_imm (by omega)]
      exact h8
    · obtain ⟨q1, q2⟩ := HTo.moved hw hs hr items h6 hres
      exact .inr (.inr (.inr (.inr (.inr (.inr (.inl ⟨h1, h2, h3, h4, h5, _, q1, HEnd.moved hw hs hr rest h7 q2, h8⟩))))))
    · obtain ⟨a1, a2, a3, a4, a5, a6⟩ := collect_obj hw hs hr h8 hres
      obtain ⟨g1, g2, g3⟩ := header_tag (kind := 2) (t := items.length) (r := 0) (by decide) (by decide) h7 (by decide)
      have et : (S.tag x).toNat = items.length := by
        have : S.tag x = items.length := by unfold HS.tag; rw [h9]; exact g1
        omega
      refine .inr (.inr (.inr (.inr (.inr (.inr (.inr ⟨h1, h2, h3, h4, h5, h6, h7, a1, a2.trans h9, ?_⟩))))))
      exact HRow.moved hw hs hr items (n := items.length) (k := 0) (fun i hi => a6 i (by omega)) h10 (by omega)
theorem HRow.moved (hw : WfH S.ws S.bs) (hs : S.ws.length ≤ 1048576) (hr : ∀ x ∈ roots, 0 ≤ x ∧ x < 18446744073709551616) : ∀ (l : List Dm) {q q' n k : Nat}, (∀ i, i < n → Res S (gcEnd S roots) (S.ws.getD (q + i) 0) ∧ (S.collect roots).ws.getD (q' + i) 0 = fwd S (gcEnd S roots) (S.ws.getD (q + i) 0)) → HRow S l (q + k) → k + l.length ≤ n → HRow (S.collect roots) l (q' + k)
  | [], _, _, _, _, _, _, _ => by unfold HRow; trivial
  | d :: l, q, q', n, k, hm, h, hl => by
    unfold HRow at h ⊢
    rw [List.length_cons] at hl
    obtain ⟨b1, b2⟩ := hm k (by omega)
    rw [b2]
    exact ⟨HIn.moved hw hs hr d h.1 b1, HRow.moved hw hs hr l (k := k + 1) hm h.2 (by omega)⟩
theorem HTo.moved (hw : WfH S.ws S.bs) (hs : S.ws.length ≤ 1048576) (hr : ∀ x ∈ roots, 0 ≤ x ∧ x < 18446744073709551616) : ∀ (l : List Dm) {x y : Int}, HTo S l x y → Res S (gcEnd S roots) x → HTo (S.collect roots) l (fwd S (gcEnd S roots) x) (fwd S (gcEnd S roots) y) ∧ Res S (gcEnd S roots) y
  | [], x, y, h, hres => by
    unfold HTo at h ⊢
    subst h
    exact ⟨rfl, hres⟩
  | d :: l, x, y, h, hres => by
    unfold HTo at h ⊢
    obtain ⟨h1, h2, h3, h4, h5⟩ := h
    obtain ⟨a1, a2, a3, a4, a5, a6⟩ := collect_obj hw hs hr h2 hres
    have et : S.tag x = 2 := by unfold HS.tag; rw [h3]; exact dpair_head.1
    obtain ⟨b1, b2⟩ := a6 0 (by rw [et]; decide)
    obtain ⟨b3, b4⟩ := a6 1 (by rw [et]; decide)
    rw [Nat.add_zero] at b1 b2
    obtain ⟨q1, q2⟩ := HTo.moved hw hs hr l h5 b3
    refine ⟨⟨by omega, a1, a2.trans h3, by rw [b2]; exact HIn.moved hw hs hr d h4 b1, ?_⟩, q2⟩
    rw [show (fwd S (gcEnd S roots) x / 4).toNat + 2 = (fwd S (gcEnd S roots) x / 4).toNat + 1 + 1 from rfl, b4]
    exact q1
theorem HEnd.moved (hw : WfH S.ws S.bs) (hs : S.ws.length ≤ 1048576) (hr : ∀ x ∈ roots, 0 ≤ x ∧ x < 18446744073709551616) : ∀ (l : List Dm) {x : Int}, HEnd S l x → Res S (gcEnd S roots) x → HEnd (S.collect roots) l (fwd S (gcEnd S roots) x)
  | [], x, h, _ => by
    unfold HEnd at h ⊢
    rw [fwd_imm (by omega)]
    exact h
  | d :: l, x, h, hres => by
    unfold HEnd at h ⊢
    exact ⟨HIn.moved hw hs hr d h.1 hres, h.2.1, h.2.2⟩
end
end
end Go.Proofs.Ytanjiecefioffaa

/- Which words of data are pairs. -/
namespace Go.Proofs.Ytanjiecefioffaa
open Go.RowKit
theorem shape_kind {S : HS} {x k t r : Int} (h : S.kind x ≠ k) : S.shape x k t r = false := by
  unfold HS.shape
  have : decide (S.kind x = k) = false := by simp [h]
  rw [this]
  rfl
theorem imm_kind1 {S : HS} {x : Int} (h : x % 4 = 1) : S.kind x = 0 := by
  have h1 : S.is x = false := by
    cases hh : S.is x with
    | false => rfl
    | true => have := (is_iff.1 hh).1; omega
  unfold HS.is at h1
  unfold HS.kind HS.head headOf
  rw [h1]
  rfl
theorem pair_shape {S : HS} {x : Int} (hh : S.head x = headerOf 1 2 0) : S.shape x 1 2 0 = true := by
  obtain ⟨g1, g2, g3⟩ := dpair_head
  have e1 : S.tag x = 2 := by unfold HS.tag; rw [hh]; exact g1
  have e2 : S.raw x = 0 := by unfold HS.raw; rw [hh]; exact g2
  have e3 : S.kind x = 1 := by unfold HS.kind; rw [hh]; exact g3
  unfold HS.shape
  rw [e1, e2, e3]
  rfl
/-- What is no list is no pair. -/
theorem HIn.nopair {S : HS} {d : Dm} {x : Int} (h : HIn S d x) (hk : d.kind ≠ 6) : S.shape x 1 2 0 = false := by
  cases d with
  | mk k n neg mag text items rest =>
  have hk' : k ≠ 6 := hk
  unfold HIn at h
  obtain ⟨hb, h⟩ := h
  refine shape_kind ?_
  rcases h with ⟨v, h1, h2, h3, h4, h5, h6, h7, hbv, h8⟩ | ⟨h1, h2, h3, h4, h5, h6, h7⟩ | ⟨h1, h2, h3, h4, h5, h6, h7, h8, h9⟩ | ⟨h1, h2, h3, h4, h5, h6, h7, h8⟩ | ⟨h1, h2, h3, h4, h5, h6, h7, h8⟩ | ⟨h1, h2, h3, h4, h5, h6, h7, h8⟩ | ⟨h1, _⟩ | ⟨h1, h2, h3, h4, h5, h6, h7, h8, h9, h10⟩
  · rcases h8 with ⟨q1, rfl⟩ | ⟨q1, q2, q3⟩
    · rw [imm_kind1 (fixW_imm q1)]; decide
    · have hwl := numWords_len v
      have e : S.kind x = 5 := by unfold HS.kind; rw [q3.head]; exact (num_head (numWords v).length (by omega)).2.2
      rw [e]; decide
  · rw [imm_kind (by rcases h7 with ⟨_, rfl⟩ | ⟨_, rfl⟩ <;> decide)]; decide
  · rw [imm_kind (by omega)]; decide
  · have hwl := wordsOf_len (bytesOf text)
    have hz := bytesOf_len text
    have e : S.kind x = 3 := by unfold HS.kind; rw [h8.head]; exact (text_head (wordsOf (bytesOf text)).length (by omega)).2.2
    rw [e]; decide
  · have e : S.kind x = 4 := by unfold HS.kind; rw [h8.head]; decide
    rw [e]; decide
  · rw [imm_kind (by omega)]; decide
  · exact absurd h1 hk'
  · have e : S.kind x = 2 := by unfold HS.kind; rw [h9]; exact (vec_head items.length h7).2.2
    rw [e]; decide
theorem HEnd.nopair {S : HS} {l : List Dm} {x : Int} (h : HEnd S l x) : S.shape x 1 2 0 = false := by
  cases l with
  | nil =>
    unfold HEnd at h
    subst h
    exact shape_kind (by rw [imm_kind (by decide)]; decide)
  | cons d l =>
    unfold HEnd at h
    exact h.1.nopair h.2.1
/-- A pair of a chain: its two fields. -/
theorem HTo.fields {S : HS} {d : Dm} {l : List Dm} {x y : Int} (h : HTo S (d :: l) x y) : S.shape x 1 2 0 = true ∧ (0 ≤ x ∧ x < 18446744073709551616) ∧ HIn S d (S.getAt x 0) ∧ HTo S l (S.getAt x 1) y := by
  unfold HTo at h
  obtain ⟨h1, h2, h3, h4, h5⟩ := h
  obtain ⟨g1, g2⟩ := get_field h3 h1.1
  rw [g1, g2]
  exact ⟨pair_shape h3, h1, h4, h5⟩
end Go.Proofs.Ytanjiecefioffaa
