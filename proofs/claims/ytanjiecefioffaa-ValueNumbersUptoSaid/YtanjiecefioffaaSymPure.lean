/- Symbols and texts, plainly: what is laid is told again, also behind a collection. -/
import Derived.Test.YtanjiecefioffaaStoreName
import Derived.Test.YtanjiecefioffaaGcScan
namespace Go.Proofs.Ytanjiecefioffaa
open Go.RowKit

theorem pack_digit : ∀ {l : List Int} (_ : Bytes l) (j : Nat) (x : Int), l[j]? = some x → packB l / 256 ^ j % 256 = x
  | [], _, j, x, hx => by simp at hx
  | y :: l, h, 0, x, hx => by
    simp at hx
    subst hx
    have := h y (by simp)
    simp only [packB, Int.pow_zero, Int.ediv_one]
    omega
  | y :: l, h, j + 1, x, hx => by
    have hy := h y (by simp)
    have ih := pack_digit (l := l) (fun z hz => h z (by simp [hz])) j x (by simpa using hx)
    simp only [packB]
    rw [Int.pow_succ, Int.mul_comm (256 ^ j), ← Int.ediv_ediv_of_nonneg (by decide), show (y + 256 * packB l) / 256 = packB l by omega]
    exact ih
theorem wordB_digit {b : List Int} (h : Bytes b) (i : Nat) (x : Int) (hx : b[i]? = some x) : wordB b (i / 8) / 256 ^ (i % 8) % 256 = x := by
  unfold wordB
  refine pack_digit (fun z hz => h z (List.mem_of_mem_drop (List.mem_of_mem_take hz))) (i % 8) x ?_
  rw [List.getElem?_take, if_pos (by omega), List.getElem?_drop, show 8 * (i / 8) + i % 8 = i by omega]
  exact hx
theorem wordB_end {b : List Int} (h : Bytes b) : wordB b (b.length / 8) < 256 ^ (b.length % 8) := by
  have := wordB_low h b.length (Nat.le_refl _)
  rw [List.take_length] at this
  exact this

structure TextIn (S : HS) (b : List Int) (t : Int) : Prop where
  is : S.is t = true
  head : S.head t = headerOf 3 0 (wordsOf b).length
  raws : ∀ (i : Nat) x, (wordsOf b)[i]? = some x → S.ws.getD ((t / 4).toNat + 1 + i) 0 = x
structure SymIn (S : HS) (b : List Int) (w : Int) : Prop where
  is : S.is w = true
  head : S.head w = headerOf 4 1 0
  text : TextIn S b (S.ws.getD ((w / 4).toNat + 1) 0)

theorem is_nonneg {S : HS} (hw : WfH S.ws S.bs) {t : Int} (h : S.is t = true) : 0 ≤ t := by
  rcases Int.lt_or_le t 0 with a | a
  · have := (is_iff.1 h).2
    rw [show (t / 4).toNat = 0 by omega, hw.zero.1] at this
    cases this
  · exact a
theorem is_head {S : HS} {t : Int} (h : S.is t = true) : S.head t = S.ws.getD (t / 4).toNat 0 := by
  unfold HS.head headOf; unfold HS.is at h; rw [if_pos h]
theorem wordsOf_get (b : List Int) (i : Nat) (h : i < (b.length + 7) / 8) : (wordsOf b)[1 + i]? = some (wordB b i) := by
  unfold wordsOf wordsB
  rw [show 1 + i = i + 1 by omega, List.getElem?_cons_succ, List.getElem?_map, List.getElem?_range h]; rfl
theorem text_head (n : Nat) (h : n ≤ 1048576) : tagH (headerOf 3 0 n) = 0 ∧ rawH (headerOf 3 0 n) = n ∧ kindH (headerOf 3 0 n) = 3 := header_tag (kind := 3) (t := 0) (r := n) (by decide) (by decide) (by decide) h
theorem sym_head : tagH (headerOf 4 1 0) = 1 ∧ rawH (headerOf 4 1 0) = 0 ∧ kindH (headerOf 4 1 0) = 4 := by decide

theorem TextIn.bytes {S : HS} {b : List Int} {t : Int} (h : TextIn S b t) (hw : WfH S.ws S.bs) (hb : Bytes b) (hl : b.length ≤ 8388600) : S.bytesOk t = true ∧ S.bytes t = b := by
  have ht0 := is_nonneg hw h.is
  have hwl := wordsOf_len b
  obtain ⟨g1, g2, g3⟩ := text_head (wordsOf b).length (by omega)
  have e1 : S.tag t = 0 := by unfold HS.tag; rw [h.head]; exact g1
  have e2 : S.raw t = (wordsOf b).length := by unfold HS.raw; rw [h.head]; exact g2
  have e3 : S.kind t = 3 := by unfold HS.kind; rw [h.head]; exact g3
  have hraw : ∀ (i : Nat) x, (wordsOf b)[i]? = some x → S.rawAt t i = x := by
    intro i x hx
    have hi := (List.getElem?_eq_some_iff.1 hx).1
    unfold HS.rawAt HS.getRaw
    rw [if_pos (by rw [e2]; omega), e1]
    simp only
    rw [show fieldAt t 0 i = (t / 4).toNat + 1 + i by unfold fieldAt; omega]
    exact h.raws i x hx
  have hn : S.bytesN t = b.length := hraw 0 _ rfl
  have hfit : S.bytesFit t = true := by
    unfold HS.bytesFit HS.shape
    rw [hn, e1, e2, e3, hwl]
    simp only [Bool.and_eq_true, decide_eq_true_eq, Bool.or_eq_true]
    exact ⟨⟨trivial, .inr trivial, .inl (by decide)⟩, by omega, by omega⟩
  have hend : S.bytesEnd t = true := by
    unfold HS.bytesEnd
    rw [hn]
    by_cases h8 : b.length % 8 = 0
    · rw [Bool.or_eq_true]; left; rw [decide_eq_true_eq]; omega
    · rw [Bool.or_eq_true]; right; rw [decide_eq_true_eq]
      have hq : S.raw t - 1 = ((1 + b.length / 8 : Nat) : Int) := by rw [e2, hwl]; omega
      rw [hq, hraw (1 + b.length / 8) _ (wordsOf_get b (b.length / 8) (by omega))]
      have h1 := wordB_end hb
      have h2 := (wordB_bd hb (b.length / 8)).1
      rw [show ((b.length : Int) % 8).toNat = b.length % 8 by omega, Int.pow_mul, show ((2 : Int) ^ 8) = 256 from rfl]
      exact Int.ediv_eq_zero_of_lt h2 h1
  have hok : S.bytesOk t = true := by unfold HS.bytesOk; rw [hfit, hend]; rfl
  refine ⟨hok, ?_⟩
  unfold HS.bytes
  rw [if_pos hok]
  unfold HS.bytesL
  rw [hn]
  apply List.ext_getElem?
  intro i
  rw [List.getElem?_map]
  rcases Nat.lt_or_ge i b.length with hi | hi
  · rw [List.getElem?_range (by omega), List.getElem?_eq_getElem hi]
    simp only [Option.map_some, Option.some.injEq]
    unfold HS.byteAt
    have := hraw (1 + i / 8) _ (wordsOf_get b (i / 8) (by omega))
    rw [show (1 + ((i / 8 : Nat) : Int)) = ((1 + i / 8 : Nat) : Int) by omega, this, Int.pow_mul, show ((2 : Int) ^ 8) = 256 from rfl]
    exact wordB_digit hb i _ (List.getElem?_eq_getElem hi)
  · rw [List.getElem?_eq_none (by simp; omega), List.getElem?_eq_none (by omega)]; rfl

theorem SymIn.name {S : HS} {b : List Int} {w : Int} (h : SymIn S b w) (hw : WfH S.ws S.bs) (hb : Bytes b) (hl : b.length ≤ 8388600) : S.nameOk w = true ∧ S.name w = strOfNums b := by
  have hw0 := is_nonneg hw h.is
  obtain ⟨g1, g2, g3⟩ := sym_head
  have e1 : S.tag w = 1 := by unfold HS.tag; rw [h.head]; exact g1
  have e2 : S.raw w = 0 := by unfold HS.raw; rw [h.head]; exact g2
  have e3 : S.kind w = 4 := by unfold HS.kind; rw [h.head]; exact g3
  have hg : S.getAt w 0 = S.ws.getD ((w / 4).toNat + 1) 0 := by
    unfold HS.getAt HS.get
    rw [if_pos (by rw [e1]; omega)]
    simp only
    rw [show fieldAt w 0 0 = (w / 4).toNat + 1 by unfold fieldAt; omega]
  obtain ⟨k1, k2⟩ := h.text.bytes hw hb hl
  have hok : S.nameOk w = true := by
    unfold HS.nameOk HS.shape
    rw [e1, e2, e3, hg, k1]
    rfl
  refine ⟨hok, ?_⟩
  unfold HS.name
  rw [if_pos hok, hg, k2]
/-- One word is no symbol of two names. -/
theorem SymIn.one {S : HS} {b c : List Int} {w : Int} (h : SymIn S b w) (h' : SymIn S c w) (hw : WfH S.ws S.bs) (hb : Bytes b) (hl : b.length ≤ 8388600) (hc : Bytes c) (hl' : c.length ≤ 8388600) : b = c := by
  rw [← (h.text.bytes hw hb hl).2, (h'.text.bytes hw hc hl').2]

/-! ### More is laid -/
structure Ext (S S' : HS) : Prop where
  ws : ∃ l, S'.ws = S.ws ++ l
  bs : ∃ l, S'.bs = S.bs ++ l
theorem Ext.refl (S : HS) : Ext S S := ⟨⟨[], by simp⟩, ⟨[], by simp⟩⟩
theorem Ext.trans {A B C : HS} (h : Ext A B) (g : Ext B C) : Ext A C := by
  obtain ⟨⟨l, h1⟩, ⟨m, h2⟩⟩ := h
  obtain ⟨⟨l', g1⟩, ⟨m', g2⟩⟩ := g
  exact ⟨⟨l ++ l', by rw [g1, h1, List.append_assoc]⟩, ⟨m ++ m', by rw [g2, h2, List.append_assoc]⟩⟩
theorem part_ext (S : HS) (kind : Int) (t r : Nat) (z : Int) (xs : List Int) (i : Nat) : Ext S (S.part kind t r z xs i) := ⟨⟨_, rfl⟩, ⟨_, rfl⟩⟩
theorem Ext.is {S S' : HS} (h : Ext S S') {x : Int} (hx : S.is x = true) : S'.is x = true := by
  obtain ⟨_, ⟨m, h2⟩⟩ := h
  unfold HS.is at *
  rw [h2]
  exact isB_app S.bs m x hx
theorem Ext.at {S S' : HS} (h : Ext S S') {k : Nat} (hk : k < S.ws.length) : S'.ws.getD k 0 = S.ws.getD k 0 := by
  obtain ⟨⟨l, h1⟩, _⟩ := h
  rw [h1]; exact getD_app_left hk
theorem is_lt {S : HS} (hw : WfH S.ws S.bs) {x : Int} (hx : S.is x = true) : (x / 4).toNat + 1 + (S.tag x).toNat + (S.raw x).toNat ≤ S.ws.length := by
  have h1 := hw.fits _ (is_iff.1 hx).2
  unfold HS.tag HS.raw
  rw [is_head hx]
  exact h1
theorem Ext.head {S S' : HS} (h : Ext S S') (hw : WfH S.ws S.bs) {x : Int} (hx : S.is x = true) : S'.head x = S.head x := by
  rw [is_head hx, is_head (h.is hx)]
  exact h.at (by have := is_lt hw hx; omega)
theorem TextIn.ext {S S' : HS} {b : List Int} {t : Int} (h : TextIn S b t) (e : Ext S S') (hw : WfH S.ws S.bs) (hl : b.length ≤ 8388600) : TextIn S' b t := by
  refine ⟨e.is h.is, by rw [e.head hw h.is]; exact h.head, ?_⟩
  intro i x hx
  have hi := (List.getElem?_eq_some_iff.1 hx).1
  have hwl := wordsOf_len b
  obtain ⟨g1, g2, g3⟩ := text_head (wordsOf b).length (by omega)
  have h1 := is_lt hw h.is
  unfold HS.tag HS.raw at h1
  rw [h.head, g1, g2] at h1
  rw [e.at (by omega)]
  exact h.raws i x hx
theorem SymIn.ext {S S' : HS} {b : List Int} {w : Int} (h : SymIn S b w) (e : Ext S S') (hw : WfH S.ws S.bs) (hl : b.length ≤ 8388600) : SymIn S' b w := by
  obtain ⟨g1, g2, g3⟩ := sym_head
  have h1 := is_lt hw h.is
  unfold HS.tag HS.raw at h1
  rw [h.head, g1, g2] at h1
  refine ⟨e.is h.is, by rw [e.head hw h.is]; exact h.head, ?_⟩
  rw [e.at (by omega)]
  exact h.text.ext e hw hl
theorem text_in {S : HS} (hl : S.bs.length = S.ws.length) (b : List Int) : TextIn (S.text b) b (4 * (S.ws.length : Int)) := by
  refine ⟨part_is hl 3 0 _ 0 _ _, part_head hl 3 0 _ 0 _ _, ?_⟩
  intro i x hx
  have hi := (List.getElem?_eq_some_iff.1 hx).1
  unfold HS.text HS.part
  simp only
  rw [show (4 * (S.ws.length : Int) / 4).toNat + 1 + i = S.ws.length + (1 + i) by omega, getD_app_right, List.getD_eq_getElem?_getD, Nat.add_comm 1 i, List.getElem?_cons_succ, List.getElem?_append_left (by rw [List.length_take]; omega), List.take_of_length_le (Nat.le_refl _), hx]
  rfl
theorem text_bs {S : HS} (hl : S.bs.length = S.ws.length) (b : List Int) : (S.text b).bs.length = (S.text b).ws.length := by
  unfold HS.text HS.part
  simp only [List.length_append, List.length_cons, List.length_take, List.length_replicate]
  rw [laid_len _ (by omega), hl]
  omega
theorem sym_in {S : HS} (b : List Int) (hw : WfH S.ws S.bs) : SymIn (S.sym b) b (4 * ((S.text b).ws.length : Int)) := by
  have hbl := text_bs hw.len b
  have hti := text_in hw.len b
  have htl := (text_len S b).1
  have hext : Ext (S.text b) (S.sym b) := part_ext (S.text b) 4 1 0 2 _ 1
  refine ⟨part_is hbl 4 1 0 2 _ 1, part_head hbl 4 1 0 2 _ 1, ?_⟩
  have hx : (S.sym b).ws.getD ((4 * ((S.text b).ws.length : Int) / 4).toNat + 1) 0 = 4 * (S.ws.length : Int) := by
    unfold HS.sym HS.part
    simp only
    rw [show (4 * ((S.text b).ws.length : Int) / 4).toNat + 1 = (S.text b).ws.length + 1 by omega, getD_app_right]
    rfl
  rw [hx]
  refine ⟨hext.is hti.is, ?_, ?_⟩
  · rw [← hti.head, is_head hti.is, is_head (hext.is hti.is)]
    exact hext.at (by omega)
  · intro i x hxi
    have hi := (List.getElem?_eq_some_iff.1 hxi).1
    rw [hext.at (by omega)]
    exact hti.raws i x hxi

/-! ### Behind a collection -/
theorem collect_obj {S : HS} (hw : WfH S.ws S.bs) (hs : S.ws.length ≤ 1048576) {roots : List Int} (hr : ∀ x ∈ roots, 0 ≤ x ∧ x < 18446744073709551616) {x : Int} (hx : S.is x = true) (hres : Res S (gcEnd S roots) x) :
    (S.collect roots).is (fwd S (gcEnd S roots) x) = true ∧ (S.collect roots).head (fwd S (gcEnd S roots) x) = S.head x ∧ 0 ≤ fwd S (gcEnd S roots) x ∧ fwd S (gcEnd S roots) x < 4611686018427387904 ∧
    (∀ i, (S.tag x).toNat ≤ i → i < (S.tag x).toNat + (S.raw x).toNat → (S.collect roots).ws.getD ((fwd S (gcEnd S roots) x / 4).toNat + 1 + i) 0 = S.ws.getD ((x / 4).toNat + 1 + i) 0) ∧
    (∀ i, i < (S.tag x).toNat → Res S (gcEnd S roots) (S.ws.getD ((x / 4).toNat + 1 + i) 0) ∧ (S.collect roots).ws.getD ((fwd S (gcEnd S roots) x / 4).toNat + 1 + i) 0 = fwd S (gcEnd S roots) (S.ws.getD ((x / 4).toNat + 1 + i) 0)) := by
  have he := gc_end hw hs hr
  obtain ⟨j, hj, hc⟩ := he.inv.tgt _ (hres hx)
  have hf : fwd S (gcEnd S roots) x = 4 * (j : Int) := by unfold fwd; rw [if_pos hx]; exact hj
  have e4 : (4 * (j : Int) / 4).toNat = j := by omega
  have hlt : j < (gcEnd S roots).tw.length := by have := (List.getElem?_eq_some_iff.1 hc.now).1; have := he.inv.wf.len; omega
  have hgl := he.inv.len hw
  have hfits := he.inv.wf.fits j hc.now
  have his : (S.collect roots).is (4 * (j : Int)) = true := isB_place.2 hc.now
  rw [hf, e4]
  have ht : (S.tag x).toNat = tagAt S.ws (x / 4).toNat := by unfold HS.tag tagAt; rw [is_head hx]
  have hrw : (S.raw x).toNat = rawAt S.ws (x / 4).toNat := by unfold HS.raw rawAt; rw [is_head hx]
  refine ⟨his, ?_, by omega, by omega, ?_, ?_⟩
  · rw [is_head his, is_head hx, e4]; exact hc.head
  · intro i h1 h2
    rw [ht] at h1 h2
    rw [hrw] at h2
    exact hc.raws i h1 h2
  · intro i h1
    rw [ht] at h1
    refine hc.done i h1 ?_
    rw [hc.head] at hfits
    unfold tagAt at h1
    omega
theorem TextIn.moved {S : HS} {b : List Int} {t : Int} (h : TextIn S b t) (hw : WfH S.ws S.bs) (hs : S.ws.length ≤ 1048576) {roots : List Int} (hr : ∀ x ∈ roots, 0 ≤ x ∧ x < 18446744073709551616) (hres : Res S (gcEnd S roots) t) (hl : b.length ≤ 8388600) :
    TextIn (S.collect roots) b (fwd S (gcEnd S roots) t) := by
  obtain ⟨a1, a2, a3, a4, a5, a6⟩ := collect_obj hw hs hr h.is hres
  have hwl := wordsOf_len b
  obtain ⟨g1, g2, g3⟩ := text_head (wordsOf b).length (by omega)
  have e1 : S.tag t = 0 := by unfold HS.tag; rw [h.head]; exact g1
  have e2 : S.raw t = (wordsOf b).length := by unfold HS.raw; rw [h.head]; exact g2
  refine ⟨a1, a2.trans h.head, ?_⟩
  intro i x hx
  have hi := (List.getElem?_eq_some_iff.1 hx).1
  rw [a5 i (by rw [e1]; omega) (by rw [e1, e2]; omega)]
  exact h.raws i x hx
theorem SymIn.moved {S : HS} {b : List Int} {w : Int} (h : SymIn S b w) (hw : WfH S.ws S.bs) (hs : S.ws.length ≤ 1048576) {roots : List Int} (hr : ∀ x ∈ roots, 0 ≤ x ∧ x < 18446744073709551616) (hres : Res S (gcEnd S roots) w) (hl : b.length ≤ 8388600) :
    SymIn (S.collect roots) b (fwd S (gcEnd S roots) w) := by
  obtain ⟨a1, a2, a3, a4, a5, a6⟩ := collect_obj hw hs hr h.is hres
  obtain ⟨g1, g2, g3⟩ := sym_head
  have e1 : S.tag w = 1 := by unfold HS.tag; rw [h.head]; exact g1
  obtain ⟨b1, b2⟩ := a6 0 (by rw [e1]; decide)
  refine ⟨a1, a2.trans h.head, ?_⟩
  rw [Nat.add_zero] at b1 b2
  rw [b2]
  exact h.text.moved hw hs hr b1 hl
end Go.Proofs.Ytanjiecefioffaa
