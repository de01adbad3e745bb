/- tandemlaw00: CopyProtos. -/
import Derived.Test.YtkjfplldfjmbaaaPackProto
import Derived.Test.YtkjfplldfjmbaaaDmCopy
namespace Go.Proofs.Ytkjfplldfjmbaaa
open Go.RowKit
def insV (t : Int × Int × Int) : List Value := [.int .i64 t.1, .int .i64 t.2.1, .int .i64 t.2.2]
def codeV (l : List (Int × Int × Int)) : List Value := l.flatMap insV
def namesV (l : List ByteArray) : List Value := l.map fun s => .string s
theorem codeV_len : ∀ l : List (Int × Int × Int), (codeV l).length = l.length * 3
  | [] => rfl
  | t :: l => by
    have := codeV_len l
    unfold codeV at this ⊢
    rw [List.flatMap_cons, List.length_append, this, List.length_cons]
    show 3 + _ = _
    omega
theorem codeV_get : ∀ {l : List (Int × Int × Int)} {i j : Nat} {t : Int × Int × Int} {v : Value}, l[i]? = some t → (insV t)[j]? = some v → (codeV l)[i * 3 + j]? = some v
  | [], i, j, t, v, h, _ => by simp at h
  | x :: l, 0, j, t, v, h, hv => by
    simp at h
    subst h
    unfold codeV
    rw [List.flatMap_cons, Nat.zero_mul, Nat.zero_add, List.getElem?_append_left (List.getElem?_eq_some_iff.1 hv).1]
    exact hv
  | x :: l, i + 1, j, t, v, h, hv => by
    have h3 : (insV x).length = 3 := rfl
    have := codeV_get (l := l) (i := i) (j := j) (by simpa using h) hv
    unfold codeV at this ⊢
    rw [List.flatMap_cons, List.getElem?_append_right (by omega), h3, show (i + 1) * 3 + j - 3 = i * 3 + j by omega]
    exact this
theorem codeV_one (l : List (Int × Int × Int)) : ∀ u ∈ codeV l, u.oneCell' = true := by
  intro u hu
  unfold codeV at hu
  obtain ⟨t, _, h⟩ := List.mem_flatMap.1 hu
  simp [insV] at h
  rcases h with rfl | rfl | rfl <;> rfl
theorem namesV_one (l : List ByteArray) : ∀ u ∈ namesV l, u.oneCell' = true := by
  intro u hu
  unfold namesV at hu
  obtain ⟨t, _, rfl⟩ := List.mem_map.1 hu
  rfl
/-- The proto that these cells are, with all of its memory. -/
def PrO (M : HP) (p : Pr) (cs : List Value) : Prop := ∃ ac cc ai ci an cn D, cs = [.string p.name, .int .i64 p.args, .int .i64 p.free, .bool p.rest, .slice ac p.code.length cc, .slice ai p.consts.length ci, .slice an p.names.length cn] ∧
  (i64b p.args ∧ i64b p.free) ∧ (∀ t ∈ p.code, i64b t.1 ∧ i64b t.2.1 ∧ i64b t.2.2) ∧ DKs D p.consts ai 0 ∧ p.code.length ≤ cc ∧ p.consts.length ≤ ci ∧ p.names.length ≤ cn ∧
  M = own 41 3 (.slice ac p.code.length cc) p.code.length (codeV p.code) * (own 9 1 (.slice an p.names.length cn) p.names.length (namesV p.names) * D)
def PrOs : List Pr → List (List Value) → HP → Prop
  | [], [], M => M = emp
  | p :: ps, cs :: css, M => ∃ M1 M2, M = M1 * M2 ∧ PrO M1 p cs ∧ PrOs ps css M2
  | _, _, _ => False
theorem PrOs.len : ∀ {ps : List Pr} {css : List (List Value)} {M : HP}, PrOs ps css M → css.length = ps.length
  | [], [], _, _ => rfl
  | p :: ps, cs :: css, M, h => by
    obtain ⟨_, _, _, _, h⟩ := h
    simp [h.len]
  | [], _ :: _, _, h => h.elim
  | _ :: _, [], _, h => h.elim
theorem PrOs.snoc : ∀ {ps : List Pr} {css : List (List Value)} {M N : HP} {p : Pr} {cs : List Value}, PrOs ps css M → PrO N p cs → PrOs (ps ++ [p]) (css ++ [cs]) (N * M)
  | [], [], M, N, p, cs, h, hn => by
    have h' : M = emp := h
    exact ⟨N, emp, by rw [h'], hn, rfl⟩
  | q :: ps, ds :: css, M, N, p, cs, h, hn => by
    obtain ⟨M1, M2, rfl, h1, h2⟩ := h
    exact ⟨M1, N * M2, by ac_rfl, h1, PrOs.snoc h2 hn⟩
  | [], _ :: _, _, _, _, _, h, _ => h.elim
  | _ :: _, [], _, _, _, _, h, _ => h.elim
theorem PrOs.at : ∀ {ps : List Pr} {css : List (List Value)} {M : HP} {i : Nat} {p : Pr}, PrOs ps css M → ps[i]? = some p →
    ∃ cs M1 M2, css[i]? = some cs ∧ M = M1 * M2 ∧ PrO M1 p cs ∧ ∀ p' cs' N, PrO N p' cs' → PrOs (ps.set i p') (css.set i cs') (N * M2)
  | [], css, M, i, p, _, hi => by simp at hi
  | q :: ps, [], M, i, p, h, hi => h.elim
  | q :: ps, ds :: css, M, 0, p, h, hi => by
    obtain ⟨M1, M2, rfl, h1, h2⟩ := h
    simp at hi
    subst hi
    exact ⟨ds, M1, M2, rfl, rfl, h1, fun p' cs' N hn => ⟨N, M2, rfl, hn, h2⟩⟩
  | q :: ps, ds :: css, M, i + 1, p, h, hi => by
    obtain ⟨M1, M2, rfl, h1, h2⟩ := h
    obtain ⟨cs, A, B, e1, rfl, e3, e4⟩ := PrOs.at h2 (by simpa using hi)
    refine ⟨cs, A, M1 * B, by simpa using e1, by ac_rfl, e3, fun p' cs' N hn => ?_⟩
    exact ⟨M1, N * B, by ac_rfl, h1, e4 p' cs' N hn⟩
theorem PrO.seven {M : HP} {p : Pr} {cs : List Value} (h : PrO M p cs) : cs.length = 7 := by
  obtain ⟨_, _, _, _, _, _, _, rfl, _⟩ := h
  rfl
theorem PrOs.seven {ps : List Pr} {css : List (List Value)} {M : HP} (h : PrOs ps css M) : ∀ cs ∈ css, cs.length = 7 := by
  intro cs hcs
  obtain ⟨i, hi⟩ := List.mem_iff_getElem?.1 hcs
  have hl := h.len
  have hil := (List.getElem?_eq_some_iff.1 hi).1
  obtain ⟨cs', _, _, e1, _, e3, _⟩ := h.at (List.getElem?_eq_getElem (show i < ps.length by omega))
  rw [hi] at e1
  cases e1
  exact e3.seven
theorem own_at {w : World} {R : HP} {e sz n : Nat} {ao : Option Addr} {c : Nat} {xs : List Value} {i : Nat} {u : Value} (h : sat w (own e sz (.slice ao n c) n xs * R)) (hi : xs[i]? = some u) :
    ∃ b, ao = some ⟨b, 0, none⟩ ∧ ∀ w' R', sat w' (own e sz (.slice ao n c) n xs * R') → w'.cell? ⟨b, i, none⟩ = some u := by
  have hjl := (List.getElem?_eq_some_iff.1 hi).1
  rcases h.open_own.2 with ⟨_, _, hx, _⟩ | ⟨b, cap', hb, _, _⟩
  · rw [hx] at hi; simp at hi
  · cases hb
    refine ⟨b, rfl, fun w' R' h' => ?_⟩
    rcases h'.open_own.2 with ⟨e1, _⟩ | ⟨b2, cap2, hb2, _, hr⟩
    · cases e1
    · cases hb2
      exact hr.row_cell hi
theorem PrO.k {M : HP} {p : Pr} {cs : List Value} (h : PrO M p cs) {w0 : World} {Q : HP} (h0 : sat w0 (M * Q)) : PrK M p cs := by
  obtain ⟨ac, cc, ai, ci, an, cn, D, rfl, hb, hc, hd, h1, h2, h3, rfl⟩ := h
  refine ⟨ac, cc, ai, ci, an, cn, rfl, hb, ?_, hd.mono (fun w h => h.right.right) _, ?_, h1, h2, h3⟩
  · intro i t ht
    have q := fun j v hv => own_at (w := w0) (i := i * 3 + j) (u := v) (h0.perm (HP.assoc _ _ _)) (codeV_get ht hv)
    obtain ⟨b, e1, e2⟩ := q 0 _ rfl
    obtain ⟨b3, e3, e4⟩ := q 1 _ rfl
    obtain ⟨b5, e5, e6⟩ := q 2 _ rfl
    subst e1
    cases e3
    cases e5
    refine ⟨⟨b, 0, rfl, fun w hw => ?_⟩, hc t (List.mem_of_getElem? ht)⟩
    rw [Nat.zero_add]
    exact ⟨e2 w _ hw, e4 w _ hw, e6 w _ hw⟩
  · intro i s hi
    have h0' := h0.perm (show _ = own 9 1 (.slice an p.names.length cn) p.names.length (namesV p.names) * (own 41 3 (.slice ac p.code.length cc) p.code.length (codeV p.code) * (D * Q)) by ac_rfl)
    obtain ⟨b, e1, e2⟩ := own_at h0' (show (namesV p.names)[i]? = some (.string s) by unfold namesV; rw [List.getElem?_map, hi]; rfl)
    refine ⟨b, 0, e1, fun w hw => ?_⟩
    rw [Nat.zero_add]
    exact e2 w _ hw.right
theorem PrOs.ks {ps : List Pr} {css : List (List Value)} {M R : HP} {w0 : World} {ao : Option Addr} {n c : Nat} (h : PrOs ps css M) (h0 : sat w0 (own 38 7 (.slice ao n c) n css.flatten * (M * R))) :
    PrKs (own 38 7 (.slice ao n c) n css.flatten * (M * R)) ps ao := by
  intro i p hp
  obtain ⟨cs, M1, M2, e1, rfl, e3, _⟩ := h.at hp
  have h7 := e3.seven
  obtain ⟨z, hz⟩ : ∃ z, cs[0]? = some z := ⟨_, List.getElem?_eq_getElem (by omega)⟩
  obtain ⟨b, hb, _⟩ := own_at h0 (flat7_get h.seven e1 hz)
  refine ⟨b, 0, cs, hb, fun w hw j v hv => ?_, (e3.k (h0.right.perm (HP.assoc _ _ _))).mono fun w hw => hw.right.left.left⟩
  obtain ⟨b', hb', hc⟩ := own_at h0 (flat7_get h.seven e1 hv)
  rw [hb] at hb'
  cases hb'
  rw [Nat.zero_add]
  exact hc w _ hw
abbrev prO (cs : List Value) : Obj := .cells cs.toArray 38 (0, 0)
abbrev zeroPr : Value := .agg #[.string ⟨#[]⟩, .int .i64 0, .int .i64 0, .bool false, .slice none 0 0, .slice none 0 0, .slice none 0 0]
theorem info_pr : (Try.prog.info? 38).map (fun i => (i.zero, i.size, i.bytes)) = some (some zeroPr, 7, 112) := by kernel_rfl
theorem info_ins : (Try.prog.info? 41).map (fun i => (i.zero, i.size, i.bytes)) = some (some (.agg #[.int .i64 0, .int .i64 0, .int .i64 0]), 3, 24) := by kernel_rfl
theorem info_txt : (Try.prog.info? 9).map (fun i => (i.zero, i.size, i.bytes)) = some (some (.string ⟨#[]⟩), 1, 16) := by kernel_rfl
theorem CodeR.cells {R : HP} {ao : Option Addr} {l : List (Int × Int × Int)} (h : CodeR R ao l) {w : World} (hw : sat w R) : CellsAt w ao (codeV l) := by
  intro j u hj
  have hjl := (List.getElem?_eq_some_iff.1 hj).1
  rw [codeV_len] at hjl
  have hi : j / 3 < l.length := by omega
  have ht := List.getElem?_eq_getElem hi
  obtain ⟨⟨b, off, e1, e2⟩, _⟩ := h (j / 3) _ ht
  have h3 : (insV l[j / 3]).length = 3 := rfl
  have hv := List.getElem?_eq_getElem (l := insV l[j / 3]) (i := j % 3) (by omega)
  have h4 := codeV_get ht hv
  rw [show j / 3 * 3 + j % 3 = j by omega, hj] at h4
  refine ⟨_, e1, ?_⟩
  rw [show (⟨b, off, none⟩ : Addr).add j = ⟨b, off + j, none⟩ by unfold Addr.add; split <;> simp_all, h4]
  have hm : j % 3 = 0 ∨ j % 3 = 1 ∨ j % 3 = 2 := by omega
  obtain ⟨q0, q1, q2⟩ := e2 w hw
  generalize l[j / 3] = t at *
  rcases hm with hm | hm | hm
  · have : off + j = off + j / 3 * 3 := by omega
    rw [this, q0]
    simp [insV, hm]
  · have : off + j = off + j / 3 * 3 + 1 := by omega
    rw [this, q1]
    simp [insV, hm]
  · have : off + j = off + j / 3 * 3 + 2 := by omega
    rw [this, q2]
    simp [insV, hm]
theorem NamesR.cells {R : HP} {ao : Option Addr} {l : List ByteArray} (h : NamesR R ao l) {w : World} (hw : sat w R) : CellsAt w ao (namesV l) := by
  intro j u hj
  unfold namesV at hj
  rw [List.getElem?_map] at hj
  cases hx : l[j]? with
  | none => rw [hx] at hj; cases hj
  | some s =>
    rw [hx] at hj
    cases hj
    obtain ⟨b, off, e1, e2⟩ := h j s hx
    refine ⟨_, e1, ?_⟩
    rw [show (⟨b, off, none⟩ : Addr).add j = ⟨b, off + j, none⟩ by unfold Addr.add; split <;> simp_all]
    exact e2 w hw
theorem cellsP {w9 : World} {P : HP} {g : Nat} {a0 a1 a2 a3 a4 a5 a6 : Value} (h : sat w9 (blk g (prO [a0, a1, a2, a3, a4, a5, a6]) * P)) :
      w9.cell? ⟨g, 0, none⟩ = some a0 ∧ w9.cell? ⟨g, 1, none⟩ = some a1 ∧ w9.cell? ⟨g, 2, none⟩ = some a2 ∧ w9.cell? ⟨g, 3, none⟩ = some a3 ∧ w9.cell? ⟨g, 4, none⟩ = some a4 ∧ w9.cell? ⟨g, 5, none⟩ = some a5 ∧ w9.cell? ⟨g, 6, none⟩ = some a6 :=
  ⟨h.left.cell 0, h.left.cell 1, h.left.cell 2, h.left.cell 3, h.left.cell 4, h.left.cell 5, h.left.cell 6⟩
/-- A copy of protos, all of whose memory is the call's own. -/
def CprPost (R : HP) (ps : List Pr) (w : World) (e : Ending) (w' : World) : Prop :=
  ∃ ro rc css M, e = .returned (.slice ro ps.length rc) ∧ ps.length ≤ rc ∧ PrOs ps css M ∧ sat w' (own 38 7 (.slice ro ps.length rc) ps.length css.flatten * (M * R)) ∧ Below 0 w w'
def CprRel (W : World) (R : HP) (ps : List Pr) (sv i : Value) (wr : World) : Prop :=
  ∃ (k : Nat) (css : List (List Value)) (M : HP), k ≤ ps.length ∧ i = .int .i64 k ∧ PrOs (ps.take k) css M ∧ sat wr (own 38 7 sv k css.flatten * (M * R)) ∧ Below 0 W wr
set_option maxRecDepth 100000 in
set_option maxHeartbeats 4000000 in
theorem copy_protos (ps : List Pr) (pl : Nat) (hpl : ps.length = pl) (hz : prSizes ps ≤ 1048576) (hlen : pl ≤ 1048576) (hszz : ∀ p ∈ ps, p.code.length ≤ 1048576 ∧ Dm.sizes p.consts ≤ 1048576 ∧ p.names.length ≤ 1048576) (w : World) (R : HP) (ao : Option Addr) (cap : Nat) (hs : sat w R) (hd : PrKs R ps ao) :
    Calls Try.prog 9 #[.slice ao pl cap] w (CprPost R ps w) := by
  obtain ⟨i0, hi, hz0, hz1, hz2⟩ := info_parts info_pr
  obtain ⟨i1, ji, jz0, jz1, jz2⟩ := info_parts info_ins
  obtain ⟨i2, ki, kz0, kz1, kz2⟩ := info_parts info_txt
  have H1 := Lib.hid (And.intro hi (And.intro hz0 (And.intro hz1 hz2)))
  have J1 := Lib.hid (And.intro ji (And.intro jz0 (And.intro jz1 jz2)))
  have K1 := Lib.hid (And.intro ki (And.intro kz0 (And.intro kz1 kz2)))
  have HD := Lib.hid (And.intro hpl (And.intro hszz (And.intro hd hz)))
  clear hi hz0 hz1 hz2 ji jz0 jz1 jz2 ki kz0 kz1 kz2 hpl hszz hd hz
  go_enter Try.func9, Try.ntmps9
  go_wp2_with fail
  go_loopw [3, 4] (CprRel w R ps) (fun _ i _ => pl - (intOf i).toNat)
  case atStart => exact ⟨0, [], emp, Nat.zero_le _, rfl, rfl, by rw [HP.emp_mul]; exact hs.nil_own, Below.refl _ _⟩
  case round =>
    obtain ⟨k, css, M, hk, rfl, hos, h1, hb1⟩ := hrel
    have hpl := HD.out.1
    by_cases hlt : k < ps.length
    · have hlt2 : k < pl := by omega
      have bl : decide ((k : Int) < (pl : Int)) = true := by rw [decide_eq_true_eq]; omega
      obtain ⟨p, ex⟩ : ∃ p, ps[k]? = some p := ⟨_, List.getElem?_eq_getElem hlt⟩
      obtain ⟨b, off, cs, rfl, hcell, hpk⟩ := HD.out.2.2.1 k p ex
      obtain ⟨hz1, hz2, hz3⟩ := HD.out.2.1 p (List.mem_of_getElem? ex)
      obtain ⟨ac, cc, ai, ci, an, cn, rfl, hib, hco, hdk, hna, hcc, hci, hcn⟩ := hpk
      have hcw := hcell wr h1.right.right
      have i0' := hcw 0 _ rfl
      have i1' := hcw 1 _ rfl
      have i2' := hcw 2 _ rfl
      have i3' := hcw 3 _ rfl
      have i4' := hcw 4 _ rfl
      have i5' := hcw 5 _ rfl
      have i6' := hcw 6 _ rfl
      rw [Nat.add_zero] at i0'
      have HP0 := Lib.hid (And.intro ex (And.intro hos (And.intro hco (And.intro hna (And.intro hdk (And.intro hib (And.intro hz1 (And.intro hz2 hz3))))))))
      obtain ⟨nm, hnm⟩ : ∃ x, p.name = x := ⟨_, rfl⟩
      obtain ⟨pa, hpa⟩ : ∃ x, p.args = x := ⟨_, rfl⟩
      obtain ⟨pf, hpf⟩ : ∃ x, p.free = x := ⟨_, rfl⟩
      obtain ⟨pr, hpr⟩ : ∃ x, p.rest = x := ⟨_, rfl⟩
      obtain ⟨cl, hcl⟩ : ∃ x, p.code.length = x := ⟨_, rfl⟩
      obtain ⟨dl, hdl⟩ : ∃ x, p.consts.length = x := ⟨_, rfl⟩
      obtain ⟨nl, hnl⟩ : ∃ x, p.names.length = x := ⟨_, rfl⟩
      have HNM := Lib.hid (And.intro hnm (And.intro hpa (And.intro hpf (And.intro hpr (And.intro hcl (And.intro hdl hnl))))))
      rw [hnm] at i0'
      rw [hpa] at i1'
      rw [hpf] at i2'
      rw [hpr] at i3'
      rw [hcl] at i4' hcc
      rw [hdl] at i5' hci
      rw [hnl] at i6' hcn
      have h2 := h1.alloc (prO [.string nm, .int .i64 pa, .int .i64 pf, .bool pr, .slice ac cl cc, .slice ai dl ci, .slice an nl cn])
      have hb2 := hb1.trans (Below.zero_alloc wr (prO [.string nm, .int .i64 pa, .int .i64 pf, .bool pr, .slice ac cl cc, .slice ai dl ci, .slice an nl cn]))
      have H2 := Lib.hid (And.intro h2 hb2)
      clear hcw hcell ex hos hco hna hdk hib hz1 hz2 hz3 hnm hpa hpf hpr hcl hdl hnl h1 hb1 h2 hb2 hs hpl hlt
      go_upto_region 6 with (fail)
      generalize wr.alloc (prO [.string nm, .int .i64 pa, .int .i64 pf, .bool pr, .slice ac cl cc, .slice ai dl ci, .slice an nl cn]) = w2 at *
      generalize wr.heap.size = g at *
      obtain ⟨c0, c1, c2, c3, c4, c5, c6⟩ := cellsP H2.out.1
      clear i0' i1' i2' i3' i4' i5' i6' c0 c1 c2 c3 c5 c6
      go_wp2_with (at_builtin; refine hold ?_)
      refine held ?_
      obtain ⟨ji, jz0, jz1, jz2⟩ := J1.out
      refine wpList_append_opt rfl (.const (.slice none 0 0)) (.tmp 17) 34 rfl 41 i1 (.agg #[.int .i64 0, .int .i64 0, .int .i64 0]) 3 24 Try.underlying34 ji jz0 jz1 jz2 rfl (by decide) (.slice none 0 0) 0 [] rfl _ ac cl cc (codeV p.code) rfl ?_ H2.out.1.nil_own (by rw [codeV_len, HNM.out.2.2.2.2.1]) (HP0.out.2.2.1.cells H2.out.1.right.right.right) (codeV_one _) (by have := HNM.out.2.2.2.2.1; have := HP0.out.2.2.2.2.2.2.1; omega) (by have := HNM.out.2.2.2.2.1; have := HP0.out.2.2.2.2.2.2.1; unfold maxLen; omega)
      clear ji jz0 jz1 jz2 c4
      intro v3 w3 h3 hb3
      rw [Nat.zero_add, List.nil_append] at h3
      obtain ⟨ac2, cc2, rfl, hcc2⟩ := slice_val h3
      have h3a := h3.perm (show _ = Go.Proofs.Ytkjfplldfjmbaaa.blk g _ * (own 41 3 (.slice ac2 cl cc2) cl (codeV p.code) * (own 38 7 u3 k css.flatten * (M * R))) by ac_rfl)
      have f4 := h3a.left.frozen 4
      have d4 := (h3a.left.cell 4).trans (show _ = some (Value.slice ac cl cc) from rfl)
      have h4 : sat (w3.setCell ⟨g, 4, none⟩ (.slice ac2 cl cc2)) (Go.Proofs.Ytkjfplldfjmbaaa.blk g (prO [.string nm, .int .i64 pa, .int .i64 pf, .bool pr, .slice ac2 cl cc2, .slice ai dl ci, .slice an nl cn]) * (own 41 3 (.slice ac2 cl cc2) cl (codeV p.code) * (own 38 7 u3 k css.flatten * (M * R)))) := h3a.setCell (off := 4) (.slice ac2 cl cc2)
      have hb4 : Below 0 w (w3.setCell ⟨g, 4, none⟩ (.slice ac2 cl cc2)) := (H2.out.2.trans hb3).setCell (p := ⟨g, 4, none⟩) (Nat.zero_le _) _
      have hC := copy_dms (cap := ci) h4 (HP0.out.2.2.2.2.1.mono (fun w h => h.right.right.right.right) _) (by have := HP0.out.2.2.2.2.2.2.2.1; omega)
      rw [HNM.out.2.2.2.2.2.1] at hC
      have H4 := Lib.hid (And.intro h4 (And.intro hb4 hcc2))
      have c5 := (h4.left.cell 5).trans (show _ = some (Value.slice ai dl ci) from rfl)
      clear h3 h3a hb3 h4 hb4 hcc2 H2
      go_upto_region 7 with (fail)
      generalize w3.setCell ⟨g, 4, none⟩ (.slice ac2 cl cc2) = w4 at *
      go_wp2_with fail
      refine hC.mono ?_
      clear hC c5 f4 d4
      rintro e w5 ⟨ai2, ci2, D, rfl, hci2, hdD, h5, hb5⟩
      rw [HNM.out.2.2.2.2.2.1] at hci2 ⊢
      have h5a := h5.perm (show _ = Go.Proofs.Ytkjfplldfjmbaaa.blk g _ * (D * (own 41 3 (.slice ac2 cl cc2) cl (codeV p.code) * (own 38 7 u3 k css.flatten * (M * R)))) by ac_rfl)
      have f5 := h5a.left.frozen 5
      have d5 := (h5a.left.cell 5).trans (show _ = some (Value.slice ai dl ci) from rfl)
      have h6 : sat (w5.setCell ⟨g, 5, none⟩ (.slice ai2 dl ci2)) (Go.Proofs.Ytkjfplldfjmbaaa.blk g (prO [.string nm, .int .i64 pa, .int .i64 pf, .bool pr, .slice ac2 cl cc2, .slice ai2 dl ci2, .slice an nl cn]) * (D * (own 41 3 (.slice ac2 cl cc2) cl (codeV p.code) * (own 38 7 u3 k css.flatten * (M * R))))) := h5a.setCell (off := 5) (.slice ai2 dl ci2)
      have hb6 : Below 0 w (w5.setCell ⟨g, 5, none⟩ (.slice ai2 dl ci2)) := (H4.out.2.1.trans hb5).setCell (p := ⟨g, 5, none⟩) (Nat.zero_le _) _
      have c6 := (h6.left.cell 6).trans (show _ = some (Value.slice an nl cn) from rfl)
      have H6 := Lib.hid (And.intro h6 (And.intro hb6 (And.intro hci2 (And.intro hdD H4.out.2.2))))
      clear h5 h5a hb5 h6 hb6 hci2 hdD H4
      go_upto_region 8 with (fail)
      generalize w5.setCell ⟨g, 5, none⟩ (.slice ai2 dl ci2) = w6 at *
      clear f5 d5
      go_wp2_with (at_builtin; refine hold ?_)
      refine held ?_
      obtain ⟨ki, kz0, kz1, kz2⟩ := K1.out
      refine wpList_append_opt rfl (.const (.slice none 0 0)) (.tmp 25) 36 rfl 9 i2 (.string ⟨#[]⟩) 1 16 Try.underlying36 ki kz0 kz1 kz2 rfl (by decide) (.slice none 0 0) 0 [] rfl _ an nl cn (namesV p.names) rfl ?_ H6.out.1.nil_own (by unfold namesV; rw [List.length_map, HNM.out.2.2.2.2.2.2, Nat.mul_one]) (HP0.out.2.2.2.1.cells H6.out.1.right.right.right.right.right) (namesV_one _) (by have := HNM.out.2.2.2.2.2.2; have := HP0.out.2.2.2.2.2.2.2.2; omega) (by have := HNM.out.2.2.2.2.2.2; have := HP0.out.2.2.2.2.2.2.2.2; unfold maxLen; omega)
      clear ki kz0 kz1 kz2 c6
      intro v7 w7 h7 hb7
      rw [Nat.zero_add, List.nil_append] at h7
      obtain ⟨an2, cn2, rfl, hcn2⟩ := slice_val h7
      have h7a := h7.perm (show _ = Go.Proofs.Ytkjfplldfjmbaaa.blk g _ * (own 9 1 (.slice an2 nl cn2) nl (namesV p.names) * (D * (own 41 3 (.slice ac2 cl cc2) cl (codeV p.code) * (own 38 7 u3 k css.flatten * (M * R))))) by ac_rfl)
      have f6 := h7a.left.frozen 6
      have d6 := (h7a.left.cell 6).trans (show _ = some (Value.slice an nl cn) from rfl)
      have h8 : sat (w7.setCell ⟨g, 6, none⟩ (.slice an2 nl cn2)) (Go.Proofs.Ytkjfplldfjmbaaa.blk g (prO [.string nm, .int .i64 pa, .int .i64 pf, .bool pr, .slice ac2 cl cc2, .slice ai2 dl ci2, .slice an2 nl cn2]) * (own 9 1 (.slice an2 nl cn2) nl (namesV p.names) * (D * (own 41 3 (.slice ac2 cl cc2) cl (codeV p.code) * (own 38 7 u3 k css.flatten * (M * R)))))) := h7a.setCell (off := 6) (.slice an2 nl cn2)
      have hb8 : Below 0 w (w7.setCell ⟨g, 6, none⟩ (.slice an2 nl cn2)) := (H6.out.2.1.trans hb7).setCell (p := ⟨g, 6, none⟩) (Nat.zero_le _) _
      have H8 := Lib.hid (And.intro h8 (And.intro hb8 (And.intro hcn2 H6.out.2.2)))
      clear h7 h7a hb7 h8 hb8 hcn2 H6
      go_upto_region 9 with (fail)
      generalize w7.setCell ⟨g, 6, none⟩ (.slice an2 nl cn2) = w8 at *
      clear f6 d6
      obtain ⟨c0, c1, c2, c3, c4, c5, c6⟩ := cellsP H8.out.1
      have h9 := H8.out.1.alloc (prO [.string nm, .int .i64 pa, .int .i64 pf, .bool pr, .slice ac2 cl cc2, .slice ai2 dl ci2, .slice an2 nl cn2])
      have hcl9 : CellsAt (w8.alloc (prO [.string nm, .int .i64 pa, .int .i64 pf, .bool pr, .slice ac2 cl cc2, .slice ai2 dl ci2, .slice an2 nl cn2])) (some ⟨w8.heap.size, 0, none⟩) [.string nm, .int .i64 pa, .int .i64 pf, .bool pr, .slice ac2 cl cc2, .slice ai2 dl ci2, .slice an2 nl cn2] := by
        intro j u hj
        refine ⟨_, rfl, ?_⟩
        rw [show ((⟨w8.heap.size, 0, none⟩ : Addr).add j) = ⟨w8.heap.size, j, none⟩ by unfold Addr.add; split <;> simp_all, h9.left.cell j, ← hj]
        simp
      have h9a := h9.perm (show _ = own 38 7 u3 k css.flatten * (Go.Proofs.Ytkjfplldfjmbaaa.blk w8.heap.size (prO [.string nm, .int .i64 pa, .int .i64 pf, .bool pr, .slice ac2 cl cc2, .slice ai2 dl ci2, .slice an2 nl cn2]) * (Go.Proofs.Ytkjfplldfjmbaaa.blk g (prO [.string nm, .int .i64 pa, .int .i64 pf, .bool pr, .slice ac2 cl cc2, .slice ai2 dl ci2, .slice an2 nl cn2]) * ((own 41 3 (.slice ac2 cl cc2) cl (codeV p.code) * (own 9 1 (.slice an2 nl cn2) nl (namesV p.names) * D)) * (M * R)))) by ac_rfl)
      have hb9 := H8.out.2.1.trans (Below.zero_alloc w8 (prO [.string nm, .int .i64 pa, .int .i64 pf, .bool pr, .slice ac2 cl cc2, .slice ai2 dl ci2, .slice an2 nl cn2]))
      have H9 := Lib.hid (And.intro h9a (And.intro hb9 (And.intro hcl9 H8.out.2.2)))
      clear h9 hcl9 h9a hb9 H8
      go_wp2_with (at_builtin; refine hold ?_)
      refine held ?_
      obtain ⟨hi, hz0, hz1, hz2⟩ := H1.out
      refine wpList_append_opt rfl (.tmp 28) (.tmp 30) 22 rfl 38 i0 zeroPr 7 112 Try.underlying22 hi hz0 hz1 hz2 rfl (by decide) u3 k css.flatten rfl _ (some ⟨w8.heap.size, 0, none⟩) 1 1 [.string nm, .int .i64 pa, .int .i64 pf, .bool pr, .slice ac2 cl cc2, .slice ai2 dl ci2, .slice an2 nl cn2] rfl ?_ H9.out.1 rfl H9.out.2.2.1 (by intro u hu; simp at hu; rcases hu with rfl | rfl | rfl | rfl | rfl | rfl | rfl <;> rfl) (by omega) (by unfold maxLen; omega)
      clear hi hz0 hz1 hz2
      intro v10 w10 h10 hb10
      have HQ := Lib.hid (And.intro h10 (H9.out.2.1.trans hb10))
      clear h10 hb10 c0 c1 c2 c3 c4 c5 c6
      go_wp2_with fail
      go_roundw
      case rel =>
        obtain ⟨q1, q2, q3, q4⟩ := H9.out.2.2.2
        have hpo : PrO (own 41 3 (.slice ac2 cl cc2) cl (codeV p.code) * (own 9 1 (.slice an2 nl cn2) nl (namesV p.names) * D)) p [.string nm, .int .i64 pa, .int .i64 pf, .bool pr, .slice ac2 cl cc2, .slice ai2 dl ci2, .slice an2 nl cn2] := by
          obtain ⟨e1, e2, e3, e4, e5, e6, e7⟩ := HNM.out
          refine ⟨ac2, cc2, ai2, ci2, an2, cn2, D, ?_, HP0.out.2.2.2.2.2.1, ?_, q3, ?_, ?_, ?_, ?_⟩
          · rw [e1, e2, e3, e4, e5, e6, e7]
          · intro t ht
            obtain ⟨i, hi⟩ := List.mem_iff_getElem?.1 ht
            exact (HP0.out.2.2.1 i t hi).2
          · rw [e5]; exact q4
          · rw [e6]; exact q2
          · rw [e7]; exact q1
          · rw [e5, e7]
        refine ⟨k + 1, css ++ [[.string nm, .int .i64 pa, .int .i64 pf, .bool pr, .slice ac2 cl cc2, .slice ai2 dl ci2, .slice an2 nl cn2]], (own 41 3 (.slice ac2 cl cc2) cl (codeV p.code) * (own 9 1 (.slice an2 nl cn2) nl (namesV p.names) * D)) * M, by have := HD.out.1; omega, by go_num, ?_, ?_, HQ.out.2⟩
        · rw [List.take_add_one, HP0.out.1]
          exact HP0.out.2.1.snoc hpo
        · rw [List.flatten_append, List.flatten_cons, List.flatten_nil, List.append_nil]
          exact (HQ.out.1.perm (show _ = Go.Proofs.Ytkjfplldfjmbaaa.blk w8.heap.size _ * (Go.Proofs.Ytkjfplldfjmbaaa.blk g _ * (own 38 7 v10 (k + 1) _ * ((own 41 3 (.slice ac2 cl cc2) cl (codeV p.code) * (own 9 1 (.slice an2 nl cn2) nl (namesV p.names) * D)) * M * R))) by ac_rfl)).right.right
      case measure => simp [intOf]; omega
    · obtain rfl : k = pl := by omega
      have hge : decide ((k : Int) < (k : Int)) = false := by simp
      obtain rfl : k = ps.length := by omega
      rw [List.take_of_length_le (Nat.le_refl _)] at hos
      obtain ⟨ro, rc, rfl, hrc⟩ := slice_val h1
      have HF := Lib.hid (And.intro hos (And.intro h1 (And.intro hb1 hrc)))
      clear hos h1 hb1 hrc hs hlt hk
      go_wp2_with fail
      go_ret
      exact ⟨ro, rc, _, _, rfl, HF.out.2.2.2, HF.out.1, HF.out.2.1, HF.out.2.2.1⟩
end Go.Proofs.Ytkjfplldfjmbaaa
