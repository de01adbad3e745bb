/- A collection twice over is the same as once: plainly. -/
import Derived.Test.YthkodbmijgehbaaGcScan
namespace Go.Proofs.Ythkodbmijgehbaa
open Go.RowKit

/-- The first run's state c on its way to e. -/
structure Fore (c e : CS) : Prop where
  later : Later c e
  tb : ∃ l, e.tb = c.tb ++ l
theorem Fore.refl (c : CS) : Fore c c := ⟨Later.refl c, [], by simp⟩
theorem Fore.trans {a b c : CS} (h : Fore a b) (g : Fore b c) : Fore a c := by
  obtain ⟨l, hl⟩ := h.tb
  obtain ⟨m, hm⟩ := g.tb
  exact ⟨h.later.trans g.later, l ++ m, by rw [hm, hl, List.append_assoc]⟩
theorem Fore.step1 {S : HS} {c : CS} {P : Nat} (h : GcInv S c P) (hw : WfH S.ws S.bs) (hs : S.ws.length ≤ 1048576) {x : Int} (x0 : 0 ≤ x) (x1 : x < 18446744073709551616) : Fore c (copy1 S c x).1 := by
  refine ⟨(h.copy1 hw hs x x0 x1).2.1, ?_⟩
  unfold Go.Proofs.Ythkodbmijgehbaa.copy1
  split
  · split
    · exact ⟨_, rfl⟩
    · exact ⟨[], by simp⟩
  · exact ⟨[], by simp⟩
theorem tbf_copy1 (S : HS) (c : CS) (x : Int) : ∃ l, (copy1 S c x).1.tb = c.tb ++ l := by
  unfold Go.Proofs.Ythkodbmijgehbaa.copy1
  split
  · split
    · exact ⟨_, rfl⟩
    · exact ⟨[], by simp⟩
  · exact ⟨[], by simp⟩
theorem tbf_fixN (S : HS) (n : Nat) : ∀ (c : CS) (j : Nat), ∃ l, (fixN S c j n).tb = c.tb ++ l := by
  induction n with
  | zero => intro c j; exact ⟨[], by simp [fixN]⟩
  | succ n ih =>
    intro c j
    obtain ⟨l, hl⟩ := ih (fix1 S c j) (j + 1)
    obtain ⟨m, hm⟩ := tbf_copy1 S c (c.tw.getD j 0)
    refine ⟨m ++ l, ?_⟩
    simp only [fixN]
    rw [hl, ← List.append_assoc, ← hm]
    rfl
theorem tbf_all (S : HS) (l : List Int) : ∀ c : CS, ∃ m, (copyAll S c l).1.tb = c.tb ++ m := by
  induction l with
  | nil => intro c; exact ⟨[], by simp [copyAll]⟩
  | cons w l ih =>
    intro c
    obtain ⟨a, ha⟩ := ih (copy1 S c w).1
    obtain ⟨b, hb⟩ := tbf_copy1 S c w
    refine ⟨b ++ a, ?_⟩
    simp only [copyAll]
    rw [ha, hb, List.append_assoc]
theorem tbf_scan (S : HS) (f : Nat) : ∀ (c : CS) (j : Nat), ∃ m, (scan S f c j).tb = c.tb ++ m := by
  induction f with
  | zero => intro c j; exact ⟨[], by simp [scan]⟩
  | succ f ih =>
    intro c j
    simp only [scan]
    split
    · obtain ⟨a, ha⟩ := ih (fixN S c (j + 1) (tagH (c.tw.getD j 0)).toNat) (j + sizeAt c.tw j)
      obtain ⟨b, hb⟩ := tbf_fixN S (tagH (c.tw.getD j 0)).toNat c (j + 1)
      exact ⟨b ++ a, by rw [ha, hb, List.append_assoc]⟩
    · exact ⟨[], by simp⟩

/-- The second run's state d beside the first's, c: T is what the first comes to. -/
structure Sim (T : HS) (c d : CS) : Prop where
  tw : d.tw = T.ws.take c.tw.length
  tb : d.tb = c.tb
  gone : d.gone.length = T.ws.length
  at_ : ∀ k, d.at_ k = if c.tb[k]? = some true then 4 * (k : Int) else 0

section
variable {S T : HS} {c d e : CS} {P : Nat}
/-- What the first run comes to. -/
structure Ends (S T : HS) (e : CS) : Prop where
  ws : T.ws = e.tw
  bs : T.bs = e.tb
  inv : GcInv S e e.tw.length
  wf : WfH S.ws S.bs
  ptr : PtrOk S.ws S.bs
  le : S.ws.length ≤ 1048576

theorem Ends.len (h : Ends S T e) (hi : GcInv S c P) (hf : Fore c e) : c.tw.length ≤ T.ws.length := by
  obtain ⟨l, hl⟩ := hf.tb
  have h1 := hi.wf.len
  have h2 := h.inv.wf.len
  have h3 : e.tb.length = c.tb.length + l.length := by rw [hl, List.length_append]
  rw [h.ws]; omega
theorem Ends.begin (h : Ends S T e) (hf : Fore c e) {j : Nat} (hj : c.tb[j]? = some true) : T.bs[j]? = some true := by
  obtain ⟨l, hl⟩ := hf.tb
  rw [h.bs, hl, List.getElem?_append_left (List.getElem?_eq_some_iff.1 hj).1]; exact hj
/-- An object's copy at its last. -/
theorem Ends.copied (h : Ends S T e) (hf : Fore c e) {k j : Nat} (hk : c.at_ k = 4 * (j : Int)) (hj : j ≠ 0) : Copied S e e.tw.length k j := by
  have h1 : c.at_ k ≠ 0 := by omega
  have h2 := hf.later k h1
  obtain ⟨j2, e2, h3⟩ := h.inv.tgt k (by rw [h2]; exact h1)
  obtain rfl : j2 = j := by omega
  exact h3
theorem Ends.head (h : Ends S T e) (hi : GcInv S c P) (hf : Fore c e) {j : Nat} (hj : c.tb[j]? = some true) : T.ws.getD j 0 = c.tw.getD j 0 := by
  obtain ⟨k, hk⟩ := hi.onto j hj
  have hj0 : j ≠ 0 := by rintro rfl; rw [hi.wf.zero.1] at hj; cases hj
  have h1 := h.copied hf hk hj0
  obtain ⟨j2, e2, h2⟩ := hi.tgt k (by omega)
  obtain rfl : j2 = j := by omega
  rw [h.ws, h1.head, h2.head]

theorem Sim.len (hs : Sim T c d) (hl : c.tw.length ≤ T.ws.length) : d.tw.length = c.tw.length := by rw [hs.tw, List.length_take]; omega

/-- A word is copied, by both. -/
theorem Sim.step1 (hs : Sim T c d) (h : Ends S T e) (hi : GcInv S c P) {x : Int} (x0 : 0 ≤ x) (x1 : x < 18446744073709551616) (hf : Fore (copy1 S c x).1 e) (hx : S.is x = true ∨ x % 4 ≠ 0 ∨ x = 0) :
    (copy1 T d (copy1 S c x).2).2 = (copy1 S c x).2 ∧ Sim T (copy1 S c x).1 (copy1 T d (copy1 S c x).2).1 := by
  have hfc : Fore c e := (Fore.step1 hi h.wf h.le x0 x1).trans hf
  have hlc := h.len hi hfc
  by_cases hx1 : S.is x = true
  · have hik := is_iff.1 hx1
    have hkl : (x / 4).toNat < S.ws.length := by have := (List.getElem?_eq_some_iff.1 hik.2).1; have := h.wf.len; omega
    by_cases hg : c.gone.getD (x / 4).toNat 0 = 0
    · have e1 : copy1 S c x = (c.put S (x / 4).toNat, 4 * (c.tw.length : Int)) := by unfold Go.Proofs.Ythkodbmijgehbaa.copy1; rw [if_pos hx1, if_pos hg]
      rw [e1] at hf ⊢
      simp only at hf ⊢
      obtain ⟨g1, g2, g3, g4⟩ := hi.put h.wf hik.2 hg
      have hat := put_at (S := S) (c := c) (k := (x / 4).toNat) hi.gone hkl (x / 4).toNat
      rw [if_pos rfl] at hat
      have hpos := hi.wf.pos
      have hn0 : c.tw.length ≠ 0 := by omega
      have hcp := h.copied hf hat hn0
      have hbn : (c.put S (x / 4).toNat).tb[c.tw.length]? = some true := by
        show (c.tb ++ laid (sizeAt S.ws (x / 4).toNat))[c.tw.length]? = some true
        exact (laid_at _ _ _).2 (.inr hi.wf.len.symm)
      have hTn := h.begin hf hbn
      have hsz : sizeAt T.ws c.tw.length = sizeAt S.ws (x / 4).toNat := by unfold sizeAt; rw [h.ws, hcp.head]
      have hfit := h.wf.fits _ hik.2
      have hlp := h.len g1 hf
      have hpl : (c.put S (x / 4).toNat).tw.length = c.tw.length + sizeAt S.ws (x / 4).toNat := by
        show (c.tw ++ (S.ws.drop (x / 4).toNat).take (sizeAt S.ws (x / 4).toNat)).length = _
        rw [List.length_append, List.length_take, List.length_drop]; unfold sizeAt; omega
      have hdl := hs.len hlc
      have hTis : T.is (4 * (c.tw.length : Int)) = true := is_iff.2 ⟨by omega, by rw [show (4 * (c.tw.length : Int) / 4).toNat = c.tw.length by omega]; exact hTn⟩
      have hd0 : d.gone.getD c.tw.length 0 = 0 := by
        have := hs.at_ c.tw.length
        unfold CS.at_ at this
        rw [this, if_neg]
        rw [List.getElem?_eq_none (by have := hi.wf.len; omega)]; simp
      have e2 : copy1 T d (4 * (c.tw.length : Int)) = (d.put T c.tw.length, 4 * (d.tw.length : Int)) := by
        unfold Go.Proofs.Ythkodbmijgehbaa.copy1
        rw [if_pos hTis, show (4 * (c.tw.length : Int) / 4).toNat = c.tw.length by omega, if_pos hd0]
      rw [e2]
      refine ⟨by simp only; rw [hdl], ?_, ?_, ?_, ?_⟩
      · show d.tw ++ (T.ws.drop c.tw.length).take (sizeAt T.ws c.tw.length) = _
        rw [hsz, hs.tw, hpl, List.take_add]
      · show d.tb ++ laid (sizeAt T.ws c.tw.length) = c.tb ++ laid (sizeAt S.ws (x / 4).toNat)
        rw [hsz, hs.tb]
      · show (d.gone.set c.tw.length _).length = _
        rw [List.length_set]; exact hs.gone
      · intro q
        rw [put_at hs.gone (by have := (List.getElem?_eq_some_iff.1 hTn).1; have := h.inv.wf.len; rw [h.bs] at *; rw [h.ws]; omega) q]
        show (if q = c.tw.length then 4 * (d.tw.length : Int) else d.at_ q) = if (c.tb ++ laid (sizeAt S.ws (x / 4).toNat))[q]? = some true then 4 * (q : Int) else 0
        by_cases hq : q = c.tw.length
        · rw [if_pos hq, if_pos ((laid_at _ _ _).2 (.inr (by rw [hq]; exact hi.wf.len.symm))), hdl, hq]
        · rw [if_neg hq, hs.at_ q]
          by_cases hb : c.tb[q]? = some true
          · rw [if_pos hb, if_pos ((laid_at _ _ _).2 (.inl hb))]
          · rw [if_neg hb, if_neg]
            intro hc
            rcases (laid_at _ _ _).1 hc with a | a
            · exact hb a
            · exact hq (by rw [a]; exact hi.wf.len)
    · have e1 : copy1 S c x = (c, c.at_ (x / 4).toNat) := by unfold Go.Proofs.Ythkodbmijgehbaa.copy1; rw [if_pos hx1, if_neg hg]; rfl
      rw [e1] at hf ⊢
      simp only at hf ⊢
      obtain ⟨j, hj, hcop⟩ := hi.tgt _ hg
      have hj0 : j ≠ 0 := by rintro rfl; have := hcop.now; rw [hi.wf.zero.1] at this; cases this
      have hTn := h.begin hf hcop.now
      rw [hj]
      have hTis : T.is (4 * (j : Int)) = true := is_iff.2 ⟨by omega, by rw [show (4 * (j : Int) / 4).toNat = j by omega]; exact hTn⟩
      have hd : d.gone.getD j 0 = 4 * (j : Int) := by
        have := hs.at_ j
        rw [if_pos hcop.now] at this
        exact this
      have e2 : copy1 T d (4 * (j : Int)) = (d, 4 * (j : Int)) := by
        unfold Go.Proofs.Ythkodbmijgehbaa.copy1
        rw [if_pos hTis, show (4 * (j : Int) / 4).toNat = j by omega, hd, if_neg (by omega)]
      rw [e2]
      exact ⟨rfl, hs⟩
  · have e1 : copy1 S c x = (c, x) := by unfold Go.Proofs.Ythkodbmijgehbaa.copy1; rw [if_neg hx1]
    rw [e1]
    simp only
    have hno : ¬ T.is x = true := by
      intro hT
      have h1 := is_iff.1 hT
      rcases hx with a | a | a
      · exact hx1 a
      · exact a h1.1
      · subst a
        have := h1.2
        rw [h.bs] at this
        have h0 := h.inv.wf.zero.1
        simp at this
        rw [h0] at this; simp at this
    have e2 : copy1 T d x = (d, x) := by unfold Go.Proofs.Ythkodbmijgehbaa.copy1; rw [if_neg hno]
    rw [e2]
    exact ⟨rfl, hs⟩

theorem mayB_word {bs : List Bool} {x : Int} (h : mayB bs x = true) : isB bs x = true ∨ x % 4 ≠ 0 ∨ x = 0 := by
  unfold mayB at h
  simp only [Bool.or_eq_true, decide_eq_true_eq] at h
  rcases h with (a | a) | a
  · right; left; omega
  · right; left; omega
  · exact .inl a
theorem set_take {l : List Int} {n q : Nat} {v : Int} (hq : q < l.length) (hv : l.getD q 0 = v) : (l.take n).set q v = l.take n := by
  apply List.ext_getElem?
  intro k
  rcases Nat.lt_or_ge q (l.take n).length with a | a
  · by_cases hk : k = q
    · subst hk
      rw [List.getElem?_set_self a, List.getElem?_take]
      rw [List.length_take] at a
      rw [if_pos (by omega), getD_get hq, hv]
    · rw [List.getElem?_set_ne (fun e => hk e.symm)]
  · rw [List.set_eq_of_length_le a]

/-- A tagged field of an object of the new half, by both. -/
theorem Sim.field (hs : Sim T c d) (h : Ends S T e) (hi : GcInv S c P) {j i : Nat} (hj : c.tb[j]? = some true) (hit : i < tagAt c.tw j) (hP : P = j + 1 + i) (hf : Fore (fix1 S c P) e) : Sim T (fix1 S c P) (fix1 T d P) := by
  have hjf := hi.wf.fits j hj
  have hPl : P < c.tw.length := by unfold tagAt at hit; omega
  have hxu := hi.wf.u _ (List.mem_of_getElem? (getD_get hPl))
  obtain ⟨g1, g2, g3, g4, g5, g6, g7, g8⟩ := hi.copy1 h.wf h.le (c.tw.getD P 0) hxu.1 hxu.2
  have hf1 : Fore (copy1 S c (c.tw.getD P 0)).1 e := ⟨hf.later, hf.tb⟩
  have hfc : Fore c e := (Fore.step1 hi h.wf h.le hxu.1 hxu.2).trans hf1
  have hlc := h.len hi hfc
  obtain ⟨k, hk⟩ := hi.onto j hj
  have hj0 : j ≠ 0 := by rintro rfl; rw [hi.wf.zero.1] at hj; cases hj
  obtain ⟨j2, e2, hcop⟩ := hi.tgt k (by omega)
  obtain rfl : j2 = j := by omega
  have hend := h.copied hfc hk hj0
  have hit2 : i < tagAt S.ws k := by unfold tagAt at *; rw [← hcop.head]; exact hit
  have hx : c.tw.getD P 0 = S.ws.getD (k + 1 + i) 0 := by rw [hP]; exact hcop.todo i hit2 (by omega)
  have hptr := h.ptr k i hcop.was (by unfold tagAt at hit2; exact hit2)
  have hfin : T.ws.getD P 0 = (copy1 S c (c.tw.getD P 0)).2 := by
    rw [h.ws, hP, (hend.done i hit2 (by have := h.inv.wf.fits j2 hend.now; have := hend.head; unfold tagAt at hit2; rw [← hend.head] at hit2; omega)).2, ← hx, ← hP, g5]
    exact (hf1.later.res g6).2
  have hdP : d.tw.getD P 0 = (copy1 S c (c.tw.getD P 0)).2 := by
    rw [hs.tw, ← hfin, List.getD_eq_getElem?_getD, List.getElem?_take, if_pos hPl, ← List.getD_eq_getElem?_getD]
  obtain ⟨s1, s2⟩ := hs.step1 h hi hxu.1 hxu.2 hf1 (by rw [hx]; exact mayB_word hptr)
  unfold fix1
  rw [hdP]
  generalize Go.Proofs.Ythkodbmijgehbaa.copy1 S c (c.tw.getD P 0) = r at *
  obtain ⟨c1, v⟩ := r
  simp only at *
  generalize Go.Proofs.Ythkodbmijgehbaa.copy1 T d v = r2 at *
  obtain ⟨d1, v2⟩ := r2
  simp only at *
  subst s1
  refine ⟨?_, s2.tb, s2.gone, s2.at_⟩
  simp only [List.length_set]
  rw [s2.tw]
  exact set_take (by omega) hfin

theorem Sim.fields (h : Ends S T e) {j : Nat} (n : Nat) : ∀ {c d : CS} {i : Nat}, Sim T c d → GcInv S c (j + 1 + i) → c.tb[j]? = some true → i + n ≤ tagAt c.tw j → Fore (fixN S c (j + 1 + i) n) e → Sim T (fixN S c (j + 1 + i) n) (fixN T d (j + 1 + i) n) := by
  induction n with
  | zero => intro c d i hs _ _ _ _; exact hs
  | succ n ih =>
    intro c d i hs hi hj hn hf
    obtain ⟨g1, g2, g3, g4⟩ := hi.oneField h.wf h.le hj (i := i) (by omega) rfl
    have gj := g3 j (Nat.le_refl _)
    have hn2 : i + 1 + n ≤ tagAt (fix1 S c (j + 1 + i)).tw j := by unfold tagAt at *; rw [gj]; omega
    have hm := GcInv.manyFields h.wf h.le n (c := fix1 S c (j + 1 + i)) (i := i + 1) g1 g4 hn2
    have hf2 : Fore (fix1 S c (j + 1 + i)) e := Fore.trans ⟨hm.2.1, tbf_fixN S n _ _⟩ hf
    have h1 := hs.field h hi hj (i := i) (by omega) rfl hf2
    simp only [fixN]
    exact ih (i := i + 1) h1 g1 g4 hn2 hf

theorem Sim.all (h : Ends S T e) (l : List Int) : ∀ {c d : CS}, Sim T c d → GcInv S c P → (∀ x ∈ l, 0 ≤ x ∧ x < 18446744073709551616) → (∀ x ∈ l, S.is x = true ∨ x % 4 ≠ 0 ∨ x = 0) → Fore (copyAll S c l).1 e →
    (copyAll T d (copyAll S c l).2).2 = (copyAll S c l).2 ∧ Sim T (copyAll S c l).1 (copyAll T d (copyAll S c l).2).1 := by
  induction l with
  | nil => intro c d hs _ _ _ _; exact ⟨rfl, hs⟩
  | cons w l ih =>
    intro c d hs hi hu hx hf
    have hw := hu w (by simp)
    have g1 := (hi.copy1 h.wf h.le w hw.1 hw.2).1
    have hm := GcInv.copyAll h.wf h.le l g1 (fun x hx => hu x (by simp [hx]))
    have hf1 : Fore (copy1 S c w).1 e := Fore.trans ⟨hm.2.1, tbf_all S l _⟩ hf
    obtain ⟨s1, s2⟩ := hs.step1 h hi hw.1 hw.2 hf1 (hx w (by simp))
    obtain ⟨t1, t2⟩ := ih s2 g1 (fun x hx => hu x (by simp [hx])) (fun x h => hx x (by simp [h])) hf
    simp only [copyAll]
    rw [s1, t1]
    exact ⟨rfl, t2⟩

theorem Sim.scanned (h : Ends S T e) (f : Nat) : ∀ {c d : CS} {j : Nat}, Sim T c d → GcInv S c j → (j = c.tw.length ∨ c.tb[j]? = some true) → S.ws.length ≤ f + j → Fore (scan S f c j) e → Sim T (scan S f c j) (scan T f d j) := by
  induction f with
  | zero => intro c d j hs _ _ _ _; exact hs
  | succ f ih =>
    intro c d j hs hi hb hfu hf
    simp only [scan] at hf ⊢
    by_cases hlt : j < c.tw.length
    · rw [if_pos hlt] at hf ⊢
      have hj := hb.resolve_left (by omega)
      obtain ⟨g1, g2, g3⟩ := hi.object h.wf h.le hj
      have hm := GcInv.scanned h.wf h.le f g1 g3 (by unfold sizeAt; omega)
      have hf1 : Fore (fixN S c (j + 1) (tagAt c.tw j)) e := Fore.trans ⟨hm.2, tbf_scan S f _ _⟩ hf
      have hfc : Fore c e := Fore.trans ⟨g2, tbf_fixN S _ _ _⟩ hf1
      have hlc := h.len hi hfc
      have hdl := hs.len hlc
      have hhd : d.tw.getD j 0 = c.tw.getD j 0 := by
        rw [hs.tw, List.getD_eq_getElem?_getD, List.getElem?_take, if_pos hlt, ← List.getD_eq_getElem?_getD]
        exact h.head hi hfc hj
      rw [if_pos (by rw [hdl]; exact hlt)]
      have hsz : sizeAt d.tw j = sizeAt c.tw j := by unfold sizeAt; rw [hhd]
      rw [hsz, hhd]
      have hfits := hi.wf.fits j hj
      have h1 : GcInv S c (j + 1 + 0) := by
        refine hi.move (by omega) (by omega) ?_
        intro q i hq hi' hle
        rcases Nat.lt_or_ge q j with a | a
        · have := hi.wf.apart q j hq hj a; unfold tagAt at hi'; omega
        · omega
      have h2 := Sim.fields h (tagAt c.tw j) (i := 0) hs h1 hj (by omega) hf1
      exact ih h2 g1 g3 (by unfold sizeAt; omega) hf
    · rw [if_neg hlt] at hf ⊢
      have hlc := h.len hi hf
      rw [if_neg (by rw [hs.len hlc]; exact hlt)]
      exact hs

theorem Sim.zero (h : Ends S T e) : Sim T (CS.zero S) (CS.zero T) := by
  have hz := h.inv.wf.zero
  have hat : ∀ k, (CS.zero T).at_ k = 0 := by
    intro k
    unfold CS.at_ CS.zero
    simp only [List.getD_eq_getElem?_getD, List.getElem?_replicate]
    split <;> rfl
  refine ⟨?_, rfl, by unfold CS.zero; simp, ?_⟩
  · show [0] = T.ws.take 1
    rw [h.ws]
    cases hw : e.tw with
    | nil => have := hz.2; rw [hw] at this; cases this
    | cons y l =>
      have := hz.2
      rw [hw] at this
      simp at this
      rw [this]; rfl
  · intro k
    rw [hat k]
    show (0 : Int) = if ([false] : List Bool)[k]? = some true then _ else 0
    rw [if_neg]
    cases k with
    | zero => simp
    | succ k => simp
end

/-- Whatever fuel is enough: the same. -/
theorem scan_fuel {S : HS} (hw : WfH S.ws S.bs) (hs : S.ws.length ≤ 1048576) (f : Nat) : ∀ (g : Nat) {c : CS} {j : Nat}, GcInv S c j → (j = c.tw.length ∨ c.tb[j]? = some true) → S.ws.length ≤ f + j → S.ws.length ≤ g + j → scan S f c j = scan S g c j := by
  induction f with
  | zero =>
    intro g c j h hb hf hg
    have hl := h.len hw
    have : j = c.tw.length := by have := h.front; omega
    cases g with
    | zero => rfl
    | succ g => simp only [scan]; rw [if_neg (by omega)]
  | succ f ih =>
    intro g c j h hb hf hg
    by_cases hlt : j < c.tw.length
    · cases g with
      | zero => have hl := h.len hw; omega
      | succ g =>
        have hj := hb.resolve_left (by omega)
        obtain ⟨g1, g2, g3⟩ := h.object hw hs hj
        simp only [scan]
        rw [if_pos hlt, if_pos hlt]
        exact ih g g1 g3 (by unfold sizeAt; omega) (by unfold sizeAt; omega)
    · simp only [scan]
      rw [if_neg hlt]
      cases g with
      | zero => rfl
      | succ g => simp only [scan]; rw [if_neg hlt]

/-- A collection of what a collection has left, with the roots that it gave, turns nothing. -/
theorem collect_twice {S : HS} (hw : WfH S.ws S.bs) (hp : PtrOk S.ws S.bs) (hs : S.ws.length ≤ 1048576) {l : List Int} (hu : ∀ x ∈ l, 0 ≤ x ∧ x < 18446744073709551616) (hx : ∀ x ∈ l, S.is x = true ∨ x % 4 ≠ 0 ∨ x = 0) :
    ((S.collect l).collect (S.moved l)).ws = (S.collect l).ws ∧ (S.collect l).moved (S.moved l) = S.moved l := by
  have hend := gc_end hw hs hu
  have h : Ends S (S.collect l) (gcEnd S l) := ⟨rfl, rfl, hend.inv, hw, hp, hs⟩
  have hok := gc_ok hw hp hs hu
  have hlen : (S.collect l).ws.length ≤ 1048576 := by omega
  obtain ⟨h1, h2, h3, h4, h5⟩ := GcInv.copyAll hw hs l (GcInv.zero (S := S) 1 (Nat.le_refl _)) hu
  have hb : 1 = (copyAll S (CS.zero S) l).1.tw.length ∨ (copyAll S (CS.zero S) l).1.tb[1]? = some true := by
    rcases h1.wf.first with e | e
    · left; omega
    · right; exact e
  have hsc := GcInv.scanned hw hs S.ws.length h1 hb (by omega)
  have hf1 : Fore (copyAll S (CS.zero S) l).1 (gcEnd S l) := ⟨hsc.2, tbf_scan S _ _ _⟩
  obtain ⟨s1, s2⟩ := Sim.all (P := 1) h l (Sim.zero h) (GcInv.zero (S := S) 1 (Nat.le_refl _)) hu hx hf1
  have s3 := Sim.scanned h S.ws.length s2 h1 hb (by omega) (Fore.refl _)
  have hmu : ∀ y ∈ S.moved l, 0 ≤ y ∧ y < 18446744073709551616 := hend.u
  obtain ⟨k1, k2, k3, k4, k5⟩ := GcInv.copyAll hok.1 hlen (S.moved l) (GcInv.zero (S := S.collect l) 1 (Nat.le_refl _)) hmu
  have kb : 1 = (copyAll (S.collect l) (CS.zero (S.collect l)) (S.moved l)).1.tw.length ∨ (copyAll (S.collect l) (CS.zero (S.collect l)) (S.moved l)).1.tb[1]? = some true := by
    rcases k1.wf.first with e | e
    · left; omega
    · right; exact e
  have hfu := scan_fuel hok.1 hlen (S.collect l).ws.length S.ws.length k1 kb (by omega) (by omega)
  refine ⟨?_, s1⟩
  show (scan (S.collect l) (S.collect l).ws.length (copyAll (S.collect l) (CS.zero (S.collect l)) (S.moved l)).1 1).tw = _
  rw [hfu]
  have s4 := s3.tw
  show (scan (S.collect l) S.ws.length (copyAll (S.collect l) (CS.zero (S.collect l)) (S.moved l)).1 1).tw = _
  refine s4.trans ?_
  show ((S.collect l).ws).take (gcEnd S l).tw.length = _
  exact List.take_of_length_le (Nat.le_refl _)
end Go.Proofs.Ythkodbmijgehbaa
