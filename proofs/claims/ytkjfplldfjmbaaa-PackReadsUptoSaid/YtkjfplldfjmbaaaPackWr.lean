/- pack.Write. -/
import Derived.Test.YtkjfplldfjmbaaaPackRt
namespace Go.Proofs.Ytkjfplldfjmbaaa
open Go.RowKit
theorem okP_told {p : Pr} {n q : Int} (hn : n ≤ 20000) (h : okP p n = some q) : (sizeB p.args = true ∧ sizeB p.free = true ∧ p.code.all rightI = true ∧ RightDs p.consts) ∧ q ≤ 20000 := by
  unfold okP at h
  split at h
  · rename_i hc
    rw [Bool.and_eq_true, Bool.and_eq_true] at hc
    obtain ⟨h1, _, _, h4⟩ := (okDs_iff p.consts 100 n q (by decide) hn).1 h
    exact ⟨⟨hc.1, hc.2.1, hc.2.2, h1⟩, h4⟩
  · cases h
theorem okPs_mem : ∀ {l : List Pr} {n q : Int}, n ≤ 20000 → okPs l n = some q → ∀ p ∈ l, sizeB p.args = true ∧ sizeB p.free = true ∧ p.code.all rightI = true ∧ RightDs p.consts
  | [], _, _, _, _, p, hp => by simp at hp
  | e :: l, n, q, hn, h, p, hp => by
    have h' : (match okP e n with | none => none | some q => okPs l q) = some q := h
    cases he : okP e n with
    | none => rw [he] at h'; cases h'
    | some r =>
      rw [he] at h'
      obtain ⟨h1, h2⟩ := okP_told hn he
      rcases List.mem_cons.1 hp with rfl | hp
      · exact h1
      · exact okPs_mem h2 h' p hp
theorem size_bd {n : Int} (h : sizeB n = true) : 0 ≤ n ∧ n ≤ 1099511627776 := by unfold sizeB at h; exact of_decide_eq_true h
theorem whole_bd {n : Int} (h : wholeB n = true) : -549755813888 ≤ n ∧ n ≤ 549755813888 := by unfold wholeB at h; exact of_decide_eq_true h
theorem rightI_bd {t : Int × Int × Int} (h : rightI t = true) : (0 ≤ t.1 ∧ t.1 ≤ 1099511627776) ∧ (-549755813888 ≤ t.2.1 ∧ t.2.1 ≤ 549755813888) ∧ (-549755813888 ≤ t.2.2 ∧ t.2.2 ≤ 549755813888) := by
  unfold rightI at h
  rw [Bool.and_eq_true, Bool.and_eq_true] at h
  exact ⟨size_bd h.1, whole_bd h.2.1, whole_bd h.2.2⟩
theorem codeB_app (l m : List (Int × Int × Int)) : codeB (l ++ m) = codeB l ++ codeB m := by unfold codeB; simp
theorem namesB_app (l m : List ByteArray) : namesB (l ++ m) = namesB l ++ namesB m := by unfold namesB; simp
theorem protosB_app (l m : List Pr) : protosB (l ++ m) = protosB l ++ protosB m := by unfold protosB; simp
theorem codeB_next {l : List (Int × Int × Int)} {j : Nat} {t : Int × Int × Int} (h : l[j]? = some t) : codeB (l.take (j + 1)) = codeB (l.take j) ++ (numB t.1.toNat ++ zigB t.2.1 ++ zigB t.2.2) := by
  rw [List.take_add_one, h, codeB_app]; unfold codeB; simp
theorem namesB_next {l : List ByteArray} {j : Nat} {t : ByteArray} (h : l[j]? = some t) : namesB (l.take (j + 1)) = namesB (l.take j) ++ textB t := by
  rw [List.take_add_one, h, namesB_app]; unfold namesB; simp
theorem protosB_next {l : List Pr} {j : Nat} {t : Pr} (h : l[j]? = some t) : protosB (l.take (j + 1)) = protosB (l.take j) ++ protoB t := by
  rw [List.take_add_one, h, protosB_app]; unfold protosB; simp
theorem codeB_len {l : List (Int × Int × Int)} (h : l.all rightI = true) : (codeB l).length ≤ 27 * l.length := by
  induction l with
  | nil => simp [codeB]
  | cons t l ih =>
    rw [List.all_cons, Bool.and_eq_true] at h
    have h1 := ih h.2
    obtain ⟨b1, b2, b3⟩ := rightI_bd h.1
    have e1 := numB_ten (n := t.1.toNat) (by omega)
    have e2 := zigB_len b2
    have e3 := zigB_len b3
    unfold codeB at h1 ⊢
    rw [List.flatMap_cons, List.length_append, List.length_append, List.length_append, List.length_cons]
    omega
def namesZ (l : List ByteArray) : Nat := (l.map fun s => 1 + s.size).sum
theorem namesB_len {l : List ByteArray} (h : namesZ l ≤ 1048576) : (namesB l).length ≤ 10 * namesZ l := by
  induction l with
  | nil => simp [namesB]
  | cons s l ih =>
    unfold namesZ at h ih ⊢
    rw [List.map_cons, List.sum_cons] at h ⊢
    have h1 := ih (by omega)
    have h2 := textB_len s (by omega)
    unfold namesB at h1 ⊢
    rw [List.flatMap_cons, List.length_append]
    omega
theorem namesZ_app (l m : List ByteArray) : namesZ (l ++ m) = namesZ l + namesZ m := by unfold namesZ; simp
theorem namesZ_take (l : List ByteArray) (j : Nat) : namesZ (l.take j) ≤ namesZ l := by
  have := namesZ_app (l.take j) (l.drop j)
  rw [List.take_append_drop] at this
  omega
theorem namesZ_mem {l : List ByteArray} {s : ByteArray} (h : s ∈ l) : s.size < namesZ l := by
  induction l with
  | nil => simp at h
  | cons e l ih =>
    unfold namesZ at ih ⊢
    rw [List.map_cons, List.sum_cons]
    rcases List.mem_cons.1 h with rfl | h
    · omega
    · have := ih h; omega
theorem all_take {l : List (Int × Int × Int)} (j : Nat) (h : l.all rightI = true) : (l.take j).all rightI = true := by
  rw [List.all_eq_true] at h ⊢
  exact fun x hx => h x (List.mem_of_mem_take hx)
theorem prSizes_app (l m : List Pr) : prSizes (l ++ m) = prSizes l + prSizes m := by unfold prSizes; simp
theorem prSizes_take {l : List Pr} {j : Nat} {p : Pr} (h : l[j]? = some p) : prSizes (l.take j) + p.size ≤ prSizes l := by
  have h1 := prSizes_app (l.take (j + 1)) (l.drop (j + 1))
  rw [List.take_append_drop, List.take_add_one, h] at h1
  have h2 := prSizes_app (l.take j) [p]
  have h3 : prSizes [p] = p.size := by simp [prSizes]
  simp only [Option.toList_some] at h1
  omega
theorem prSizes_len (l : List Pr) : l.length ≤ prSizes l := by
  induction l with
  | nil => simp
  | cons p l ih =>
    unfold prSizes at ih ⊢
    rw [List.map_cons, List.sum_cons, List.length_cons]
    have : 1 ≤ p.size := by unfold Pr.size; omega
    omega
theorem namesZ_len (l : List ByteArray) : l.length ≤ namesZ l := by
  induction l with
  | nil => simp
  | cons p l ih =>
    unfold namesZ at ih ⊢
    rw [List.map_cons, List.sum_cons, List.length_cons]
    omega
theorem run_convert_lit {P : Program} (w : World) (t e : TypeId) (C : Array Value) (n c : Nat) (ht : P.underlying t = some (.slice e)) (he : P.underlying e = some (.int .u8)) :
    (convert t t (.slice (some ⟨w.heap.size, 0, none⟩) n c)).run P (w.alloc (.cells C e)) = .ok (.slice (some ⟨w.heap.size, 0, none⟩) n c) (w.alloc (.cells C e (C.size, C.size + 1))) := by
  have hsh : (w.alloc (.cells C e)).shape? w.heap.size = some (e, C.size) := by
    have : (w.alloc (.cells C e)).heap[w.heap.size]? = some (.cells C e) := by
      show (w.heap.push (.cells C e))[w.heap.size]? = _
      simp
    unfold World.shape?
    rw [this]
  have hfr : (w.alloc (.cells C e)).freeze ⟨w.heap.size, C.size, none⟩ 1 = w.alloc (.cells C e (C.size, C.size + 1)) := by
    have hm : ∀ (a : Array Obj) (x : Obj) (f : Obj → Obj), (a.push x).modify a.size f = a.push (f x) := by
      intro a x f
      apply Array.ext
      · simp
      · intro i h1 h2
        simp only [Array.getElem_modify, Array.getElem_push]
        by_cases h : a.size = i
        · subst h
          simp
        · have hi : i < a.size := by simp at h1; omega
          simp [h, hi]
    unfold World.freeze
    rw [if_neg (by decide)]
    show ({ w.alloc (.cells C e) with heap := (w.heap.push (.cells C e)).modify w.heap.size _ } : World) = _
    rw [hm]
    rfl
  simp [convert, run_underlying ht, run_underlying he, markStringish, hsh]
  exact hfr
theorem protoB_len {R : HP} {p : Pr} (h : sizeB p.args = true ∧ sizeB p.free = true ∧ p.code.all rightI = true ∧ RightDs p.consts) (hd : ∃ ai, DKs R p.consts ai 0) (hz : p.size ≤ 1048576) : (protoB p).length ≤ 60 * p.size := by
  obtain ⟨ai, hd⟩ := hd
  have hpz : p.size = 1 + p.name.size + p.code.length + Dm.sizes p.consts + namesZ p.names := rfl
  have b1 := size_bd h.1
  have b2 := size_bd h.2.1
  have e0 := Dm.len_le p.consts
  have e8 := namesZ_len p.names
  have e1 := textB_len p.name (by omega)
  have e2 := numB_ten (n := p.args.toNat) (by omega)
  have e3 := numB_ten (n := p.free.toNat) (by omega)
  have e4 : (bitB p.rest).length = 1 := rfl
  have e5 := numB_nine p.code.length (by omega)
  have e6 := numB_nine p.consts.length (by omega)
  have e7 := numB_nine p.names.length (by omega)
  have f1 := codeB_len h.2.2.1
  have f2 := constBs_len p.consts hd h.2.2.2 (by omega)
  have f3 := namesB_len (l := p.names) (by omega)
  unfold protoB
  simp only [List.length_append]
  omega
theorem protosB_len {R : HP} : ∀ (l : List Pr), (∀ p ∈ l, sizeB p.args = true ∧ sizeB p.free = true ∧ p.code.all rightI = true ∧ RightDs p.consts) → (∀ p ∈ l, ∃ ai, DKs R p.consts ai 0) → prSizes l ≤ 1048576 → (protosB l).length ≤ 60 * prSizes l
  | [], _, _, _ => by simp [protosB]
  | p :: l, h, hd, hz => by
    have e1 : prSizes (p :: l) = p.size + prSizes l := by simp [prSizes]
    have e2 : protosB (p :: l) = protoB p ++ protosB l := by simp [protosB]
    have h1 := protoB_len (h p (by simp)) (hd p (by simp)) (by omega)
    have h2 := protosB_len l (fun q hq => h q (by simp [hq])) (fun q hq => hd q (by simp [hq])) (by omega)
    rw [e2, List.length_append]
    omega
theorem PrKs.dks {R : HP} {l : List Pr} {ao : Option Addr} (h : PrKs R l ao) : ∀ p ∈ l, ∃ ai, DKs R p.consts ai 0 := by
  intro p hp
  obtain ⟨i, hi⟩ := List.mem_iff_getElem?.1 hp
  obtain ⟨_, _, _, _, _, ac, cc, ai, ci, an, cn, _, _, _, h2, _⟩ := h i p hi
  exact ⟨ai, h2⟩
def WiRel (W : World) (R : HP) (ps : List Pr) (zs : List Int) (v i : Value) (wr : World) : Prop :=
  ∃ j : Nat, j ≤ ps.length ∧ i = .int .i64 j ∧ (protosB (ps.take j)).length ≤ 60 * prSizes (ps.take j) ∧ sat wr (own 5 1 v (zs ++ protosB (ps.take j)).length ((zs ++ protosB (ps.take j)).map bv) * R) ∧ Below 0 W wr
def WcRel (W : World) (G : HP) (l : List (Int × Int × Int)) (zs : List Int) (v i : Value) (wr : World) : Prop :=
  ∃ j : Nat, j ≤ l.length ∧ i = .int .i64 j ∧ sat wr (own 5 1 v (zs ++ codeB (l.take j)).length ((zs ++ codeB (l.take j)).map bv) * G) ∧ Below 0 W wr
def WdRel (W : World) (G : HP) (l : List Dm) (zs : List Int) (v i : Value) (wr : World) : Prop :=
  ∃ j : Nat, j ≤ l.length ∧ i = .int .i64 j ∧ sat wr (own 5 1 v (zs ++ constBs (l.take j)).length ((zs ++ constBs (l.take j)).map bv) * G) ∧ Below 0 W wr
def WnRel (W : World) (G : HP) (l : List ByteArray) (zs : List Int) (v i : Value) (wr : World) : Prop :=
  ∃ j : Nat, j ≤ l.length ∧ i = .int .i64 j ∧ sat wr (own 5 1 v (zs ++ namesB (l.take j)).length ((zs ++ namesB (l.take j)).map bv) * G) ∧ Below 0 W wr
/-- What Write leaves. -/
def WritePost (R : HP) (ps : List Pr) (w : World) (e : Ending) (w' : World) : Prop :=
  if (okPs ps 0).isSome = true then ∃ v, e = .returned (.tuple #[v, .int .i64 0]) ∧ sat w' (own 5 1 v (writeB ps).length ((writeB ps).map bv) * R) ∧ Below 0 w w'
  else e = .returned (.tuple #[.slice none 0 0, .int .i64 1]) ∧ sat w' R ∧ Below 0 w w'
theorem WritePost.ok {R : HP} {ps : List Pr} {w w' : World} {q : Int} {v : Value} (ho : okPs ps 0 = some q) (h : sat w' (own 5 1 v (writeB ps).length ((writeB ps).map bv) * R)) (hb : Below 0 w w') : WritePost R ps w (.returned (.tuple #[v, .int .i64 0])) w' := by
  unfold WritePost
  rw [ho, if_pos (show (some q).isSome = true from rfl)]
  exact ⟨v, rfl, h, hb⟩
set_option maxRecDepth 100000 in
set_option maxHeartbeats 8000000 in
theorem pack_Write (ps : List Pr) (pl : Nat) (hpl : ps.length = pl) (hsz : prSizes ps ≤ 1048576) (w : World) (R : HP) (ao : Option Addr) (cap : Nat) (hs : sat w R) (hd : PrKs R ps ao) :
    Calls Try.prog 8 #[.slice ao pl cap] w (WritePost R ps w) := by
  have hlen := prSizes_len ps
  have hszz : ∀ p ∈ ps, p.code.length ≤ 1048576 ∧ Dm.sizes p.consts ≤ 1048576 := by
    intro p hp
    obtain ⟨i, hi⟩ := List.mem_iff_getElem?.1 hp
    have h1 := prSizes_take hi
    unfold Pr.size at h1
    omega
  have hRt := pack_right ps pl hpl ⟨by omega, fun p hp => by have := hszz p hp; omega⟩ w R ao cap hs hd
  have hplb : pl ≤ 1048576 := by omega
  have H1 := Lib.hid (And.intro hpl (And.intro hsz hd))
  have HDK := Lib.hid hd.dks
  clear hs hpl hd hlen hszz hsz
  go_enter Try.func8, Try.ntmps8
  go_wp2_with fail
  refine hRt.mono ?_
  clear hRt
  rintro e w1 ⟨rfl, h1, hb1⟩
  cases ho : okPs ps 0 with
  | none =>
    have hpost : WritePost R ps w (.returned (.tuple #[.slice none 0 0, .int .i64 1])) w1 := by
      unfold WritePost
      rw [ho, if_neg (by decide)]
      exact ⟨rfl, h1, hb1⟩
    have HN := Lib.hid hpost
    clear hpost h1 hb1 ho
    simp only [Option.isSome_none]
    go_wp2_with fail
    go_ret2
    exact HN.out
  | some q =>
    have hmem := okPs_mem (by decide) ho
    have h2 := h1.alloc (.cells #[.int .u8 84, .int .u8 65, .int .u8 78, .int .u8 68] 5 (4, 5))
    have hb2 := hb1.trans (Below.zero_alloc w1 (.cells #[.int .u8 84, .int .u8 65, .int .u8 78, .int .u8 68] 5 (4, 5)))
    have hN := pack_number_or (.slice (some ⟨w1.heap.size, 0, none⟩) 4 4) [84, 65, 78, 68] (.inr ⟨h2, w1.heap.size, rfl, fun w' h' j u hu => by
      rw [h'.left.cell j]
      match j, hu with
      | 0, hu => exact hu
      | 1, hu => exact hu
      | 2, hu => exact hu
      | 3, hu => exact hu
      | (j + 4), hu => exact hu⟩) pl (by omega) (by decide)
    have HO := Lib.hid (And.intro ho (And.intro hmem hb2))
    have hcv := run_convert_lit (P := Try.prog) w1 23 5 #[.int .u8 84, .int .u8 65, .int .u8 78, .int .u8 68] 4 4 Try.underlying23 Try.underlying5
    clear h1 hb1 h2 hb2 ho hmem
    simp only [Option.isSome_some]
    go_wp2_with fail
    refine hN.mono ?_
    clear hN hcv
    rintro e w2 ⟨v2, rfl, h3', hb3⟩
    have h3 := (h3'.perm (show _ = Go.Proofs.Ytkjfplldfjmbaaa.blk _ _ * (own _ _ _ _ _ * R) by ac_rfl)).right
    clear h3'
    obtain ⟨zs, hzs⟩ : ∃ zs : List Int, [84, 65, 78, 68] ++ numB pl = zs := ⟨_, rfl⟩
    have hzl : zs.length ≤ 13 := by rw [← hzs, List.length_append]; have := numB_nine pl hplb; simp only [List.length_cons, List.length_nil]; omega
    rw [hzs] at h3
    have H3 := Lib.hid (And.intro h3 (And.intro (HO.out.2.2.trans hb3) (And.intro hzs hzl)))
    clear h3 hb3 hzs hzl
    go_wp2_with fail
    go_loopw [4, 23] (WiRel w R ps zs) (fun _ i _ => pl - (intOf i).toNat)
    case atStart => exact ⟨0, Nat.zero_le _, rfl, by simp [protosB], by rw [List.take_zero]; unfold protosB; rw [List.flatMap_nil, List.append_nil]; exact H3.out.1, H3.out.2.1⟩
    case round =>
      obtain ⟨j, hj, rfl, hpb, h4, hb4⟩ := hrel
      have hll := H1.out.1
      by_cases hlt : j < ps.length
      · have hlt2 : j < pl := by omega
        have bl : decide ((j : Int) < (pl : Int)) = true := by rw [decide_eq_true_eq]; omega
        obtain ⟨p, ex⟩ : ∃ p, ps[j]? = some p := ⟨_, List.getElem?_eq_getElem hlt⟩
        obtain ⟨bb, off, ds, hao, hcell, hpk⟩ := H1.out.2.2 j p ex
        have hrt := HO.out.2.1 p (List.mem_of_getElem? ex)
        have hpsz := prSizes_take ex
        obtain ⟨ac, cc, ai, ci, an, cn, hds, hib, hco, hdk, hna, hcc, hci, hcn⟩ := hpk
        have hpz : p.size = 1 + p.name.size + p.code.length + Dm.sizes p.consts + namesZ p.names := rfl
        have hdl1 := Dm.len_le p.consts
        have hnl1 := namesZ_len p.names
        have htot := H1.out.2.1
        obtain ⟨nm, hnm⟩ : ∃ x, p.name = x := ⟨_, rfl⟩
        obtain ⟨pa, hpa⟩ : ∃ x, p.args = x := ⟨_, rfl⟩
        obtain ⟨pf, hpf⟩ : ∃ x, p.free = x := ⟨_, rfl⟩
        obtain ⟨pr, hpr⟩ : ∃ x, p.rest = x := ⟨_, rfl⟩
        obtain ⟨cl, hcl⟩ : ∃ x, p.code.length = x := ⟨_, rfl⟩
        obtain ⟨dl, hdl⟩ : ∃ x, p.consts.length = x := ⟨_, rfl⟩
        obtain ⟨nl, hnl⟩ : ∃ x, p.names.length = x := ⟨_, rfl⟩
        rw [hnm, hpa, hpf, hpr, hcl, hdl, hnl] at hds
        subst hds
        have hcw := hcell wr h4.right
        have i0' := hcw 0 _ rfl
        have i1 := hcw 1 _ rfl
        have i2 := hcw 2 _ rfl
        have i3 := hcw 3 _ rfl
        have i4 := hcw 4 _ rfl
        have i5 := hcw 5 _ rfl
        have i6 := hcw 6 _ rfl
        rw [Nat.add_zero] at i0'
        have ba := size_bd (hpa ▸ hrt.1)
        have bf := size_bd (hpf ▸ hrt.2.1)
        have hclb : cl ≤ 1048576 := by omega
        have hdlb : dl ≤ 1048576 := by omega
        have hnlb : nl ≤ 1048576 := by omega
        have hnmb : nm.size ≤ 1048576 := by rw [← hnm]; omega
        have h5 := h4.alloc (.cells #[.string nm, .int .i64 pa, .int .i64 pf, .bool pr, .slice ac cl cc, .slice ai dl ci, .slice an nl cn] 38)
        have hb5 := hb4.trans (Below.zero_alloc wr (.cells #[.string nm, .int .i64 pa, .int .i64 pf, .bool pr, .slice ac cl cc, .slice ai dl ci, .slice an nl cn] 38))
        obtain ⟨y0, hy0⟩ : ∃ y, zs ++ protosB (ps.take j) = y := ⟨_, rfl⟩
        have ly0 : y0.length ≤ 13 + 60 * prSizes (ps.take j) := by rw [← hy0, List.length_append]; have := H3.out.2.2.2; omega
        rw [hy0] at h5
        have HPR := Lib.hid (And.intro ex (And.intro hco (And.intro hdk (And.intro hna (And.intro hrt (And.intro hib (And.intro hy0 hpb)))))))
        have HNM := Lib.hid (And.intro hnm (And.intro hpa (And.intro hpf (And.intro hpr (And.intro hcl (And.intro hdl (And.intro hnl (And.intro hpz (And.intro hpsz htot)))))))))
        have e1 := textB_len nm (by omega)
        have e2 := numB_ten (n := pa.toNat) (by omega)
        have e3 := numB_ten (n := pf.toNat) (by omega)
        have e4 : (bitB pr).length = 1 := rfl
        have e5 := numB_nine cl hclb
        have e6 := numB_nine dl hdlb
        have e7 := numB_nine nl hnlb
        have ly1 : y0.length ≤ 62914573 := by omega
        have HLN := Lib.hid (And.intro e1 (And.intro e2 (And.intro e3 (And.intro e4 (And.intro e5 (And.intro e6 (And.intro e7 (And.intro ly1 (And.intro hnmb ly0)))))))))
        have H5 := Lib.hid (And.intro h5 hb5)
        cases hao
        clear hcw hcell ex hnm hpa hpf hpr hcl hdl hnl hco hdk hna hcc hci hcn hib h4 h5 hb4 hb5 hll hlt hdl1 hnl1 hrt hpz hpsz htot hy0 ly0 ly1 e1 e2 e3 e4 e5 e6 e7 hpb hnmb
        go_upto_region 7 with (fail)
        generalize wr.alloc (.cells #[.string nm, .int .i64 pa, .int .i64 pf, .bool pr, .slice ac cl cc, .slice ai dl ci, .slice an nl cn] 38) = w5 at *
        generalize wr.heap.size = gx at *
        obtain ⟨G, hG⟩ : ∃ G : HP, G = Go.Proofs.Ytkjfplldfjmbaaa.blk gx (.cells #[.string nm, .int .i64 pa, .int .i64 pf, .bool pr, .slice ac cl cc, .slice ai dl ci, .slice an nl cn] 38 (0, 0)) * R := ⟨_, rfl⟩
        have hGR : ∀ w, sat w G → sat w R := fun w h => by rw [hG] at h; exact h.right
        have hGc : ∀ w', sat w' G → w'.cell? ⟨gx, 0, none⟩ = some (.string nm) ∧ w'.cell? ⟨gx, 1, none⟩ = some (.int .i64 pa) ∧ w'.cell? ⟨gx, 2, none⟩ = some (.int .i64 pf) ∧ w'.cell? ⟨gx, 3, none⟩ = some (.bool pr) := fun w' h => by
          rw [hG] at h
          exact ⟨(h.left.cell 0).trans rfl, (h.left.cell 1).trans rfl, (h.left.cell 2).trans rfl, (h.left.cell 3).trans rfl⟩
        have hGd : ∀ w', sat w' G → w'.cell? ⟨gx, 4, none⟩ = some (.slice ac cl cc) ∧ w'.cell? ⟨gx, 5, none⟩ = some (.slice ai dl ci) ∧ w'.cell? ⟨gx, 6, none⟩ = some (.slice an nl cn) := fun w' h => by
          rw [hG] at h
          exact ⟨(h.left.cell 4).trans rfl, (h.left.cell 5).trans rfl, (h.left.cell 6).trans rfl⟩
        have h6 : sat w5 (own 5 1 u4 (y0).length ((y0).map bv) * G) := by rw [hG]; exact H5.out.1.perm (by ac_rfl)
        obtain ⟨c0, c1, c2, c3⟩ := hGc w5 h6.right
        have HGG := Lib.hid (And.intro hG (And.intro hGR (And.intro hGc hGd)))
        have H6 := Lib.hid h6
        clear hG hGR hGc hGd h6 i0' i1 i2 i3 i4 i5 i6
        go_region_held3 (fun w' => w'.cell? ⟨gx, 0, none⟩ = some (.string nm) ∧ w'.cell? ⟨gx, 1, none⟩ = some (.int .i64 pa) ∧ w'.cell? ⟨gx, 2, none⟩ = some (.int .i64 pf) ∧ w'.cell? ⟨gx, 3, none⟩ = some (.bool pr)) (first | exact k9 | exact k8 | exact k7 | exact k6 | go_keep)
          (first
            | (go_at_call 19; refine (num_lit h23 pf (by omega) (by simp only [List.length_append]; have := HLN.out; omega)).mono ?_; rintro e24 w24 ⟨v24, rfl, h24, hb24⟩; have k6 := HGG.out.2.2.1 _ h24.right)
            | (go_at_call 20; refine (pack_truth v22 _ h22 pr (by simp only [List.length_append]; have := HLN.out; omega)).mono ?_; rintro e23 w23 ⟨v23, rfl, h23, hb23⟩; have k7 := HGG.out.2.2.1 _ h23.right)
            | (go_at_call 19; refine (num_lit h21 pa (by omega) (by simp only [List.length_append]; have := HLN.out; omega)).mono ?_; rintro e22 w22 ⟨v22, rfl, h22, hb22⟩; have k8 := HGG.out.2.2.1 _ h22.right)
            | (go_at_call 21; refine (pack_text _ _ (H6.out.drewN 1) nm (by have := HLN.out; omega) (by have := HLN.out; omega)).mono ?_; rintro e21 w21 ⟨v21, rfl, h21, hb21⟩; have k9 := HGG.out.2.2.1 _ h21.right))
        have hb24' := ((((H5.out.2.trans (drewN_below0 w5 1)).trans hb21).trans hb22).trans hb23).trans hb24
        obtain ⟨y1, hy1⟩ : ∃ y, y0 ++ textB nm ++ numB pa.toNat ++ bitB pr ++ numB pf.toNat = y := ⟨_, rfl⟩
        have ly1 : y1.length ≤ y0.length + nm.size + 28 := by rw [← hy1]; simp only [List.length_append]; have := HLN.out; omega
        rw [hy1] at h24
        obtain ⟨d4, d5, d6⟩ := HGG.out.2.2.2 _ h24.right
        have hN := num_len h24 cl hclb (by have := HLN.out; omega)
        have H7 := Lib.hid (And.intro hb24' (And.intro hy1 ly1))
        clear k9 k8 k7 k6 h21 h22 h23 h24 hb21 hb22 hb23 hb24 c0 c1 c2 c3 hb24' hy1 ly1 d5 d6
        go_wp2_with fail
        refine hN.mono ?_
        clear hN d4
        rintro e25 w25 ⟨v25, rfl, h25, hb25⟩
        obtain ⟨y2, hy2⟩ : ∃ y, y1 ++ numB cl = y := ⟨_, rfl⟩
        have ly2 : y2.length ≤ y0.length + nm.size + 37 := by rw [← hy2, List.length_append]; have := HLN.out; have := H7.out.2.2; omega
        rw [hy2] at h25
        have d4 := (HGG.out.2.2.2 _ h25.right).1
        have H8 := Lib.hid (And.intro h25 (And.intro (H7.out.1.trans hb25) (And.intro hy2 ly2)))
        clear h25 hb25 hy2 ly2
        go_wp2_with fail
        go_loopw [4, 48] (WcRel w G p.code y2) (fun _ i _ => cl - (intOf i).toNat)
        case atStart => exact ⟨0, Nat.zero_le _, rfl, by rw [List.take_zero]; unfold codeB; rw [List.flatMap_nil, List.append_nil]; exact H8.out.1, H8.out.2.1⟩
        case round =>
          clear d4
          obtain ⟨k, hk, rfl, h9, hb9⟩ := hrel
          have hcl := HNM.out.2.2.2.2.1
          have lck : (p.code.take k).length ≤ p.code.length := by rw [List.length_take]; omega
          have lcd := codeB_len (all_take k HPR.out.2.2.2.2.1.2.2.1)
          by_cases hkl : k < p.code.length
          · have hkl2 : k < cl := by omega
            have bk : decide ((k : Int) < (cl : Int)) = true := by rw [decide_eq_true_eq]; omega
            obtain ⟨t, et⟩ : ∃ t, p.code[k]? = some t := ⟨_, List.getElem?_eq_getElem hkl⟩
            obtain ⟨⟨b3, o3, hac, hcell⟩, _⟩ := HPR.out.2.1 k t et
            obtain ⟨ti, ta, tb⟩ := t
            obtain ⟨x0, x1, x2⟩ := hcell wr (HGG.out.2.1 wr h9.right)
            obtain ⟨q1, q2, q3⟩ := rightI_bd (List.all_eq_true.1 HPR.out.2.2.2.2.1.2.2.1 _ (List.mem_of_getElem? et))
            obtain ⟨z0, hz0⟩ : ∃ z, y2 ++ codeB (p.code.take k) = z := ⟨_, rfl⟩
            have lz0 : z0.length ≤ 100000000 := by rw [← hz0, List.length_append]; have := H8.out.2.2.2; have := HLN.out; omega
            rw [hz0] at h9
            have h10 := h9.alloc (.cells #[.int .i64 ti, .int .i64 ta, .int .i64 tb] 41)
            have hb10 := hb9.trans (Below.zero_alloc wr (.cells #[.int .i64 ti, .int .i64 ta, .int .i64 tb] 41))
            have HK := Lib.hid (And.intro et (And.intro hz0 (And.intro lz0 hb10)))
            have HQ := Lib.hid (And.intro q1 (And.intro q2 q3))
            have H10 := Lib.hid h10
            cases hac
            dsimp only at x0 x1 x2
            clear hcell h9 h10 hb9 hb10 et hz0 lz0 hkl lck lcd hcl q1 q2 q3
            go_upto_region 12 with (fail)
            generalize wr.alloc (.cells #[.int .i64 ti, .int .i64 ta, .int .i64 tb] 41) = w10 at *
            generalize wr.heap.size = gz at *
            obtain ⟨G3, hG3⟩ : ∃ G3 : HP, G3 = Go.Proofs.Ytkjfplldfjmbaaa.blk gz (.cells #[.int .i64 ti, .int .i64 ta, .int .i64 tb] 41 (0, 0)) * G := ⟨_, rfl⟩
            have hG3c : ∀ w', sat w' G3 → w'.cell? ⟨gz, 0, none⟩ = some (.int .i64 ti) ∧ w'.cell? ⟨gz, 1, none⟩ = some (.int .i64 ta) ∧ w'.cell? ⟨gz, 2, none⟩ = some (.int .i64 tb) := fun w' h => by
              rw [hG3] at h
              exact ⟨(h.left.cell 0).trans rfl, (h.left.cell 1).trans rfl, (h.left.cell 2).trans rfl⟩
            have h11 := H10.out.perm (show _ = own _ _ _ _ _ * (Go.Proofs.Ytkjfplldfjmbaaa.blk gz _ * G) by ac_rfl)
            rw [← hG3] at h11
            obtain ⟨c0, c1, c2⟩ := hG3c w10 h11.right
            have HG3 := Lib.hid (And.intro hG3 hG3c)
            have H11 := Lib.hid h11
            clear hG3 hG3c h11 x0 x1 x2
            go_region_held3 (fun w' => w'.cell? ⟨gz, 0, none⟩ = some (.int .i64 ti) ∧ w'.cell? ⟨gz, 1, none⟩ = some (.int .i64 ta) ∧ w'.cell? ⟨gz, 2, none⟩ = some (.int .i64 tb)) (first | exact k8 | exact k7 | exact k6 | go_keep)
              (first
                | (go_at_call 22; refine (pack_sign v22 _ h22 tb HQ.out.2.2 (by simp only [List.length_append]; have := HK.out.2.2.1; have := numB_ten (n := ti.toNat) (by have := HQ.out.1; omega); have := zigB_len HQ.out.2.1; omega)).mono ?_; rintro e23 w23 ⟨v23, rfl, h23, hb23⟩; have k6 := HG3.out.2 _ h23.right)
                | (go_at_call 22; refine (pack_sign v21 _ h21 ta HQ.out.2.1 (by simp only [List.length_append]; have := HK.out.2.2.1; have := numB_ten (n := ti.toNat) (by have := HQ.out.1; omega); have := zigB_len HQ.out.2.1; omega)).mono ?_; rintro e22 w22 ⟨v22, rfl, h22, hb22⟩; have k7 := HG3.out.2 _ h22.right)
                | (go_at_call 19; refine (num_lit (H11.out.drewN 1) ti (by have := HQ.out.1; omega) (by have := HK.out.2.2.1; omega)).mono ?_; rintro e21 w21 ⟨v21, rfl, h21, hb21⟩; have k8 := HG3.out.2 _ h21.right))
            have hb24 := (((HK.out.2.2.2.trans (drewN_below0 w10 1)).trans hb21).trans hb22).trans hb23
            have e9 : y2 ++ codeB (p.code.take (k + 1)) = z0 ++ numB ti.toNat ++ zigB ta ++ zigB tb := by
              rw [codeB_next HK.out.1, ← HK.out.2.1]
              simp only [List.append_assoc]
            rw [← e9] at h23
            rw [HG3.out.1] at h23
            have HL := Lib.hid (And.intro (h23.perm (show _ = Go.Proofs.Ytkjfplldfjmbaaa.blk gz _ * (own _ _ _ _ _ * G) by ac_rfl)).right hb24)
            clear k8 k7 k6 h21 h22 h23 hb21 hb22 hb23 hb24 e9 c0 c1 c2
            go_wp2_with fail
            go_roundw
            case rel => exact ⟨k + 1, by have := HNM.out.2.2.2.2.1; omega, by go_num, HL.out.1, HL.out.2⟩
            case measure => simp [intOf]; omega
          · obtain rfl : k = p.code.length := by omega
            have hge : decide ((p.code.length : Int) < (cl : Int)) = false := by rw [decide_eq_false_iff_not]; omega
            rw [List.take_of_length_le (Nat.le_refl _)] at h9 lcd
            have hSZ : Dm.sizes p.consts ≤ 1048576 ∧ namesZ p.names ≤ 1048576 := by
              obtain ⟨_, _, _, _, _, _, _, a8, a9, a10⟩ := HNM.out
              omega
            have HSZ := Lib.hid hSZ
            obtain ⟨y3, hy3⟩ : ∃ y, y2 ++ codeB p.code = y := ⟨_, rfl⟩
            rw [hy3] at h9
            have d5 := (HGG.out.2.2.2 wr h9.right).2.1
            have ly3 : y3.length ≤ 100000000 := by rw [← hy3, List.length_append]; have := H8.out.2.2.2; have := HLN.out; omega
            have hN := num_len h9 dl hdlb (by omega)
            have H9 := Lib.hid (And.intro hb9 (And.intro hy3 ly3))
            rw [hcl]
            rw [hcl] at hge
            clear h9 hb9 hy3 ly3 lck lcd hcl hk hkl hSZ
            go_wp2_with fail
            refine hN.mono ?_
            clear hN d5
            rintro e w28 ⟨v28, rfl, h28, hb28⟩
            obtain ⟨y4, hy4⟩ : ∃ y, y3 ++ numB dl = y := ⟨_, rfl⟩
            have ly4 : y4.length ≤ 100000009 := by rw [← hy4, List.length_append]; have := H9.out.2.2; have := numB_nine dl hdlb; omega
            rw [hy4] at h28
            have d5 := (HGG.out.2.2.2 _ h28.right).2.1
            have H10 := Lib.hid (And.intro h28 (And.intro (H9.out.1.trans hb28) (And.intro hy4 ly4)))
            clear h28 hb28 hy4 ly4
            go_wp2_with fail
            go_loopw [4, 71] (WdRel w G p.consts y4) (fun _ i _ => dl - (intOf i).toNat)
            case atStart => exact ⟨0, Nat.zero_le _, rfl, by rw [List.take_zero]; simp only [constBs, List.append_nil]; exact H10.out.1, H10.out.2.1⟩
            case round =>
              clear d5
              obtain ⟨k, hk, rfl, h9, hb9⟩ := hrel
              have hdl := HNM.out.2.2.2.2.2.1
              by_cases hkl : k < p.consts.length
              · have hkl2 : k < dl := by omega
                have bk : decide ((k : Int) < (dl : Int)) = true := by rw [decide_eq_true_eq]; omega
                obtain ⟨d, et⟩ : ∃ d, p.consts[k]? = some d := ⟨_, List.getElem?_eq_getElem hkl⟩
                obtain ⟨b4, o4, ds, hai, hcell, hdd⟩ := HPR.out.2.2.1.get k d et
                have hcw := hcell wr (HGG.out.2.1 wr h9.right)
                rw [Nat.zero_add] at hcw
                have hdz : d.size ≤ 1048576 := by have := Dm.size_le et; have := HSZ.out; omega
                have hrd := HPR.out.2.2.2.2.1.2.2.2.mem d (List.mem_of_getElem? et)
                have hbd := constBs_bd k et HPR.out.2.2.1 HPR.out.2.2.2.2.1.2.2.2 HSZ.out.1
                obtain ⟨k1, n1, ng1, am1, ml1, cm1, tx1, ai1, il1, ci1, ar1, rl1, cr1, rfl⟩ := hdd.cells
                have i0' := hcw 0 _ rfl
                have i1 := hcw 1 _ rfl
                have i2 := hcw 2 _ rfl
                have i3 := hcw 3 _ rfl
                have i4 := hcw 4 _ rfl
                have i5 := hcw 5 _ rfl
                have i6 := hcw 6 _ rfl
                rw [Nat.add_zero] at i0'
                have h10 := h9.alloc (dmO [.int .i64 k1, .int .i64 n1, .bool ng1, .slice am1 ml1 cm1, .string tx1, .slice ai1 il1 ci1, .slice ar1 rl1 cr1])
                obtain ⟨gb, hgb⟩ : ∃ gb, wr.heap.size = gb := ⟨_, rfl⟩
                rw [hgb] at h10
                have h11 := h10.perm (show _ = own _ _ _ _ _ * (Go.Proofs.Ytkjfplldfjmbaaa.blk gb (dmO [.int .i64 k1, .int .i64 n1, .bool ng1, .slice am1 ml1 cm1, .string tx1, .slice ai1 il1 ci1, .slice ar1 rl1 cr1]) * G) by ac_rfl)
                have hC := pack_constant hdz hrd _ _ _ _ _ h11 (hdd.mono (fun w h => HGG.out.2.1 w h.right) _) (by rw [List.length_append]; have := H10.out.2.2.2; have := HSZ.out; omega)
                have HK := Lib.hid (And.intro (hb9.trans (Below.zero_alloc wr (dmO [.int .i64 k1, .int .i64 n1, .bool ng1, .slice am1 ml1 cm1, .string tx1, .slice ai1 il1 ci1, .slice ar1 rl1 cr1]))) (And.intro et hC))
                cases hai
                clear hcw hcell hdd h9 h10 h11 hb9 et hkl hdl hdz hrd hbd hC
                go_wp2_with fail
                refine HK.out.2.2.mono ?_
                clear i0' i1 i2 i3 i4 i5 i6
                rintro e w6 ⟨v6, rfl, h6, hb6⟩
                have HL := Lib.hid (And.intro h6 (HK.out.1.trans hb6))
                clear h6 hb6
                go_wp2_with fail
                go_roundw
                case rel =>
                  refine ⟨k + 1, by have := HNM.out.2.2.2.2.2.1; omega, by go_num, ?_, HL.out.2⟩
                  rw [constBs_take HK.out.2.1, ← List.append_assoc]
                  exact (HL.out.1.perm (show _ = Go.Proofs.Ytkjfplldfjmbaaa.blk gb (dmO [.int .i64 k1, .int .i64 n1, .bool ng1, .slice am1 ml1 cm1, .string tx1, .slice ai1 il1 ci1, .slice ar1 rl1 cr1]) * (own _ _ _ _ _ * G) by ac_rfl)).right
                case measure => simp [intOf]; omega
              · obtain rfl : k = p.consts.length := by omega
                have hge : decide ((p.consts.length : Int) < (dl : Int)) = false := by rw [decide_eq_false_iff_not]; omega
                rw [List.take_of_length_le (Nat.le_refl _)] at h9
                have lcd := constBs_len p.consts HPR.out.2.2.1 HPR.out.2.2.2.2.1.2.2.2 HSZ.out.1
                obtain ⟨y5, hy5⟩ : ∃ y, y4 ++ constBs p.consts = y := ⟨_, rfl⟩
                rw [hy5] at h9
                have d6 := (HGG.out.2.2.2 wr h9.right).2.2
                have ly5 : y5.length ≤ 190000000 := by rw [← hy5, List.length_append]; have := H10.out.2.2.2; have := HSZ.out; omega
                have hN := num_len h9 nl hnlb (by omega)
                have H11 := Lib.hid (And.intro hb9 (And.intro ly5 (And.intro hy5 lcd)))
                rw [hdl]
                rw [hdl] at hge
                clear h9 hb9 hy5 ly5 lcd hk hkl hdl
                go_wp2_with fail
                refine hN.mono ?_
                clear hN d6
                rintro e w26 ⟨v26, rfl, h26, hb26⟩
                obtain ⟨y6, hy6⟩ : ∃ y, y5 ++ numB nl = y := ⟨_, rfl⟩
                have ly6 : y6.length ≤ 190000009 := by rw [← hy6, List.length_append]; have := H11.out.2.1; have := numB_nine nl hnlb; omega
                rw [hy6] at h26
                have d6 := (HGG.out.2.2.2 _ h26.right).2.2
                have H12 := Lib.hid (And.intro h26 (And.intro (H11.out.1.trans hb26) (And.intro hy6 ly6)))
                clear h26 hb26 hy6 ly6
                go_wp2_with fail
                go_loopw [4, 87] (WnRel w G p.names y6) (fun _ i _ => nl - (intOf i).toNat)
                case atStart => exact ⟨0, Nat.zero_le _, rfl, by rw [List.take_zero]; unfold namesB; rw [List.flatMap_nil, List.append_nil]; exact H12.out.1, H12.out.2.1⟩
                case round =>
                  clear d6
                  obtain ⟨k, hk, rfl, h9, hb9⟩ := hrel
                  have hnl := HNM.out.2.2.2.2.2.2.1
                  have lcd := namesB_len (Nat.le_trans (namesZ_take p.names k) HSZ.out.2)
                  have lce := namesZ_take p.names k
                  by_cases hkl : k < p.names.length
                  · have hkl2 : k < nl := by omega
                    have bk : decide ((k : Int) < (nl : Int)) = true := by rw [decide_eq_true_eq]; omega
                    obtain ⟨t, et⟩ : ∃ t, p.names[k]? = some t := ⟨_, List.getElem?_eq_getElem hkl⟩
                    obtain ⟨b5, o5, han, hcell⟩ := HPR.out.2.2.2.1 k t et
                    have x0 := hcell wr (HGG.out.2.1 wr h9.right)
                    have ltz := namesZ_mem (List.mem_of_getElem? et)
                    have lt6 : (y6 ++ namesB (p.names.take k)).length ≤ 300000000 := by rw [List.length_append]; have := H12.out.2.2.2; have := HSZ.out; omega
                    have hT := pack_text _ _ h9 t (by have := HSZ.out; omega) (by omega)
                    have HK := Lib.hid (And.intro hb9 (And.intro et hT))
                    cases han
                    clear hcell h9 hb9 et hkl lcd lce ltz lt6 hT hnl
                    go_wp2_with fail
                    refine HK.out.2.2.mono ?_
                    clear x0
                    rintro e w27 ⟨v27, rfl, h27, hb27⟩
                    have HL := Lib.hid (And.intro h27 (HK.out.1.trans hb27))
                    clear h27 hb27
                    go_wp2_with fail
                    go_roundw
                    case rel =>
                      refine ⟨k + 1, by have := HNM.out.2.2.2.2.2.2.1; omega, by go_num, ?_, HL.out.2⟩
                      rw [namesB_next HK.out.2.1, ← List.append_assoc]
                      exact HL.out.1
                    case measure => simp [intOf]; omega
                  · obtain rfl : k = p.names.length := by omega
                    have hge : decide ((p.names.length : Int) < (nl : Int)) = false := by rw [decide_eq_false_iff_not]; omega
                    rw [List.take_of_length_le (Nat.le_refl _)] at h9 lcd
                    have h13 := h9
                    rw [HGG.out.1] at h13
                    have h14 := (h13.perm (show _ = Go.Proofs.Ytkjfplldfjmbaaa.blk gx _ * (own _ _ _ _ _ * R) by ac_rfl)).right
                    have eall : zs ++ protosB (ps.take (j + 1)) = y6 ++ namesB p.names := by
                      rw [protosB_next HPR.out.1]
                      unfold protoB
                      obtain ⟨n1, n2, n3, n4, n5, n6, n7, _⟩ := HNM.out
                      rw [n1, n2, n3, n4, n5, n6, n7, ← H12.out.2.2.1, ← H11.out.2.2.1, ← H10.out.2.2.1, ← H9.out.2.1, ← H8.out.2.2.1, ← H7.out.2.1, ← HPR.out.2.2.2.2.2.2.1]
                      simp only [List.append_assoc]
                    have hbp := protosB_len (ps.take (j + 1)) (fun p' hp' => HO.out.2.1 p' (List.mem_of_mem_take hp')) (fun p' hp' => HDK.out p' (List.mem_of_mem_take hp')) (by have := prSizes_app (ps.take (j + 1)) (ps.drop (j + 1)); rw [List.take_append_drop] at this; have := H1.out.2.1; omega)
                    rw [← eall] at h14
                    have HEND := Lib.hid (And.intro h14 (And.intro hb9 hbp))
                    rw [hnl]
                    rw [hnl] at hge
                    clear h9 hb9 h13 h14 hbp eall hk hkl lcd lce hnl
                    go_wp2_with fail
                    go_roundw
                    case rel =>
                      refine ⟨j + 1, by have := H1.out.1; omega, by go_num, HEND.out.2.2, HEND.out.1, HEND.out.2.1⟩
                    case measure => simp [intOf]; omega
      · have hjj : j = pl := by omega
        subst hjj
        have hge : decide ((j : Int) < (j : Int)) = false := by simp
        have e : zs ++ protosB (ps.take j) = writeB ps := by
          rw [List.take_of_length_le (by omega)]
          unfold writeB
          rw [hll, ← H3.out.2.2.1]
        rw [e] at h4
        have HN := Lib.hid (WritePost.ok HO.out.1 h4 hb4)
        clear h4 hb4 hpb e hll hlt
        go_wp2_with fail
        go_ret2
        exact HN.out
end Go.Proofs.Ytkjfplldfjmbaaa
