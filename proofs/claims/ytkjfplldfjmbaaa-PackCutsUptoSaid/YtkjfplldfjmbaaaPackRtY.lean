/- What is written is read, and what is read was written so: programs, plainly. What is written is read, and what is read was written so: a whole program, plainly. What is read is no greater than its bytes. -/
import Derived.Test.YtkjfplldfjmbaaaPackRtX
import Derived.Test.YtkjfplldfjmbaaaPackInjs
import Derived.Test.YtkjfplldfjmbaaaPackWr
/- What is written is read, and what is read was written so: programs, plainly. -/
namespace Go.Proofs.Ytkjfplldfjmbaaa
open Go.RowKit
def rdIns (p : Int) (l : List Int) : Option ((Int × Int × Int) × Int × List Int) := match rdNum l with
  | none => none
  | some (o, l1) => match rdSign l1 with
    | none => none
    | some (a, l2) => match rdSign l2 with
      | none => none
      | some (b, l3) => some ((o, a, b), p, l3)
def rdName (p : Int) (l : List Int) : Option (ByteArray × Int × List Int) := match rdText l with
  | none => none
  | some (s, l1) => some (s, p, l1)
/-- The proto that bytes begin with. -/
def rdProto (p : Int) (l : List Int) : Option (Pr × Int × List Int) := match rdText l with
  | none => none
  | some (nm, l1) => match rdNum l1 with
    | none => none
    | some (pa, l2) => match rdBool l2 with
      | none => none
      | some (pr, l3) => match rdNum l3 with
        | none => none
        | some (pf, l4) => match rdNum l4 with
          | none => none
          | some (cn, l5) => match rdMany rdIns cn.toNat p l5 with
            | none => none
            | some (code, p1, l6) => match rdNum l6 with
              | none => none
              | some (dn, l7) => match rdMany (rdConst 100) dn.toNat p1 l7 with
                | none => none
                | some (consts, p2, l8) => match rdNum l8 with
                  | none => none
                  | some (nn, l9) => match rdMany rdName nn.toNat p2 l9 with
                    | none => none
                    | some (names, p3, l10) => some (⟨nm, pa, pf, pr, code, consts, names⟩, p3, l10)
theorem rdMany_flat {α : Type} {f : Int → List Int → Option (α × Int × List Int)} {g : α → List Int} {c : α → Nat} :
    ∀ (xs : List α) (p : Int) (t : List Int), (∀ x ∈ xs, ∀ (p : Int) (t : List Int), 0 ≤ p → p + (c x : Int) ≤ 20000 → f p (g x ++ t) = some (x, p + (c x : Int), t)) → 0 ≤ p → p + ((xs.map c).sum : Nat) ≤ 20000 →
      rdMany f xs.length p (xs.flatMap g ++ t) = some (xs, p + (((xs.map c).sum : Nat) : Int), t)
  | [], p, t, _, _, _ => by
    show some ([], p, t) = _
    simp
  | x :: xs, p, t, h, h0, hb => by
    simp only [List.map_cons, List.sum_cons] at hb ⊢
    show rdMany f (xs.length + 1) p _ = _
    unfold rdMany
    rw [List.flatMap_cons, List.append_assoc, h x (by simp) p _ h0 (by omega)]
    simp only []
    rw [rdMany_flat xs _ t (fun y hy => h y (by simp [hy])) (by omega) (by omega)]
    simp only [Option.some.injEq, Prod.mk.injEq, true_and, and_true]
    omega
theorem flat_of_rdMany {α : Type} {f : Int → List Int → Option (α × Int × List Int)} {g : α → List Int} (hf : ∀ p l d q t, Bytes l → f p l = some (d, q, t) → l = g d ++ t) :
    ∀ (n : Nat) {p : Int} {l : List Int} {ds : List α} {q : Int} {t : List Int}, Bytes l → rdMany f n p l = some (ds, q, t) → ds.length = n ∧ l = ds.flatMap g ++ t
  | 0, p, l, ds, q, t, _, h => by
    simp only [rdMany, Option.some.injEq, Prod.mk.injEq] at h
    obtain ⟨rfl, rfl, rfl⟩ := h
    exact ⟨rfl, rfl⟩
  | n + 1, p, l, ds, q, t, hu, h => by
    unfold rdMany at h
    cases hn : f p l with
    | none => rw [hn] at h; cases h
    | some r =>
      obtain ⟨d, p1, l1⟩ := r
      rw [hn] at h
      have hb := hf p l d p1 l1 hu hn
      simp only [] at h
      cases hm : rdMany f n p1 l1 with
      | none => rw [hm] at h; cases h
      | some r =>
        obtain ⟨es, p2, l2⟩ := r
        rw [hm] at h
        obtain ⟨e1, e2⟩ := flat_of_rdMany hf n (by rw [hb] at hu; exact hu.right) hm
        simp only [Option.some.injEq, Prod.mk.injEq] at h
        obtain ⟨rfl, rfl, rfl⟩ := h
        exact ⟨by simp [e1], by rw [hb, e2, List.flatMap_cons, List.append_assoc]⟩
def insB (t : Int × Int × Int) : List Int := numB t.1.toNat ++ zigB t.2.1 ++ zigB t.2.2
theorem rdIns_insB {i : Int × Int × Int} (h : rightI i = true) (p : Int) (t : List Int) : rdIns p (insB i ++ t) = some (i, p, t) := by
  obtain ⟨h1, h2, h3⟩ := rightI_bd h
  obtain ⟨o, a, b⟩ := i
  unfold rdIns insB
  rw [List.append_assoc, List.append_assoc, rdNum_numB _ _ (by omega)]
  simp only []
  rw [rdSign_zigB a _ h2]
  simp only []
  rw [rdSign_zigB b _ h3]
  simp only [Option.some.injEq, Prod.mk.injEq, and_true]
  simp only [] at h1
  omega
theorem insB_of_rdIns : ∀ (p : Int) (l : List Int) (i : Int × Int × Int) (q : Int) (t : List Int), Bytes l → rdIns p l = some (i, q, t) → l = insB i ++ t := by
  intro p l i q t hu h
  unfold rdIns at h
  cases a1 : rdNum l with
  | none => rw [a1] at h; cases h
  | some r =>
    obtain ⟨o, l1⟩ := r
    rw [a1] at h
    obtain ⟨_, b1⟩ := numB_of_rdNum hu a1
    have hu1 : Bytes l1 := by rw [b1] at hu; exact hu.right
    simp only [] at h
    cases a2 : rdSign l1 with
    | none => rw [a2] at h; cases h
    | some r =>
      obtain ⟨a, l2⟩ := r
      rw [a2] at h
      have b2 := zigB_of_rdSign hu1 a2
      have hu2 : Bytes l2 := by rw [b2] at hu1; exact hu1.right
      simp only [] at h
      cases a3 : rdSign l2 with
      | none => rw [a3] at h; cases h
      | some r =>
        obtain ⟨b, l3⟩ := r
        rw [a3] at h
        have b3 := zigB_of_rdSign hu2 a3
        simp only [Option.some.injEq, Prod.mk.injEq] at h
        obtain ⟨rfl, _, rfl⟩ := h
        unfold insB
        rw [b1, b2, b3]
        simp only [List.append_assoc]
theorem zero_sum {α : Type} : ∀ l : List α, (l.map fun _ => (0 : Nat)).sum = 0
  | [] => rfl
  | x :: l => by rw [List.map_cons, List.sum_cons, zero_sum l]
theorem name_le : ∀ {l : List ByteArray} {x : ByteArray}, x ∈ l → x.size ≤ namesZ l
  | [], x, h => by simp at h
  | e :: l, x, h => by
    have hz : namesZ (e :: l) = 1 + e.size + namesZ l := by simp [namesZ]
    rcases List.mem_cons.1 h with rfl | h
    · omega
    · have := name_le h; omega
theorem rdProto_protoB {p : Pr} {n q : Int} (ho : okP p n = some q) (hz : p.size ≤ 1048576) (h0 : 0 ≤ n ∧ n ≤ 20000) (t : List Int) : rdProto n (protoB p ++ t) = some (p, q, t) := by
  obtain ⟨⟨r1, r2, r3, r4⟩, _⟩ := okP_told h0.2 ho
  have hds : okDs p.consts 100 n = some q := by
    unfold okP at ho
    split at ho
    · exact ho
    · cases ho
  obtain ⟨_, hdep, hq, hq2⟩ := (okDs_iff p.consts 100 n q (by decide) h0.2).1 hds
  have b1 := size_bd r1
  have b2 := size_bd r2
  have hpz : p.size = 1 + p.name.size + p.code.length + Dm.sizes p.consts + namesZ p.names := rfl
  have hl1 := Dm.len_le p.consts
  have hl2 := namesZ_len p.names
  obtain ⟨nm, pa, pf, pr, code, consts, names⟩ := p
  simp only [] at *
  unfold protoB rdProto
  simp only [List.append_assoc]
  rw [rdText_textB _ _ (by omega)]
  simp only []
  rw [rdNum_numB _ _ (by omega)]
  simp only []
  rw [rdBool_bitB]
  simp only []
  rw [rdNum_numB _ _ (by omega)]
  simp only []
  rw [rdNum_numB _ _ (by omega)]
  simp only []
  have hcode : ∀ t, rdMany rdIns code.length n (codeB code ++ t) = some (code, n, t) := by
    intro t
    have h := rdMany_flat (f := rdIns) (g := insB) (c := fun _ => 0) code n t (fun x hx p t _ _ => by
      have := rdIns_insB (List.all_eq_true.1 r3 x hx) p t
      simpa using this) h0.1 (by rw [zero_sum]; omega)
    have e : code.flatMap insB = codeB code := rfl
    rw [e, zero_sum] at h
    simpa using h
  rw [Int.toNat_natCast, hcode]
  simp only []
  rw [rdNum_numB _ _ (by omega)]
  simp only []
  have hmem : ∀ d ∈ consts, d.size ≤ 1048576 ∧ RightD d ∧ depthD d ≤ 100 := fun d hd => ⟨by have := size_mem hd; omega, r4.mem d hd, by have := depth_mem hd; omega⟩
  rw [Int.toNat_natCast, rdMany_constBs consts n _ (fun d hd p t hp hb => rdConst_constB d.size d (Nat.le_refl _) (hmem d hd).1 (hmem d hd).2.1 100 p t (hmem d hd).2.2 hp hb) h0.1 (by omega)]
  simp only []
  rw [rdNum_numB _ _ (by omega)]
  simp only []
  have hnames : ∀ m t, 0 ≤ m → m ≤ 20000 → rdMany rdName names.length m (namesB names ++ t) = some (names, m, t) := by
    intro m t hm hm2
    have h := rdMany_flat (f := rdName) (g := textB) (c := fun _ => 0) names m t (fun x hx p t _ _ => by
      have hx2 := name_le hx
      unfold rdName
      rw [rdText_textB x t (by omega)]
      simp) hm (by rw [zero_sum]; omega)
    have e : names.flatMap textB = namesB names := rfl
    rw [e, zero_sum] at h
    simpa using h
  rw [Int.toNat_natCast, hnames _ _ (by omega) (by omega)]
  simp only [Option.some.injEq, Prod.mk.injEq, Pr.mk.injEq, true_and, and_true]
  omega
end Go.Proofs.Ytkjfplldfjmbaaa

/- What is written is read, and what is read was written so: a whole program, plainly. -/
namespace Go.Proofs.Ytkjfplldfjmbaaa
open Go.RowKit
theorem nameB_of_rdName : ∀ (p : Int) (l : List Int) (s : ByteArray) (q : Int) (t : List Int), Bytes l → rdName p l = some (s, q, t) → l = textB s ++ t := by
  intro p l s q t hu h
  unfold rdName at h
  cases a1 : rdText l with
  | none => rw [a1] at h; cases h
  | some r =>
    obtain ⟨x, l1⟩ := r
    rw [a1] at h
    have b1 := textB_of_rdText hu a1
    simp only [Option.some.injEq, Prod.mk.injEq] at h
    obtain ⟨rfl, _, rfl⟩ := h
    exact b1
theorem protoB_of_rdProto : ∀ (p : Int) (l : List Int) (x : Pr) (q : Int) (t : List Int), Bytes l → rdProto p l = some (x, q, t) → l = protoB x ++ t := by
  intro p l x q t hu h
  unfold rdProto at h
  cases a1 : rdText l with
  | none => rw [a1] at h; cases h
  | some r =>
  obtain ⟨nm, l1⟩ := r
  rw [a1] at h
  have b1 := textB_of_rdText hu a1
  have u1 : Bytes l1 := by rw [b1] at hu; exact hu.right
  simp only [] at h
  cases a2 : rdNum l1 with
  | none => rw [a2] at h; cases h
  | some r =>
  obtain ⟨pa, l2⟩ := r
  rw [a2] at h
  obtain ⟨_, b2⟩ := numB_of_rdNum u1 a2
  have u2 : Bytes l2 := by rw [b2] at u1; exact u1.right
  simp only [] at h
  cases a3 : rdBool l2 with
  | none => rw [a3] at h; cases h
  | some r =>
  obtain ⟨pr, l3⟩ := r
  rw [a3] at h
  have b3 := bitB_of_rdBool u2 a3
  have u3 : Bytes l3 := by rw [b3] at u2; exact u2.right
  simp only [] at h
  cases a4 : rdNum l3 with
  | none => rw [a4] at h; cases h
  | some r =>
  obtain ⟨pf, l4⟩ := r
  rw [a4] at h
  obtain ⟨_, b4⟩ := numB_of_rdNum u3 a4
  have u4 : Bytes l4 := by rw [b4] at u3; exact u3.right
  simp only [] at h
  cases a5 : rdNum l4 with
  | none => rw [a5] at h; cases h
  | some r =>
  obtain ⟨cn, l5⟩ := r
  rw [a5] at h
  obtain ⟨_, b5⟩ := numB_of_rdNum u4 a5
  have u5 : Bytes l5 := by rw [b5] at u4; exact u4.right
  simp only [] at h
  cases a6 : rdMany rdIns cn.toNat p l5 with
  | none => rw [a6] at h; cases h
  | some r =>
  obtain ⟨code, p1, l6⟩ := r
  rw [a6] at h
  obtain ⟨c6, b6⟩ := flat_of_rdMany (g := insB) insB_of_rdIns _ u5 a6
  have u6 : Bytes l6 := by rw [b6] at u5; exact u5.right
  simp only [] at h
  cases a7 : rdNum l6 with
  | none => rw [a7] at h; cases h
  | some r =>
  obtain ⟨dn, l7⟩ := r
  rw [a7] at h
  obtain ⟨_, b7⟩ := numB_of_rdNum u6 a7
  have u7 : Bytes l7 := by rw [b7] at u6; exact u6.right
  simp only [] at h
  cases a8 : rdMany (rdConst 100) dn.toNat p1 l7 with
  | none => rw [a8] at h; cases h
  | some r =>
  obtain ⟨consts, p2, l8⟩ := r
  rw [a8] at h
  obtain ⟨c8, b8⟩ := constBs_of_rdMany (constB_of_rdConst 100) _ u7 a8
  have u8 : Bytes l8 := by rw [b8] at u7; exact u7.right
  simp only [] at h
  cases a9 : rdNum l8 with
  | none => rw [a9] at h; cases h
  | some r =>
  obtain ⟨nn, l9⟩ := r
  rw [a9] at h
  obtain ⟨_, b9⟩ := numB_of_rdNum u8 a9
  have u9 : Bytes l9 := by rw [b9] at u8; exact u8.right
  simp only [] at h
  cases a10 : rdMany rdName nn.toNat p2 l9 with
  | none => rw [a10] at h; cases h
  | some r =>
  obtain ⟨names, p3, l10⟩ := r
  rw [a10] at h
  obtain ⟨c10, b10⟩ := flat_of_rdMany (g := textB) nameB_of_rdName _ u9 a10
  simp only [Option.some.injEq, Prod.mk.injEq] at h
  obtain ⟨rfl, _, rfl⟩ := h
  have e1 : code.flatMap insB = codeB code := rfl
  have e2 : names.flatMap textB = namesB names := rfl
  unfold protoB
  simp only [List.append_assoc]
  rw [b1, b2, b3, b4, b5, b6, b7, b8, b9, b10, ← c6, ← c8, ← c10, e1, e2]
theorem rdMany_protos : ∀ (ps : List Pr) (n q : Int) (t : List Int), okPs ps n = some q → prSizes ps ≤ 1048576 → 0 ≤ n ∧ n ≤ 20000 → rdMany rdProto ps.length n (protosB ps ++ t) = some (ps, q, t)
  | [], n, q, t, h, _, _ => by
    have h' : some n = some q := h
    cases h'
    rfl
  | p :: ps, n, q, t, h, hz, h0 => by
    have h' : (match okP p n with | none => none | some q => okPs ps q) = some q := h
    have hz' : prSizes (p :: ps) = p.size + prSizes ps := by simp [prSizes]
    cases ho : okP p n with
    | none => rw [ho] at h'; cases h'
    | some r =>
      rw [ho] at h'
      have hr := (okP_told h0.2 ho).2
      have hrp : n ≤ r := by
        unfold okP at ho
        split at ho
        · exact (okDs_bd p.consts 100 n r ho).1
        · cases ho
      show rdMany rdProto (ps.length + 1) n _ = _
      unfold rdMany
      rw [protosB_cons, List.append_assoc, rdProto_protoB ho (by omega) h0]
      simp only []
      rw [rdMany_protos ps r q t h' (by omega) ⟨by omega, hr⟩]
def magicS : ByteArray := ⟨#[84, 65, 78, 68]⟩
open Classical in
/-- The program that bytes are. -/
noncomputable def rdRead (l : List Int) : Option (List Pr) := match takeP l 4 with
  | none => none
  | some (s, l1) => if s = magicS then match rdNum l1 with
      | none => none
      | some (n, l2) => match rdMany rdProto n.toNat 0 l2 with
        | none => none
        | some (ps, _, l3) => if l3 = [] ∧ (okPs ps 0).isSome = true then some ps else none
    else none
theorem rdRead_writeB {ps : List Pr} {q : Int} (ho : okPs ps 0 = some q) (hz : prSizes ps ≤ 1048576) : rdRead (writeB ps) = some ps := by
  have hl := prSizes_len ps
  have hm := rdMany_protos ps 0 q [] ho hz (by decide)
  rw [List.append_nil] at hm
  have e : writeB ps = [84, 65, 78, 68] ++ (numB ps.length ++ protosB ps) := by unfold writeB; rw [List.append_assoc]
  have et : takeP (writeB ps) 4 = some (magicS, numB ps.length ++ protosB ps) := by
    rw [e]
    unfold takeP
    rw [if_pos (by simp)]
    rfl
  unfold rdRead
  rw [et]
  simp only [if_true]
  rw [rdNum_numB _ _ (by omega)]
  simp only []
  rw [Int.toNat_natCast, hm]
  simp only []
  rw [if_pos ⟨by trivial, by rw [ho]; rfl⟩]
theorem writeB_of_rdRead {l : List Int} {ps : List Pr} (hu : Bytes l) (h : rdRead l = some ps) : l = writeB ps ∧ (okPs ps 0).isSome = true := by
  unfold rdRead at h
  cases a1 : takeP l 4 with
  | none => rw [a1] at h; cases h
  | some r =>
    obtain ⟨s, l1⟩ := r
    rw [a1] at h
    simp only [] at h
    by_cases hs : s = magicS
    · rw [if_pos hs] at h
      have b1 : l = [84, 65, 78, 68] ++ l1 := by
        unfold takeP at a1
        split at a1
        · simp only [Option.some.injEq, Prod.mk.injEq] at a1
          obtain ⟨e1, e2⟩ := a1
          have hut : Bytes (l.take 4) := fun x hx => hu x (List.mem_of_mem_take hx)
          have e3 := bytesO_strOf hut
          rw [e1, hs] at e3
          rw [← e2, show ([84, 65, 78, 68] : List Int) = l.take 4 from e3, List.take_append_drop]
        · cases a1
      have u1 : Bytes l1 := by rw [b1] at hu; exact hu.right
      cases a2 : rdNum l1 with
      | none => rw [a2] at h; cases h
      | some r =>
        obtain ⟨n, l2⟩ := r
        rw [a2] at h
        simp only [] at h
        obtain ⟨_, b2⟩ := numB_of_rdNum u1 a2
        have u2 : Bytes l2 := by rw [b2] at u1; exact u1.right
        cases a3 : rdMany rdProto n.toNat 0 l2 with
        | none => rw [a3] at h; cases h
        | some r =>
          obtain ⟨qs, q, l3⟩ := r
          rw [a3] at h
          simp only [] at h
          obtain ⟨c3, b3⟩ := flat_of_rdMany (g := protoB) protoB_of_rdProto _ u2 a3
          split at h
          · rename_i hc
            simp only [Option.some.injEq] at h
            subst h
            refine ⟨?_, hc.2⟩
            unfold writeB
            rw [b1, b2, b3, hc.1, ← c3, List.append_nil, List.append_assoc]
            rfl
          · cases h
    · rw [if_neg hs] at h; cases h
theorem writeB_cut2 {l m : List Pr} {a b : List Int} (h1 : ∀ p ∈ l, RightPr p) (h2 : ∀ p ∈ m, RightPr p) (h : writeB l ++ a = writeB m ++ b) : l = m ∧ a = b := by
  unfold writeB at h
  simp only [List.append_assoc] at h
  have h3 := List.append_cancel_left h
  obtain ⟨e1, e2⟩ := numB_cut _ _ _ _ h3
  exact protosB_cut e1 h1 h2 e2
/-- A beginning of a program's bytes is no program's; nor are its bytes with more behind them. -/
theorem rdRead_cut {ps : List Pr} {q : Int} (ho : okPs ps 0 = some q) {a b : List Int} (h : writeB ps = a ++ b) (hb : b ≠ []) : rdRead a = none := by
  cases hr : rdRead a with
  | none => rfl
  | some qs =>
    have hua : Bytes a := fun x hx => writeB_u ps x (by rw [h]; exact List.mem_append_left _ hx)
    obtain ⟨e1, e2⟩ := writeB_of_rdRead hua hr
    obtain ⟨r, hr2⟩ : ∃ r, okPs qs 0 = some r := Option.isSome_iff_exists.1 e2
    rw [e1, ← List.append_nil (writeB ps)] at h
    obtain ⟨_, e3⟩ := writeB_cut2 (okPs_mem (by decide) ho) (okPs_mem (by decide) hr2) h
    exact absurd e3.symm hb
theorem rdRead_more {ps : List Pr} {q : Int} (ho : okPs ps 0 = some q) {b : List Int} (hu : Bytes b) (hb : b ≠ []) : rdRead (writeB ps ++ b) = none := by
  cases hr : rdRead (writeB ps ++ b) with
  | none => rfl
  | some qs =>
    obtain ⟨e1, e2⟩ := writeB_of_rdRead ((writeB_u ps).app hu) hr
    obtain ⟨r, hr2⟩ : ∃ r, okPs qs 0 = some r := Option.isSome_iff_exists.1 e2
    rw [← List.append_nil (writeB qs)] at e1
    obtain ⟨_, e3⟩ := writeB_cut2 (okPs_mem (by decide) ho) (okPs_mem (by decide) hr2) e1
    exact absurd e3 hb
end Go.Proofs.Ytkjfplldfjmbaaa

/- What is read is no greater than its bytes. -/
namespace Go.Proofs.Ytkjfplldfjmbaaa
open Go.RowKit
theorem takeP_size {l : List Int} {n : Nat} {s : ByteArray} {l' : List Int} (h : takeP l n = some (s, l')) : s.size + l'.length ≤ l.length := by
  unfold takeP at h
  split at h
  · simp only [Option.some.injEq, Prod.mk.injEq] at h
    obtain ⟨rfl, rfl⟩ := h
    have : (strOfNums (l.take n)).size = (l.take n).length := by
      simp [strOfNums, ByteArray.size]
    rw [this, List.length_take, List.length_drop]
    omega
  · cases h
theorem rdText_size {l : List Int} {s : ByteArray} {l' : List Int} (h : rdText l = some (s, l')) : 1 + s.size + l'.length ≤ l.length := by
  unfold rdText rdNum at h
  cases ho : rdNumF 0 0 l with
  | none => rw [ho] at h; cases h
  | some r =>
    obtain ⟨x, m⟩ := r
    rw [ho] at h
    have := rdNumF_bd l 0 0 x m ho
    have h' : takeP m x.toNat = some (s, l') := h
    have := takeP_size h'
    omega
theorem rdLimbs_size : ∀ (n : Nat) {l : List Int} {xs l' : List Int}, rdLimbs n l = some (xs, l') → xs.length + l'.length ≤ l.length
  | 0, l, xs, l', h => by
    simp only [rdLimbs, Option.some.injEq, Prod.mk.injEq] at h
    obtain ⟨rfl, rfl⟩ := h
    simp
  | n + 1, l, xs, l', h => by
    unfold rdLimbs at h
    cases hn : rdNum l with
    | none => rw [hn] at h; cases h
    | some r =>
      obtain ⟨x, m⟩ := r
      rw [hn] at h
      have hb := rdNumF_bd l 0 0 x m hn
      have h2 : (if 4294967296 ≤ x then none else match rdLimbs n m with | none => none | some (xs, l2) => some (x :: xs, l2)) = some (xs, l') := h
      split at h2
      · cases h2
      · cases hm : rdLimbs n m with
        | none => rw [hm] at h2; cases h2
        | some r =>
          obtain ⟨ys, t⟩ := r
          rw [hm] at h2
          have h3 := rdLimbs_size n hm
          simp only [Option.some.injEq, Prod.mk.injEq] at h2
          obtain ⟨rfl, rfl⟩ := h2
          simp only [List.length_cons]
          omega
theorem rdMany_size {α : Type} {f : Int → List Int → Option (α × Int × List Int)} (sz : α → Nat) (hf : ∀ p l d q l', f p l = some (d, q, l') → sz d + l'.length ≤ l.length) :
    ∀ (n : Nat) {p : Int} {l : List Int} {ds : List α} {q : Int} {l' : List Int}, rdMany f n p l = some (ds, q, l') → (ds.map sz).sum + l'.length ≤ l.length
  | 0, p, l, ds, q, l', h => by
    simp only [rdMany, Option.some.injEq, Prod.mk.injEq] at h
    obtain ⟨rfl, rfl, rfl⟩ := h
    simp
  | n + 1, p, l, ds, q, l', h => by
    unfold rdMany at h
    cases hn : f p l with
    | none => rw [hn] at h; cases h
    | some r =>
      obtain ⟨d, p1, l1⟩ := r
      rw [hn] at h
      have hb := hf p l d p1 l1 hn
      have h2 : (match rdMany f n p1 l1 with | none => none | some (ds, p2, l2) => some (d :: ds, p2, l2)) = some (ds, q, l') := h
      cases hm : rdMany f n p1 l1 with
      | none => rw [hm] at h2; cases h2
      | some r =>
        obtain ⟨es, p2, l2⟩ := r
        rw [hm] at h2
        have h3 := rdMany_size sz hf n hm
        simp only [Option.some.injEq, Prod.mk.injEq] at h2
        obtain ⟨rfl, rfl, rfl⟩ := h2
        simp only [List.map_cons, List.sum_cons]
        omega
theorem sizes_sum : ∀ l : List Dm, Dm.sizes l = (l.map Dm.size).sum
  | [] => by rw [Dm.sizes]; rfl
  | d :: l => by rw [Dm.sizes, sizes_sum l]; simp
theorem mk_size (k n : Int) (neg : Bool) (mag : List Int) (s : ByteArray) (items rest : List Dm) : (Dm.mk k n neg mag s items rest).size = 1 + mag.length + s.size + (Dm.sizes items + Dm.sizes rest) := by rw [Dm.size]
theorem noT_size : noT.size = 0 := rfl
theorem sizes_nil : Dm.sizes [] = 0 := by rw [Dm.sizes]
theorem sizes_one (d : Dm) : Dm.sizes [d] = d.size := by rw [Dm.sizes, sizes_nil]; omega
theorem rdConst_size : ∀ (deep : Nat) (p : Int) (l : List Int) (d : Dm) (q : Int) (l' : List Int), rdConst deep p l = some (d, q, l') → d.size + l'.length ≤ l.length
  | 0, p, l, d, q, l', h => by cases h
  | deep + 1, p, l, d, q, l', h => by
    unfold rdConst at h
    by_cases hp : 20000 < p + 1
    · rw [if_pos hp] at h; cases h
    rw [if_neg hp] at h
    cases hn : rdNum l with
    | none => rw [hn] at h; cases h
    | some r =>
      obtain ⟨k, l1⟩ := r
      rw [hn] at h
      have hb := rdNumF_bd l 0 0 k l1 hn
      simp only [] at h
      by_cases h1 : k = 1
      · rw [if_pos h1] at h
        cases a1 : rdBool l1 with
        | none => rw [a1] at h; cases h
        | some r =>
          obtain ⟨neg, l2⟩ := r
          rw [a1] at h
          have b1 := rdBool_len a1
          simp only [] at h
          cases a2 : rdNum l2 with
          | none => rw [a2] at h; cases h
          | some r =>
            obtain ⟨n, l3⟩ := r
            rw [a2] at h
            have b2 := rdNumF_bd l2 0 0 n l3 a2
            simp only [] at h
            cases a3 : rdLimbs n.toNat l3 with
            | none => rw [a3] at h; cases h
            | some r =>
              obtain ⟨mag, l4⟩ := r
              rw [a3] at h
              have b3 := rdLimbs_size _ a3
              simp only [Option.some.injEq, Prod.mk.injEq] at h
              obtain ⟨rfl, rfl, rfl⟩ := h
              rw [mk_size, noT_size, sizes_nil]
              omega
      rw [if_neg h1] at h
      by_cases h2 : k = 2 ∨ k = 3 ∨ k = 9
      · rw [if_pos h2] at h
        cases a1 : rdSign l1 with
        | none => rw [a1] at h; cases h
        | some r =>
          obtain ⟨n, l2⟩ := r
          rw [a1] at h
          have b1 := (rdSign_bd a1).2.2
          simp only [Option.some.injEq, Prod.mk.injEq] at h
          obtain ⟨rfl, rfl, rfl⟩ := h
          rw [mk_size, noT_size, sizes_nil, List.length_nil]
          omega
      rw [if_neg h2] at h
      by_cases h4 : k = 4
      · rw [if_pos h4] at h
        cases a1 : rdText l1 with
        | none => rw [a1] at h; cases h
        | some r =>
          obtain ⟨s, l2⟩ := r
          rw [a1] at h
          have b1 := rdText_size a1
          simp only [Option.some.injEq, Prod.mk.injEq] at h
          obtain ⟨rfl, rfl, rfl⟩ := h
          rw [mk_size, sizes_nil, List.length_nil]
          omega
      rw [if_neg h4] at h
      by_cases h5 : k = 5
      · rw [if_pos h5] at h
        cases a1 : rdText l1 with
        | none => rw [a1] at h; cases h
        | some r =>
          obtain ⟨s, l2⟩ := r
          rw [a1] at h
          have b1 := rdText_size a1
          simp only [] at h
          cases a2 : rdSign l2 with
          | none => rw [a2] at h; cases h
          | some r =>
            obtain ⟨n, l3⟩ := r
            rw [a2] at h
            have b2 := (rdSign_bd a2).2.2
            simp only [Option.some.injEq, Prod.mk.injEq] at h
            obtain ⟨rfl, rfl, rfl⟩ := h
            rw [mk_size, sizes_nil, List.length_nil]
            omega
      rw [if_neg h5] at h
      by_cases h6 : k = 6 ∨ k = 7
      · rw [if_pos h6] at h
        cases a1 : rdNum l1 with
        | none => rw [a1] at h; cases h
        | some r =>
          obtain ⟨n, l2⟩ := r
          rw [a1] at h
          have b1 := rdNumF_bd l1 0 0 n l2 a1
          simp only [] at h
          cases a2 : rdMany (rdConst deep) n.toNat (p + 1) l2 with
          | none => rw [a2] at h; cases h
          | some r =>
            obtain ⟨items, q1, l3⟩ := r
            rw [a2] at h
            have b2 := rdMany_size Dm.size (rdConst_size deep) _ a2
            rw [← sizes_sum] at b2
            simp only [] at h
            by_cases h66 : k = 6
            · rw [if_pos h66] at h
              cases a3 : rdBool l3 with
              | none => rw [a3] at h; cases h
              | some r =>
                obtain ⟨b, l4⟩ := r
                rw [a3] at h
                have b3 := rdBool_len a3
                cases b with
                | false =>
                  simp only [Option.some.injEq, Prod.mk.injEq] at h
                  obtain ⟨rfl, rfl, rfl⟩ := h
                  rw [mk_size, noT_size, sizes_nil, List.length_nil]
                  omega
                | true =>
                  simp only [] at h
                  cases a4 : rdConst deep q1 l4 with
                  | none => rw [a4] at h; cases h
                  | some r =>
                    obtain ⟨r, q2, l5⟩ := r
                    rw [a4] at h
                    have b4 := rdConst_size deep _ _ _ _ _ a4
                    simp only [Option.some.injEq, Prod.mk.injEq] at h
                    obtain ⟨rfl, rfl, rfl⟩ := h
                    rw [mk_size, noT_size, sizes_one, List.length_nil]
                    omega
            · rw [if_neg h66] at h
              simp only [Option.some.injEq, Prod.mk.injEq] at h
              obtain ⟨rfl, rfl, rfl⟩ := h
              rw [mk_size, noT_size, sizes_nil, List.length_nil]
              omega
      rw [if_neg h6] at h
      by_cases h8 : k = 8
      · rw [if_pos h8] at h
        simp only [Option.some.injEq, Prod.mk.injEq] at h
        obtain ⟨rfl, rfl, rfl⟩ := h
        rw [mk_size, noT_size, sizes_nil, List.length_nil]
        omega
      · rw [if_neg h8] at h; cases h
theorem rdIns_same {p : Int} {l : List Int} {i : Int × Int × Int} {q : Int} {t : List Int} (h : rdIns p l = some (i, q, t)) : q = p ∧ 1 + t.length ≤ l.length := by
  unfold rdIns at h
  cases a1 : rdNum l with
  | none => rw [a1] at h; cases h
  | some r =>
    obtain ⟨o, l1⟩ := r
    rw [a1] at h
    have b1 := (rdNumF_bd l 0 0 o l1 a1).2.2
    simp only [] at h
    cases a2 : rdSign l1 with
    | none => rw [a2] at h; cases h
    | some r =>
      obtain ⟨a, l2⟩ := r
      rw [a2] at h
      have b2 := (rdSign_bd a2).2.2
      simp only [] at h
      cases a3 : rdSign l2 with
      | none => rw [a3] at h; cases h
      | some r =>
        obtain ⟨b, l3⟩ := r
        rw [a3] at h
        have b3 := (rdSign_bd a3).2.2
        simp only [Option.some.injEq, Prod.mk.injEq] at h
        obtain ⟨_, rfl, rfl⟩ := h
        omega
theorem rdName_same {p : Int} {l : List Int} {s : ByteArray} {q : Int} {t : List Int} (h : rdName p l = some (s, q, t)) : q = p ∧ 1 + s.size + t.length ≤ l.length := by
  unfold rdName at h
  cases a1 : rdText l with
  | none => rw [a1] at h; cases h
  | some r =>
    obtain ⟨o, l1⟩ := r
    rw [a1] at h
    have b1 := rdText_size a1
    simp only [Option.some.injEq, Prod.mk.injEq] at h
    obtain ⟨rfl, rfl, rfl⟩ := h
    exact ⟨rfl, b1⟩
theorem rdMany_same {α : Type} {f : Int → List Int → Option (α × Int × List Int)} (hf : ∀ p l d q l', f p l = some (d, q, l') → q = p) :
    ∀ (n : Nat) {p : Int} {l : List Int} {ds : List α} {q : Int} {l' : List Int}, rdMany f n p l = some (ds, q, l') → q = p
  | 0, p, l, ds, q, l', h => by
    simp only [rdMany, Option.some.injEq, Prod.mk.injEq] at h
    exact h.2.1.symm
  | n + 1, p, l, ds, q, l', h => by
    unfold rdMany at h
    cases hn : f p l with
    | none => rw [hn] at h; cases h
    | some r =>
      obtain ⟨d, p1, l1⟩ := r
      rw [hn] at h
      have hb := hf p l d p1 l1 hn
      have h2 : (match rdMany f n p1 l1 with | none => none | some (ds, p2, l2) => some (d :: ds, p2, l2)) = some (ds, q, l') := h
      cases hm : rdMany f n p1 l1 with
      | none => rw [hm] at h2; cases h2
      | some r =>
        obtain ⟨es, p2, l2⟩ := r
        rw [hm] at h2
        have h3 := rdMany_same hf n hm
        simp only [Option.some.injEq, Prod.mk.injEq] at h2
        obtain ⟨rfl, rfl, rfl⟩ := h2
        rw [h3, hb]
/-- What a proto that is read takes: bytes and parts. -/
theorem rdProto_bd {p : Int} {l : List Int} {x : Pr} {q : Int} {t : List Int} (h : rdProto p l = some (x, q, t)) : p ≤ q ∧ (p ≤ 20000 → q ≤ 20000) ∧ x.size + t.length ≤ l.length := by
  unfold rdProto at h
  cases a1 : rdText l with
  | none => rw [a1] at h; cases h
  | some r =>
  obtain ⟨nm, l1⟩ := r
  rw [a1] at h
  have b1 := rdText_size a1
  simp only [] at h
  cases a2 : rdNum l1 with
  | none => rw [a2] at h; cases h
  | some r =>
  obtain ⟨pa, l2⟩ := r
  rw [a2] at h
  have b2 := (rdNumF_bd _ 0 0 _ _ a2).2.2
  simp only [] at h
  cases a3 : rdBool l2 with
  | none => rw [a3] at h; cases h
  | some r =>
  obtain ⟨pr, l3⟩ := r
  rw [a3] at h
  have b3 := rdBool_len a3
  simp only [] at h
  cases a4 : rdNum l3 with
  | none => rw [a4] at h; cases h
  | some r =>
  obtain ⟨pf, l4⟩ := r
  rw [a4] at h
  have b4 := (rdNumF_bd _ 0 0 _ _ a4).2.2
  simp only [] at h
  cases a5 : rdNum l4 with
  | none => rw [a5] at h; cases h
  | some r =>
  obtain ⟨cn, l5⟩ := r
  rw [a5] at h
  have b5 := (rdNumF_bd _ 0 0 _ _ a5).2.2
  simp only [] at h
  cases a6 : rdMany rdIns cn.toNat p l5 with
  | none => rw [a6] at h; cases h
  | some r =>
  obtain ⟨code, p1, l6⟩ := r
  rw [a6] at h
  have b6 := rdMany_size (fun _ => 1) (fun p l d q l' h => (rdIns_same h).2) _ a6
  have c6 := rdMany_same (fun p l d q l' h => (rdIns_same h).1) _ a6
  simp only [] at h
  cases a7 : rdNum l6 with
  | none => rw [a7] at h; cases h
  | some r =>
  obtain ⟨dn, l7⟩ := r
  rw [a7] at h
  have b7 := (rdNumF_bd _ 0 0 _ _ a7).2.2
  simp only [] at h
  cases a8 : rdMany (rdConst 100) dn.toNat p1 l7 with
  | none => rw [a8] at h; cases h
  | some r =>
  obtain ⟨consts, p2, l8⟩ := r
  rw [a8] at h
  have b8 := rdMany_size Dm.size (rdConst_size 100) _ a8
  rw [← sizes_sum] at b8
  have c8 := rdMany_bd (rdConst_bd 100) _ a8
  simp only [] at h
  cases a9 : rdNum l8 with
  | none => rw [a9] at h; cases h
  | some r =>
  obtain ⟨nn, l9⟩ := r
  rw [a9] at h
  have b9 := (rdNumF_bd _ 0 0 _ _ a9).2.2
  simp only [] at h
  cases a10 : rdMany rdName nn.toNat p2 l9 with
  | none => rw [a10] at h; cases h
  | some r =>
  obtain ⟨names, p3, l10⟩ := r
  rw [a10] at h
  have b10 := rdMany_size (fun s : ByteArray => 1 + s.size) (fun p l d q l' h => (rdName_same h).2) _ a10
  have c10 := rdMany_same (fun p l d q l' h => (rdName_same h).1) _ a10
  simp only [Option.some.injEq, Prod.mk.injEq] at h
  obtain ⟨rfl, rfl, rfl⟩ := h
  have e6 : (code.map fun _ => 1).sum = code.length := by
    clear b6 a6
    induction code with
    | nil => rfl
    | cons _ l ih => rw [List.map_cons, List.sum_cons, ih, List.length_cons]; omega
  rw [e6] at b6
  refine ⟨by omega, by omega, ?_⟩
  unfold Pr.size
  simp only []
  omega
theorem rdProtos_bd : ∀ (n : Nat) {p : Int} {l : List Int} {xs : List Pr} {q : Int} {t : List Int}, rdMany rdProto n p l = some (xs, q, t) → prSizes xs + t.length ≤ l.length := fun n _ _ _ _ _ h =>
  rdMany_size Pr.size (fun _ _ _ _ _ h => (rdProto_bd h).2.2) n h
theorem rdRead_size {l : List Int} {ps : List Pr} (h : rdRead l = some ps) : prSizes ps ≤ l.length := by
  unfold rdRead at h
  cases a1 : takeP l 4 with
  | none => rw [a1] at h; cases h
  | some r =>
    obtain ⟨s, l1⟩ := r
    rw [a1] at h
    have b1 := takeP_size a1
    simp only [] at h
    split at h
    · cases a2 : rdNum l1 with
      | none => rw [a2] at h; cases h
      | some r =>
        obtain ⟨n, l2⟩ := r
        rw [a2] at h
        have b2 := (rdNumF_bd _ 0 0 _ _ a2).2.2
        simp only [] at h
        cases a3 : rdMany rdProto n.toNat 0 l2 with
        | none => rw [a3] at h; cases h
        | some r =>
          obtain ⟨xs, q, t⟩ := r
          rw [a3] at h
          have b3 := rdProtos_bd _ a3
          simp only [] at h
          split at h
          · simp only [Option.some.injEq] at h
            subst h
            omega
          · cases h
    · cases h
end Go.Proofs.Ytkjfplldfjmbaaa
