/- The program that bytes are, plainly; it is no greater than they. -/
import Derived.Test.YtkjfplldfjmbaaaPackRdD
import Derived.Test.YtkjfplldfjmbaaaPackWr
namespace Go.Proofs.Ytkjfplldfjmbaaa
open Go.RowKit
def rdIns (p : Int) (l : List Int) : Option ((Int × Int × Int) × Int × List Int) := match rdNum l with
  | none => none
  | some (o, l1) => match rdSign l1 with
    | none => none
    | some (a, l2) => match rdSign l2 with
      | none => none
      | some (b, l3) => some ((o, a, b), p, l3)
def rdName (p : Int) (l : List Int) : Option (ByteArray × Int × List Int) := match rdText l with
  | none => none
  | some (s, l1) => some (s, p, l1)
/-- The proto that bytes begin with. -/
def rdProto (p : Int) (l : List Int) : Option (Pr × Int × List Int) := match rdText l with
  | none => none
  | some (nm, l1) => match rdNum l1 with
    | none => none
    | some (pa, l2) => match rdBool l2 with
      | none => none
      | some (pr, l3) => match rdNum l3 with
        | none => none
        | some (pf, l4) => match rdNum l4 with
          | none => none
          | some (cn, l5) => match rdMany rdIns cn.toNat p l5 with
            | none => none
            | some (code, p1, l6) => match rdNum l6 with
              | none => none
              | some (dn, l7) => match rdMany (rdConst 100) dn.toNat p1 l7 with
                | none => none
                | some (consts, p2, l8) => match rdNum l8 with
                  | none => none
                  | some (nn, l9) => match rdMany rdName nn.toNat p2 l9 with
                    | none => none
                    | some (names, p3, l10) => some (⟨nm, pa, pf, pr, code, consts, names⟩, p3, l10)
def magicS : ByteArray := ⟨#[84, 65, 78, 68]⟩
open Classical in
/-- The program that bytes are. -/
noncomputable def rdRead (l : List Int) : Option (List Pr) := match takeP l 4 with
  | none => none
  | some (s, l1) => if s = magicS then match rdNum l1 with
      | none => none
      | some (n, l2) => match rdMany rdProto n.toNat 0 l2 with
        | none => none
        | some (ps, _, l3) => if l3 = [] ∧ (okPs ps 0).isSome = true then some ps else none
    else none
theorem takeP_size {l : List Int} {n : Nat} {s : ByteArray} {l' : List Int} (h : takeP l n = some (s, l')) : s.size + l'.length ≤ l.length := by
  unfold takeP at h
  split at h
  · simp only [Option.some.injEq, Prod.mk.injEq] at h
    obtain ⟨rfl, rfl⟩ := h
    have : (strOfNums (l.take n)).size = (l.take n).length := by
      simp [strOfNums, ByteArray.size]
    rw [this, List.length_take, List.length_drop]
    omega
  · cases h
theorem rdText_size {l : List Int} {s : ByteArray} {l' : List Int} (h : rdText l = some (s, l')) : 1 + s.size + l'.length ≤ l.length := by
  unfold rdText rdNum at h
  cases ho : rdNumF 0 0 l with
  | none => rw [ho] at h; cases h
  | some r =>
    obtain ⟨x, m⟩ := r
    rw [ho] at h
    have := rdNumF_bd l 0 0 x m ho
    have h' : takeP m x.toNat = some (s, l') := h
    have := takeP_size h'
    omega
theorem rdLimbs_size : ∀ (n : Nat) {l : List Int} {xs l' : List Int}, rdLimbs n l = some (xs, l') → xs.length + l'.length ≤ l.length
  | 0, l, xs, l', h => by
    simp only [rdLimbs, Option.some.injEq, Prod.mk.injEq] at h
    obtain ⟨rfl, rfl⟩ := h
    simp
  | n + 1, l, xs, l', h => by
    unfold rdLimbs at h
    cases hn : rdNum l with
    | none => rw [hn] at h; cases h
    | some r =>
      obtain ⟨x, m⟩ := r
      rw [hn] at h
      have hb := rdNumF_bd l 0 0 x m hn
      have h2 : (if 4294967296 ≤ x then none else match rdLimbs n m with | none => none | some (xs, l2) => some (x :: xs, l2)) = some (xs, l') := h
      split at h2
      · cases h2
      · cases hm : rdLimbs n m with
        | none => rw [hm] at h2; cases h2
        | some r =>
          obtain ⟨ys, t⟩ := r
          rw [hm] at h2
          have h3 := rdLimbs_size n hm
          simp only [Option.some.injEq, Prod.mk.injEq] at h2
          obtain ⟨rfl, rfl⟩ := h2
          simp only [List.length_cons]
          omega
theorem rdMany_size {α : Type} {f : Int → List Int → Option (α × Int × List Int)} (sz : α → Nat) (hf : ∀ p l d q l', f p l = some (d, q, l') → sz d + l'.length ≤ l.length) :
    ∀ (n : Nat) {p : Int} {l : List Int} {ds : List α} {q : Int} {l' : List Int}, rdMany f n p l = some (ds, q, l') → (ds.map sz).sum + l'.length ≤ l.length
  | 0, p, l, ds, q, l', h => by
    simp only [rdMany, Option.some.injEq, Prod.mk.injEq] at h
    obtain ⟨rfl, rfl, rfl⟩ := h
    simp
  | n + 1, p, l, ds, q, l', h => by
    unfold rdMany at h
    cases hn : f p l with
    | none => rw [hn] at h; cases h
    | some r =>
      obtain ⟨d, p1, l1⟩ := r
      rw [hn] at h
      have hb := hf p l d p1 l1 hn
      have h2 : (match rdMany f n p1 l1 with | none => none | some (ds, p2, l2) => some (d :: ds, p2, l2)) = some (ds, q, l') := h
      cases hm : rdMany f n p1 l1 with
      | none => rw [hm] at h2; cases h2
      | some r =>
        obtain ⟨es, p2, l2⟩ := r
        rw [hm] at h2
        have h3 := rdMany_size sz hf n hm
        simp only [Option.some.injEq, Prod.mk.injEq] at h2
        obtain ⟨rfl, rfl, rfl⟩ := h2
        simp only [List.map_cons, List.sum_cons]
        omega
theorem sizes_sum : ∀ l : List Dm, Dm.sizes l = (l.map Dm.size).sum
  | [] => by rw [Dm.sizes]; rfl
  | d :: l => by rw [Dm.sizes, sizes_sum l]; simp
theorem mk_size (k n : Int) (neg : Bool) (mag : List Int) (s : ByteArray) (items rest : List Dm) : (Dm.mk k n neg mag s items rest).size = 1 + mag.length + s.size + (Dm.sizes items + Dm.sizes rest) := by rw [Dm.size]
theorem noT_size : noT.size = 0 := rfl
theorem sizes_nil : Dm.sizes [] = 0 := by rw [Dm.sizes]
theorem sizes_one (d : Dm) : Dm.sizes [d] = d.size := by rw [Dm.sizes, sizes_nil]; omega
theorem rdConst_size : ∀ (deep : Nat) (p : Int) (l : List Int) (d : Dm) (q : Int) (l' : List Int), rdConst deep p l = some (d, q, l') → d.size + l'.length ≤ l.length
  | 0, p, l, d, q, l', h => by cases h
  | deep + 1, p, l, d, q, l', h => by
    unfold rdConst at h
    by_cases hp : 20000 < p + 1
    · rw [if_pos hp] at h; cases h
    rw [if_neg hp] at h
    cases hn : rdNum l with
    | none => rw [hn] at h; cases h
    | some r =>
      obtain ⟨k, l1⟩ := r
      rw [hn] at h
      have hb := rdNumF_bd l 0 0 k l1 hn
      simp only [] at h
      by_cases h1 : k = 1
      · rw [if_pos h1] at h
        cases a1 : rdBool l1 with
        | none => rw [a1] at h; cases h
        | some r =>
          obtain ⟨neg, l2⟩ := r
          rw [a1] at h
          have b1 := rdBool_len a1
          simp only [] at h
          cases a2 : rdNum l2 with
          | none => rw [a2] at h; cases h
          | some r =>
            obtain ⟨n, l3⟩ := r
            rw [a2] at h
            have b2 := rdNumF_bd l2 0 0 n l3 a2
            simp only [] at h
            cases a3 : rdLimbs n.toNat l3 with
            | none => rw [a3] at h; cases h
            | some r =>
              obtain ⟨mag, l4⟩ := r
              rw [a3] at h
              have b3 := rdLimbs_size _ a3
              simp only [Option.some.injEq, Prod.mk.injEq] at h
              obtain ⟨rfl, rfl, rfl⟩ := h
              rw [mk_size, noT_size, sizes_nil]
              omega
      rw [if_neg h1] at h
      by_cases h2 : k = 2 ∨ k = 3 ∨ k = 9
      · rw [if_pos h2] at h
        cases a1 : rdSign l1 with
        | none => rw [a1] at h; cases h
        | some r =>
          obtain ⟨n, l2⟩ := r
          rw [a1] at h
          have b1 := (rdSign_bd a1).2.2
          simp only [Option.some.injEq, Prod.mk.injEq] at h
          obtain ⟨rfl, rfl, rfl⟩ := h
          rw [mk_size, noT_size, sizes_nil, List.length_nil]
          omega
      rw [if_neg h2] at h
      by_cases h4 : k = 4
      · rw [if_pos h4] at h
        cases a1 : rdText l1 with
        | none => rw [a1] at h; cases h
        | some r =>
          obtain ⟨s, l2⟩ := r
          rw [a1] at h
          have b1 := rdText_size a1
          simp only [Option.some.injEq, Prod.mk.injEq] at h
          obtain ⟨rfl, rfl, rfl⟩ := h
          rw [mk_size, sizes_nil, List.length_nil]
          omega
      rw [if_neg h4] at h
      by_cases h5 : k = 5
      · rw [if_pos h5] at h
        cases a1 : rdText l1 with
        | none => rw [a1] at h; cases h
        | some r =>
          obtain ⟨s, l2⟩ := r
          rw [a1] at h
          have b1 := rdText_size a1
          simp only [] at h
          cases a2 : rdSign l2 with
          | none => rw [a2] at h; cases h
          | some r =>
            obtain ⟨n, l3⟩ := r
            rw [a2] at h
            have b2 := (rdSign_bd a2).2.2
            simp only [Option.some.injEq, Prod.mk.injEq] at h
            obtain ⟨rfl, rfl, rfl⟩ := h
            rw [mk_size, sizes_nil, List.length_nil]
            omega
      rw [if_neg h5] at h
      by_cases h6 : k = 6 ∨ k = 7
      · rw [if_pos h6] at h
        cases a1 : rdNum l1 with
        | none => rw [a1] at h; cases h
        | some r =>
          obtain ⟨n, l2⟩ := r
          rw [a1] at h
          have b1 := rdNumF_bd l1 0 0 n l2 a1
          simp only [] at h
          cases a2 : rdMany (rdConst deep) n.toNat (p + 1) l2 with
          | none => rw [a2] at h; cases h
          | some r =>
            obtain ⟨items, q1, l3⟩ := r
            rw [a2] at h
            have b2 := rdMany_size Dm.size (rdConst_size deep) _ a2
            rw [← sizes_sum] at b2
            simp only [] at h
            by_cases h66 : k = 6
            · rw [if_pos h66] at h
              cases a3 : rdBool l3 with
              | none => rw [a3] at h; cases h
              | some r =>
                obtain ⟨b, l4⟩ := r
                rw [a3] at h
                have b3 := rdBool_len a3
                cases b with
                | false =>
                  simp only [Option.some.injEq, Prod.mk.injEq] at h
                  obtain ⟨rfl, rfl, rfl⟩ := h
                  rw [mk_size, noT_size, sizes_nil, List.length_nil]
                  omega
                | true =>
                  simp only [] at h
                  cases a4 : rdConst deep q1 l4 with
                  | none => rw [a4] at h; cases h
                  | some r =>
                    obtain ⟨r, q2, l5⟩ := r
                    rw [a4] at h
                    have b4 := rdConst_size deep _ _ _ _ _ a4
                    simp only [Option.some.injEq, Prod.mk.injEq] at h
                    obtain ⟨rfl, rfl, rfl⟩ := h
                    rw [mk_size, noT_size, sizes_one, List.length_nil]
                    omega
            · rw [if_neg h66] at h
              simp only [Option.some.injEq, Prod.mk.injEq] at h
              obtain ⟨rfl, rfl, rfl⟩ := h
              rw [mk_size, noT_size, sizes_nil, List.length_nil]
              omega
      rw [if_neg h6] at h
      by_cases h8 : k = 8
      · rw [if_pos h8] at h
        simp only [Option.some.injEq, Prod.mk.injEq] at h
        obtain ⟨rfl, rfl, rfl⟩ := h
        rw [mk_size, noT_size, sizes_nil, List.length_nil]
        omega
      · rw [if_neg h8] at h; cases h
theorem rdIns_same {p : Int} {l : List Int} {i : Int × Int × Int} {q : Int} {t : List Int} (h : rdIns p l = some (i, q, t)) : q = p ∧ 1 + t.length ≤ l.length := by
  unfold rdIns at h
  cases a1 : rdNum l with
  | none => rw [a1] at h; cases h
  | some r =>
    obtain ⟨o, l1⟩ := r
    rw [a1] at h
    have b1 := (rdNumF_bd l 0 0 o l1 a1).2.2
    simp only [] at h
    cases a2 : rdSign l1 with
    | none => rw [a2] at h; cases h
    | some r =>
      obtain ⟨a, l2⟩ := r
      rw [a2] at h
      have b2 := (rdSign_bd a2).2.2
      simp only [] at h
      cases a3 : rdSign l2 with
      | none => rw [a3] at h; cases h
      | some r =>
        obtain ⟨b, l3⟩ := r
        rw [a3] at h
        have b3 := (rdSign_bd a3).2.2
        simp only [Option.some.injEq, Prod.mk.injEq] at h
        obtain ⟨_, rfl, rfl⟩ := h
        omega
theorem rdName_same {p : Int} {l : List Int} {s : ByteArray} {q : Int} {t : List Int} (h : rdName p l = some (s, q, t)) : q = p ∧ 1 + s.size + t.length ≤ l.length := by
  unfold rdName at h
  cases a1 : rdText l with
  | none => rw [a1] at h; cases h
  | some r =>
    obtain ⟨o, l1⟩ := r
    rw [a1] at h
    have b1 := rdText_size a1
    simp only [Option.some.injEq, Prod.mk.injEq] at h
    obtain ⟨rfl, rfl, rfl⟩ := h
    exact ⟨rfl, b1⟩
theorem rdMany_same {α : Type} {f : Int → List Int → Option (α × Int × List Int)} (hf : ∀ p l d q l', f p l = some (d, q, l') → q = p) :
    ∀ (n : Nat) {p : Int} {l : List Int} {ds : List α} {q : Int} {l' : List Int}, rdMany f n p l = some (ds, q, l') → q = p
  | 0, p, l, ds, q, l', h => by
    simp only [rdMany, Option.some.injEq, Prod.mk.injEq] at h
    exact h.2.1.symm
  | n + 1, p, l, ds, q, l', h => by
    unfold rdMany at h
    cases hn : f p l with
    | none => rw [hn] at h; cases h
    | some r =>
      obtain ⟨d, p1, l1⟩ := r
      rw [hn] at h
      have hb := hf p l d p1 l1 hn
      have h2 : (match rdMany f n p1 l1 with | none => none | some (ds, p2, l2) => some (d :: ds, p2, l2)) = some (ds, q, l') := h
      cases hm : rdMany f n p1 l1 with
      | none => rw [hm] at h2; cases h2
      | some r =>
        obtain ⟨es, p2, l2⟩ := r
        rw [hm] at h2
        have h3 := rdMany_same hf n hm
        simp only [Option.some.injEq, Prod.mk.injEq] at h2
        obtain ⟨rfl, rfl, rfl⟩ := h2
        rw [h3, hb]
/-- What a proto that is read takes: bytes and parts. -/
theorem rdProto_bd {p : Int} {l : List Int} {x : Pr} {q : Int} {t : List Int} (h : rdProto p l = some (x, q, t)) : p ≤ q ∧ (p ≤ 20000 → q ≤ 20000) ∧ x.size + t.length ≤ l.length := by
  unfold rdProto at h
  cases a1 : rdText l with
  | none => rw [a1] at h; cases h
  | some r =>
  obtain ⟨nm, l1⟩ := r
  rw [a1] at h
  have b1 := rdText_size a1
  simp only [] at h
  cases a2 : rdNum l1 with
  | none => rw [a2] at h; cases h
  | some r =>
  obtain ⟨pa, l2⟩ := r
  rw [a2] at h
  have b2 := (rdNumF_bd _ 0 0 _ _ a2).2.2
  simp only [] at h
  cases a3 : rdBool l2 with
  | none => rw [a3] at h; cases h
  | some r =>
  obtain ⟨pr, l3⟩ := r
  rw [a3] at h
  have b3 := rdBool_len a3
  simp only [] at h
  cases a4 : rdNum l3 with
  | none => rw [a4] at h; cases h
  | some r =>
  obtain ⟨pf, l4⟩ := r
  rw [a4] at h
  have b4 := (rdNumF_bd _ 0 0 _ _ a4).2.2
  simp only [] at h
  cases a5 : rdNum l4 with
  | none => rw [a5] at h; cases h
  | some r =>
  obtain ⟨cn, l5⟩ := r
  rw [a5] at h
  have b5 := (rdNumF_bd _ 0 0 _ _ a5).2.2
  simp only [] at h
  cases a6 : rdMany rdIns cn.toNat p l5 with
  | none => rw [a6] at h; cases h
  | some r =>
  obtain ⟨code, p1, l6⟩ := r
  rw [a6] at h
  have b6 := rdMany_size (fun _ => 1) (fun p l d q l' h => (rdIns_same h).2) _ a6
  have c6 := rdMany_same (fun p l d q l' h => (rdIns_same h).1) _ a6
  simp only [] at h
  cases a7 : rdNum l6 with
  | none => rw [a7] at h; cases h
  | some r =>
  obtain ⟨dn, l7⟩ := r
  rw [a7] at h
  have b7 := (rdNumF_bd _ 0 0 _ _ a7).2.2
  simp only [] at h
  cases a8 : rdMany (rdConst 100) dn.toNat p1 l7 with
  | none => rw [a8] at h; cases h
  | some r =>
  obtain ⟨consts, p2, l8⟩ := r
  rw [a8] at h
  have b8 := rdMany_size Dm.size (rdConst_size 100) _ a8
  rw [← sizes_sum] at b8
  have c8 := rdMany_bd (rdConst_bd 100) _ a8
  simp only [] at h
  cases a9 : rdNum l8 with
  | none => rw [a9] at h; cases h
  | some r =>
  obtain ⟨nn, l9⟩ := r
  rw [a9] at h
  have b9 := (rdNumF_bd _ 0 0 _ _ a9).2.2
  simp only [] at h
  cases a10 : rdMany rdName nn.toNat p2 l9 with
  | none => rw [a10] at h; cases h
  | some r =>
  obtain ⟨names, p3, l10⟩ := r
  rw [a10] at h
  have b10 := rdMany_size (fun s : ByteArray => 1 + s.size) (fun p l d q l' h => (rdName_same h).2) _ a10
  have c10 := rdMany_same (fun p l d q l' h => (rdName_same h).1) _ a10
  simp only [Option.some.injEq, Prod.mk.injEq] at h
  obtain ⟨rfl, rfl, rfl⟩ := h
  have e6 : (code.map fun _ => 1).sum = code.length := by
    clear b6 a6
    induction code with
    | nil => rfl
    | cons _ l ih => rw [List.map_cons, List.sum_cons, ih, List.length_cons]; omega
  rw [e6] at b6
  refine ⟨by omega, by omega, ?_⟩
  unfold Pr.size
  simp only []
  omega
theorem rdProtos_bd : ∀ (n : Nat) {p : Int} {l : List Int} {xs : List Pr} {q : Int} {t : List Int}, rdMany rdProto n p l = some (xs, q, t) → prSizes xs + t.length ≤ l.length := fun n _ _ _ _ _ h =>
  rdMany_size Pr.size (fun _ _ _ _ _ h => (rdProto_bd h).2.2) n h
theorem rdRead_size {l : List Int} {ps : List Pr} (h : rdRead l = some ps) : prSizes ps ≤ l.length := by
  unfold rdRead at h
  cases a1 : takeP l 4 with
  | none => rw [a1] at h; cases h
  | some r =>
    obtain ⟨s, l1⟩ := r
    rw [a1] at h
    have b1 := takeP_size a1
    simp only [] at h
    split at h
    · cases a2 : rdNum l1 with
      | none => rw [a2] at h; cases h
      | some r =>
        obtain ⟨n, l2⟩ := r
        rw [a2] at h
        have b2 := (rdNumF_bd _ 0 0 _ _ a2).2.2
        simp only [] at h
        cases a3 : rdMany rdProto n.toNat 0 l2 with
        | none => rw [a3] at h; cases h
        | some r =>
          obtain ⟨xs, q, t⟩ := r
          rw [a3] at h
          have b3 := rdProtos_bd _ a3
          simp only [] at h
          split at h
          · simp only [Option.some.injEq] at h
            subst h
            omega
          · cases h
    · cases h
end Go.Proofs.Ytkjfplldfjmbaaa
