/- tandemlaw04.plain: what has no parts. -/
import Derived.Test.YtanjiecefioffaaVE2
import Derived.Test.YtanjiecefioffaaVE7
namespace Go.Proofs.Ytanjiecefioffaa
open Go.RowKit

/-- A list with a rest, joined. -/
def joinD (items : List Dm) : Dm → Dm
  | .mk k n p m t i r => if k = 6 then .mk 6 0 false [] ⟨#[]⟩ (items ++ i) r else .mk 6 0 false [] ⟨#[]⟩ items [.mk k n p m t i r]
mutual
def plainP : Dm → Dm
  | .mk k n neg mag text items rest =>
    if k = 1 then .mk 1 0 (decide (sgn neg (valL mag) < 0)) (limbsOf (sgn neg (valL mag)).natAbs) ⟨#[]⟩ [] []
    else if k = 2 ∨ k = 3 then .mk k n false [] ⟨#[]⟩ [] []
    else if k = 4 ∨ k = 5 then .mk k 0 false [] text [] []
    else if k = 6 then (match plainPs rest with
      | [r] => joinD (plainPs items) r
      | _ => .mk 6 0 false [] ⟨#[]⟩ (plainPs items) [])
    else if k = 7 then .mk 7 0 false [] ⟨#[]⟩ (plainPs items) []
    else .mk k 0 false [] ⟨#[]⟩ [] []
def plainPs : List Dm → List Dm
  | [] => []
  | d :: l => plainP d :: plainPs l
end
theorem plainPs_len (l : List Dm) : (plainPs l).length = l.length := by
  induction l with
  | nil => rfl
  | cons d l ih => simp only [plainPs, List.length_cons, ih]
theorem plainPs_get {l : List Dm} {i : Nat} {d : Dm} (h : l[i]? = some d) : (plainPs l)[i]? = some (plainP d) := by
  induction l generalizing i with
  | nil => simp at h
  | cons x l ih =>
    cases i with
    | zero => simp at h; subst h; rfl
    | succ i => simp only [plainPs, List.getElem?_cons_succ]; exact ih (by simpa using h)
theorem plainPs_take (l : List Dm) (k : Nat) : plainPs (l.take k) = (plainPs l).take k := by
  induction l generalizing k with
  | nil => simp [plainPs]
  | cons x l ih => cases k with
    | zero => rfl
    | succ k => simp only [List.take_succ_cons, plainPs, ih]
theorem plainP_join (n : Int) (neg : Bool) (mag : List Int) (text : ByteArray) (items : List Dm) (r0 : Dm) : plainP (.mk 6 n neg mag text items [r0]) = joinD (plainPs items) (plainP r0) := by
  conv => lhs; unfold plainP
  simp [plainPs]
theorem size_mk (k n : Int) (neg : Bool) (mag : List Int) (text : ByteArray) (items rest : List Dm) : (Dm.mk k n neg mag text items rest).size = 1 + mag.length + text.size + (Dm.sizes items + Dm.sizes rest) := by simp only [Dm.size]
theorem size_one (d : Dm) : Dm.sizes [d] = d.size := by simp [Dm.sizes]
theorem size_nil : Dm.sizes [] = 0 := by simp [Dm.sizes]
def PlainPost (R : HP) (d : Dm) (w : World) (e : Ending) (w' : World) : Prop :=
  ∃ cs M, e = .returned (.agg cs.toArray) ∧ DK M (plainP d) cs ∧ (plainP d).size ≤ d.size ∧ sat w' (M * R) ∧ Below 0 w w'
set_option maxRecDepth 100000 in
set_option maxHeartbeats 8000000 in
theorem plain_leaf (k n : Int) (neg : Bool) (mag : List Int) (text : ByteArray) (items rest : List Dm) (hsz : (Dm.mk k n neg mag text items rest).size ≤ 1048576) (hk6 : k ≠ 6) (hk7 : k ≠ 7)
    (w : World) (R : HP) (cs : List Value) (hs : sat w R) (hd : DK R (.mk k n neg mag text items rest) cs) :
    Calls Try.prog 31 #[.agg cs.toArray] w (PlainPost R (.mk k n neg mag text items rest) w) := by
  unfold Dm.size at hsz
  obtain ⟨am, cm, ai, ci, ar, cr, rfl, ⟨hk, hn, hmag, hml, hcm, hci, hcr⟩, hit, hre⟩ := hd.open
  have h1 := ((hs.alloc (dmO [.int .i64 k, .int .i64 n, .bool neg, .slice am mag.length cm, .string text, .slice ai items.length ci, .slice ar rest.length cr])).alloc (dmO [.int .i64 0, .int .i64 0, .bool false, .slice none 0 0, .string ⟨#[]⟩, .slice none 0 0, .slice none 0 0])).alloc (dmO [.int .i64 k, .int .i64 0, .bool false, .slice none 0 0, .string ⟨#[]⟩, .slice none 0 0, .slice none 0 0])
  simp only [World.size_alloc] at h1
  obtain ⟨g, hg⟩ : ∃ g, w.heap.size = g := ⟨_, rfl⟩
  rw [hg] at h1
  have hb1 : Below 0 w (((w.alloc (dmO [.int .i64 k, .int .i64 n, .bool neg, .slice am mag.length cm, .string text, .slice ai items.length ci, .slice ar rest.length cr])).alloc (dmO [.int .i64 0, .int .i64 0, .bool false, .slice none 0 0, .string ⟨#[]⟩, .slice none 0 0, .slice none 0 0])).alloc (dmO [.int .i64 k, .int .i64 0, .bool false, .slice none 0 0, .string ⟨#[]⟩, .slice none 0 0, .slice none 0 0])) := ((Below.zero_alloc _ _).trans (Below.zero_alloc _ _)).trans (Below.zero_alloc _ _)
  have hmagR : ∀ w', sat w' (Go.Proofs.Ytanjiecefioffaa.blk (g + 1 + 1) (dmO [.int .i64 k, .int .i64 0, .bool false, .slice none 0 0, .string ⟨#[]⟩, .slice none 0 0, .slice none 0 0]) * (Go.Proofs.Ytanjiecefioffaa.blk (g + 1) (dmO [.int .i64 0, .int .i64 0, .bool false, .slice none 0 0, .string ⟨#[]⟩, .slice none 0 0, .slice none 0 0]) * (Go.Proofs.Ytanjiecefioffaa.blk g (dmO [.int .i64 k, .int .i64 n, .bool neg, .slice am mag.length cm, .string text, .slice ai items.length ci, .slice ar rest.length cr]) * R))) → MagW w' am mag := fun w' h => hmag w' h.right.right.right
  have HX := Lib.hid (And.intro hk (And.intro hn hml))
  have HB := Lib.hid (And.intro h1 hb1)
  clear hit hre hk hn hd hs hmag hb1
  have b0 := h1.right.right.left.cell 0
  have b1 := h1.right.right.left.cell 1
  have b2 := h1.right.right.left.cell 2
  have b3 := h1.right.right.left.cell 3
  have b4 := h1.right.right.left.cell 4
  simp only [List.getElem?_toArray, List.getElem?_cons_zero, List.getElem?_cons_succ] at b0 b1 b2 b3 b4
  have e6 : (k == 6) = false := by simp [hk6]
  have e7 : (k == 7) = false := by simp [hk7]
  clear h1
  by_cases hk1 : k = 1
  · subst hk1
    clear e6 e7
    have hC := ref_Canon HB.out.1 neg am cm mag hmagR hml (by omega)
    have hp : plainP (.mk 1 n neg mag text items rest) = .mk 1 0 (decide (sgn neg (valL mag) < 0)) (limbsOf (sgn neg (valL mag)).natAbs) ⟨#[]⟩ [] [] := by
      unfold plainP
      rw [if_pos rfl]
    have hml2 : (limbsOf (sgn neg (valL mag)).natAbs).length ≤ mag.length := by rw [sgn_abs]; exact limbsOf_len_le hml
    unfold RefNumPost at hC
    obtain ⟨q, hq⟩ : ∃ q, decide (sgn neg (valL mag) < 0) = q := ⟨_, rfl⟩
    have hlm := limbsOf_limbs (sgn neg (valL mag)).natAbs
    rw [hq] at hC hp
    generalize limbsOf (sgn neg (valL mag)).natAbs = m at *
    have HL := Lib.hid hlm
    clear hlm hq hmagR
    go_enter Try.func31, Try.ntmps31
    go_upto_region 2 with (fail)
    generalize ((w.alloc (dmO [.int .i64 1, .int .i64 n, .bool neg, .slice am mag.length cm, .string text, .slice ai items.length ci, .slice ar rest.length cr])).alloc (dmO [.int .i64 0, .int .i64 0, .bool false, .slice none 0 0, .string ⟨#[]⟩, .slice none 0 0, .slice none 0 0])).alloc (dmO [.int .i64 1, .int .i64 0, .bool false, .slice none 0 0, .string ⟨#[]⟩, .slice none 0 0, .slice none 0 0]) = w7 at *
    go_wp2_with fail
    with_reducible refine hC.mono ?_
    clear hC b0 b1 b2 b3 b4
    rintro e w3 ⟨ro, rc, rfl, h3, hb3⟩
    have hrc := own_cap h3
    have h3a : sat w3 (Go.Proofs.Ytanjiecefioffaa.blk (g + 1 + 1) (dmO [.int .i64 1, .int .i64 0, .bool false, .slice none 0 0, .string ⟨#[]⟩, .slice none 0 0, .slice none 0 0]) * (Go.Proofs.Ytanjiecefioffaa.blk (g + 1) (dmO [.int .i64 0, .int .i64 0, .bool false, .slice none 0 0, .string ⟨#[]⟩, .slice none 0 0, .slice none 0 0]) * (own 70 1 (.slice ro m.length rc) m.length (m.map fun x => .int .u32 x) * R))) := (show sat w3 (Go.Proofs.Ytanjiecefioffaa.blk g (dmO [.int .i64 1, .int .i64 n, .bool neg, .slice am mag.length cm, .string text, .slice ai items.length ci, .slice ar rest.length cr]) * (Go.Proofs.Ytanjiecefioffaa.blk (g + 1 + 1) (dmO [.int .i64 1, .int .i64 0, .bool false, .slice none 0 0, .string ⟨#[]⟩, .slice none 0 0, .slice none 0 0]) * (Go.Proofs.Ytanjiecefioffaa.blk (g + 1) (dmO [.int .i64 0, .int .i64 0, .bool false, .slice none 0 0, .string ⟨#[]⟩, .slice none 0 0, .slice none 0 0]) * (own 70 1 (.slice ro m.length rc) m.length (m.map fun x => .int .u32 x) * R)))) from h3.perm (by ac_rfl)).right
    have HM := Lib.hid (And.intro HL.out (And.intro hrc HB.out.2))
    have x2 := h3a.left.cell 2
    have x3 := h3a.left.cell 3
    have f2 := h3a.left.frozen 2
    have f3 := h3a.left.frozen 3
    simp only [List.getElem?_toArray, List.getElem?_cons_zero, List.getElem?_cons_succ] at x2 x3
    have h8' : sat ((w3.setCell ⟨g + 1 + 1, 2, none⟩ (.bool q)).setCell ⟨g + 1 + 1, 3, none⟩ (.slice ro m.length rc)) (Go.Proofs.Ytanjiecefioffaa.blk (g + 1 + 1) (dmO [.int .i64 1, .int .i64 0, .bool q, .slice ro m.length rc, .string ⟨#[]⟩, .slice none 0 0, .slice none 0 0]) * (Go.Proofs.Ytanjiecefioffaa.blk (g + 1) (dmO [.int .i64 0, .int .i64 0, .bool false, .slice none 0 0, .string ⟨#[]⟩, .slice none 0 0, .slice none 0 0]) * (own 70 1 (.slice ro m.length rc) m.length (m.map fun x => .int .u32 x) * R))) := (h3a.setCell (off := 2) (.bool q)).setCell (off := 3) (.slice ro m.length rc)
    have H8 := Lib.hid (And.intro h8' (((HM.out.2.2.trans hb3).setCell (p := ⟨g + 1 + 1, 2, none⟩) (Nat.zero_le _) (.bool q)).setCell (p := ⟨g + 1 + 1, 3, none⟩) (Nat.zero_le _) (.slice ro m.length rc)))
    clear h3 h3a hb3 h8' HB hrc
    go_upto_region 23 with (fail)
    generalize (w3.setCell ⟨g + 1 + 1, 2, none⟩ (.bool q)).setCell ⟨g + 1 + 1, 3, none⟩ (.slice ro m.length rc) = w8 at *
    have d0 := H8.out.1.left.cell 0
    have d1 := H8.out.1.left.cell 1
    have d2 := H8.out.1.left.cell 2
    have d3 := H8.out.1.left.cell 3
    have d4 := H8.out.1.left.cell 4
    have d5 := H8.out.1.left.cell 5
    have d6 := H8.out.1.left.cell 6
    have h9 : sat w8 (Go.Proofs.Ytanjiecefioffaa.blk (g + 1) (dmO [.int .i64 0, .int .i64 0, .bool false, .slice none 0 0, .string ⟨#[]⟩, .slice none 0 0, .slice none 0 0]) * (Go.Proofs.Ytanjiecefioffaa.blk (g + 1 + 1) (dmO [.int .i64 1, .int .i64 0, .bool q, .slice ro m.length rc, .string ⟨#[]⟩, .slice none 0 0, .slice none 0 0]) * ((own 70 1 (.slice ro m.length rc) m.length (m.map fun x => .int .u32 x)) * R))) := H8.out.1.perm (by ac_rfl)
    have z0 := h9.left.cell 0
    have z1 := h9.left.cell 1
    have z2 := h9.left.cell 2
    have z3 := h9.left.cell 3
    have z4 := h9.left.cell 4
    have z5 := h9.left.cell 5
    have z6 := h9.left.cell 6
    have y0 := h9.left.frozen 0
    have y1 := h9.left.frozen 1
    have y2 := h9.left.frozen 2
    have y3 := h9.left.frozen 3
    have y4 := h9.left.frozen 4
    have y5 := h9.left.frozen 5
    have y6 := h9.left.frozen 6
    have h10 := (((((((h9.setCell (off := 0) (.int .i64 1)).setCell (off := 1) (.int .i64 0)).setCell (off := 2) (.bool q)).setCell (off := 3) (.slice ro m.length rc)).setCell (off := 4) (.string ⟨#[]⟩)).setCell (off := 5) (.slice none 0 0)).setCell (off := 6) (.slice none 0 0))
    have hb10 := (((((((H8.out.2.setCell (p := ⟨g + 1, 0, none⟩) (Nat.zero_le _) (.int .i64 1)).setCell (p := ⟨g + 1, 1, none⟩) (Nat.zero_le _) (.int .i64 0)).setCell (p := ⟨g + 1, 2, none⟩) (Nat.zero_le _) (.bool q)).setCell (p := ⟨g + 1, 3, none⟩) (Nat.zero_le _) (.slice ro m.length rc)).setCell (p := ⟨g + 1, 4, none⟩) (Nat.zero_le _) (.string ⟨#[]⟩)).setCell (p := ⟨g + 1, 5, none⟩) (Nat.zero_le _) (.slice none 0 0)).setCell (p := ⟨g + 1, 6, none⟩) (Nat.zero_le _) (.slice none 0 0))
    have HY := Lib.hid (And.intro h10 hb10)
    clear h9 h10 hb10
    simp only [List.getElem?_toArray, List.getElem?_cons_zero, List.getElem?_cons_succ] at d0 d1 d2 d3 d4 d5 d6 z0 z1 z2 z3 z4 z5 z6
    go_wp2_with fail
    generalize (((((((w8.setCell ⟨g + 1, 0, none⟩ (.int .i64 1)).setCell ⟨g + 1, 1, none⟩ (.int .i64 0)).setCell ⟨g + 1, 2, none⟩ (.bool q)).setCell ⟨g + 1, 3, none⟩ (.slice ro m.length rc)).setCell ⟨g + 1, 4, none⟩ (.string ⟨#[]⟩)).setCell ⟨g + 1, 5, none⟩ (.slice none 0 0)).setCell ⟨g + 1, 6, none⟩ (.slice none 0 0)) = w9 at *
    obtain ⟨rr0, rr1, rr2, rr3, rr4, rr5, rr6⟩ := cells7 HY.out.1
    have hpost : PlainPost R (.mk 1 n neg mag text items rest) w (.returned (.agg #[.int .i64 1, .int .i64 0, .bool q, .slice ro m.length rc, .string ⟨#[]⟩, .slice none 0 0, .slice none 0 0])) w9 :=
      ⟨[.int .i64 1, .int .i64 0, .bool q, .slice ro m.length rc, .string ⟨#[]⟩, .slice none 0 0, .slice none 0 0], (own 70 1 (.slice ro m.length rc) m.length (m.map fun x => .int .u32 x)), rfl, (by rw [hp]; exact DK.mk (items := []) (rest := []) ⟨by decide, by decide⟩ (fun w h => mag_own (R := emp) (by rw [HP.mul_emp]; exact h)) (HM.out.1) ⟨HM.out.2.1, Nat.le_refl _, Nat.le_refl _⟩ DKs.nil DKs.nil), (by rw [hp]; have h0 : (⟨#[]⟩ : ByteArray).size = 0 := rfl; simp only [Dm.size, Dm.sizes]; omega), HY.out.1.right.right, HY.out.2⟩
    exact bodyPost_ret (v := .agg #[.int .i64 1, .int .i64 0, .bool q, .slice ro m.length rc, .string ⟨#[]⟩, .slice none 0 0, .slice none 0 0]) (by simp [results, Try.results31, go_sem, rr0, rr1, rr2, rr3, rr4, rr5, rr6]) rfl hpost
  · have e1 : (k == 1) = false := by simp [hk1]
    by_cases hk23 : k = 2 ∨ k = 3
    · have hp : plainP (.mk k n neg mag text items rest) = .mk k n false [] ⟨#[]⟩ [] [] := by
        unfold plainP
        rw [if_neg hk1, if_pos hk23]
      have e4 : (k == 4) = false := by simp; omega
      have e5 : (k == 5) = false := by simp; omega
      rcases hk23 with rfl | rfl
      · skip
        have h8 : sat (((w.alloc (dmO [.int .i64 2, .int .i64 n, .bool neg, .slice am mag.length cm, .string text, .slice ai items.length ci, .slice ar rest.length cr])).alloc (dmO [.int .i64 0, .int .i64 0, .bool false, .slice none 0 0, .string ⟨#[]⟩, .slice none 0 0, .slice none 0 0])).alloc (dmO [.int .i64 2, .int .i64 0, .bool false, .slice none 0 0, .string ⟨#[]⟩, .slice none 0 0, .slice none 0 0])) (Go.Proofs.Ytanjiecefioffaa.blk (g + 1 + 1) (dmO [.int .i64 2, .int .i64 0, .bool false, .slice none 0 0, .string ⟨#[]⟩, .slice none 0 0, .slice none 0 0]) * (Go.Proofs.Ytanjiecefioffaa.blk (g + 1) (dmO [.int .i64 0, .int .i64 0, .bool false, .slice none 0 0, .string ⟨#[]⟩, .slice none 0 0, .slice none 0 0]) * (emp * R))) := by
          rw [HP.emp_mul]
          exact (show sat _ (Go.Proofs.Ytanjiecefioffaa.blk g (dmO [.int .i64 2, .int .i64 n, .bool neg, .slice am mag.length cm, .string text, .slice ai items.length ci, .slice ar rest.length cr]) * (Go.Proofs.Ytanjiecefioffaa.blk (g + 1 + 1) (dmO [.int .i64 2, .int .i64 0, .bool false, .slice none 0 0, .string ⟨#[]⟩, .slice none 0 0, .slice none 0 0]) * (Go.Proofs.Ytanjiecefioffaa.blk (g + 1) (dmO [.int .i64 0, .int .i64 0, .bool false, .slice none 0 0, .string ⟨#[]⟩, .slice none 0 0, .slice none 0 0]) * R))) from HB.out.1.perm (by ac_rfl)).right
        have x1 := h8.left.cell 1
        have xf := h8.left.frozen 1
        simp only [List.getElem?_toArray, List.getElem?_cons_zero, List.getElem?_cons_succ] at x1
        have h8' : sat ((((w.alloc (dmO [.int .i64 2, .int .i64 n, .bool neg, .slice am mag.length cm, .string text, .slice ai items.length ci, .slice ar rest.length cr])).alloc (dmO [.int .i64 0, .int .i64 0, .bool false, .slice none 0 0, .string ⟨#[]⟩, .slice none 0 0, .slice none 0 0])).alloc (dmO [.int .i64 2, .int .i64 0, .bool false, .slice none 0 0, .string ⟨#[]⟩, .slice none 0 0, .slice none 0 0])).setCell ⟨g + 1 + 1, 1, none⟩ (.int .i64 n)) (Go.Proofs.Ytanjiecefioffaa.blk (g + 1 + 1) (dmO [.int .i64 2, .int .i64 n, .bool false, .slice none 0 0, .string ⟨#[]⟩, .slice none 0 0, .slice none 0 0]) * (Go.Proofs.Ytanjiecefioffaa.blk (g + 1) (dmO [.int .i64 0, .int .i64 0, .bool false, .slice none 0 0, .string ⟨#[]⟩, .slice none 0 0, .slice none 0 0]) * (emp * R))) := h8.setCell (off := 1) (.int .i64 n)
        have H8 := Lib.hid (And.intro h8' (HB.out.2.setCell (p := ⟨g + 1 + 1, 1, none⟩) (Nat.zero_le _) (.int .i64 n)))
        clear h8 h8' HB hmagR
        go_enter Try.func31, Try.ntmps31
        go_upto_region 2 with (fail)
        generalize ((w.alloc (dmO [.int .i64 2, .int .i64 n, .bool neg, .slice am mag.length cm, .string text, .slice ai items.length ci, .slice ar rest.length cr])).alloc (dmO [.int .i64 0, .int .i64 0, .bool false, .slice none 0 0, .string ⟨#[]⟩, .slice none 0 0, .slice none 0 0])).alloc (dmO [.int .i64 2, .int .i64 0, .bool false, .slice none 0 0, .string ⟨#[]⟩, .slice none 0 0, .slice none 0 0]) = w7 at *
        go_upto_region 23 with (fail)
        generalize w7.setCell ⟨g + 1 + 1, 1, none⟩ (.int .i64 n) = w8 at *
        have d0 := H8.out.1.left.cell 0
        have d1 := H8.out.1.left.cell 1
        have d2 := H8.out.1.left.cell 2
        have d3 := H8.out.1.left.cell 3
        have d4 := H8.out.1.left.cell 4
        have d5 := H8.out.1.left.cell 5
        have d6 := H8.out.1.left.cell 6
        have h9 : sat w8 (Go.Proofs.Ytanjiecefioffaa.blk (g + 1) (dmO [.int .i64 0, .int .i64 0, .bool false, .slice none 0 0, .string ⟨#[]⟩, .slice none 0 0, .slice none 0 0]) * (Go.Proofs.Ytanjiecefioffaa.blk (g + 1 + 1) (dmO [.int .i64 2, .int .i64 n, .bool false, .slice none 0 0, .string ⟨#[]⟩, .slice none 0 0, .slice none 0 0]) * (emp * R))) := H8.out.1.perm (by ac_rfl)
        have z0 := h9.left.cell 0
        have z1 := h9.left.cell 1
        have z2 := h9.left.cell 2
        have z3 := h9.left.cell 3
        have z4 := h9.left.cell 4
        have z5 := h9.left.cell 5
        have z6 := h9.left.cell 6
        have y0 := h9.left.frozen 0
        have y1 := h9.left.frozen 1
        have y2 := h9.left.frozen 2
        have y3 := h9.left.frozen 3
        have y4 := h9.left.frozen 4
        have y5 := h9.left.frozen 5
        have y6 := h9.left.frozen 6
        have h10 := (((((((h9.setCell (off := 0) (.int .i64 2)).setCell (off := 1) (.int .i64 n)).setCell (off := 2) (.bool false)).setCell (off := 3) (.slice none 0 0)).setCell (off := 4) (.string ⟨#[]⟩)).setCell (off := 5) (.slice none 0 0)).setCell (off := 6) (.slice none 0 0))
        have hb10 := (((((((H8.out.2.setCell (p := ⟨g + 1, 0, none⟩) (Nat.zero_le _) (.int .i64 2)).setCell (p := ⟨g + 1, 1, none⟩) (Nat.zero_le _) (.int .i64 n)).setCell (p := ⟨g + 1, 2, none⟩) (Nat.zero_le _) (.bool false)).setCell (p := ⟨g + 1, 3, none⟩) (Nat.zero_le _) (.slice none 0 0)).setCell (p := ⟨g + 1, 4, none⟩) (Nat.zero_le _) (.string ⟨#[]⟩)).setCell (p := ⟨g + 1, 5, none⟩) (Nat.zero_le _) (.slice none 0 0)).setCell (p := ⟨g + 1, 6, none⟩) (Nat.zero_le _) (.slice none 0 0))
        have HY := Lib.hid (And.intro h10 hb10)
        clear h9 h10 hb10
        simp only [List.getElem?_toArray, List.getElem?_cons_zero, List.getElem?_cons_succ] at d0 d1 d2 d3 d4 d5 d6 z0 z1 z2 z3 z4 z5 z6
        go_wp2_with fail
        generalize (((((((w8.setCell ⟨g + 1, 0, none⟩ (.int .i64 2)).setCell ⟨g + 1, 1, none⟩ (.int .i64 n)).setCell ⟨g + 1, 2, none⟩ (.bool false)).setCell ⟨g + 1, 3, none⟩ (.slice none 0 0)).setCell ⟨g + 1, 4, none⟩ (.string ⟨#[]⟩)).setCell ⟨g + 1, 5, none⟩ (.slice none 0 0)).setCell ⟨g + 1, 6, none⟩ (.slice none 0 0)) = w9 at *
        obtain ⟨rr0, rr1, rr2, rr3, rr4, rr5, rr6⟩ := cells7 HY.out.1
        have hpost : PlainPost R (.mk 2 n neg mag text items rest) w (.returned (.agg #[.int .i64 2, .int .i64 n, .bool false, .slice none 0 0, .string ⟨#[]⟩, .slice none 0 0, .slice none 0 0])) w9 :=
          ⟨[.int .i64 2, .int .i64 n, .bool false, .slice none 0 0, .string ⟨#[]⟩, .slice none 0 0, .slice none 0 0], emp, rfl, (by rw [hp]; exact DK.mk (mag := []) (items := []) (rest := []) ⟨HX.out.1, HX.out.2.1⟩ (fun w _ j x hx => by simp at hx) (by simp) ⟨Nat.le_refl _, Nat.le_refl _, Nat.le_refl _⟩ DKs.nil DKs.nil), (by rw [hp]; have h0 : (⟨#[]⟩ : ByteArray).size = 0 := rfl; simp only [Dm.size, Dm.sizes, List.length_nil]; omega), HY.out.1.right.right, HY.out.2⟩
        exact bodyPost_ret (v := .agg #[.int .i64 2, .int .i64 n, .bool false, .slice none 0 0, .string ⟨#[]⟩, .slice none 0 0, .slice none 0 0]) (by simp [results, Try.results31, go_sem, rr0, rr1, rr2, rr3, rr4, rr5, rr6]) rfl hpost
      · skip
        have h8 : sat (((w.alloc (dmO [.int .i64 3, .int .i64 n, .bool neg, .slice am mag.length cm, .string text, .slice ai items.length ci, .slice ar rest.length cr])).alloc (dmO [.int .i64 0, .int .i64 0, .bool false, .slice none 0 0, .string ⟨#[]⟩, .slice none 0 0, .slice none 0 0])).alloc (dmO [.int .i64 3, .int .i64 0, .bool false, .slice none 0 0, .string ⟨#[]⟩, .slice none 0 0, .slice none 0 0])) (Go.Proofs.Ytanjiecefioffaa.blk (g + 1 + 1) (dmO [.int .i64 3, .int .i64 0, .bool false, .slice none 0 0, .string ⟨#[]⟩, .slice none 0 0, .slice none 0 0]) * (Go.Proofs.Ytanjiecefioffaa.blk (g + 1) (dmO [.int .i64 0, .int .i64 0, .bool false, .slice none 0 0, .string ⟨#[]⟩, .slice none 0 0, .slice none 0 0]) * (emp * R))) := by
          rw [HP.emp_mul]
          exact (show sat _ (Go.Proofs.Ytanjiecefioffaa.blk g (dmO [.int .i64 3, .int .i64 n, .bool neg, .slice am mag.length cm, .string text, .slice ai items.length ci, .slice ar rest.length cr]) * (Go.Proofs.Ytanjiecefioffaa.blk (g + 1 + 1) (dmO [.int .i64 3, .int .i64 0, .bool false, .slice none 0 0, .string ⟨#[]⟩, .slice none 0 0, .slice none 0 0]) * (Go.Proofs.Ytanjiecefioffaa.blk (g + 1) (dmO [.int .i64 0, .int .i64 0, .bool false, .slice none 0 0, .string ⟨#[]⟩, .slice none 0 0, .slice none 0 0]) * R))) from HB.out.1.perm (by ac_rfl)).right
        have x1 := h8.left.cell 1
        have xf := h8.left.frozen 1
        simp only [List.getElem?_toArray, List.getElem?_cons_zero, List.getElem?_cons_succ] at x1
        have h8' : sat ((((w.alloc (dmO [.int .i64 3, .int .i64 n, .bool neg, .slice am mag.length cm, .string text, .slice ai items.length ci, .slice ar rest.length cr])).alloc (dmO [.int .i64 0, .int .i64 0, .bool false, .slice none 0 0, .string ⟨#[]⟩, .slice none 0 0, .slice none 0 0])).alloc (dmO [.int .i64 3, .int .i64 0, .bool false, .slice none 0 0, .string ⟨#[]⟩, .slice none 0 0, .slice none 0 0])).setCell ⟨g + 1 + 1, 1, none⟩ (.int .i64 n)) (Go.Proofs.Ytanjiecefioffaa.blk (g + 1 + 1) (dmO [.int .i64 3, .int .i64 n, .bool false, .slice none 0 0, .string ⟨#[]⟩, .slice none 0 0, .slice none 0 0]) * (Go.Proofs.Ytanjiecefioffaa.blk (g + 1) (dmO [.int .i64 0, .int .i64 0, .bool false, .slice none 0 0, .string ⟨#[]⟩, .slice none 0 0, .slice none 0 0]) * (emp * R))) := h8.setCell (off := 1) (.int .i64 n)
        have H8 := Lib.hid (And.intro h8' (HB.out.2.setCell (p := ⟨g + 1 + 1, 1, none⟩) (Nat.zero_le _) (.int .i64 n)))
        clear h8 h8' HB hmagR
        go_enter Try.func31, Try.ntmps31
        go_upto_region 2 with (fail)
        generalize ((w.alloc (dmO [.int .i64 3, .int .i64 n, .bool neg, .slice am mag.length cm, .string text, .slice ai items.length ci, .slice ar rest.length cr])).alloc (dmO [.int .i64 0, .int .i64 0, .bool false, .slice none 0 0, .string ⟨#[]⟩, .slice none 0 0, .slice none 0 0])).alloc (dmO [.int .i64 3, .int .i64 0, .bool false, .slice none 0 0, .string ⟨#[]⟩, .slice none 0 0, .slice none 0 0]) = w7 at *
        go_upto_region 23 with (fail)
        generalize w7.setCell ⟨g + 1 + 1, 1, none⟩ (.int .i64 n) = w8 at *
        have d0 := H8.out.1.left.cell 0
        have d1 := H8.out.1.left.cell 1
        have d2 := H8.out.1.left.cell 2
        have d3 := H8.out.1.left.cell 3
        have d4 := H8.out.1.left.cell 4
        have d5 := H8.out.1.left.cell 5
        have d6 := H8.out.1.left.cell 6
        have h9 : sat w8 (Go.Proofs.Ytanjiecefioffaa.blk (g + 1) (dmO [.int .i64 0, .int .i64 0, .bool false, .slice none 0 0, .string ⟨#[]⟩, .slice none 0 0, .slice none 0 0]) * (Go.Proofs.Ytanjiecefioffaa.blk (g + 1 + 1) (dmO [.int .i64 3, .int .i64 n, .bool false, .slice none 0 0, .string ⟨#[]⟩, .slice none 0 0, .slice none 0 0]) * (emp * R))) := H8.out.1.perm (by ac_rfl)
        have z0 := h9.left.cell 0
        have z1 := h9.left.cell 1
        have z2 := h9.left.cell 2
        have z3 := h9.left.cell 3
        have z4 := h9.left.cell 4
        have z5 := h9.left.cell 5
        have z6 := h9.left.cell 6
        have y0 := h9.left.frozen 0
        have y1 := h9.left.frozen 1
        have y2 := h9.left.frozen 2
        have y3 := h9.left.frozen 3
        have y4 := h9.left.frozen 4
        have y5 := h9.left.frozen 5
        have y6 := h9.left.frozen 6
        have h10 := (((((((h9.setCell (off := 0) (.int .i64 3)).setCell (off := 1) (.int .i64 n)).setCell (off := 2) (.bool false)).setCell (off := 3) (.slice none 0 0)).setCell (off := 4) (.string ⟨#[]⟩)).setCell (off := 5) (.slice none 0 0)).setCell (off := 6) (.slice none 0 0))
        have hb10 := (((((((H8.out.2.setCell (p := ⟨g + 1, 0, none⟩) (Nat.zero_le _) (.int .i64 3)).setCell (p := ⟨g + 1, 1, none⟩) (Nat.zero_le _) (.int .i64 n)).setCell (p := ⟨g + 1, 2, none⟩) (Nat.zero_le _) (.bool false)).setCell (p := ⟨g + 1, 3, none⟩) (Nat.zero_le _) (.slice none 0 0)).setCell (p := ⟨g + 1, 4, none⟩) (Nat.zero_le _) (.string ⟨#[]⟩)).setCell (p := ⟨g + 1, 5, none⟩) (Nat.zero_le _) (.slice none 0 0)).setCell (p := ⟨g + 1, 6, none⟩) (Nat.zero_le _) (.slice none 0 0))
        have HY := Lib.hid (And.intro h10 hb10)
        clear h9 h10 hb10
        simp only [List.getElem?_toArray, List.getElem?_cons_zero, List.getElem?_cons_succ] at d0 d1 d2 d3 d4 d5 d6 z0 z1 z2 z3 z4 z5 z6
        go_wp2_with fail
        generalize (((((((w8.setCell ⟨g + 1, 0, none⟩ (.int .i64 3)).setCell ⟨g + 1, 1, none⟩ (.int .i64 n)).setCell ⟨g + 1, 2, none⟩ (.bool false)).setCell ⟨g + 1, 3, none⟩ (.slice none 0 0)).setCell ⟨g + 1, 4, none⟩ (.string ⟨#[]⟩)).setCell ⟨g + 1, 5, none⟩ (.slice none 0 0)).setCell ⟨g + 1, 6, none⟩ (.slice none 0 0)) = w9 at *
        obtain ⟨rr0, rr1, rr2, rr3, rr4, rr5, rr6⟩ := cells7 HY.out.1
        have hpost : PlainPost R (.mk 3 n neg mag text items rest) w (.returned (.agg #[.int .i64 3, .int .i64 n, .bool false, .slice none 0 0, .string ⟨#[]⟩, .slice none 0 0, .slice none 0 0])) w9 :=
          ⟨[.int .i64 3, .int .i64 n, .bool false, .slice none 0 0, .string ⟨#[]⟩, .slice none 0 0, .slice none 0 0], emp, rfl, (by rw [hp]; exact DK.mk (mag := []) (items := []) (rest := []) ⟨HX.out.1, HX.out.2.1⟩ (fun w _ j x hx => by simp at hx) (by simp) ⟨Nat.le_refl _, Nat.le_refl _, Nat.le_refl _⟩ DKs.nil DKs.nil), (by rw [hp]; have h0 : (⟨#[]⟩ : ByteArray).size = 0 := rfl; simp only [Dm.size, Dm.sizes, List.length_nil]; omega), HY.out.1.right.right, HY.out.2⟩
        exact bodyPost_ret (v := .agg #[.int .i64 3, .int .i64 n, .bool false, .slice none 0 0, .string ⟨#[]⟩, .slice none 0 0, .slice none 0 0]) (by simp [results, Try.results31, go_sem, rr0, rr1, rr2, rr3, rr4, rr5, rr6]) rfl hpost
    · have e2 : (k == 2) = false := by simp; omega
      have e3 : (k == 3) = false := by simp; omega
      by_cases hk45 : k = 4 ∨ k = 5
      · have hp : plainP (.mk k n neg mag text items rest) = .mk k 0 false [] text [] [] := by
          unfold plainP
          rw [if_neg hk1, if_neg hk23, if_pos hk45]
        clear e1 e2 e3 e6 e7
        rcases hk45 with rfl | rfl
        · skip
          have h8 : sat (((w.alloc (dmO [.int .i64 4, .int .i64 n, .bool neg, .slice am mag.length cm, .string text, .slice ai items.length ci, .slice ar rest.length cr])).alloc (dmO [.int .i64 0, .int .i64 0, .bool false, .slice none 0 0, .string ⟨#[]⟩, .slice none 0 0, .slice none 0 0])).alloc (dmO [.int .i64 4, .int .i64 0, .bool false, .slice none 0 0, .string ⟨#[]⟩, .slice none 0 0, .slice none 0 0])) (Go.Proofs.Ytanjiecefioffaa.blk (g + 1 + 1) (dmO [.int .i64 4, .int .i64 0, .bool false, .slice none 0 0, .string ⟨#[]⟩, .slice none 0 0, .slice none 0 0]) * (Go.Proofs.Ytanjiecefioffaa.blk (g + 1) (dmO [.int .i64 0, .int .i64 0, .bool false, .slice none 0 0, .string ⟨#[]⟩, .slice none 0 0, .slice none 0 0]) * (emp * R))) := by
            rw [HP.emp_mul]
            exact (show sat _ (Go.Proofs.Ytanjiecefioffaa.blk g (dmO [.int .i64 4, .int .i64 n, .bool neg, .slice am mag.length cm, .string text, .slice ai items.length ci, .slice ar rest.length cr]) * (Go.Proofs.Ytanjiecefioffaa.blk (g + 1 + 1) (dmO [.int .i64 4, .int .i64 0, .bool false, .slice none 0 0, .string ⟨#[]⟩, .slice none 0 0, .slice none 0 0]) * (Go.Proofs.Ytanjiecefioffaa.blk (g + 1) (dmO [.int .i64 0, .int .i64 0, .bool false, .slice none 0 0, .string ⟨#[]⟩, .slice none 0 0, .slice none 0 0]) * R))) from HB.out.1.perm (by ac_rfl)).right
          have x1 := h8.left.cell 4
          have xf := h8.left.frozen 4
          simp only [List.getElem?_toArray, List.getElem?_cons_zero, List.getElem?_cons_succ] at x1
          have h8' : sat ((((w.alloc (dmO [.int .i64 4, .int .i64 n, .bool neg, .slice am mag.length cm, .string text, .slice ai items.length ci, .slice ar rest.length cr])).alloc (dmO [.int .i64 0, .int .i64 0, .bool false, .slice none 0 0, .string ⟨#[]⟩, .slice none 0 0, .slice none 0 0])).alloc (dmO [.int .i64 4, .int .i64 0, .bool false, .slice none 0 0, .string ⟨#[]⟩, .slice none 0 0, .slice none 0 0])).setCell ⟨g + 1 + 1, 4, none⟩ (.string text)) (Go.Proofs.Ytanjiecefioffaa.blk (g + 1 + 1) (dmO [.int .i64 4, .int .i64 0, .bool false, .slice none 0 0, .string text, .slice none 0 0, .slice none 0 0]) * (Go.Proofs.Ytanjiecefioffaa.blk (g + 1) (dmO [.int .i64 0, .int .i64 0, .bool false, .slice none 0 0, .string ⟨#[]⟩, .slice none 0 0, .slice none 0 0]) * (emp * R))) := h8.setCell (off := 4) (.string text)
          have H8 := Lib.hid (And.intro h8' (HB.out.2.setCell (p := ⟨g + 1 + 1, 4, none⟩) (Nat.zero_le _) (.string text)))
          clear h8 h8' HB hmagR
          go_enter Try.func31, Try.ntmps31
          go_upto_region 2 with (fail)
          generalize ((w.alloc (dmO [.int .i64 4, .int .i64 n, .bool neg, .slice am mag.length cm, .string text, .slice ai items.length ci, .slice ar rest.length cr])).alloc (dmO [.int .i64 0, .int .i64 0, .bool false, .slice none 0 0, .string ⟨#[]⟩, .slice none 0 0, .slice none 0 0])).alloc (dmO [.int .i64 4, .int .i64 0, .bool false, .slice none 0 0, .string ⟨#[]⟩, .slice none 0 0, .slice none 0 0]) = w7 at *
          go_upto_region 23 with (fail)
          generalize w7.setCell ⟨g + 1 + 1, 4, none⟩ (.string text) = w8 at *
          have d0 := H8.out.1.left.cell 0
          have d1 := H8.out.1.left.cell 1
          have d2 := H8.out.1.left.cell 2
          have d3 := H8.out.1.left.cell 3
          have d4 := H8.out.1.left.cell 4
          have d5 := H8.out.1.left.cell 5
          have d6 := H8.out.1.left.cell 6
          have h9 : sat w8 (Go.Proofs.Ytanjiecefioffaa.blk (g + 1) (dmO [.int .i64 0, .int .i64 0, .bool false, .slice none 0 0, .string ⟨#[]⟩, .slice none 0 0, .slice none 0 0]) * (Go.Proofs.Ytanjiecefioffaa.blk (g + 1 + 1) (dmO [.int .i64 4, .int .i64 0, .bool false, .slice none 0 0, .string text, .slice none 0 0, .slice none 0 0]) * (emp * R))) := H8.out.1.perm (by ac_rfl)
          have z0 := h9.left.cell 0
          have z1 := h9.left.cell 1
          have z2 := h9.left.cell 2
          have z3 := h9.left.cell 3
          have z4 := h9.left.cell 4
          have z5 := h9.left.cell 5
          have z6 := h9.left.cell 6
          have y0 := h9.left.frozen 0
          have y1 := h9.left.frozen 1
          have y2 := h9.left.frozen 2
          have y3 := h9.left.frozen 3
          have y4 := h9.left.frozen 4
          have y5 := h9.left.frozen 5
          have y6 := h9.left.frozen 6
          have h10 := (((((((h9.setCell (off := 0) (.int .i64 4)).setCell (off := 1) (.int .i64 0)).setCell (off := 2) (.bool false)).setCell (off := 3) (.slice none 0 0)).setCell (off := 4) (.string text)).setCell (off := 5) (.slice none 0 0)).setCell (off := 6) (.slice none 0 0))
          have hb10 := (((((((H8.out.2.setCell (p := ⟨g + 1, 0, none⟩) (Nat.zero_le _) (.int .i64 4)).setCell (p := ⟨g + 1, 1, none⟩) (Nat.zero_le _) (.int .i64 0)).setCell (p := ⟨g + 1, 2, none⟩) (Nat.zero_le _) (.bool false)).setCell (p := ⟨g + 1, 3, none⟩) (Nat.zero_le _) (.slice none 0 0)).setCell (p := ⟨g + 1, 4, none⟩) (Nat.zero_le _) (.string text)).setCell (p := ⟨g + 1, 5, none⟩) (Nat.zero_le _) (.slice none 0 0)).setCell (p := ⟨g + 1, 6, none⟩) (Nat.zero_le _) (.slice none 0 0))
          have HY := Lib.hid (And.intro h10 hb10)
          clear h9 h10 hb10
          simp only [List.getElem?_toArray, List.getElem?_cons_zero, List.getElem?_cons_succ] at d0 d1 d2 d3 d4 d5 d6 z0 z1 z2 z3 z4 z5 z6
          go_wp2_with fail
          generalize (((((((w8.setCell ⟨g + 1, 0, none⟩ (.int .i64 4)).setCell ⟨g + 1, 1, none⟩ (.int .i64 0)).setCell ⟨g + 1, 2, none⟩ (.bool false)).setCell ⟨g + 1, 3, none⟩ (.slice none 0 0)).setCell ⟨g + 1, 4, none⟩ (.string text)).setCell ⟨g + 1, 5, none⟩ (.slice none 0 0)).setCell ⟨g + 1, 6, none⟩ (.slice none 0 0)) = w9 at *
          obtain ⟨rr0, rr1, rr2, rr3, rr4, rr5, rr6⟩ := cells7 HY.out.1
          have hpost : PlainPost R (.mk 4 n neg mag text items rest) w (.returned (.agg #[.int .i64 4, .int .i64 0, .bool false, .slice none 0 0, .string text, .slice none 0 0, .slice none 0 0])) w9 :=
            ⟨[.int .i64 4, .int .i64 0, .bool false, .slice none 0 0, .string text, .slice none 0 0, .slice none 0 0], emp, rfl, (by rw [hp]; exact DK.mk (mag := []) (items := []) (rest := []) ⟨HX.out.1, by decide⟩ (fun w _ j x hx => by simp at hx) (by simp) ⟨Nat.le_refl _, Nat.le_refl _, Nat.le_refl _⟩ DKs.nil DKs.nil), (by rw [hp]; have h0 : (⟨#[]⟩ : ByteArray).size = 0 := rfl; simp only [Dm.size, Dm.sizes, List.length_nil]; omega), HY.out.1.right.right, HY.out.2⟩
          exact bodyPost_ret (v := .agg #[.int .i64 4, .int .i64 0, .bool false, .slice none 0 0, .string text, .slice none 0 0, .slice none 0 0]) (by simp [results, Try.results31, go_sem, rr0, rr1, rr2, rr3, rr4, rr5, rr6]) rfl hpost
        · skip
          have h8 : sat (((w.alloc (dmO [.int .i64 5, .int .i64 n, .bool neg, .slice am mag.length cm, .string text, .slice ai items.length ci, .slice ar rest.length cr])).alloc (dmO [.int .i64 0, .int .i64 0, .bool false, .slice none 0 0, .string ⟨#[]⟩, .slice none 0 0, .slice none 0 0])).alloc (dmO [.int .i64 5, .int .i64 0, .bool false, .slice none 0 0, .string ⟨#[]⟩, .slice none 0 0, .slice none 0 0])) (Go.Proofs.Ytanjiecefioffaa.blk (g + 1 + 1) (dmO [.int .i64 5, .int .i64 0, .bool false, .slice none 0 0, .string ⟨#[]⟩, .slice none 0 0, .slice none 0 0]) * (Go.Proofs.Ytanjiecefioffaa.blk (g + 1) (dmO [.int .i64 0, .int .i64 0, .bool false, .slice none 0 0, .string ⟨#[]⟩, .slice none 0 0, .slice none 0 0]) * (emp * R))) := by
            rw [HP.emp_mul]
            exact (show sat _ (Go.Proofs.Ytanjiecefioffaa.blk g (dmO [.int .i64 5, .int .i64 n, .bool neg, .slice am mag.length cm, .string text, .slice ai items.length ci, .slice ar rest.length cr]) * (Go.Proofs.Ytanjiecefioffaa.blk (g + 1 + 1) (dmO [.int .i64 5, .int .i64 0, .bool false, .slice none 0 0, .string ⟨#[]⟩, .slice none 0 0, .slice none 0 0]) * (Go.Proofs.Ytanjiecefioffaa.blk (g + 1) (dmO [.int .i64 0, .int .i64 0, .bool false, .slice none 0 0, .string ⟨#[]⟩, .slice none 0 0, .slice none 0 0]) * R))) from HB.out.1.perm (by ac_rfl)).right
          have x1 := h8.left.cell 4
          have xf := h8.left.frozen 4
          simp only [List.getElem?_toArray, List.getElem?_cons_zero, List.getElem?_cons_succ] at x1
          have h8' : sat ((((w.alloc (dmO [.int .i64 5, .int .i64 n, .bool neg, .slice am mag.length cm, .string text, .slice ai items.length ci, .slice ar rest.length cr])).alloc (dmO [.int .i64 0, .int .i64 0, .bool false, .slice none 0 0, .string ⟨#[]⟩, .slice none 0 0, .slice none 0 0])).alloc (dmO [.int .i64 5, .int .i64 0, .bool false, .slice none 0 0, .string ⟨#[]⟩, .slice none 0 0, .slice none 0 0])).setCell ⟨g + 1 + 1, 4, none⟩ (.string text)) (Go.Proofs.Ytanjiecefioffaa.blk (g + 1 + 1) (dmO [.int .i64 5, .int .i64 0, .bool false, .slice none 0 0, .string text, .slice none 0 0, .slice none 0 0]) * (Go.Proofs.Ytanjiecefioffaa.blk (g + 1) (dmO [.int .i64 0, .int .i64 0, .bool false, .slice none 0 0, .string ⟨#[]⟩, .slice none 0 0, .slice none 0 0]) * (emp * R))) := h8.setCell (off := 4) (.string text)
          have H8 := Lib.hid (And.intro h8' (HB.out.2.setCell (p := ⟨g + 1 + 1, 4, none⟩) (Nat.zero_le _) (.string text)))
          clear h8 h8' HB hmagR
          go_enter Try.func31, Try.ntmps31
          go_upto_region 2 with (fail)
          generalize ((w.alloc (dmO [.int .i64 5, .int .i64 n, .bool neg, .slice am mag.length cm, .string text, .slice ai items.length ci, .slice ar rest.length cr])).alloc (dmO [.int .i64 0, .int .i64 0, .bool false, .slice none 0 0, .string ⟨#[]⟩, .slice none 0 0, .slice none 0 0])).alloc (dmO [.int .i64 5, .int .i64 0, .bool false, .slice none 0 0, .string ⟨#[]⟩, .slice none 0 0, .slice none 0 0]) = w7 at *
          go_upto_region 23 with (fail)
          generalize w7.setCell ⟨g + 1 + 1, 4, none⟩ (.string text) = w8 at *
          have d0 := H8.out.1.left.cell 0
          have d1 := H8.out.1.left.cell 1
          have d2 := H8.out.1.left.cell 2
          have d3 := H8.out.1.left.cell 3
          have d4 := H8.out.1.left.cell 4
          have d5 := H8.out.1.left.cell 5
          have d6 := H8.out.1.left.cell 6
          have h9 : sat w8 (Go.Proofs.Ytanjiecefioffaa.blk (g + 1) (dmO [.int .i64 0, .int .i64 0, .bool false, .slice none 0 0, .string ⟨#[]⟩, .slice none 0 0, .slice none 0 0]) * (Go.Proofs.Ytanjiecefioffaa.blk (g + 1 + 1) (dmO [.int .i64 5, .int .i64 0, .bool false, .slice none 0 0, .string text, .slice none 0 0, .slice none 0 0]) * (emp * R))) := H8.out.1.perm (by ac_rfl)
          have z0 := h9.left.cell 0
          have z1 := h9.left.cell 1
          have z2 := h9.left.cell 2
          have z3 := h9.left.cell 3
          have z4 := h9.left.cell 4
          have z5 := h9.left.cell 5
          have z6 := h9.left.cell 6
          have y0 := h9.left.frozen 0
          have y1 := h9.left.frozen 1
          have y2 := h9.left.frozen 2
          have y3 := h9.left.frozen 3
          have y4 := h9.left.frozen 4
          have y5 := h9.left.frozen 5
          have y6 := h9.left.frozen 6
          have h10 := (((((((h9.setCell (off := 0) (.int .i64 5)).setCell (off := 1) (.int .i64 0)).setCell (off := 2) (.bool false)).setCell (off := 3) (.slice none 0 0)).setCell (off := 4) (.string text)).setCell (off := 5) (.slice none 0 0)).setCell (off := 6) (.slice none 0 0))
          have hb10 := (((((((H8.out.2.setCell (p := ⟨g + 1, 0, none⟩) (Nat.zero_le _) (.int .i64 5)).setCell (p := ⟨g + 1, 1, none⟩) (Nat.zero_le _) (.int .i64 0)).setCell (p := ⟨g + 1, 2, none⟩) (Nat.zero_le _) (.bool false)).setCell (p := ⟨g + 1, 3, none⟩) (Nat.zero_le _) (.slice none 0 0)).setCell (p := ⟨g + 1, 4, none⟩) (Nat.zero_le _) (.string text)).setCell (p := ⟨g + 1, 5, none⟩) (Nat.zero_le _) (.slice none 0 0)).setCell (p := ⟨g + 1, 6, none⟩) (Nat.zero_le _) (.slice none 0 0))
          have HY := Lib.hid (And.intro h10 hb10)
          clear h9 h10 hb10
          simp only [List.getElem?_toArray, List.getElem?_cons_zero, List.getElem?_cons_succ] at d0 d1 d2 d3 d4 d5 d6 z0 z1 z2 z3 z4 z5 z6
          go_wp2_with fail
          generalize (((((((w8.setCell ⟨g + 1, 0, none⟩ (.int .i64 5)).setCell ⟨g + 1, 1, none⟩ (.int .i64 0)).setCell ⟨g + 1, 2, none⟩ (.bool false)).setCell ⟨g + 1, 3, none⟩ (.slice none 0 0)).setCell ⟨g + 1, 4, none⟩ (.string text)).setCell ⟨g + 1, 5, none⟩ (.slice none 0 0)).setCell ⟨g + 1, 6, none⟩ (.slice none 0 0)) = w9 at *
          obtain ⟨rr0, rr1, rr2, rr3, rr4, rr5, rr6⟩ := cells7 HY.out.1
          have hpost : PlainPost R (.mk 5 n neg mag text items rest) w (.returned (.agg #[.int .i64 5, .int .i64 0, .bool false, .slice none 0 0, .string text, .slice none 0 0, .slice none 0 0])) w9 :=
            ⟨[.int .i64 5, .int .i64 0, .bool false, .slice none 0 0, .string text, .slice none 0 0, .slice none 0 0], emp, rfl, (by rw [hp]; exact DK.mk (mag := []) (items := []) (rest := []) ⟨HX.out.1, by decide⟩ (fun w _ j x hx => by simp at hx) (by simp) ⟨Nat.le_refl _, Nat.le_refl _, Nat.le_refl _⟩ DKs.nil DKs.nil), (by rw [hp]; have h0 : (⟨#[]⟩ : ByteArray).size = 0 := rfl; simp only [Dm.size, Dm.sizes, List.length_nil]; omega), HY.out.1.right.right, HY.out.2⟩
          exact bodyPost_ret (v := .agg #[.int .i64 5, .int .i64 0, .bool false, .slice none 0 0, .string text, .slice none 0 0, .slice none 0 0]) (by simp [results, Try.results31, go_sem, rr0, rr1, rr2, rr3, rr4, rr5, rr6]) rfl hpost
      · have e4 : (k == 4) = false := by simp; omega
        have e5 : (k == 5) = false := by simp; omega
        have hp : plainP (.mk k n neg mag text items rest) = .mk k 0 false [] ⟨#[]⟩ [] [] := by
          unfold plainP
          rw [if_neg hk1, if_neg hk23, if_neg hk45, if_neg hk6, if_neg hk7]
        have h8 : sat (((w.alloc (dmO [.int .i64 k, .int .i64 n, .bool neg, .slice am mag.length cm, .string text, .slice ai items.length ci, .slice ar rest.length cr])).alloc (dmO [.int .i64 0, .int .i64 0, .bool false, .slice none 0 0, .string ⟨#[]⟩, .slice none 0 0, .slice none 0 0])).alloc (dmO [.int .i64 k, .int .i64 0, .bool false, .slice none 0 0, .string ⟨#[]⟩, .slice none 0 0, .slice none 0 0])) (Go.Proofs.Ytanjiecefioffaa.blk (g + 1 + 1) (dmO [.int .i64 k, .int .i64 0, .bool false, .slice none 0 0, .string ⟨#[]⟩, .slice none 0 0, .slice none 0 0]) * (Go.Proofs.Ytanjiecefioffaa.blk (g + 1) (dmO [.int .i64 0, .int .i64 0, .bool false, .slice none 0 0, .string ⟨#[]⟩, .slice none 0 0, .slice none 0 0]) * (emp * R))) := by
          rw [HP.emp_mul]
          exact (show sat _ (Go.Proofs.Ytanjiecefioffaa.blk g (dmO [.int .i64 k, .int .i64 n, .bool neg, .slice am mag.length cm, .string text, .slice ai items.length ci, .slice ar rest.length cr]) * (Go.Proofs.Ytanjiecefioffaa.blk (g + 1 + 1) (dmO [.int .i64 k, .int .i64 0, .bool false, .slice none 0 0, .string ⟨#[]⟩, .slice none 0 0, .slice none 0 0]) * (Go.Proofs.Ytanjiecefioffaa.blk (g + 1) (dmO [.int .i64 0, .int .i64 0, .bool false, .slice none 0 0, .string ⟨#[]⟩, .slice none 0 0, .slice none 0 0]) * R))) from HB.out.1.perm (by ac_rfl)).right
        have H8 := Lib.hid (And.intro h8 HB.out.2)
        clear h8 HB hmagR
        go_enter Try.func31, Try.ntmps31
        go_upto_region 2 with (fail)
        generalize ((w.alloc (dmO [.int .i64 k, .int .i64 n, .bool neg, .slice am mag.length cm, .string text, .slice ai items.length ci, .slice ar rest.length cr])).alloc (dmO [.int .i64 0, .int .i64 0, .bool false, .slice none 0 0, .string ⟨#[]⟩, .slice none 0 0, .slice none 0 0])).alloc (dmO [.int .i64 k, .int .i64 0, .bool false, .slice none 0 0, .string ⟨#[]⟩, .slice none 0 0, .slice none 0 0]) = w8 at *
        have d0 := H8.out.1.left.cell 0
        have d1 := H8.out.1.left.cell 1
        have d2 := H8.out.1.left.cell 2
        have d3 := H8.out.1.left.cell 3
        have d4 := H8.out.1.left.cell 4
        have d5 := H8.out.1.left.cell 5
        have d6 := H8.out.1.left.cell 6
        have h9 : sat w8 (Go.Proofs.Ytanjiecefioffaa.blk (g + 1) (dmO [.int .i64 0, .int .i64 0, .bool false, .slice none 0 0, .string ⟨#[]⟩, .slice none 0 0, .slice none 0 0]) * (Go.Proofs.Ytanjiecefioffaa.blk (g + 1 + 1) (dmO [.int .i64 k, .int .i64 0, .bool false, .slice none 0 0, .string ⟨#[]⟩, .slice none 0 0, .slice none 0 0]) * (emp * R))) := H8.out.1.perm (by ac_rfl)
        have z0 := h9.left.cell 0
        have z1 := h9.left.cell 1
        have z2 := h9.left.cell 2
        have z3 := h9.left.cell 3
        have z4 := h9.left.cell 4
        have z5 := h9.left.cell 5
        have z6 := h9.left.cell 6
        have y0 := h9.left.frozen 0
        have y1 := h9.left.frozen 1
        have y2 := h9.left.frozen 2
        have y3 := h9.left.frozen 3
        have y4 := h9.left.frozen 4
        have y5 := h9.left.frozen 5
        have y6 := h9.left.frozen 6
        have h10 := (((((((h9.setCell (off := 0) (.int .i64 k)).setCell (off := 1) (.int .i64 0)).setCell (off := 2) (.bool false)).setCell (off := 3) (.slice none 0 0)).setCell (off := 4) (.string ⟨#[]⟩)).setCell (off := 5) (.slice none 0 0)).setCell (off := 6) (.slice none 0 0))
        have hb10 := (((((((H8.out.2.setCell (p := ⟨g + 1, 0, none⟩) (Nat.zero_le _) (.int .i64 k)).setCell (p := ⟨g + 1, 1, none⟩) (Nat.zero_le _) (.int .i64 0)).setCell (p := ⟨g + 1, 2, none⟩) (Nat.zero_le _) (.bool false)).setCell (p := ⟨g + 1, 3, none⟩) (Nat.zero_le _) (.slice none 0 0)).setCell (p := ⟨g + 1, 4, none⟩) (Nat.zero_le _) (.string ⟨#[]⟩)).setCell (p := ⟨g + 1, 5, none⟩) (Nat.zero_le _) (.slice none 0 0)).setCell (p := ⟨g + 1, 6, none⟩) (Nat.zero_le _) (.slice none 0 0))
        have HY := Lib.hid (And.intro h10 hb10)
        clear h9 h10 hb10
        simp only [List.getElem?_toArray, List.getElem?_cons_zero, List.getElem?_cons_succ] at d0 d1 d2 d3 d4 d5 d6 z0 z1 z2 z3 z4 z5 z6
        go_wp2_with fail
        generalize (((((((w8.setCell ⟨g + 1, 0, none⟩ (.int .i64 k)).setCell ⟨g + 1, 1, none⟩ (.int .i64 0)).setCell ⟨g + 1, 2, none⟩ (.bool false)).setCell ⟨g + 1, 3, none⟩ (.slice none 0 0)).setCell ⟨g + 1, 4, none⟩ (.string ⟨#[]⟩)).setCell ⟨g + 1, 5, none⟩ (.slice none 0 0)).setCell ⟨g + 1, 6, none⟩ (.slice none 0 0)) = w9 at *
        obtain ⟨rr0, rr1, rr2, rr3, rr4, rr5, rr6⟩ := cells7 HY.out.1
        have hpost : PlainPost R (.mk k n neg mag text items rest) w (.returned (.agg #[.int .i64 k, .int .i64 0, .bool false, .slice none 0 0, .string ⟨#[]⟩, .slice none 0 0, .slice none 0 0])) w9 :=
          ⟨[.int .i64 k, .int .i64 0, .bool false, .slice none 0 0, .string ⟨#[]⟩, .slice none 0 0, .slice none 0 0], emp, rfl, (by rw [hp]; exact DK.mk (mag := []) (items := []) (rest := []) ⟨HX.out.1, by decide⟩ (fun w _ j x hx => by simp at hx) (by simp) ⟨Nat.le_refl _, Nat.le_refl _, Nat.le_refl _⟩ DKs.nil DKs.nil), (by rw [hp]; have h0 : (⟨#[]⟩ : ByteArray).size = 0 := rfl; simp only [Dm.size, Dm.sizes, List.length_nil]; omega), HY.out.1.right.right, HY.out.2⟩
        exact bodyPost_ret (v := .agg #[.int .i64 k, .int .i64 0, .bool false, .slice none 0 0, .string ⟨#[]⟩, .slice none 0 0, .slice none 0 0]) (by simp [results, Try.results31, go_sem, rr0, rr1, rr2, rr3, rr4, rr5, rr6]) rfl hpost
theorem dm_addz {b j : Nat} : (⟨b, 0, none⟩ : Addr).add j = ⟨b, j, none⟩ := by unfold Addr.add; split <;> simp_all
/-- The cells of data in a row. -/
theorem DKs.cells {M : HP} : ∀ {l : List Dm} {ao : Option Addr} {k : Nat}, DKs M l ao k → ∃ css : List (List Value), css.length = l.length ∧ (∀ (i : Nat) d cs, l[i]? = some d → css[i]? = some cs → DK M d cs) ∧
    ∀ w, sat w M → ∀ (j : Nat) u, css.flatten[j]? = some u → ∃ b off, ao = some ⟨b, off, none⟩ ∧ w.cell? ⟨b, off + k * 7 + j, none⟩ = some u
  | [], _, _, _ => ⟨[], rfl, fun i d cs h _ => by simp at h, fun w _ j u h => by simp at h⟩
  | d :: l, ao, k, h => by
    unfold DKs at h
    obtain ⟨⟨b, off, cs, hao, hcell, hdk⟩, h2⟩ := h
    obtain ⟨css, h3, h4, h5⟩ := DKs.cells h2
    refine ⟨cs :: css, by simp [h3], ?_, ?_⟩
    · intro i d' cs' hd hc
      cases i with
      | zero => simp at hd hc; subst hd hc; exact hdk
      | succ i => exact h4 i d' cs' (by simpa using hd) (by simpa using hc)
    · intro w hw j u hu
      rw [List.flatten_cons] at hu
      have h7 := hdk.len
      rcases Nat.lt_or_ge j 7 with hj | hj
      · rw [List.getElem?_append_left (by omega)] at hu
        exact ⟨b, off, hao, hcell w hw j u hu⟩
      · rw [List.getElem?_append_right (by omega), h7] at hu
        obtain ⟨b', off', hao', hc⟩ := h5 w hw (j - 7) u hu
        refine ⟨b', off', hao', ?_⟩
        rw [← hc]
        congr 2
        omega
theorem DKs.cellsAt {M : HP} {l : List Dm} {ao : Option Addr} (h : DKs M l ao 0) : ∃ css : List (List Value), css.length = l.length ∧ (∀ (i : Nat) d cs, l[i]? = some d → css[i]? = some cs → DK M d cs) ∧ ∀ w, sat w M → CellsAt w ao css.flatten := by
  obtain ⟨css, h1, h2, h3⟩ := h.cells
  refine ⟨css, h1, h2, fun w hw j u hu => ?_⟩
  obtain ⟨b, off, hao, hc⟩ := h3 w hw j u hu
  refine ⟨⟨b, off, none⟩, hao, ?_⟩
  have : (⟨b, off, none⟩ : Addr).add j = ⟨b, off + j, none⟩ := by unfold Addr.add; split <;> simp_all
  rw [this, ← hc, show off + 0 * 7 + j = off + j by omega]
/-- What stands while the parts are told. -/
def PlRel (W : World) (R : HP) (g : Nat) (k : Int) (A : List Value) (l : List Dm) (i : Value) (wr : World) : Prop :=
  ∃ (j : Nat) (so : Option Addr) (sc : Nat) (css : List (List Value)) (M : HP), j ≤ l.length ∧ i = .int .i64 j ∧ css.length = j ∧ (∀ (i : Nat) d cs, (plainPs (l.take j))[i]? = some d → css[i]? = some cs → DK M d cs) ∧ Dm.sizes (plainPs (l.take j)) ≤ Dm.sizes (l.take j) ∧
    sat wr (Go.Proofs.Ytanjiecefioffaa.blk (g + 1 + 1) (dmO [.int .i64 k, .int .i64 0, .bool false, .slice none 0 0, .string ⟨#[]⟩, .slice so j sc, .slice none 0 0]) * (own 54 7 (.slice so j sc) j css.flatten * (M * (Go.Proofs.Ytanjiecefioffaa.blk (g + 1) (dmO [.int .i64 0, .int .i64 0, .bool false, .slice none 0 0, .string ⟨#[]⟩, .slice none 0 0, .slice none 0 0]) * (Go.Proofs.Ytanjiecefioffaa.blk g (dmO A) * R))))) ∧ Below 0 W wr
set_option maxRecDepth 100000 in
set_option maxHeartbeats 8000000 in
theorem plain_seq (k n : Int) (neg : Bool) (mag : List Int) (text : ByteArray) (items rest : List Dm) (hsz : (Dm.mk k n neg mag text items rest).size ≤ 1048576) (hkk : k = 6 ∨ k = 7)
    (hP1 : ∀ d ∈ items, ∀ (w : World) (R : HP) cs, sat w R → DK R d cs → Calls Try.prog 31 #[.agg cs.toArray] w (PlainPost R d w))
    (hP2 : ∀ d ∈ rest, ∀ (w : World) (R : HP) cs, sat w R → DK R d cs → Calls Try.prog 31 #[.agg cs.toArray] w (PlainPost R d w))
    (w : World) (R : HP) (cs : List Value) (hs : sat w R) (hd : DK R (.mk k n neg mag text items rest) cs) :
    Calls Try.prog 31 #[.agg cs.toArray] w (PlainPost R (.mk k n neg mag text items rest) w) := by
  unfold Dm.size at hsz
  obtain ⟨i0, hi, hz0, hz1, hz2⟩ := info_parts info_dm
  have H1 := Lib.hid (And.intro hi (And.intro hz0 (And.intro hz1 hz2)))
  clear hi hz0 hz1 hz2
  obtain ⟨am, cm, ai, ci, ar, cr, rfl, ⟨hk, hn, hmag, hml, hcm, hci, hcr⟩, hit, hre⟩ := hd.open
  have h1 := ((hs.alloc (dmO [.int .i64 k, .int .i64 n, .bool neg, .slice am mag.length cm, .string text, .slice ai items.length ci, .slice ar rest.length cr])).alloc (dmO [.int .i64 0, .int .i64 0, .bool false, .slice none 0 0, .string ⟨#[]⟩, .slice none 0 0, .slice none 0 0])).alloc (dmO [.int .i64 k, .int .i64 0, .bool false, .slice none 0 0, .string ⟨#[]⟩, .slice none 0 0, .slice none 0 0])
  simp only [World.size_alloc] at h1
  obtain ⟨g, hg⟩ : ∃ g, w.heap.size = g := ⟨_, rfl⟩
  rw [hg] at h1
  have hb1 : Below 0 w (((w.alloc (dmO [.int .i64 k, .int .i64 n, .bool neg, .slice am mag.length cm, .string text, .slice ai items.length ci, .slice ar rest.length cr])).alloc (dmO [.int .i64 0, .int .i64 0, .bool false, .slice none 0 0, .string ⟨#[]⟩, .slice none 0 0, .slice none 0 0])).alloc (dmO [.int .i64 k, .int .i64 0, .bool false, .slice none 0 0, .string ⟨#[]⟩, .slice none 0 0, .slice none 0 0])) := ((Below.zero_alloc _ _).trans (Below.zero_alloc _ _)).trans (Below.zero_alloc _ _)
  have HX := Lib.hid (And.intro hP1 (And.intro hP2 (And.intro hit hre)))
  have HB := Lib.hid (And.intro h1 hb1)
  clear hit hre hn hd hs hmag hb1 hP1 hP2 hml
  have b0 := h1.right.right.left.cell 0
  have b5 := h1.right.right.left.cell 5
  simp only [List.getElem?_toArray, List.getElem?_cons_zero, List.getElem?_cons_succ] at b0 b5
  clear h1
  have hilen := Dm.len_le items
  go_enter Try.func31, Try.ntmps31
  go_upto_region 2 with (fail)
  generalize ((w.alloc (dmO [.int .i64 k, .int .i64 n, .bool neg, .slice am mag.length cm, .string text, .slice ai items.length ci, .slice ar rest.length cr])).alloc (dmO [.int .i64 0, .int .i64 0, .bool false, .slice none 0 0, .string ⟨#[]⟩, .slice none 0 0, .slice none 0 0])).alloc (dmO [.int .i64 k, .int .i64 0, .bool false, .slice none 0 0, .string ⟨#[]⟩, .slice none 0 0, .slice none 0 0]) = w7 at *
  have hk1 : (k == 1) = false := by rcases hkk with rfl | rfl <;> decide
  have hk2 : (k == 2) = false := by rcases hkk with rfl | rfl <;> decide
  have hk3 : (k == 3) = false := by rcases hkk with rfl | rfl <;> decide
  have hk4 : (k == 4) = false := by rcases hkk with rfl | rfl <;> decide
  have hk5 : (k == 5) = false := by rcases hkk with rfl | rfl <;> decide
  rcases hkk with hk6 | hk7
  · have e6 : (k == 6) = true := by simp [hk6]
    have HK6 := Lib.hid hk6
    clear hk6
    go_wp2_with fail
    go_loopw [4] (PlRel w R g k [.int .i64 k, .int .i64 n, .bool neg, .slice am mag.length cm, .string text, .slice ai items.length ci, .slice ar rest.length cr] items) (fun i _ => items.length - (intOf i).toNat)
    case atStart =>
      refine ⟨0, none, 0, [], emp, Nat.zero_le _, rfl, rfl, fun i d cs h _ => by simp [plainPs] at h, by simp [plainPs, Dm.sizes], ?_, HB.out.2⟩
      rw [HP.emp_mul]
      exact (HB.out.1.nil_own (e := 54) (sz := 7)).perm (show own _ _ _ _ [] * _ = _ by rw [List.flatten_nil]; ac_rfl)
    case round =>
      clear HB b0 b5
      obtain ⟨j, so, sc, css, M, hj, rfl, hcl, hdk, hzz, h1, hb1⟩ := hrel
      have b5 := h1.right.right.right.right.left.cell 5
      have b0 := h1.right.right.right.right.left.cell 0
      have b6 := h1.right.right.right.right.left.cell 6
      have x5 := h1.left.cell 5
      simp only [List.getElem?_toArray, List.getElem?_cons_zero, List.getElem?_cons_succ] at b0 b5 b6 x5
      by_cases hlt : j < items.length
      · obtain ⟨d, ex⟩ : ∃ d, items[j]? = some d := ⟨_, List.getElem?_eq_getElem hlt⟩
        obtain ⟨b, off, ds, hai, hcell, hdd⟩ := HX.out.2.2.1.get j d ex
        rw [hai] at b5
        have HAI := Lib.hid hai
        clear hai
        have hcw := hcell wr h1.right.right.right.right.right
        rw [Nat.zero_add] at hcw
        have hC := HX.out.1 d (List.mem_of_getElem? ex) wr.drew _ ds h1.drew (hdd.mono (fun w h => h.right.right.right.right.right) _)
        obtain ⟨u0, u1, u2, u3', u4, u5, u6, rfl⟩ := hdd.seven
        have i0' := hcw 0 _ rfl
        have i1 := hcw 1 _ rfl
        have i2 := hcw 2 _ rfl
        have i3 := hcw 3 _ rfl
        have i4 := hcw 4 _ rfl
        have i5 := hcw 5 _ rfl
        have i6 := hcw 6 _ rfl
        rw [Nat.add_zero] at i0'
        clear hcw hdd hcell
        have o1 : ∀ (w3 : World) (M2 : HP) (v0 v1 v2 v3 v4 v5 v6 : Value), sat w3 (M2 * (Go.Proofs.Ytanjiecefioffaa.blk (g + 1 + 1) (dmO [.int .i64 k, .int .i64 0, .bool false, .slice none 0 0, .string ⟨#[]⟩, .slice so j sc, .slice none 0 0]) * (own 54 7 (.slice so j sc) j css.flatten * (M * (Go.Proofs.Ytanjiecefioffaa.blk (g + 1) (dmO [.int .i64 0, .int .i64 0, .bool false, .slice none 0 0, .string ⟨#[]⟩, .slice none 0 0, .slice none 0 0]) * (Go.Proofs.Ytanjiecefioffaa.blk g (dmO [.int .i64 k, .int .i64 n, .bool neg, .slice am mag.length cm, .string text, .slice ai items.length ci, .slice ar rest.length cr]) * R)))))) →
            w3.cell? ⟨g + 1 + 1, 5, none⟩ = some (.slice so j sc) ∧ (w3.alloc (dmO [v0, v1, v2, v3, v4, v5, v6])).cell? ⟨g + 1 + 1, 5, none⟩ = some (.slice so j sc) ∧
            (∀ (j' : Nat) u, [v0, v1, v2, v3, v4, v5, v6][j']? = some u → (w3.alloc (dmO [v0, v1, v2, v3, v4, v5, v6])).cell? ((⟨w3.heap.size, 0, none⟩ : Addr).add j') = some u) ∧
            sat (w3.alloc (dmO [v0, v1, v2, v3, v4, v5, v6])) (own 54 7 (.slice so j sc) j css.flatten * (Go.Proofs.Ytanjiecefioffaa.blk w3.heap.size (dmO [v0, v1, v2, v3, v4, v5, v6]) * (Go.Proofs.Ytanjiecefioffaa.blk (g + 1 + 1) (dmO [.int .i64 k, .int .i64 0, .bool false, .slice none 0 0, .string ⟨#[]⟩, .slice so j sc, .slice none 0 0]) * ((M2 * M) * (Go.Proofs.Ytanjiecefioffaa.blk (g + 1) (dmO [.int .i64 0, .int .i64 0, .bool false, .slice none 0 0, .string ⟨#[]⟩, .slice none 0 0, .slice none 0 0]) * (Go.Proofs.Ytanjiecefioffaa.blk g (dmO [.int .i64 k, .int .i64 n, .bool neg, .slice am mag.length cm, .string text, .slice ai items.length ci, .slice ar rest.length cr]) * R)))))) := by
          intro w3 M2 v0 v1 v2 v3 v4 v5 v6 h
          have h2 := h.alloc (dmO [v0, v1, v2, v3, v4, v5, v6])
          refine ⟨h.right.left.cell 5, h2.right.right.left.cell 5, ?_, h2.perm (by ac_rfl)⟩
          intro j' u hu
          rw [dm_addz, h2.left.cell j', ← hu]
          simp
        have o2 : ∀ (w9 : World) (bl : Nat) (o : Obj) (b7 c7 : Nat) (xs : List Value) (M2 : HP), sat w9 (row 54 7 b7 c7 xs * (Go.Proofs.Ytanjiecefioffaa.blk bl o * (Go.Proofs.Ytanjiecefioffaa.blk (g + 1 + 1) (dmO [.int .i64 k, .int .i64 0, .bool false, .slice none 0 0, .string ⟨#[]⟩, .slice so j sc, .slice none 0 0]) * ((M2 * M) * (Go.Proofs.Ytanjiecefioffaa.blk (g + 1) (dmO [.int .i64 0, .int .i64 0, .bool false, .slice none 0 0, .string ⟨#[]⟩, .slice none 0 0, .slice none 0 0]) * (Go.Proofs.Ytanjiecefioffaa.blk g (dmO [.int .i64 k, .int .i64 n, .bool neg, .slice am mag.length cm, .string text, .slice ai items.length ci, .slice ar rest.length cr]) * R)))))) →
            w9.cell? ⟨g + 1 + 1, 5, none⟩ = some (.slice so j sc) ∧ w9.frozen? ⟨g + 1 + 1, 5, none⟩ = false := fun w9 bl o b7 c7 xs M2 h => ⟨h.right.right.left.cell 5, h.right.right.left.frozen 5⟩
        have HO := Lib.hid (And.intro o1 o2)
        have HK := Lib.hid (And.intro hcl (And.intro hdk (And.intro hzz (And.intro hb1 ex))))
        have HC := Lib.hid hC
        clear o1 o2 hcl hdk hzz hb1 ex hC h1
        go_wp2_with fail
        go_region_law
          (first
            | (go_simp; go_at_call 31; refine HC.out.mono ?_; rintro e w3 ⟨cs2, M2, rfl, hdk2, hz2, h3, hb3⟩; obtain ⟨v0, v1, v2, v3, v4, v5, v6, rfl⟩ := hdk2.seven; obtain ⟨y1, y2, y3, y4⟩ := HO.out.1 w3 M2 v0 v1 v2 v3 v4 v5 v6 h3)
            | (refine step_append_sat rfl (.tmp 40) (.tmp 47) 52 rfl 54 i0 zeroDm 7 112 Try.underlying52 H1.out.1 H1.out.2.1 H1.out.2.2.1 H1.out.2.2.2 rfl _ j css.flatten (by rfl) _ y4 ⟨w3.heap.size, 0, none⟩ 1 1 [v0, v1, v2, v3, v4, v5, v6] (by rfl) rfl y3 hdk2.one (by omega) (by unfold maxLen; omega) (by omega) ?_; intro b7 c7 w9 hs9 hc9 hb9; obtain ⟨y5, y6⟩ := HO.out.2 _ _ _ _ _ _ _ hs9))
        all_goals (
          have hs10 : sat w9 (Go.Proofs.Ytanjiecefioffaa.blk (g + 1 + 1) (dmO [.int .i64 k, .int .i64 0, .bool false, .slice none 0 0, .string ⟨#[]⟩, .slice so j sc, .slice none 0 0]) * (row 54 7 b7 c7 (css.flatten ++ [v0, v1, v2, v3, v4, v5, v6]) * ((M2 * M) * (Go.Proofs.Ytanjiecefioffaa.blk (g + 1) (dmO [.int .i64 0, .int .i64 0, .bool false, .slice none 0 0, .string ⟨#[]⟩, .slice none 0 0, .slice none 0 0]) * (Go.Proofs.Ytanjiecefioffaa.blk g (dmO [.int .i64 k, .int .i64 n, .bool neg, .slice am mag.length cm, .string text, .slice ai items.length ci, .slice ar rest.length cr]) * R))))) := (show sat w9 (Go.Proofs.Ytanjiecefioffaa.blk w3.heap.size (dmO [v0, v1, v2, v3, v4, v5, v6]) * (Go.Proofs.Ytanjiecefioffaa.blk (g + 1 + 1) (dmO [.int .i64 k, .int .i64 0, .bool false, .slice none 0 0, .string ⟨#[]⟩, .slice so j sc, .slice none 0 0]) * (row 54 7 b7 c7 (css.flatten ++ [v0, v1, v2, v3, v4, v5, v6]) * ((M2 * M) * (Go.Proofs.Ytanjiecefioffaa.blk (g + 1) (dmO [.int .i64 0, .int .i64 0, .bool false, .slice none 0 0, .string ⟨#[]⟩, .slice none 0 0, .slice none 0 0]) * (Go.Proofs.Ytanjiecefioffaa.blk g (dmO [.int .i64 k, .int .i64 n, .bool neg, .slice am mag.length cm, .string text, .slice ai items.length ci, .slice ar rest.length cr]) * R)))))) from hs9.perm (by ac_rfl)).right
          have hs11 : sat (w9.setCell ⟨g + 1 + 1, 5, none⟩ (.slice (some ⟨b7, 0, none⟩) (j + 1) c7)) (Go.Proofs.Ytanjiecefioffaa.blk (g + 1 + 1) (dmO [.int .i64 k, .int .i64 0, .bool false, .slice none 0 0, .string ⟨#[]⟩, .slice (some ⟨b7, 0, none⟩) (j + 1) c7, .slice none 0 0]) * (row 54 7 b7 c7 (css.flatten ++ [v0, v1, v2, v3, v4, v5, v6]) * ((M2 * M) * (Go.Proofs.Ytanjiecefioffaa.blk (g + 1) (dmO [.int .i64 0, .int .i64 0, .bool false, .slice none 0 0, .string ⟨#[]⟩, .slice none 0 0, .slice none 0 0]) * (Go.Proofs.Ytanjiecefioffaa.blk g (dmO [.int .i64 k, .int .i64 n, .bool neg, .slice am mag.length cm, .string text, .slice ai items.length ci, .slice ar rest.length cr]) * R))))) := hs10.setCell (off := 5) (.slice (some ⟨b7, 0, none⟩) (j + 1) c7)
          have hb11 : Below 0 w (w9.setCell ⟨g + 1 + 1, 5, none⟩ (.slice (some ⟨b7, 0, none⟩) (j + 1) c7)) := (((HK.out.2.2.2.1.drew.trans hb3).trans (Below.zero_alloc _ _)).trans hb9).setCell (p := ⟨g + 1 + 1, 5, none⟩) (Nat.zero_le _) _
          have HF := Lib.hid (And.intro hs11 (And.intro hb11 (And.intro hdk2 (And.intro hz2 hc9))))
          clear hs9 hs10 hs11 hb11 hb3 hb9 h3 y1 y2 y3 y4 y5 y6 hdk2 hz2 hc9 HO HC
          go_wp2_with fail
          go_roundw
          case rel =>
            obtain ⟨g1, g2, g3, g4, g5⟩ := HF.out
            obtain ⟨e1, e2, e3, e4, e5⟩ := HK.out
            refine ⟨j + 1, some ⟨b7, 0, none⟩, c7, css ++ [[v0, v1, v2, v3, v4, v5, v6]], M2 * M, by omega, by go_num, by simp [e1], ?_, ?_, ?_, g2⟩
            · intro i d' cs hd hc
              rw [plainPs_take, List.getElem?_take] at hd
              split at hd
              · by_cases hik : i = j
                · subst hik
                  rw [plainPs_get e5] at hd
                  cases hd
                  rw [List.getElem?_append_right (by rw [e1]; exact Nat.le_refl _), e1, Nat.sub_self] at hc
                  simp at hc
                  subst hc
                  exact g3.mono (fun w h => h.left) _
                · rw [List.getElem?_append_left (by rw [e1]; omega)] at hc
                  exact (e2 i d' cs (by rw [plainPs_take, List.getElem?_take, if_pos (by omega)]; exact hd) hc).mono (fun w h => h.right) _
              · cases hd
            · rw [plainPs_take, List.take_add_one, List.take_add_one, e5, plainPs_get e5, Dm.sizes_app, Dm.sizes_app, ← plainPs_take]
              simp only [Option.toList_some, Dm.sizes]
              omega
            · rw [List.flatten_append, List.flatten_cons, List.flatten_nil, List.append_nil]
              have g6 : sat _ (row 54 7 b7 c7 (css.flatten ++ [v0, v1, v2, v3, v4, v5, v6]) * (Go.Proofs.Ytanjiecefioffaa.blk (g + 1 + 1) (dmO [.int .i64 k, .int .i64 0, .bool false, .slice none 0 0, .string ⟨#[]⟩, .slice (some ⟨b7, 0, none⟩) (j + 1) c7, .slice none 0 0]) * ((M2 * M) * (Go.Proofs.Ytanjiecefioffaa.blk (g + 1) (dmO [.int .i64 0, .int .i64 0, .bool false, .slice none 0 0, .string ⟨#[]⟩, .slice none 0 0, .slice none 0 0]) * (Go.Proofs.Ytanjiecefioffaa.blk g (dmO [.int .i64 k, .int .i64 n, .bool neg, .slice am mag.length cm, .string text, .slice ai items.length ci, .slice ar rest.length cr]) * R))))) := g1.perm (by ac_rfl)
              have hfl : (css.flatten ++ [v0, v1, v2, v3, v4, v5, v6]).length = (j + 1) * 7 := by
                have h7 : ∀ cs ∈ css, cs.length = 7 := by
                  intro cs hcs
                  obtain ⟨i, hi⟩ := List.mem_iff_getElem?.1 hcs
                  have hij := (List.getElem?_eq_some_iff.1 hi).1
                  exact (e2 i _ cs (List.getElem?_eq_getElem (by rw [plainPs_len, List.length_take]; omega)) hi).len
                have h8 := flat7 h7
                rw [List.length_append, h8, e1]
                simp only [List.length_cons, List.length_nil]
                omega
              exact (g6.shut_own (n := j + 1) hfl g5).perm (by ac_rfl)
          case measure => simp [intOf]; omega)
      · obtain rfl : j = items.length := by omega
        have hge : decide ((items.length : Int) < (items.length : Int)) = false := by simp
        rw [List.take_of_length_le (Nat.le_refl _)] at hdk hzz
        by_cases hr1 : rest.length = 1
        · skip
          have ex0 : ∃ r0, rest[0]? = some r0 := ⟨_, List.getElem?_eq_getElem (by omega)⟩
          obtain ⟨r0, ex0⟩ := ex0
          have hrest : rest = [r0] := by
            match rest, hr1, ex0 with
            | [x], _, h => simp at h; rw [h]
          obtain ⟨b, off, ds, har, hcell, hdd⟩ := HX.out.2.2.2.get 0 r0 ex0
          have hcw := hcell wr h1.right.right.right.right.right
          have hC := HX.out.2.1 r0 (List.mem_of_getElem? ex0) wr _ ds h1 (hdd.mono (fun w h => h.right.right.right.right.right) _)
          rw [har, hr1] at b6
          obtain ⟨u0, u1, u2, u3', u4, u5, u6, rfl⟩ := hdd.seven
          have i0' := hcw 0 _ rfl
          have i1 := hcw 1 _ rfl
          have i2 := hcw 2 _ rfl
          have i3' := hcw 3 _ rfl
          have i4 := hcw 4 _ rfl
          have i5 := hcw 5 _ rfl
          have i6 := hcw 6 _ rfl
          simp only [Nat.add_zero, Nat.zero_mul] at i0' i1 i2 i3' i4 i5 i6
          have hpj : plainP (.mk k n neg mag text items rest) = joinD (plainPs items) (plainP r0) := by
            rw [HK6.out, hrest]
            exact plainP_join n neg mag text items r0
          have hrz : r0.size ≤ Dm.sizes rest := Dm.size_le ex0
          have HW := Lib.hid (And.intro hpj (And.intro hb1 (And.intro hcl (And.intro hdk (And.intro hzz (And.intro har hrz))))))
          clear hpj hb1 hcl hdk hzz hrest hcell hcw hdd h1 har hrz
          go_wp2_with fail
          refine hC.mono ?_
          clear hC b0 b5 b6 x5 i0' i1 i2 i3' i4 i5 i6
          rintro e w3 ⟨cs3, M3, rfl, hdk3, hz3, h3, hb3⟩
          cases hpr : plainP r0 with
          | mk k3 n3 p3 m3 t3 i3 r3 =>
          rw [hpr] at hdk3 hz3
          have hdk3' := hdk3
          obtain ⟨am3, cm3, ai3, ci3, ar3, cr3, rfl, ⟨_, _, _, _, _, _, hcr3⟩, hi3, hre3⟩ := hdk3.open
          have h4 := h3.alloc (dmO [.int .i64 k3, .int .i64 n3, .bool p3, .slice am3 m3.length cm3, .string t3, .slice ai3 i3.length ci3, .slice ar3 r3.length cr3])
          obtain ⟨g5, hg5⟩ : ∃ g5, w3.heap.size = g5 := ⟨_, rfl⟩
          rw [hg5] at h4
          have hb4 := (HW.out.2.1.trans hb3).trans (Below.zero_alloc w3 (dmO [.int .i64 k3, .int .i64 n3, .bool p3, .slice am3 m3.length cm3, .string t3, .slice ai3 i3.length ci3, .slice ar3 r3.length cr3]))
          have HP3 := Lib.hid (And.intro hpr (And.intro hdk3' (And.intro hz3 (And.intro hi3 (And.intro hre3 hcr3)))))
          clear hpr hdk3 hdk3' hi3 hre3 h3 hb3 hcr3
          have q0 := h4.left.cell 0
          have q1 := h4.left.cell 1
          have q2 := h4.left.cell 2
          have q3 := h4.left.cell 3
          have q4 := h4.left.cell 4
          have q5 := h4.left.cell 5
          have q6 := h4.left.cell 6
          have x5 := h4.right.right.left.cell 5
          have x6 := h4.right.right.left.cell 6
          have f5 := h4.right.right.left.frozen 5
          have f6 := h4.right.right.left.frozen 6
          simp only [List.getElem?_toArray, List.getElem?_cons_zero, List.getElem?_cons_succ] at q0 q1 q2 q3 q4 q5 q6 x5 x6
          rw [size_mk] at hz3
          have hi3l := Dm.len_le i3
          have hrsz : r0.size ≤ 1048576 := by have := HW.out.2.2.2.2.2.2; omega
          obtain ⟨w4, hw4⟩ : ∃ w4, w3.alloc (dmO [.int .i64 k3, .int .i64 n3, .bool p3, .slice am3 m3.length cm3, .string t3, .slice ai3 i3.length ci3, .slice ar3 r3.length cr3]) = w4 := ⟨_, rfl⟩
          rw [hw4] at h4 hb4 q0 q1 q2 q3 q4 q5 q6 x5 x6 f5 f6
          have H4 := Lib.hid (And.intro h4 hb4)
          clear h4 hb4
          by_cases hk3 : k3 = 6
          · have e3 : (k3 == 6) = true := by simp [hk3]
            have HK3 := Lib.hid hk3
            clear hk3
            obtain ⟨css3, hc3l, hc3, hc3c⟩ := HP3.out.2.2.2.1.cellsAt
            have h7 : ∀ cs ∈ css3, cs.length = 7 := by
              intro cs hcs
              obtain ⟨i, hi⟩ := List.mem_iff_getElem?.1 hcs
              have hij := (List.getElem?_eq_some_iff.1 hi).1
              exact (hc3 i _ cs (List.getElem?_eq_getElem (by omega)) hi).len
            have hone : ∀ u ∈ css3.flatten, u.oneCell' = true := by
              intro u hu
              obtain ⟨cs, hcs, hu⟩ := List.mem_flatten.1 hu
              obtain ⟨i, hi⟩ := List.mem_iff_getElem?.1 hcs
              have hij := (List.getElem?_eq_some_iff.1 hi).1
              exact (hc3 i _ cs (List.getElem?_eq_getElem (by omega)) hi).one u hu
            have hfl := flat7 h7
            have hnews := hc3c w4 H4.out.1.right.left
            have hs5 : sat w4 (own 54 7 (.slice so items.length sc) items.length css.flatten * (Go.Proofs.Ytanjiecefioffaa.blk g5 (dmO [.int .i64 k3, .int .i64 n3, .bool p3, .slice am3 m3.length cm3, .string t3, .slice ai3 i3.length ci3, .slice ar3 r3.length cr3]) * (Go.Proofs.Ytanjiecefioffaa.blk (g + 1 + 1) (dmO [.int .i64 k, .int .i64 0, .bool false, .slice none 0 0, .string ⟨#[]⟩, .slice so items.length sc, .slice none 0 0]) * (M3 * (M * (Go.Proofs.Ytanjiecefioffaa.blk (g + 1) (dmO [.int .i64 0, .int .i64 0, .bool false, .slice none 0 0, .string ⟨#[]⟩, .slice none 0 0, .slice none 0 0]) * (Go.Proofs.Ytanjiecefioffaa.blk g (dmO [.int .i64 k, .int .i64 n, .bool neg, .slice am mag.length cm, .string text, .slice ai items.length ci, .slice ar rest.length cr]) * R))))))) := H4.out.1.perm (by ac_rfl)
            have HCC := Lib.hid (And.intro hc3l (And.intro hc3 (And.intro hfl (And.intro hnews (And.intro hone hs5)))))
            clear hc3l hc3 hc3c h7 hone hfl hnews hs5
            go_wp2_with (at_builtin; refine hold ?_)
            refine held ?_
            obtain ⟨hi, hz0, hz1, hz2⟩ := H1.out
            refine wpList_append_opt rfl (.tmp 68) (.tmp 70) 52 rfl 54 i0 zeroDm 7 112 Try.underlying52 hi hz0 hz1 hz2 rfl (by decide) (.slice so items.length sc) items.length css.flatten rfl _ ai3 i3.length ci3 css3.flatten rfl ?_ HCC.out.2.2.2.2.2 (by rw [HCC.out.2.2.1, HCC.out.1]) HCC.out.2.2.2.1 HCC.out.2.2.2.2.1 (by omega) (by unfold maxLen; omega)
            clear hi hz0 hz1 hz2 q0 q1 q2 q3 q4 q5 q6 x5 x6 f5 f6
            intro v9 w9 hs9 hb9
            obtain ⟨so2, sc2, rfl, hsc2⟩ := slice_val hs9
            rw [← List.flatten_append] at hs9
            have x5 := hs9.right.right.left.cell 5
            have f5 := hs9.right.right.left.frozen 5
            have hs10 : sat w9 (Go.Proofs.Ytanjiecefioffaa.blk (g + 1 + 1) (dmO [.int .i64 k, .int .i64 0, .bool false, .slice none 0 0, .string ⟨#[]⟩, .slice so items.length sc, .slice none 0 0]) * (own 54 7 (.slice so2 (items.length + i3.length) sc2) (items.length + i3.length) (css ++ css3).flatten * (Go.Proofs.Ytanjiecefioffaa.blk g5 (dmO [.int .i64 k3, .int .i64 n3, .bool p3, .slice am3 m3.length cm3, .string t3, .slice ai3 i3.length ci3, .slice ar3 r3.length cr3]) * (M3 * (M * (Go.Proofs.Ytanjiecefioffaa.blk (g + 1) (dmO [.int .i64 0, .int .i64 0, .bool false, .slice none 0 0, .string ⟨#[]⟩, .slice none 0 0, .slice none 0 0]) * (Go.Proofs.Ytanjiecefioffaa.blk g (dmO [.int .i64 k, .int .i64 n, .bool neg, .slice am mag.length cm, .string text, .slice ai items.length ci, .slice ar rest.length cr]) * R))))))) := hs9.perm (by ac_rfl)
            have hs11 : sat (w9.setCell ⟨g + 1 + 1, 5, none⟩ (.slice so2 (items.length + i3.length) sc2)) (Go.Proofs.Ytanjiecefioffaa.blk (g + 1 + 1) (dmO [.int .i64 k, .int .i64 0, .bool false, .slice none 0 0, .string ⟨#[]⟩, .slice so2 (items.length + i3.length) sc2, .slice none 0 0]) * (own 54 7 (.slice so2 (items.length + i3.length) sc2) (items.length + i3.length) (css ++ css3).flatten * (Go.Proofs.Ytanjiecefioffaa.blk g5 (dmO [.int .i64 k3, .int .i64 n3, .bool p3, .slice am3 m3.length cm3, .string t3, .slice ai3 i3.length ci3, .slice ar3 r3.length cr3]) * (M3 * (M * (Go.Proofs.Ytanjiecefioffaa.blk (g + 1) (dmO [.int .i64 0, .int .i64 0, .bool false, .slice none 0 0, .string ⟨#[]⟩, .slice none 0 0, .slice none 0 0]) * (Go.Proofs.Ytanjiecefioffaa.blk g (dmO [.int .i64 k, .int .i64 n, .bool neg, .slice am mag.length cm, .string text, .slice ai items.length ci, .slice ar rest.length cr]) * R))))))) := hs10.setCell (off := 5) (.slice so2 (items.length + i3.length) sc2)
            have hb11 : Below 0 w (w9.setCell ⟨g + 1 + 1, 5, none⟩ (.slice so2 (items.length + i3.length) sc2)) := (H4.out.2.trans hb9).setCell (p := ⟨g + 1 + 1, 5, none⟩) (Nat.zero_le _) _
            simp only [List.getElem?_toArray, List.getElem?_cons_zero, List.getElem?_cons_succ] at x5
            clear hs9 hs10 hb9 hw4
            have HS := Lib.hid (And.intro hs11 (And.intro hb11 hsc2))
            clear hs11 hb11 hsc2
            go_upto_region 21 with (fail)
            generalize w9.setCell ⟨g + 1 + 1, 5, none⟩ (.slice so2 (items.length + i3.length) sc2) = w10 at *
            clear x5 f5
            have q6 := HS.out.1.right.right.left.cell 6
            have x6 := HS.out.1.left.cell 6
            have f6 := HS.out.1.left.frozen 6
            simp only [List.getElem?_toArray, List.getElem?_cons_zero, List.getElem?_cons_succ] at q6 x6
            have hs12 : sat (w10.setCell ⟨g + 1 + 1, 6, none⟩ (.slice ar3 r3.length cr3)) (Go.Proofs.Ytanjiecefioffaa.blk (g + 1 + 1) (dmO [.int .i64 k, .int .i64 0, .bool false, .slice none 0 0, .string ⟨#[]⟩, .slice so2 (items.length + i3.length) sc2, .slice ar3 r3.length cr3]) * (own 54 7 (.slice so2 (items.length + i3.length) sc2) (items.length + i3.length) (css ++ css3).flatten * (Go.Proofs.Ytanjiecefioffaa.blk g5 (dmO [.int .i64 k3, .int .i64 n3, .bool p3, .slice am3 m3.length cm3, .string t3, .slice ai3 i3.length ci3, .slice ar3 r3.length cr3]) * (M3 * (M * (Go.Proofs.Ytanjiecefioffaa.blk (g + 1) (dmO [.int .i64 0, .int .i64 0, .bool false, .slice none 0 0, .string ⟨#[]⟩, .slice none 0 0, .slice none 0 0]) * (Go.Proofs.Ytanjiecefioffaa.blk g (dmO [.int .i64 k, .int .i64 n, .bool neg, .slice am mag.length cm, .string text, .slice ai items.length ci, .slice ar rest.length cr]) * R))))))) := HS.out.1.setCell (off := 6) (.slice ar3 r3.length cr3)
            have hb12 : Below 0 w (w10.setCell ⟨g + 1 + 1, 6, none⟩ (.slice ar3 r3.length cr3)) := HS.out.2.1.setCell (p := ⟨g + 1 + 1, 6, none⟩) (Nat.zero_le _) _
            have hdall : ∀ (i : Nat) d cs, (plainPs items ++ i3)[i]? = some d → (css ++ css3)[i]? = some cs → DK (M * M3) d cs := by
              intro i d cs hd hc
              rcases Nat.lt_or_ge i items.length with hlt' | hge'
              · rw [List.getElem?_append_left (by rw [plainPs_len]; exact hlt')] at hd
                rw [List.getElem?_append_left (by rw [HW.out.2.2.1]; exact hlt')] at hc
                exact (HW.out.2.2.2.1 i d cs hd hc).mono (fun w h => h.left) _
              · rw [List.getElem?_append_right (by rw [plainPs_len]; exact hge'), plainPs_len] at hd
                rw [List.getElem?_append_right (by rw [HW.out.2.2.1]; exact hge'), HW.out.2.2.1] at hc
                exact (HCC.out.2.1 _ d cs hd hc).mono (fun w h => h.right) _
            have hdks : DKs (own 54 7 (.slice so2 (items.length + i3.length) sc2) (items.length + i3.length) (css ++ css3).flatten * (M * M3)) (plainPs items ++ i3) so2 0 := row_dks (by simp [plainPs_len, HW.out.2.2.1, HCC.out.1]) (by simp [plainPs_len]) hdall _ hs12.right
            have hp : plainP (.mk k n neg mag text items rest) = .mk k 0 false [] ⟨#[]⟩ (plainPs items ++ i3) r3 := by
              rw [HW.out.1, HP3.out.1]
              show (if k3 = 6 then _ else _) = _
              rw [if_pos HK3.out, HK6.out]
            have hdk8 : DK (own 54 7 (.slice so2 (items.length + i3.length) sc2) (items.length + i3.length) (css ++ css3).flatten * (M * M3)) (.mk k 0 false [] ⟨#[]⟩ (plainPs items ++ i3) r3) [.int .i64 k, .int .i64 0, .bool false, .slice none 0 0, .string ⟨#[]⟩, .slice so2 (items.length + i3.length) sc2, .slice ar3 r3.length cr3] := by
              have := DK.mk (R := (own 54 7 (.slice so2 (items.length + i3.length) sc2) (items.length + i3.length) (css ++ css3).flatten * (M * M3))) (mag := []) (neg := false) (text := ⟨#[]⟩) (n := 0) (am := none) (cm := 0) (ci := sc2) ⟨hk, by decide⟩ (fun w _ j x hx => by simp at hx) (by simp) ⟨Nat.le_refl _, by rw [List.length_append, plainPs_len]; exact HS.out.2.2, HP3.out.2.2.2.2.2⟩ hdks (HP3.out.2.2.2.2.1.mono (fun w h => h.right.right) _)
              rw [List.length_append, plainPs_len] at this
              exact this
            have h8 : sat (w10.setCell ⟨g + 1 + 1, 6, none⟩ (.slice ar3 r3.length cr3)) (Go.Proofs.Ytanjiecefioffaa.blk (g + 1 + 1) (dmO [.int .i64 k, .int .i64 0, .bool false, .slice none 0 0, .string ⟨#[]⟩, .slice so2 (items.length + i3.length) sc2, .slice ar3 r3.length cr3]) * (Go.Proofs.Ytanjiecefioffaa.blk (g + 1) (dmO [.int .i64 0, .int .i64 0, .bool false, .slice none 0 0, .string ⟨#[]⟩, .slice none 0 0, .slice none 0 0]) * ((own 54 7 (.slice so2 (items.length + i3.length) sc2) (items.length + i3.length) (css ++ css3).flatten * (M * M3)) * R))) := (show sat _ (Go.Proofs.Ytanjiecefioffaa.blk g (dmO [.int .i64 k, .int .i64 n, .bool neg, .slice am mag.length cm, .string text, .slice ai items.length ci, .slice ar rest.length cr]) * (Go.Proofs.Ytanjiecefioffaa.blk g5 (dmO [.int .i64 k3, .int .i64 n3, .bool p3, .slice am3 m3.length cm3, .string t3, .slice ai3 i3.length ci3, .slice ar3 r3.length cr3]) * (Go.Proofs.Ytanjiecefioffaa.blk (g + 1 + 1) (dmO [.int .i64 k, .int .i64 0, .bool false, .slice none 0 0, .string ⟨#[]⟩, .slice so2 (items.length + i3.length) sc2, .slice ar3 r3.length cr3]) * (Go.Proofs.Ytanjiecefioffaa.blk (g + 1) (dmO [.int .i64 0, .int .i64 0, .bool false, .slice none 0 0, .string ⟨#[]⟩, .slice none 0 0, .slice none 0 0]) * ((own 54 7 (.slice so2 (items.length + i3.length) sc2) (items.length + i3.length) (css ++ css3).flatten * (M * M3)) * R))))) from hs12.perm (by ac_rfl)).right.right
            have H8 := Lib.hid (And.intro h8 hb12)
            have HDK := Lib.hid (And.intro hdk8 (And.intro HW.out.2.2.2.2.1 (And.intro HP3.out.2.2.1 HW.out.2.2.2.2.2.2)))
            clear h8 hb12 hs12 hdks hdk8 hdall
            go_upto_region 23 with (fail)
            generalize w10.setCell ⟨g + 1 + 1, 6, none⟩ (.slice ar3 r3.length cr3) = w8 at *
            clear q6 x6 f6
            have d0 := H8.out.1.left.cell 0
            have d1 := H8.out.1.left.cell 1
            have d2 := H8.out.1.left.cell 2
            have d3 := H8.out.1.left.cell 3
            have d4 := H8.out.1.left.cell 4
            have d5 := H8.out.1.left.cell 5
            have d6 := H8.out.1.left.cell 6
            have h9 : sat w8 (Go.Proofs.Ytanjiecefioffaa.blk (g + 1) (dmO [.int .i64 0, .int .i64 0, .bool false, .slice none 0 0, .string ⟨#[]⟩, .slice none 0 0, .slice none 0 0]) * (Go.Proofs.Ytanjiecefioffaa.blk (g + 1 + 1) (dmO [.int .i64 k, .int .i64 0, .bool false, .slice none 0 0, .string ⟨#[]⟩, .slice so2 (items.length + i3.length) sc2, .slice ar3 r3.length cr3]) * ((own 54 7 (.slice so2 (items.length + i3.length) sc2) (items.length + i3.length) (css ++ css3).flatten * (M * M3)) * R))) := H8.out.1.perm (by ac_rfl)
            have z0 := h9.left.cell 0
            have z1 := h9.left.cell 1
            have z2 := h9.left.cell 2
            have z3 := h9.left.cell 3
            have z4 := h9.left.cell 4
            have z5 := h9.left.cell 5
            have z6 := h9.left.cell 6
            have y0 := h9.left.frozen 0
            have y1 := h9.left.frozen 1
            have y2 := h9.left.frozen 2
            have y3 := h9.left.frozen 3
            have y4 := h9.left.frozen 4
            have y5 := h9.left.frozen 5
            have y6 := h9.left.frozen 6
            have h10 := (((((((h9.setCell (off := 0) (.int .i64 k)).setCell (off := 1) (.int .i64 0)).setCell (off := 2) (.bool false)).setCell (off := 3) (.slice none 0 0)).setCell (off := 4) (.string ⟨#[]⟩)).setCell (off := 5) (.slice so2 (items.length + i3.length) sc2)).setCell (off := 6) (.slice ar3 r3.length cr3))
            have hb10 := (((((((H8.out.2.setCell (p := ⟨g + 1, 0, none⟩) (Nat.zero_le _) (.int .i64 k)).setCell (p := ⟨g + 1, 1, none⟩) (Nat.zero_le _) (.int .i64 0)).setCell (p := ⟨g + 1, 2, none⟩) (Nat.zero_le _) (.bool false)).setCell (p := ⟨g + 1, 3, none⟩) (Nat.zero_le _) (.slice none 0 0)).setCell (p := ⟨g + 1, 4, none⟩) (Nat.zero_le _) (.string ⟨#[]⟩)).setCell (p := ⟨g + 1, 5, none⟩) (Nat.zero_le _) (.slice so2 (items.length + i3.length) sc2)).setCell (p := ⟨g + 1, 6, none⟩) (Nat.zero_le _) (.slice ar3 r3.length cr3))
            have HY := Lib.hid (And.intro h10 hb10)
            clear h9 h10 hb10
            simp only [List.getElem?_toArray, List.getElem?_cons_zero, List.getElem?_cons_succ] at d0 d1 d2 d3 d4 d5 d6 z0 z1 z2 z3 z4 z5 z6
            go_wp2_with fail
            generalize (((((((w8.setCell ⟨g + 1, 0, none⟩ (.int .i64 k)).setCell ⟨g + 1, 1, none⟩ (.int .i64 0)).setCell ⟨g + 1, 2, none⟩ (.bool false)).setCell ⟨g + 1, 3, none⟩ (.slice none 0 0)).setCell ⟨g + 1, 4, none⟩ (.string ⟨#[]⟩)).setCell ⟨g + 1, 5, none⟩ (.slice so2 (items.length + i3.length) sc2)).setCell ⟨g + 1, 6, none⟩ (.slice ar3 r3.length cr3)) = w9 at *
            obtain ⟨rr0, rr1, rr2, rr3, rr4, rr5, rr6⟩ := cells7 HY.out.1
            have hpost : PlainPost R (.mk k n neg mag text items rest) w (.returned (.agg #[.int .i64 k, .int .i64 0, .bool false, .slice none 0 0, .string ⟨#[]⟩, .slice so2 (items.length + i3.length) sc2, .slice ar3 r3.length cr3])) w9 :=
              ⟨[.int .i64 k, .int .i64 0, .bool false, .slice none 0 0, .string ⟨#[]⟩, .slice so2 (items.length + i3.length) sc2, .slice ar3 r3.length cr3], (own 54 7 (.slice so2 (items.length + i3.length) sc2) (items.length + i3.length) (css ++ css3).flatten * (M * M3)), rfl, (by rw [hp]; exact HDK.out.1), (by rw [hp]; have h0 : (⟨#[]⟩ : ByteArray).size = 0 := rfl; have h2 := HDK.out.2.1; have h3 := HDK.out.2.2.1; have h4 := HDK.out.2.2.2; rw [size_mk] at h3; rw [size_mk, size_mk, Dm.sizes_app, List.length_nil]; omega), HY.out.1.right.right, HY.out.2⟩
            exact bodyPost_ret (v := .agg #[.int .i64 k, .int .i64 0, .bool false, .slice none 0 0, .string ⟨#[]⟩, .slice so2 (items.length + i3.length) sc2, .slice ar3 r3.length cr3]) (by simp [results, Try.results31, go_sem, rr0, rr1, rr2, rr3, rr4, rr5, rr6]) rfl hpost
          · have e3 : (k3 == 6) = false := by simp [hk3]
            have HK3 := Lib.hid hk3
            clear hk3
            have h5 := H4.out.1.alloc (dmO [.int .i64 k3, .int .i64 n3, .bool p3, .slice am3 m3.length cm3, .string t3, .slice ai3 i3.length ci3, .slice ar3 r3.length cr3])
            obtain ⟨g6, hg6⟩ : ∃ g6, w4.heap.size = g6 := ⟨_, rfl⟩
            rw [hg6] at h5
            have hb5 := H4.out.2.trans (Below.zero_alloc w4 (dmO [.int .i64 k3, .int .i64 n3, .bool p3, .slice am3 m3.length cm3, .string t3, .slice ai3 i3.length ci3, .slice ar3 r3.length cr3]))
            have hs5 : sat (w4.alloc (dmO [.int .i64 k3, .int .i64 n3, .bool p3, .slice am3 m3.length cm3, .string t3, .slice ai3 i3.length ci3, .slice ar3 r3.length cr3])) (Go.Proofs.Ytanjiecefioffaa.blk (g + 1 + 1) (dmO [.int .i64 k, .int .i64 0, .bool false, .slice none 0 0, .string ⟨#[]⟩, .slice so items.length sc, .slice none 0 0]) * (Go.Proofs.Ytanjiecefioffaa.blk g6 (dmO [.int .i64 k3, .int .i64 n3, .bool p3, .slice am3 m3.length cm3, .string t3, .slice ai3 i3.length ci3, .slice ar3 r3.length cr3]) * (Go.Proofs.Ytanjiecefioffaa.blk g5 (dmO [.int .i64 k3, .int .i64 n3, .bool p3, .slice am3 m3.length cm3, .string t3, .slice ai3 i3.length ci3, .slice ar3 r3.length cr3]) * (M3 * (own 54 7 (.slice so items.length sc) items.length css.flatten * (M * (Go.Proofs.Ytanjiecefioffaa.blk (g + 1) (dmO [.int .i64 0, .int .i64 0, .bool false, .slice none 0 0, .string ⟨#[]⟩, .slice none 0 0, .slice none 0 0]) * (Go.Proofs.Ytanjiecefioffaa.blk g (dmO [.int .i64 k, .int .i64 n, .bool neg, .slice am mag.length cm, .string text, .slice ai items.length ci, .slice ar rest.length cr]) * R)))))))) := h5.perm (by ac_rfl)
            have z6' := hs5.left.cell 6
            have zf6 := hs5.left.frozen 6
            simp only [List.getElem?_toArray, List.getElem?_cons_zero, List.getElem?_cons_succ] at z6'
            have hs12 : sat ((w4.alloc (dmO [.int .i64 k3, .int .i64 n3, .bool p3, .slice am3 m3.length cm3, .string t3, .slice ai3 i3.length ci3, .slice ar3 r3.length cr3])).setCell ⟨g + 1 + 1, 6, none⟩ (.slice (some ⟨g6, 0, none⟩) 1 1)) (Go.Proofs.Ytanjiecefioffaa.blk (g + 1 + 1) (dmO [.int .i64 k, .int .i64 0, .bool false, .slice none 0 0, .string ⟨#[]⟩, .slice so items.length sc, .slice (some ⟨g6, 0, none⟩) 1 1]) * (Go.Proofs.Ytanjiecefioffaa.blk g6 (dmO [.int .i64 k3, .int .i64 n3, .bool p3, .slice am3 m3.length cm3, .string t3, .slice ai3 i3.length ci3, .slice ar3 r3.length cr3]) * (Go.Proofs.Ytanjiecefioffaa.blk g5 (dmO [.int .i64 k3, .int .i64 n3, .bool p3, .slice am3 m3.length cm3, .string t3, .slice ai3 i3.length ci3, .slice ar3 r3.length cr3]) * (M3 * (own 54 7 (.slice so items.length sc) items.length css.flatten * (M * (Go.Proofs.Ytanjiecefioffaa.blk (g + 1) (dmO [.int .i64 0, .int .i64 0, .bool false, .slice none 0 0, .string ⟨#[]⟩, .slice none 0 0, .slice none 0 0]) * (Go.Proofs.Ytanjiecefioffaa.blk g (dmO [.int .i64 k, .int .i64 n, .bool neg, .slice am mag.length cm, .string text, .slice ai items.length ci, .slice ar rest.length cr]) * R)))))))) := hs5.setCell (off := 6) (.slice (some ⟨g6, 0, none⟩) 1 1)
            have hb12 : Below 0 w ((w4.alloc (dmO [.int .i64 k3, .int .i64 n3, .bool p3, .slice am3 m3.length cm3, .string t3, .slice ai3 i3.length ci3, .slice ar3 r3.length cr3])).setCell ⟨g + 1 + 1, 6, none⟩ (.slice (some ⟨g6, 0, none⟩) 1 1)) := hb5.setCell (p := ⟨g + 1 + 1, 6, none⟩) (Nat.zero_le _) _
            have hown : sat ((w4.alloc (dmO [.int .i64 k3, .int .i64 n3, .bool p3, .slice am3 m3.length cm3, .string t3, .slice ai3 i3.length ci3, .slice ar3 r3.length cr3])).setCell ⟨g + 1 + 1, 6, none⟩ (.slice (some ⟨g6, 0, none⟩) 1 1)) (own 54 7 (.slice so items.length sc) items.length css.flatten * (M * (Go.Proofs.Ytanjiecefioffaa.blk (g + 1) (dmO [.int .i64 0, .int .i64 0, .bool false, .slice none 0 0, .string ⟨#[]⟩, .slice none 0 0, .slice none 0 0]) * (Go.Proofs.Ytanjiecefioffaa.blk g (dmO [.int .i64 k, .int .i64 n, .bool neg, .slice am mag.length cm, .string text, .slice ai items.length ci, .slice ar rest.length cr]) * R)))) := hs12.right.right.right.right
            have hsc : items.length ≤ sc := by
              obtain ⟨a', c', e', hle⟩ := slice_val hown
              simp only [Value.slice.injEq] at e'
              omega
            have hdks : DKs (own 54 7 (.slice so items.length sc) items.length css.flatten * M) (plainPs items) so 0 := row_dks (by rw [plainPs_len]; exact HW.out.2.2.1) (by rw [plainPs_len]) HW.out.2.2.2.1 _ hown
            have hdr : DKs (own 54 7 (.slice so items.length sc) items.length css.flatten * (M * (Go.Proofs.Ytanjiecefioffaa.blk g6 (dmO [.int .i64 k3, .int .i64 n3, .bool p3, .slice am3 m3.length cm3, .string t3, .slice ai3 i3.length ci3, .slice ar3 r3.length cr3]) * M3))) [.mk k3 n3 p3 m3 t3 i3 r3] (some ⟨g6, 0, none⟩) 0 := by
              refine DKs.of_row [.mk k3 n3 p3 m3 t3 i3 r3] [[.int .i64 k3, .int .i64 n3, .bool p3, .slice am3 m3.length cm3, .string t3, .slice ai3 i3.length ci3, .slice ar3 r3.length cr3]] 0 rfl ?_ ?_
              · intro i d cs hd hc
                match i, hd, hc with
                | 0, hd, hc =>
                  simp only [List.getElem?_cons_zero, Option.some.injEq] at hd hc
                  subst hd hc
                  exact HP3.out.2.1.mono (fun w h => h.right.right.right) _
              · intro w hw i cs hc j v hv
                match i, hc with
                | 0, hc =>
                  simp only [List.getElem?_cons_zero, Option.some.injEq] at hc
                  subst hc
                  rw [hw.right.right.left.cell, ← hv]
                  simp
            have hp : plainP (.mk k n neg mag text items rest) = .mk k 0 false [] ⟨#[]⟩ (plainPs items) [.mk k3 n3 p3 m3 t3 i3 r3] := by
              rw [HW.out.1, HP3.out.1]
              show (if k3 = 6 then _ else _) = _
              rw [if_neg HK3.out, HK6.out]
            have hdk8 : DK (own 54 7 (.slice so items.length sc) items.length css.flatten * (M * (Go.Proofs.Ytanjiecefioffaa.blk g6 (dmO [.int .i64 k3, .int .i64 n3, .bool p3, .slice am3 m3.length cm3, .string t3, .slice ai3 i3.length ci3, .slice ar3 r3.length cr3]) * M3))) (.mk k 0 false [] ⟨#[]⟩ (plainPs items) [.mk k3 n3 p3 m3 t3 i3 r3]) [.int .i64 k, .int .i64 0, .bool false, .slice none 0 0, .string ⟨#[]⟩, .slice so items.length sc, .slice (some ⟨g6, 0, none⟩) 1 1] := by
              have := DK.mk (R := (own 54 7 (.slice so items.length sc) items.length css.flatten * (M * (Go.Proofs.Ytanjiecefioffaa.blk g6 (dmO [.int .i64 k3, .int .i64 n3, .bool p3, .slice am3 m3.length cm3, .string t3, .slice ai3 i3.length ci3, .slice ar3 r3.length cr3]) * M3)))) (mag := []) (neg := false) (text := ⟨#[]⟩) (n := 0) (am := none) (cm := 0) (ci := sc) (cr := 1) (rest := [.mk k3 n3 p3 m3 t3 i3 r3]) ⟨hk, by decide⟩ (fun w _ j x hx => by simp at hx) (by simp) ⟨Nat.le_refl _, by rw [plainPs_len]; exact hsc, Nat.le_refl _⟩ (hdks.mono (fun w h => (show sat w ((own 54 7 (.slice so items.length sc) items.length css.flatten * M) * (Go.Proofs.Ytanjiecefioffaa.blk g6 (dmO [.int .i64 k3, .int .i64 n3, .bool p3, .slice am3 m3.length cm3, .string t3, .slice ai3 i3.length ci3, .slice ar3 r3.length cr3]) * M3)) from h.perm (by ac_rfl)).left) _) hdr
              rw [plainPs_len] at this
              exact this
            have h8 : sat ((w4.alloc (dmO [.int .i64 k3, .int .i64 n3, .bool p3, .slice am3 m3.length cm3, .string t3, .slice ai3 i3.length ci3, .slice ar3 r3.length cr3])).setCell ⟨g + 1 + 1, 6, none⟩ (.slice (some ⟨g6, 0, none⟩) 1 1)) (Go.Proofs.Ytanjiecefioffaa.blk (g + 1 + 1) (dmO [.int .i64 k, .int .i64 0, .bool false, .slice none 0 0, .string ⟨#[]⟩, .slice so items.length sc, .slice (some ⟨g6, 0, none⟩) 1 1]) * (Go.Proofs.Ytanjiecefioffaa.blk (g + 1) (dmO [.int .i64 0, .int .i64 0, .bool false, .slice none 0 0, .string ⟨#[]⟩, .slice none 0 0, .slice none 0 0]) * ((own 54 7 (.slice so items.length sc) items.length css.flatten * (M * (Go.Proofs.Ytanjiecefioffaa.blk g6 (dmO [.int .i64 k3, .int .i64 n3, .bool p3, .slice am3 m3.length cm3, .string t3, .slice ai3 i3.length ci3, .slice ar3 r3.length cr3]) * M3))) * R))) := (show sat _ (Go.Proofs.Ytanjiecefioffaa.blk g (dmO [.int .i64 k, .int .i64 n, .bool neg, .slice am mag.length cm, .string text, .slice ai items.length ci, .slice ar rest.length cr]) * (Go.Proofs.Ytanjiecefioffaa.blk g5 (dmO [.int .i64 k3, .int .i64 n3, .bool p3, .slice am3 m3.length cm3, .string t3, .slice ai3 i3.length ci3, .slice ar3 r3.length cr3]) * (Go.Proofs.Ytanjiecefioffaa.blk (g + 1 + 1) (dmO [.int .i64 k, .int .i64 0, .bool false, .slice none 0 0, .string ⟨#[]⟩, .slice so items.length sc, .slice (some ⟨g6, 0, none⟩) 1 1]) * (Go.Proofs.Ytanjiecefioffaa.blk (g + 1) (dmO [.int .i64 0, .int .i64 0, .bool false, .slice none 0 0, .string ⟨#[]⟩, .slice none 0 0, .slice none 0 0]) * ((own 54 7 (.slice so items.length sc) items.length css.flatten * (M * (Go.Proofs.Ytanjiecefioffaa.blk g6 (dmO [.int .i64 k3, .int .i64 n3, .bool p3, .slice am3 m3.length cm3, .string t3, .slice ai3 i3.length ci3, .slice ar3 r3.length cr3]) * M3))) * R))))) from hs12.perm (by ac_rfl)).right.right
            have H8 := Lib.hid (And.intro h8 hb12)
            have HDK := Lib.hid (And.intro hdk8 (And.intro HW.out.2.2.2.2.1 (And.intro HP3.out.2.2.1 HW.out.2.2.2.2.2.2)))
            clear h8 hb12 hs12 hdks hdk8 hdr hs5 h5 hb5 hown
            go_upto_region 23 with (fail)
            generalize (w4.alloc (dmO [.int .i64 k3, .int .i64 n3, .bool p3, .slice am3 m3.length cm3, .string t3, .slice ai3 i3.length ci3, .slice ar3 r3.length cr3])).setCell ⟨g + 1 + 1, 6, none⟩ (.slice (some ⟨g6, 0, none⟩) 1 1) = w8 at *
            clear z6' zf6 q0 q1 q2 q3 q4 q5 q6 x5 x6 f5 f6
            have d0 := H8.out.1.left.cell 0
            have d1 := H8.out.1.left.cell 1
            have d2 := H8.out.1.left.cell 2
            have d3 := H8.out.1.left.cell 3
            have d4 := H8.out.1.left.cell 4
            have d5 := H8.out.1.left.cell 5
            have d6 := H8.out.1.left.cell 6
            have h9 : sat w8 (Go.Proofs.Ytanjiecefioffaa.blk (g + 1) (dmO [.int .i64 0, .int .i64 0, .bool false, .slice none 0 0, .string ⟨#[]⟩, .slice none 0 0, .slice none 0 0]) * (Go.Proofs.Ytanjiecefioffaa.blk (g + 1 + 1) (dmO [.int .i64 k, .int .i64 0, .bool false, .slice none 0 0, .string ⟨#[]⟩, .slice so items.length sc, .slice (some ⟨g6, 0, none⟩) 1 1]) * ((own 54 7 (.slice so items.length sc) items.length css.flatten * (M * (Go.Proofs.Ytanjiecefioffaa.blk g6 (dmO [.int .i64 k3, .int .i64 n3, .bool p3, .slice am3 m3.length cm3, .string t3, .slice ai3 i3.length ci3, .slice ar3 r3.length cr3]) * M3))) * R))) := H8.out.1.perm (by ac_rfl)
            have z0 := h9.left.cell 0
            have z1 := h9.left.cell 1
            have z2 := h9.left.cell 2
            have z3 := h9.left.cell 3
            have z4 := h9.left.cell 4
            have z5 := h9.left.cell 5
            have z6 := h9.left.cell 6
            have y0 := h9.left.frozen 0
            have y1 := h9.left.frozen 1
            have y2 := h9.left.frozen 2
            have y3 := h9.left.frozen 3
            have y4 := h9.left.frozen 4
            have y5 := h9.left.frozen 5
            have y6 := h9.left.frozen 6
            have h10 := (((((((h9.setCell (off := 0) (.int .i64 k)).setCell (off := 1) (.int .i64 0)).setCell (off := 2) (.bool false)).setCell (off := 3) (.slice none 0 0)).setCell (off := 4) (.string ⟨#[]⟩)).setCell (off := 5) (.slice so items.length sc)).setCell (off := 6) (.slice (some ⟨g6, 0, none⟩) 1 1))
            have hb10 := (((((((H8.out.2.setCell (p := ⟨g + 1, 0, none⟩) (Nat.zero_le _) (.int .i64 k)).setCell (p := ⟨g + 1, 1, none⟩) (Nat.zero_le _) (.int .i64 0)).setCell (p := ⟨g + 1, 2, none⟩) (Nat.zero_le _) (.bool false)).setCell (p := ⟨g + 1, 3, none⟩) (Nat.zero_le _) (.slice none 0 0)).setCell (p := ⟨g + 1, 4, none⟩) (Nat.zero_le _) (.string ⟨#[]⟩)).setCell (p := ⟨g + 1, 5, none⟩) (Nat.zero_le _) (.slice so items.length sc)).setCell (p := ⟨g + 1, 6, none⟩) (Nat.zero_le _) (.slice (some ⟨g6, 0, none⟩) 1 1))
            have HY := Lib.hid (And.intro h10 hb10)
            clear h9 h10 hb10
            simp only [List.getElem?_toArray, List.getElem?_cons_zero, List.getElem?_cons_succ] at d0 d1 d2 d3 d4 d5 d6 z0 z1 z2 z3 z4 z5 z6
            go_wp2_with fail
            generalize (((((((w8.setCell ⟨g + 1, 0, none⟩ (.int .i64 k)).setCell ⟨g + 1, 1, none⟩ (.int .i64 0)).setCell ⟨g + 1, 2, none⟩ (.bool false)).setCell ⟨g + 1, 3, none⟩ (.slice none 0 0)).setCell ⟨g + 1, 4, none⟩ (.string ⟨#[]⟩)).setCell ⟨g + 1, 5, none⟩ (.slice so items.length sc)).setCell ⟨g + 1, 6, none⟩ (.slice (some ⟨g6, 0, none⟩) 1 1)) = w9 at *
            obtain ⟨rr0, rr1, rr2, rr3, rr4, rr5, rr6⟩ := cells7 HY.out.1
            have hpost : PlainPost R (.mk k n neg mag text items rest) w (.returned (.agg #[.int .i64 k, .int .i64 0, .bool false, .slice none 0 0, .string ⟨#[]⟩, .slice so items.length sc, .slice (some ⟨g6, 0, none⟩) 1 1])) w9 :=
              ⟨[.int .i64 k, .int .i64 0, .bool false, .slice none 0 0, .string ⟨#[]⟩, .slice so items.length sc, .slice (some ⟨g6, 0, none⟩) 1 1], (own 54 7 (.slice so items.length sc) items.length css.flatten * (M * (Go.Proofs.Ytanjiecefioffaa.blk g6 (dmO [.int .i64 k3, .int .i64 n3, .bool p3, .slice am3 m3.length cm3, .string t3, .slice ai3 i3.length ci3, .slice ar3 r3.length cr3]) * M3))), rfl, (by rw [hp]; exact HDK.out.1), (by rw [hp]; have h0 : (⟨#[]⟩ : ByteArray).size = 0 := rfl; have h2 := HDK.out.2.1; have h3 := HDK.out.2.2.1; have h4 := HDK.out.2.2.2; rw [size_mk, size_mk, size_one, List.length_nil]; omega), HY.out.1.right.right, HY.out.2⟩
            exact bodyPost_ret (v := .agg #[.int .i64 k, .int .i64 0, .bool false, .slice none 0 0, .string ⟨#[]⟩, .slice so items.length sc, .slice (some ⟨g6, 0, none⟩) 1 1]) (by simp [results, Try.results31, go_sem, rr0, rr1, rr2, rr3, rr4, rr5, rr6]) rfl hpost
        · have er : ((rest.length : Int) == 1) = false := by simp; omega
          have hp : plainP (.mk k n neg mag text items rest) = .mk k 0 false [] ⟨#[]⟩ (plainPs items) [] := by
            unfold plainP
            rw [if_neg (by rw [HK6.out]; decide), if_neg (by rw [HK6.out]; decide), if_neg (by rw [HK6.out]; decide), if_pos HK6.out]
            split
            · rename_i r heq
              have := congrArg List.length heq
              rw [plainPs_len] at this
              exact absurd this hr1
            · rw [HK6.out]
          have hsc : items.length ≤ sc := by
            obtain ⟨a', c', e', hle⟩ := slice_val h1.right
            simp only [Value.slice.injEq] at e'
            omega
          have hdks : DKs (own 54 7 (.slice so items.length sc) items.length css.flatten * M) (plainPs items) so 0 := row_dks (by rw [plainPs_len]; exact hcl) (by rw [plainPs_len]) hdk wr h1.right
          have hdk8 : DK (own 54 7 (.slice so items.length sc) items.length css.flatten * M) (.mk k 0 false [] ⟨#[]⟩ (plainPs items) []) [.int .i64 k, .int .i64 0, .bool false, .slice none 0 0, .string ⟨#[]⟩, .slice so items.length sc, .slice none 0 0] := by
            have := DK.mk (R := (own 54 7 (.slice so items.length sc) items.length css.flatten * M)) (mag := []) (rest := []) (neg := false) (text := ⟨#[]⟩) (n := 0) (am := none) (ar := none) (cm := 0) (cr := 0) (ci := sc) ⟨hk, by decide⟩ (fun w _ j x hx => by simp at hx) (by simp) ⟨Nat.le_refl _, by rw [plainPs_len]; exact hsc, Nat.le_refl _⟩ hdks DKs.nil
            rw [plainPs_len] at this
            exact this
          have h8 : sat wr (Go.Proofs.Ytanjiecefioffaa.blk (g + 1 + 1) (dmO [.int .i64 k, .int .i64 0, .bool false, .slice none 0 0, .string ⟨#[]⟩, .slice so items.length sc, .slice none 0 0]) * (Go.Proofs.Ytanjiecefioffaa.blk (g + 1) (dmO [.int .i64 0, .int .i64 0, .bool false, .slice none 0 0, .string ⟨#[]⟩, .slice none 0 0, .slice none 0 0]) * ((own 54 7 (.slice so items.length sc) items.length css.flatten * M) * R))) := (show sat wr (Go.Proofs.Ytanjiecefioffaa.blk g (dmO [.int .i64 k, .int .i64 n, .bool neg, .slice am mag.length cm, .string text, .slice ai items.length ci, .slice ar rest.length cr]) * (Go.Proofs.Ytanjiecefioffaa.blk (g + 1 + 1) (dmO [.int .i64 k, .int .i64 0, .bool false, .slice none 0 0, .string ⟨#[]⟩, .slice so items.length sc, .slice none 0 0]) * (Go.Proofs.Ytanjiecefioffaa.blk (g + 1) (dmO [.int .i64 0, .int .i64 0, .bool false, .slice none 0 0, .string ⟨#[]⟩, .slice none 0 0, .slice none 0 0]) * ((own 54 7 (.slice so items.length sc) items.length css.flatten * M) * R)))) from h1.perm (by ac_rfl)).right
          have H8 := Lib.hid (And.intro h8 hb1)
          have HDK := Lib.hid (And.intro hdk8 hzz)
          clear h8 hb1 h1 hdks hdk8 hdk hcl hzz hsc x5
          generalize wr = w8 at *
          have d0 := H8.out.1.left.cell 0
          have d1 := H8.out.1.left.cell 1
          have d2 := H8.out.1.left.cell 2
          have d3 := H8.out.1.left.cell 3
          have d4 := H8.out.1.left.cell 4
          have d5 := H8.out.1.left.cell 5
          have d6 := H8.out.1.left.cell 6
          have h9 : sat w8 (Go.Proofs.Ytanjiecefioffaa.blk (g + 1) (dmO [.int .i64 0, .int .i64 0, .bool false, .slice none 0 0, .string ⟨#[]⟩, .slice none 0 0, .slice none 0 0]) * (Go.Proofs.Ytanjiecefioffaa.blk (g + 1 + 1) (dmO [.int .i64 k, .int .i64 0, .bool false, .slice none 0 0, .string ⟨#[]⟩, .slice so items.length sc, .slice none 0 0]) * ((own 54 7 (.slice so items.length sc) items.length css.flatten * M) * R))) := H8.out.1.perm (by ac_rfl)
          have z0 := h9.left.cell 0
          have z1 := h9.left.cell 1
          have z2 := h9.left.cell 2
          have z3 := h9.left.cell 3
          have z4 := h9.left.cell 4
          have z5 := h9.left.cell 5
          have z6 := h9.left.cell 6
          have y0 := h9.left.frozen 0
          have y1 := h9.left.frozen 1
          have y2 := h9.left.frozen 2
          have y3 := h9.left.frozen 3
          have y4 := h9.left.frozen 4
          have y5 := h9.left.frozen 5
          have y6 := h9.left.frozen 6
          have h10 := (((((((h9.setCell (off := 0) (.int .i64 k)).setCell (off := 1) (.int .i64 0)).setCell (off := 2) (.bool false)).setCell (off := 3) (.slice none 0 0)).setCell (off := 4) (.string ⟨#[]⟩)).setCell (off := 5) (.slice so items.length sc)).setCell (off := 6) (.slice none 0 0))
          have hb10 := (((((((H8.out.2.setCell (p := ⟨g + 1, 0, none⟩) (Nat.zero_le _) (.int .i64 k)).setCell (p := ⟨g + 1, 1, none⟩) (Nat.zero_le _) (.int .i64 0)).setCell (p := ⟨g + 1, 2, none⟩) (Nat.zero_le _) (.bool false)).setCell (p := ⟨g + 1, 3, none⟩) (Nat.zero_le _) (.slice none 0 0)).setCell (p := ⟨g + 1, 4, none⟩) (Nat.zero_le _) (.string ⟨#[]⟩)).setCell (p := ⟨g + 1, 5, none⟩) (Nat.zero_le _) (.slice so items.length sc)).setCell (p := ⟨g + 1, 6, none⟩) (Nat.zero_le _) (.slice none 0 0))
          have HY := Lib.hid (And.intro h10 hb10)
          clear h9 h10 hb10
          simp only [List.getElem?_toArray, List.getElem?_cons_zero, List.getElem?_cons_succ] at d0 d1 d2 d3 d4 d5 d6 z0 z1 z2 z3 z4 z5 z6
          go_wp2_with fail
          generalize (((((((w8.setCell ⟨g + 1, 0, none⟩ (.int .i64 k)).setCell ⟨g + 1, 1, none⟩ (.int .i64 0)).setCell ⟨g + 1, 2, none⟩ (.bool false)).setCell ⟨g + 1, 3, none⟩ (.slice none 0 0)).setCell ⟨g + 1, 4, none⟩ (.string ⟨#[]⟩)).setCell ⟨g + 1, 5, none⟩ (.slice so items.length sc)).setCell ⟨g + 1, 6, none⟩ (.slice none 0 0)) = w9 at *
          obtain ⟨rr0, rr1, rr2, rr3, rr4, rr5, rr6⟩ := cells7 HY.out.1
          have hpost : PlainPost R (.mk k n neg mag text items rest) w (.returned (.agg #[.int .i64 k, .int .i64 0, .bool false, .slice none 0 0, .string ⟨#[]⟩, .slice so items.length sc, .slice none 0 0])) w9 :=
            ⟨[.int .i64 k, .int .i64 0, .bool false, .slice none 0 0, .string ⟨#[]⟩, .slice so items.length sc, .slice none 0 0], (own 54 7 (.slice so items.length sc) items.length css.flatten * M), rfl, (by rw [hp]; exact HDK.out.1), (by rw [hp]; have h0 : (⟨#[]⟩ : ByteArray).size = 0 := rfl; have := HDK.out.2; simp only [Dm.size, Dm.sizes, List.length_nil]; omega), HY.out.1.right.right, HY.out.2⟩
          exact bodyPost_ret (v := .agg #[.int .i64 k, .int .i64 0, .bool false, .slice none 0 0, .string ⟨#[]⟩, .slice so items.length sc, .slice none 0 0]) (by simp [results, Try.results31, go_sem, rr0, rr1, rr2, rr3, rr4, rr5, rr6]) rfl hpost
  · have e6 : (k == 6) = false := by simp [hk7]
    have e7 : (k == 7) = true := by simp [hk7]
    have HK7 := Lib.hid hk7
    clear hk7
    go_wp2_with fail
    go_loopw [4] (PlRel w R g k [.int .i64 k, .int .i64 n, .bool neg, .slice am mag.length cm, .string text, .slice ai items.length ci, .slice ar rest.length cr] items) (fun i _ => items.length - (intOf i).toNat)
    case atStart =>
      refine ⟨0, none, 0, [], emp, Nat.zero_le _, rfl, rfl, fun i d cs h _ => by simp [plainPs] at h, by simp [plainPs, Dm.sizes], ?_, HB.out.2⟩
      rw [HP.emp_mul]
      exact (HB.out.1.nil_own (e := 54) (sz := 7)).perm (show own _ _ _ _ [] * _ = _ by rw [List.flatten_nil]; ac_rfl)
    case round =>
      clear HB b0 b5
      obtain ⟨j, so, sc, css, M, hj, rfl, hcl, hdk, hzz, h1, hb1⟩ := hrel
      have b5 := h1.right.right.right.right.left.cell 5
      have b0 := h1.right.right.right.right.left.cell 0
      have b6 := h1.right.right.right.right.left.cell 6
      have x5 := h1.left.cell 5
      simp only [List.getElem?_toArray, List.getElem?_cons_zero, List.getElem?_cons_succ] at b0 b5 b6 x5
      by_cases hlt : j < items.length
      · obtain ⟨d, ex⟩ : ∃ d, items[j]? = some d := ⟨_, List.getElem?_eq_getElem hlt⟩
        obtain ⟨b, off, ds, hai, hcell, hdd⟩ := HX.out.2.2.1.get j d ex
        rw [hai] at b5
        have HAI := Lib.hid hai
        clear hai
        have hcw := hcell wr h1.right.right.right.right.right
        rw [Nat.zero_add] at hcw
        have hC := HX.out.1 d (List.mem_of_getElem? ex) wr.drew _ ds h1.drew (hdd.mono (fun w h => h.right.right.right.right.right) _)
        obtain ⟨u0, u1, u2, u3', u4, u5, u6, rfl⟩ := hdd.seven
        have i0' := hcw 0 _ rfl
        have i1 := hcw 1 _ rfl
        have i2 := hcw 2 _ rfl
        have i3 := hcw 3 _ rfl
        have i4 := hcw 4 _ rfl
        have i5 := hcw 5 _ rfl
        have i6 := hcw 6 _ rfl
        rw [Nat.add_zero] at i0'
        clear hcw hdd hcell
        have o1 : ∀ (w3 : World) (M2 : HP) (v0 v1 v2 v3 v4 v5 v6 : Value), sat w3 (M2 * (Go.Proofs.Ytanjiecefioffaa.blk (g + 1 + 1) (dmO [.int .i64 k, .int .i64 0, .bool false, .slice none 0 0, .string ⟨#[]⟩, .slice so j sc, .slice none 0 0]) * (own 54 7 (.slice so j sc) j css.flatten * (M * (Go.Proofs.Ytanjiecefioffaa.blk (g + 1) (dmO [.int .i64 0, .int .i64 0, .bool false, .slice none 0 0, .string ⟨#[]⟩, .slice none 0 0, .slice none 0 0]) * (Go.Proofs.Ytanjiecefioffaa.blk g (dmO [.int .i64 k, .int .i64 n, .bool neg, .slice am mag.length cm, .string text, .slice ai items.length ci, .slice ar rest.length cr]) * R)))))) →
            w3.cell? ⟨g + 1 + 1, 5, none⟩ = some (.slice so j sc) ∧ (w3.alloc (dmO [v0, v1, v2, v3, v4, v5, v6])).cell? ⟨g + 1 + 1, 5, none⟩ = some (.slice so j sc) ∧
            (∀ (j' : Nat) u, [v0, v1, v2, v3, v4, v5, v6][j']? = some u → (w3.alloc (dmO [v0, v1, v2, v3, v4, v5, v6])).cell? ((⟨w3.heap.size, 0, none⟩ : Addr).add j') = some u) ∧
            sat (w3.alloc (dmO [v0, v1, v2, v3, v4, v5, v6])) (own 54 7 (.slice so j sc) j css.flatten * (Go.Proofs.Ytanjiecefioffaa.blk w3.heap.size (dmO [v0, v1, v2, v3, v4, v5, v6]) * (Go.Proofs.Ytanjiecefioffaa.blk (g + 1 + 1) (dmO [.int .i64 k, .int .i64 0, .bool false, .slice none 0 0, .string ⟨#[]⟩, .slice so j sc, .slice none 0 0]) * ((M2 * M) * (Go.Proofs.Ytanjiecefioffaa.blk (g + 1) (dmO [.int .i64 0, .int .i64 0, .bool false, .slice none 0 0, .string ⟨#[]⟩, .slice none 0 0, .slice none 0 0]) * (Go.Proofs.Ytanjiecefioffaa.blk g (dmO [.int .i64 k, .int .i64 n, .bool neg, .slice am mag.length cm, .string text, .slice ai items.length ci, .slice ar rest.length cr]) * R)))))) := by
          intro w3 M2 v0 v1 v2 v3 v4 v5 v6 h
          have h2 := h.alloc (dmO [v0, v1, v2, v3, v4, v5, v6])
          refine ⟨h.right.left.cell 5, h2.right.right.left.cell 5, ?_, h2.perm (by ac_rfl)⟩
          intro j' u hu
          rw [dm_addz, h2.left.cell j', ← hu]
          simp
        have o2 : ∀ (w9 : World) (bl : Nat) (o : Obj) (b7 c7 : Nat) (xs : List Value) (M2 : HP), sat w9 (row 54 7 b7 c7 xs * (Go.Proofs.Ytanjiecefioffaa.blk bl o * (Go.Proofs.Ytanjiecefioffaa.blk (g + 1 + 1) (dmO [.int .i64 k, .int .i64 0, .bool false, .slice none 0 0, .string ⟨#[]⟩, .slice so j sc, .slice none 0 0]) * ((M2 * M) * (Go.Proofs.Ytanjiecefioffaa.blk (g + 1) (dmO [.int .i64 0, .int .i64 0, .bool false, .slice none 0 0, .string ⟨#[]⟩, .slice none 0 0, .slice none 0 0]) * (Go.Proofs.Ytanjiecefioffaa.blk g (dmO [.int .i64 k, .int .i64 n, .bool neg, .slice am mag.length cm, .string text, .slice ai items.length ci, .slice ar rest.length cr]) * R)))))) →
            w9.cell? ⟨g + 1 + 1, 5, none⟩ = some (.slice so j sc) ∧ w9.frozen? ⟨g + 1 + 1, 5, none⟩ = false := fun w9 bl o b7 c7 xs M2 h => ⟨h.right.right.left.cell 5, h.right.right.left.frozen 5⟩
        have HO := Lib.hid (And.intro o1 o2)
        have HK := Lib.hid (And.intro hcl (And.intro hdk (And.intro hzz (And.intro hb1 ex))))
        have HC := Lib.hid hC
        clear o1 o2 hcl hdk hzz hb1 ex hC h1
        go_wp2_with fail
        go_region_law
          (first
            | (go_simp; go_at_call 31; refine HC.out.mono ?_; rintro e w3 ⟨cs2, M2, rfl, hdk2, hz2, h3, hb3⟩; obtain ⟨v0, v1, v2, v3, v4, v5, v6, rfl⟩ := hdk2.seven; obtain ⟨y1, y2, y3, y4⟩ := HO.out.1 w3 M2 v0 v1 v2 v3 v4 v5 v6 h3)
            | (refine step_append_sat rfl (.tmp 40) (.tmp 47) 52 rfl 54 i0 zeroDm 7 112 Try.underlying52 H1.out.1 H1.out.2.1 H1.out.2.2.1 H1.out.2.2.2 rfl _ j css.flatten (by rfl) _ y4 ⟨w3.heap.size, 0, none⟩ 1 1 [v0, v1, v2, v3, v4, v5, v6] (by rfl) rfl y3 hdk2.one (by omega) (by unfold maxLen; omega) (by omega) ?_; intro b7 c7 w9 hs9 hc9 hb9; obtain ⟨y5, y6⟩ := HO.out.2 _ _ _ _ _ _ _ hs9))
        all_goals (
          have hs10 : sat w9 (Go.Proofs.Ytanjiecefioffaa.blk (g + 1 + 1) (dmO [.int .i64 k, .int .i64 0, .bool false, .slice none 0 0, .string ⟨#[]⟩, .slice so j sc, .slice none 0 0]) * (row 54 7 b7 c7 (css.flatten ++ [v0, v1, v2, v3, v4, v5, v6]) * ((M2 * M) * (Go.Proofs.Ytanjiecefioffaa.blk (g + 1) (dmO [.int .i64 0, .int .i64 0, .bool false, .slice none 0 0, .string ⟨#[]⟩, .slice none 0 0, .slice none 0 0]) * (Go.Proofs.Ytanjiecefioffaa.blk g (dmO [.int .i64 k, .int .i64 n, .bool neg, .slice am mag.length cm, .string text, .slice ai items.length ci, .slice ar rest.length cr]) * R))))) := (show sat w9 (Go.Proofs.Ytanjiecefioffaa.blk w3.heap.size (dmO [v0, v1, v2, v3, v4, v5, v6]) * (Go.Proofs.Ytanjiecefioffaa.blk (g + 1 + 1) (dmO [.int .i64 k, .int .i64 0, .bool false, .slice none 0 0, .string ⟨#[]⟩, .slice so j sc, .slice none 0 0]) * (row 54 7 b7 c7 (css.flatten ++ [v0, v1, v2, v3, v4, v5, v6]) * ((M2 * M) * (Go.Proofs.Ytanjiecefioffaa.blk (g + 1) (dmO [.int .i64 0, .int .i64 0, .bool false, .slice none 0 0, .string ⟨#[]⟩, .slice none 0 0, .slice none 0 0]) * (Go.Proofs.Ytanjiecefioffaa.blk g (dmO [.int .i64 k, .int .i64 n, .bool neg, .slice am mag.length cm, .string text, .slice ai items.length ci, .slice ar rest.length cr]) * R)))))) from hs9.perm (by ac_rfl)).right
          have hs11 : sat (w9.setCell ⟨g + 1 + 1, 5, none⟩ (.slice (some ⟨b7, 0, none⟩) (j + 1) c7)) (Go.Proofs.Ytanjiecefioffaa.blk (g + 1 + 1) (dmO [.int .i64 k, .int .i64 0, .bool false, .slice none 0 0, .string ⟨#[]⟩, .slice (some ⟨b7, 0, none⟩) (j + 1) c7, .slice none 0 0]) * (row 54 7 b7 c7 (css.flatten ++ [v0, v1, v2, v3, v4, v5, v6]) * ((M2 * M) * (Go.Proofs.Ytanjiecefioffaa.blk (g + 1) (dmO [.int .i64 0, .int .i64 0, .bool false, .slice none 0 0, .string ⟨#[]⟩, .slice none 0 0, .slice none 0 0]) * (Go.Proofs.Ytanjiecefioffaa.blk g (dmO [.int .i64 k, .int .i64 n, .bool neg, .slice am mag.length cm, .string text, .slice ai items.length ci, .slice ar rest.length cr]) * R))))) := hs10.setCell (off := 5) (.slice (some ⟨b7, 0, none⟩) (j + 1) c7)
          have hb11 : Below 0 w (w9.setCell ⟨g + 1 + 1, 5, none⟩ (.slice (some ⟨b7, 0, none⟩) (j + 1) c7)) := (((HK.out.2.2.2.1.drew.trans hb3).trans (Below.zero_alloc _ _)).trans hb9).setCell (p := ⟨g + 1 + 1, 5, none⟩) (Nat.zero_le _) _
          have HF := Lib.hid (And.intro hs11 (And.intro hb11 (And.intro hdk2 (And.intro hz2 hc9))))
          clear hs9 hs10 hs11 hb11 hb3 hb9 h3 y1 y2 y3 y4 y5 y6 hdk2 hz2 hc9 HO HC
          go_wp2_with fail
          go_roundw
          case rel =>
            obtain ⟨g1, g2, g3, g4, g5⟩ := HF.out
            obtain ⟨e1, e2, e3, e4, e5⟩ := HK.out
            refine ⟨j + 1, some ⟨b7, 0, none⟩, c7, css ++ [[v0, v1, v2, v3, v4, v5, v6]], M2 * M, by omega, by go_num, by simp [e1], ?_, ?_, ?_, g2⟩
            · intro i d' cs hd hc
              rw [plainPs_take, List.getElem?_take] at hd
              split at hd
              · by_cases hik : i = j
                · subst hik
                  rw [plainPs_get e5] at hd
                  cases hd
                  rw [List.getElem?_append_right (by rw [e1]; exact Nat.le_refl _), e1, Nat.sub_self] at hc
                  simp at hc
                  subst hc
                  exact g3.mono (fun w h => h.left) _
                · rw [List.getElem?_append_left (by rw [e1]; omega)] at hc
                  exact (e2 i d' cs (by rw [plainPs_take, List.getElem?_take, if_pos (by omega)]; exact hd) hc).mono (fun w h => h.right) _
              · cases hd
            · rw [plainPs_take, List.take_add_one, List.take_add_one, e5, plainPs_get e5, Dm.sizes_app, Dm.sizes_app, ← plainPs_take]
              simp only [Option.toList_some, Dm.sizes]
              omega
            · rw [List.flatten_append, List.flatten_cons, List.flatten_nil, List.append_nil]
              have g6 : sat _ (row 54 7 b7 c7 (css.flatten ++ [v0, v1, v2, v3, v4, v5, v6]) * (Go.Proofs.Ytanjiecefioffaa.blk (g + 1 + 1) (dmO [.int .i64 k, .int .i64 0, .bool false, .slice none 0 0, .string ⟨#[]⟩, .slice (some ⟨b7, 0, none⟩) (j + 1) c7, .slice none 0 0]) * ((M2 * M) * (Go.Proofs.Ytanjiecefioffaa.blk (g + 1) (dmO [.int .i64 0, .int .i64 0, .bool false, .slice none 0 0, .string ⟨#[]⟩, .slice none 0 0, .slice none 0 0]) * (Go.Proofs.Ytanjiecefioffaa.blk g (dmO [.int .i64 k, .int .i64 n, .bool neg, .slice am mag.length cm, .string text, .slice ai items.length ci, .slice ar rest.length cr]) * R))))) := g1.perm (by ac_rfl)
              have hfl : (css.flatten ++ [v0, v1, v2, v3, v4, v5, v6]).length = (j + 1) * 7 := by
                have h7 : ∀ cs ∈ css, cs.length = 7 := by
                  intro cs hcs
                  obtain ⟨i, hi⟩ := List.mem_iff_getElem?.1 hcs
                  have hij := (List.getElem?_eq_some_iff.1 hi).1
                  exact (e2 i _ cs (List.getElem?_eq_getElem (by rw [plainPs_len, List.length_take]; omega)) hi).len
                have h8 := flat7 h7
                rw [List.length_append, h8, e1]
                simp only [List.length_cons, List.length_nil]
                omega
              exact (g6.shut_own (n := j + 1) hfl g5).perm (by ac_rfl)
          case measure => simp [intOf]; omega)
      · obtain rfl : j = items.length := by omega
        have hge : decide ((items.length : Int) < (items.length : Int)) = false := by simp
        rw [List.take_of_length_le (Nat.le_refl _)] at hdk hzz
        have hp : plainP (.mk k n neg mag text items rest) = .mk k 0 false [] ⟨#[]⟩ (plainPs items) [] := by
          unfold plainP
          rw [if_neg (by rw [HK7.out]; decide), if_neg (by rw [HK7.out]; decide), if_neg (by rw [HK7.out]; decide), if_neg (by rw [HK7.out]; decide), if_pos HK7.out, HK7.out]
        have hsc : items.length ≤ sc := by
          obtain ⟨a', c', e', hle⟩ := slice_val h1.right
          simp only [Value.slice.injEq] at e'
          omega
        have hdks : DKs (own 54 7 (.slice so items.length sc) items.length css.flatten * M) (plainPs items) so 0 := row_dks (by rw [plainPs_len]; exact hcl) (by rw [plainPs_len]) hdk wr h1.right
        have hdk8 : DK (own 54 7 (.slice so items.length sc) items.length css.flatten * M) (.mk k 0 false [] ⟨#[]⟩ (plainPs items) []) [.int .i64 k, .int .i64 0, .bool false, .slice none 0 0, .string ⟨#[]⟩, .slice so items.length sc, .slice none 0 0] := by
          have := DK.mk (R := (own 54 7 (.slice so items.length sc) items.length css.flatten * M)) (mag := []) (rest := []) (neg := false) (text := ⟨#[]⟩) (n := 0) (am := none) (ar := none) (cm := 0) (cr := 0) (ci := sc) ⟨hk, by decide⟩ (fun w _ j x hx => by simp at hx) (by simp) ⟨Nat.le_refl _, by rw [plainPs_len]; exact hsc, Nat.le_refl _⟩ hdks DKs.nil
          rw [plainPs_len] at this
          exact this
        have h8 : sat wr (Go.Proofs.Ytanjiecefioffaa.blk (g + 1 + 1) (dmO [.int .i64 k, .int .i64 0, .bool false, .slice none 0 0, .string ⟨#[]⟩, .slice so items.length sc, .slice none 0 0]) * (Go.Proofs.Ytanjiecefioffaa.blk (g + 1) (dmO [.int .i64 0, .int .i64 0, .bool false, .slice none 0 0, .string ⟨#[]⟩, .slice none 0 0, .slice none 0 0]) * ((own 54 7 (.slice so items.length sc) items.length css.flatten * M) * R))) := (show sat wr (Go.Proofs.Ytanjiecefioffaa.blk g (dmO [.int .i64 k, .int .i64 n, .bool neg, .slice am mag.length cm, .string text, .slice ai items.length ci, .slice ar rest.length cr]) * (Go.Proofs.Ytanjiecefioffaa.blk (g + 1 + 1) (dmO [.int .i64 k, .int .i64 0, .bool false, .slice none 0 0, .string ⟨#[]⟩, .slice so items.length sc, .slice none 0 0]) * (Go.Proofs.Ytanjiecefioffaa.blk (g + 1) (dmO [.int .i64 0, .int .i64 0, .bool false, .slice none 0 0, .string ⟨#[]⟩, .slice none 0 0, .slice none 0 0]) * ((own 54 7 (.slice so items.length sc) items.length css.flatten * M) * R)))) from h1.perm (by ac_rfl)).right
        have H8 := Lib.hid (And.intro h8 hb1)
        have HDK := Lib.hid (And.intro hdk8 hzz)
        clear h8 hb1 h1 hdks hdk8 hdk hcl hzz hsc x5
        generalize wr = w8 at *
        have d0 := H8.out.1.left.cell 0
        have d1 := H8.out.1.left.cell 1
        have d2 := H8.out.1.left.cell 2
        have d3 := H8.out.1.left.cell 3
        have d4 := H8.out.1.left.cell 4
        have d5 := H8.out.1.left.cell 5
        have d6 := H8.out.1.left.cell 6
        have h9 : sat w8 (Go.Proofs.Ytanjiecefioffaa.blk (g + 1) (dmO [.int .i64 0, .int .i64 0, .bool false, .slice none 0 0, .string ⟨#[]⟩, .slice none 0 0, .slice none 0 0]) * (Go.Proofs.Ytanjiecefioffaa.blk (g + 1 + 1) (dmO [.int .i64 k, .int .i64 0, .bool false, .slice none 0 0, .string ⟨#[]⟩, .slice so items.length sc, .slice none 0 0]) * ((own 54 7 (.slice so items.length sc) items.length css.flatten * M) * R))) := H8.out.1.perm (by ac_rfl)
        have z0 := h9.left.cell 0
        have z1 := h9.left.cell 1
        have z2 := h9.left.cell 2
        have z3 := h9.left.cell 3
        have z4 := h9.left.cell 4
        have z5 := h9.left.cell 5
        have z6 := h9.left.cell 6
        have y0 := h9.left.frozen 0
        have y1 := h9.left.frozen 1
        have y2 := h9.left.frozen 2
        have y3 := h9.left.frozen 3
        have y4 := h9.left.frozen 4
        have y5 := h9.left.frozen 5
        have y6 := h9.left.frozen 6
        have h10 := (((((((h9.setCell (off := 0) (.int .i64 k)).setCell (off := 1) (.int .i64 0)).setCell (off := 2) (.bool false)).setCell (off := 3) (.slice none 0 0)).setCell (off := 4) (.string ⟨#[]⟩)).setCell (off := 5) (.slice so items.length sc)).setCell (off := 6) (.slice none 0 0))
        have hb10 := (((((((H8.out.2.setCell (p := ⟨g + 1, 0, none⟩) (Nat.zero_le _) (.int .i64 k)).setCell (p := ⟨g + 1, 1, none⟩) (Nat.zero_le _) (.int .i64 0)).setCell (p := ⟨g + 1, 2, none⟩) (Nat.zero_le _) (.bool false)).setCell (p := ⟨g + 1, 3, none⟩) (Nat.zero_le _) (.slice none 0 0)).setCell (p := ⟨g + 1, 4, none⟩) (Nat.zero_le _) (.string ⟨#[]⟩)).setCell (p := ⟨g + 1, 5, none⟩) (Nat.zero_le _) (.slice so items.length sc)).setCell (p := ⟨g + 1, 6, none⟩) (Nat.zero_le _) (.slice none 0 0))
        have HY := Lib.hid (And.intro h10 hb10)
        clear h9 h10 hb10
        simp only [List.getElem?_toArray, List.getElem?_cons_zero, List.getElem?_cons_succ] at d0 d1 d2 d3 d4 d5 d6 z0 z1 z2 z3 z4 z5 z6
        go_wp2_with fail
        generalize (((((((w8.setCell ⟨g + 1, 0, none⟩ (.int .i64 k)).setCell ⟨g + 1, 1, none⟩ (.int .i64 0)).setCell ⟨g + 1, 2, none⟩ (.bool false)).setCell ⟨g + 1, 3, none⟩ (.slice none 0 0)).setCell ⟨g + 1, 4, none⟩ (.string ⟨#[]⟩)).setCell ⟨g + 1, 5, none⟩ (.slice so items.length sc)).setCell ⟨g + 1, 6, none⟩ (.slice none 0 0)) = w9 at *
        obtain ⟨rr0, rr1, rr2, rr3, rr4, rr5, rr6⟩ := cells7 HY.out.1
        have hpost : PlainPost R (.mk k n neg mag text items rest) w (.returned (.agg #[.int .i64 k, .int .i64 0, .bool false, .slice none 0 0, .string ⟨#[]⟩, .slice so items.length sc, .slice none 0 0])) w9 :=
          ⟨[.int .i64 k, .int .i64 0, .bool false, .slice none 0 0, .string ⟨#[]⟩, .slice so items.length sc, .slice none 0 0], (own 54 7 (.slice so items.length sc) items.length css.flatten * M), rfl, (by rw [hp]; exact HDK.out.1), (by rw [hp]; have h0 : (⟨#[]⟩ : ByteArray).size = 0 := rfl; have := HDK.out.2; simp only [Dm.size, Dm.sizes, List.length_nil]; omega), HY.out.1.right.right, HY.out.2⟩
        exact bodyPost_ret (v := .agg #[.int .i64 k, .int .i64 0, .bool false, .slice none 0 0, .string ⟨#[]⟩, .slice so items.length sc, .slice none 0 0]) (by simp [results, Try.results31, go_sem, rr0, rr1, rr2, rr3, rr4, rr5, rr6]) rfl hpost
/-- plain of whatever datum of a bounded size. -/
theorem plains_all : ∀ s : Nat, s ≤ 1048576 → ∀ d : Dm, d.size ≤ s → ∀ (w : World) (R : HP) cs, sat w R → DK R d cs → Calls Try.prog 31 #[.agg cs.toArray] w (PlainPost R d w) := by
  intro s
  induction s with
  | zero => intro _ d hd; exact absurd d.size_pos (by omega)
  | succ s ih =>
    intro hs d hd w R cs hw hdk
    cases d with
    | mk k n neg mag text items rest =>
      have hz := size_mk k n neg mag text items rest
      by_cases hk : k = 6 ∨ k = 7
      · refine plain_seq k n neg mag text items rest (by omega) hk ?_ ?_ w R cs hw hdk
        · intro d hd
          obtain ⟨i, hi⟩ := List.mem_iff_getElem?.1 hd
          have := Dm.size_le hi
          exact ih (by omega) d (by omega)
        · intro d hd
          obtain ⟨i, hi⟩ := List.mem_iff_getElem?.1 hd
          have := Dm.size_le hi
          exact ih (by omega) d (by omega)
      · exact plain_leaf k n neg mag text items rest (by omega) (fun h => hk (.inl h)) (fun h => hk (.inr h)) w R cs hw hdk
theorem plain_dm {w : World} {R : HP} {d : Dm} {cs : List Value} (hs : sat w R) (hd : DK R d cs) (hz : d.size ≤ 1048576) :
    Calls Try.prog 31 #[.agg cs.toArray] w (PlainPost R d w) := plains_all 1048576 (Nat.le_refl _) d hz w R cs hs hd
end Go.Proofs.Ytanjiecefioffaa
