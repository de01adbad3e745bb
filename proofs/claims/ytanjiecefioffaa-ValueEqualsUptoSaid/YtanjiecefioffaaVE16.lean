/- value.Store.takeList of whatever list. -/
import Derived.Test.YtanjiecefioffaaVE15
import Derived.Test.YtanjiecefioffaaVE12
import Derived.Test.YtanjiecefioffaaVE1
import Derived.Test.YtanjiecefioffaaVE14
namespace Go.Proofs.Ytanjiecefioffaa
open Go.RowKit
theorem takeL_app (deep : Int) : ∀ (l m : List Dm) (left : Int), takeL (l ++ m) left deep = match takeL l left deep with
    | (r, false) => (r, false)
    | (r, true) => takeL m r deep
  | [], m, left => by
    have e1 : takeL [] left deep = (left, true) := by unfold takeL; rfl
    rw [List.nil_append, e1]
  | e :: l, m, left => by
    have e1 : ∀ l : List Dm, takeL (e :: l) left deep = match takeD e left deep with
        | (r, false) => (r, false)
        | (r, true) => takeL l r deep := fun l => by
      conv => lhs; unfold takeL
      rfl
    rw [List.cons_append, e1, e1]
    cases h : takeD e left deep with
    | mk r b =>
      cases b with
      | false => rfl
      | true => simp only; exact takeL_app deep l m r
/-- An item that is not taken ends the row. -/
theorem takeL_stop {items : List Dm} {k : Nat} {d : Dm} {left left' l2 deep : Int} (hdrop : items.drop k = d :: items.drop (k + 1)) (h : takeL (items.take k) left deep = (left', true)) (hd : takeD d left' deep = (l2, false)) : takeL items left deep = (l2, false) := by
  rw [← List.take_append_drop k items, takeL_app, h, hdrop]
  simp only
  unfold takeL
  rw [hd]
/-- One item more is taken. -/
theorem takeL_next {items : List Dm} {k : Nat} {d : Dm} {left left' l2 deep : Int} (hdrop : items.drop k = d :: items.drop (k + 1)) (h : takeL (items.take k) left deep = (left', true)) (hd : takeD d left' deep = (l2, true)) : takeL (items.take (k + 1)) left deep = (l2, true) := by
  have hk : items[k]? = some d := by
    have := List.getElem?_drop (xs := items) (i := k) (j := 0)
    rw [hdrop, Nat.add_zero] at this
    exact this.symm
  rw [List.take_add_one, hk]
  show takeL (items.take k ++ [d]) left deep = _
  rw [takeL_snoc, h]
  exact hd
theorem DK.cells {M : HP} {d : Dm} {cs : List Value} (h : DK M d cs) : ∃ kk nn ng am ml cm tx ai il ci ar rl cr, cs = [.int .i64 kk, .int .i64 nn, .bool ng, .slice am ml cm, .string tx, .slice ai il ci, .slice ar rl cr] := by
  cases d
  obtain ⟨_, _, _, _, _, _, rfl, _⟩ := h.open
  exact ⟨_, _, _, _, _, _, _, _, _, _, _, _, _, rfl⟩
theorem HEnd.bd {S : HS} {l : List Dm} {x : Int} (h : HEnd S l x) : 0 ≤ x ∧ x < 18446744073709551616 := by
  cases l with
  | nil => unfold HEnd at h; subst h; decide
  | cons d l => unfold HEnd at h; exact h.1.bd
/-- What is no list is not the empty list's word. -/
theorem HIn.noten {S : HS} {d : Dm} {x : Int} (h : HIn S d x) (hk : d.kind ≠ 6) : x ≠ 10 := by
  cases d with
  | mk k n neg mag text items rest =>
  have hk' : k ≠ 6 := hk
  unfold HIn at h
  obtain ⟨hb, h⟩ := h
  rcases h with ⟨v, h1, h2, h3, h4, h5, h6, h7, hbv, h8⟩ | ⟨h1, h2, h3, h4, h5, h6, h7⟩ | ⟨h1, h2, h3, h4, h5, h6, h7, h8, h9⟩ | ⟨h1, h2, h3, h4, h5, h6, h7, h8⟩ | ⟨h1, h2, h3, h4, h5, h6, h7, h8⟩ | ⟨h1, h2, h3, h4, h5, h6, h7, h8⟩ | ⟨h1, _⟩ | ⟨h1, h2, h3, h4, h5, h6, h7, h8, h9, h10⟩
  · rcases h8 with ⟨q1, rfl⟩ | ⟨q1, q2, q3⟩
    · have := fixW_imm q1; omega
    · have := (is_iff.1 q3.is).1; omega
  · omega
  · omega
  · have := (is_iff.1 h8.is).1; omega
  · have := (is_iff.1 h8.is).1; omega
  · omega
  · exact absurd h1 hk'
  · have := (is_iff.1 h8).1; omega
/-- So many items are taken. -/
def LsRel (W : World) (X : StV) (V : HV) (S : HS) (Y : StS) (R : HP) (gl gz gb : Nat) (items : List Dm) (z left deep : Int) (u : Value) (wr : World) : Prop :=
  ∃ (k : Nat) (xu left' : Int) (css : List (List Value)) (v : Value) (M : HP), u = .int .u64 xu ∧ k ≤ items.length ∧ ((0 ≤ left' ∧ left' ≤ 20000) ∧ takeL (items.take k) left deep = (left', true)) ∧ HTo S (items.drop k) xu z ∧
    ((css.length = k ∧ left' + k ≤ 20000) ∧ (∀ cs ∈ css, cs.length = 7) ∧ ∀ (i : Nat) d cs, (items.take k)[i]? = some d → css[i]? = some cs → DK M d cs) ∧
    StW wr X V S Y (Go.Proofs.Ytanjiecefioffaa.blk gz (.cells #[.int .i64 0, .int .i64 0, .bool false, .slice none 0 0, .string ⟨#[]⟩, .slice none 0 0, .slice none 0 0] 54) * (Go.Proofs.Ytanjiecefioffaa.blk gb (listB v) * (own 54 7 v k css.flatten * (Go.Proofs.Ytanjiecefioffaa.blk gl (.cells #[.int .i64 left'] 3 (0, 0)) * (M * R))))) ∧ Below 0 W wr
section
variable {w : World} {X : StV} {V : HV} {S : HS} {Y : StS} {R : HP}
set_option maxRecDepth 100000 in
set_option maxHeartbeats 4000000 in
theorem StW.takeList (gl : Nat) (left deep x z : Int) (items rest : List Dm) (hl : 0 ≤ left ∧ left ≤ 20000) (hd : 0 < deep ∧ deep ≤ 100) (h : StW w X V S Y (Go.Proofs.Ytanjiecefioffaa.blk gl (.cells #[.int .i64 left] 3 (0, 0)) * R))
    (hto : HTo S items x z) (hen : HEnd S rest z) (hne : items ≠ []) (hP : ∀ d ∈ items, TakesAt d (deep - 1)) (hP2 : ∀ d ∈ rest, TakesAt d (deep - 1)) :
    Calls Try.prog 85 #[.pointer (some ⟨X.g, 0, none⟩), .int .u64 x, .pointer (some ⟨gl, 0, none⟩), .int .i64 deep] w (TakeR gl X V S Y R (.mk 6 0 false [] ⟨#[]⟩ items rest) (left + 1) deep w) := by
  obtain ⟨i0, hi, hz0, hz1, hz2⟩ := info_parts info_datum
  have H1 := Lib.hid (And.intro hi (And.intro hz0 (And.intro hz1 hz2)))
  clear hi hz0 hz1 hz2
  have h2 := (h.push (.cells #[.int .i64 0, .int .i64 0, .bool false, .slice none 0 0, .string ⟨#[]⟩, .slice none 0 0, .slice none 0 0] 54)).push (.cells #[.int .i64 6, .int .i64 0, .bool false, .slice none 0 0, .string ⟨#[]⟩, .slice none 0 0, .slice none 0 0] 54)
  rw [World.size_alloc] at h2
  have hb2 : Below 0 w ((w.alloc (.cells #[.int .i64 0, .int .i64 0, .bool false, .slice none 0 0, .string ⟨#[]⟩, .slice none 0 0, .slice none 0 0] 54)).alloc (.cells #[.int .i64 6, .int .i64 0, .bool false, .slice none 0 0, .string ⟨#[]⟩, .slice none 0 0, .slice none 0 0] 54)) := (Below.zero_alloc _ _).trans (Below.zero_alloc _ _)
  have HX := Lib.hid (And.intro h2 hb2)
  have HC := Lib.hid (And.intro hto (And.intro hen (And.intro hne (And.intro hP hP2))))
  clear h h2 hb2 hto hen hne hP hP2
  go_enter Try.func85, Try.ntmps85
  go_wp2_with fail
  go_loopw [1] (LsRel w X V S Y R gl w.heap.size (w.heap.size + 1) items z left (deep - 1)) (fun _ wr => (intOf ((wr.cell? ⟨gl, 0, none⟩).getD (.int .i64 0))).toNat)
  case atStart =>
    refine ⟨0, x, left, [], .slice none 0 0, emp, rfl, Nat.zero_le _, ⟨hl, by rw [List.take_zero]; unfold takeL; rfl⟩, by rw [List.drop_zero]; exact HC.out.1, ⟨⟨rfl, by omega⟩, fun cs h => by simp at h, fun i d cs h => by simp at h⟩, ⟨?_, HX.out.1.ok⟩, HX.out.2⟩
    have := HX.out.1.s.nil_own (e := 54) (sz := 7)
    refine this.perm ?_
    rw [HP.emp_mul, List.flatten_nil]
    unfold listB
    ac_rfl
  case round =>
    clear HX
    obtain ⟨k, xu, left', css, v, M, rfl, hk, ⟨hl', htl⟩, hto, ⟨hcl, h7, hdk⟩, hs, hb⟩ := hrel
    have c0 := hs.c0
    by_cases hlt : k < items.length
    · have hdrop : items.drop k = items[k] :: items.drop (k + 1) := List.drop_eq_getElem_cons hlt
      have hmem : items[k] ∈ items := List.getElem_mem hlt
      rw [hdrop] at hto
      obtain ⟨q1, q2, q3, q4⟩ := hto.fields
      generalize items[k] = d at *
      have hsh := hs.shape xu 1 2 0 q2.1 q2.2
      rw [q1] at hsh
      have hG0 := fun j : Nat => (hs.drewN j).Get xu 0 q2.1 q2.2
      have g1 : IntKind.i64.wrap (deep - 1) = deep - 1 := IntWalk.i64_in _ (by omega)
      generalize decide ((0 : Int) ≤ 0 ∧ 0 < S.tag xu) = q0 at *
      generalize hy0 : S.getAt xu 0 = y0 at *
      have HF := Lib.hid (And.intro hs (And.intro hb (And.intro (And.intro hl' htl) (And.intro (And.intro q2 (And.intro q3 q4)) (And.intro hcl (And.intro h7 hdk))))))
      have HM := Lib.hid (And.intro hmem hdrop)
      clear hs hb hl' htl hto hcl h7 hdk q1 q2 q3 q4 hmem hdrop hy0
      go_wp2_with fail
      with_reducible refine hsh.mono ?_
      rintro e w' ⟨rfl, j1, rfl⟩
      go_wp2_with fail
      refine (hG0 j1).mono ?_
      rintro e w' ⟨rfl, j2, rfl⟩
      have h3 := (HF.out.1.drewN j1).drewN j2
      have hb3 := (HF.out.2.1.trans (drewN_below0 wr j1)).trans (drewN_below0 _ j2)
      generalize (wr.drewN j1).drewN j2 = w3 at *
      clear hsh hG0 c0
      have h4 : StW w3 X V S Y (Go.Proofs.Ytanjiecefioffaa.blk gl (.cells #[.int .i64 left'] 3 (0, 0)) * (Go.Proofs.Ytanjiecefioffaa.blk w.heap.size (.cells #[.int .i64 0, .int .i64 0, .bool false, .slice none 0 0, .string ⟨#[]⟩, .slice none 0 0, .slice none 0 0] 54 (0, 0)) * (Go.Proofs.Ytanjiecefioffaa.blk (w.heap.size + 1) (listB v) * (own 54 7 v k css.flatten * (M * R))))) := ⟨h3.s.perm (by ac_rfl), h3.ok⟩
      have hT := HC.out.2.2.2.1 d HM.out.1 w3 X V S Y _ gl left' y0 HF.out.2.2.1.1 h4 HF.out.2.2.2.1.2.1
      have HB := Lib.hid hb3
      clear h3 h4 hb3
      go_wp2_with fail
      with_reducible refine hT.mono ?_
      rintro e w4 ⟨cs, M', d', rfl, hdk', hok', h5, hb5⟩
      obtain ⟨b, hbq⟩ : ∃ b, (takeD d left' (deep - 1)).2 = b := ⟨_, rfl⟩
      obtain ⟨l2, hl2⟩ : ∃ l2, (takeD d left' (deep - 1)).1 = l2 := ⟨_, rfl⟩
      have htd : takeD d left' (deep - 1) = (l2, b) := Prod.ext hl2 hbq
      have hle2 := takeD_le d left' (deep - 1)
      have hpo2 := takeD_pos d left' (deep - 1) HF.out.2.2.1.1.1
      have hlt2 : b = true → l2 < left' := fun hh => by have := takeD_lt (d := d) (left := left') (deep := deep - 1) (hbq.trans hh); rw [hl2] at this; exact this
      rw [hl2] at h5 hle2 hpo2
      rw [hbq] at hok' ⊢
      obtain ⟨kk, nn, ng, am, ml, cm, tx, ai, il, ci, ar, rl, cr, rfl⟩ := hdk'.cells
      have h6 := h5.push (dmO [.int .i64 kk, .int .i64 nn, .bool ng, .slice am ml cm, .string tx, .slice ai il ci, .slice ar rl cr])
      have hb6 := (HB.out.trans hb5).trans (Below.zero_alloc w4 (dmO [.int .i64 kk, .int .i64 nn, .bool ng, .slice am ml cm, .string tx, .slice ai il ci, .slice ar rl cr]))
      obtain ⟨av, cv, rfl⟩ := own_val (show sat w4 (own 54 7 v k css.flatten * (isHeap V S * (isSt X V.g Y * (Go.Proofs.Ytanjiecefioffaa.blk gl (.cells #[.int .i64 l2] 3 (0, 0)) * (M' * (Go.Proofs.Ytanjiecefioffaa.blk w.heap.size (.cells #[.int .i64 0, .int .i64 0, .bool false, .slice none 0 0, .string ⟨#[]⟩, .slice none 0 0, .slice none 0 0] 54 (0, 0)) * (Go.Proofs.Ytanjiecefioffaa.blk (w.heap.size + 1) (listB v) * (M * R)))))))) from h5.s.perm (by ac_rfl))
      cases b
      case false =>
        have hstop := takeL_stop HM.out.2 HF.out.2.2.1.2 htd
        have hpost : ∀ w9, sat w9 (Go.Proofs.Ytanjiecefioffaa.blk w.heap.size (.cells #[.int .i64 0, .int .i64 0, .bool false, .slice none 0 0, .string ⟨#[]⟩, .slice none 0 0, .slice none 0 0] 54 (0, 0)) * (isHeap V S * (isSt X V.g Y * (Go.Proofs.Ytanjiecefioffaa.blk gl (.cells #[.int .i64 l2] 3 (0, 0)) * R)))) → Below 0 w w9 → TakeR gl X V S Y R (.mk 6 0 false [] ⟨#[]⟩ items rest) (left + 1) deep w (.returned (.tuple #[zeroD, .bool false])) w9 := by
          intro w9 h9 hb9
          have e9 : takeD (.mk 6 0 false [] ⟨#[]⟩ items rest) (left + 1) deep = (l2, false) := by
            unfold takeD
            rw [if_neg (by omega), show left + 1 - 1 = left by omega, hstop]
          unfold TakeR
          rw [e9]
          have hs : sat w9 (own 70 1 (.slice none 0 0) 0 [] * (Go.Proofs.Ytanjiecefioffaa.blk w.heap.size (.cells #[.int .i64 0, .int .i64 0, .bool false, .slice none 0 0, .string ⟨#[]⟩, .slice none 0 0, .slice none 0 0] 54 (0, 0)) * (isHeap V S * (isSt X V.g Y * (Go.Proofs.Ytanjiecefioffaa.blk gl (.cells #[.int .i64 l2] 3 (0, 0)) * R))))) := h9.nil_own
          have hs2 : sat w9 (Go.Proofs.Ytanjiecefioffaa.blk w.heap.size (.cells #[.int .i64 0, .int .i64 0, .bool false, .slice none 0 0, .string ⟨#[]⟩, .slice none 0 0, .slice none 0 0] 54 (0, 0)) * (isHeap V S * (isSt X V.g Y * (Go.Proofs.Ytanjiecefioffaa.blk gl (.cells #[.int .i64 l2] 3 (0, 0)) * (own 70 1 (.slice none 0 0) 0 [] * R))))) := hs.perm (by ac_rfl)
          exact ⟨_, own 70 1 (.slice none 0 0) 0 [], _, rfl, leaf_DK 0 0 ⟨#[]⟩ (by decide) (by decide) _, fun h => (by cases h), ⟨hs2.right.perm (by ac_rfl), h6.ok⟩, hb9⟩
        have hso : sat (w4.alloc (dmO [.int .i64 kk, .int .i64 nn, .bool ng, .slice am ml cm, .string tx, .slice ai il ci, .slice ar rl cr])) (Go.Proofs.Ytanjiecefioffaa.blk w.heap.size (.cells #[.int .i64 0, .int .i64 0, .bool false, .slice none 0 0, .string ⟨#[]⟩, .slice none 0 0, .slice none 0 0] 54 (0, 0)) * (isHeap V S * (isSt X V.g Y * (Go.Proofs.Ytanjiecefioffaa.blk gl (.cells #[.int .i64 l2] 3 (0, 0)) * R)))) := (h6.s.perm (show _ = (Go.Proofs.Ytanjiecefioffaa.blk w4.heap.size (dmO [.int .i64 kk, .int .i64 nn, .bool ng, .slice am ml cm, .string tx, .slice ai il ci, .slice ar rl cr]) * (Go.Proofs.Ytanjiecefioffaa.blk (w.heap.size + 1) (listB (.slice av k cv)) * (own 54 7 (.slice av k cv) k css.flatten * (M' * M)))) * (Go.Proofs.Ytanjiecefioffaa.blk w.heap.size (.cells #[.int .i64 0, .int .i64 0, .bool false, .slice none 0 0, .string ⟨#[]⟩, .slice none 0 0, .slice none 0 0] 54 (0, 0)) * (isHeap V S * (isSt X V.g Y * (Go.Proofs.Ytanjiecefioffaa.blk gl (.cells #[.int .i64 l2] 3 (0, 0)) * R)))) by ac_rfl)).right
        have c0 := (hso.left.cell 0).trans rfl
        have f0 := hso.left.frozen 0
        have c1 := (hso.left.cell 1).trans rfl
        have f1 := hso.left.frozen 1
        have c2 := (hso.left.cell 2).trans rfl
        have f2 := hso.left.frozen 2
        have c3 := (hso.left.cell 3).trans rfl
        have f3 := hso.left.frozen 3
        have c4 := (hso.left.cell 4).trans rfl
        have f4 := hso.left.frozen 4
        have c5 := (hso.left.cell 5).trans rfl
        have f5 := hso.left.frozen 5
        have c6 := (hso.left.cell 6).trans rfl
        have f6 := hso.left.frozen 6
        have HS := Lib.hid (And.intro hso (And.intro hb6 hpost))
        clear hT h5 h6 hb5 hb6 hso hpost hstop hok' hdk' hbq hl2 htd hle2 hpo2 hlt2
        go_wp2_with fail
        have hs7 := (((((((HS.out.1.setCell (off := 0) (.int .i64 0)).setCell (off := 1) (.int .i64 0)).setCell (off := 2) (.bool false)).setCell (off := 3) (.slice none 0 0)).setCell (off := 4) (.string ⟨#[]⟩)).setCell (off := 5) (.slice none 0 0)).setCell (off := 6) (.slice none 0 0))
        have hb7 := (((((((HS.out.2.1.setCell (p := ⟨w.heap.size, 0, none⟩) (Nat.zero_le _) (.int .i64 0)).setCell (p := ⟨w.heap.size, 1, none⟩) (Nat.zero_le _) (.int .i64 0)).setCell (p := ⟨w.heap.size, 2, none⟩) (Nat.zero_le _) (.bool false)).setCell (p := ⟨w.heap.size, 3, none⟩) (Nat.zero_le _) (.slice none 0 0)).setCell (p := ⟨w.heap.size, 4, none⟩) (Nat.zero_le _) (.string ⟨#[]⟩)).setCell (p := ⟨w.heap.size, 5, none⟩) (Nat.zero_le _) (.slice none 0 0)).setCell (p := ⟨w.heap.size, 6, none⟩) (Nat.zero_le _) (.slice none 0 0))
        clear c0 f0 c1 f1 c2 f2 c3 f3 c4 f4 c5 f5 c6 f6
        generalize ((((((((w4.alloc (dmO [.int .i64 kk, .int .i64 nn, .bool ng, .slice am ml cm, .string tx, .slice ai il ci, .slice ar rl cr])).setCell ⟨w.heap.size, 0, none⟩ (.int .i64 0)).setCell ⟨w.heap.size, 1, none⟩ (.int .i64 0)).setCell ⟨w.heap.size, 2, none⟩ (.bool false)).setCell ⟨w.heap.size, 3, none⟩ (.slice none 0 0)).setCell ⟨w.heap.size, 4, none⟩ (.string ⟨#[]⟩)).setCell ⟨w.heap.size, 5, none⟩ (.slice none 0 0)).setCell ⟨w.heap.size, 6, none⟩ (.slice none 0 0)) = w7 at *
        obtain ⟨r0, r1, r2, r3, r4, r5, r6⟩ := cells7 hs7
        exact bodyPost_ret (v := .tuple #[zeroD, .bool false]) (by simp [results, Try.results85, go_sem, r0, r1, r2, r3, r4, r5, r6, zeroD]) rfl (HS.out.2.2 _ (by rw [arr7] at hs7; exact hs7) hb7)
      case true =>
        obtain rfl := hok' rfl
        have hnext := takeL_next HM.out.2 HF.out.2.2.1.2 htd
        have hso : sat (w4.alloc (dmO [.int .i64 kk, .int .i64 nn, .bool ng, .slice am ml cm, .string tx, .slice ai il ci, .slice ar rl cr])) (Go.Proofs.Ytanjiecefioffaa.blk (w.heap.size + 1) (listB (.slice av k cv)) * (own 54 7 (.slice av k cv) k css.flatten * (Go.Proofs.Ytanjiecefioffaa.blk w4.heap.size (dmO [.int .i64 kk, .int .i64 nn, .bool ng, .slice am ml cm, .string tx, .slice ai il ci, .slice ar rl cr]) * (isHeap V S * (isSt X V.g Y * (Go.Proofs.Ytanjiecefioffaa.blk w.heap.size (.cells #[.int .i64 0, .int .i64 0, .bool false, .slice none 0 0, .string ⟨#[]⟩, .slice none 0 0, .slice none 0 0] 54 (0, 0)) * (Go.Proofs.Ytanjiecefioffaa.blk gl (.cells #[.int .i64 l2] 3 (0, 0)) * (M' * (M * R))))))))) := h6.s.perm (by ac_rfl)
        have c5 := (hso.left.cell 5).trans (show _ = some (Value.slice av k cv) from rfl)
        have c5b : ∀ o, ((w4.alloc (dmO [.int .i64 kk, .int .i64 nn, .bool ng, .slice am ml cm, .string tx, .slice ai il ci, .slice ar rl cr])).alloc o).cell? ⟨w.heap.size + 1, 5, none⟩ = some (.slice av k cv) := fun o => ((hso.alloc o).right.left.cell 5).trans rfl
        have hs7 := hso.alloc (dmO [.int .i64 kk, .int .i64 nn, .bool ng, .slice am ml cm, .string tx, .slice ai il ci, .slice ar rl cr])
        rw [World.size_alloc] at hs7
        have hs8 : sat ((w4.alloc (dmO [.int .i64 kk, .int .i64 nn, .bool ng, .slice am ml cm, .string tx, .slice ai il ci, .slice ar rl cr])).alloc (dmO [.int .i64 kk, .int .i64 nn, .bool ng, .slice am ml cm, .string tx, .slice ai il ci, .slice ar rl cr])) (own 54 7 (.slice av k cv) k css.flatten * (Go.Proofs.Ytanjiecefioffaa.blk (w4.heap.size + 1) (dmO [.int .i64 kk, .int .i64 nn, .bool ng, .slice am ml cm, .string tx, .slice ai il ci, .slice ar rl cr]) * (Go.Proofs.Ytanjiecefioffaa.blk (w.heap.size + 1) (listB (.slice av k cv)) * (isHeap V S * (isSt X V.g Y * (Go.Proofs.Ytanjiecefioffaa.blk w.heap.size (.cells #[.int .i64 0, .int .i64 0, .bool false, .slice none 0 0, .string ⟨#[]⟩, .slice none 0 0, .slice none 0 0] 54 (0, 0)) * (Go.Proofs.Ytanjiecefioffaa.blk gl (.cells #[.int .i64 l2] 3 (0, 0)) * (M' * (M * R))))))))) := (hs7.perm (show _ = Go.Proofs.Ytanjiecefioffaa.blk w4.heap.size (dmO [.int .i64 kk, .int .i64 nn, .bool ng, .slice am ml cm, .string tx, .slice ai il ci, .slice ar rl cr]) * (own 54 7 (.slice av k cv) k css.flatten * (Go.Proofs.Ytanjiecefioffaa.blk (w4.heap.size + 1) (dmO [.int .i64 kk, .int .i64 nn, .bool ng, .slice am ml cm, .string tx, .slice ai il ci, .slice ar rl cr]) * (Go.Proofs.Ytanjiecefioffaa.blk (w.heap.size + 1) (listB (.slice av k cv)) * (isHeap V S * (isSt X V.g Y * (Go.Proofs.Ytanjiecefioffaa.blk w.heap.size (.cells #[.int .i64 0, .int .i64 0, .bool false, .slice none 0 0, .string ⟨#[]⟩, .slice none 0 0, .slice none 0 0] 54 (0, 0)) * (Go.Proofs.Ytanjiecefioffaa.blk gl (.cells #[.int .i64 l2] 3 (0, 0)) * (M' * (M * R))))))))) by ac_rfl)).right
        have hcl : CellsAt ((w4.alloc (dmO [.int .i64 kk, .int .i64 nn, .bool ng, .slice am ml cm, .string tx, .slice ai il ci, .slice ar rl cr])).alloc (dmO [.int .i64 kk, .int .i64 nn, .bool ng, .slice am ml cm, .string tx, .slice ai il ci, .slice ar rl cr])) (some ⟨w4.heap.size + 1, 0, none⟩) [.int .i64 kk, .int .i64 nn, .bool ng, .slice am ml cm, .string tx, .slice ai il ci, .slice ar rl cr] := by
          intro j u hj
          have ha : ((⟨w4.heap.size + 1, 0, none⟩ : Addr).add j) = ⟨w4.heap.size + 1, j, none⟩ := by unfold Addr.add; split <;> simp_all
          refine ⟨_, rfl, ?_⟩
          rw [ha, hs8.right.left.cell j, List.getElem?_toArray]
          exact hj
        have hone := hdk'.one
        have HS := Lib.hid (And.intro hs8 (And.intro h6.ok (And.intro (hb6.trans (Below.zero_alloc _ (dmO [.int .i64 kk, .int .i64 nn, .bool ng, .slice am ml cm, .string tx, .slice ai il ci, .slice ar rl cr]))) (And.intro hnext (And.intro hdk' (And.intro hcl (And.intro hone (And.intro (hlt2 rfl) (And.intro hle2 hpo2)))))))))
        clear hT h5 h6 hb5 hb6 hso hnext hok' hdk' hbq hl2 htd hle2 hpo2 hlt2 hs7 hs8 hcl hone
        go_wp2_with (at_builtin; refine halt ?_)
        refine goon ?_
        obtain ⟨hi, hz0, hz1, hz2⟩ := H1.out
        have hfl := HF.out.2.2.2.2.1
        have h77 := HF.out.2.2.2.2.2.1
        have hpl := HF.out.2.2.1.1.1
        refine wpList_append_opt rfl (.tmp 43) (.tmp 45) 52 rfl 54 i0 zeroD 7 112 Try.underlying52 hi hz0 hz1 hz2 rfl (by decide) (.slice av k cv) k css.flatten rfl _ (some ⟨w4.heap.size + 1, 0, none⟩) 1 1 [.int .i64 kk, .int .i64 nn, .bool ng, .slice am ml cm, .string tx, .slice ai il ci, .slice ar rl cr] rfl ?_ HS.out.1 rfl HS.out.2.2.2.2.2.1 HS.out.2.2.2.2.2.2.1 (by omega) (by unfold maxLen; omega)
        clear hi hz0 hz1 hz2 c5 c5b hfl h77 hpl
        intro v0 w9 hs9 hb9
        obtain ⟨av2, cv2, rfl⟩ := own_val hs9
        obtain ⟨v', hv'⟩ : ∃ v', Value.slice av2 (k + 1) cv2 = v' := ⟨_, rfl⟩
        rw [hv'] at hs9
        have hs10 := (show sat w9 (Go.Proofs.Ytanjiecefioffaa.blk (w.heap.size + 1) (listB (.slice av k cv)) * (own 54 7 v' (k + 1) (css.flatten ++ [.int .i64 kk, .int .i64 nn, .bool ng, .slice am ml cm, .string tx, .slice ai il ci, .slice ar rl cr]) * (isHeap V S * (isSt X V.g Y * (Go.Proofs.Ytanjiecefioffaa.blk w.heap.size (.cells #[.int .i64 0, .int .i64 0, .bool false, .slice none 0 0, .string ⟨#[]⟩, .slice none 0 0, .slice none 0 0] 54 (0, 0)) * (Go.Proofs.Ytanjiecefioffaa.blk gl (.cells #[.int .i64 l2] 3 (0, 0)) * (M' * (M * R)))))))) from (hs9.perm (show _ = Go.Proofs.Ytanjiecefioffaa.blk (w4.heap.size + 1) (dmO [.int .i64 kk, .int .i64 nn, .bool ng, .slice am ml cm, .string tx, .slice ai il ci, .slice ar rl cr]) * (Go.Proofs.Ytanjiecefioffaa.blk (w.heap.size + 1) (listB (.slice av k cv)) * (own 54 7 v' (k + 1) (css.flatten ++ [.int .i64 kk, .int .i64 nn, .bool ng, .slice am ml cm, .string tx, .slice ai il ci, .slice ar rl cr]) * (isHeap V S * (isSt X V.g Y * (Go.Proofs.Ytanjiecefioffaa.blk w.heap.size (.cells #[.int .i64 0, .int .i64 0, .bool false, .slice none 0 0, .string ⟨#[]⟩, .slice none 0 0, .slice none 0 0] 54 (0, 0)) * (Go.Proofs.Ytanjiecefioffaa.blk gl (.cells #[.int .i64 l2] 3 (0, 0)) * (M' * (M * R)))))))) by ac_rfl)).right)
        have c5 := (hs10.left.cell 5).trans (show _ = some (Value.slice av k cv) from rfl)
        have f5 := hs10.left.frozen 5
        have hs11 : sat (w9.setCell ⟨w.heap.size + 1, 5, none⟩ v') (Go.Proofs.Ytanjiecefioffaa.blk (w.heap.size + 1) (listB v') * (own 54 7 v' (k + 1) (css.flatten ++ [.int .i64 kk, .int .i64 nn, .bool ng, .slice am ml cm, .string tx, .slice ai il ci, .slice ar rl cr]) * (isHeap V S * (isSt X V.g Y * (Go.Proofs.Ytanjiecefioffaa.blk w.heap.size (.cells #[.int .i64 0, .int .i64 0, .bool false, .slice none 0 0, .string ⟨#[]⟩, .slice none 0 0, .slice none 0 0] 54 (0, 0)) * (Go.Proofs.Ytanjiecefioffaa.blk gl (.cells #[.int .i64 l2] 3 (0, 0)) * (M' * (M * R)))))))) := hs10.setCell (off := 5) v'
        have hb11 := ((HS.out.2.2.1.trans hb9)).setCell (p := ⟨w.heap.size + 1, 5, none⟩) (Nat.zero_le _) v'
        have HQ := Lib.hid (And.intro hs11 (And.intro hb11 (HS.out.2.1)))
        clear hs9 hb9 hs10 hs11 hb11
        subst hv'
        go_upto_region 8 with fail
        obtain ⟨hs11, hb11, hok11⟩ := HQ.out
        clear HQ c5 f5
        generalize w9.setCell ⟨w.heap.size + 1, 5, none⟩ (.slice av2 (k + 1) cv2) = w10 at *
        have h12 : StW w10 X V S Y (Go.Proofs.Ytanjiecefioffaa.blk w.heap.size (.cells #[.int .i64 0, .int .i64 0, .bool false, .slice none 0 0, .string ⟨#[]⟩, .slice none 0 0, .slice none 0 0] 54 (0, 0)) * (Go.Proofs.Ytanjiecefioffaa.blk (w.heap.size + 1) (listB (.slice av2 (k + 1) cv2)) * (own 54 7 (.slice av2 (k + 1) cv2) (k + 1) (css.flatten ++ [.int .i64 kk, .int .i64 nn, .bool ng, .slice am ml cm, .string tx, .slice ai il ci, .slice ar rl cr]) * (Go.Proofs.Ytanjiecefioffaa.blk gl (.cells #[.int .i64 l2] 3 (0, 0)) * (M' * (M * R)))))) := ⟨hs11.perm (by ac_rfl), hok11⟩
        have c0 := h12.c0
        have hG := h12.Get xu 1 HF.out.2.2.2.1.1.1 HF.out.2.2.2.1.1.2
        have HW := Lib.hid (And.intro h12 hb11)
        have hto2 := HF.out.2.2.2.1.2.2
        generalize S.getAt xu 1 = y1 at *
        have HT := Lib.hid hto2
        clear hs11 hb11 h12 hok11 hto2
        go_wp2_with fail
        refine hG.mono ?_
        rintro e w' ⟨rfl, j3, rfl⟩
        go_wp2_with fail
        go_roundw
        case rel =>
          refine ⟨k + 1, y1, l2, css ++ [[.int .i64 kk, .int .i64 nn, .bool ng, .slice am ml cm, .string tx, .slice ai il ci, .slice ar rl cr]], .slice av2 (k + 1) cv2, M' * M, rfl, by omega, ⟨⟨HS.out.2.2.2.2.2.2.2.2.2, by have := HS.out.2.2.2.2.2.2.2.1; have := HF.out.2.2.1.1.2; omega⟩, HS.out.2.2.2.1⟩, HT.out, ⟨⟨?_, by have := HS.out.2.2.2.2.2.2.2.1; have := HF.out.2.2.2.2.1; omega⟩, ?_, ?_⟩, ⟨?_, HW.out.1.ok⟩, HW.out.2.trans (drewN_below0 _ _)⟩
          · rw [List.length_append, HF.out.2.2.2.2.1.1]; rfl
          · intro cs hcs
            rcases List.mem_append.1 hcs with hcs | hcs
            · exact HF.out.2.2.2.2.2.1 cs hcs
            · rw [List.mem_singleton.1 hcs]; rfl
          · have htk : items.take (k + 1) = items.take k ++ [d'] := by
              have hq : items[k]? = some d' := by
                have := List.getElem?_drop (xs := items) (i := k) (j := 0)
                rw [HM.out.2, Nat.add_zero] at this
                exact this.symm
              rw [List.take_add_one, hq]; rfl
            intro i d cs hd hc
            rw [htk] at hd
            have htl : (items.take k).length = k := by rw [List.length_take]; omega
            have hcl := HF.out.2.2.2.2.1
            by_cases hi : i < k
            · rw [List.getElem?_append_left (by omega)] at hd hc
              exact (HF.out.2.2.2.2.2.2 i d cs hd hc).mono (fun w h => h.right)
            · rw [List.getElem?_append_right (by omega)] at hd hc
              cases List.mem_singleton.1 (List.mem_of_getElem? hd)
              cases List.mem_singleton.1 (List.mem_of_getElem? hc)
              exact HS.out.2.2.2.2.1.mono (fun w h => h.left)
          · rw [List.flatten_append, List.flatten_cons, List.flatten_nil, List.append_nil]
            exact (HW.out.1.drewN j3).s.perm (by ac_rfl)
        case measure =>
          have m1 : (w10.drewN j3).cell? ⟨gl, 0, none⟩ = some (.int .i64 l2) := by
            have := ((HW.out.1.drewN j3).s.perm (show _ = Go.Proofs.Ytanjiecefioffaa.blk gl (.cells #[.int .i64 l2] 3 (0, 0)) * (isHeap V S * (isSt X V.g Y * (Go.Proofs.Ytanjiecefioffaa.blk w.heap.size (.cells #[.int .i64 0, .int .i64 0, .bool false, .slice none 0 0, .string ⟨#[]⟩, .slice none 0 0, .slice none 0 0] 54 (0, 0)) * (Go.Proofs.Ytanjiecefioffaa.blk (w.heap.size + 1) (listB (.slice av2 (k + 1) cv2)) * (own 54 7 (.slice av2 (k + 1) cv2) (k + 1) (css.flatten ++ [.int .i64 kk, .int .i64 nn, .bool ng, .slice am ml cm, .string tx, .slice ai il ci, .slice ar rl cr]) * (M' * (M * R))))))) by ac_rfl)).left.cell 0
            exact this.trans rfl
          have m2 : wr.cell? ⟨gl, 0, none⟩ = some (.int .i64 left') := by
            have := (HF.out.1.s.perm (show _ = Go.Proofs.Ytanjiecefioffaa.blk gl (.cells #[.int .i64 left'] 3 (0, 0)) * (isHeap V S * (isSt X V.g Y * (Go.Proofs.Ytanjiecefioffaa.blk w.heap.size (.cells #[.int .i64 0, .int .i64 0, .bool false, .slice none 0 0, .string ⟨#[]⟩, .slice none 0 0, .slice none 0 0] 54 (0, 0)) * (Go.Proofs.Ytanjiecefioffaa.blk (w.heap.size + 1) (listB (.slice av k cv)) * (own 54 7 (.slice av k cv) k css.flatten * (M * R)))))) by ac_rfl)).left.cell 0
            exact this.trans rfl
          rw [m1, m2]
          have := HS.out.2.2.2.2.2.2.2.1
          have := HS.out.2.2.2.2.2.2.2.2.2
          simp [intOf]; omega
    · have hke : k = items.length := by omega
      rw [hke, List.drop_length] at hto
      unfold HTo at hto
      subst hto
      rw [hke, List.take_length] at htl hdk
      have hso0 : sat wr (own 54 7 v k css.flatten * (Go.Proofs.Ytanjiecefioffaa.blk w.heap.size (.cells #[.int .i64 0, .int .i64 0, .bool false, .slice none 0 0, .string ⟨#[]⟩, .slice none 0 0, .slice none 0 0] 54 (0, 0)) * (Go.Proofs.Ytanjiecefioffaa.blk (w.heap.size + 1) (listB v) * (isHeap V S * (isSt X V.g Y * (Go.Proofs.Ytanjiecefioffaa.blk gl (.cells #[.int .i64 left'] 3 (0, 0)) * (M * R))))))) := hs.s.perm (by ac_rfl)
      obtain ⟨av, cv, rfl⟩ := own_val hso0
      obtain ⟨ao', cap', hq, hcv⟩ := slice_val hso0
      simp only [Value.slice.injEq, true_and] at hq
      obtain ⟨rfl, rfl⟩ := hq
      have hrow := row_dks (M := M) (l := items) (css := css) (by omega) hke hdk wr hso0
      have hsh := hs.shape xu 1 2 0 (HC.out.2.1.bd.1) (HC.out.2.1.bd.2)
      rw [HC.out.2.1.nopair] at hsh
      have g1 : IntKind.i64.wrap (deep - 1) = deep - 1 := IntWalk.i64_in _ (by omega)
      have hfull : ∀ (l2 : Int) (b : Bool), takeL rest left' (deep - 1) = (l2, b) → takeD (.mk 6 0 false [] ⟨#[]⟩ items rest) (left + 1) deep = (l2, b) := by
        intro l2 b hh
        unfold takeD
        rw [if_neg (by omega), show left + 1 - 1 = left by omega, htl]
        exact hh
      have HF := Lib.hid (And.intro hs (And.intro hb (And.intro (And.intro hl' htl) (And.intro hcl (And.intro h7 (And.intro hdk (And.intro hcv (And.intro hrow (And.intro hke hfull)))))))))
      clear hs hb hl' htl hcl h7 hdk hcv hrow hke hfull hso0 hlt hk
      cases rest with
      | nil =>
        have hz := HC.out.2.1
        unfold HEnd at hz
        have hso : sat wr (Go.Proofs.Ytanjiecefioffaa.blk w.heap.size (.cells #[.int .i64 0, .int .i64 0, .bool false, .slice none 0 0, .string ⟨#[]⟩, .slice none 0 0, .slice none 0 0] 54 (0, 0)) * (Go.Proofs.Ytanjiecefioffaa.blk (w.heap.size + 1) (listB (.slice av k cv)) * (isHeap V S * (isSt X V.g Y * (own 54 7 (.slice av k cv) k css.flatten * (Go.Proofs.Ytanjiecefioffaa.blk gl (.cells #[.int .i64 left'] 3 (0, 0)) * (M * R))))))) := HF.out.1.s.perm (by ac_rfl)
        have hpost : ∀ w9, sat w9 (Go.Proofs.Ytanjiecefioffaa.blk w.heap.size (dmO [.int .i64 6, .int .i64 0, .bool false, .slice none 0 0, .string ⟨#[]⟩, .slice av k cv, .slice none 0 0]) * (Go.Proofs.Ytanjiecefioffaa.blk (w.heap.size + 1) (listB (.slice av k cv)) * (isHeap V S * (isSt X V.g Y * (own 54 7 (.slice av k cv) k css.flatten * (Go.Proofs.Ytanjiecefioffaa.blk gl (.cells #[.int .i64 left'] 3 (0, 0)) * (M * R))))))) → Below 0 w w9 → TakeR gl X V S Y R (.mk 6 0 false [] ⟨#[]⟩ items []) (left + 1) deep w (.returned (.tuple #[.agg #[.int .i64 6, .int .i64 0, .bool false, .slice none 0 0, .string ⟨#[]⟩, .slice av k cv, .slice none 0 0], .bool true])) w9 := by
          intro w9 h9 hb9
          have e9 := HF.out.2.2.2.2.2.2.2.2.2 left' true (by unfold takeL; rfl)
          unfold TakeR
          rw [e9]
          refine ⟨[.int .i64 6, .int .i64 0, .bool false, .slice none 0 0, .string ⟨#[]⟩, .slice av k cv, .slice none 0 0], own 54 7 (.slice av k cv) k css.flatten * M, _, rfl, ?_, fun _ => rfl, ⟨h9.right.right.perm (by ac_rfl), HF.out.1.ok⟩, hb9⟩
          obtain ⟨hcv, hrow, hke, _⟩ := HF.out.2.2.2.2.2.2
          rw [hke]
          rw [hke] at hrow hcv
          exact DK.mk (mag := []) (am := none) (cm := 0) (ar := none) (cr := 0) ⟨by decide, by decide⟩ (fun w _ j x h => by simp at h) (fun x h => by simp at h) ⟨Nat.le_refl _, hcv, Nat.le_refl _⟩ hrow DKs.nil
        have HP := Lib.hid (And.intro hso hpost)
        rw [hz]
        rw [hz] at hsh
        clear hso hpost hz
        go_wp2_with fail
        with_reducible refine hsh.mono ?_
        rintro e w' ⟨rfl, j1, rfl⟩
        have hso := HP.out.1.drewN j1
        have hbd := HF.out.2.1.trans (drewN_below0 wr j1)
        generalize wr.drewN j1 = w3 at *
        clear hsh c0
        have c0 := (hso.left.cell 0).trans rfl
        have f0 := hso.left.frozen 0
        have c1 := (hso.left.cell 1).trans rfl
        have f1 := hso.left.frozen 1
        have c2 := (hso.left.cell 2).trans rfl
        have f2 := hso.left.frozen 2
        have c3 := (hso.left.cell 3).trans rfl
        have f3 := hso.left.frozen 3
        have c4 := (hso.left.cell 4).trans rfl
        have f4 := hso.left.frozen 4
        have c5 := (hso.left.cell 5).trans rfl
        have f5 := hso.left.frozen 5
        have c6 := (hso.left.cell 6).trans rfl
        have f6 := hso.left.frozen 6
        have d0 : w3.cell? ⟨w.heap.size + 1, 0, none⟩ = some (.int .i64 6) := (hso.right.left.cell 0).trans rfl
        have d1 : w3.cell? ⟨w.heap.size + 1, 1, none⟩ = some (.int .i64 0) := (hso.right.left.cell 1).trans rfl
        have d2 : w3.cell? ⟨w.heap.size + 1, 2, none⟩ = some (.bool false) := (hso.right.left.cell 2).trans rfl
        have d3 : w3.cell? ⟨w.heap.size + 1, 3, none⟩ = some (.slice none 0 0) := (hso.right.left.cell 3).trans rfl
        have d4 : w3.cell? ⟨w.heap.size + 1, 4, none⟩ = some (.string ⟨#[]⟩) := (hso.right.left.cell 4).trans rfl
        have d5 : w3.cell? ⟨w.heap.size + 1, 5, none⟩ = some (.slice av k cv) := (hso.right.left.cell 5).trans rfl
        have d6 : w3.cell? ⟨w.heap.size + 1, 6, none⟩ = some (.slice none 0 0) := (hso.right.left.cell 6).trans rfl
        have HS := Lib.hid (And.intro hso hbd)
        clear hso hbd
        go_wp2_with fail
        have hs7 := (((((((HS.out.1.setCell (off := 0) (.int .i64 6)).setCell (off := 1) (.int .i64 0)).setCell (off := 2) (.bool false)).setCell (off := 3) (.slice none 0 0)).setCell (off := 4) (.string ⟨#[]⟩)).setCell (off := 5) (.slice av k cv)).setCell (off := 6) (.slice none 0 0))
        have hb7 := (((((((HS.out.2.setCell (p := ⟨w.heap.size, 0, none⟩) (Nat.zero_le _) (.int .i64 6)).setCell (p := ⟨w.heap.size, 1, none⟩) (Nat.zero_le _) (.int .i64 0)).setCell (p := ⟨w.heap.size, 2, none⟩) (Nat.zero_le _) (.bool false)).setCell (p := ⟨w.heap.size, 3, none⟩) (Nat.zero_le _) (.slice none 0 0)).setCell (p := ⟨w.heap.size, 4, none⟩) (Nat.zero_le _) (.string ⟨#[]⟩)).setCell (p := ⟨w.heap.size, 5, none⟩) (Nat.zero_le _) (.slice av k cv)).setCell (p := ⟨w.heap.size, 6, none⟩) (Nat.zero_le _) (.slice none 0 0))
        clear c0 f0 c1 f1 c2 f2 c3 f3 c4 f4 c5 f5 c6 f6 d0 d1 d2 d3 d4 d5 d6
        generalize (((((((w3.setCell ⟨w.heap.size, 0, none⟩ (.int .i64 6)).setCell ⟨w.heap.size, 1, none⟩ (.int .i64 0)).setCell ⟨w.heap.size, 2, none⟩ (.bool false)).setCell ⟨w.heap.size, 3, none⟩ (.slice none 0 0)).setCell ⟨w.heap.size, 4, none⟩ (.string ⟨#[]⟩)).setCell ⟨w.heap.size, 5, none⟩ (.slice av k cv)).setCell ⟨w.heap.size, 6, none⟩ (.slice none 0 0)) = w7 at *
        obtain ⟨r0, r1, r2, r3, r4, r5, r6⟩ := cells7 hs7
        rw [arr7] at hs7
        exact bodyPost_ret (v := .tuple #[.agg #[.int .i64 6, .int .i64 0, .bool false, .slice none 0 0, .string ⟨#[]⟩, .slice av k cv, .slice none 0 0], .bool true]) (by simp [results, Try.results85, go_sem, r0, r1, r2, r3, r4, r5, r6]) rfl (HP.out.2 _ hs7 hb7)
      | cons d l =>
        have hz := HC.out.2.1
        unfold HEnd at hz
        obtain ⟨hin, hk6, rfl⟩ := hz
        have hne := hin.noten hk6
        have q3 : (xu == 10) = false := by rw [beq_eq_false_iff_ne]; exact hne
        have HM := Lib.hid hin
        clear hin hk6
        go_wp2_with fail
        with_reducible refine hsh.mono ?_
        rintro e w' ⟨rfl, j1, rfl⟩
        have h3 := HF.out.1.drewN j1
        have hb3 := HF.out.2.1.trans (drewN_below0 wr j1)
        generalize wr.drewN j1 = w3 at *
        clear hsh c0
        have h4 : StW w3 X V S Y (Go.Proofs.Ytanjiecefioffaa.blk gl (.cells #[.int .i64 left'] 3 (0, 0)) * (Go.Proofs.Ytanjiecefioffaa.blk w.heap.size (.cells #[.int .i64 0, .int .i64 0, .bool false, .slice none 0 0, .string ⟨#[]⟩, .slice none 0 0, .slice none 0 0] 54 (0, 0)) * (Go.Proofs.Ytanjiecefioffaa.blk (w.heap.size + 1) (listB (.slice av k cv)) * (own 54 7 (.slice av k cv) k css.flatten * (M * R))))) := ⟨h3.s.perm (by ac_rfl), h3.ok⟩
        have hT := HC.out.2.2.2.2 d (List.mem_singleton.2 rfl) w3 X V S Y _ gl left' xu HF.out.2.2.1.1 h4 HM.out
        have HB := Lib.hid hb3
        clear h3 h4 hb3
        go_wp2_with fail
        with_reducible refine hT.mono ?_
        rintro e w4 ⟨cs, M', d', rfl, hdk', hok', h5, hb5⟩
        obtain ⟨b, hbq⟩ : ∃ b, (takeD d left' (deep - 1)).2 = b := ⟨_, rfl⟩
        obtain ⟨l2, hl2⟩ : ∃ l2, (takeD d left' (deep - 1)).1 = l2 := ⟨_, rfl⟩
        have htd : takeD d left' (deep - 1) = (l2, b) := Prod.ext hl2 hbq
        have e9 := HF.out.2.2.2.2.2.2.2.2.2 l2 b (by
          unfold takeL
          rw [htd]
          cases b with
          | false => rfl
          | true => simp only; unfold takeL; rfl)
        rw [hl2] at h5
        rw [hbq] at hok' ⊢
        have hseven := hdk'.cells
        obtain ⟨kk, nn, ng, am, ml, cm, tx, ai, il, ci, ar, rl, cr, rfl⟩ := hseven
        have h6 := (h5.push (dmO [.int .i64 kk, .int .i64 nn, .bool ng, .slice am ml cm, .string tx, .slice ai il ci, .slice ar rl cr])).push (dmO [.int .i64 kk, .int .i64 nn, .bool ng, .slice am ml cm, .string tx, .slice ai il ci, .slice ar rl cr])
        rw [World.size_alloc] at h6
        have hb6 := ((HB.out.trans hb5).trans (Below.zero_alloc w4 (dmO [.int .i64 kk, .int .i64 nn, .bool ng, .slice am ml cm, .string tx, .slice ai il ci, .slice ar rl cr]))).trans (Below.zero_alloc (w4.alloc (dmO [.int .i64 kk, .int .i64 nn, .bool ng, .slice am ml cm, .string tx, .slice ai il ci, .slice ar rl cr])) (dmO [.int .i64 kk, .int .i64 nn, .bool ng, .slice am ml cm, .string tx, .slice ai il ci, .slice ar rl cr]))
        have hs8 : sat ((w4.alloc (dmO [.int .i64 kk, .int .i64 nn, .bool ng, .slice am ml cm, .string tx, .slice ai il ci, .slice ar rl cr])).alloc (dmO [.int .i64 kk, .int .i64 nn, .bool ng, .slice am ml cm, .string tx, .slice ai il ci, .slice ar rl cr])) (Go.Proofs.Ytanjiecefioffaa.blk (w.heap.size + 1) (listB (.slice av k cv)) * (Go.Proofs.Ytanjiecefioffaa.blk (w4.heap.size + 1) (dmO [.int .i64 kk, .int .i64 nn, .bool ng, .slice am ml cm, .string tx, .slice ai il ci, .slice ar rl cr]) * (Go.Proofs.Ytanjiecefioffaa.blk w.heap.size (.cells #[.int .i64 0, .int .i64 0, .bool false, .slice none 0 0, .string ⟨#[]⟩, .slice none 0 0, .slice none 0 0] 54 (0, 0)) * (isHeap V S * (isSt X V.g Y * (own 54 7 (.slice av k cv) k css.flatten * (Go.Proofs.Ytanjiecefioffaa.blk gl (.cells #[.int .i64 l2] 3 (0, 0)) * (M' * (M * R))))))))) := (h6.s.perm (show _ = Go.Proofs.Ytanjiecefioffaa.blk w4.heap.size (dmO [.int .i64 kk, .int .i64 nn, .bool ng, .slice am ml cm, .string tx, .slice ai il ci, .slice ar rl cr]) * (Go.Proofs.Ytanjiecefioffaa.blk (w.heap.size + 1) (listB (.slice av k cv)) * (Go.Proofs.Ytanjiecefioffaa.blk (w4.heap.size + 1) (dmO [.int .i64 kk, .int .i64 nn, .bool ng, .slice am ml cm, .string tx, .slice ai il ci, .slice ar rl cr]) * (Go.Proofs.Ytanjiecefioffaa.blk w.heap.size (.cells #[.int .i64 0, .int .i64 0, .bool false, .slice none 0 0, .string ⟨#[]⟩, .slice none 0 0, .slice none 0 0] 54 (0, 0)) * (isHeap V S * (isSt X V.g Y * (own 54 7 (.slice av k cv) k css.flatten * (Go.Proofs.Ytanjiecefioffaa.blk gl (.cells #[.int .i64 l2] 3 (0, 0)) * (M' * (M * R))))))))) by ac_rfl)).right
        have y6 := hs8.left.frozen 6
        have y6c := (hs8.left.cell 6).trans (show _ = some (Value.slice none 0 0) from rfl)
        have hs9 : sat (((w4.alloc (dmO [.int .i64 kk, .int .i64 nn, .bool ng, .slice am ml cm, .string tx, .slice ai il ci, .slice ar rl cr])).alloc (dmO [.int .i64 kk, .int .i64 nn, .bool ng, .slice am ml cm, .string tx, .slice ai il ci, .slice ar rl cr])).setCell ⟨w.heap.size + 1, 6, none⟩ (.slice (some ⟨w4.heap.size + 1, 0, none⟩) 1 1)) (Go.Proofs.Ytanjiecefioffaa.blk (w.heap.size + 1) (.cells #[.int .i64 6, .int .i64 0, .bool false, .slice none 0 0, .string ⟨#[]⟩, .slice av k cv, .slice (some ⟨w4.heap.size + 1, 0, none⟩) 1 1] 54 (0, 0)) * (Go.Proofs.Ytanjiecefioffaa.blk (w4.heap.size + 1) (dmO [.int .i64 kk, .int .i64 nn, .bool ng, .slice am ml cm, .string tx, .slice ai il ci, .slice ar rl cr]) * (Go.Proofs.Ytanjiecefioffaa.blk w.heap.size (.cells #[.int .i64 0, .int .i64 0, .bool false, .slice none 0 0, .string ⟨#[]⟩, .slice none 0 0, .slice none 0 0] 54 (0, 0)) * (isHeap V S * (isSt X V.g Y * (own 54 7 (.slice av k cv) k css.flatten * (Go.Proofs.Ytanjiecefioffaa.blk gl (.cells #[.int .i64 l2] 3 (0, 0)) * (M' * (M * R))))))))) := hs8.setCell (off := 6) _
        have hb9 := hb6.setCell (p := ⟨w.heap.size + 1, 6, none⟩) (Nat.zero_le _) (.slice (some ⟨w4.heap.size + 1, 0, none⟩) 1 1)
        have hso : sat (((w4.alloc (dmO [.int .i64 kk, .int .i64 nn, .bool ng, .slice am ml cm, .string tx, .slice ai il ci, .slice ar rl cr])).alloc (dmO [.int .i64 kk, .int .i64 nn, .bool ng, .slice am ml cm, .string tx, .slice ai il ci, .slice ar rl cr])).setCell ⟨w.heap.size + 1, 6, none⟩ (.slice (some ⟨w4.heap.size + 1, 0, none⟩) 1 1)) (Go.Proofs.Ytanjiecefioffaa.blk w.heap.size (.cells #[.int .i64 0, .int .i64 0, .bool false, .slice none 0 0, .string ⟨#[]⟩, .slice none 0 0, .slice none 0 0] 54 (0, 0)) * (Go.Proofs.Ytanjiecefioffaa.blk (w.heap.size + 1) (.cells #[.int .i64 6, .int .i64 0, .bool false, .slice none 0 0, .string ⟨#[]⟩, .slice av k cv, .slice (some ⟨w4.heap.size + 1, 0, none⟩) 1 1] 54 (0, 0)) * (Go.Proofs.Ytanjiecefioffaa.blk (w4.heap.size + 1) (dmO [.int .i64 kk, .int .i64 nn, .bool ng, .slice am ml cm, .string tx, .slice ai il ci, .slice ar rl cr]) * (isHeap V S * (isSt X V.g Y * (own 54 7 (.slice av k cv) k css.flatten * (Go.Proofs.Ytanjiecefioffaa.blk gl (.cells #[.int .i64 l2] 3 (0, 0)) * (M' * (M * R))))))))) := hs9.perm (by ac_rfl)
        have hrest : DKs (Go.Proofs.Ytanjiecefioffaa.blk (w4.heap.size + 1) (dmO [.int .i64 kk, .int .i64 nn, .bool ng, .slice am ml cm, .string tx, .slice ai il ci, .slice ar rl cr]) * (M' * (own 54 7 (.slice av k cv) k css.flatten * M))) [d'] (some ⟨w4.heap.size + 1, 0, none⟩) 0 := by
          refine DKs.of_row [d'] [[.int .i64 kk, .int .i64 nn, .bool ng, .slice am ml cm, .string tx, .slice ai il ci, .slice ar rl cr]] 0 rfl ?_ ?_
          · intro i d cs hd hc
            cases List.mem_singleton.1 (List.mem_of_getElem? hd)
            cases List.mem_singleton.1 (List.mem_of_getElem? hc)
            exact hdk'.mono (fun w h => h.right.left)
          · intro w hw i cs hc j v hv
            have hi := (List.getElem?_eq_some_iff.1 hc).1
            obtain rfl : i = 0 := by simp at hi; omega
            simp at hc
            subst hc
            rw [show 0 + (0 + 0) * 7 + j = j by omega, hw.left.cell j, List.getElem?_toArray]
            exact hv
        have hpost : ∀ w9, sat w9 (Go.Proofs.Ytanjiecefioffaa.blk w.heap.size (dmO [.int .i64 6, .int .i64 0, .bool false, .slice none 0 0, .string ⟨#[]⟩, .slice av k cv, .slice (some ⟨w4.heap.size + 1, 0, none⟩) 1 1]) * (Go.Proofs.Ytanjiecefioffaa.blk (w.heap.size + 1) (.cells #[.int .i64 6, .int .i64 0, .bool false, .slice none 0 0, .string ⟨#[]⟩, .slice av k cv, .slice (some ⟨w4.heap.size + 1, 0, none⟩) 1 1] 54 (0, 0)) * (Go.Proofs.Ytanjiecefioffaa.blk (w4.heap.size + 1) (dmO [.int .i64 kk, .int .i64 nn, .bool ng, .slice am ml cm, .string tx, .slice ai il ci, .slice ar rl cr]) * (isHeap V S * (isSt X V.g Y * (own 54 7 (.slice av k cv) k css.flatten * (Go.Proofs.Ytanjiecefioffaa.blk gl (.cells #[.int .i64 l2] 3 (0, 0)) * (M' * (M * R))))))))) → Below 0 w w9 → TakeR gl X V S Y R (.mk 6 0 false [] ⟨#[]⟩ items [d]) (left + 1) deep w (.returned (.tuple #[.agg #[.int .i64 6, .int .i64 0, .bool false, .slice none 0 0, .string ⟨#[]⟩, .slice av k cv, .slice (some ⟨w4.heap.size + 1, 0, none⟩) 1 1], .bool b])) w9 := by
          intro w9 h9 hb9
          unfold TakeR
          rw [e9]
          refine ⟨[.int .i64 6, .int .i64 0, .bool false, .slice none 0 0, .string ⟨#[]⟩, .slice av k cv, .slice (some ⟨w4.heap.size + 1, 0, none⟩) 1 1], Go.Proofs.Ytanjiecefioffaa.blk (w4.heap.size + 1) (dmO [.int .i64 kk, .int .i64 nn, .bool ng, .slice am ml cm, .string tx, .slice ai il ci, .slice ar rl cr]) * (M' * (own 54 7 (.slice av k cv) k css.flatten * M)), .mk 6 0 false [] ⟨#[]⟩ items [d'], rfl, ?_, fun hh => by rw [hok' hh], ⟨h9.right.right.perm (by ac_rfl), h6.ok⟩, hb9⟩
          obtain ⟨hcv, hrow, hke, _⟩ := HF.out.2.2.2.2.2.2
          have hrow2 := hrow.mono (Q := Go.Proofs.Ytanjiecefioffaa.blk (w4.heap.size + 1) (dmO [.int .i64 kk, .int .i64 nn, .bool ng, .slice am ml cm, .string tx, .slice ai il ci, .slice ar rl cr]) * (M' * (own 54 7 (.slice av k cv) k css.flatten * M))) (fun w h => h.right.right)
          have hgo : ∀ n : Nat, n = items.length → n ≤ cv → DK (Go.Proofs.Ytanjiecefioffaa.blk (w4.heap.size + 1) (dmO [.int .i64 kk, .int .i64 nn, .bool ng, .slice am ml cm, .string tx, .slice ai il ci, .slice ar rl cr]) * (M' * (own 54 7 (.slice av k cv) k css.flatten * M))) (.mk 6 0 false [] ⟨#[]⟩ items [d']) [.int .i64 6, .int .i64 0, .bool false, .slice none 0 0, .string ⟨#[]⟩, .slice av n cv, .slice (some ⟨w4.heap.size + 1, 0, none⟩) 1 1] := by
            intro n hn hc
            subst hn
            exact DK.mk (mag := []) (am := none) (cm := 0) ⟨by decide, by decide⟩ (fun w _ j x h => by simp at h) (fun x h => by simp at h) ⟨Nat.le_refl _, hc, Nat.le_refl _⟩ hrow2 hrest
          exact hgo k hke hcv
        have c0 := (hso.left.cell 0).trans rfl
        have f0 := hso.left.frozen 0
        have c1 := (hso.left.cell 1).trans rfl
        have f1 := hso.left.frozen 1
        have c2 := (hso.left.cell 2).trans rfl
        have f2 := hso.left.frozen 2
        have c3 := (hso.left.cell 3).trans rfl
        have f3 := hso.left.frozen 3
        have c4 := (hso.left.cell 4).trans rfl
        have f4 := hso.left.frozen 4
        have c5 := (hso.left.cell 5).trans rfl
        have f5 := hso.left.frozen 5
        have c6 := (hso.left.cell 6).trans rfl
        have f6 := hso.left.frozen 6
        have d0 := (hs9.left.cell 0).trans (show _ = some (Value.int .i64 6) from rfl)
        have d1 := (hs9.left.cell 1).trans (show _ = some (Value.int .i64 0) from rfl)
        have d2 := (hs9.left.cell 2).trans (show _ = some (Value.bool false) from rfl)
        have d3 := (hs9.left.cell 3).trans (show _ = some (Value.slice none 0 0) from rfl)
        have d4 := (hs9.left.cell 4).trans (show _ = some (Value.string ⟨#[]⟩) from rfl)
        have d5 := (hs9.left.cell 5).trans (show _ = some (Value.slice av k cv) from rfl)
        have d6 := (hs9.left.cell 6).trans (show _ = some (Value.slice (some ⟨w4.heap.size + 1, 0, none⟩) 1 1) from rfl)
        have HS := Lib.hid (And.intro hso (And.intro hb9 hpost))
        clear hso hpost hs8 hs9 hb9 hb6 h6 h5 hb5 hdk' hok' hbq hl2 htd e9 hT hrest
        go_wp2_with fail
        generalize w4.heap.size + 1 = gr at *
        have hs10 := (((((((HS.out.1.setCell (off := 0) (.int .i64 6)).setCell (off := 1) (.int .i64 0)).setCell (off := 2) (.bool false)).setCell (off := 3) (.slice none 0 0)).setCell (off := 4) (.string ⟨#[]⟩)).setCell (off := 5) (.slice av k cv)).setCell (off := 6) (.slice (some ⟨gr, 0, none⟩) 1 1))
        have hb10 := (((((((HS.out.2.1.setCell (p := ⟨w.heap.size, 0, none⟩) (Nat.zero_le _) (.int .i64 6)).setCell (p := ⟨w.heap.size, 1, none⟩) (Nat.zero_le _) (.int .i64 0)).setCell (p := ⟨w.heap.size, 2, none⟩) (Nat.zero_le _) (.bool false)).setCell (p := ⟨w.heap.size, 3, none⟩) (Nat.zero_le _) (.slice none 0 0)).setCell (p := ⟨w.heap.size, 4, none⟩) (Nat.zero_le _) (.string ⟨#[]⟩)).setCell (p := ⟨w.heap.size, 5, none⟩) (Nat.zero_le _) (.slice av k cv)).setCell (p := ⟨w.heap.size, 6, none⟩) (Nat.zero_le _) (.slice (some ⟨gr, 0, none⟩) 1 1))
        clear c0 f0 c1 f1 c2 f2 c3 f3 c4 f4 c5 f5 c6 f6 d0 d1 d2 d3 d4 d5 d6 y6 y6c
        generalize ((((((((((w4.alloc (dmO [.int .i64 kk, .int .i64 nn, .bool ng, .slice am ml cm, .string tx, .slice ai il ci, .slice ar rl cr])).alloc (dmO [.int .i64 kk, .int .i64 nn, .bool ng, .slice am ml cm, .string tx, .slice ai il ci, .slice ar rl cr])).setCell ⟨w.heap.size + 1, 6, none⟩ (.slice (some ⟨gr, 0, none⟩) 1 1)).setCell ⟨w.heap.size, 0, none⟩ (.int .i64 6)).setCell ⟨w.heap.size, 1, none⟩ (.int .i64 0)).setCell ⟨w.heap.size, 2, none⟩ (.bool false)).setCell ⟨w.heap.size, 3, none⟩ (.slice none 0 0)).setCell ⟨w.heap.size, 4, none⟩ (.string ⟨#[]⟩)).setCell ⟨w.heap.size, 5, none⟩ (.slice av k cv)).setCell ⟨w.heap.size, 6, none⟩ (.slice (some ⟨gr, 0, none⟩) 1 1)) = w10 at *
        obtain ⟨r0, r1, r2, r3, r4, r5, r6⟩ := cells7 hs10
        rw [arr7] at hs10
        exact bodyPost_ret (v := .tuple #[.agg #[.int .i64 6, .int .i64 0, .bool false, .slice none 0 0, .string ⟨#[]⟩, .slice av k cv, .slice (some ⟨gr, 0, none⟩) 1 1], .bool b]) (by simp [results, Try.results85, go_sem, r0, r1, r2, r3, r4, r5, r6]) rfl (HS.out.2.2 _ hs10 hb10)
end
end Go.Proofs.Ytanjiecefioffaa

/- value.Store.take of whatever vector. -/
namespace Go.Proofs.Ytanjiecefioffaa
open Go.RowKit
theorem HRow.get {S : HS} : ∀ {l : List Dm} {i : Nat}, HRow S l i → ∀ (k : Nat) d, l[k]? = some d → HIn S d (S.ws.getD (i + k) 0)
  | [], _, _, k, d, h => by simp at h
  | e :: l, i, h, 0, d, hd => by
    unfold HRow at h
    simp at hd
    subst hd
    exact h.1
  | e :: l, i, h, k + 1, d, hd => by
    unfold HRow at h
    have := HRow.get h.2 k d (by simpa using hd)
    rw [show i + 1 + k = i + (k + 1) by omega] at this
    exact this
/-- A vector's word, as take asks for it. -/
theorem vec_told {S : HS} {x : Int} {items : List Dm} (x0 : 0 ≤ x) (hn : items.length ≤ 1048576) (hh : S.head x = headerOf 2 items.length 0) (hr : HRow S items ((x / 4).toNat + 1)) :
    S.shape x 2 (-1) 0 = true ∧ S.tag x = items.length ∧ ∀ (k : Nat) d, items[k]? = some d → HIn S d (S.getAt x k) := by
  obtain ⟨g1, g2, g3⟩ := vec_head items.length hn
  have et : S.tag x = items.length := by unfold HS.tag; rw [hh]; exact g1
  have er : S.raw x = 0 := by unfold HS.raw; rw [hh]; exact g2
  have ek : S.kind x = 2 := by unfold HS.kind; rw [hh]; exact g3
  refine ⟨?_, et, ?_⟩
  · unfold HS.shape
    rw [er, ek]; simp
  · intro k d hd
    have hk := (List.getElem?_eq_some_iff.1 hd).1
    unfold HS.getAt HS.get
    rw [if_pos (by rw [et]; omega)]
    simp only
    rw [show fieldAt x 0 (k : Int) = (x / 4).toNat + 1 + k by unfold fieldAt; omega]
    exact hr.get k d hd
/-- So many items of a vector are taken. -/
def VsRel (W : World) (X : StV) (V : HV) (S : HS) (Y : StS) (R : HP) (gl gz g18 : Nat) (items : List Dm) (left deep : Int) (i : Value) (wr : World) : Prop :=
  ∃ (k : Nat) (left' : Int) (css : List (List Value)) (v : Value) (M : HP), i = .int .i64 k ∧ k ≤ items.length ∧ ((0 ≤ left' ∧ left' ≤ 20000) ∧ takeL (items.take k) left deep = (left', true)) ∧
    (css.length = k ∧ (∀ cs ∈ css, cs.length = 7) ∧ ∀ (i : Nat) d cs, (items.take k)[i]? = some d → css[i]? = some cs → DK M d cs) ∧
    StW wr X V S Y (Go.Proofs.Ytanjiecefioffaa.blk gz (.cells #[.int .i64 0, .int .i64 0, .bool false, .slice none 0 0, .string ⟨#[]⟩, .slice none 0 0, .slice none 0 0] 54 (0, 0)) * (Go.Proofs.Ytanjiecefioffaa.blk g18 (vecB v) * (own 54 7 v k css.flatten * (Go.Proofs.Ytanjiecefioffaa.blk gl (.cells #[.int .i64 left'] 3 (0, 0)) * (M * R))))) ∧ Below 0 W wr
section
variable {w : World} {X : StV} {V : HV} {S : HS} {Y : StS} {R : HP}
set_option maxRecDepth 100000 in
set_option maxHeartbeats 4000000 in
theorem takes_vec (gl L N : Nat) (deep x : Int) (items : List Dm) (hL : L < 20000) (hd : 0 < deep ∧ deep ≤ 100) (h : StW w X V S Y (Go.Proofs.Ytanjiecefioffaa.blk gl (.cells #[.int .i64 ((L : Int) + 1)] 3 (0, 0)) * R)) (x0 : 0 ≤ x ∧ x < 18446744073709551616)
    (hv : S.shape x 2 (-1) 0 = true) (ht : S.tag x = N) (hc : ∀ (k : Nat) d, items[k]? = some d → HIn S d (S.getAt x k)) (hN : items.length = N ∧ N ≤ 1048576) (hP : ∀ d ∈ items, TakesAt d (deep - 1)) :
    Calls Try.prog 60 #[.pointer (some ⟨X.g, 0, none⟩), .int .u64 x, .pointer (some ⟨gl, 0, none⟩), .int .i64 deep] w (TakeR gl X V S Y R (.mk 7 0 false [] ⟨#[]⟩ items []) ((L : Int) + 1) deep w) := by
  obtain ⟨i0, hi, hz0, hz1, hz2⟩ := info_parts info_datum
  have H1 := Lib.hid (And.intro hi (And.intro hz0 (And.intro hz1 hz2)))
  clear hi hz0 hz1 hz2
  obtain ⟨nx, ox, mx, x4, sx, sp⟩ := vec_word hv
  have bx := x0
  have hs : sat w (Go.Proofs.Ytanjiecefioffaa.blk gl (.cells #[.int .i64 ((L : Int) + 1)] 3 (0, 0)) * (isHeap V S * (isSt X V.g Y * R))) := h.s.perm (by ac_rfl)
  have cA : ∀ o, (w.alloc o).cell? ⟨gl, 0, none⟩ = some (.int .i64 ((L : Int) + 1)) := fun o => ((hs.alloc o).right.left.cell 0).trans rfl
  have fA : ∀ o, (w.alloc o).frozen? ⟨gl, 0, none⟩ = false := fun o => (hs.alloc o).right.left.frozen 0
  obtain ⟨Z, hZ⟩ : ∃ Z : Obj, Z = .cells #[.int .i64 0, .int .i64 0, .bool false, .slice none 0 0, .string ⟨#[]⟩, .slice none 0 0, .slice none 0 0] 54 := ⟨_, rfl⟩
  have hs2 : sat ((w.alloc Z).setCell ⟨gl, 0, none⟩ (.int .i64 L)) (Go.Proofs.Ytanjiecefioffaa.blk gl (.cells #[.int .i64 L] 3 (0, 0)) * (Go.Proofs.Ytanjiecefioffaa.blk w.heap.size Z * (isHeap V S * (isSt X V.g Y * R)))) :=
    (show sat (w.alloc Z) (Go.Proofs.Ytanjiecefioffaa.blk gl (.cells #[.int .i64 ((L : Int) + 1)] 3 (0, 0)) * (Go.Proofs.Ytanjiecefioffaa.blk w.heap.size Z * (isHeap V S * (isSt X V.g Y * R)))) from (hs.alloc Z).perm (by ac_rfl)).setCell (off := 0) (.int .i64 L)
  have h2 : StW ((w.alloc Z).setCell ⟨gl, 0, none⟩ (.int .i64 L)) X V S Y (Go.Proofs.Ytanjiecefioffaa.blk w.heap.size Z * (Go.Proofs.Ytanjiecefioffaa.blk gl (.cells #[.int .i64 L] 3 (0, 0)) * R)) := ⟨hs2.perm (by ac_rfl), h.ok⟩
  have hb2 : Below 0 w ((w.alloc Z).setCell ⟨gl, 0, none⟩ (.int .i64 L)) := (Below.zero_alloc w Z).setCell (p := ⟨gl, 0, none⟩) (Nat.zero_le _) _
  clear hs2
  rw [hZ] at h2 hb2
  clear hZ
  have g0 : ((L : Int) + 1 - 1) = (L : Int) := by omega
  have g1b : IntKind.i64.wrap (L : Int) = (L : Int) := IntWalk.i64_in _ (by omega)
  have g2 : decide ((L : Int) + 1 ≤ 0) = false := by rw [decide_eq_false_iff_not]; omega
  have g3 : (deep == 0) = false := by simp; omega
  have HX := Lib.hid (And.intro h2 (And.intro hb2 (And.intro nx (And.intro ox (And.intro mx (And.intro sx sp))))))
  have HC := Lib.hid (And.intro hc (And.intro hv ht))
  have HN := Lib.hid (And.intro hN hP)
  have m1 : bits .and .u64 x 255 = x % 256 := u64_mask 8 x bx.1 bx.2 (by decide)
  have q1 : (x == 2) = false := by rw [beq_eq_false_iff_ne]; omega
  have q2 : (x == 6) = false := by rw [beq_eq_false_iff_ne]; omega
  have q3 : (x == 10) = false := by rw [beq_eq_false_iff_ne]; omega
  have q4 : (x % 256 == 22) = false := by rw [beq_eq_false_iff_ne]; omega
  have q5 : (x % 256 == 26) = false := by rw [beq_eq_false_iff_ne]; omega
  have q6 : ¬ (x = 2) := by omega
  have q7 : ¬ (x = 6) := by omega
  have q8 : ¬ (x = 10) := by omega
  clear h h2 hs hb2 nx ox mx sx sp hc hv ht x4 hN hP
  go_enter Try.func60, Try.ntmps60
  go_wp2_with fail
  have hN := HX.out.1.Num x bx.1 bx.2
  rw [HX.out.2.2.1] at hN
  clear cA fA
  generalize hw2 : (w.alloc (.cells #[.int .i64 0, .int .i64 0, .bool false, .slice none 0 0, .string ⟨#[]⟩, .slice none 0 0, .slice none 0 0] 54)).setCell ⟨gl, 0, none⟩ (.int .i64 L) = w2 at *
  with_reducible refine hN.mono ?_
  rintro e w3 ⟨ao, ac, rfl, hac, h3, hb3⟩
  simp only [Option.getD_none, Option.isSome_none] at h3 ⊢
  obtain ⟨P, hP⟩ : ∃ P, decide ((0 : Int) < 0) = P := ⟨_, rfl⟩
  rw [hP]
  generalize (limbsOf (0 : Int).natAbs).length = nl at *
  have hp := (h3.push (.cells #[.bool P, .slice ao nl ac] 51))
  have hpp : StW (w3.alloc (.cells #[.bool P, .slice ao nl ac] 51)) X V S Y (Go.Proofs.Ytanjiecefioffaa.blk w.heap.size (.cells #[.int .i64 0, .int .i64 0, .bool false, .slice none 0 0, .string ⟨#[]⟩, .slice none 0 0, .slice none 0 0] 54 (0, 0)) * (Go.Proofs.Ytanjiecefioffaa.blk gl (.cells #[.int .i64 L] 3 (0, 0)) * R)) := hp.drop.drop
  have hB := hpp.Bytes x bx.1 bx.2
  unfold BytesPost at hB
  rw [HX.out.2.2.2.1] at hB
  have HB := Lib.hid ((HX.out.2.1.trans hb3).trans (Below.zero_alloc w3 (.cells #[.bool P, .slice ao nl ac] 51)))
  clear hN h3 hb3 hp hac hpp
  go_wp2_with fail
  with_reducible refine hB.mono ?_
  rintro e w4 ⟨v, rfl, h4, hb4⟩
  have h4d := h4.drop
  have hNm := h4d.Name x bx.1 bx.2
  unfold NamePost at hNm
  rw [HX.out.2.2.2.2.1] at hNm
  have HB4 := Lib.hid (HB.out.trans hb4)
  clear hB h4 h4d hb4
  go_wp2_with fail
  with_reducible refine hNm.mono ?_
  rintro e w5 ⟨rfl, h5, hb5⟩
  generalize S.name x = nm at *
  have hS1 := h5.shape x 6 (-1) 1 bx.1 bx.2
  have hS2 := fun j : Nat => (h5.drewN j).shape x 1 2 0 bx.1 bx.2
  have hS3 := fun j : Nat => (h5.drewN j).shape x 2 (-1) 0 bx.1 bx.2
  rw [HX.out.2.2.2.2.2.1] at hS1
  rw [HX.out.2.2.2.2.2.2] at hS2
  rw [HC.out.2.1] at hS3
  have HX5 := Lib.hid (And.intro h5 (HB4.out.trans hb5))
  clear hNm h5 hb5
  go_wp2_with fail
  with_reducible refine hS1.mono ?_
  rintro e w' ⟨rfl, j1, rfl⟩
  go_wp2_with fail
  with_reducible refine (hS2 j1).mono ?_
  rintro e w' ⟨rfl, j2, rfl⟩
  go_wp2_with fail
  with_reducible refine (hS3 (j1 + j2)).mono ?_
  rintro e w' ⟨rfl, j3, rfl⟩
  have h6 := (HX5.out.1.drewN (j1 + j2)).drewN j3
  have hb6 := (HX5.out.2.trans (drewN_below0 w5 (j1 + j2))).trans (drewN_below0 _ j3)
  generalize (w5.drewN (j1 + j2)).drewN j3 = w6 at *
  clear hS1 hS2 hS3
  have h7 := h6.push (.cells #[.int .i64 7, .int .i64 0, .bool false, .slice none 0 0, .string ⟨#[]⟩, .slice none 0 0, .slice none 0 0] 54)
  have hb7 := hb6.trans (Below.zero_alloc w6 (.cells #[.int .i64 7, .int .i64 0, .bool false, .slice none 0 0, .string ⟨#[]⟩, .slice none 0 0, .slice none 0 0] 54))
  obtain ⟨g18, hg18⟩ : ∃ g, w6.heap.size = g := ⟨_, rfl⟩
  have hTg := h7.hw.v.Tagged x bx.1 bx.2
  rw [HC.out.2.2] at hTg
  have c0 := h7.c0
  have HX7 := Lib.hid (And.intro h7 hb7)
  clear h6 hb6 h7 hb7
  go_wp2_with fail
  refine hTg.mono ?_
  rintro e w' ⟨rfl, j4, rfl⟩
  have h8 := HX7.out.1.drewN j4
  have hb8 := HX7.out.2.trans (drewN_below0 _ j4)
  rw [hg18] at h8
  have HG := Lib.hid hg18
  generalize (w6.alloc (.cells #[.int .i64 7, .int .i64 0, .bool false, .slice none 0 0, .string ⟨#[]⟩, .slice none 0 0, .slice none 0 0] 54)).drewN j4 = w8 at *
  have HX8 := Lib.hid (And.intro h8 hb8)
  clear hTg c0 h8 hb8 hg18
  go_wp2_with fail
  go_loopw [140] (VsRel w X V S Y R gl w.heap.size g18 items L (deep - 1)) (fun i _ => N - (intOf i).toNat)
  case atStart =>
    refine ⟨0, L, [], .slice none 0 0, emp, rfl, Nat.zero_le _, ⟨⟨by omega, by omega⟩, by rw [List.take_zero]; unfold takeL; rfl⟩, ⟨rfl, fun cs h => by simp at h, fun i d cs h => by simp at h⟩, ⟨?_, HX8.out.1.ok⟩, HX8.out.2⟩
    have := HX8.out.1.s.nil_own (e := 54) (sz := 7)
    refine this.perm ?_
    rw [HP.emp_mul, List.flatten_nil]
    unfold vecB
    ac_rfl
  case round =>
    clear HX8
    obtain ⟨k, left', css, v, M, rfl, hkN, ⟨hl', htl⟩, ⟨hcl, h7, hdk⟩, hs, hb⟩ := hrel
    have c0 := hs.c0
    by_cases hlt : k < items.length
    · have hNN := HN.out.1
      have hkn : k < N := by omega
      have b3 : decide ((k : Int) < (N : Int)) = true := by simp; omega
      have hdrop : items.drop k = items[k] :: items.drop (k + 1) := List.drop_eq_getElem_cons hlt
      have hget : items[k]? = some items[k] := List.getElem?_eq_getElem hlt
      have hmem : items[k] ∈ items := List.getElem_mem hlt
      have hin := HC.out.1 k _ hget
      generalize items[k] = d at *
      have hG0 := hs.Get x k bx.1 bx.2
      generalize S.getAt x k = y0 at *
      generalize decide ((0 : Int) ≤ (k : Int) ∧ (k : Int) < S.tag x) = q0 at *
      have HF := Lib.hid (And.intro hs (And.intro hb (And.intro (And.intro hl' htl) (And.intro hcl (And.intro h7 (And.intro hdk (And.intro hNN hlt)))))))
      have HM := Lib.hid (And.intro hmem (And.intro hdrop hin))
      clear hs hb hl' htl hcl h7 hdk hmem hdrop hin hget hNN hkN hlt
      go_wp2_with fail
      refine hG0.mono ?_
      rintro e w' ⟨rfl, j2, rfl⟩
      have h3 := HF.out.1.drewN j2
      have hb3 := HF.out.2.1.trans (drewN_below0 wr j2)
      generalize wr.drewN j2 = w3' at *
      clear hG0 c0
      have g1 : IntKind.i64.wrap (deep - 1) = deep - 1 := IntWalk.i64_in _ (by omega)
      have h4 : StW w3' X V S Y (Go.Proofs.Ytanjiecefioffaa.blk gl (.cells #[.int .i64 left'] 3 (0, 0)) * (Go.Proofs.Ytanjiecefioffaa.blk w.heap.size (.cells #[.int .i64 0, .int .i64 0, .bool false, .slice none 0 0, .string ⟨#[]⟩, .slice none 0 0, .slice none 0 0] 54 (0, 0)) * (Go.Proofs.Ytanjiecefioffaa.blk g18 (vecB v) * (own 54 7 v k css.flatten * (M * R))))) := ⟨h3.s.perm (by ac_rfl), h3.ok⟩
      have hT := HN.out.2 d HM.out.1 w3' X V S Y _ gl left' y0 HF.out.2.2.1.1 h4 HM.out.2.2
      have HB := Lib.hid hb3
      clear h3 h4 hb3
      go_wp2_with fail
      with_reducible refine hT.mono ?_
      rintro e w4 ⟨cs, M', d', rfl, hdk', hok', h5, hb5⟩
      obtain ⟨b, hbq⟩ : ∃ b, (takeD d left' (deep - 1)).2 = b := ⟨_, rfl⟩
      obtain ⟨l2, hl2⟩ : ∃ l2, (takeD d left' (deep - 1)).1 = l2 := ⟨_, rfl⟩
      have htd : takeD d left' (deep - 1) = (l2, b) := Prod.ext hl2 hbq
      have hle2 := takeD_le d left' (deep - 1)
      have hpo2 := takeD_pos d left' (deep - 1) HF.out.2.2.1.1.1
      have hlt2 : b = true → l2 < left' := fun hh => by have := takeD_lt (d := d) (left := left') (deep := deep - 1) (hbq.trans hh); rw [hl2] at this; exact this
      rw [hl2] at h5 hle2 hpo2
      rw [hbq] at hok' ⊢
      obtain ⟨kk, nn, ng, am, ml, cm, tx, ai, il, ci, ar, rl, cr, rfl⟩ := hdk'.cells
      have h6 := h5.push (dmO [.int .i64 kk, .int .i64 nn, .bool ng, .slice am ml cm, .string tx, .slice ai il ci, .slice ar rl cr])
      have hb6 := (HB.out.trans hb5).trans (Below.zero_alloc w4 (dmO [.int .i64 kk, .int .i64 nn, .bool ng, .slice am ml cm, .string tx, .slice ai il ci, .slice ar rl cr]))
      obtain ⟨av, cv, rfl⟩ := own_val (show sat w4 (own 54 7 v k css.flatten * (isHeap V S * (isSt X V.g Y * (Go.Proofs.Ytanjiecefioffaa.blk gl (.cells #[.int .i64 l2] 3 (0, 0)) * (M' * (Go.Proofs.Ytanjiecefioffaa.blk w.heap.size (.cells #[.int .i64 0, .int .i64 0, .bool false, .slice none 0 0, .string ⟨#[]⟩, .slice none 0 0, .slice none 0 0] 54 (0, 0)) * (Go.Proofs.Ytanjiecefioffaa.blk g18 (vecB v) * (M * R)))))))) from h5.s.perm (by ac_rfl))
      cases b
      case false =>
        have hstop := takeL_stop HM.out.2.1 HF.out.2.2.1.2 htd
        have hpost : ∀ w9, sat w9 (Go.Proofs.Ytanjiecefioffaa.blk w.heap.size (.cells #[.int .i64 0, .int .i64 0, .bool false, .slice none 0 0, .string ⟨#[]⟩, .slice none 0 0, .slice none 0 0] 54 (0, 0)) * (isHeap V S * (isSt X V.g Y * (Go.Proofs.Ytanjiecefioffaa.blk gl (.cells #[.int .i64 l2] 3 (0, 0)) * R)))) → Below 0 w w9 → TakeR gl X V S Y R (.mk 7 0 false [] ⟨#[]⟩ items []) ((L : Int) + 1) deep w (.returned (.tuple #[zeroD, .bool false])) w9 := by
          intro w9 h9 hb9
          have e9 : takeD (.mk 7 0 false [] ⟨#[]⟩ items []) ((L : Int) + 1) deep = (l2, false) := by
            unfold takeD
            rw [if_neg (by omega), show (L : Int) + 1 - 1 = L by omega, hstop]
          unfold TakeR
          rw [e9]
          have hs : sat w9 (own 70 1 (.slice none 0 0) 0 [] * (Go.Proofs.Ytanjiecefioffaa.blk w.heap.size (.cells #[.int .i64 0, .int .i64 0, .bool false, .slice none 0 0, .string ⟨#[]⟩, .slice none 0 0, .slice none 0 0] 54 (0, 0)) * (isHeap V S * (isSt X V.g Y * (Go.Proofs.Ytanjiecefioffaa.blk gl (.cells #[.int .i64 l2] 3 (0, 0)) * R))))) := h9.nil_own
          have hs2 : sat w9 (Go.Proofs.Ytanjiecefioffaa.blk w.heap.size (.cells #[.int .i64 0, .int .i64 0, .bool false, .slice none 0 0, .string ⟨#[]⟩, .slice none 0 0, .slice none 0 0] 54 (0, 0)) * (isHeap V S * (isSt X V.g Y * (Go.Proofs.Ytanjiecefioffaa.blk gl (.cells #[.int .i64 l2] 3 (0, 0)) * (own 70 1 (.slice none 0 0) 0 [] * R))))) := hs.perm (by ac_rfl)
          exact ⟨_, own 70 1 (.slice none 0 0) 0 [], _, rfl, leaf_DK 0 0 ⟨#[]⟩ (by decide) (by decide) _, fun h => (by cases h), ⟨hs2.right.perm (by ac_rfl), h6.ok⟩, hb9⟩
        have hso : sat (w4.alloc (dmO [.int .i64 kk, .int .i64 nn, .bool ng, .slice am ml cm, .string tx, .slice ai il ci, .slice ar rl cr])) (Go.Proofs.Ytanjiecefioffaa.blk w.heap.size (.cells #[.int .i64 0, .int .i64 0, .bool false, .slice none 0 0, .string ⟨#[]⟩, .slice none 0 0, .slice none 0 0] 54 (0, 0)) * (isHeap V S * (isSt X V.g Y * (Go.Proofs.Ytanjiecefioffaa.blk gl (.cells #[.int .i64 l2] 3 (0, 0)) * R)))) := (h6.s.perm (show _ = (Go.Proofs.Ytanjiecefioffaa.blk w4.heap.size (dmO [.int .i64 kk, .int .i64 nn, .bool ng, .slice am ml cm, .string tx, .slice ai il ci, .slice ar rl cr]) * (Go.Proofs.Ytanjiecefioffaa.blk g18 (vecB (.slice av k cv)) * (own 54 7 (.slice av k cv) k css.flatten * (M' * M)))) * (Go.Proofs.Ytanjiecefioffaa.blk w.heap.size (.cells #[.int .i64 0, .int .i64 0, .bool false, .slice none 0 0, .string ⟨#[]⟩, .slice none 0 0, .slice none 0 0] 54 (0, 0)) * (isHeap V S * (isSt X V.g Y * (Go.Proofs.Ytanjiecefioffaa.blk gl (.cells #[.int .i64 l2] 3 (0, 0)) * R)))) by ac_rfl)).right
        have c0 := (hso.left.cell 0).trans rfl
        have f0 := hso.left.frozen 0
        have c1 := (hso.left.cell 1).trans rfl
        have f1 := hso.left.frozen 1
        have c2 := (hso.left.cell 2).trans rfl
        have f2 := hso.left.frozen 2
        have c3 := (hso.left.cell 3).trans rfl
        have f3 := hso.left.frozen 3
        have c4 := (hso.left.cell 4).trans rfl
        have f4 := hso.left.frozen 4
        have c5 := (hso.left.cell 5).trans rfl
        have f5 := hso.left.frozen 5
        have c6 := (hso.left.cell 6).trans rfl
        have f6 := hso.left.frozen 6
        have HS := Lib.hid (And.intro hso (And.intro hb6 hpost))
        clear hT h5 h6 hb5 hb6 hso hpost hstop hok' hdk' hbq hl2 htd hle2 hpo2 hlt2
        go_wp2_with fail
        have hs7 := (((((((HS.out.1.setCell (off := 0) (.int .i64 0)).setCell (off := 1) (.int .i64 0)).setCell (off := 2) (.bool false)).setCell (off := 3) (.slice none 0 0)).setCell (off := 4) (.string ⟨#[]⟩)).setCell (off := 5) (.slice none 0 0)).setCell (off := 6) (.slice none 0 0))
        have hb7 := (((((((HS.out.2.1.setCell (p := ⟨w.heap.size, 0, none⟩) (Nat.zero_le _) (.int .i64 0)).setCell (p := ⟨w.heap.size, 1, none⟩) (Nat.zero_le _) (.int .i64 0)).setCell (p := ⟨w.heap.size, 2, none⟩) (Nat.zero_le _) (.bool false)).setCell (p := ⟨w.heap.size, 3, none⟩) (Nat.zero_le _) (.slice none 0 0)).setCell (p := ⟨w.heap.size, 4, none⟩) (Nat.zero_le _) (.string ⟨#[]⟩)).setCell (p := ⟨w.heap.size, 5, none⟩) (Nat.zero_le _) (.slice none 0 0)).setCell (p := ⟨w.heap.size, 6, none⟩) (Nat.zero_le _) (.slice none 0 0))
        clear c0 f0 c1 f1 c2 f2 c3 f3 c4 f4 c5 f5 c6 f6
        generalize ((((((((w4.alloc (dmO [.int .i64 kk, .int .i64 nn, .bool ng, .slice am ml cm, .string tx, .slice ai il ci, .slice ar rl cr])).setCell ⟨w.heap.size, 0, none⟩ (.int .i64 0)).setCell ⟨w.heap.size, 1, none⟩ (.int .i64 0)).setCell ⟨w.heap.size, 2, none⟩ (.bool false)).setCell ⟨w.heap.size, 3, none⟩ (.slice none 0 0)).setCell ⟨w.heap.size, 4, none⟩ (.string ⟨#[]⟩)).setCell ⟨w.heap.size, 5, none⟩ (.slice none 0 0)).setCell ⟨w.heap.size, 6, none⟩ (.slice none 0 0)) = w7 at *
        obtain ⟨r0, r1, r2, r3, r4, r5, r6⟩ := cells7 hs7
        exact bodyPost_ret (v := .tuple #[zeroD, .bool false]) (by simp [results, Try.results60, go_sem, r0, r1, r2, r3, r4, r5, r6, zeroD]) rfl (HS.out.2.2 _ (by rw [arr7] at hs7; exact hs7) hb7)
      case true =>
        obtain rfl := hok' rfl
        have hnext := takeL_next HM.out.2.1 HF.out.2.2.1.2 htd
        have hso : sat (w4.alloc (dmO [.int .i64 kk, .int .i64 nn, .bool ng, .slice am ml cm, .string tx, .slice ai il ci, .slice ar rl cr])) (Go.Proofs.Ytanjiecefioffaa.blk g18 (vecB (.slice av k cv)) * (own 54 7 (.slice av k cv) k css.flatten * (Go.Proofs.Ytanjiecefioffaa.blk w4.heap.size (dmO [.int .i64 kk, .int .i64 nn, .bool ng, .slice am ml cm, .string tx, .slice ai il ci, .slice ar rl cr]) * (isHeap V S * (isSt X V.g Y * (Go.Proofs.Ytanjiecefioffaa.blk w.heap.size (.cells #[.int .i64 0, .int .i64 0, .bool false, .slice none 0 0, .string ⟨#[]⟩, .slice none 0 0, .slice none 0 0] 54 (0, 0)) * (Go.Proofs.Ytanjiecefioffaa.blk gl (.cells #[.int .i64 l2] 3 (0, 0)) * (M' * (M * R))))))))) := h6.s.perm (by ac_rfl)
        have c5 := (hso.left.cell 5).trans (show _ = some (Value.slice av k cv) from rfl)
        have c5b : ∀ o, ((w4.alloc (dmO [.int .i64 kk, .int .i64 nn, .bool ng, .slice am ml cm, .string tx, .slice ai il ci, .slice ar rl cr])).alloc o).cell? ⟨g18, 5, none⟩ = some (.slice av k cv) := fun o => ((hso.alloc o).right.left.cell 5).trans rfl
        have hs7 := hso.alloc (dmO [.int .i64 kk, .int .i64 nn, .bool ng, .slice am ml cm, .string tx, .slice ai il ci, .slice ar rl cr])
        rw [World.size_alloc] at hs7
        have hs8 : sat ((w4.alloc (dmO [.int .i64 kk, .int .i64 nn, .bool ng, .slice am ml cm, .string tx, .slice ai il ci, .slice ar rl cr])).alloc (dmO [.int .i64 kk, .int .i64 nn, .bool ng, .slice am ml cm, .string tx, .slice ai il ci, .slice ar rl cr])) (own 54 7 (.slice av k cv) k css.flatten * (Go.Proofs.Ytanjiecefioffaa.blk (w4.heap.size + 1) (dmO [.int .i64 kk, .int .i64 nn, .bool ng, .slice am ml cm, .string tx, .slice ai il ci, .slice ar rl cr]) * (Go.Proofs.Ytanjiecefioffaa.blk g18 (vecB (.slice av k cv)) * (isHeap V S * (isSt X V.g Y * (Go.Proofs.Ytanjiecefioffaa.blk w.heap.size (.cells #[.int .i64 0, .int .i64 0, .bool false, .slice none 0 0, .string ⟨#[]⟩, .slice none 0 0, .slice none 0 0] 54 (0, 0)) * (Go.Proofs.Ytanjiecefioffaa.blk gl (.cells #[.int .i64 l2] 3 (0, 0)) * (M' * (M * R))))))))) := (hs7.perm (show _ = Go.Proofs.Ytanjiecefioffaa.blk w4.heap.size (dmO [.int .i64 kk, .int .i64 nn, .bool ng, .slice am ml cm, .string tx, .slice ai il ci, .slice ar rl cr]) * (own 54 7 (.slice av k cv) k css.flatten * (Go.Proofs.Ytanjiecefioffaa.blk (w4.heap.size + 1) (dmO [.int .i64 kk, .int .i64 nn, .bool ng, .slice am ml cm, .string tx, .slice ai il ci, .slice ar rl cr]) * (Go.Proofs.Ytanjiecefioffaa.blk g18 (vecB (.slice av k cv)) * (isHeap V S * (isSt X V.g Y * (Go.Proofs.Ytanjiecefioffaa.blk w.heap.size (.cells #[.int .i64 0, .int .i64 0, .bool false, .slice none 0 0, .string ⟨#[]⟩, .slice none 0 0, .slice none 0 0] 54 (0, 0)) * (Go.Proofs.Ytanjiecefioffaa.blk gl (.cells #[.int .i64 l2] 3 (0, 0)) * (M' * (M * R))))))))) by ac_rfl)).right
        have hcl : CellsAt ((w4.alloc (dmO [.int .i64 kk, .int .i64 nn, .bool ng, .slice am ml cm, .string tx, .slice ai il ci, .slice ar rl cr])).alloc (dmO [.int .i64 kk, .int .i64 nn, .bool ng, .slice am ml cm, .string tx, .slice ai il ci, .slice ar rl cr])) (some ⟨w4.heap.size + 1, 0, none⟩) [.int .i64 kk, .int .i64 nn, .bool ng, .slice am ml cm, .string tx, .slice ai il ci, .slice ar rl cr] := by
          intro j u hj
          have ha : ((⟨w4.heap.size + 1, 0, none⟩ : Addr).add j) = ⟨w4.heap.size + 1, j, none⟩ := by unfold Addr.add; split <;> simp_all
          refine ⟨_, rfl, ?_⟩
          rw [ha, hs8.right.left.cell j, List.getElem?_toArray]
          exact hj
        have hone := hdk'.one
        have HS := Lib.hid (And.intro hs8 (And.intro h6.ok (And.intro (hb6.trans (Below.zero_alloc _ (dmO [.int .i64 kk, .int .i64 nn, .bool ng, .slice am ml cm, .string tx, .slice ai il ci, .slice ar rl cr]))) (And.intro hnext (And.intro hdk' (And.intro hcl (And.intro hone (And.intro (hlt2 rfl) (And.intro hle2 hpo2)))))))))
        clear hT h5 h6 hb5 hb6 hso hnext hok' hdk' hbq hl2 htd hle2 hpo2 hlt2 hs7 hs8 hcl hone
        go_wp2_with (at_builtin; refine halt ?_)
        refine goon ?_
        obtain ⟨hi, hz0, hz1, hz2⟩ := H1.out
        have hfl := HF.out.2.2.2.1
        have h77 := HF.out.2.2.2.2.1
        have hnn := HF.out.2.2.2.2.2.2
        refine wpList_append_opt rfl (.tmp 166) (.tmp 168) 52 rfl 54 i0 zeroD 7 112 Try.underlying52 hi hz0 hz1 hz2 rfl (by decide) (.slice av k cv) k css.flatten rfl _ (some ⟨w4.heap.size + 1, 0, none⟩) 1 1 [.int .i64 kk, .int .i64 nn, .bool ng, .slice am ml cm, .string tx, .slice ai il ci, .slice ar rl cr] rfl ?_ HS.out.1 rfl HS.out.2.2.2.2.2.1 HS.out.2.2.2.2.2.2.1 (by omega) (by unfold maxLen; omega)
        clear hi hz0 hz1 hz2 c5 c5b hfl h77 hnn
        intro v0 w9 hs9 hb9
        obtain ⟨av2, cv2, rfl⟩ := own_val hs9
        obtain ⟨v', hv'⟩ : ∃ v', Value.slice av2 (k + 1) cv2 = v' := ⟨_, rfl⟩
        rw [hv'] at hs9
        have hs10 := (show sat w9 (Go.Proofs.Ytanjiecefioffaa.blk g18 (vecB (.slice av k cv)) * (own 54 7 v' (k + 1) (css.flatten ++ [.int .i64 kk, .int .i64 nn, .bool ng, .slice am ml cm, .string tx, .slice ai il ci, .slice ar rl cr]) * (isHeap V S * (isSt X V.g Y * (Go.Proofs.Ytanjiecefioffaa.blk w.heap.size (.cells #[.int .i64 0, .int .i64 0, .bool false, .slice none 0 0, .string ⟨#[]⟩, .slice none 0 0, .slice none 0 0] 54 (0, 0)) * (Go.Proofs.Ytanjiecefioffaa.blk gl (.cells #[.int .i64 l2] 3 (0, 0)) * (M' * (M * R)))))))) from (hs9.perm (show _ = Go.Proofs.Ytanjiecefioffaa.blk (w4.heap.size + 1) (dmO [.int .i64 kk, .int .i64 nn, .bool ng, .slice am ml cm, .string tx, .slice ai il ci, .slice ar rl cr]) * (Go.Proofs.Ytanjiecefioffaa.blk g18 (vecB (.slice av k cv)) * (own 54 7 v' (k + 1) (css.flatten ++ [.int .i64 kk, .int .i64 nn, .bool ng, .slice am ml cm, .string tx, .slice ai il ci, .slice ar rl cr]) * (isHeap V S * (isSt X V.g Y * (Go.Proofs.Ytanjiecefioffaa.blk w.heap.size (.cells #[.int .i64 0, .int .i64 0, .bool false, .slice none 0 0, .string ⟨#[]⟩, .slice none 0 0, .slice none 0 0] 54 (0, 0)) * (Go.Proofs.Ytanjiecefioffaa.blk gl (.cells #[.int .i64 l2] 3 (0, 0)) * (M' * (M * R)))))))) by ac_rfl)).right)
        have c5 := (hs10.left.cell 5).trans (show _ = some (Value.slice av k cv) from rfl)
        have f5 := hs10.left.frozen 5
        have hs11 : sat (w9.setCell ⟨g18, 5, none⟩ v') (Go.Proofs.Ytanjiecefioffaa.blk g18 (vecB v') * (own 54 7 v' (k + 1) (css.flatten ++ [.int .i64 kk, .int .i64 nn, .bool ng, .slice am ml cm, .string tx, .slice ai il ci, .slice ar rl cr]) * (isHeap V S * (isSt X V.g Y * (Go.Proofs.Ytanjiecefioffaa.blk w.heap.size (.cells #[.int .i64 0, .int .i64 0, .bool false, .slice none 0 0, .string ⟨#[]⟩, .slice none 0 0, .slice none 0 0] 54 (0, 0)) * (Go.Proofs.Ytanjiecefioffaa.blk gl (.cells #[.int .i64 l2] 3 (0, 0)) * (M' * (M * R)))))))) := hs10.setCell (off := 5) v'
        have hb11 := ((HS.out.2.2.1.trans hb9)).setCell (p := ⟨g18, 5, none⟩) (Nat.zero_le _) v'
        have HQ := Lib.hid (And.intro hs11 (And.intro hb11 (HS.out.2.1)))
        clear hs9 hb9 hs10 hs11 hb11
        subst hv'
        go_upto_region 36 with fail
        obtain ⟨hs11, hb11, hok11⟩ := HQ.out
        clear HQ c5 f5
        generalize w9.setCell ⟨g18, 5, none⟩ (.slice av2 (k + 1) cv2) = w10 at *
        have h12 : StW w10 X V S Y (Go.Proofs.Ytanjiecefioffaa.blk w.heap.size (.cells #[.int .i64 0, .int .i64 0, .bool false, .slice none 0 0, .string ⟨#[]⟩, .slice none 0 0, .slice none 0 0] 54 (0, 0)) * (Go.Proofs.Ytanjiecefioffaa.blk g18 (vecB (.slice av2 (k + 1) cv2)) * (own 54 7 (.slice av2 (k + 1) cv2) (k + 1) (css.flatten ++ [.int .i64 kk, .int .i64 nn, .bool ng, .slice am ml cm, .string tx, .slice ai il ci, .slice ar rl cr]) * (Go.Proofs.Ytanjiecefioffaa.blk gl (.cells #[.int .i64 l2] 3 (0, 0)) * (M' * (M * R)))))) := ⟨hs11.perm (by ac_rfl), hok11⟩
        have HW := Lib.hid (And.intro h12 hb11)
        clear hs11 hb11 h12 hok11
        have g2 : IntKind.i64.wrap ((k : Int) + 1) = (k : Int) + 1 := IntWalk.i64_in _ (by have := HF.out.2.2.2.2.2.2; omega)
        go_wp2_with fail
        go_roundw
        case rel =>
          refine ⟨k + 1, l2, css ++ [[.int .i64 kk, .int .i64 nn, .bool ng, .slice am ml cm, .string tx, .slice ai il ci, .slice ar rl cr]], .slice av2 (k + 1) cv2, M' * M, by go_num, by have := HF.out.2.2.2.2.2.2; omega, ⟨⟨HS.out.2.2.2.2.2.2.2.2.2, by have := HS.out.2.2.2.2.2.2.2.1; have := HF.out.2.2.1.1.2; omega⟩, HS.out.2.2.2.1⟩, ⟨?_, ?_, ?_⟩, ⟨?_, HW.out.1.ok⟩, HW.out.2⟩
          · rw [List.length_append, HF.out.2.2.2.1]; rfl
          · intro cs hcs
            rcases List.mem_append.1 hcs with hcs | hcs
            · exact HF.out.2.2.2.2.1 cs hcs
            · rw [List.mem_singleton.1 hcs]; rfl
          · have htk : items.take (k + 1) = items.take k ++ [d'] := by
              have hq : items[k]? = some d' := by
                have := List.getElem?_drop (xs := items) (i := k) (j := 0)
                rw [HM.out.2.1, Nat.add_zero] at this
                exact this.symm
              rw [List.take_add_one, hq]; rfl
            intro i d cs hd hc
            rw [htk] at hd
            have htl : (items.take k).length = k := by rw [List.length_take]; have := HF.out.2.2.2.2.2.2; omega
            have hcl := HF.out.2.2.2.1
            by_cases hi : i < k
            · rw [List.getElem?_append_left (by omega)] at hd hc
              exact (HF.out.2.2.2.2.2.1 i d cs hd hc).mono (fun w h => h.right)
            · rw [List.getElem?_append_right (by omega)] at hd hc
              cases List.mem_singleton.1 (List.mem_of_getElem? hd)
              cases List.mem_singleton.1 (List.mem_of_getElem? hc)
              exact HS.out.2.2.2.2.1.mono (fun w h => h.left)
          · rw [List.flatten_append, List.flatten_cons, List.flatten_nil, List.append_nil]
            exact HW.out.1.s.perm (by ac_rfl)
        case measure => simp [intOf]; omega
    · obtain rfl : k = N := by have := HN.out.1; omega
      have hge : decide ((k : Int) < (k : Int)) = false := by simp
      have hlen := HN.out.1.1
      rw [List.take_of_length_le (by omega)] at htl hdk
      have hso0 : sat wr (own 54 7 v k css.flatten * (Go.Proofs.Ytanjiecefioffaa.blk w.heap.size (.cells #[.int .i64 0, .int .i64 0, .bool false, .slice none 0 0, .string ⟨#[]⟩, .slice none 0 0, .slice none 0 0] 54 (0, 0)) * (Go.Proofs.Ytanjiecefioffaa.blk g18 (vecB v) * (isHeap V S * (isSt X V.g Y * (Go.Proofs.Ytanjiecefioffaa.blk gl (.cells #[.int .i64 left'] 3 (0, 0)) * (M * R))))))) := hs.s.perm (by ac_rfl)
      obtain ⟨av, cv, rfl⟩ := own_val hso0
      obtain ⟨ao', cap', hq, hcv⟩ := slice_val hso0
      simp only [Value.slice.injEq, true_and] at hq
      obtain ⟨rfl, rfl⟩ := hq
      have hrow := row_dks (M := M) (l := items) (css := css) (by omega) hlen.symm hdk wr hso0
      have hpost : ∀ w9, sat w9 (Go.Proofs.Ytanjiecefioffaa.blk w.heap.size (dmO [.int .i64 7, .int .i64 0, .bool false, .slice none 0 0, .string ⟨#[]⟩, .slice av k cv, .slice none 0 0]) * (Go.Proofs.Ytanjiecefioffaa.blk g18 (vecB (.slice av k cv)) * (isHeap V S * (isSt X V.g Y * (own 54 7 (.slice av k cv) k css.flatten * (Go.Proofs.Ytanjiecefioffaa.blk gl (.cells #[.int .i64 left'] 3 (0, 0)) * (M * R))))))) → Below 0 w w9 → TakeR gl X V S Y R (.mk 7 0 false [] ⟨#[]⟩ items []) ((L : Int) + 1) deep w (.returned (.tuple #[.agg #[.int .i64 7, .int .i64 0, .bool false, .slice none 0 0, .string ⟨#[]⟩, .slice av k cv, .slice none 0 0], .bool true])) w9 := by
        intro w9 h9 hb9
        have e9 : takeD (.mk 7 0 false [] ⟨#[]⟩ items []) ((L : Int) + 1) deep = (left', true) := by
          unfold takeD
          rw [if_neg (by omega), show (L : Int) + 1 - 1 = L by omega, htl]
          unfold takeL
          rfl
        unfold TakeR
        rw [e9]
        refine ⟨[.int .i64 7, .int .i64 0, .bool false, .slice none 0 0, .string ⟨#[]⟩, .slice av k cv, .slice none 0 0], own 54 7 (.slice av k cv) k css.flatten * M, _, rfl, ?_, fun _ => rfl, ⟨h9.right.right.perm (by ac_rfl), hs.ok⟩, hb9⟩
        rw [← hlen]
        rw [← hlen] at hrow hcv
        exact DK.mk (mag := []) (am := none) (cm := 0) (ar := none) (cr := 0) ⟨by decide, by decide⟩ (fun w _ j x h => by simp at h) (fun x h => by simp at h) ⟨Nat.le_refl _, hcv, Nat.le_refl _⟩ hrow DKs.nil
      have hso : sat wr (Go.Proofs.Ytanjiecefioffaa.blk w.heap.size (.cells #[.int .i64 0, .int .i64 0, .bool false, .slice none 0 0, .string ⟨#[]⟩, .slice none 0 0, .slice none 0 0] 54 (0, 0)) * (Go.Proofs.Ytanjiecefioffaa.blk g18 (vecB (.slice av k cv)) * (isHeap V S * (isSt X V.g Y * (own 54 7 (.slice av k cv) k css.flatten * (Go.Proofs.Ytanjiecefioffaa.blk gl (.cells #[.int .i64 left'] 3 (0, 0)) * (M * R))))))) := hso0.perm (by ac_rfl)
      have c0 := (hso.left.cell 0).trans rfl
      have f0 := hso.left.frozen 0
      have c1 := (hso.left.cell 1).trans rfl
      have f1 := hso.left.frozen 1
      have c2 := (hso.left.cell 2).trans rfl
      have f2 := hso.left.frozen 2
      have c3 := (hso.left.cell 3).trans rfl
      have f3 := hso.left.frozen 3
      have c4 := (hso.left.cell 4).trans rfl
      have f4 := hso.left.frozen 4
      have c5 := (hso.left.cell 5).trans rfl
      have f5 := hso.left.frozen 5
      have c6 := (hso.left.cell 6).trans rfl
      have f6 := hso.left.frozen 6
      have d0 : wr.cell? ⟨g18, 0, none⟩ = some (.int .i64 7) := (hso.right.left.cell 0).trans rfl
      have d1 : wr.cell? ⟨g18, 1, none⟩ = some (.int .i64 0) := (hso.right.left.cell 1).trans rfl
      have d2 : wr.cell? ⟨g18, 2, none⟩ = some (.bool false) := (hso.right.left.cell 2).trans rfl
      have d3 : wr.cell? ⟨g18, 3, none⟩ = some (.slice none 0 0) := (hso.right.left.cell 3).trans rfl
      have d4 : wr.cell? ⟨g18, 4, none⟩ = some (.string ⟨#[]⟩) := (hso.right.left.cell 4).trans rfl
      have d5 : wr.cell? ⟨g18, 5, none⟩ = some (.slice av k cv) := (hso.right.left.cell 5).trans rfl
      have d6 : wr.cell? ⟨g18, 6, none⟩ = some (.slice none 0 0) := (hso.right.left.cell 6).trans rfl
      have HS := Lib.hid (And.intro hso (And.intro hb hpost))
      clear hso hso0 hpost hs hb hl' htl hcl h7 hdk hlen hrow hcv hkN hlt
      go_wp2_with fail
      have hs9 := (((((((HS.out.1.setCell (off := 0) (.int .i64 7)).setCell (off := 1) (.int .i64 0)).setCell (off := 2) (.bool false)).setCell (off := 3) (.slice none 0 0)).setCell (off := 4) (.string ⟨#[]⟩)).setCell (off := 5) (.slice av k cv)).setCell (off := 6) (.slice none 0 0))
      have hb9 := (((((((HS.out.2.1.setCell (p := ⟨w.heap.size, 0, none⟩) (Nat.zero_le _) (.int .i64 7)).setCell (p := ⟨w.heap.size, 1, none⟩) (Nat.zero_le _) (.int .i64 0)).setCell (p := ⟨w.heap.size, 2, none⟩) (Nat.zero_le _) (.bool false)).setCell (p := ⟨w.heap.size, 3, none⟩) (Nat.zero_le _) (.slice none 0 0)).setCell (p := ⟨w.heap.size, 4, none⟩) (Nat.zero_le _) (.string ⟨#[]⟩)).setCell (p := ⟨w.heap.size, 5, none⟩) (Nat.zero_le _) (.slice av k cv)).setCell (p := ⟨w.heap.size, 6, none⟩) (Nat.zero_le _) (.slice none 0 0))
      clear c0 f0 c1 f1 c2 f2 c3 f3 c4 f4 c5 f5 c6 f6 d0 d1 d2 d3 d4 d5 d6
      generalize (((((((wr.setCell ⟨w.heap.size, 0, none⟩ (.int .i64 7)).setCell ⟨w.heap.size, 1, none⟩ (.int .i64 0)).setCell ⟨w.heap.size, 2, none⟩ (.bool false)).setCell ⟨w.heap.size, 3, none⟩ (.slice none 0 0)).setCell ⟨w.heap.size, 4, none⟩ (.string ⟨#[]⟩)).setCell ⟨w.heap.size, 5, none⟩ (.slice av k cv)).setCell ⟨w.heap.size, 6, none⟩ (.slice none 0 0)) = w9 at *
      obtain ⟨r0, r1, r2, r3, r4, r5, r6⟩ := cells7 hs9
      rw [arr7] at hs9
      exact bodyPost_ret (v := .tuple #[.agg #[.int .i64 7, .int .i64 0, .bool false, .slice none 0 0, .string ⟨#[]⟩, .slice av k cv, .slice none 0 0], .bool true]) (by simp [results, Try.results60, go_sem, r0, r1, r2, r3, r4, r5, r6]) rfl (HS.out.2.2 _ hs9 hb9)
end
end Go.Proofs.Ytanjiecefioffaa
