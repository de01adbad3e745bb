/- value.Store.take of whatever vector. -/
import Derived.Test.YtanjiecefioffaaVB16
import Derived.Test.YtanjiecefioffaaVB14
import Derived.Test.YtanjiecefioffaaVB15
import Derived.Test.YtanjiecefioffaaVB11
import Derived.Test.YtanjiecefioffaaVB2
namespace Go.Proofs.Ytanjiecefioffaa
open Go.RowKit
theorem HRow.get {S : HS} : ∀ {l : List Dm} {i : Nat}, HRow S l i → ∀ (k : Nat) d, l[k]? = some d → HIn S d (S.ws.getD (i + k) 0)
  | [], _, _, k, d, h => by simp at h
  | e :: l, i, h, 0, d, hd => by
    unfold HRow at h
    simp at hd
    subst hd
    exact h.1
  | e :: l, i, h, k + 1, d, hd => by
    unfold HRow at h
    have := HRow.get h.2 k d (by simpa using hd)
    rw [show i + 1 + k = i + (k + 1) by omega] at this
    exact this
/-- A vector's word, as take asks for it. -/
theorem vec_told {S : HS} {x : Int} {items : List Dm} (x0 : 0 ≤ x) (hn : items.length ≤ 1048576) (hh : S.head x = headerOf 2 items.length 0) (hr : HRow S items ((x / 4).toNat + 1)) :
    S.shape x 2 (-1) 0 = true ∧ S.tag x = items.length ∧ ∀ (k : Nat) d, items[k]? = some d → HIn S d (S.getAt x k) := by
  obtain ⟨g1, g2, g3⟩ := vec_head items.length hn
  have et : S.tag x = items.length := by unfold HS.tag; rw [hh]; exact g1
  have er : S.raw x = 0 := by unfold HS.raw; rw [hh]; exact g2
  have ek : S.kind x = 2 := by unfold HS.kind; rw [hh]; exact g3
  refine ⟨?_, et, ?_⟩
  · unfold HS.shape
    rw [er, ek]; simp
  · intro k d hd
    have hk := (List.getElem?_eq_some_iff.1 hd).1
    unfold HS.getAt HS.get
    rw [if_pos (by rw [et]; omega)]
    simp only
    rw [show fieldAt x 0 (k : Int) = (x / 4).toNat + 1 + k by unfold fieldAt; omega]
    exact hr.get k d hd
/-- So many items of a vector are taken. -/
def VsRel (W : World) (X : StV) (V : HV) (S : HS) (Y : StS) (R : HP) (gl gz g18 : Nat) (items : List Dm) (left deep : Int) (i : Value) (wr : World) : Prop :=
  ∃ (k : Nat) (left' : Int) (css : List (List Value)) (v : Value) (M : HP), i = .int .i64 k ∧ k ≤ items.length ∧ ((0 ≤ left' ∧ left' ≤ 20000) ∧ takeL (items.take k) left deep = (left', true)) ∧
    (css.length = k ∧ (∀ cs ∈ css, cs.length = 7) ∧ ∀ (i : Nat) d cs, (items.take k)[i]? = some d → css[i]? = some cs → DK M d cs) ∧
    StW wr X V S Y (Go.Proofs.Ytanjiecefioffaa.blk gz (.cells #[.int .i64 0, .int .i64 0, .bool false, .slice none 0 0, .string ⟨#[]⟩, .slice none 0 0, .slice none 0 0] 54 (0, 0)) * (Go.Proofs.Ytanjiecefioffaa.blk g18 (vecB v) * (own 54 7 v k css.flatten * (Go.Proofs.Ytanjiecefioffaa.blk gl (.cells #[.int .i64 left'] 3 (0, 0)) * (M * R))))) ∧ Below 0 W wr
section
variable {w : World} {X : StV} {V : HV} {S : HS} {Y : StS} {R : HP}
set_option maxRecDepth 100000 in
set_option maxHeartbeats 4000000 in
theorem takes_vec (gl L N : Nat) (deep x : Int) (items : List Dm) (hL : L < 20000) (hd : 0 < deep ∧ deep ≤ 100) (h : StW w X V S Y (Go.Proofs.Ytanjiecefioffaa.blk gl (.cells #[.int .i64 ((L : Int) + 1)] 3 (0, 0)) * R)) (x0 : 0 ≤ x ∧ x < 18446744073709551616)
    (hv : S.shape x 2 (-1) 0 = true) (ht : S.tag x = N) (hc : ∀ (k : Nat) d, items[k]? = some d → HIn S d (S.getAt x k)) (hN : items.length = N ∧ N ≤ 1048576) (hP : ∀ d ∈ items, TakesAt d (deep - 1)) :
    Calls Try.prog 60 #[.pointer (some ⟨X.g, 0, none⟩), .int .u64 x, .pointer (some ⟨gl, 0, none⟩), .int .i64 deep] w (TakeR gl X V S Y R (.mk 7 0 false [] ⟨#[]⟩ items []) ((L : Int) + 1) deep w) := by
  obtain ⟨i0, hi, hz0, hz1, hz2⟩ := info_parts info_datum
  have H1 := Lib.hid (And.intro hi (And.intro hz0 (And.intro hz1 hz2)))
  clear hi hz0 hz1 hz2
  obtain ⟨nx, ox, mx, x4, sx, sp⟩ := vec_word hv
  have bx := x0
  have hs : sat w (Go.Proofs.Ytanjiecefioffaa.blk gl (.cells #[.int .i64 ((L : Int) + 1)] 3 (0, 0)) * (isHeap V S * (isSt X V.g Y * R))) := h.s.perm (by ac_rfl)
  have cA : ∀ o, (w.alloc o).cell? ⟨gl, 0, none⟩ = some (.int .i64 ((L : Int) + 1)) := fun o => ((hs.alloc o).right.left.cell 0).trans rfl
  have fA : ∀ o, (w.alloc o).frozen? ⟨gl, 0, none⟩ = false := fun o => (hs.alloc o).right.left.frozen 0
  obtain ⟨Z, hZ⟩ : ∃ Z : Obj, Z = .cells #[.int .i64 0, .int .i64 0, .bool false, .slice none 0 0, .string ⟨#[]⟩, .slice none 0 0, .slice none 0 0] 54 := ⟨_, rfl⟩
  have hs2 : sat ((w.alloc Z).setCell ⟨gl, 0, none⟩ (.int .i64 L)) (Go.Proofs.Ytanjiecefioffaa.blk gl (.cells #[.int .i64 L] 3 (0, 0)) * (Go.Proofs.Ytanjiecefioffaa.blk w.heap.size Z * (isHeap V S * (isSt X V.g Y * R)))) :=
    (show sat (w.alloc Z) (Go.Proofs.Ytanjiecefioffaa.blk gl (.cells #[.int .i64 ((L : Int) + 1)] 3 (0, 0)) * (Go.Proofs.Ytanjiecefioffaa.blk w.heap.size Z * (isHeap V S * (isSt X V.g Y * R)))) from (hs.alloc Z).perm (by ac_rfl)).setCell (off := 0) (.int .i64 L)
  have h2 : StW ((w.alloc Z).setCell ⟨gl, 0, none⟩ (.int .i64 L)) X V S Y (Go.Proofs.Ytanjiecefioffaa.blk w.heap.size Z * (Go.Proofs.Ytanjiecefioffaa.blk gl (.cells #[.int .i64 L] 3 (0, 0)) * R)) := ⟨hs2.perm (by ac_rfl), h.ok⟩
  have hb2 : Below 0 w ((w.alloc Z).setCell ⟨gl, 0, none⟩ (.int .i64 L)) := (Below.zero_alloc w Z).setCell (p := ⟨gl, 0, none⟩) (Nat.zero_le _) _
  clear hs2
  rw [hZ] at h2 hb2
  clear hZ
  have g0 : ((L : Int) + 1 - 1) = (L : Int) := by omega
  have g1b : IntKind.i64.wrap (L : Int) = (L : Int) := IntWalk.i64_in _ (by omega)
  have g2 : decide ((L : Int) + 1 ≤ 0) = false := by rw [decide_eq_false_iff_not]; omega
  have g3 : (deep == 0) = false := by simp; omega
  have HX := Lib.hid (And.intro h2 (And.intro hb2 (And.intro nx (And.intro ox (And.intro mx (And.intro sx sp))))))
  have HC := Lib.hid (And.intro hc (And.intro hv ht))
  have HN := Lib.hid (And.intro hN hP)
  have m1 : bits .and .u64 x 255 = x % 256 := u64_mask 8 x bx.1 bx.2 (by decide)
  have q1 : (x == 2) = false := by rw [beq_eq_false_iff_ne]; omega
  have q2 : (x == 6) = false := by rw [beq_eq_false_iff_ne]; omega
  have q3 : (x == 10) = false := by rw [beq_eq_false_iff_ne]; omega
  have q4 : (x % 256 == 22) = false := by rw [beq_eq_false_iff_ne]; omega
  have q5 : (x % 256 == 26) = false := by rw [beq_eq_false_iff_ne]; omega
  have q6 : ¬ (x = 2) := by omega
  have q7 : ¬ (x = 6) := by omega
  have q8 : ¬ (x = 10) := by omega
  clear h h2 hs hb2 nx ox mx sx sp hc hv ht x4 hN hP
  go_enter Try.func60, Try.ntmps60
  go_wp2_with fail
  have hN := HX.out.1.Num x bx.1 bx.2
  rw [HX.out.2.2.1] at hN
  clear cA fA
  generalize hw2 : (w.alloc (.cells #[.int .i64 0, .int .i64 0, .bool false, .slice none 0 0, .string ⟨#[]⟩, .slice none 0 0, .slice none 0 0] 54)).setCell ⟨gl, 0, none⟩ (.int .i64 L) = w2 at *
  with_reducible refine hN.mono ?_
  rintro e w3 ⟨ao, ac, rfl, hac, h3, hb3⟩
  simp only [Option.getD_none, Option.isSome_none] at h3 ⊢
  obtain ⟨P, hP⟩ : ∃ P, decide ((0 : Int) < 0) = P := ⟨_, rfl⟩
  rw [hP]
  generalize (limbsOf (0 : Int).natAbs).length = nl at *
  have hp := (h3.push (.cells #[.bool P, .slice ao nl ac] 51))
  have hpp : StW (w3.alloc (.cells #[.bool P, .slice ao nl ac] 51)) X V S Y (Go.Proofs.Ytanjiecefioffaa.blk w.heap.size (.cells #[.int .i64 0, .int .i64 0, .bool false, .slice none 0 0, .string ⟨#[]⟩, .slice none 0 0, .slice none 0 0] 54 (0, 0)) * (Go.Proofs.Ytanjiecefioffaa.blk gl (.cells #[.int .i64 L] 3 (0, 0)) * R)) := hp.drop.drop
  have hB := hpp.Bytes x bx.1 bx.2
  unfold BytesPost at hB
  rw [HX.out.2.2.2.1] at hB
  have HB := Lib.hid ((HX.out.2.1.trans hb3).trans (Below.zero_alloc w3 (.cells #[.bool P, .slice ao nl ac] 51)))
  clear hN h3 hb3 hp hac hpp
  go_wp2_with fail
  with_reducible refine hB.mono ?_
  rintro e w4 ⟨v, rfl, h4, hb4⟩
  have h4d := h4.drop
  have hNm := h4d.Name x bx.1 bx.2
  unfold NamePost at hNm
  rw [HX.out.2.2.2.2.1] at hNm
  have HB4 := Lib.hid (HB.out.trans hb4)
  clear hB h4 h4d hb4
  go_wp2_with fail
  with_reducible refine hNm.mono ?_
  rintro e w5 ⟨rfl, h5, hb5⟩
  generalize S.name x = nm at *
  have hS1 := h5.shape x 6 (-1) 1 bx.1 bx.2
  have hS2 := fun j : Nat => (h5.drewN j).shape x 1 2 0 bx.1 bx.2
  have hS3 := fun j : Nat => (h5.drewN j).shape x 2 (-1) 0 bx.1 bx.2
  rw [HX.out.2.2.2.2.2.1] at hS1
  rw [HX.out.2.2.2.2.2.2] at hS2
  rw [HC.out.2.1] at hS3
  have HX5 := Lib.hid (And.intro h5 (HB4.out.trans hb5))
  clear hNm h5 hb5
  go_wp2_with fail
  with_reducible refine hS1.mono ?_
  rintro e w' ⟨rfl, j1, rfl⟩
  go_wp2_with fail
  with_reducible refine (hS2 j1).mono ?_
  rintro e w' ⟨rfl, j2, rfl⟩
  go_wp2_with fail
  with_reducible refine (hS3 (j1 + j2)).mono ?_
  rintro e w' ⟨rfl, j3, rfl⟩
  have h6 := (HX5.out.1.drewN (j1 + j2)).drewN j3
  have hb6 := (HX5.out.2.trans (drewN_below0 w5 (j1 + j2))).trans (drewN_below0 _ j3)
  generalize (w5.drewN (j1 + j2)).drewN j3 = w6 at *
  clear hS1 hS2 hS3
  have h7 := h6.push (.cells #[.int .i64 7, .int .i64 0, .bool false, .slice none 0 0, .string ⟨#[]⟩, .slice none 0 0, .slice none 0 0] 54)
  have hb7 := hb6.trans (Below.zero_alloc w6 (.cells #[.int .i64 7, .int .i64 0, .bool false, .slice none 0 0, .string ⟨#[]⟩, .slice none 0 0, .slice none 0 0] 54))
  obtain ⟨g18, hg18⟩ : ∃ g, w6.heap.size = g := ⟨_, rfl⟩
  have hTg := h7.hw.v.Tagged x bx.1 bx.2
  rw [HC.out.2.2] at hTg
  have c0 := h7.c0
  have HX7 := Lib.hid (And.intro h7 hb7)
  clear h6 hb6 h7 hb7
  go_wp2_with fail
  refine hTg.mono ?_
  rintro e w' ⟨rfl, j4, rfl⟩
  have h8 := HX7.out.1.drewN j4
  have hb8 := HX7.out.2.trans (drewN_below0 _ j4)
  rw [hg18] at h8
  have HG := Lib.hid hg18
  generalize (w6.alloc (.cells #[.int .i64 7, .int .i64 0, .bool false, .slice none 0 0, .string ⟨#[]⟩, .slice none 0 0, .slice none 0 0] 54)).drewN j4 = w8 at *
  have HX8 := Lib.hid (And.intro h8 hb8)
  clear hTg c0 h8 hb8 hg18
  go_wp2_with fail
  go_loopw [140] (VsRel w X V S Y R gl w.heap.size g18 items L (deep - 1)) (fun i _ => N - (intOf i).toNat)
  case atStart =>
    refine ⟨0, L, [], .slice none 0 0, emp, rfl, Nat.zero_le _, ⟨⟨by omega, by omega⟩, by rw [List.take_zero]; unfold takeL; rfl⟩, ⟨rfl, fun cs h => by simp at h, fun i d cs h => by simp at h⟩, ⟨?_, HX8.out.1.ok⟩, HX8.out.2⟩
    have := HX8.out.1.s.nil_own (e := 54) (sz := 7)
    refine this.perm ?_
    rw [HP.emp_mul, List.flatten_nil]
    unfold vecB
    ac_rfl
  case round =>
    clear HX8
    obtain ⟨k, left', css, v, M, rfl, hkN, ⟨hl', htl⟩, ⟨hcl, h7, hdk⟩, hs, hb⟩ := hrel
    have c0 := hs.c0
    by_cases hlt : k < items.length
    · have hNN := HN.out.1
      have hkn : k < N := by omega
      have b3 : decide ((k : Int) < (N : Int)) = true := by simp; omega
      have hdrop : items.drop k = items[k] :: items.drop (k + 1) := List.drop_eq_getElem_cons hlt
      have hget : items[k]? = some items[k] := List.getElem?_eq_getElem hlt
      have hmem : items[k] ∈ items := List.getElem_mem hlt
      have hin := HC.out.1 k _ hget
      generalize items[k] = d at *
      have hG0 := hs.Get x k bx.1 bx.2
      generalize S.getAt x k = y0 at *
      generalize decide ((0 : Int) ≤ (k : Int) ∧ (k : Int) < S.tag x) = q0 at *
      have HF := Lib.hid (And.intro hs (And.intro hb (And.intro (And.intro hl' htl) (And.intro hcl (And.intro h7 (And.intro hdk (And.intro hNN hlt)))))))
      have HM := Lib.hid (And.intro hmem (And.intro hdrop hin))
      clear hs hb hl' htl hcl h7 hdk hmem hdrop hin hget hNN hkN hlt
      go_wp2_with fail
      refine hG0.mono ?_
      rintro e w' ⟨rfl, j2, rfl⟩
      have h3 := HF.out.1.drewN j2
      have hb3 := HF.out.2.1.trans (drewN_below0 wr j2)
      generalize wr.drewN j2 = w3' at *
      clear hG0 c0
      have g1 : IntKind.i64.wrap (deep - 1) = deep - 1 := IntWalk.i64_in _ (by omega)
      have h4 : StW w3' X V S Y (Go.Proofs.Ytanjiecefioffaa.blk gl (.cells #[.int .i64 left'] 3 (0, 0)) * (Go.Proofs.Ytanjiecefioffaa.blk w.heap.size (.cells #[.int .i64 0, .int .i64 0, .bool false, .slice none 0 0, .string ⟨#[]⟩, .slice none 0 0, .slice none 0 0] 54 (0, 0)) * (Go.Proofs.Ytanjiecefioffaa.blk g18 (vecB v) * (own 54 7 v k css.flatten * (M * R))))) := ⟨h3.s.perm (by ac_rfl), h3.ok⟩
      have hT := HN.out.2 d HM.out.1 w3' X V S Y _ gl left' y0 HF.out.2.2.1.1 h4 HM.out.2.2
      have HB := Lib.hid hb3
      clear h3 h4 hb3
      go_wp2_with fail
      with_reducible refine hT.mono ?_
      rintro e w4 ⟨cs, M', d', rfl, hdk', hok', h5, hb5⟩
      obtain ⟨b, hbq⟩ : ∃ b, (takeD d left' (deep - 1)).2 = b := ⟨_, rfl⟩
      obtain ⟨l2, hl2⟩ : ∃ l2, (takeD d left' (deep - 1)).1 = l2 := ⟨_, rfl⟩
      have htd : takeD d left' (deep - 1) = (l2, b) := Prod.ext hl2 hbq
      have hle2 := takeD_le d left' (deep - 1)
      have hpo2 := takeD_pos d left' (deep - 1) HF.out.2.2.1.1.1
      have hlt2 : b = true → l2 < left' := fun hh => by have := takeD_lt (d := d) (left := left') (deep := deep - 1) (hbq.trans hh); rw [hl2] at this; exact this
      rw [hl2] at h5 hle2 hpo2
      rw [hbq] at hok' ⊢
      obtain ⟨kk, nn, ng, am, ml, cm, tx, ai, il, ci, ar, rl, cr, rfl⟩ := hdk'.cells
      have h6 := h5.push (dmO [.int .i64 kk, .int .i64 nn, .bool ng, .slice am ml cm, .string tx, .slice ai il ci, .slice ar rl cr])
      have hb6 := (HB.out.trans hb5).trans (Below.zero_alloc w4 (dmO [.int .i64 kk, .int .i64 nn, .bool ng, .slice am ml cm, .string tx, .slice ai il ci, .slice ar rl cr]))
      obtain ⟨av, cv, rfl⟩ := own_val (show sat w4 (own 54 7 v k css.flatten * (isHeap V S * (isSt X V.g Y * (Go.Proofs.Ytanjiecefioffaa.blk gl (.cells #[.int .i64 l2] 3 (0, 0)) * (M' * (Go.Proofs.Ytanjiecefioffaa.blk w.heap.size (.cells #[.int .i64 0, .int .i64 0, .bool false, .slice none 0 0, .string ⟨#[]⟩, .slice none 0 0, .slice none 0 0] 54 (0, 0)) * (Go.Proofs.Ytanjiecefioffaa.blk g18 (vecB v) * (M * R)))))))) from h5.s.perm (by ac_rfl))
      cases b
      case false =>
        have hstop := takeL_stop HM.out.2.1 HF.out.2.2.1.2 htd
        have hpost : ∀ w9, sat w9 (Go.Proofs.Ytanjiecefioffaa.blk w.heap.size (.cells #[.int .i64 0, .int .i64 0, .bool false, .slice none 0 0, .string ⟨#[]⟩, .slice none 0 0, .slice none 0 0] 54 (0, 0)) * (isHeap V S * (isSt X V.g Y * (Go.Proofs.Ytanjiecefioffaa.blk gl (.cells #[.int .i64 l2] 3 (0, 0)) * R)))) → Below 0 w w9 → TakeR gl X V S Y R (.mk 7 0 false [] ⟨#[]⟩ items []) ((L : Int) + 1) deep w (.returned (.tuple #[zeroD, .bool false])) w9 := by
          intro w9 h9 hb9
          have e9 : takeD (.mk 7 0 false [] ⟨#[]⟩ items []) ((L : Int) + 1) deep = (l2, false) := by
            unfold takeD
            rw [if_neg (by omega), show (L : Int) + 1 - 1 = L by omega, hstop]
          unfold TakeR
          rw [e9]
          have hs : sat w9 (own 70 1 (.slice none 0 0) 0 [] * (Go.Proofs.Ytanjiecefioffaa.blk w.heap.size (.cells #[.int .i64 0, .int .i64 0, .bool false, .slice none 0 0, .string ⟨#[]⟩, .slice none 0 0, .slice none 0 0] 54 (0, 0)) * (isHeap V S * (isSt X V.g Y * (Go.Proofs.Ytanjiecefioffaa.blk gl (.cells #[.int .i64 l2] 3 (0, 0)) * R))))) := h9.nil_own
          have hs2 : sat w9 (Go.Proofs.Ytanjiecefioffaa.blk w.heap.size (.cells #[.int .i64 0, .int .i64 0, .bool false, .slice none 0 0, .string ⟨#[]⟩, .slice none 0 0, .slice none 0 0] 54 (0, 0)) * (isHeap V S * (isSt X V.g Y * (Go.Proofs.Ytanjiecefioffaa.blk gl (.cells #[.int .i64 l2] 3 (0, 0)) * (own 70 1 (.slice none 0 0) 0 [] * R))))) := hs.perm (by ac_rfl)
          exact ⟨_, own 70 1 (.slice none 0 0) 0 [], _, rfl, leaf_DK 0 0 ⟨#[]⟩ (by decide) (by decide) _, fun h => (by cases h), ⟨hs2.right.perm (by ac_rfl), h6.ok⟩, hb9⟩
        have hso : sat (w4.alloc (dmO [.int .i64 kk, .int .i64 nn, .bool ng, .slice am ml cm, .string tx, .slice ai il ci, .slice ar rl cr])) (Go.Proofs.Ytanjiecefioffaa.blk w.heap.size (.cells #[.int .i64 0, .int .i64 0, .bool false, .slice none 0 0, .string ⟨#[]⟩, .slice none 0 0, .slice none 0 0] 54 (0, 0)) * (isHeap V S * (isSt X V.g Y * (Go.Proofs.Ytanjiecefioffaa.blk gl (.cells #[.int .i64 l2] 3 (0, 0)) * R)))) := (h6.s.perm (show _ = (Go.Proofs.Ytanjiecefioffaa.blk w4.heap.size (dmO [.int .i64 kk, .int .i64 nn, .bool ng, .slice am ml cm, .string tx, .slice ai il ci, .slice ar rl cr]) * (Go.Proofs.Ytanjiecefioffaa.blk g18 (vecB (.slice av k cv)) * (own 54 7 (.slice av k cv) k css.flatten * (M' * M)))) * (Go.Proofs.Ytanjiecefioffaa.blk w.heap.size (.cells #[.int .i64 0, .int .i64 0, .bool false, .slice none 0 0, .string ⟨#[]⟩, .slice none 0 0, .slice none 0 0] 54 (0, 0)) * (isHeap V S * (isSt X V.g Y * (Go.Proofs.Ytanjiecefioffaa.blk gl (.cells #[.int .i64 l2] 3 (0, 0)) * R)))) by ac_rfl)).right
        have c0 := (hso.left.cell 0).trans rfl
        have f0 := hso.left.frozen 0
        have c1 := (hso.left.cell 1).trans rfl
        have f1 := hso.left.frozen 1
        have c2 := (hso.left.cell 2).trans rfl
        have f2 := hso.left.frozen 2
        have c3 := (hso.left.cell 3).trans rfl
        have f3 := hso.left.frozen 3
        have c4 := (hso.left.cell 4).trans rfl
        have f4 := hso.left.frozen 4
        have c5 := (hso.left.cell 5).trans rfl
        have f5 := hso.left.frozen 5
        have c6 := (hso.left.cell 6).trans rfl
        have f6 := hso.left.frozen 6
        have HS := Lib.hid (And.intro hso (And.intro hb6 hpost))
        clear hT h5 h6 hb5 hb6 hso hpost hstop hok' hdk' hbq hl2 htd hle2 hpo2 hlt2
        go_wp2_with fail
        have hs7 := (((((((HS.out.1.setCell (off := 0) (.int .i64 0)).setCell (off := 1) (.int .i64 0)).setCell (off := 2) (.bool false)).setCell (off := 3) (.slice none 0 0)).setCell (off := 4) (.string ⟨#[]⟩)).setCell (off := 5) (.slice none 0 0)).setCell (off := 6) (.slice none 0 0))
        have hb7 := (((((((HS.out.2.1.setCell (p := ⟨w.heap.size, 0, none⟩) (Nat.zero_le _) (.int .i64 0)).setCell (p := ⟨w.heap.size, 1, none⟩) (Nat.zero_le _) (.int .i64 0)).setCell (p := ⟨w.heap.size, 2, none⟩) (Nat.zero_le _) (.bool false)).setCell (p := ⟨w.heap.size, 3, none⟩) (Nat.zero_le _) (.slice none 0 0)).setCell (p := ⟨w.heap.size, 4, none⟩) (Nat.zero_le _) (.string ⟨#[]⟩)).setCell (p := ⟨w.heap.size, 5, none⟩) (Nat.zero_le _) (.slice none 0 0)).setCell (p := ⟨w.heap.size, 6, none⟩) (Nat.zero_le _) (.slice none 0 0))
        clear c0 f0 c1 f1 c2 f2 c3 f3 c4 f4 c5 f5 c6 f6
        generalize ((((((((w4.alloc (dmO [.int .i64 kk, .int .i64 nn, .bool ng, .slice am ml cm, .string tx, .slice ai il ci, .slice ar rl cr])).setCell ⟨w.heap.size, 0, none⟩ (.int .i64 0)).setCell ⟨w.heap.size, 1, none⟩ (.int .i64 0)).setCell ⟨w.heap.size, 2, none⟩ (.bool false)).setCell ⟨w.heap.size, 3, none⟩ (.slice none 0 0)).setCell ⟨w.heap.size, 4, none⟩ (.string ⟨#[]⟩)).setCell ⟨w.heap.size, 5, none⟩ (.slice none 0 0)).setCell ⟨w.heap.size, 6, none⟩ (.slice none 0 0)) = w7 at *
        obtain ⟨r0, r1, r2, r3, r4, r5, r6⟩ := cells7 hs7
        exact bodyPost_ret (v := .tuple #[zeroD, .bool false]) (by simp [results, Try.results60, go_sem, r0, r1, r2, r3, r4, r5, r6, zeroD]) rfl (HS.out.2.2 _ (by rw [arr7] at hs7; exact hs7) hb7)
      case true =>
        obtain rfl := hok' rfl
        have hnext := takeL_next HM.out.2.1 HF.out.2.2.1.2 htd
        have hso : sat (w4.alloc (dmO [.int .i64 kk, .int .i64 nn, .bool ng, .slice am ml cm, .string tx, .slice ai il ci, .slice ar rl cr])) (Go.Proofs.Ytanjiecefioffaa.blk g18 (vecB (.slice av k cv)) * (own 54 7 (.slice av k cv) k css.flatten * (Go.Proofs.Ytanjiecefioffaa.blk w4.heap.size (dmO [.int .i64 kk, .int .i64 nn, .bool ng, .slice am ml cm, .string tx, .slice ai il ci, .slice ar rl cr]) * (isHeap V S * (isSt X V.g Y * (Go.Proofs.Ytanjiecefioffaa.blk w.heap.size (.cells #[.int .i64 0, .int .i64 0, .bool false, .slice none 0 0, .string ⟨#[]⟩, .slice none 0 0, .slice none 0 0] 54 (0, 0)) * (Go.Proofs.Ytanjiecefioffaa.blk gl (.cells #[.int .i64 l2] 3 (0, 0)) * (M' * (M * R))))))))) := h6.s.perm (by ac_rfl)
        have c5 := (hso.left.cell 5).trans (show _ = some (Value.slice av k cv) from rfl)
        have c5b : ∀ o, ((w4.alloc (dmO [.int .i64 kk, .int .i64 nn, .bool ng, .slice am ml cm, .string tx, .slice ai il ci, .slice ar rl cr])).alloc o).cell? ⟨g18, 5, none⟩ = some (.slice av k cv) := fun o => ((hso.alloc o).right.left.cell 5).trans rfl
        have hs7 := hso.alloc (dmO [.int .i64 kk, .int .i64 nn, .bool ng, .slice am ml cm, .string tx, .slice ai il ci, .slice ar rl cr])
        rw [World.size_alloc] at hs7
        have hs8 : sat ((w4.alloc (dmO [.int .i64 kk, .int .i64 nn, .bool ng, .slice am ml cm, .string tx, .slice ai il ci, .slice ar rl cr])).alloc (dmO [.int .i64 kk, .int .i64 nn, .bool ng, .slice am ml cm, .string tx, .slice ai il ci, .slice ar rl cr])) (own 54 7 (.slice av k cv) k css.flatten * (Go.Proofs.Ytanjiecefioffaa.blk (w4.heap.size + 1) (dmO [.int .i64 kk, .int .i64 nn, .bool ng, .slice am ml cm, .string tx, .slice ai il ci, .slice ar rl cr]) * (Go.Proofs.Ytanjiecefioffaa.blk g18 (vecB (.slice av k cv)) * (isHeap V S * (isSt X V.g Y * (Go.Proofs.Ytanjiecefioffaa.blk w.heap.size (.cells #[.int .i64 0, .int .i64 0, .bool false, .slice none 0 0, .string ⟨#[]⟩, .slice none 0 0, .slice none 0 0] 54 (0, 0)) * (Go.Proofs.Ytanjiecefioffaa.blk gl (.cells #[.int .i64 l2] 3 (0, 0)) * (M' * (M * R))))))))) := (hs7.perm (show _ = Go.Proofs.Ytanjiecefioffaa.blk w4.heap.size (dmO [.int .i64 kk, .int .i64 nn, .bool ng, .slice am ml cm, .string tx, .slice ai il ci, .slice ar rl cr]) * (own 54 7 (.slice av k cv) k css.flatten * (Go.Proofs.Ytanjiecefioffaa.blk (w4.heap.size + 1) (dmO [.int .i64 kk, .int .i64 nn, .bool ng, .slice am ml cm, .string tx, .slice ai il ci, .slice ar rl cr]) * (Go.Proofs.Ytanjiecefioffaa.blk g18 (vecB (.slice av k cv)) * (isHeap V S * (isSt X V.g Y * (Go.Proofs.Ytanjiecefioffaa.blk w.heap.size (.cells #[.int .i64 0, .int .i64 0, .bool false, .slice none 0 0, .string ⟨#[]⟩, .slice none 0 0, .slice none 0 0] 54 (0, 0)) * (Go.Proofs.Ytanjiecefioffaa.blk gl (.cells #[.int .i64 l2] 3 (0, 0)) * (M' * (M * R))))))))) by ac_rfl)).right
        have hcl : CellsAt ((w4.alloc (dmO [.int .i64 kk, .int .i64 nn, .bool ng, .slice am ml cm, .string tx, .slice ai il ci, .slice ar rl cr])).alloc (dmO [.int .i64 kk, .int .i64 nn, .bool ng, .slice am ml cm, .string tx, .slice ai il ci, .slice ar rl cr])) (some ⟨w4.heap.size + 1, 0, none⟩) [.int .i64 kk, .int .i64 nn, .bool ng, .slice am ml cm, .string tx, .slice ai il ci, .slice ar rl cr] := by
          intro j u hj
          have ha : ((⟨w4.heap.size + 1, 0, none⟩ : Addr).add j) = ⟨w4.heap.size + 1, j, none⟩ := by unfold Addr.add; split <;> simp_all
          refine ⟨_, rfl, ?_⟩
          rw [ha, hs8.right.left.cell j, List.getElem?_toArray]
          exact hj
        have hone := hdk'.one
        have HS := Lib.hid (And.intro hs8 (And.intro h6.ok (And.intro (hb6.trans (Below.zero_alloc _ (dmO [.int .i64 kk, .int .i64 nn, .bool ng, .slice am ml cm, .string tx, .slice ai il ci, .slice ar rl cr]))) (And.intro hnext (And.intro hdk' (And.intro hcl (And.intro hone (And.intro (hlt2 rfl) (And.intro hle2 hpo2)))))))))
        clear hT h5 h6 hb5 hb6 hso hnext hok' hdk' hbq hl2 htd hle2 hpo2 hlt2 hs7 hs8 hcl hone
        go_wp2_with (at_builtin; refine halt ?_)
        refine goon ?_
        obtain ⟨hi, hz0, hz1, hz2⟩ := H1.out
        have hfl := HF.out.2.2.2.1
        have h77 := HF.out.2.2.2.2.1
        have hnn := HF.out.2.2.2.2.2.2
        refine wpList_append_opt rfl (.tmp 166) (.tmp 168) 52 rfl 54 i0 zeroD 7 112 Try.underlying52 hi hz0 hz1 hz2 rfl (by decide) (.slice av k cv) k css.flatten rfl _ (some ⟨w4.heap.size + 1, 0, none⟩) 1 1 [.int .i64 kk, .int .i64 nn, .bool ng, .slice am ml cm, .string tx, .slice ai il ci, .slice ar rl cr] rfl ?_ HS.out.1 rfl HS.out.2.2.2.2.2.1 HS.out.2.2.2.2.2.2.1 (by omega) (by unfold maxLen; omega)
        clear hi hz0 hz1 hz2 c5 c5b hfl h77 hnn
        intro v0 w9 hs9 hb9
        obtain ⟨av2, cv2, rfl⟩ := own_val hs9
        obtain ⟨v', hv'⟩ : ∃ v', Value.slice av2 (k + 1) cv2 = v' := ⟨_, rfl⟩
        rw [hv'] at hs9
        have hs10 := (show sat w9 (Go.Proofs.Ytanjiecefioffaa.blk g18 (vecB (.slice av k cv)) * (own 54 7 v' (k + 1) (css.flatten ++ [.int .i64 kk, .int .i64 nn, .bool ng, .slice am ml cm, .string tx, .slice ai il ci, .slice ar rl cr]) * (isHeap V S * (isSt X V.g Y * (Go.Proofs.Ytanjiecefioffaa.blk w.heap.size (.cells #[.int .i64 0, .int .i64 0, .bool false, .slice none 0 0, .string ⟨#[]⟩, .slice none 0 0, .slice none 0 0] 54 (0, 0)) * (Go.Proofs.Ytanjiecefioffaa.blk gl (.cells #[.int .i64 l2] 3 (0, 0)) * (M' * (M * R)))))))) from (hs9.perm (show _ = Go.Proofs.Ytanjiecefioffaa.blk (w4.heap.size + 1) (dmO [.int .i64 kk, .int .i64 nn, .bool ng, .slice am ml cm, .string tx, .slice ai il ci, .slice ar rl cr]) * (Go.Proofs.Ytanjiecefioffaa.blk g18 (vecB (.slice av k cv)) * (own 54 7 v' (k + 1) (css.flatten ++ [.int .i64 kk, .int .i64 nn, .bool ng, .slice am ml cm, .string tx, .slice ai il ci, .slice ar rl cr]) * (isHeap V S * (isSt X V.g Y * (Go.Proofs.Ytanjiecefioffaa.blk w.heap.size (.cells #[.int .i64 0, .int .i64 0, .bool false, .slice none 0 0, .string ⟨#[]⟩, .slice none 0 0, .slice none 0 0] 54 (0, 0)) * (Go.Proofs.Ytanjiecefioffaa.blk gl (.cells #[.int .i64 l2] 3 (0, 0)) * (M' * (M * R)))))))) by ac_rfl)).right)
        have c5 := (hs10.left.cell 5).trans (show _ = some (Value.slice av k cv) from rfl)
        have f5 := hs10.left.frozen 5
        have hs11 : sat (w9.setCell ⟨g18, 5, none⟩ v') (Go.Proofs.Ytanjiecefioffaa.blk g18 (vecB v') * (own 54 7 v' (k + 1) (css.flatten ++ [.int .i64 kk, .int .i64 nn, .bool ng, .slice am ml cm, .string tx, .slice ai il ci, .slice ar rl cr]) * (isHeap V S * (isSt X V.g Y * (Go.Proofs.Ytanjiecefioffaa.blk w.heap.size (.cells #[.int .i64 0, .int .i64 0, .bool false, .slice none 0 0, .string ⟨#[]⟩, .slice none 0 0, .slice none 0 0] 54 (0, 0)) * (Go.Proofs.Ytanjiecefioffaa.blk gl (.cells #[.int .i64 l2] 3 (0, 0)) * (M' * (M * R)))))))) := hs10.setCell (off := 5) v'
        have hb11 := ((HS.out.2.2.1.trans hb9)).setCell (p := ⟨g18, 5, none⟩) (Nat.zero_le _) v'
        have HQ := Lib.hid (And.intro hs11 (And.intro hb11 (HS.out.2.1)))
        clear hs9 hb9 hs10 hs11 hb11
        subst hv'
        go_upto_region 36 with fail
        obtain ⟨hs11, hb11, hok11⟩ := HQ.out
        clear HQ c5 f5
        generalize w9.setCell ⟨g18, 5, none⟩ (.slice av2 (k + 1) cv2) = w10 at *
        have h12 : StW w10 X V S Y (Go.Proofs.Ytanjiecefioffaa.blk w.heap.size (.cells #[.int .i64 0, .int .i64 0, .bool false, .slice none 0 0, .string ⟨#[]⟩, .slice none 0 0, .slice none 0 0] 54 (0, 0)) * (Go.Proofs.Ytanjiecefioffaa.blk g18 (vecB (.slice av2 (k + 1) cv2)) * (own 54 7 (.slice av2 (k + 1) cv2) (k + 1) (css.flatten ++ [.int .i64 kk, .int .i64 nn, .bool ng, .slice am ml cm, .string tx, .slice ai il ci, .slice ar rl cr]) * (Go.Proofs.Ytanjiecefioffaa.blk gl (.cells #[.int .i64 l2] 3 (0, 0)) * (M' * (M * R)))))) := ⟨hs11.perm (by ac_rfl), hok11⟩
        have HW := Lib.hid (And.intro h12 hb11)
        clear hs11 hb11 h12 hok11
        have g2 : IntKind.i64.wrap ((k : Int) + 1) = (k : Int) + 1 := IntWalk.i64_in _ (by have := HF.out.2.2.2.2.2.2; omega)
        go_wp2_with fail
        go_roundw
        case rel =>
          refine ⟨k + 1, l2, css ++ [[.int .i64 kk, .int .i64 nn, .bool ng, .slice am ml cm, .string tx, .slice ai il ci, .slice ar rl cr]], .slice av2 (k + 1) cv2, M' * M, by go_num, by have := HF.out.2.2.2.2.2.2; omega, ⟨⟨HS.out.2.2.2.2.2.2.2.2.2, by have := HS.out.2.2.2.2.2.2.2.1; have := HF.out.2.2.1.1.2; omega⟩, HS.out.2.2.2.1⟩, ⟨?_, ?_, ?_⟩, ⟨?_, HW.out.1.ok⟩, HW.out.2⟩
          · rw [List.length_append, HF.out.2.2.2.1]; rfl
          · intro cs hcs
            rcases List.mem_append.1 hcs with hcs | hcs
            · exact HF.out.2.2.2.2.1 cs hcs
            · rw [List.mem_singleton.1 hcs]; rfl
          · have htk : items.take (k + 1) = items.take k ++ [d'] := by
              have hq : items[k]? = some d' := by
                have := List.getElem?_drop (xs := items) (i := k) (j := 0)
                rw [HM.out.2.1, Nat.add_zero] at this
                exact this.symm
              rw [List.take_add_one, hq]; rfl
            intro i d cs hd hc
            rw [htk] at hd
            have htl : (items.take k).length = k := by rw [List.length_take]; have := HF.out.2.2.2.2.2.2; omega
            have hcl := HF.out.2.2.2.1
            by_cases hi : i < k
            · rw [List.getElem?_append_left (by omega)] at hd hc
              exact (HF.out.2.2.2.2.2.1 i d cs hd hc).mono (fun w h => h.right)
            · rw [List.getElem?_append_right (by omega)] at hd hc
              cases List.mem_singleton.1 (List.mem_of_getElem? hd)
              cases List.mem_singleton.1 (List.mem_of_getElem? hc)
              exact HS.out.2.2.2.2.1.mono (fun w h => h.left)
          · rw [List.flatten_append, List.flatten_cons, List.flatten_nil, List.append_nil]
            exact HW.out.1.s.perm (by ac_rfl)
        case measure => simp [intOf]; omega
    · obtain rfl : k = N := by have := HN.out.1; omega
      have hge : decide ((k : Int) < (k : Int)) = false := by simp
      have hlen := HN.out.1.1
      rw [List.take_of_length_le (by omega)] at htl hdk
      have hso0 : sat wr (own 54 7 v k css.flatten * (Go.Proofs.Ytanjiecefioffaa.blk w.heap.size (.cells #[.int .i64 0, .int .i64 0, .bool false, .slice none 0 0, .string ⟨#[]⟩, .slice none 0 0, .slice none 0 0] 54 (0, 0)) * (Go.Proofs.Ytanjiecefioffaa.blk g18 (vecB v) * (isHeap V S * (isSt X V.g Y * (Go.Proofs.Ytanjiecefioffaa.blk gl (.cells #[.int .i64 left'] 3 (0, 0)) * (M * R))))))) := hs.s.perm (by ac_rfl)
      obtain ⟨av, cv, rfl⟩ := own_val hso0
      obtain ⟨ao', cap', hq, hcv⟩ := slice_val hso0
      simp only [Value.slice.injEq, true_and] at hq
      obtain ⟨rfl, rfl⟩ := hq
      have hrow := row_dks (M := M) (l := items) (css := css) (by omega) hlen.symm hdk wr hso0
      have hpost : ∀ w9, sat w9 (Go.Proofs.Ytanjiecefioffaa.blk w.heap.size (dmO [.int .i64 7, .int .i64 0, .bool false, .slice none 0 0, .string ⟨#[]⟩, .slice av k cv, .slice none 0 0]) * (Go.Proofs.Ytanjiecefioffaa.blk g18 (vecB (.slice av k cv)) * (isHeap V S * (isSt X V.g Y * (own 54 7 (.slice av k cv) k css.flatten * (Go.Proofs.Ytanjiecefioffaa.blk gl (.cells #[.int .i64 left'] 3 (0, 0)) * (M * R))))))) → Below 0 w w9 → TakeR gl X V S Y R (.mk 7 0 false [] ⟨#[]⟩ items []) ((L : Int) + 1) deep w (.returned (.tuple #[.agg #[.int .i64 7, .int .i64 0, .bool false, .slice none 0 0, .string ⟨#[]⟩, .slice av k cv, .slice none 0 0], .bool true])) w9 := by
        intro w9 h9 hb9
        have e9 : takeD (.mk 7 0 false [] ⟨#[]⟩ items []) ((L : Int) + 1) deep = (left', true) := by
          unfold takeD
          rw [if_neg (by omega), show (L : Int) + 1 - 1 = L by omega, htl]
          unfold takeL
          rfl
        unfold TakeR
        rw [e9]
        refine ⟨[.int .i64 7, .int .i64 0, .bool false, .slice none 0 0, .string ⟨#[]⟩, .slice av k cv, .slice none 0 0], own 54 7 (.slice av k cv) k css.flatten * M, _, rfl, ?_, fun _ => rfl, ⟨h9.right.right.perm (by ac_rfl), hs.ok⟩, hb9⟩
        rw [← hlen]
        rw [← hlen] at hrow hcv
        exact DK.mk (mag := []) (am := none) (cm := 0) (ar := none) (cr := 0) ⟨by decide, by decide⟩ (fun w _ j x h => by simp at h) (fun x h => by simp at h) ⟨Nat.le_refl _, hcv, Nat.le_refl _⟩ hrow DKs.nil
      have hso : sat wr (Go.Proofs.Ytanjiecefioffaa.blk w.heap.size (.cells #[.int .i64 0, .int .i64 0, .bool false, .slice none 0 0, .string ⟨#[]⟩, .slice none 0 0, .slice none 0 0] 54 (0, 0)) * (Go.Proofs.Ytanjiecefioffaa.blk g18 (vecB (.slice av k cv)) * (isHeap V S * (isSt X V.g Y * (own 54 7 (.slice av k cv) k css.flatten * (Go.Proofs.Ytanjiecefioffaa.blk gl (.cells #[.int .i64 left'] 3 (0, 0)) * (M * R))))))) := hso0.perm (by ac_rfl)
      have c0 := (hso.left.cell 0).trans rfl
      have f0 := hso.left.frozen 0
      have c1 := (hso.left.cell 1).trans rfl
      have f1 := hso.left.frozen 1
      have c2 := (hso.left.cell 2).trans rfl
      have f2 := hso.left.frozen 2
      have c3 := (hso.left.cell 3).trans rfl
      have f3 := hso.left.frozen 3
      have c4 := (hso.left.cell 4).trans rfl
      have f4 := hso.left.frozen 4
      have c5 := (hso.left.cell 5).trans rfl
      have f5 := hso.left.frozen 5
      have c6 := (hso.left.cell 6).trans rfl
      have f6 := hso.left.frozen 6
      have d0 : wr.cell? ⟨g18, 0, none⟩ = some (.int .i64 7) := (hso.right.left.cell 0).trans rfl
      have d1 : wr.cell? ⟨g18, 1, none⟩ = some (.int .i64 0) := (hso.right.left.cell 1).trans rfl
      have d2 : wr.cell? ⟨g18, 2, none⟩ = some (.bool false) := (hso.right.left.cell 2).trans rfl
      have d3 : wr.cell? ⟨g18, 3, none⟩ = some (.slice none 0 0) := (hso.right.left.cell 3).trans rfl
      have d4 : wr.cell? ⟨g18, 4, none⟩ = some (.string ⟨#[]⟩) := (hso.right.left.cell 4).trans rfl
      have d5 : wr.cell? ⟨g18, 5, none⟩ = some (.slice av k cv) := (hso.right.left.cell 5).trans rfl
      have d6 : wr.cell? ⟨g18, 6, none⟩ = some (.slice none 0 0) := (hso.right.left.cell 6).trans rfl
      have HS := Lib.hid (And.intro hso (And.intro hb hpost))
      clear hso hso0 hpost hs hb hl' htl hcl h7 hdk hlen hrow hcv hkN hlt
      go_wp2_with fail
      have hs9 := (((((((HS.out.1.setCell (off := 0) (.int .i64 7)).setCell (off := 1) (.int .i64 0)).setCell (off := 2) (.bool false)).setCell (off := 3) (.slice none 0 0)).setCell (off := 4) (.string ⟨#[]⟩)).setCell (off := 5) (.slice av k cv)).setCell (off := 6) (.slice none 0 0))
      have hb9 := (((((((HS.out.2.1.setCell (p := ⟨w.heap.size, 0, none⟩) (Nat.zero_le _) (.int .i64 7)).setCell (p := ⟨w.heap.size, 1, none⟩) (Nat.zero_le _) (.int .i64 0)).setCell (p := ⟨w.heap.size, 2, none⟩) (Nat.zero_le _) (.bool false)).setCell (p := ⟨w.heap.size, 3, none⟩) (Nat.zero_le _) (.slice none 0 0)).setCell (p := ⟨w.heap.size, 4, none⟩) (Nat.zero_le _) (.string ⟨#[]⟩)).setCell (p := ⟨w.heap.size, 5, none⟩) (Nat.zero_le _) (.slice av k cv)).setCell (p := ⟨w.heap.size, 6, none⟩) (Nat.zero_le _) (.slice none 0 0))
      clear c0 f0 c1 f1 c2 f2 c3 f3 c4 f4 c5 f5 c6 f6 d0 d1 d2 d3 d4 d5 d6
      generalize (((((((wr.setCell ⟨w.heap.size, 0, none⟩ (.int .i64 7)).setCell ⟨w.heap.size, 1, none⟩ (.int .i64 0)).setCell ⟨w.heap.size, 2, none⟩ (.bool false)).setCell ⟨w.heap.size, 3, none⟩ (.slice none 0 0)).setCell ⟨w.heap.size, 4, none⟩ (.string ⟨#[]⟩)).setCell ⟨w.heap.size, 5, none⟩ (.slice av k cv)).setCell ⟨w.heap.size, 6, none⟩ (.slice none 0 0)) = w9 at *
      obtain ⟨r0, r1, r2, r3, r4, r5, r6⟩ := cells7 hs9
      rw [arr7] at hs9
      exact bodyPost_ret (v := .tuple #[.agg #[.int .i64 7, .int .i64 0, .bool false, .slice none 0 0, .string ⟨#[]⟩, .slice av k cv, .slice none 0 0], .bool true]) (by simp [results, Try.results60, go_sem, r0, r1, r2, r3, r4, r5, r6]) rfl (HS.out.2.2 _ hs9 hb9)
end
end Go.Proofs.Ytanjiecefioffaa

/- value.Store.take and Take of whatever datum. -/
namespace Go.Proofs.Ytanjiecefioffaa
open Go.RowKit
theorem Dm.size_mem {l : List Dm} {d : Dm} (h : d ∈ l) : d.size ≤ Dm.sizes l := by
  obtain ⟨i, hi⟩ := List.mem_iff_getElem?.1 h
  exact Dm.size_le hi
theorem takes_all : ∀ (s : Nat) (p : Dm), p.size ≤ s → ∀ deep : Int, 0 ≤ deep ∧ deep ≤ 100 → TakesAt p deep := by
  intro s
  induction s with
  | zero => intro p hp; have := p.size_pos; omega
  | succ s ih =>
    intro p hp deep hd w X V S Y R gl left x hl h hin
    by_cases h0 : left = 0 ∨ deep = 0
    · exact takes_shut p gl hl h0 x h
    · cases p with
      | mk k n neg mag text items rest =>
      unfold Dm.size at hp
      obtain ⟨L, rfl⟩ : ∃ L : Nat, left = (L : Int) + 1 := ⟨(left - 1).toNat, by omega⟩
      have hP : ∀ d ∈ items, TakesAt d (deep - 1) := fun d hdm => ih d (by have := Dm.size_mem hdm; omega) (deep - 1) (by omega)
      have hP2 : ∀ d ∈ rest, TakesAt d (deep - 1) := fun d hdm => ih d (by have := Dm.size_mem hdm; omega) (deep - 1) (by omega)
      have hin0 := hin
      unfold HIn at hin
      obtain ⟨bx, hin⟩ := hin
      rcases hin with ⟨v, rfl, rfl, h3, h4, rfl, rfl, rfl, _⟩ | ⟨rfl, rfl, rfl, rfl, rfl, rfl, hx⟩ | ⟨rfl, rfl, rfl, rfl, rfl, rfl, _⟩ | ⟨rfl, rfl, rfl, rfl, rfl, rfl, _⟩ | ⟨rfl, rfl, rfl, rfl, rfl, rfl, _⟩ | ⟨rfl, rfl, rfl, rfl, rfl, rfl, rfl, _⟩ | ⟨rfl, rfl, rfl, rfl, rfl, y, h6, h7, h8⟩ | ⟨rfl, rfl, rfl, rfl, rfl, rfl, h6, h7, h8, h9⟩
      · exact takes_ends _ _ _ _ _ (by decide) (by omega) gl (by omega) x h hin0
      · exact takes_ends _ _ _ _ _ (by decide) (by omega) gl (by omega) x h hin0
      · exact takes_ends _ _ _ _ _ (by decide) (by omega) gl (by omega) x h hin0
      · exact takes_ends _ _ _ _ _ (by decide) (by omega) gl (by omega) x h hin0
      · exact takes_ends _ _ _ _ _ (by decide) (by omega) gl (by omega) x h hin0
      · exact takes_ends _ _ _ _ _ (by decide) (by omega) gl (by omega) x h hin0
      · by_cases hi : items = []
        · have hr := h8 hi
          subst hi
          subst hr
          exact takes_ends _ _ _ _ _ (by decide) (by omega) gl (by omega) x h hin0
        · exact takes_pair gl L deep x y items rest (by omega) (by omega) h bx h6 h7 hi hP hP2
      · obtain ⟨q1, q2, q3⟩ := vec_told bx.1 h6 h8 h9
        exact takes_vec gl L items.length deep x items (by omega) (by omega) h bx q1 q2 q3 ⟨rfl, h6⟩ hP
section
variable {w : World} {X : StV} {V : HV} {S : HS} {Y : StS} {R : HP}
/-- What Take tells. -/
def TookPost (X : StV) (V : HV) (S : HS) (Y : StS) (R : HP) (p : Dm) (w : World) (e : Ending) (w' : World) : Prop :=
  ∃ (cs : List Value) (M : HP) (d : Dm), e = .returned (.tuple #[.agg cs.toArray, .bool (takeD p 20000 100).2]) ∧ DK M d cs ∧ ((takeD p 20000 100).2 = true → d = p) ∧ StW w' X V S Y (M * R) ∧ Below 0 w w'
set_option maxRecDepth 100000 in
set_option maxHeartbeats 2000000 in
theorem StW.Take_dm (h : StW w X V S Y R) (p : Dm) (x : Int) (hin : HIn S p x) :
    Calls Try.prog 28 #[.pointer (some ⟨X.g, 0, none⟩), .int .u64 x, .int .i64 20000] w (TookPost X V S Y R p w) := by
  have HH := Lib.hid (And.intro h hin)
  clear h hin
  go_enter Try.func28, Try.ntmps28
  go_wp2_with fail
  have hp0 := (HH.out.1.push (.cells #[.int .i64 0, .int .i64 0, .bool false, .slice none 0 0, .string ⟨#[]⟩, .slice none 0 0, .slice none 0 0] 54)).push (.cells #[.int .i64 20000] 3)
  rw [World.size_alloc] at hp0
  have hbp : Below 0 w ((w.alloc (.cells #[.int .i64 0, .int .i64 0, .bool false, .slice none 0 0, .string ⟨#[]⟩, .slice none 0 0, .slice none 0 0] 54)).alloc (.cells #[.int .i64 20000] 3)) := (Below.zero_alloc _ _).trans (Below.zero_alloc _ _)
  have hT := takes_all _ p (Nat.le_refl _) 100 (by decide) _ X V S Y _ (w.heap.size + 1) 20000 x (by decide) hp0 HH.out.2
  have HB := Lib.hid hbp
  clear hp0 hbp
  with_reducible refine hT.mono ?_
  rintro e w3 ⟨cs, M, d, rfl, hdk, hok, h3, hb3⟩
  obtain ⟨b, hbq⟩ : ∃ b, (takeD p 20000 100).2 = b := ⟨_, rfl⟩
  rw [hbq] at hok ⊢
  obtain ⟨kk, nn, ng, am, ml, cm, tx, ai, il, ci, ar, rl, cr, rfl⟩ := hdk.cells
  have h4 := h3.push (dmO [.int .i64 kk, .int .i64 nn, .bool ng, .slice am ml cm, .string tx, .slice ai il ci, .slice ar rl cr])
  have hso : sat (w3.alloc (dmO [.int .i64 kk, .int .i64 nn, .bool ng, .slice am ml cm, .string tx, .slice ai il ci, .slice ar rl cr])) (Go.Proofs.Ytanjiecefioffaa.blk w.heap.size (.cells #[.int .i64 0, .int .i64 0, .bool false, .slice none 0 0, .string ⟨#[]⟩, .slice none 0 0, .slice none 0 0] 54 (0, 0)) * (isHeap V S * (isSt X V.g Y * (M * R)))) := (h4.s.perm (show _ = (Go.Proofs.Ytanjiecefioffaa.blk w3.heap.size (dmO [.int .i64 kk, .int .i64 nn, .bool ng, .slice am ml cm, .string tx, .slice ai il ci, .slice ar rl cr]) * (Go.Proofs.Ytanjiecefioffaa.blk (w.heap.size + 1) (.cells #[.int .i64 (takeD p 20000 100).1] 3 (0, 0)))) * (Go.Proofs.Ytanjiecefioffaa.blk w.heap.size (.cells #[.int .i64 0, .int .i64 0, .bool false, .slice none 0 0, .string ⟨#[]⟩, .slice none 0 0, .slice none 0 0] 54 (0, 0)) * (isHeap V S * (isSt X V.g Y * (M * R)))) by ac_rfl)).right
  have hb5 := (HB.out.trans hb3).trans (Below.zero_alloc w3 (dmO [.int .i64 kk, .int .i64 nn, .bool ng, .slice am ml cm, .string tx, .slice ai il ci, .slice ar rl cr]))
  have hpost : ∀ (ct : Bool) w9, ((takeD p 20000 100).2 = ct) → sat w9 (Go.Proofs.Ytanjiecefioffaa.blk w.heap.size (dmO [.int .i64 kk, .int .i64 nn, .bool ng, .slice am ml cm, .string tx, .slice ai il ci, .slice ar rl cr]) * (isHeap V S * (isSt X V.g Y * (M * R)))) → Below 0 w w9 → TookPost X V S Y R p w (.returned (.tuple #[.agg #[.int .i64 kk, .int .i64 nn, .bool ng, .slice am ml cm, .string tx, .slice ai il ci, .slice ar rl cr], .bool ct])) w9 := by
    intro ct w9 hct h9 hb9
    unfold TookPost
    rw [hct]
    exact ⟨_, M, d, rfl, hdk, fun hh => hok (by rw [← hbq, hct]; exact hh), ⟨h9.right.perm (by ac_rfl), h4.ok⟩, hb9⟩
  have hpost0 : ∀ w9, b = false → sat w9 (Go.Proofs.Ytanjiecefioffaa.blk w.heap.size (dmO [.int .i64 0, .int .i64 0, .bool false, .slice none 0 0, .string ⟨#[]⟩, .slice none 0 0, .slice none 0 0]) * (isHeap V S * (isSt X V.g Y * (M * R)))) → Below 0 w w9 → TookPost X V S Y R p w (.returned (.tuple #[zeroD, .bool false])) w9 := by
    intro w9 hct h9 hb9
    unfold TookPost
    rw [hbq, hct]
    have hn : sat w9 (own 70 1 (.slice none 0 0) 0 [] * (Go.Proofs.Ytanjiecefioffaa.blk w.heap.size (dmO [.int .i64 0, .int .i64 0, .bool false, .slice none 0 0, .string ⟨#[]⟩, .slice none 0 0, .slice none 0 0]) * (isHeap V S * (isSt X V.g Y * (M * R))))) := h9.nil_own
    have hn2 : sat w9 ((Go.Proofs.Ytanjiecefioffaa.blk w.heap.size (dmO [.int .i64 0, .int .i64 0, .bool false, .slice none 0 0, .string ⟨#[]⟩, .slice none 0 0, .slice none 0 0]) * M) * (isHeap V S * (isSt X V.g Y * (own 70 1 (.slice none 0 0) 0 [] * R)))) := hn.perm (by ac_rfl)
    exact ⟨_, own 70 1 (.slice none 0 0) 0 [], _, rfl, leaf_DK 0 0 ⟨#[]⟩ (by decide) (by decide) _, fun hh => (by cases hh), ⟨hn2.right, h4.ok⟩, hb9⟩
  have c0 := (hso.left.cell 0).trans rfl
  have f0 := hso.left.frozen 0
  have c1 := (hso.left.cell 1).trans rfl
  have f1 := hso.left.frozen 1
  have c2 := (hso.left.cell 2).trans rfl
  have f2 := hso.left.frozen 2
  have c3 := (hso.left.cell 3).trans rfl
  have f3 := hso.left.frozen 3
  have c4 := (hso.left.cell 4).trans rfl
  have f4 := hso.left.frozen 4
  have c5 := (hso.left.cell 5).trans rfl
  have f5 := hso.left.frozen 5
  have c6 := (hso.left.cell 6).trans rfl
  have f6 := hso.left.frozen 6
  have HG := Lib.hid (And.intro hso (And.intro hb5 (And.intro hpost (And.intro hpost0 hbq))))
  clear h3 hb3 h4 hT hso hb5 hpost hpost0 hdk hok hbq
  cases b
  case false =>
    go_wp2_with fail
    have hs7 := (((((((HG.out.1.setCell (off := 0) (.int .i64 0)).setCell (off := 1) (.int .i64 0)).setCell (off := 2) (.bool false)).setCell (off := 3) (.slice none 0 0)).setCell (off := 4) (.string ⟨#[]⟩)).setCell (off := 5) (.slice none 0 0)).setCell (off := 6) (.slice none 0 0))
    have hb7 := (((((((HG.out.2.1.setCell (p := ⟨w.heap.size, 0, none⟩) (Nat.zero_le _) (.int .i64 0)).setCell (p := ⟨w.heap.size, 1, none⟩) (Nat.zero_le _) (.int .i64 0)).setCell (p := ⟨w.heap.size, 2, none⟩) (Nat.zero_le _) (.bool false)).setCell (p := ⟨w.heap.size, 3, none⟩) (Nat.zero_le _) (.slice none 0 0)).setCell (p := ⟨w.heap.size, 4, none⟩) (Nat.zero_le _) (.string ⟨#[]⟩)).setCell (p := ⟨w.heap.size, 5, none⟩) (Nat.zero_le _) (.slice none 0 0)).setCell (p := ⟨w.heap.size, 6, none⟩) (Nat.zero_le _) (.slice none 0 0))
    clear c0 f0 c1 f1 c2 f2 c3 f3 c4 f4 c5 f5 c6 f6
    generalize ((((((((w3.alloc (dmO [.int .i64 kk, .int .i64 nn, .bool ng, .slice am ml cm, .string tx, .slice ai il ci, .slice ar rl cr])).setCell ⟨w.heap.size, 0, none⟩ (.int .i64 0)).setCell ⟨w.heap.size, 1, none⟩ (.int .i64 0)).setCell ⟨w.heap.size, 2, none⟩ (.bool false)).setCell ⟨w.heap.size, 3, none⟩ (.slice none 0 0)).setCell ⟨w.heap.size, 4, none⟩ (.string ⟨#[]⟩)).setCell ⟨w.heap.size, 5, none⟩ (.slice none 0 0)).setCell ⟨w.heap.size, 6, none⟩ (.slice none 0 0)) = w7 at *
    obtain ⟨r0, r1, r2, r3, r4, r5, r6⟩ := cells7 hs7
    rw [arr7] at hs7
    exact bodyPost_ret (v := .tuple #[zeroD, .bool false]) (by simp [results, Try.results28, go_sem, r0, r1, r2, r3, r4, r5, r6, zeroD]) rfl (HG.out.2.2.2.1 _ (by trivial) hs7 hb7)
  case true =>
    go_wp2_with fail
    have hs7 := (((((((HG.out.1.setCell (off := 0) (.int .i64 kk)).setCell (off := 1) (.int .i64 nn)).setCell (off := 2) (.bool ng)).setCell (off := 3) (.slice am ml cm)).setCell (off := 4) (.string tx)).setCell (off := 5) (.slice ai il ci)).setCell (off := 6) (.slice ar rl cr))
    have hb7 := (((((((HG.out.2.1.setCell (p := ⟨w.heap.size, 0, none⟩) (Nat.zero_le _) (.int .i64 kk)).setCell (p := ⟨w.heap.size, 1, none⟩) (Nat.zero_le _) (.int .i64 nn)).setCell (p := ⟨w.heap.size, 2, none⟩) (Nat.zero_le _) (.bool ng)).setCell (p := ⟨w.heap.size, 3, none⟩) (Nat.zero_le _) (.slice am ml cm)).setCell (p := ⟨w.heap.size, 4, none⟩) (Nat.zero_le _) (.string tx)).setCell (p := ⟨w.heap.size, 5, none⟩) (Nat.zero_le _) (.slice ai il ci)).setCell (p := ⟨w.heap.size, 6, none⟩) (Nat.zero_le _) (.slice ar rl cr))
    clear c0 f0 c1 f1 c2 f2 c3 f3 c4 f4 c5 f5 c6 f6
    generalize ((((((((w3.alloc (dmO [.int .i64 kk, .int .i64 nn, .bool ng, .slice am ml cm, .string tx, .slice ai il ci, .slice ar rl cr])).setCell ⟨w.heap.size, 0, none⟩ (.int .i64 kk)).setCell ⟨w.heap.size, 1, none⟩ (.int .i64 nn)).setCell ⟨w.heap.size, 2, none⟩ (.bool ng)).setCell ⟨w.heap.size, 3, none⟩ (.slice am ml cm)).setCell ⟨w.heap.size, 4, none⟩ (.string tx)).setCell ⟨w.heap.size, 5, none⟩ (.slice ai il ci)).setCell ⟨w.heap.size, 6, none⟩ (.slice ar rl cr)) = w7 at *
    obtain ⟨r0, r1, r2, r3, r4, r5, r6⟩ := cells7 hs7
    rw [arr7] at hs7
    exact bodyPost_ret (v := .tuple #[.agg #[.int .i64 kk, .int .i64 nn, .bool ng, .slice am ml cm, .string tx, .slice ai il ci, .slice ar rl cr], .bool true]) (by simp [results, Try.results28, go_sem, r0, r1, r2, r3, r4, r5, r6]) rfl (HG.out.2.2.1 true _ HG.out.2.2.2.2 hs7 hb7)
end
end Go.Proofs.Ytanjiecefioffaa

/- ValueBack's walk. -/
namespace Go.Proofs.Ytanjiecefioffaa
open Go.RowKit

section
variable {w : World} {X : StV} {V : HV} {S : HS} {Y : StS} {R : HP}
theorem SyOk.words (hy : SyOk S Y) (hw : WfH S.ws S.bs) (hs : S.ws.length ≤ 1048576) : (∀ s ∈ Y.ord, ∃ v, Y.syms.get s = some v ∧ 0 ≤ v ∧ v < 18446744073709551616) ∧ ∀ y ∈ Y.words, 0 ≤ y ∧ y < 18446744073709551616 := by
  have h1 : ∀ s ∈ Y.ord, ∃ v, Y.syms.get s = some v ∧ 0 ≤ v ∧ v < 18446744073709551616 := by
    intro s hs'
    obtain ⟨v, hv⟩ := Option.isSome_iff_exists.1 (hy.ord s hs')
    exact ⟨v, hv, is_bd hw hs (hy.sym s v hv).1.is⟩
  refine ⟨h1, fun y hy' => ?_⟩
  unfold StS.words at hy'
  obtain ⟨s, hs', rfl⟩ := List.mem_map.1 hy'
  obtain ⟨v, hv, hb⟩ := h1 s hs'
  rw [hv]; exact hb
/-- Keep of one word. -/
theorem StW.Keep1 (h : StW w X V S Y R) (hy : SyOk S Y) (htm : S.times < 4611686018427387900) (b : Nat) (x : Int) (hb : ∀ w, sat w R → w.cell? ⟨b, 0, none⟩ = some (.int .u64 x)) (hx : 0 ≤ x ∧ x < 18446744073709551616) :
    Calls Try.prog 29 #[.pointer (some ⟨X.g, 0, none⟩), .slice (some ⟨b, 0, none⟩) 1 1] w fun e w' => ∃ (bo : Nat) (V' : HV) (R' : HP), e = .returned (.slice (some ⟨bo, 0, none⟩) 1 1) ∧ V'.g = V.g ∧
      StW w' X V' (S.collect (x :: Y.words)) (Y.kept S [x]) (R' * R) ∧ (∀ w, sat w (R' * R) → w.cell? ⟨bo, 0, none⟩ = some (.int .u64 (fwd S (gcEnd S (x :: Y.words)) x))) ∧
      (Res S (gcEnd S (x :: Y.words)) x ∧ ∀ y ∈ x :: Y.words, 0 ≤ y ∧ y < 18446744073709551616) ∧ Below 0 w w' := by
  have hle : S.ws.length ≤ 1048576 := h.hw.v.len
  obtain ⟨q1, q2⟩ := hy.words h.ok.wf hle
  have hall : ∀ y ∈ x :: Y.words, 0 ≤ y ∧ y < 18446744073709551616 := by
    intro y hy'
    rcases List.mem_cons.1 hy' with rfl | hy'
    · exact hx
    · exact q2 y hy'
  have he := gc_end h.ok.wf hle hall
  refine (h.Keep hy.tm (some ⟨b, 0, none⟩) 1 [x] ?_ (fun y hy' => by rw [List.mem_singleton.1 hy']; exact hx) (Nat.le_of_lt (by show 1 < 1048576; decide)) q1 (by have := hy.ol; omega) htm).mono ?_
  · intro w hw j y hj
    have hj0 := (List.getElem?_eq_some_iff.1 hj).1
    obtain rfl : j = 0 := by simp at hj0; omega
    simp at hj
    subst hj
    exact ⟨_, rfl, hb w hw⟩
  · rintro e w' ⟨bo, V', rfl, hg, h', hb'⟩
    refine ⟨bo, V', _, rfl, hg, h', ?_, ⟨he.res x (by simp), hall⟩, hb'⟩
    intro w2 hw2
    refine hw2.row_cell (j := 0) ?_
    show ((S.moved (x :: Y.words)).map u64)[0]? = _
    rw [he.out]
    rfl
end
theorem joinD_size (items : List Dm) (r : Dm) : (joinD items r).size ≤ 1 + Dm.sizes items + r.size := by
  cases r with
  | mk k n p m t i r =>
  simp only [joinD]
  split
  · rw [size_mk, size_mk, Dm.sizes_app]
    simp only [List.length_nil]
    show 1 + 0 + 0 + _ ≤ _
    omega
  · rw [size_mk, size_one]
    simp only [List.length_nil]
    show 1 + 0 + 0 + _ ≤ _
    omega
mutual
theorem plain_size {R : HP} : ∀ (d : Dm) {cs : List Value}, DK R d cs → (plainP d).size ≤ d.size
  | .mk k n neg mag text items rest, cs, h => by
    obtain ⟨am, cm, ai, ci, ar, cr, rfl, ⟨_, _, _, hm, _⟩, hi, hr⟩ := h.open
    have h1 := plains_size items hi
    have h2 := plains_size rest hr
    have h3 : (limbsOf (sgn neg (valL mag)).natAbs).length ≤ mag.length := by rw [sgn_abs]; exact limbsOf_len_le hm
    rw [size_mk]
    unfold plainP
    have e0 : (ByteArray.mk #[]).size = 0 := rfl
    split
    · rw [size_mk, size_nil, e0]; omega
    · split
      · rw [size_mk, size_nil, e0, List.length_nil]; omega
      · split
        · rw [size_mk, size_nil, List.length_nil]; omega
        · split
          · split
            · rename_i r he
              have h4 := joinD_size (plainPs items) r
              rw [he, size_one] at h2
              omega
            · rw [size_mk, size_nil, e0, List.length_nil]; omega
          · split
            · rw [size_mk, size_nil, e0, List.length_nil]; omega
            · rw [size_mk, size_nil, e0, List.length_nil]; omega
theorem plains_size {R : HP} : ∀ (l : List Dm) {ao : Option Addr} {k : Nat}, DKs R l ao k → Dm.sizes (plainPs l) ≤ Dm.sizes l
  | [], _, _, _ => by simp [plainPs]
  | d :: l, ao, k, h => by
    unfold DKs at h
    obtain ⟨⟨b, off, cs, _, _, h1⟩, h2⟩ := h
    have h3 := plain_size d h1
    have h4 := plains_size l h2
    simp only [plainPs, Dm.sizes]
    omega
end
set_option maxRecDepth 100000 in
set_option maxHeartbeats 4000000 in
theorem valueBack_walk (W : World) (p : Dm) (cs : List Value) (hp : DK (whole W) p cs ∧ p.size ≤ 1048576) :
    Calls Try.prog 5 #[.agg cs.toArray] W fun e w' => e = .returned (.bool true) ∧ Below W.heap.size W w' := by
  obtain ⟨hd, hsz⟩ := hp
  obtain ⟨d0, d1, d2, d3, d4, d5, d6, rfl⟩ := hd.seven
  have hs0 := (sat_whole W).alloc (dmO [d0, d1, d2, d3, d4, d5, d6])
  have hb0 := Below.zero_alloc W (dmO [d0, d1, d2, d3, d4, d5, d6])
  obtain ⟨g, hg⟩ : ∃ g, W.heap.size = g := ⟨_, rfl⟩
  rw [hg] at hs0
  have H0 := Lib.hid (And.intro hs0 (And.intro hb0 (And.intro hd hsz)))
  have HG := Lib.hid hg
  clear hs0 hb0 hd hsz
  go_enter Try.func5, Try.ntmps5
  go_wp2_with fail
  clear hg
  generalize W.alloc (dmO [d0, d1, d2, d3, d4, d5, d6]) = w0 at *
  refine (StNew_good 65536 H0.out.1 (by decide) (by decide)).mono ?_
  rintro e w1 ⟨X, V, rfl, h1, hb1⟩
  have hdm := h1.fr
  have c0 := hdm.left.cell 0
  have c1 := hdm.left.cell 1
  have c2 := hdm.left.cell 2
  have c3 := hdm.left.cell 3
  have c4 := hdm.left.cell 4
  have c5 := hdm.left.cell 5
  have c6 := hdm.left.cell 6
  simp only [List.getElem?_toArray, List.getElem?_cons_zero, List.getElem?_cons_succ] at c0 c1 c2 c3 c4 c5 c6
  have hC := copy_dm h1.s ((H0.out.2.2.1).mono (fun w h => h.right.right.right) _) H0.out.2.2.2
  have H1 := Lib.hid (And.intro h1 (H0.out.2.1.trans hb1))
  clear hdm h1 hb1
  go_wp2_with fail
  refine hC.mono ?_
  clear hC
  rintro e w2 ⟨cs2, M2, rfl, hd2, hs2, hb2⟩
  have h2 : StW w2 X V (HS.new 65536) ⟨[], [], 0⟩ (M2 * (Go.Proofs.Ytanjiecefioffaa.blk g (dmO [d0, d1, d2, d3, d4, d5, d6]) * whole W)) := ⟨hs2.perm (by ac_rfl), H1.out.1.ok⟩
  have hy2 : SyOk (HS.new 65536) ⟨[], [], 0⟩ := ⟨rfl, fun s v h => by simp [SM.get] at h, fun s h => by simp at h, Nat.zero_le _⟩
  have hP := h2.Put_dm hy2 p H0.out.2.2.2 cs2 (hd2.mono (fun w h => h.left) _)
  have H2 := Lib.hid (H1.out.2.trans hb2)
  clear hs2 hb2 h2 hy2 hd2 c0 c1 c2 c3 c4 c5 c6
  go_wp2_with fail
  refine hP.mono ?_
  clear hP
  rintro e w3 ⟨X3, V3, S3, Y3, x, ok, rfl, hg3, h3, hy3, he3, hm3, ⟨hbx, hq⟩, hb3⟩
  cases ok with
  | false =>
    have HQ := Lib.hid (And.intro h3.fr.right.right (H2.out.trans hb3))
    clear h3 hy3 he3 hm3 hbx hq hb3 hg3
    go_wp2_with fail
    refine (awake_any _ HQ.out.1).mono ?_
    rintro e w8 ⟨rfl, h8, hb8⟩
    go_wp2_with fail
    go_ret
    exact ⟨rfl, below_of_whole' h8 (HQ.out.2.trans hb8)⟩
  | true =>
    have hin := (hq rfl).1
    have hT := h3.Take_dm (plainP p) x hin
    rw [hg3.1] at hT
    have H3 := Lib.hid (And.intro h3.ok (And.intro hy3 (And.intro he3 (And.intro hin (And.intro (H2.out.trans hb3) (And.intro hbx hg3))))))
    clear h3 hy3 he3 hm3 hbx hq hb3 hin hg3
    go_wp2_with fail
    refine hT.mono ?_
    clear hT
    rintro e w4 ⟨cs4, M4, p4, rfl, hd4, hok4, h4, hb4⟩
    obtain ⟨b, hbq⟩ : ∃ b, (takeD (plainP p) 20000 100).2 = b := ⟨_, rfl⟩
    rw [hbq] at hok4 ⊢
    obtain ⟨kx, nx, ngx, amx, mlx, cmx, txx, aix, ilx, cix, arx, rlx, crx, rfl⟩ := hd4.cells
    have h5 := (h4.push (dmO [.int .i64 kx, .int .i64 nx, .bool ngx, .slice amx mlx cmx, .string txx, .slice aix ilx cix, .slice arx rlx crx])).push (.cells #[.int .u64 x] 22)
    rw [World.size_alloc] at h5
    have hb5 := ((H3.out.2.2.2.2.1.trans hb4).trans (Below.zero_alloc w4 (dmO [.int .i64 kx, .int .i64 nx, .bool ngx, .slice amx mlx cmx, .string txx, .slice aix ilx cix, .slice arx rlx crx]))).trans (Below.zero_alloc _ (.cells #[.int .u64 x] 22))
    have hle : S3.ws.length ≤ 1048576 := h5.hw.v.len
    have hK := h5.Keep1 H3.out.2.1 (by rw [H3.out.2.2.1.2.2]; decide) (w4.heap.size + 1) x (fun w h => (h.left.cell 0).trans rfl) H3.out.2.2.2.2.2.1
    rw [H3.out.2.2.2.2.2.2.1] at hK
    have H5 := Lib.hid (And.intro h5.ok (And.intro hb5 (And.intro hok4 (And.intro hd4 (And.intro hle hbq)))))
    clear h5 hb5 h4 hb4 hok4 hd4 hbq hle
    go_wp2_with fail
    generalize w4.heap.size = gx at *
    refine hK.mono ?_
    clear hK
    rintro e w6 ⟨bo, V6, R6, rfl, hg6, h6, hc6, ⟨hres, hall⟩, hb6⟩
    have hin6 := HIn.moved H5.out.1.wf H5.out.2.2.2.2.1 hall (plainP p) H3.out.2.2.2.1 hres
    obtain ⟨y, hy⟩ : ∃ y, fwd S3 (gcEnd S3 (x :: Y3.words)) x = y := ⟨_, rfl⟩
    rw [hy] at hc6 hin6
    have k0 := hc6 w6 h6.fr
    have hT2 := h6.Take_dm (plainP p) y hin6
    rw [H3.out.2.2.2.2.2.2.1] at hT2
    have H6 := Lib.hid (H5.out.2.1.trans hb6)
    clear h6 hc6 hres hall hin6 hb6 hy hg6
    go_wp2_with fail
    refine hT2.mono ?_
    clear hT2 k0
    rintro e w7 ⟨cs7, M7, p7, rfl, hd7, hok7, h7, hb7⟩
    rw [H5.out.2.2.2.2.2] at hok7 ⊢
    obtain ⟨ky, ny, ngy, amy, mly, cmy, txy, aiy, ily, ciy, ary, rly, cry, rfl⟩ := hd7.cells
    have h8 := h7.push (dmO [.int .i64 ky, .int .i64 ny, .bool ngy, .slice amy mly cmy, .string txy, .slice aiy ily ciy, .slice ary rly cry])
    have hb8 := (H6.out.trans hb7).trans (Below.zero_alloc w7 (dmO [.int .i64 ky, .int .i64 ny, .bool ngy, .slice amy mly cmy, .string txy, .slice aiy ily ciy, .slice ary rly cry]))
    have hs8 : sat (w7.alloc (dmO [.int .i64 ky, .int .i64 ny, .bool ngy, .slice amy mly cmy, .string txy, .slice aiy ily ciy, .slice ary rly cry])) (Go.Proofs.Ytanjiecefioffaa.blk gx (dmO [.int .i64 kx, .int .i64 nx, .bool ngx, .slice amx mlx cmx, .string txx, .slice aix ilx cix, .slice arx rlx crx]) * (Go.Proofs.Ytanjiecefioffaa.blk w7.heap.size (dmO [.int .i64 ky, .int .i64 ny, .bool ngy, .slice amy mly cmy, .string txy, .slice aiy ily ciy, .slice ary rly cry]) * (Go.Proofs.Ytanjiecefioffaa.blk g (dmO [d0, d1, d2, d3, d4, d5, d6]) * (M7 * (M4 * whole W))))) := (h8.s.perm (show _ = (isHeap V6 (S3.collect (x :: Y3.words)) * (isSt X3 V6.g (Y3.kept S3 [x]) * (R6 * (Go.Proofs.Ytanjiecefioffaa.blk (gx + 1) (.cells #[.int .u64 x] 22 (0, 0)) * M2)))) * (Go.Proofs.Ytanjiecefioffaa.blk gx (dmO [.int .i64 kx, .int .i64 nx, .bool ngx, .slice amx mlx cmx, .string txx, .slice aix ilx cix, .slice arx rlx crx]) * (Go.Proofs.Ytanjiecefioffaa.blk w7.heap.size (dmO [.int .i64 ky, .int .i64 ny, .bool ngy, .slice amy mly cmy, .string txy, .slice aiy ily ciy, .slice ary rly cry]) * (Go.Proofs.Ytanjiecefioffaa.blk g (dmO [d0, d1, d2, d3, d4, d5, d6]) * (M7 * (M4 * whole W))))) by ac_rfl)).right
    have H8 := Lib.hid (And.intro hs8 (And.intro hb8 (And.intro hok7 hd7)))
    clear hs8 hb8 hok7 hd7 h8 h7 hb7
    cases b with
    | false =>
      go_wp2_with fail
      refine (awake_any _ H8.out.1.right.right.right.right.right).mono ?_
      rintro e w9 ⟨rfl, h9, hb9⟩
      go_wp2_with fail
      go_ret
      exact ⟨rfl, below_of_whole' h9 (H8.out.2.1.trans hb9)⟩
    | true =>
      go_wp2_with fail
      generalize w7.alloc (dmO [.int .i64 ky, .int .i64 ny, .bool ngy, .slice amy mly cmy, .string txy, .slice aiy ily ciy, .slice ary rly cry]) = w8 at *
      generalize w7.heap.size = gy at *
      obtain rfl := H8.out.2.2.1 (by trivial)
      obtain rfl := H5.out.2.2.1 (by trivial)
      have q5 := H5.out.2.2.2.1
      have q8 := H8.out
      clear H5 H8
      generalize (Value.int .i64 kx) = vx0 at *
      generalize (Value.int .i64 nx) = vx1 at *
      generalize (Value.bool ngx) = vx2 at *
      generalize (Value.slice amx mlx cmx) = vx3 at *
      generalize (Value.string txx) = vx4 at *
      generalize (Value.slice aix ilx cix) = vx5 at *
      generalize (Value.slice arx rlx crx) = vx6 at *
      generalize (Value.int .i64 ky) = vy0 at *
      generalize (Value.int .i64 ny) = vy1 at *
      generalize (Value.bool ngy) = vy2 at *
      generalize (Value.slice amy mly cmy) = vy3 at *
      generalize (Value.string txy) = vy4 at *
      generalize (Value.slice aiy ily ciy) = vy5 at *
      generalize (Value.slice ary rly cry) = vy6 at *
      have Q8 := Lib.hid q8
      have Q5 := Lib.hid (And.intro True.intro (And.intro True.intro (And.intro True.intro (And.intro q5 True.intro))))
      clear q5 q8
      have hcc : ∀ w', sat w' (Go.Proofs.Ytanjiecefioffaa.blk gx (dmO [vx0, vx1, vx2, vx3, vx4, vx5, vx6]) * (Go.Proofs.Ytanjiecefioffaa.blk gy (dmO [vy0, vy1, vy2, vy3, vy4, vy5, vy6]) * (Go.Proofs.Ytanjiecefioffaa.blk g (dmO [d0, d1, d2, d3, d4, d5, d6]) * (M7 * (M4 * whole W))))) → (w'.cell? ⟨gx, 0, none⟩ = some (vx0) ∧ w'.cell? ⟨gx, 1, none⟩ = some (vx1) ∧ w'.cell? ⟨gx, 2, none⟩ = some (vx2) ∧ w'.cell? ⟨gx, 3, none⟩ = some (vx3) ∧ w'.cell? ⟨gx, 4, none⟩ = some (vx4) ∧ w'.cell? ⟨gx, 5, none⟩ = some (vx5) ∧ w'.cell? ⟨gx, 6, none⟩ = some (vx6) ∧ w'.cell? ⟨gy, 0, none⟩ = some (vy0) ∧ w'.cell? ⟨gy, 1, none⟩ = some (vy1) ∧ w'.cell? ⟨gy, 2, none⟩ = some (vy2) ∧ w'.cell? ⟨gy, 3, none⟩ = some (vy3) ∧ w'.cell? ⟨gy, 4, none⟩ = some (vy4) ∧ w'.cell? ⟨gy, 5, none⟩ = some (vy5) ∧ w'.cell? ⟨gy, 6, none⟩ = some (vy6) ∧ w'.cell? ⟨g, 0, none⟩ = some (d0) ∧ w'.cell? ⟨g, 1, none⟩ = some (d1) ∧ w'.cell? ⟨g, 2, none⟩ = some (d2) ∧ w'.cell? ⟨g, 3, none⟩ = some (d3) ∧ w'.cell? ⟨g, 4, none⟩ = some (d4) ∧ w'.cell? ⟨g, 5, none⟩ = some (d5) ∧ w'.cell? ⟨g, 6, none⟩ = some (d6)) := fun w' h => ⟨(h.left.cell 0).trans rfl, (h.left.cell 1).trans rfl, (h.left.cell 2).trans rfl, (h.left.cell 3).trans rfl, (h.left.cell 4).trans rfl, (h.left.cell 5).trans rfl, (h.left.cell 6).trans rfl, (h.right.left.cell 0).trans rfl, (h.right.left.cell 1).trans rfl, (h.right.left.cell 2).trans rfl, (h.right.left.cell 3).trans rfl, (h.right.left.cell 4).trans rfl, (h.right.left.cell 5).trans rfl, (h.right.left.cell 6).trans rfl, (h.right.right.left.cell 0).trans rfl, (h.right.right.left.cell 1).trans rfl, (h.right.right.left.cell 2).trans rfl, (h.right.right.left.cell 3).trans rfl, (h.right.right.left.cell 4).trans rfl, (h.right.right.left.cell 5).trans rfl, (h.right.right.left.cell 6).trans rfl⟩
      obtain ⟨F, hF⟩ : ∃ F : HP, F = (Go.Proofs.Ytanjiecefioffaa.blk gx (dmO [vx0, vx1, vx2, vx3, vx4, vx5, vx6]) * (Go.Proofs.Ytanjiecefioffaa.blk gy (dmO [vy0, vy1, vy2, vy3, vy4, vy5, vy6]) * (Go.Proofs.Ytanjiecefioffaa.blk g (dmO [d0, d1, d2, d3, d4, d5, d6]) * (M7 * (M4 * whole W))))) := ⟨_, rfl⟩
      have hs := Q8.out.1
      rw [← hF] at hcc hs
      have hFW : ∀ w', sat w' F → sat w' (whole W) := fun w' h => by rw [hF] at h; exact h.right.right.right.right.right
      have hpx : DK F (plainP p) [vx0, vx1, vx2, vx3, vx4, vx5, vx6] := Q5.out.2.2.2.1.mono (fun w' h => by rw [hF] at h; exact h.right.right.right.right.left) _
      have hpy : DK F (plainP p) [vy0, vy1, vy2, vy3, vy4, vy5, vy6] := Q8.out.2.2.2.mono (fun w' h => by rw [hF] at h; exact h.right.right.right.left) _
      have hpd : DK F p [d0, d1, d2, d3, d4, d5, d6] := H0.out.2.2.1.mono (fun w' h => hFW w' h) _
      have hpz : (plainP p).size ≤ 1048576 := Nat.le_trans (plain_size p H0.out.2.2.1) H0.out.2.2.2
      have hS1 := fun m => same_dm (hs.drewN m) hpx hpy hpz hpz
      rw [sameB_true.2 rfl] at hS1
      have hPl := fun w' (h : sat w' F) => plain_dm h hpd H0.out.2.2.2
      have hS2 := fun w' (M : HP) cs (h : sat w' (M * F)) (hc : DK M (plainP p) cs) => same_dm h (hpx.mono (fun w h => h.right) _) (hc.mono (fun w h => h.left) _) hpz hpz
      rw [sameB_true.2 rfl] at hS2
      have HZ := Lib.hid (And.intro hcc (And.intro hS1 (And.intro hPl (And.intro hS2 (And.intro hFW Q8.out.2.1)))))
      obtain ⟨x0, x1, x2, x3, x4, x5, x6, y0, y1, y2, y3, y4, y5, y6, z0, z1, z2, z3, z4, z5, z6⟩ := hcc w8 hs
      clear hcc hS1 hPl hS2 hFW hpx hpy hpd hpz hs hF Q8 H6 Q5 H3 H2 H1
      go_region_held3 (fun w' => w'.cell? ⟨gx, 0, none⟩ = some (vx0) ∧ w'.cell? ⟨gx, 1, none⟩ = some (vx1) ∧ w'.cell? ⟨gx, 2, none⟩ = some (vx2) ∧ w'.cell? ⟨gx, 3, none⟩ = some (vx3) ∧ w'.cell? ⟨gx, 4, none⟩ = some (vx4) ∧ w'.cell? ⟨gx, 5, none⟩ = some (vx5) ∧ w'.cell? ⟨gx, 6, none⟩ = some (vx6) ∧ w'.cell? ⟨gy, 0, none⟩ = some (vy0) ∧ w'.cell? ⟨gy, 1, none⟩ = some (vy1) ∧ w'.cell? ⟨gy, 2, none⟩ = some (vy2) ∧ w'.cell? ⟨gy, 3, none⟩ = some (vy3) ∧ w'.cell? ⟨gy, 4, none⟩ = some (vy4) ∧ w'.cell? ⟨gy, 5, none⟩ = some (vy5) ∧ w'.cell? ⟨gy, 6, none⟩ = some (vy6) ∧ w'.cell? ⟨g, 0, none⟩ = some (d0) ∧ w'.cell? ⟨g, 1, none⟩ = some (d1) ∧ w'.cell? ⟨g, 2, none⟩ = some (d2) ∧ w'.cell? ⟨g, 3, none⟩ = some (d3) ∧ w'.cell? ⟨g, 4, none⟩ = some (d4) ∧ w'.cell? ⟨g, 5, none⟩ = some (d5) ∧ w'.cell? ⟨g, 6, none⟩ = some (d6)) (first | exact k9 | exact k8 | exact k7 | exact k6 | go_keep)
        (first
          | (go_at_call 31; refine (HZ.out.2.2.1 _ h20).mono ?_; rintro e w21 ⟨cs5, M5, rfl, hd5, hz5, h21, hb21⟩; have k8 := HZ.out.1 _ h21.right)
          | (go_at_call 30; refine (HZ.out.2.2.2.1 _ _ _ h21 hd5).mono ?_; rintro e w22 ⟨rfl, h22, hb22⟩; have k7 := HZ.out.1 _ h22.right)
          | (go_at_call 30; refine (HZ.out.2.1 _).mono ?_; rintro e w20 ⟨rfl, h20, hb20⟩; have k9 := HZ.out.1 _ h20)
          | (go_at_call 16; refine (awake_any _ h22.right).mono ?_; rintro e w23 ⟨rfl, h23, hb23⟩; have k6 := HZ.out.1 _ h23))
      have HM := Lib.hid (And.intro (HZ.out.2.2.2.2.1 _ h23) (((((HZ.out.2.2.2.2.2.trans (drewN_below0 w8 1)).trans hb20).trans hb21).trans hb22).trans hb23))
      clear h20 h21 h22 h23 hb20 hb21 hb22 hb23 k9 k8 k7 k6
      go_wp2_with fail
      go_ret
      exact ⟨rfl, below_of_whole' HM.out.1 HM.out.2⟩
end Go.Proofs.Ytanjiecefioffaa
