/- tandemref10.datum: of numbers, lists and vectors. -/
import Derived.Test.YtkjfplldfjmbaaaRefDat
namespace Go.Proofs.Ytkjfplldfjmbaaa
open Go.RowKit
set_option maxRecDepth 100000 in
set_option maxHeartbeats 4000000 in
theorem rdat_int (n : Int) (neg : Bool) (mag : List Int) (text : ByteArray) (items rest : List Dm) (hz : mag.length ≤ 1048576) (w : World) (R : HP) (am : Option Addr) (cm : Nat) (ai : Option Addr) (ci : Nat) (ar : Option Addr) (cr : Nat)
    (hs : sat w R) (hd : DK R (.mk 1 n neg mag text items rest) [.int .i64 1, .int .i64 n, .bool neg, .slice am mag.length cm, .string text, .slice ai items.length ci, .slice ar rest.length cr]) :
    Calls Try.prog 30 #[.agg #[.int .i64 1, .int .i64 n, .bool neg, .slice am mag.length cm, .string text, .slice ai items.length ci, .slice ar rest.length cr]] w (BytesR R (constB (.mk 1 n neg mag text items rest)) w) := by
  obtain ⟨i0, hi, hz0, hz1, hz2⟩ := info_parts info_b8
  have H1 := Lib.hid (And.intro hi (And.intro hz0 (And.intro hz1 hz2)))
  clear hi hz0 hz1 hz2
  have h1 : sat (w.alloc (dmO [.int .i64 1, .int .i64 n, .bool neg, .slice am mag.length cm, .string text, .slice ai items.length ci, .slice ar rest.length cr])) (Go.Proofs.Ytkjfplldfjmbaaa.blk w.heap.size (dmO [.int .i64 1, .int .i64 n, .bool neg, .slice am mag.length cm, .string text, .slice ai items.length ci, .slice ar rest.length cr]) * R) := hs.alloc (dmO [.int .i64 1, .int .i64 n, .bool neg, .slice am mag.length cm, .string text, .slice ai items.length ci, .slice ar rest.length cr])
  have hb1 := Below.zero_alloc w (dmO [.int .i64 1, .int .i64 n, .bool neg, .slice am mag.length cm, .string text, .slice ai items.length ci, .slice ar rest.length cr])
  obtain ⟨g, hg⟩ : ∃ g, w.heap.size = g := ⟨_, rfl⟩
  rw [hg] at h1
  have a0 := h1.left.cell 0
  simp only [List.getElem?_toArray, List.getElem?_cons_zero] at a0
  obtain ⟨G, hG⟩ : ∃ G : HP, G = Go.Proofs.Ytkjfplldfjmbaaa.blk g (dmO [.int .i64 1, .int .i64 n, .bool neg, .slice am mag.length cm, .string text, .slice ai items.length ci, .slice ar rest.length cr]) * R := ⟨_, rfl⟩
  rw [← hG] at h1
  have hGc : ∀ w', sat w' G → w'.cell? ⟨g, 0, none⟩ = some (.int .i64 1) ∧ w'.cell? ⟨g, 1, none⟩ = some (.int .i64 n) ∧ w'.cell? ⟨g, 2, none⟩ = some (.bool neg) ∧ w'.cell? ⟨g, 3, none⟩ = some (.slice am mag.length cm) ∧ w'.cell? ⟨g, 4, none⟩ = some (.string text) ∧ w'.cell? ⟨g, 5, none⟩ = some (.slice ai items.length ci) ∧ w'.cell? ⟨g, 6, none⟩ = some (.slice ar rest.length cr) := fun w' h => by
    rw [hG] at h
    exact ⟨(h.left.cell 0).trans rfl, (h.left.cell 1).trans rfl, (h.left.cell 2).trans rfl, (h.left.cell 3).trans rfl, (h.left.cell 4).trans rfl, (h.left.cell 5).trans rfl, (h.left.cell 6).trans rfl⟩
  have hGR : ∀ w', sat w' G → sat w' R := fun w' h => by rw [hG] at h; exact h.right
  have hGd : ∀ (w' : World) (v : Value) (l : List Int), sat w' (own 5 1 v l.length (l.map bv) * G) → sat w' (own 5 1 v l.length (l.map bv) * R) := fun w' v l h => by
    rw [hG] at h
    exact (h.perm (show _ = Go.Proofs.Ytkjfplldfjmbaaa.blk g _ * (own _ _ _ _ _ * R) by ac_rfl)).right
  have hN := refp_num _ 1 rfl h1 (by decide) (by decide)
  have HX := Lib.hid (And.intro hb1 (And.intro hd (And.intro hGc (And.intro hGR (And.intro hGd hG)))))
  have HG := Lib.hid hg
  clear h1 hb1 hs hd hGc hGR hGd hG
  go_enter Try.func30, Try.ntmps30
  go_upto_region 1 with (fail)
  clear hg
  generalize w.alloc (dmO [.int .i64 1, .int .i64 n, .bool neg, .slice am mag.length cm, .string text, .slice ai items.length ci, .slice ar rest.length cr]) = w1 at *
  go_wp2_with fail
  refine hN.mono ?_
  clear hN a0
  rintro e w2 ⟨v2, rfl, h2, hb2⟩
  have hl2 := numB_ten (n := (1 : Int).toNat) (by decide)
  obtain ⟨ys, hys⟩ : ∃ ys, numB (1 : Int).toNat = ys := ⟨_, rfl⟩
  rw [hys] at h2 hl2
  obtain ⟨a0, a1, a2, a3, a4, a5, a6⟩ := HX.out.2.2.1 w2 h2.right
  have HH := Lib.hid (And.intro h2 (And.intro (HX.out.1.trans hb2) (And.intro hys hl2)))
  clear h2 hb2 hys hl2
  have hmg : (∀ w, sat w R → MagW w am mag) ∧ ∀ x ∈ mag, 0 ≤ x ∧ x < 4294967296 := by
    obtain ⟨am', cm', ai', ci', ar', cr', he, ⟨_, _, h3, h4, _⟩, _⟩ := HX.out.2.1.open
    simp only [List.cons.injEq, Value.slice.injEq, and_true, true_and] at he
    obtain ⟨⟨rfl, _⟩, _⟩ := he
    exact ⟨h3, h4⟩
  have HM := Lib.hid hmg
  clear hmg
  obtain ⟨d, hdd⟩ : ∃ d : Int, (if neg = true then 1 else 0 : Int) = d := ⟨_, rfl⟩
  have hB : ∀ w', Calls Try.prog 28 #[.bool neg] w' (Says (.int .u8 d) w') := fun w' => by rw [← hdd]; exact refp_bit w' neg
  have HD := Lib.hid hdd
  clear hdd
  go_wp2_with fail
  refine (hB _).mono ?_
  clear hB a0 a1 a2 a3 a4 a5 a6
  rintro e w3' ⟨rfl, m3, rfl⟩
  have h3 := HH.out.1.drewN m3
  have hb3 := HH.out.2.1.trans (drewN_below0 w2 m3)
  generalize w2.drewN m3 = w3 at *
  have h4 := row_lit h3 d
  have HQ := Lib.hid (And.intro h4 (hb3.trans (Below.zero_alloc w3 (.cells #[bv d] 5))))
  clear h3 h4 hb3
  go_wp2_with (at_builtin; refine halt ?_)
  refine goon ?_
  obtain ⟨hi, hz0, hz1, hz2⟩ := H1.out
  refine wpList_append_bytes rfl (.tmp 14) (.tmp 19) rfl i0 hi hz0 hz1 hz2 v2 (.slice (some ⟨w3.heap.size, 0, none⟩) 1 1) ys ([d]) rfl G rfl ?_ HQ.out.1 (by simp) (by have := HH.out.2.2.2; simp only [List.length_cons, List.length_nil]; omega)
  clear hi hz0 hz1 hz2
  intro v5 w5 hs5 hb5
  obtain ⟨a0, a1, a2, a3, a4, a5, a6⟩ := HX.out.2.2.1 w5 hs5.right
  obtain ⟨xs, hxs⟩ : ∃ xs, ys ++ [d] = xs := ⟨_, rfl⟩
  have lxs : xs.length ≤ 10 := by rw [← hxs, List.length_append]; have := HH.out.2.2.2; simp only [List.length_cons, List.length_nil]; omega
  rw [hxs] at hs5
  have HR := Lib.hid (And.intro hs5 (And.intro (HQ.out.2.trans hb5) (And.intro hxs lxs)))
  clear hs5 hb5 hxs lxs
  have hnn := numB_nine mag.length hz
  have HNN := Lib.hid hnn
  clear hnn
  have hS := refp_len HR.out.1 mag.length hz
  go_wp2_with fail
  refine hS.mono ?_
  clear hS a0 a1 a2 a3 a4 a5 a6
  rintro e w6 ⟨v6, rfl, h6, hb6⟩
  have HT := Lib.hid (And.intro h6 hb6)
  clear h6 hb6
  go_wp2_with (at_builtin; refine halt ?_)
  refine goon ?_
  obtain ⟨hi, hz0, hz1, hz2⟩ := H1.out
  refine wpList_append_bytes rfl (.tmp 21) (.tmp 26) rfl i0 hi hz0 hz1 hz2 v5 v6 xs (numB mag.length) rfl G rfl ?_ HT.out.1 (numB_pos _) (by have := HR.out.2.2.2; have := HNN.out; omega)
  clear hi hz0 hz1 hz2
  intro v7 w7 hs7 hb7
  obtain ⟨zs, hzs⟩ : ∃ zs, xs ++ numB mag.length = zs := ⟨_, rfl⟩
  have lzs : zs.length ≤ 19 := by rw [← hzs, List.length_append]; have := HR.out.2.2.2; have := HNN.out; omega
  rw [hzs] at hs7
  have HU := Lib.hid (And.intro hs7 (And.intro ((HR.out.2.1.trans HT.out.2).trans hb7) (And.intro hzs lzs)))
  clear hs7 hb7 hzs lzs
  go_wp2_with fail
  go_loopw [3, 4] (LmRel w G mag zs) (fun _ i _ => mag.length - (intOf i).toNat)
  case atStart => exact ⟨0, Nat.zero_le _, rfl, by rw [List.take_zero]; unfold limbsB; rw [List.flatMap_nil, List.append_nil]; exact HU.out.1, HU.out.2.1⟩
  case round =>
    obtain ⟨j, hj, rfl, h5, hb5⟩ := hrel
    have a3 := (HX.out.2.2.1 wr h5.right).2.2.2.1
    by_cases hlt : j < mag.length
    · have b1 : decide ((j : Int) < (mag.length : Int)) = true := by rw [decide_eq_true_eq]; omega
      obtain ⟨x, ex⟩ : ∃ x, mag[j]? = some x := ⟨_, List.getElem?_eq_getElem hlt⟩
      obtain ⟨a, rfl, hca⟩ := HM.out.1 wr (HX.out.2.2.2.1 wr h5.right) j x ex
      have hx := HM.out.2 x (List.mem_of_getElem? ex)
      have htk : limbsB (mag.take (j + 1)) = limbsB (mag.take j) ++ numB x.toNat := by
        rw [List.take_add_one, ex, limbsB_app]
        unfold limbsB
        simp
      have hlk : (limbsB (mag.take j)).length ≤ 9437184 := by
        have := limbsB_len (l := mag.take j) (fun y hy => HM.out.2 y (List.mem_of_mem_take hy))
        rw [List.length_take] at this
        omega
      obtain ⟨us, hus⟩ : ∃ us, zs ++ limbsB (mag.take j) = us := ⟨_, rfl⟩
      have lus : us.length ≤ 10000000 := by rw [← hus, List.length_append]; have := HU.out.2.2.2; omega
      rw [hus] at h5
      have hN := refp_num _ x rfl h5 (by omega) (by omega)
      have hnt := numB_ten (n := x.toNat) (by omega)
      have g1 : IntKind.i64.wrap x = x := IntWalk.i64_in _ (by omega)
      have HK := Lib.hid (And.intro hb5 (And.intro htk (And.intro hus (And.intro lus hnt))))
      clear h5 hb5 htk ex hlk hus lus hnt hx
      go_wp2_with fail
      refine hN.mono ?_
      clear hN hca a3
      rintro e w6 ⟨v6, rfl, h6, hb6⟩
      have HL := Lib.hid (And.intro h6 hb6)
      clear h6 hb6
      go_wp2_with (at_builtin; refine halt ?_)
      refine goon ?_
      obtain ⟨hi, hz0, hz1, hz2⟩ := H1.out
      refine wpList_append_bytes rfl (.tmp 36) (.tmp 44) rfl i0 hi hz0 hz1 hz2 u3 v6 us (numB x.toNat) rfl G rfl ?_ HL.out.1 (numB_pos _) (by have := HK.out.2.2.2.1; have := HK.out.2.2.2.2; omega)
      clear hi hz0 hz1 hz2
      intro v8 w8 hs8 hb8

      have HW := Lib.hid (And.intro hs8 hb8)
      clear hs8 hb8
      go_wp2_with fail
      go_roundw
      case rel =>
        refine ⟨j + 1, by omega, by go_num, ?_, (HK.out.1.trans HL.out.2).trans HW.out.2⟩
        rw [HK.out.2.1, ← List.append_assoc, HK.out.2.2.1]
        exact HW.out.1
      case measure => simp [intOf]; omega
    · obtain rfl : j = mag.length := by omega
      have hge : decide ((mag.length : Int) < (mag.length : Int)) = false := by simp
      rw [List.take_of_length_le (Nat.le_refl _)] at h5
      have HL := Lib.hid (And.intro h5 hb5)
      clear h5 hb5
      go_wp2_with fail
      go_ret
      refine ⟨_, rfl, ?_, HL.out.2⟩
      have e : constB (.mk 1 n neg mag text items rest) = zs ++ limbsB mag := by
        unfold constB
        rw [← HU.out.2.2.1, ← HR.out.2.2.1, ← HH.out.2.2.1, if_pos rfl]
        unfold bitB
        rw [HD.out]
        simp only [List.append_assoc]
      rw [e]
      exact HX.out.2.2.2.2.1 _ _ _ HL.out.1
end Go.Proofs.Ytkjfplldfjmbaaa
