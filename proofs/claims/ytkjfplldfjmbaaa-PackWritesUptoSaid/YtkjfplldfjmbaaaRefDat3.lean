/- tandemref10.datum: of lists and vectors; of whatever datum. -/
import Derived.Test.YtkjfplldfjmbaaaRefDat2
namespace Go.Proofs.Ytkjfplldfjmbaaa
open Go.RowKit
theorem constB_pos : ∀ d : Dm, 0 < (constB d).length
  | .mk k n neg mag text items rest => by
    unfold constB
    rw [List.length_append]
    have := numB_pos k.toNat
    omega
set_option maxRecDepth 100000 in
set_option maxHeartbeats 4000000 in
theorem rdat_list (n : Int) (neg : Bool) (mag : List Int) (text : ByteArray) (items rest : List Dm) (hz : Dm.sizes items ≤ 1048576) (hz2 : Dm.sizes rest ≤ 1048576) (hr1 : RightDs items) (hr2 : RightDs rest) (hP : ∀ d ∈ items, RefDatAt d) (hP2 : ∀ d ∈ rest, RefDatAt d) (w : World) (R : HP) (am : Option Addr) (cm : Nat) (ai : Option Addr) (ci : Nat) (ar : Option Addr) (cr : Nat)
    (hs : sat w R) (hd : DK R (.mk 6 n neg mag text items rest) [.int .i64 6, .int .i64 n, .bool neg, .slice am mag.length cm, .string text, .slice ai items.length ci, .slice ar rest.length cr]) :
    Calls Try.prog 30 #[.agg #[.int .i64 6, .int .i64 n, .bool neg, .slice am mag.length cm, .string text, .slice ai items.length ci, .slice ar rest.length cr]] w (BytesR R (constB (.mk 6 n neg mag text items rest)) w) := by
  have hdi : DKs R items ai 0 ∧ DKs R rest ar 0 := by
    obtain ⟨am', cm', ai', ci', ar', cr', he, _, h5, h6⟩ := hd.open
    simp only [List.cons.injEq, Value.slice.injEq, and_true, true_and] at he
    obtain ⟨_, ⟨rfl, _⟩, rfl, _⟩ := he
    exact ⟨h5, h6⟩
  have hi1 := Dm.len_le items
  have hi2 := Dm.len_le rest
  have HI := Lib.hid (And.intro hdi.1 (And.intro hr1 (And.intro hz (And.intro hP (And.intro hdi.2 (And.intro hr2 (And.intro hz2 hP2)))))))
  clear hdi hr1 hr2 hP hP2
  obtain ⟨i0, hi, hz0, hz1, hz2⟩ := info_parts info_b8
  have H1 := Lib.hid (And.intro hi (And.intro hz0 (And.intro hz1 hz2)))
  clear hi hz0 hz1 hz2
  have h1 : sat (w.alloc (dmO [.int .i64 6, .int .i64 n, .bool neg, .slice am mag.length cm, .string text, .slice ai items.length ci, .slice ar rest.length cr])) (Go.Proofs.Ytkjfplldfjmbaaa.blk w.heap.size (dmO [.int .i64 6, .int .i64 n, .bool neg, .slice am mag.length cm, .string text, .slice ai items.length ci, .slice ar rest.length cr]) * R) := hs.alloc (dmO [.int .i64 6, .int .i64 n, .bool neg, .slice am mag.length cm, .string text, .slice ai items.length ci, .slice ar rest.length cr])
  have hb1 := Below.zero_alloc w (dmO [.int .i64 6, .int .i64 n, .bool neg, .slice am mag.length cm, .string text, .slice ai items.length ci, .slice ar rest.length cr])
  obtain ⟨g, hg⟩ : ∃ g, w.heap.size = g := ⟨_, rfl⟩
  rw [hg] at h1
  have a0 := h1.left.cell 0
  simp only [List.getElem?_toArray, List.getElem?_cons_zero] at a0
  obtain ⟨G, hG⟩ : ∃ G : HP, G = Go.Proofs.Ytkjfplldfjmbaaa.blk g (dmO [.int .i64 6, .int .i64 n, .bool neg, .slice am mag.length cm, .string text, .slice ai items.length ci, .slice ar rest.length cr]) * R := ⟨_, rfl⟩
  rw [← hG] at h1
  have hGc : ∀ w', sat w' G → w'.cell? ⟨g, 0, none⟩ = some (.int .i64 6) ∧ w'.cell? ⟨g, 1, none⟩ = some (.int .i64 n) ∧ w'.cell? ⟨g, 2, none⟩ = some (.bool neg) ∧ w'.cell? ⟨g, 3, none⟩ = some (.slice am mag.length cm) ∧ w'.cell? ⟨g, 4, none⟩ = some (.string text) ∧ w'.cell? ⟨g, 5, none⟩ = some (.slice ai items.length ci) ∧ w'.cell? ⟨g, 6, none⟩ = some (.slice ar rest.length cr) := fun w' h => by
    rw [hG] at h
    exact ⟨(h.left.cell 0).trans rfl, (h.left.cell 1).trans rfl, (h.left.cell 2).trans rfl, (h.left.cell 3).trans rfl, (h.left.cell 4).trans rfl, (h.left.cell 5).trans rfl, (h.left.cell 6).trans rfl⟩
  have hGR : ∀ w', sat w' G → sat w' R := fun w' h => by rw [hG] at h; exact h.right
  have hGd : ∀ (w' : World) (v : Value) (l : List Int), sat w' (own 5 1 v l.length (l.map bv) * G) → sat w' (own 5 1 v l.length (l.map bv) * R) := fun w' v l h => by
    rw [hG] at h
    exact (h.perm (show _ = Go.Proofs.Ytkjfplldfjmbaaa.blk g _ * (own _ _ _ _ _ * R) by ac_rfl)).right
  have hN := refp_num _ 6 rfl h1 (by decide) (by decide)
  have HX := Lib.hid (And.intro hb1 (And.intro hd (And.intro hGc (And.intro hGR (And.intro hGd hG)))))
  have HG := Lib.hid hg
  clear h1 hb1 hs hd hGc hGR hGd hG
  go_enter Try.func30, Try.ntmps30
  go_upto_region 1 with (fail)
  clear hg
  generalize w.alloc (dmO [.int .i64 6, .int .i64 n, .bool neg, .slice am mag.length cm, .string text, .slice ai items.length ci, .slice ar rest.length cr]) = w1 at *
  go_wp2_with fail
  refine hN.mono ?_
  clear hN a0
  rintro e w2 ⟨v2, rfl, h2, hb2⟩
  have hl2 := numB_ten (n := (6 : Int).toNat) (by decide)
  obtain ⟨ys, hys⟩ : ∃ ys, numB (6 : Int).toNat = ys := ⟨_, rfl⟩
  rw [hys] at h2 hl2
  obtain ⟨a0, a1, a2, a3, a4, a5, a6⟩ := HX.out.2.2.1 w2 h2.right
  have HH := Lib.hid (And.intro h2 (And.intro (HX.out.1.trans hb2) (And.intro hys hl2)))
  clear h2 hb2 hys hl2
  have hnn := numB_nine items.length (by omega)
  have HNN := Lib.hid hnn
  clear hnn
  have hS := refp_len HH.out.1 items.length (by omega)
  go_wp2_with fail
  refine hS.mono ?_
  clear hS a0 a1 a2 a3 a4 a5 a6
  rintro e w3 ⟨v3, rfl, h3, hb3⟩
  have HT := Lib.hid (And.intro h3 hb3)
  clear h3 hb3
  go_wp2_with (at_builtin; refine halt ?_)
  refine goon ?_
  obtain ⟨hi, hz0, hz1, hz2⟩ := H1.out
  refine wpList_append_bytes rfl (.tmp 77) (.tmp 81) rfl i0 hi hz0 hz1 hz2 v2 v3 ys (numB items.length) rfl G rfl ?_ HT.out.1 (numB_pos _) (by have := HH.out.2.2.2; have := HNN.out; omega)
  clear hi hz0 hz1 hz2
  intro v4 w4 hs4 hb4
  obtain ⟨zs, hzs⟩ : ∃ zs, ys ++ numB items.length = zs := ⟨_, rfl⟩
  have lzs : zs.length ≤ 19 := by rw [← hzs, List.length_append]; have := HH.out.2.2.2; have := HNN.out; omega
  rw [hzs] at hs4
  have HQ := Lib.hid (And.intro hs4 (And.intro ((HH.out.2.1.trans HT.out.2).trans hb4) (And.intro hzs lzs)))
  clear hs4 hb4 hzs lzs
  go_wp2_with fail
  go_loopw [3, 5] (CiRel w G items zs) (fun _ i _ => items.length - (intOf i).toNat)
  case atStart => exact ⟨0, Nat.zero_le _, rfl, by rw [List.take_zero]; simp only [constBs, List.append_nil]; exact HQ.out.1, HQ.out.2.1⟩
  case round =>
    obtain ⟨j, hj, rfl, h5, hb5⟩ := hrel
    obtain ⟨a0, _, _, _, _, a5, a6⟩ := HX.out.2.2.1 wr h5.right
    by_cases hlt : j < items.length
    · have b1 : decide ((j : Int) < (items.length : Int)) = true := by rw [decide_eq_true_eq]; omega
      obtain ⟨d, ex⟩ : ∃ d, items[j]? = some d := ⟨_, List.getElem?_eq_getElem hlt⟩
      obtain ⟨bb, off, ds, rfl, hcell, hdd⟩ := HI.out.1.get j d ex
      have hcw := hcell wr (HX.out.2.2.2.1 wr h5.right)
      rw [Nat.zero_add] at hcw
      have htk := constBs_take ex
      have hbd := constBs_bd j ex HI.out.1 HI.out.2.1 HI.out.2.2.1
      have hmem := List.mem_of_getElem? ex
      have hcl := constB_len d hdd (HI.out.2.1.mem d hmem) (by have := Dm.size_le ex; have := HI.out.2.2.1; omega)
      obtain ⟨us, hus⟩ : ∃ us, zs ++ constBs (items.take j) = us := ⟨_, rfl⟩
      have lus : us.length + (constB d).length ≤ 200000000 := by rw [← hus, List.length_append]; have := HQ.out.2.2.2; have := HI.out.2.2.1; omega
      rw [hus] at h5
      have hC := HI.out.2.2.2.1 d hmem wr _ ds h5 (hdd.mono (fun w h => HX.out.2.2.2.1 w h.right) _)
      obtain ⟨k1, n1, ng1, am1, ml1, cm1, tx1, ai1, il1, ci1, ar1, rl1, cr1, rfl⟩ := hdd.cells
      have i0' := hcw 0 _ rfl
      have i1 := hcw 1 _ rfl
      have i2 := hcw 2 _ rfl
      have i3 := hcw 3 _ rfl
      have i4 := hcw 4 _ rfl
      have i5 := hcw 5 _ rfl
      have i6 := hcw 6 _ rfl
      rw [Nat.add_zero] at i0'
      have HK := Lib.hid (And.intro hb5 (And.intro htk (And.intro hus (And.intro lus (And.intro hcl hC)))))
      clear hcw hcell hdd h5 hb5 htk hbd hmem ex hC hus lus hcl
      go_wp2_with fail
      refine HK.out.2.2.2.2.2.mono ?_
      clear i0' i1 i2 i3 i4 i5 i6 a0 a5 a6
      rintro e w6 ⟨v6, rfl, h6, hb6⟩
      have HL := Lib.hid (And.intro h6 hb6)
      clear h6 hb6
      go_wp2_with (at_builtin; refine halt ?_)
      refine goon ?_
      obtain ⟨hi, hz0, hz1, hz2⟩ := H1.out
      refine wpList_append_bytes rfl (.tmp 90) (.tmp 96) rfl i0 hi hz0 hz1 hz2 _ v6 us (constB d) rfl G rfl ?_ HL.out.1 (constB_pos d) (by have := HK.out.2.2.2.1; have := HK.out.2.2.2.2.1; omega)
      clear hi hz0 hz1 hz2
      intro v8 w8 hs8 hb8
      have HW := Lib.hid (And.intro hs8 hb8)
      clear hs8 hb8
      go_wp2_with fail
      go_roundw
      case rel =>
        refine ⟨j + 1, by omega, by go_num, ?_, (HK.out.1.trans HL.out.2).trans HW.out.2⟩
        rw [HK.out.2.1, ← List.append_assoc, HK.out.2.2.1]
        exact HW.out.1
      case measure => simp [intOf]; omega
    · obtain rfl : j = items.length := by omega
      have hge : decide ((items.length : Int) < (items.length : Int)) = false := by simp
      rw [List.take_of_length_le (Nat.le_refl _)] at h5
      have hbd := constBs_len items HI.out.1 HI.out.2.1 HI.out.2.2.1
      obtain ⟨xs, hxs⟩ : ∃ xs, zs ++ constBs items = xs := ⟨_, rfl⟩
      have lxs : xs.length ≤ 50000000 := by rw [← hxs, List.length_append]; have := HQ.out.2.2.2; have := HI.out.2.2.1; omega
      rw [hxs] at h5
      have hN := refp_len h5 rest.length (by omega)
      have hnn := numB_nine rest.length (by omega)
      have HW0 := Lib.hid (And.intro hb5 (And.intro hxs (And.intro lxs hnn)))
      clear h5 hb5 hbd hxs lxs hnn
      go_wp2_with fail
      refine hN.mono ?_
      clear hN a0 a5 a6
      rintro e w7 ⟨v7, rfl, h7, hb7⟩
      have HV := Lib.hid (And.intro h7 hb7)
      clear h7 hb7
      go_wp2_with (at_builtin; refine halt ?_)
      refine goon ?_
      obtain ⟨hi, hz0, hz1, hz2⟩ := H1.out
      refine wpList_append_bytes rfl (.tmp 101) (.tmp 105) rfl i0 hi hz0 hz1 hz2 _ v7 xs (numB rest.length) rfl G rfl ?_ HV.out.1 (numB_pos _) (by have := HW0.out.2.2.1; have := HW0.out.2.2.2; omega)
      clear hi hz0 hz1 hz2
      intro v9 w9 hs9 hb9
      obtain ⟨ws, hws⟩ : ∃ ws, xs ++ numB rest.length = ws := ⟨_, rfl⟩
      have lws : ws.length ≤ 50000009 := by rw [← hws, List.length_append]; have := HW0.out.2.2.1; have := HW0.out.2.2.2; omega
      rw [hws] at hs9
      have hall : ys ++ numB items.length ++ constBs items ++ numB rest.length = ws := by rw [HQ.out.2.2.1, HW0.out.2.1, hws]
      have HU := Lib.hid (And.intro hs9 (And.intro ((HW0.out.1.trans HV.out.2).trans hb9) (And.intro (show zs ++ constBs items ++ numB rest.length = ws by rw [HW0.out.2.1, hws]) lws)))
      clear hs9 hb9 hws lws hall
      go_wp2_with fail
      go_loopw [3, 6] (CiRel w G rest ws) (fun _ i _ => rest.length - (intOf i).toNat)
      case atStart => exact ⟨0, Nat.zero_le _, rfl, by rw [List.take_zero]; simp only [constBs, List.append_nil]; exact HU.out.1, HU.out.2.1⟩
      case round =>
        obtain ⟨j, hj, rfl, h5, hb5⟩ := hrel
        obtain ⟨a0, _, _, _, _, a5, a6⟩ := HX.out.2.2.1 wr h5.right
        by_cases hlt : j < rest.length
        · have b1 : decide ((j : Int) < (rest.length : Int)) = true := by rw [decide_eq_true_eq]; omega
          obtain ⟨d, ex⟩ : ∃ d, rest[j]? = some d := ⟨_, List.getElem?_eq_getElem hlt⟩
          obtain ⟨bb, off, ds, rfl, hcell, hdd⟩ := HI.out.2.2.2.2.1.get j d ex
          have hcw := hcell wr (HX.out.2.2.2.1 wr h5.right)
          rw [Nat.zero_add] at hcw
          have htk := constBs_take ex
          have hbd := constBs_bd j ex HI.out.2.2.2.2.1 HI.out.2.2.2.2.2.1 HI.out.2.2.2.2.2.2.1
          have hmem := List.mem_of_getElem? ex
          have hcl := constB_len d hdd (HI.out.2.2.2.2.2.1.mem d hmem) (by have := Dm.size_le ex; have := HI.out.2.2.2.2.2.2.1; omega)
          obtain ⟨us, hus⟩ : ∃ us, ws ++ constBs (rest.take j) = us := ⟨_, rfl⟩
          have lus : us.length + (constB d).length ≤ 200000000 := by rw [← hus, List.length_append]; have := HU.out.2.2.2; have := HI.out.2.2.2.2.2.2.1; omega
          rw [hus] at h5
          have hC := HI.out.2.2.2.2.2.2.2 d hmem wr _ ds h5 (hdd.mono (fun w h => HX.out.2.2.2.1 w h.right) _)
          obtain ⟨k1, n1, ng1, am1, ml1, cm1, tx1, ai1, il1, ci1, ar1, rl1, cr1, rfl⟩ := hdd.cells
          have i0' := hcw 0 _ rfl
          have i1 := hcw 1 _ rfl
          have i2 := hcw 2 _ rfl
          have i3 := hcw 3 _ rfl
          have i4 := hcw 4 _ rfl
          have i5 := hcw 5 _ rfl
          have i6 := hcw 6 _ rfl
          rw [Nat.add_zero] at i0'
          have HK := Lib.hid (And.intro hb5 (And.intro htk (And.intro hus (And.intro lus (And.intro hcl hC)))))
          clear hcw hcell hdd h5 hb5 htk hbd hmem ex hC hus lus hcl
          go_wp2_with fail
          refine HK.out.2.2.2.2.2.mono ?_
          clear i0' i1 i2 i3 i4 i5 i6 a0 a5 a6
          rintro e w6 ⟨v6, rfl, h6, hb6⟩
          have HL := Lib.hid (And.intro h6 hb6)
          clear h6 hb6
          go_wp2_with (at_builtin; refine halt ?_)
          refine goon ?_
          obtain ⟨hi, hz0, hz1, hz2⟩ := H1.out
          refine wpList_append_bytes rfl (.tmp 114) (.tmp 120) rfl i0 hi hz0 hz1 hz2 _ v6 us (constB d) rfl G rfl ?_ HL.out.1 (constB_pos d) (by have := HK.out.2.2.2.1; have := HK.out.2.2.2.2.1; omega)
          clear hi hz0 hz1 hz2
          intro v8 w8 hs8 hb8
          have HW := Lib.hid (And.intro hs8 hb8)
          clear hs8 hb8
          go_wp2_with fail
          go_roundw
          case rel =>
            refine ⟨j + 1, by omega, by go_num, ?_, (HK.out.1.trans HL.out.2).trans HW.out.2⟩
            rw [HK.out.2.1, ← List.append_assoc, HK.out.2.2.1]
            exact HW.out.1
          case measure => simp [intOf]; omega
        · obtain rfl : j = rest.length := by omega
          have hge : decide ((rest.length : Int) < (rest.length : Int)) = false := by simp
          rw [List.take_of_length_le (Nat.le_refl _)] at h5
          have HL := Lib.hid (And.intro h5 hb5)
          clear h5 hb5
          go_wp2_with fail
          go_ret
          refine ⟨_, rfl, ?_, HL.out.2⟩
          have e : constB (.mk 6 n neg mag text items rest) = ws ++ constBs rest := by
            unfold constB
            rw [← HU.out.2.2.1, ← HQ.out.2.2.1, ← HH.out.2.2.1, if_neg (by decide), if_neg (by decide), if_neg (by decide), if_neg (by decide), if_pos rfl]
            simp only [List.append_assoc]
          rw [e]
          exact HX.out.2.2.2.2.1 _ _ _ HL.out.1
set_option maxRecDepth 100000 in
set_option maxHeartbeats 4000000 in
theorem rdat_vec (n : Int) (neg : Bool) (mag : List Int) (text : ByteArray) (items rest : List Dm) (hz : Dm.sizes items ≤ 1048576) (hz2 : Dm.sizes rest ≤ 1048576) (hr1 : RightDs items) (hr2 : RightDs rest) (hP : ∀ d ∈ items, RefDatAt d) (hP2 : ∀ d ∈ rest, RefDatAt d) (HE : rest = []) (w : World) (R : HP) (am : Option Addr) (cm : Nat) (ai : Option Addr) (ci : Nat) (ar : Option Addr) (cr : Nat)
    (hs : sat w R) (hd : DK R (.mk 7 n neg mag text items rest) [.int .i64 7, .int .i64 n, .bool neg, .slice am mag.length cm, .string text, .slice ai items.length ci, .slice ar rest.length cr]) :
    Calls Try.prog 30 #[.agg #[.int .i64 7, .int .i64 n, .bool neg, .slice am mag.length cm, .string text, .slice ai items.length ci, .slice ar rest.length cr]] w (BytesR R (constB (.mk 7 n neg mag text items rest)) w) := by
  have HE2 := Lib.hid HE
  clear HE
  have hdi : DKs R items ai 0 ∧ DKs R rest ar 0 := by
    obtain ⟨am', cm', ai', ci', ar', cr', he, _, h5, h6⟩ := hd.open
    simp only [List.cons.injEq, Value.slice.injEq, and_true, true_and] at he
    obtain ⟨_, ⟨rfl, _⟩, rfl, _⟩ := he
    exact ⟨h5, h6⟩
  have hi1 := Dm.len_le items
  have hi2 := Dm.len_le rest
  have HI := Lib.hid (And.intro hdi.1 (And.intro hr1 (And.intro hz (And.intro hP (And.intro hdi.2 (And.intro hr2 (And.intro hz2 hP2)))))))
  clear hdi hr1 hr2 hP hP2
  obtain ⟨i0, hi, hz0, hz1, hz2⟩ := info_parts info_b8
  have H1 := Lib.hid (And.intro hi (And.intro hz0 (And.intro hz1 hz2)))
  clear hi hz0 hz1 hz2
  have h1 : sat (w.alloc (dmO [.int .i64 7, .int .i64 n, .bool neg, .slice am mag.length cm, .string text, .slice ai items.length ci, .slice ar rest.length cr])) (Go.Proofs.Ytkjfplldfjmbaaa.blk w.heap.size (dmO [.int .i64 7, .int .i64 n, .bool neg, .slice am mag.length cm, .string text, .slice ai items.length ci, .slice ar rest.length cr]) * R) := hs.alloc (dmO [.int .i64 7, .int .i64 n, .bool neg, .slice am mag.length cm, .string text, .slice ai items.length ci, .slice ar rest.length cr])
  have hb1 := Below.zero_alloc w (dmO [.int .i64 7, .int .i64 n, .bool neg, .slice am mag.length cm, .string text, .slice ai items.length ci, .slice ar rest.length cr])
  obtain ⟨g, hg⟩ : ∃ g, w.heap.size = g := ⟨_, rfl⟩
  rw [hg] at h1
  have a0 := h1.left.cell 0
  simp only [List.getElem?_toArray, List.getElem?_cons_zero] at a0
  obtain ⟨G, hG⟩ : ∃ G : HP, G = Go.Proofs.Ytkjfplldfjmbaaa.blk g (dmO [.int .i64 7, .int .i64 n, .bool neg, .slice am mag.length cm, .string text, .slice ai items.length ci, .slice ar rest.length cr]) * R := ⟨_, rfl⟩
  rw [← hG] at h1
  have hGc : ∀ w', sat w' G → w'.cell? ⟨g, 0, none⟩ = some (.int .i64 7) ∧ w'.cell? ⟨g, 1, none⟩ = some (.int .i64 n) ∧ w'.cell? ⟨g, 2, none⟩ = some (.bool neg) ∧ w'.cell? ⟨g, 3, none⟩ = some (.slice am mag.length cm) ∧ w'.cell? ⟨g, 4, none⟩ = some (.string text) ∧ w'.cell? ⟨g, 5, none⟩ = some (.slice ai items.length ci) ∧ w'.cell? ⟨g, 6, none⟩ = some (.slice ar rest.length cr) := fun w' h => by
    rw [hG] at h
    exact ⟨(h.left.cell 0).trans rfl, (h.left.cell 1).trans rfl, (h.left.cell 2).trans rfl, (h.left.cell 3).trans rfl, (h.left.cell 4).trans rfl, (h.left.cell 5).trans rfl, (h.left.cell 6).trans rfl⟩
  have hGR : ∀ w', sat w' G → sat w' R := fun w' h => by rw [hG] at h; exact h.right
  have hGd : ∀ (w' : World) (v : Value) (l : List Int), sat w' (own 5 1 v l.length (l.map bv) * G) → sat w' (own 5 1 v l.length (l.map bv) * R) := fun w' v l h => by
    rw [hG] at h
    exact (h.perm (show _ = Go.Proofs.Ytkjfplldfjmbaaa.blk g _ * (own _ _ _ _ _ * R) by ac_rfl)).right
  have hN := refp_num _ 7 rfl h1 (by decide) (by decide)
  have HX := Lib.hid (And.intro hb1 (And.intro hd (And.intro hGc (And.intro hGR (And.intro hGd hG)))))
  have HG := Lib.hid hg
  clear h1 hb1 hs hd hGc hGR hGd hG
  go_enter Try.func30, Try.ntmps30
  go_upto_region 1 with (fail)
  clear hg
  generalize w.alloc (dmO [.int .i64 7, .int .i64 n, .bool neg, .slice am mag.length cm, .string text, .slice ai items.length ci, .slice ar rest.length cr]) = w1 at *
  go_wp2_with fail
  refine hN.mono ?_
  clear hN a0
  rintro e w2 ⟨v2, rfl, h2, hb2⟩
  have hl2 := numB_ten (n := (7 : Int).toNat) (by decide)
  obtain ⟨ys, hys⟩ : ∃ ys, numB (7 : Int).toNat = ys := ⟨_, rfl⟩
  rw [hys] at h2 hl2
  obtain ⟨a0, a1, a2, a3, a4, a5, a6⟩ := HX.out.2.2.1 w2 h2.right
  have HH := Lib.hid (And.intro h2 (And.intro (HX.out.1.trans hb2) (And.intro hys hl2)))
  clear h2 hb2 hys hl2
  have hnn := numB_nine items.length (by omega)
  have HNN := Lib.hid hnn
  clear hnn
  have hS := refp_len HH.out.1 items.length (by omega)
  go_wp2_with fail
  refine hS.mono ?_
  clear hS a0 a1 a2 a3 a4 a5 a6
  rintro e w3 ⟨v3, rfl, h3, hb3⟩
  have HT := Lib.hid (And.intro h3 hb3)
  clear h3 hb3
  go_wp2_with (at_builtin; refine halt ?_)
  refine goon ?_
  obtain ⟨hi, hz0, hz1, hz2⟩ := H1.out
  refine wpList_append_bytes rfl (.tmp 77) (.tmp 81) rfl i0 hi hz0 hz1 hz2 v2 v3 ys (numB items.length) rfl G rfl ?_ HT.out.1 (numB_pos _) (by have := HH.out.2.2.2; have := HNN.out; omega)
  clear hi hz0 hz1 hz2
  intro v4 w4 hs4 hb4
  obtain ⟨zs, hzs⟩ : ∃ zs, ys ++ numB items.length = zs := ⟨_, rfl⟩
  have lzs : zs.length ≤ 19 := by rw [← hzs, List.length_append]; have := HH.out.2.2.2; have := HNN.out; omega
  rw [hzs] at hs4
  have HQ := Lib.hid (And.intro hs4 (And.intro ((HH.out.2.1.trans HT.out.2).trans hb4) (And.intro hzs lzs)))
  clear hs4 hb4 hzs lzs
  go_wp2_with fail
  go_loopw [3, 5] (CiRel w G items zs) (fun _ i _ => items.length - (intOf i).toNat)
  case atStart => exact ⟨0, Nat.zero_le _, rfl, by rw [List.take_zero]; simp only [constBs, List.append_nil]; exact HQ.out.1, HQ.out.2.1⟩
  case round =>
    obtain ⟨j, hj, rfl, h5, hb5⟩ := hrel
    obtain ⟨a0, _, _, _, _, a5, a6⟩ := HX.out.2.2.1 wr h5.right
    by_cases hlt : j < items.length
    · have b1 : decide ((j : Int) < (items.length : Int)) = true := by rw [decide_eq_true_eq]; omega
      obtain ⟨d, ex⟩ : ∃ d, items[j]? = some d := ⟨_, List.getElem?_eq_getElem hlt⟩
      obtain ⟨bb, off, ds, rfl, hcell, hdd⟩ := HI.out.1.get j d ex
      have hcw := hcell wr (HX.out.2.2.2.1 wr h5.right)
      rw [Nat.zero_add] at hcw
      have htk := constBs_take ex
      have hbd := constBs_bd j ex HI.out.1 HI.out.2.1 HI.out.2.2.1
      have hmem := List.mem_of_getElem? ex
      have hcl := constB_len d hdd (HI.out.2.1.mem d hmem) (by have := Dm.size_le ex; have := HI.out.2.2.1; omega)
      obtain ⟨us, hus⟩ : ∃ us, zs ++ constBs (items.take j) = us := ⟨_, rfl⟩
      have lus : us.length + (constB d).length ≤ 200000000 := by rw [← hus, List.length_append]; have := HQ.out.2.2.2; have := HI.out.2.2.1; omega
      rw [hus] at h5
      have hC := HI.out.2.2.2.1 d hmem wr _ ds h5 (hdd.mono (fun w h => HX.out.2.2.2.1 w h.right) _)
      obtain ⟨k1, n1, ng1, am1, ml1, cm1, tx1, ai1, il1, ci1, ar1, rl1, cr1, rfl⟩ := hdd.cells
      have i0' := hcw 0 _ rfl
      have i1 := hcw 1 _ rfl
      have i2 := hcw 2 _ rfl
      have i3 := hcw 3 _ rfl
      have i4 := hcw 4 _ rfl
      have i5 := hcw 5 _ rfl
      have i6 := hcw 6 _ rfl
      rw [Nat.add_zero] at i0'
      have HK := Lib.hid (And.intro hb5 (And.intro htk (And.intro hus (And.intro lus (And.intro hcl hC)))))
      clear hcw hcell hdd h5 hb5 htk hbd hmem ex hC hus lus hcl
      go_wp2_with fail
      refine HK.out.2.2.2.2.2.mono ?_
      clear i0' i1 i2 i3 i4 i5 i6 a0 a5 a6
      rintro e w6 ⟨v6, rfl, h6, hb6⟩
      have HL := Lib.hid (And.intro h6 hb6)
      clear h6 hb6
      go_wp2_with (at_builtin; refine halt ?_)
      refine goon ?_
      obtain ⟨hi, hz0, hz1, hz2⟩ := H1.out
      refine wpList_append_bytes rfl (.tmp 90) (.tmp 96) rfl i0 hi hz0 hz1 hz2 _ v6 us (constB d) rfl G rfl ?_ HL.out.1 (constB_pos d) (by have := HK.out.2.2.2.1; have := HK.out.2.2.2.2.1; omega)
      clear hi hz0 hz1 hz2
      intro v8 w8 hs8 hb8
      have HW := Lib.hid (And.intro hs8 hb8)
      clear hs8 hb8
      go_wp2_with fail
      go_roundw
      case rel =>
        refine ⟨j + 1, by omega, by go_num, ?_, (HK.out.1.trans HL.out.2).trans HW.out.2⟩
        rw [HK.out.2.1, ← List.append_assoc, HK.out.2.2.1]
        exact HW.out.1
      case measure => simp [intOf]; omega
    · obtain rfl : j = items.length := by omega
      have hge : decide ((items.length : Int) < (items.length : Int)) = false := by simp
      rw [List.take_of_length_le (Nat.le_refl _)] at h5
      have HL := Lib.hid (And.intro h5 hb5)
      clear h5 hb5
      go_wp2_with fail
      go_ret
      refine ⟨_, rfl, ?_, HL.out.2⟩
      have e : constB (.mk 7 n neg mag text items rest) = zs ++ constBs items := by
        unfold constB
        rw [← HQ.out.2.2.1, ← HH.out.2.2.1, if_neg (by decide), if_neg (by decide), if_neg (by decide), if_neg (by decide), if_neg (by decide), if_pos rfl, HE2.out]
        simp only [constBs, List.append_nil, List.append_assoc]
      rw [e]
      exact HX.out.2.2.2.2.1 _ _ _ HL.out.1
/-- The reference's datum of whatever datum that may be written. -/
theorem rdats_all : ∀ s : Nat, s ≤ 1048576 → ∀ d : Dm, d.size ≤ s → RightD d → RefDatAt d := by
  intro s
  induction s with
  | zero => intro _ d hd; have := d.size_pos; omega
  | succ s ih =>
    intro hs d hd hr w R cs h1 hdk
    cases d with
    | mk k n neg mag text items rest =>
    obtain ⟨am, cm, ai, ci, ar, cr, rfl, _⟩ := hdk.open
    have hd0 := hd
    unfold Dm.size at hd0
    have hr0 := hr
    unfold RightD at hr
    rcases hr with ⟨rfl | rfl | rfl, hn, _⟩ | ⟨rfl, hn, _⟩ | ⟨rfl, _⟩ | ⟨rfl, _⟩ | ⟨rfl, _⟩ | ⟨hk, _, _, _, _, h7, _, h8, h9⟩
    · exact rdat_sign2 n neg mag text items rest hn w R am cm ai ci ar cr h1 hdk
    · exact rdat_sign3 n neg mag text items rest hn w R am cm ai ci ar cr h1 hdk
    · exact rdat_sign9 n neg mag text items rest hn w R am cm ai ci ar cr h1 hdk
    · exact rdat_sym n neg mag text items rest (by omega) hn w R am cm ai ci ar cr h1 hdk
    · exact rdat_int n neg mag text items rest (by omega) w R am cm ai ci ar cr h1 hdk
    · exact rdat_text n neg mag text items rest (by omega) w R am cm ai ci ar cr h1 hdk
    · exact rdat_void n neg mag text items rest w R am cm ai ci ar cr h1 hdk
    · have q1 : ∀ d ∈ items, RefDatAt d := by
        intro d hd'
        obtain ⟨i, hi⟩ := List.mem_iff_getElem?.1 hd'
        have := Dm.size_le hi
        exact ih (by omega) d (by omega) (h8.mem d hd')
      have q2 : ∀ d ∈ rest, RefDatAt d := by
        intro d hd'
        obtain ⟨i, hi⟩ := List.mem_iff_getElem?.1 hd'
        have := Dm.size_le hi
        exact ih (by omega) d (by omega) (h9.mem d hd')
      rcases hk with rfl | rfl
      · exact rdat_list n neg mag text items rest (by omega) (by omega) h8 h9 q1 q2 w R am cm ai ci ar cr h1 hdk
      · exact rdat_vec n neg mag text items rest (by omega) (by omega) h8 h9 q1 q2 (h7 rfl) w R am cm ai ci ar cr h1 hdk
theorem ref_datum10 {d : Dm} (hz : d.size ≤ 1048576) (hr : RightD d) : RefDatAt d := rdats_all 1048576 (Nat.le_refl _) d hz hr
end Go.Proofs.Ytkjfplldfjmbaaa
