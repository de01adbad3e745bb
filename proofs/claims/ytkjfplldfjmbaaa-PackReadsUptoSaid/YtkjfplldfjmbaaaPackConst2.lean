/- pack.constant of lists and vectors; of whatever datum. -/
import Derived.Test.YtkjfplldfjmbaaaPackConst
namespace Go.Proofs.Ytkjfplldfjmbaaa
open Go.RowKit
def CiRel (W : World) (G : HP) (l : List Dm) (zs : List Int) (v i : Value) (wr : World) : Prop :=
  ∃ j : Nat, j ≤ l.length ∧ i = .int .i64 j ∧ sat wr (own 5 1 v (zs ++ constBs (l.take j)).length ((zs ++ constBs (l.take j)).map bv) * G) ∧ Below 0 W wr
theorem constBs_take {l : List Dm} {j : Nat} {d : Dm} (h : l[j]? = some d) : constBs (l.take (j + 1)) = constBs (l.take j) ++ constB d := by
  rw [List.take_add_one, h]
  show constBs (l.take j ++ [d]) = _
  rw [constBs_app]
  simp [constBs]
theorem Dm.sizes_take (l : List Dm) (j : Nat) : Dm.sizes (l.take j) ≤ Dm.sizes l := by
  have := Dm.sizes_app (l.take j) (l.drop j)
  rw [List.take_append_drop] at this
  omega
theorem RightDs.take : ∀ {l : List Dm} (j : Nat), RightDs l → RightDs (l.take j)
  | [], j, _ => by simp [RightDs]
  | d :: l, 0, _ => by simp [RightDs]
  | d :: l, j + 1, h => by
    unfold RightDs at h
    rw [List.take_succ_cons]
    unfold RightDs
    exact ⟨h.1, RightDs.take j h.2⟩
theorem DKs.take {R : HP} : ∀ {l : List Dm} {ao : Option Addr} {k : Nat} (j : Nat), DKs R l ao k → DKs R (l.take j) ao k
  | [], _, _, j, _ => by simp [DKs]
  | d :: l, _, _, 0, _ => by simp [DKs]
  | d :: l, ao, k, j + 1, h => by
    unfold DKs at h
    rw [List.take_succ_cons]
    unfold DKs
    exact ⟨h.1, DKs.take j h.2⟩
theorem constBs_bd {R : HP} {l : List Dm} {ao : Option Addr} {k : Nat} (j : Nat) {d : Dm} (hj : l[j]? = some d) (hd : DKs R l ao k) (hr : RightDs l) (hz : Dm.sizes l ≤ 1048576) : (constBs (l.take j)).length + 40 * d.size ≤ 40 * Dm.sizes l := by
  have h1 := Dm.sizes_take l j
  have h2 := constBs_len (l.take j) (hd.take j) (hr.take j) (by omega)
  have h3 := Dm.sizes_take l (j + 1)
  rw [List.take_add_one, hj] at h3
  have h4 := Dm.sizes_app (l.take j) [d]
  have h5 : Dm.sizes [d] = d.size := by simp [Dm.sizes]
  simp only [Option.toList_some] at h3
  omega
theorem numB_nine (k : Nat) (h : k ≤ 1048576) : (numB k).length ≤ 9 := numB_ten (by omega)
set_option maxRecDepth 100000 in
set_option maxHeartbeats 4000000 in
theorem const_list (n : Int) (neg : Bool) (mag : List Int) (text : ByteArray) (items rest : List Dm) (hz : Dm.sizes items ≤ 1048576) (hz2 : Dm.sizes rest ≤ 1048576) (hr1 : RightDs items) (hr2 : RightDs rest) (hP : ∀ d ∈ items, ConstAt d) (hP2 : ∀ d ∈ rest, ConstAt d) (w : World) (R : HP) (v : Value) (xs : List Int) (am : Option Addr) (cm : Nat) (ai : Option Addr) (ci : Nat) (ar : Option Addr) (cr : Nat)
    (hs : sat w (own 5 1 v xs.length (xs.map bv) * R)) (hd : DK R (.mk 6 n neg mag text items rest) [.int .i64 6, .int .i64 n, .bool neg, .slice am mag.length cm, .string text, .slice ai items.length ci, .slice ar rest.length cr]) (hL : xs.length + 40 * (1 + (Dm.sizes items + Dm.sizes rest)) ≤ 17592186044416) :
    Calls Try.prog 23 #[v, .agg #[.int .i64 6, .int .i64 n, .bool neg, .slice am mag.length cm, .string text, .slice ai items.length ci, .slice ar rest.length cr]] w (BytesR R (xs ++ constB (.mk 6 n neg mag text items rest)) w) := by
  have hl : xs.length ≤ 17592186044416 := by omega
  have HL0 := Lib.hid hL
  have hdi : DKs R items ai 0 ∧ DKs R rest ar 0 := by
    obtain ⟨am', cm', ai', ci', ar', cr', he, _, h5, h6⟩ := hd.open
    simp only [List.cons.injEq, Value.slice.injEq, and_true, true_and] at he
    obtain ⟨_, ⟨rfl, _⟩, rfl, _⟩ := he
    exact ⟨h5, h6⟩
  have hi1 := Dm.len_le items
  have hi2 := Dm.len_le rest
  have HI := Lib.hid (And.intro hdi.1 (And.intro hr1 (And.intro hz (And.intro hP (And.intro hdi.2 (And.intro hr2 (And.intro hz2 hP2)))))))
  clear hdi hr1 hr2 hP hP2 hL
  have h1 : sat (w.alloc (dmO [.int .i64 6, .int .i64 n, .bool neg, .slice am mag.length cm, .string text, .slice ai items.length ci, .slice ar rest.length cr])) (own 5 1 v xs.length (xs.map bv) * (Go.Proofs.Ytkjfplldfjmbaaa.blk w.heap.size (dmO [.int .i64 6, .int .i64 n, .bool neg, .slice am mag.length cm, .string text, .slice ai items.length ci, .slice ar rest.length cr]) * R)) := (hs.alloc (dmO [.int .i64 6, .int .i64 n, .bool neg, .slice am mag.length cm, .string text, .slice ai items.length ci, .slice ar rest.length cr])).perm (by ac_rfl)
  have hb1 := Below.zero_alloc w (dmO [.int .i64 6, .int .i64 n, .bool neg, .slice am mag.length cm, .string text, .slice ai items.length ci, .slice ar rest.length cr])
  obtain ⟨g, hg⟩ : ∃ g, w.heap.size = g := ⟨_, rfl⟩
  rw [hg] at h1
  have a0 := h1.right.left.cell 0
  simp only [List.getElem?_toArray, List.getElem?_cons_zero] at a0
  have hN := num_lit h1 6 (by decide) (by omega)
  have HX := Lib.hid (And.intro hb1 (And.intro hl hd))
  have HG := Lib.hid hg
  clear h1 hb1 hs hl hd
  go_enter Try.func23, Try.ntmps23
  go_upto_region 1 with (fail)
  clear hg
  generalize w.alloc (dmO [.int .i64 6, .int .i64 n, .bool neg, .slice am mag.length cm, .string text, .slice ai items.length ci, .slice ar rest.length cr]) = w1 at *
  go_wp2_with fail
  refine hN.mono ?_
  clear hN a0
  rintro e w2 ⟨v2, rfl, h2, hb2⟩
  have hl2 := app_len xs (6 : Int).toNat (by decide) HX.out.2.1
  obtain ⟨ys, hys⟩ : ∃ ys, xs ++ numB (6 : Int).toNat = ys := ⟨_, rfl⟩
  rw [hys] at h2 hl2
  have a0 := h2.right.left.cell 0
  have a1 := h2.right.left.cell 1
  have a2 := h2.right.left.cell 2
  have a3 := h2.right.left.cell 3
  have a4 := h2.right.left.cell 4
  have a5 := h2.right.left.cell 5
  have a6 := h2.right.left.cell 6
  simp only [List.getElem?_toArray, List.getElem?_cons_zero, List.getElem?_cons_succ] at a0 a1 a2 a3 a4 a5 a6
  have hbb := HX.out.1.trans hb2
  have HH := Lib.hid (And.intro h2 (And.intro hbb (And.intro hys hl2)))
  clear h2 hbb hys hb2
  obtain ⟨G, hG⟩ : ∃ G : HP, G = Go.Proofs.Ytkjfplldfjmbaaa.blk g (dmO [.int .i64 6, .int .i64 n, .bool neg, .slice am mag.length cm, .string text, .slice ai items.length ci, .slice ar rest.length cr]) * R := ⟨_, rfl⟩
  have hyl : ys.length ≤ xs.length + 9 := by rw [← HH.out.2.2.1, List.length_append]; have := numB_ten (n := (6 : Int).toNat) (by decide); omega
  have h2G : sat w2 (own 5 1 v2 ys.length (ys.map bv) * G) := by rw [hG]; exact HH.out.1
  have hGR : ∀ w, sat w G → sat w R := fun w h => by rw [hG] at h; exact h.right
  have hGc : ∀ w, sat w G → w.cell? ⟨g, 0, none⟩ = some (.int .i64 6) ∧ w.cell? ⟨g, 5, none⟩ = some (.slice ai items.length ci) ∧ w.cell? ⟨g, 6, none⟩ = some (.slice ar rest.length cr) := fun w h => by
    rw [hG] at h
    exact ⟨(h.left.cell 0).trans rfl, (h.left.cell 5).trans rfl, (h.left.cell 6).trans rfl⟩
  have HGG := Lib.hid (And.intro hG (And.intro hGR hGc))
  have HYL := Lib.hid hyl
  clear hG hGR hGc hyl hl2
  have hN := num_len h2G items.length (by omega) (by have := HH.out.2.2.2; omega)
  clear h2G
  go_wp2_with fail
  refine hN.mono ?_
  clear hN a0 a1 a2 a3 a4 a5 a6
  rintro e w3 ⟨v3, rfl, h3, hb3⟩
  have hlz : (ys ++ numB items.length).length ≤ xs.length + 18 := by
    rw [List.length_append]
    have h2 := numB_nine items.length (by omega)
    have h3 := HYL.out
    omega
  obtain ⟨zs, hzs⟩ : ∃ zs, ys ++ numB items.length = zs := ⟨_, rfl⟩
  rw [hzs] at h3 hlz
  have a4 := (HGG.out.2.2 w3 h3.right).2.1
  have HQ := Lib.hid (And.intro h3 (And.intro (HH.out.2.1.trans hb3) (And.intro hzs hlz)))
  clear h3 hb3 hzs hlz
  go_wp2_with fail
  go_loopw [0, 76] (CiRel w G items zs) (fun _ i _ => items.length - (intOf i).toNat)
  case atStart => exact ⟨0, Nat.zero_le _, rfl, by rw [List.take_zero]; simp only [constBs, List.append_nil]; exact HQ.out.1, HQ.out.2.1⟩
  case round =>
    obtain ⟨j, hj, rfl, h5, hb5⟩ := hrel
    by_cases hlt : j < items.length
    · obtain ⟨d, ex⟩ : ∃ d, items[j]? = some d := ⟨_, List.getElem?_eq_getElem hlt⟩
      obtain ⟨bb, off, ds, rfl, hcell, hdd⟩ := HI.out.1.get j d ex
      have hcw := hcell wr (HGG.out.2.1 wr h5.right)
      rw [Nat.zero_add] at hcw
      have htk := constBs_take ex
      have hbd := constBs_bd j ex HI.out.1 HI.out.2.1 HI.out.2.2.1
      have hmem := List.mem_of_getElem? ex
      obtain ⟨k1, n1, ng1, am1, ml1, cm1, tx1, ai1, il1, ci1, ar1, rl1, cr1, rfl⟩ := hdd.cells
      have i0' := hcw 0 _ rfl
      have i1 := hcw 1 _ rfl
      have i2 := hcw 2 _ rfl
      have i3 := hcw 3 _ rfl
      have i4 := hcw 4 _ rfl
      have i5 := hcw 5 _ rfl
      have i6 := hcw 6 _ rfl
      rw [Nat.add_zero] at i0'
      have h6 := h5.alloc (dmO [.int .i64 k1, .int .i64 n1, .bool ng1, .slice am1 ml1 cm1, .string tx1, .slice ai1 il1 ci1, .slice ar1 rl1 cr1])
      obtain ⟨gb, hgb⟩ : ∃ gb, wr.heap.size = gb := ⟨_, rfl⟩
      rw [hgb] at h6
      have h7 : sat (wr.alloc (dmO [.int .i64 k1, .int .i64 n1, .bool ng1, .slice am1 ml1 cm1, .string tx1, .slice ai1 il1 ci1, .slice ar1 rl1 cr1])) (own 5 1 u0 (zs ++ constBs (items.take j)).length ((zs ++ constBs (items.take j)).map bv) * (Go.Proofs.Ytkjfplldfjmbaaa.blk gb (dmO [.int .i64 k1, .int .i64 n1, .bool ng1, .slice am1 ml1 cm1, .string tx1, .slice ai1 il1 ci1, .slice ar1 rl1 cr1]) * G)) := h6.perm (by ac_rfl)
      have hC := HI.out.2.2.2.1 d hmem _ _ _ _ _ h7 (hdd.mono (fun w h => HGG.out.2.1 w h.right) _) (by rw [List.length_append]; have := HQ.out.2.2.2; have := HL0.out; omega)
      have HK := Lib.hid (And.intro (hb5.trans (Below.zero_alloc wr (dmO [.int .i64 k1, .int .i64 n1, .bool ng1, .slice am1 ml1 cm1, .string tx1, .slice ai1 il1 ci1, .slice ar1 rl1 cr1]))) (And.intro htk hC))
      clear hcw hcell hdd h5 h6 h7 hb5 htk hbd hmem ex hC
      go_wp2_with fail
      refine HK.out.2.2.mono ?_
      clear i0' i1 i2 i3 i4 i5 i6
      rintro e w6 ⟨v6, rfl, h6, hb6⟩
      have HL := Lib.hid (And.intro h6 (HK.out.1.trans hb6))
      clear h6 hb6
      go_wp2_with fail
      go_roundw
      case rel =>
        refine ⟨j + 1, by omega, by go_num, ?_, HL.out.2⟩
        rw [HK.out.2.1, ← List.append_assoc]
        exact (HL.out.1.perm (show _ = Go.Proofs.Ytkjfplldfjmbaaa.blk gb (dmO [.int .i64 k1, .int .i64 n1, .bool ng1, .slice am1 ml1 cm1, .string tx1, .slice ai1 il1 ci1, .slice ar1 rl1 cr1]) * (own _ _ _ _ _ * G) by ac_rfl)).right
      case measure => simp [intOf]; omega
    · obtain rfl : j = items.length := by omega
      have hge : decide ((items.length : Int) < (items.length : Int)) = false := by simp
      rw [List.take_of_length_le (Nat.le_refl _)] at h5
      obtain ⟨a0, _, a5⟩ := HGG.out.2.2 wr h5.right
      have hbd := constBs_len items HI.out.1 HI.out.2.1 HI.out.2.2.1
      have hN := num_len h5 rest.length (by omega) (by rw [List.length_append]; have := HQ.out.2.2.2; have := HL0.out; omega)
      have HW := Lib.hid (And.intro hb5 hbd)
      clear h5 hb5 hbd
      go_wp2_with fail
      refine hN.mono ?_
      clear hN a0 a5
      rintro e w7 ⟨v7, rfl, h7, hb7⟩
      have hlu : (zs ++ constBs items ++ numB rest.length).length ≤ xs.length + 27 + 40 * Dm.sizes items := by
        rw [List.length_append, List.length_append]
        have h1 := numB_nine rest.length (by omega)
        have h2 := HW.out.2
        have h3 := HQ.out.2.2.2
        omega
      obtain ⟨us, hus⟩ : ∃ us, zs ++ constBs items ++ numB rest.length = us := ⟨_, rfl⟩
      rw [hus] at h7 hlu
      have a5 := (HGG.out.2.2 w7 h7.right).2.2
      have HU := Lib.hid (And.intro h7 (And.intro (HW.out.1.trans hb7) (And.intro hus hlu)))
      clear h7 hb7 hus hlu
      go_wp2_with fail
      go_loopw [0, 95] (CiRel w G rest us) (fun _ i _ => rest.length - (intOf i).toNat)
      case atStart => exact ⟨0, Nat.zero_le _, rfl, by rw [List.take_zero]; simp only [constBs, List.append_nil]; exact HU.out.1, HU.out.2.1⟩
      case round =>
        obtain ⟨j, hj, rfl, h5, hb5⟩ := hrel
        by_cases hlt : j < rest.length
        · obtain ⟨d, ex⟩ : ∃ d, rest[j]? = some d := ⟨_, List.getElem?_eq_getElem hlt⟩
          obtain ⟨bb, off, ds, rfl, hcell, hdd⟩ := HI.out.2.2.2.2.1.get j d ex
          have hcw := hcell wr (HGG.out.2.1 wr h5.right)
          rw [Nat.zero_add] at hcw
          have htk := constBs_take ex
          have hbd := constBs_bd j ex HI.out.2.2.2.2.1 HI.out.2.2.2.2.2.1 HI.out.2.2.2.2.2.2.1
          have hmem := List.mem_of_getElem? ex
          obtain ⟨k1, n1, ng1, am1, ml1, cm1, tx1, ai1, il1, ci1, ar1, rl1, cr1, rfl⟩ := hdd.cells
          have i0' := hcw 0 _ rfl
          have i1 := hcw 1 _ rfl
          have i2 := hcw 2 _ rfl
          have i3 := hcw 3 _ rfl
          have i4 := hcw 4 _ rfl
          have i5 := hcw 5 _ rfl
          have i6 := hcw 6 _ rfl
          rw [Nat.add_zero] at i0'
          have h6 := h5.alloc (dmO [.int .i64 k1, .int .i64 n1, .bool ng1, .slice am1 ml1 cm1, .string tx1, .slice ai1 il1 ci1, .slice ar1 rl1 cr1])
          obtain ⟨gb, hgb⟩ : ∃ gb, wr.heap.size = gb := ⟨_, rfl⟩
          rw [hgb] at h6
          have h7 : sat (wr.alloc (dmO [.int .i64 k1, .int .i64 n1, .bool ng1, .slice am1 ml1 cm1, .string tx1, .slice ai1 il1 ci1, .slice ar1 rl1 cr1])) (own 5 1 u0 (us ++ constBs (rest.take j)).length ((us ++ constBs (rest.take j)).map bv) * (Go.Proofs.Ytkjfplldfjmbaaa.blk gb (dmO [.int .i64 k1, .int .i64 n1, .bool ng1, .slice am1 ml1 cm1, .string tx1, .slice ai1 il1 ci1, .slice ar1 rl1 cr1]) * G)) := h6.perm (by ac_rfl)
          have hC := HI.out.2.2.2.2.2.2.2 d hmem _ _ _ _ _ h7 (hdd.mono (fun w h => HGG.out.2.1 w h.right) _) (by rw [List.length_append]; have := HU.out.2.2.2; have := HL0.out; omega)
          have HK := Lib.hid (And.intro (hb5.trans (Below.zero_alloc wr (dmO [.int .i64 k1, .int .i64 n1, .bool ng1, .slice am1 ml1 cm1, .string tx1, .slice ai1 il1 ci1, .slice ar1 rl1 cr1]))) (And.intro htk hC))
          clear hcw hcell hdd h5 h6 h7 hb5 htk hbd hmem ex hC
          go_wp2_with fail
          refine HK.out.2.2.mono ?_
          clear i0' i1 i2 i3 i4 i5 i6
          rintro e w6 ⟨v6, rfl, h6, hb6⟩
          have HL := Lib.hid (And.intro h6 (HK.out.1.trans hb6))
          clear h6 hb6
          go_wp2_with fail
          go_roundw
          case rel =>
            refine ⟨j + 1, by omega, by go_num, ?_, HL.out.2⟩
            rw [HK.out.2.1, ← List.append_assoc]
            exact (HL.out.1.perm (show _ = Go.Proofs.Ytkjfplldfjmbaaa.blk gb (dmO [.int .i64 k1, .int .i64 n1, .bool ng1, .slice am1 ml1 cm1, .string tx1, .slice ai1 il1 ci1, .slice ar1 rl1 cr1]) * (own _ _ _ _ _ * G) by ac_rfl)).right
          case measure => simp [intOf]; omega
        · obtain rfl : j = rest.length := by omega
          have hge : decide ((rest.length : Int) < (rest.length : Int)) = false := by simp
          rw [List.take_of_length_le (Nat.le_refl _)] at h5
          have HL := Lib.hid (And.intro h5 hb5)
          clear h5 hb5
          go_wp2_with fail
          go_ret
          refine ⟨_, rfl, ?_, HL.out.2⟩
          have e : xs ++ constB (.mk 6 n neg mag text items rest) = us ++ constBs rest := by
            unfold constB
            rw [← HU.out.2.2.1, ← HQ.out.2.2.1, ← HH.out.2.2.1, if_neg (by decide), if_neg (by decide), if_neg (by decide), if_neg (by decide), if_pos rfl]
            simp only [List.append_assoc]
          rw [e]
          have h9 := HL.out.1
          rw [HGG.out.1] at h9
          exact (h9.perm (show _ = Go.Proofs.Ytkjfplldfjmbaaa.blk g _ * (own _ _ _ _ _ * R) by ac_rfl)).right
set_option maxRecDepth 100000 in
set_option maxHeartbeats 4000000 in
theorem const_vec (n : Int) (neg : Bool) (mag : List Int) (text : ByteArray) (items rest : List Dm) (hz : Dm.sizes items ≤ 1048576) (hz2 : Dm.sizes rest ≤ 1048576) (hr1 : RightDs items) (hr2 : RightDs rest) (hP : ∀ d ∈ items, ConstAt d) (hP2 : ∀ d ∈ rest, ConstAt d) (w : World) (R : HP) (v : Value) (xs : List Int) (am : Option Addr) (cm : Nat) (ai : Option Addr) (ci : Nat) (ar : Option Addr) (cr : Nat)
    (hs : sat w (own 5 1 v xs.length (xs.map bv) * R)) (hd : DK R (.mk 7 n neg mag text items rest) [.int .i64 7, .int .i64 n, .bool neg, .slice am mag.length cm, .string text, .slice ai items.length ci, .slice ar rest.length cr]) (hL : xs.length + 40 * (1 + (Dm.sizes items + Dm.sizes rest)) ≤ 17592186044416) :
    Calls Try.prog 23 #[v, .agg #[.int .i64 7, .int .i64 n, .bool neg, .slice am mag.length cm, .string text, .slice ai items.length ci, .slice ar rest.length cr]] w (BytesR R (xs ++ constB (.mk 7 n neg mag text items rest)) w) := by
  have hl : xs.length ≤ 17592186044416 := by omega
  have HL0 := Lib.hid hL
  have hdi : DKs R items ai 0 ∧ DKs R rest ar 0 := by
    obtain ⟨am', cm', ai', ci', ar', cr', he, _, h5, h6⟩ := hd.open
    simp only [List.cons.injEq, Value.slice.injEq, and_true, true_and] at he
    obtain ⟨_, ⟨rfl, _⟩, rfl, _⟩ := he
    exact ⟨h5, h6⟩
  have hi1 := Dm.len_le items
  have hi2 := Dm.len_le rest
  have HI := Lib.hid (And.intro hdi.1 (And.intro hr1 (And.intro hz (And.intro hP (And.intro hdi.2 (And.intro hr2 (And.intro hz2 hP2)))))))
  clear hdi hr1 hr2 hP hP2 hL
  have h1 : sat (w.alloc (dmO [.int .i64 7, .int .i64 n, .bool neg, .slice am mag.length cm, .string text, .slice ai items.length ci, .slice ar rest.length cr])) (own 5 1 v xs.length (xs.map bv) * (Go.Proofs.Ytkjfplldfjmbaaa.blk w.heap.size (dmO [.int .i64 7, .int .i64 n, .bool neg, .slice am mag.length cm, .string text, .slice ai items.length ci, .slice ar rest.length cr]) * R)) := (hs.alloc (dmO [.int .i64 7, .int .i64 n, .bool neg, .slice am mag.length cm, .string text, .slice ai items.length ci, .slice ar rest.length cr])).perm (by ac_rfl)
  have hb1 := Below.zero_alloc w (dmO [.int .i64 7, .int .i64 n, .bool neg, .slice am mag.length cm, .string text, .slice ai items.length ci, .slice ar rest.length cr])
  obtain ⟨g, hg⟩ : ∃ g, w.heap.size = g := ⟨_, rfl⟩
  rw [hg] at h1
  have a0 := h1.right.left.cell 0
  simp only [List.getElem?_toArray, List.getElem?_cons_zero] at a0
  have hN := num_lit h1 7 (by decide) (by omega)
  have HX := Lib.hid (And.intro hb1 (And.intro hl hd))
  have HG := Lib.hid hg
  clear h1 hb1 hs hl hd
  go_enter Try.func23, Try.ntmps23
  go_upto_region 1 with (fail)
  clear hg
  generalize w.alloc (dmO [.int .i64 7, .int .i64 n, .bool neg, .slice am mag.length cm, .string text, .slice ai items.length ci, .slice ar rest.length cr]) = w1 at *
  go_wp2_with fail
  refine hN.mono ?_
  clear hN a0
  rintro e w2 ⟨v2, rfl, h2, hb2⟩
  have hl2 := app_len xs (7 : Int).toNat (by decide) HX.out.2.1
  obtain ⟨ys, hys⟩ : ∃ ys, xs ++ numB (7 : Int).toNat = ys := ⟨_, rfl⟩
  rw [hys] at h2 hl2
  have a0 := h2.right.left.cell 0
  have a1 := h2.right.left.cell 1
  have a2 := h2.right.left.cell 2
  have a3 := h2.right.left.cell 3
  have a4 := h2.right.left.cell 4
  have a5 := h2.right.left.cell 5
  have a6 := h2.right.left.cell 6
  simp only [List.getElem?_toArray, List.getElem?_cons_zero, List.getElem?_cons_succ] at a0 a1 a2 a3 a4 a5 a6
  have hbb := HX.out.1.trans hb2
  have HH := Lib.hid (And.intro h2 (And.intro hbb (And.intro hys hl2)))
  clear h2 hbb hys hb2
  obtain ⟨G, hG⟩ : ∃ G : HP, G = Go.Proofs.Ytkjfplldfjmbaaa.blk g (dmO [.int .i64 7, .int .i64 n, .bool neg, .slice am mag.length cm, .string text, .slice ai items.length ci, .slice ar rest.length cr]) * R := ⟨_, rfl⟩
  have hyl : ys.length ≤ xs.length + 9 := by rw [← HH.out.2.2.1, List.length_append]; have := numB_ten (n := (7 : Int).toNat) (by decide); omega
  have h2G : sat w2 (own 5 1 v2 ys.length (ys.map bv) * G) := by rw [hG]; exact HH.out.1
  have hGR : ∀ w, sat w G → sat w R := fun w h => by rw [hG] at h; exact h.right
  have hGc : ∀ w, sat w G → w.cell? ⟨g, 0, none⟩ = some (.int .i64 7) ∧ w.cell? ⟨g, 5, none⟩ = some (.slice ai items.length ci) ∧ w.cell? ⟨g, 6, none⟩ = some (.slice ar rest.length cr) := fun w h => by
    rw [hG] at h
    exact ⟨(h.left.cell 0).trans rfl, (h.left.cell 5).trans rfl, (h.left.cell 6).trans rfl⟩
  have HGG := Lib.hid (And.intro hG (And.intro hGR hGc))
  have HYL := Lib.hid hyl
  clear hG hGR hGc hyl hl2
  have hN := num_len h2G items.length (by omega) (by have := HH.out.2.2.2; omega)
  clear h2G
  go_wp2_with fail
  refine hN.mono ?_
  clear hN a0 a1 a2 a3 a4 a5 a6
  rintro e w3 ⟨v3, rfl, h3, hb3⟩
  have hlz : (ys ++ numB items.length).length ≤ xs.length + 18 := by
    rw [List.length_append]
    have h2 := numB_nine items.length (by omega)
    have h3 := HYL.out
    omega
  obtain ⟨zs, hzs⟩ : ∃ zs, ys ++ numB items.length = zs := ⟨_, rfl⟩
  rw [hzs] at h3 hlz
  have a4 := (HGG.out.2.2 w3 h3.right).2.1
  have HQ := Lib.hid (And.intro h3 (And.intro (HH.out.2.1.trans hb3) (And.intro hzs hlz)))
  clear h3 hb3 hzs hlz
  go_wp2_with fail
  go_loopw [0, 76] (CiRel w G items zs) (fun _ i _ => items.length - (intOf i).toNat)
  case atStart => exact ⟨0, Nat.zero_le _, rfl, by rw [List.take_zero]; simp only [constBs, List.append_nil]; exact HQ.out.1, HQ.out.2.1⟩
  case round =>
    obtain ⟨j, hj, rfl, h5, hb5⟩ := hrel
    by_cases hlt : j < items.length
    · obtain ⟨d, ex⟩ : ∃ d, items[j]? = some d := ⟨_, List.getElem?_eq_getElem hlt⟩
      obtain ⟨bb, off, ds, rfl, hcell, hdd⟩ := HI.out.1.get j d ex
      have hcw := hcell wr (HGG.out.2.1 wr h5.right)
      rw [Nat.zero_add] at hcw
      have htk := constBs_take ex
      have hbd := constBs_bd j ex HI.out.1 HI.out.2.1 HI.out.2.2.1
      have hmem := List.mem_of_getElem? ex
      obtain ⟨k1, n1, ng1, am1, ml1, cm1, tx1, ai1, il1, ci1, ar1, rl1, cr1, rfl⟩ := hdd.cells
      have i0' := hcw 0 _ rfl
      have i1 := hcw 1 _ rfl
      have i2 := hcw 2 _ rfl
      have i3 := hcw 3 _ rfl
      have i4 := hcw 4 _ rfl
      have i5 := hcw 5 _ rfl
      have i6 := hcw 6 _ rfl
      rw [Nat.add_zero] at i0'
      have h6 := h5.alloc (dmO [.int .i64 k1, .int .i64 n1, .bool ng1, .slice am1 ml1 cm1, .string tx1, .slice ai1 il1 ci1, .slice ar1 rl1 cr1])
      obtain ⟨gb, hgb⟩ : ∃ gb, wr.heap.size = gb := ⟨_, rfl⟩
      rw [hgb] at h6
      have h7 : sat (wr.alloc (dmO [.int .i64 k1, .int .i64 n1, .bool ng1, .slice am1 ml1 cm1, .string tx1, .slice ai1 il1 ci1, .slice ar1 rl1 cr1])) (own 5 1 u0 (zs ++ constBs (items.take j)).length ((zs ++ constBs (items.take j)).map bv) * (Go.Proofs.Ytkjfplldfjmbaaa.blk gb (dmO [.int .i64 k1, .int .i64 n1, .bool ng1, .slice am1 ml1 cm1, .string tx1, .slice ai1 il1 ci1, .slice ar1 rl1 cr1]) * G)) := h6.perm (by ac_rfl)
      have hC := HI.out.2.2.2.1 d hmem _ _ _ _ _ h7 (hdd.mono (fun w h => HGG.out.2.1 w h.right) _) (by rw [List.length_append]; have := HQ.out.2.2.2; have := HL0.out; omega)
      have HK := Lib.hid (And.intro (hb5.trans (Below.zero_alloc wr (dmO [.int .i64 k1, .int .i64 n1, .bool ng1, .slice am1 ml1 cm1, .string tx1, .slice ai1 il1 ci1, .slice ar1 rl1 cr1]))) (And.intro htk hC))
      clear hcw hcell hdd h5 h6 h7 hb5 htk hbd hmem ex hC
      go_wp2_with fail
      refine HK.out.2.2.mono ?_
      clear i0' i1 i2 i3 i4 i5 i6
      rintro e w6 ⟨v6, rfl, h6, hb6⟩
      have HL := Lib.hid (And.intro h6 (HK.out.1.trans hb6))
      clear h6 hb6
      go_wp2_with fail
      go_roundw
      case rel =>
        refine ⟨j + 1, by omega, by go_num, ?_, HL.out.2⟩
        rw [HK.out.2.1, ← List.append_assoc]
        exact (HL.out.1.perm (show _ = Go.Proofs.Ytkjfplldfjmbaaa.blk gb (dmO [.int .i64 k1, .int .i64 n1, .bool ng1, .slice am1 ml1 cm1, .string tx1, .slice ai1 il1 ci1, .slice ar1 rl1 cr1]) * (own _ _ _ _ _ * G) by ac_rfl)).right
      case measure => simp [intOf]; omega
    · obtain rfl : j = items.length := by omega
      have hge : decide ((items.length : Int) < (items.length : Int)) = false := by simp
      rw [List.take_of_length_le (Nat.le_refl _)] at h5
      obtain ⟨a0, _, a5⟩ := HGG.out.2.2 wr h5.right
      have hbd := constBs_len items HI.out.1 HI.out.2.1 HI.out.2.2.1
      have hlu : (zs ++ constBs items).length ≤ xs.length + 27 + 40 * Dm.sizes items := by
        rw [List.length_append]
        have h3 := HQ.out.2.2.2
        omega
      obtain ⟨us, hus⟩ : ∃ us, zs ++ constBs items = us := ⟨_, rfl⟩
      rw [hus] at h5 hlu
      have HU := Lib.hid (And.intro h5 (And.intro hb5 (And.intro hus hlu)))
      clear h5 hb5 hus hlu hbd
      go_wp2_with fail
      go_loopw [0, 95] (CiRel w G rest us) (fun _ i _ => rest.length - (intOf i).toNat)
      case atStart => exact ⟨0, Nat.zero_le _, rfl, by rw [List.take_zero]; simp only [constBs, List.append_nil]; exact HU.out.1, HU.out.2.1⟩
      case round =>
        obtain ⟨j, hj, rfl, h5, hb5⟩ := hrel
        by_cases hlt : j < rest.length
        · obtain ⟨d, ex⟩ : ∃ d, rest[j]? = some d := ⟨_, List.getElem?_eq_getElem hlt⟩
          obtain ⟨bb, off, ds, rfl, hcell, hdd⟩ := HI.out.2.2.2.2.1.get j d ex
          have hcw := hcell wr (HGG.out.2.1 wr h5.right)
          rw [Nat.zero_add] at hcw
          have htk := constBs_take ex
          have hbd := constBs_bd j ex HI.out.2.2.2.2.1 HI.out.2.2.2.2.2.1 HI.out.2.2.2.2.2.2.1
          have hmem := List.mem_of_getElem? ex
          obtain ⟨k1, n1, ng1, am1, ml1, cm1, tx1, ai1, il1, ci1, ar1, rl1, cr1, rfl⟩ := hdd.cells
          have i0' := hcw 0 _ rfl
          have i1 := hcw 1 _ rfl
          have i2 := hcw 2 _ rfl
          have i3 := hcw 3 _ rfl
          have i4 := hcw 4 _ rfl
          have i5 := hcw 5 _ rfl
          have i6 := hcw 6 _ rfl
          rw [Nat.add_zero] at i0'
          have h6 := h5.alloc (dmO [.int .i64 k1, .int .i64 n1, .bool ng1, .slice am1 ml1 cm1, .string tx1, .slice ai1 il1 ci1, .slice ar1 rl1 cr1])
          obtain ⟨gb, hgb⟩ : ∃ gb, wr.heap.size = gb := ⟨_, rfl⟩
          rw [hgb] at h6
          have h7 : sat (wr.alloc (dmO [.int .i64 k1, .int .i64 n1, .bool ng1, .slice am1 ml1 cm1, .string tx1, .slice ai1 il1 ci1, .slice ar1 rl1 cr1])) (own 5 1 u0 (us ++ constBs (rest.take j)).length ((us ++ constBs (rest.take j)).map bv) * (Go.Proofs.Ytkjfplldfjmbaaa.blk gb (dmO [.int .i64 k1, .int .i64 n1, .bool ng1, .slice am1 ml1 cm1, .string tx1, .slice ai1 il1 ci1, .slice ar1 rl1 cr1]) * G)) := h6.perm (by ac_rfl)
          have hC := HI.out.2.2.2.2.2.2.2 d hmem _ _ _ _ _ h7 (hdd.mono (fun w h => HGG.out.2.1 w h.right) _) (by rw [List.length_append]; have := HU.out.2.2.2; have := HL0.out; omega)
          have HK := Lib.hid (And.intro (hb5.trans (Below.zero_alloc wr (dmO [.int .i64 k1, .int .i64 n1, .bool ng1, .slice am1 ml1 cm1, .string tx1, .slice ai1 il1 ci1, .slice ar1 rl1 cr1]))) (And.intro htk hC))
          clear hcw hcell hdd h5 h6 h7 hb5 htk hbd hmem ex hC
          go_wp2_with fail
          refine HK.out.2.2.mono ?_
          clear i0' i1 i2 i3 i4 i5 i6
          rintro e w6 ⟨v6, rfl, h6, hb6⟩
          have HL := Lib.hid (And.intro h6 (HK.out.1.trans hb6))
          clear h6 hb6
          go_wp2_with fail
          go_roundw
          case rel =>
            refine ⟨j + 1, by omega, by go_num, ?_, HL.out.2⟩
            rw [HK.out.2.1, ← List.append_assoc]
            exact (HL.out.1.perm (show _ = Go.Proofs.Ytkjfplldfjmbaaa.blk gb (dmO [.int .i64 k1, .int .i64 n1, .bool ng1, .slice am1 ml1 cm1, .string tx1, .slice ai1 il1 ci1, .slice ar1 rl1 cr1]) * (own _ _ _ _ _ * G) by ac_rfl)).right
          case measure => simp [intOf]; omega
        · obtain rfl : j = rest.length := by omega
          have hge : decide ((rest.length : Int) < (rest.length : Int)) = false := by simp
          rw [List.take_of_length_le (Nat.le_refl _)] at h5
          have HL := Lib.hid (And.intro h5 hb5)
          clear h5 hb5
          go_wp2_with fail
          go_ret
          refine ⟨_, rfl, ?_, HL.out.2⟩
          have e : xs ++ constB (.mk 7 n neg mag text items rest) = us ++ constBs rest := by
            unfold constB
            rw [← HU.out.2.2.1, ← HQ.out.2.2.1, ← HH.out.2.2.1, if_neg (by decide), if_neg (by decide), if_neg (by decide), if_neg (by decide), if_neg (by decide), if_pos rfl]
            simp only [List.append_assoc]
          rw [e]
          have h9 := HL.out.1
          rw [HGG.out.1] at h9
          exact (h9.perm (show _ = Go.Proofs.Ytkjfplldfjmbaaa.blk g _ * (own _ _ _ _ _ * R) by ac_rfl)).right
/-- constant of whatever datum that may be written. -/
theorem consts_all : ∀ s : Nat, s ≤ 1048576 → ∀ d : Dm, d.size ≤ s → RightD d → ConstAt d := by
  intro s
  induction s with
  | zero => intro _ d hd; have := d.size_pos; omega
  | succ s ih =>
    intro hs d hd hr w R v xs cs h1 hdk hl
    cases d with
    | mk k n neg mag text items rest =>
    obtain ⟨am, cm, ai, ci, ar, cr, rfl, _⟩ := hdk.open
    have hd0 := hd
    unfold Dm.size at hd0 hl
    have hr0 := hr
    unfold RightD at hr
    rcases hr with ⟨rfl | rfl | rfl, hn, _⟩ | ⟨rfl, hn, _⟩ | ⟨rfl, _⟩ | ⟨rfl, _⟩ | ⟨rfl, _⟩ | ⟨hk, _, _, _, _, _, _, h8, h9⟩
    · exact const_sign2 n neg mag text items rest hn w R v xs am cm ai ci ar cr h1 hdk (by omega)
    · exact const_sign3 n neg mag text items rest hn w R v xs am cm ai ci ar cr h1 hdk (by omega)
    · exact const_sign9 n neg mag text items rest hn w R v xs am cm ai ci ar cr h1 hdk (by omega)
    · exact const_sym n neg mag text items rest (by omega) hn w R v xs am cm ai ci ar cr h1 hdk (by omega)
    · exact const_int n neg mag text items rest (by omega) w R v xs am cm ai ci ar cr h1 hdk (by omega)
    · exact const_text n neg mag text items rest (by omega) w R v xs am cm ai ci ar cr h1 hdk (by omega)
    · exact const_void n neg mag text items rest w R v xs am cm ai ci ar cr h1 hdk (by omega)
    · have q1 : ∀ d ∈ items, ConstAt d := by
        intro d hd'
        obtain ⟨i, hi⟩ := List.mem_iff_getElem?.1 hd'
        have := Dm.size_le hi
        exact ih (by omega) d (by omega) (h8.mem d hd')
      have q2 : ∀ d ∈ rest, ConstAt d := by
        intro d hd'
        obtain ⟨i, hi⟩ := List.mem_iff_getElem?.1 hd'
        have := Dm.size_le hi
        exact ih (by omega) d (by omega) (h9.mem d hd')
      rcases hk with rfl | rfl
      · exact const_list n neg mag text items rest (by omega) (by omega) h8 h9 q1 q2 w R v xs am cm ai ci ar cr h1 hdk (by omega)
      · exact const_vec n neg mag text items rest (by omega) (by omega) h8 h9 q1 q2 w R v xs am cm ai ci ar cr h1 hdk (by omega)
theorem pack_constant {d : Dm} (hz : d.size ≤ 1048576) (hr : RightD d) : ConstAt d := consts_all 1048576 (Nat.le_refl _) d hz hr
end Go.Proofs.Ytkjfplldfjmbaaa
