/- tandemlaw00: SameLimbs, SameNum, Same, SameAll. -/
import Derived.Test.YtkjfplldfjmbaaaDmCopy
namespace Go.Proofs.Ytkjfplldfjmbaaa
open Go.RowKit

/-- It answers v; what R says still holds. -/
def SaysR (R : HP) (v : Value) (w : World) (e : Ending) (w' : World) : Prop := e = .returned v ∧ sat w' R ∧ Below 0 w w'
theorem drewN_low (w : World) (n : Nat) : Below 0 w (w.drewN n) := ⟨rfl, rfl, rfl, Nat.le_refl _, fun _ h => absurd h (Nat.not_lt_zero _)⟩
theorem DK.seven {R : HP} {d : Dm} {cs : List Value} (h : DK R d cs) : ∃ v0 v1 v2 v3 v4 v5 v6 : Value, cs = [v0, v1, v2, v3, v4, v5, v6] := by
  cases d
  obtain ⟨_, _, _, _, _, _, rfl, _⟩ := h.open
  exact ⟨_, _, _, _, _, _, _, rfl⟩
def MagRel (w : World) (xs ys : List Int) (i : Value) (wr : World) : Prop :=
  ∃ k n : Nat, k ≤ xs.length ∧ i = .int .i64 k ∧ wr = w.drewN n ∧ ∀ j, j < k → xs[j]? = ys[j]?
set_option maxHeartbeats 400000 in
theorem same_mags (w : World) (ao bo : Option Addr) (c d : Nat) (xs ys : List Int) (hx : MagW w ao xs) (hy : MagW w bo ys) (hn : xs.length < 4611686018427387904) (hm : ys.length < 4611686018427387904) :
    Calls Try.prog 64 #[.slice ao xs.length c, .slice bo ys.length d] w fun e w' => e = .returned (.bool (decide (xs = ys))) ∧ ∃ n, w' = w.drewN n := by
  by_cases hl : xs.length = ys.length
  · have hl2 : (xs.length : Int) = ys.length := by omega
    generalize hnx : xs.length = n1 at *
    generalize hny : ys.length = n2 at *
    subst hl
    have HX := Lib.hid (And.intro hnx hny)
    clear hnx hny hm hl2
    go_enter Try.func64, Try.ntmps64
    go_wp2_with fail
    go_loopw [5] (MagRel w xs ys) (fun i _ => n1 - (intOf i).toNat)
    case atStart => exact ⟨0, 0, Nat.zero_le _, rfl, rfl, fun j h => by omega⟩
    case round =>
      obtain ⟨k, n, hk, rfl, rfl, hsame⟩ := hrel
      by_cases hlt : k < n1
      · obtain ⟨x, ex⟩ : ∃ x, xs[k]? = some x := ⟨_, List.getElem?_eq_getElem (by rw [HX.out.1]; exact hlt)⟩
        obtain ⟨y, ey⟩ : ∃ y, ys[k]? = some y := ⟨_, List.getElem?_eq_getElem (by rw [HX.out.2]; exact hlt)⟩
        obtain ⟨a, rfl, ha⟩ := hx k x ex
        obtain ⟨b, rfl, hb⟩ := hy k y ey
        have ha' : (w.drewN n).cell? (a.add k) = some (.int .u32 x) := ha
        have hb' : (w.drewN n).cell? (b.add k) = some (.int .u32 y) := hb
        obtain ⟨w9, hw9⟩ : ∃ w9, w.drewN n = w9 := ⟨_, rfl⟩
        rw [hw9] at ha' hb' ⊢
        have HS := Lib.hid (And.intro hsame (And.intro ex (And.intro ey hw9)))
        clear hsame ex ey ha hb hw9
        by_cases hxy : x = y
        · have e1 : (x == y) = true := by simp [hxy]
          have e2 : (x != y) = false := by simp [hxy]
          go_wp2_with fail
          go_quiet (fail)
          go_wp2_with fail
          go_roundw
          case rel =>
            refine ⟨k + 1, _, by rw [HX.out.1]; omega, by go_num, by rw [← HS.out.2.2.2, World.drewN_drewN], ?_⟩
            intro j hj
            by_cases e : j = k
            · subst e; rw [HS.out.2.1, HS.out.2.2.1, hxy]
            · exact HS.out.1 j (by omega)
          case measure => simp [intOf]; omega
        · have e1 : (x == y) = false := by simp [hxy]
          have e2 : (x != y) = true := by simp [hxy]
          have hne : decide (xs = ys) = false := by
            rw [decide_eq_false_iff_not]
            rintro rfl
            have := HS.out.2.1
            rw [HS.out.2.2.1] at this
            exact hxy (Option.some.inj this).symm
          have HN := Lib.hid hne
          clear hne
          go_wp2_with fail
          go_quiet (fail)
          go_wp2_with fail
          go_ret
          rw [HN.out]
          exact ⟨rfl, _, by rw [← HS.out.2.2.2, World.drewN_drewN]⟩
      · have hge : (n1 : Int) ≤ k := by omega
        have heq : decide (xs = ys) = true := by
          rw [decide_eq_true_eq]
          apply List.ext_getElem?
          intro j
          rcases Nat.lt_or_ge j k with h | h
          · exact hsame j h
          · rw [List.getElem?_eq_none (by rw [HX.out.1]; omega), List.getElem?_eq_none (by rw [HX.out.2]; omega)]
        have HQ := Lib.hid heq
        clear heq hsame
        go_wp2_with fail
        go_ret
        rw [HQ.out]
        exact ⟨rfl, n, rfl⟩
  · have he : decide (xs = ys) = false := by rw [decide_eq_false_iff_not]; rintro rfl; exact hl rfl
    rw [he]
    have hl2 : ((xs.length : Int) == (ys.length : Int)) = false := by rw [beq_eq_false_iff_ne]; omega
    go_enter Try.func64, Try.ntmps64
    go_wp2_with fail
    go_ret
    exact ⟨rfl, 0, rfl⟩
set_option maxRecDepth 100000 in
set_option maxHeartbeats 1000000 in
theorem same_numB {w : World} {R : HP} (hs : sat w R) (p q : Bool) (ao bo : Option Addr) (ca cb : Nat) (a b : List Int) (ha : ∀ w, sat w R → MagW w ao a) (hb : ∀ w, sat w R → MagW w bo b) (hn : a.length ≤ 1048576) (hm : b.length ≤ 1048576) :
    Calls Try.prog 59 #[.agg #[.bool p, .slice ao a.length ca], .agg #[.bool q, .slice bo b.length cb]] w (SaysR R (.bool (p == q && decide (a = b))) w) := by
  have h2 := (hs.alloc (.cells #[.bool p, .slice ao a.length ca] 57)).alloc (.cells #[.bool q, .slice bo b.length cb] 57)
  have hb2 : Below 0 w ((w.alloc (.cells #[.bool p, .slice ao a.length ca] 57)).alloc (.cells #[.bool q, .slice bo b.length cb] 57)) := (Below.zero_alloc _ _).trans (Below.zero_alloc _ _)
  have hC := same_mags _ ao bo ca cb a b (ha _ h2.right.right) (hb _ h2.right.right) (by omega) (by omega)
  have HX := Lib.hid (And.intro h2.right.right hb2)
  obtain ⟨r, hr⟩ : ∃ r, decide (a = b) = r := ⟨_, rfl⟩
  rw [hr] at hC ⊢
  clear h2 hb2 hs ha hb hr
  cases hpq : (p == q) with
  | true =>
    rw [Bool.true_and]
    go_enter Try.func59, Try.ntmps59
    go_wp2_with fail
    refine hC.mono ?_
    rintro e w' ⟨rfl, j, rfl⟩
    go_wp2_with fail
    go_ret
    exact ⟨rfl, HX.out.1.drewN j, HX.out.2.trans (drewN_low _ j)⟩
  | false =>
    rw [Bool.false_and]
    go_enter Try.func59, Try.ntmps59
    go_wp2_with fail
    go_ret
    exact ⟨rfl, HX.out.1, HX.out.2⟩
theorem text_inj {s t : ByteArray} (h : s.toList = t.toList) : s = t := by
  rw [ByteArray.toList_eq, ByteArray.toList_eq] at h
  cases s; cases t
  simp at h
  rw [h]
open Classical in
/-- Are two data the same? -/
noncomputable def sameB (d e : Dm) : Bool := decide (d = e)
open Classical in
noncomputable def samesB (l m : List Dm) : Bool := decide (l = m)
theorem sameB_true {d e : Dm} : sameB d e = true ↔ d = e := by unfold sameB; simp
theorem samesB_true {l m : List Dm} : samesB l m = true ↔ l = m := by unfold samesB; simp
theorem sameB_false {d e : Dm} : sameB d e = false ↔ d ≠ e := by rw [← Bool.not_eq_true, sameB_true]
theorem samesB_false {l m : List Dm} : samesB l m = false ↔ l ≠ m := by rw [← Bool.not_eq_true, samesB_true]
set_option maxRecDepth 100000 in
set_option maxHeartbeats 4000000 in
theorem same_step (k1 n1 : Int) (p1 : Bool) (m1 : List Int) (t1 : ByteArray) (i1 r1 : List Dm) (k2 n2 : Int) (p2 : Bool) (m2 : List Int) (t2 : ByteArray) (i2 r2 : List Dm)
    (hsz1 : (Dm.mk k1 n1 p1 m1 t1 i1 r1).size ≤ 1048576) (hsz2 : (Dm.mk k2 n2 p2 m2 t2 i2 r2).size ≤ 1048576)
    (hQ1 : ∀ (w : World) (R : HP) (ao bo : Option Addr) (ca cb : Nat), sat w R → DKs R i1 ao 0 → DKs R i2 bo 0 → Calls Try.prog 32 #[.slice ao i1.length ca, .slice bo i2.length cb] w (SaysR R (.bool (samesB i1 i2)) w))
    (hQ2 : ∀ (w : World) (R : HP) (ao bo : Option Addr) (ca cb : Nat), sat w R → DKs R r1 ao 0 → DKs R r2 bo 0 → Calls Try.prog 32 #[.slice ao r1.length ca, .slice bo r2.length cb] w (SaysR R (.bool (samesB r1 r2)) w))
    (w : World) (R : HP) (cs ds : List Value) (hs : sat w R) (hd : DK R (.mk k1 n1 p1 m1 t1 i1 r1) cs) (he : DK R (.mk k2 n2 p2 m2 t2 i2 r2) ds) :
    Calls Try.prog 50 #[.agg cs.toArray, .agg ds.toArray] w (SaysR R (.bool (sameB (.mk k1 n1 p1 m1 t1 i1 r1) (.mk k2 n2 p2 m2 t2 i2 r2))) w) := by
  unfold Dm.size at hsz1 hsz2
  obtain ⟨am, cm, ai, ci, ar, cr, rfl, ⟨_, _, hmag, _⟩, hit, hre⟩ := hd.open
  obtain ⟨bm, dm, bi, di, br, dr, rfl, ⟨_, _, hmag', _⟩, hit', hre'⟩ := he.open
  have hsame : sameB (.mk k1 n1 p1 m1 t1 i1 r1) (.mk k2 n2 p2 m2 t2 i2 r2) = true ↔ (k1 = k2 ∧ n1 = n2 ∧ t1 = t2 ∧ (p1 == p2 && decide (m1 = m2)) = true ∧ samesB i1 i2 = true ∧ samesB r1 r2 = true) := by
    rw [sameB_true, samesB_true, samesB_true]
    simp only [Dm.mk.injEq, Bool.and_eq_true, beq_iff_eq, decide_eq_true_eq]
    constructor
    · rintro ⟨a, b, c, d, e, f, g⟩; exact ⟨a, b, e, ⟨c, d⟩, f, g⟩
    · rintro ⟨a, b, e, ⟨c, d⟩, f, g⟩; exact ⟨a, b, c, d, e, f, g⟩
  obtain ⟨B, hB⟩ : ∃ B, sameB (.mk k1 n1 p1 m1 t1 i1 r1) (.mk k2 n2 p2 m2 t2 i2 r2) = B := ⟨_, rfl⟩
  rw [hB] at hsame ⊢
  have hs1 := (hs.alloc (dmO [.int .i64 k1, .int .i64 n1, .bool p1, .slice am m1.length cm, .string t1, .slice ai i1.length ci, .slice ar r1.length cr])).alloc (dmO [.int .i64 k2, .int .i64 n2, .bool p2, .slice bm m2.length dm, .string t2, .slice bi i2.length di, .slice br r2.length dr])
  rw [World.size_alloc] at hs1
  have hb1 : Below 0 w ((w.alloc (dmO [.int .i64 k1, .int .i64 n1, .bool p1, .slice am m1.length cm, .string t1, .slice ai i1.length ci, .slice ar r1.length cr])).alloc (dmO [.int .i64 k2, .int .i64 n2, .bool p2, .slice bm m2.length dm, .string t2, .slice bi i2.length di, .slice br r2.length dr])) := (Below.zero_alloc _ _).trans (Below.zero_alloc _ _)
  obtain ⟨g, hg⟩ : ∃ g, w.heap.size = g := ⟨_, rfl⟩
  rw [hg] at hs1
  obtain ⟨F, hF⟩ : ∃ F : HP, F = Go.Proofs.Ytkjfplldfjmbaaa.blk (g + 1) (dmO [.int .i64 k2, .int .i64 n2, .bool p2, .slice bm m2.length dm, .string t2, .slice bi i2.length di, .slice br r2.length dr]) * (Go.Proofs.Ytkjfplldfjmbaaa.blk g (dmO [.int .i64 k1, .int .i64 n1, .bool p1, .slice am m1.length cm, .string t1, .slice ai i1.length ci, .slice ar r1.length cr]) * R) := ⟨_, rfl⟩
  rw [← hF] at hs1
  have hFR : ∀ w', sat w' F → sat w' R := fun w' h => by rw [hF] at h; exact h.right.right
  have hc : ∀ w', sat w' F → (w'.cell? ⟨g, 0, none⟩ = some (.int .i64 k1) ∧ w'.cell? ⟨g, 1, none⟩ = some (.int .i64 n1) ∧ w'.cell? ⟨g, 2, none⟩ = some (.bool p1) ∧ w'.cell? ⟨g, 3, none⟩ = some (.slice am m1.length cm) ∧ w'.cell? ⟨g, 4, none⟩ = some (.string t1) ∧ w'.cell? ⟨g, 5, none⟩ = some (.slice ai i1.length ci) ∧ w'.cell? ⟨g, 6, none⟩ = some (.slice ar r1.length cr)) ∧
      (w'.cell? ⟨g + 1, 0, none⟩ = some (.int .i64 k2) ∧ w'.cell? ⟨g + 1, 1, none⟩ = some (.int .i64 n2) ∧ w'.cell? ⟨g + 1, 2, none⟩ = some (.bool p2) ∧ w'.cell? ⟨g + 1, 3, none⟩ = some (.slice bm m2.length dm) ∧ w'.cell? ⟨g + 1, 4, none⟩ = some (.string t2) ∧ w'.cell? ⟨g + 1, 5, none⟩ = some (.slice bi i2.length di) ∧ w'.cell? ⟨g + 1, 6, none⟩ = some (.slice br r2.length dr)) := by
    intro w' h
    rw [hF] at h
    exact ⟨⟨h.right.left.cell 0, h.right.left.cell 1, h.right.left.cell 2, h.right.left.cell 3, h.right.left.cell 4, h.right.left.cell 5, h.right.left.cell 6⟩, h.left.cell 0, h.left.cell 1, h.left.cell 2, h.left.cell 3, h.left.cell 4, h.left.cell 5, h.left.cell 6⟩
  have hN := same_numB hs1 p1 p2 am bm cm dm m1 m2 (fun w h => hmag w (hFR w h)) (fun w h => hmag' w (hFR w h)) (by omega) (by omega)
  have hI := fun w' (h : sat w' F) => hQ1 w' F ai bi ci di h (hit.mono hFR _) (hit'.mono hFR _)
  have hJ := fun w' (h : sat w' F) => hQ2 w' F ar br cr dr h (hre.mono hFR _) (hre'.mono hFR _)
  have HH := Lib.hid (And.intro hs1 (And.intro hb1 (And.intro hc (And.intro hI (And.intro hJ hFR)))))
  clear hs1 hb1 hc hI hJ hFR hF hQ1 hQ2 hs hit hit' hre hre' hmag hmag' hd he
  obtain ⟨qn, hqn⟩ : ∃ qn, (p1 == p2 && decide (m1 = m2)) = qn := ⟨_, rfl⟩
  obtain ⟨qi, hqi⟩ : ∃ qi, samesB i1 i2 = qi := ⟨_, rfl⟩
  obtain ⟨qr, hqr⟩ : ∃ qr, samesB r1 r2 = qr := ⟨_, rfl⟩
  rw [hqn] at hsame hN
  rw [hqi, hqr] at hsame
  rw [hqi, hqr] at HH
  clear hqn hqi hqr hB
  go_enter Try.func50, Try.ntmps50
  go_upto_region 1 with (fail)
  generalize (w.alloc (dmO [.int .i64 k1, .int .i64 n1, .bool p1, .slice am m1.length cm, .string t1, .slice ai i1.length ci, .slice ar r1.length cr])).alloc (dmO [.int .i64 k2, .int .i64 n2, .bool p2, .slice bm m2.length dm, .string t2, .slice bi i2.length di, .slice br r2.length dr]) = w1 at *
  obtain ⟨⟨c0, c1, c2, c3, c4, c5, c6⟩, ⟨d0, d1, d2, d3, d4, d5, d6⟩⟩ := HH.out.2.2.1 w1 HH.out.1
  by_cases hk : k1 = k2
  · have ek : (k1 == k2) = true := by simp [hk]
    by_cases hn : n1 = n2
    · have en : (n1 == n2) = true := by simp [hn]
      by_cases ht : t1 = t2
      · have et : (t1.toList == t2.toList) = true := by rw [ht, beq_self_eq_true]
        subst hk hn ht
        have hsame2 : B = true ↔ (qn = true ∧ qi = true ∧ qr = true) := by rw [hsame]; simp
        clear hsame
        go_wp2_with fail
        with_reducible refine hN.mono ?_
        clear hN c0 c1 c2 c3 c4 c5 c6 d0 d1 d2 d3 d4 d5 d6
        rintro e w2 ⟨rfl, h2, hb2⟩
        obtain ⟨⟨c0, c1, c2, c3, c4, c5, c6⟩, ⟨d0, d1, d2, d3, d4, d5, d6⟩⟩ := HH.out.2.2.1 w2 h2
        have hI := HH.out.2.2.2.1 w2 h2
        have H2 := Lib.hid (And.intro h2 (HH.out.2.1.trans hb2))
        clear h2 hb2
        cases qn with
        | false =>
          have hb0 : B = false := by rw [← Bool.not_eq_true, hsame2]; simp
          subst hb0
          clear hsame2 hI
          go_wp2_with fail
          go_ret
          exact ⟨rfl, HH.out.2.2.2.2.2 _ H2.out.1, H2.out.2⟩
        | true =>
          go_wp2_with fail
          with_reducible refine hI.mono ?_
          clear hI c0 c1 c2 c3 c4 c5 c6 d0 d1 d2 d3 d4 d5 d6
          rintro e w3 ⟨rfl, h3, hb3⟩
          obtain ⟨⟨c0, c1, c2, c3, c4, c5, c6⟩, ⟨d0, d1, d2, d3, d4, d5, d6⟩⟩ := HH.out.2.2.1 w3 h3
          have hJ := HH.out.2.2.2.2.1 w3 h3
          have H3 := Lib.hid (And.intro h3 (H2.out.2.trans hb3))
          clear h3 hb3
          cases qi with
          | false =>
            have hb0 : B = false := by rw [← Bool.not_eq_true, hsame2]; simp
            subst hb0
            clear hsame2 hJ
            go_wp2_with fail
            go_ret
            exact ⟨rfl, HH.out.2.2.2.2.2 _ H3.out.1, H3.out.2⟩
          | true =>
            have hb0 : B = qr := by
              cases qr with
              | true => rw [hsame2]; simp
              | false => rw [← Bool.not_eq_true, hsame2]; simp
            subst hb0
            clear hsame2
            go_wp2_with fail
            with_reducible refine hJ.mono ?_
            clear hJ
            rintro e w4 ⟨rfl, h4, hb4⟩
            have H4 := Lib.hid (And.intro h4 (H3.out.2.trans hb4))
            clear h4 hb4
            go_wp2_with fail
            go_ret
            exact ⟨rfl, HH.out.2.2.2.2.2 _ H4.out.1, H4.out.2⟩
      · have et : (t1.toList == t2.toList) = false := by rw [beq_eq_false_iff_ne]; exact fun h => ht (text_inj h)
        subst hk hn
        have hb0 : B = false := by rw [← Bool.not_eq_true, hsame]; exact fun h => ht h.2.2.1
        subst hb0
        clear hsame hN
        go_wp2_with fail
        go_ret
        exact ⟨rfl, HH.out.2.2.2.2.2 _ HH.out.1, HH.out.2.1⟩
    · have en : (n1 == n2) = false := by simp [hn]
      subst hk
      have hb0 : B = false := by rw [← Bool.not_eq_true, hsame]; exact fun h => hn h.2.1
      subst hb0
      clear hsame hN
      go_wp2_with fail
      go_ret
      exact ⟨rfl, HH.out.2.2.2.2.2 _ HH.out.1, HH.out.2.1⟩
  · have ek : (k1 == k2) = false := by simp [hk]
    have hb0 : B = false := by rw [← Bool.not_eq_true, hsame]; exact fun h => hk h.1
    subst hb0
    clear hsame hN
    go_wp2_with fail
    go_ret
    exact ⟨rfl, HH.out.2.2.2.2.2 _ HH.out.1, HH.out.2.1⟩
def SaRel (W : World) (R : HP) (n : Nat) (l m : List Dm) (i : Value) (wr : World) : Prop := ∃ k : Nat, k ≤ n ∧ i = .int .i64 k ∧ sat wr R ∧ Below 0 W wr ∧ l.take k = m.take k
set_option maxRecDepth 100000 in
set_option maxHeartbeats 2000000 in
theorem sames_step (l m : List Dm) (hl : l.length ≤ 1048576) (hm : m.length ≤ 1048576)
    (hP : ∀ d ∈ l, ∀ e ∈ m, ∀ (w : World) (R : HP) cs ds, sat w R → DK R d cs → DK R e ds → Calls Try.prog 50 #[.agg cs.toArray, .agg ds.toArray] w (SaysR R (.bool (sameB d e)) w))
    (w : World) (R : HP) (ao bo : Option Addr) (ca cb : Nat) (hs : sat w R) (hd : DKs R l ao 0) (he : DKs R m bo 0) :
    Calls Try.prog 32 #[.slice ao l.length ca, .slice bo m.length cb] w (SaysR R (.bool (samesB l m)) w) := by
  have HP0 := Lib.hid (And.intro hP (And.intro hd he))
  clear hP hd he
  obtain ⟨n1, hn1⟩ : ∃ n, l.length = n := ⟨_, rfl⟩
  obtain ⟨n2, hn2⟩ : ∃ n, m.length = n := ⟨_, rfl⟩
  rw [hn1] at hl ⊢
  rw [hn2] at hm ⊢
  obtain ⟨B, hB⟩ : ∃ B, samesB l m = B := ⟨_, rfl⟩
  rw [hB]
  have HL := Lib.hid (And.intro hn1 (And.intro hn2 hB))
  clear hn1 hn2 hB
  go_enter Try.func32, Try.ntmps32
  by_cases hnn : n1 = n2
  · have e0 : ((n1 : Int) == (n2 : Int)) = true := by simp [hnn]
    subst hnn
    go_wp2_with fail
    go_loopw [5] (SaRel w R n1 l m) (fun i _ => n1 - (intOf i).toNat)
    case atStart => exact ⟨0, Nat.zero_le _, rfl, hs, Below.refl _ _, rfl⟩
    case round =>
      obtain ⟨k, hk, rfl, hs1, hb1, htk⟩ := hrel
      by_cases hlt : k < n1
      · obtain ⟨d, ex⟩ : ∃ d, l[k]? = some d := ⟨_, List.getElem?_eq_getElem (by have := HL.out.1; omega)⟩
        obtain ⟨e, ey⟩ : ∃ e, m[k]? = some e := ⟨_, List.getElem?_eq_getElem (by have := HL.out.2.1; omega)⟩
        obtain ⟨b1, o1, cs, rfl, hcx, hdx⟩ := HP0.out.2.1.get k d ex
        obtain ⟨b2, o2, ds, rfl, hcy, hdy⟩ := HP0.out.2.2.get k e ey
        have hC := HP0.out.1 d (List.mem_of_getElem? ex) e (List.mem_of_getElem? ey) (wr.drewN 1) R cs ds (hs1.drewN 1) hdx hdy
        rw [Nat.zero_add] at hcx hcy
        obtain ⟨q, hq⟩ : ∃ q, sameB d e = q := ⟨_, rfl⟩
        rw [hq] at hC
        have hcs : ∃ v0 v1 v2 v3 v4 v5 v6 : Value, cs = [v0, v1, v2, v3, v4, v5, v6] := hdx.seven
        have hds : ∃ v0 v1 v2 v3 v4 v5 v6 : Value, ds = [v0, v1, v2, v3, v4, v5, v6] := hdy.seven
        obtain ⟨v0, v1, v2, v3, v4, v5, v6, rfl⟩ := hcs
        obtain ⟨z0, z1, z2, z3, z4, z5, z6, rfl⟩ := hds
        clear hdx hdy
        have hcc : ∀ w', sat w' R → (w'.cell? ⟨b1, o1 + k * 7, none⟩ = some v0 ∧ w'.cell? ⟨b1, o1 + k * 7 + 1, none⟩ = some v1 ∧ w'.cell? ⟨b1, o1 + k * 7 + 2, none⟩ = some v2 ∧ w'.cell? ⟨b1, o1 + k * 7 + 3, none⟩ = some v3 ∧ w'.cell? ⟨b1, o1 + k * 7 + 4, none⟩ = some v4 ∧ w'.cell? ⟨b1, o1 + k * 7 + 5, none⟩ = some v5 ∧ w'.cell? ⟨b1, o1 + k * 7 + 6, none⟩ = some v6 ∧ w'.cell? ⟨b2, o2 + k * 7, none⟩ = some z0 ∧ w'.cell? ⟨b2, o2 + k * 7 + 1, none⟩ = some z1 ∧ w'.cell? ⟨b2, o2 + k * 7 + 2, none⟩ = some z2 ∧ w'.cell? ⟨b2, o2 + k * 7 + 3, none⟩ = some z3 ∧ w'.cell? ⟨b2, o2 + k * 7 + 4, none⟩ = some z4 ∧ w'.cell? ⟨b2, o2 + k * 7 + 5, none⟩ = some z5 ∧ w'.cell? ⟨b2, o2 + k * 7 + 6, none⟩ = some z6) :=
          fun w' h => ⟨hcx w' h 0 _ rfl, hcx w' h 1 _ rfl, hcx w' h 2 _ rfl, hcx w' h 3 _ rfl, hcx w' h 4 _ rfl, hcx w' h 5 _ rfl, hcx w' h 6 _ rfl, hcy w' h 0 _ rfl, hcy w' h 1 _ rfl, hcy w' h 2 _ rfl, hcy w' h 3 _ rfl, hcy w' h 4 _ rfl, hcy w' h 5 _ rfl, hcy w' h 6 _ rfl⟩
        obtain ⟨x0, x1, x2, x3, x4, x5, x6, y0, y1, y2, y3, y4, y5, y6⟩ := hcc wr hs1
        have HC := Lib.hid (And.intro hC (And.intro hcc (And.intro hb1 (And.intro htk (And.intro ex (And.intro ey hq))))))
        clear hC hcc hb1 htk ex ey hq hs1 hs hcx hcy
        go_wp2_with fail
        go_region_held3 (fun w' => w'.cell? ⟨b1, o1 + k * 7, none⟩ = some v0 ∧ w'.cell? ⟨b1, o1 + k * 7 + 1, none⟩ = some v1 ∧ w'.cell? ⟨b1, o1 + k * 7 + 2, none⟩ = some v2 ∧ w'.cell? ⟨b1, o1 + k * 7 + 3, none⟩ = some v3 ∧ w'.cell? ⟨b1, o1 + k * 7 + 4, none⟩ = some v4 ∧ w'.cell? ⟨b1, o1 + k * 7 + 5, none⟩ = some v5 ∧ w'.cell? ⟨b1, o1 + k * 7 + 6, none⟩ = some v6 ∧ w'.cell? ⟨b2, o2 + k * 7, none⟩ = some z0 ∧ w'.cell? ⟨b2, o2 + k * 7 + 1, none⟩ = some z1 ∧ w'.cell? ⟨b2, o2 + k * 7 + 2, none⟩ = some z2 ∧ w'.cell? ⟨b2, o2 + k * 7 + 3, none⟩ = some z3 ∧ w'.cell? ⟨b2, o2 + k * 7 + 4, none⟩ = some z4 ∧ w'.cell? ⟨b2, o2 + k * 7 + 5, none⟩ = some z5 ∧ w'.cell? ⟨b2, o2 + k * 7 + 6, none⟩ = some z6) (first | exact k9 | go_keep)
          (first
            | (go_at_call 50; refine HC.out.1.mono ?_; rintro e w3 ⟨rfl, h3, hb3⟩; have k9 := HC.out.2.1 _ h3))
        have HQ := Lib.hid (And.intro h3 ((HC.out.2.2.1.trans (drewN_low wr 1)).trans hb3))
        clear k9 x0 x1 x2 x3 x4 x5 x6 y0 y1 y2 y3 y4 y5 y6 h3 hb3
        cases q with
        | true =>
          go_wp2_with fail
          go_roundw
          case rel =>
            refine ⟨k + 1, by omega, by go_num, HQ.out.1, HQ.out.2, ?_⟩
            have hde := sameB_true.1 HC.out.2.2.2.2.2.2
            rw [List.take_add_one, List.take_add_one, HC.out.2.2.2.1, HC.out.2.2.2.2.1, HC.out.2.2.2.2.2.1, hde]
          case measure => simp [intOf]; omega
        | false =>
          have hb0 : B = false := by
            rw [← HL.out.2.2, samesB_false]
            intro hlm
            have h1 := HC.out.2.2.2.2.1
            rw [hlm, HC.out.2.2.2.2.2.1] at h1
            exact (sameB_false.1 HC.out.2.2.2.2.2.2) (Option.some.inj h1).symm
          subst hb0
          go_wp2_with fail
          go_ret
          exact ⟨rfl, HQ.out.1, HQ.out.2⟩
      · obtain rfl : k = n1 := by omega
        have hge : decide ((k : Int) < (k : Int)) = false := by simp
        have hb0 : B = true := by
          rw [← HL.out.2.2, samesB_true]
          rw [List.take_of_length_le (by have := HL.out.1; omega), List.take_of_length_le (by have := HL.out.2.1; omega)] at htk
          exact htk
        subst hb0
        go_wp2_with fail
        go_ret
        exact ⟨rfl, hs1, hb1⟩
  · have e0 : ((n1 : Int) == (n2 : Int)) = false := by simp; omega
    have hb0 : B = false := by rw [← HL.out.2.2, samesB_false]; rintro rfl; have h1 := HL.out.1; have h2 := HL.out.2.1; omega
    subst hb0
    go_wp2_with fail
    go_ret
    exact ⟨rfl, hs, Below.refl _ _⟩
/-- Same and SameAll of whatever data of a bounded size. -/
theorem sames_all : ∀ s : Nat, s ≤ 1048576 →
    (∀ d e : Dm, d.size ≤ s → e.size ≤ 1048576 → ∀ (w : World) (R : HP) cs ds, sat w R → DK R d cs → DK R e ds → Calls Try.prog 50 #[.agg cs.toArray, .agg ds.toArray] w (SaysR R (.bool (sameB d e)) w)) ∧
    (∀ l m : List Dm, Dm.sizes l ≤ s → Dm.sizes m ≤ 1048576 → ∀ (w : World) (R : HP) (ao bo : Option Addr) (ca cb : Nat), sat w R → DKs R l ao 0 → DKs R m bo 0 → Calls Try.prog 32 #[.slice ao l.length ca, .slice bo m.length cb] w (SaysR R (.bool (samesB l m)) w)) := by
  intro s
  induction s with
  | zero =>
    intro _
    refine ⟨fun d e hd => absurd d.size_pos (by omega), fun l m hl hm => ?_⟩
    have hl0 := Dm.len_le l
    have hm0 := Dm.len_le m
    refine sames_step l m (by omega) (by omega) ?_
    intro d hd
    obtain ⟨i, hi⟩ := List.mem_iff_getElem?.1 hd
    have h1 := Dm.size_le hi
    have h2 := d.size_pos
    omega
  | succ s ih =>
    intro hs
    obtain ⟨_, ihQ⟩ := ih (by omega)
    have hP : ∀ d e : Dm, d.size ≤ s + 1 → e.size ≤ 1048576 → ∀ (w : World) (R : HP) cs ds, sat w R → DK R d cs → DK R e ds → Calls Try.prog 50 #[.agg cs.toArray, .agg ds.toArray] w (SaysR R (.bool (sameB d e)) w) := by
      intro d e hd he w R cs ds hw hdk hek
      cases d with
      | mk k1 n1 p1 m1 t1 i1 r1 =>
      cases e with
      | mk k2 n2 p2 m2 t2 i2 r2 =>
        have hsz := hd
        have hez := he
        unfold Dm.size at hd he
        exact same_step k1 n1 p1 m1 t1 i1 r1 k2 n2 p2 m2 t2 i2 r2 (by omega) (by omega) (ihQ i1 i2 (by omega) (by omega)) (ihQ r1 r2 (by omega) (by omega)) w R cs ds hw hdk hek
    refine ⟨hP, fun l m hl hm => ?_⟩
    have hl0 := Dm.len_le l
    have hm0 := Dm.len_le m
    refine sames_step l m (by omega) (by omega) ?_
    intro d hd e he
    obtain ⟨i, hi⟩ := List.mem_iff_getElem?.1 hd
    obtain ⟨j, hj⟩ := List.mem_iff_getElem?.1 he
    have h1 := Dm.size_le hi
    have h2 := Dm.size_le hj
    exact hP d e (by omega) (by omega)
theorem same_dm {w : World} {R : HP} {d e : Dm} {cs ds : List Value} (hs : sat w R) (hd : DK R d cs) (he : DK R e ds) (hz : d.size ≤ 1048576) (hz' : e.size ≤ 1048576) :
    Calls Try.prog 50 #[.agg cs.toArray, .agg ds.toArray] w (SaysR R (.bool (sameB d e)) w) := (sames_all 1048576 (Nat.le_refl _)).1 d e hz hz' w R cs ds hs hd he
theorem same_dms {w : World} {R : HP} {l m : List Dm} {ao bo : Option Addr} {ca cb : Nat} (hs : sat w R) (hd : DKs R l ao 0) (he : DKs R m bo 0) (hz : Dm.sizes l ≤ 1048576) (hz' : Dm.sizes m ≤ 1048576) :
    Calls Try.prog 32 #[.slice ao l.length ca, .slice bo m.length cb] w (SaysR R (.bool (samesB l m)) w) := (sames_all 1048576 (Nat.le_refl _)).2 l m hz hz' w R ao bo ca cb hs hd he
end Go.Proofs.Ytkjfplldfjmbaaa
