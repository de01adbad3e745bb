/- tandemlaw00: SameLimbs, SameNum, Same, SameAll. -/
import Derived.Test.YtanjiecefioffaaVE1
import Derived.Test.YtanjiecefioffaaProg
namespace Go.Proofs.Ytanjiecefioffaa
open Go.RowKit

/-- It answers v; what R says still holds. -/
def SaysR (R : HP) (v : Value) (w : World) (e : Ending) (w' : World) : Prop := e = .returned v ∧ sat w' R ∧ Below 0 w w'
theorem drewN_low (w : World) (n : Nat) : Below 0 w (w.drewN n) := ⟨rfl, rfl, rfl, Nat.le_refl _, fun _ h => absurd h (Nat.not_lt_zero _)⟩
theorem DK.seven {R : HP} {d : Dm} {cs : List Value} (h : DK R d cs) : ∃ v0 v1 v2 v3 v4 v5 v6 : Value, cs = [v0, v1, v2, v3, v4, v5, v6] := by
  cases d
  obtain ⟨_, _, _, _, _, _, rfl, _⟩ := h.open
  exact ⟨_, _, _, _, _, _, _, rfl⟩
def MagRel (w : World) (xs ys : List Int) (i : Value) (wr : World) : Prop :=
  ∃ k n : Nat, k ≤ xs.length ∧ i = .int .i64 k ∧ wr = w.drewN n ∧ ∀ j, j < k → xs[j]? = ys[j]?
set_option maxHeartbeats 400000 in
theorem same_mags (w : World) (ao bo : Option Addr) (c d : Nat) (xs ys : List Int) (hx : MagW w ao xs) (hy : MagW w bo ys) (hn : xs.length < 4611686018427387904) (hm : ys.length < 4611686018427387904) :
    Calls Try.prog 72 #[.slice ao xs.length c, .slice bo ys.length d] w fun e w' => e = .returned (.bool (decide (xs = ys))) ∧ ∃ n, w' = w.drewN n := by
  by_cases hl : xs.length = ys.length
  · have hl2 : (xs.length : Int) = ys.length := by omega
    generalize hnx : xs.length = n1 at *
    generalize hny : ys.length = n2 at *
    subst hl
    have HX := Lib.hid (And.intro hnx hny)
    clear hnx hny hm hl2
    go_enter Try.func72, Try.ntmps72
    go_wp2_with fail
    go_loopw [5] (MagRel w xs ys) (fun i _ => n1 - (intOf i).toNat)
    case atStart => exact ⟨0, 0, Nat.zero_le _, rfl, rfl, fun j h => by omega⟩
    case round =>
      obtain ⟨k, n, hk, rfl, rfl, hsame⟩ := hrel
      by_cases hlt : k < n1
      · obtain ⟨x, ex⟩ : ∃ x, xs[k]? = some x := ⟨_, List.getElem?_eq_getElem (by rw [HX.out.1]; exact hlt)⟩
        obtain ⟨y, ey⟩ : ∃ y, ys[k]? = some y := ⟨_, List.getElem?_eq_getElem (by rw [HX.out.2]; exact hlt)⟩
        obtain ⟨a, rfl, ha⟩ := hx k x ex
        obtain ⟨b, rfl, hb⟩ := hy k y ey
        have ha' : (w.drewN n).cell? (a.add k) = some (.int .u32 x) := ha
        have hb' : (w.drewN n).cell? (b.add k) = some (.int .u32 y) := hb
        obtain ⟨w9, hw9⟩ : ∃ w9, w.drewN n = w9 := ⟨_, rfl⟩
        rw [hw9] at ha' hb' ⊢
        have HS := Lib.hid (And.intro hsame (And.intro ex (And.intro ey hw9)))
        clear hsame ex ey ha hb hw9
        by_cases hxy : x = y
        · have e1 : (x == y) = true := by simp [hxy]
          have e2 : (x != y) = false := by simp [hxy]
          go_wp2_with fail
          go_quiet (fail)
          go_wp2_with fail
          go_roundw
          case rel =>
            refine ⟨k + 1, _, by rw [HX.out.1]; omega, by go_num, by rw [← HS.out.2.2.2, World.drewN_drewN], ?_⟩
            intro j hj
            by_cases e : j = k
            · subst e; rw [HS.out.2.1, HS.out.2.2.1, hxy]
            · exact HS.out.1 j (by omega)
          case measure => simp [intOf]; omega
        · have e1 : (x == y) = false := by simp [hxy]
          have e2 : (x != y) = true := by simp [hxy]
          have hne : decide (xs = ys) = false := by
            rw [decide_eq_false_iff_not]
            rintro rfl
            have := HS.out.2.1
            rw [HS.out.2.2.1] at this
            exact hxy (Option.some.inj this).symm
          have HN := Lib.hid hne
          clear hne
          go_wp2_with fail
          go_quiet (fail)
          go_wp2_with fail
          go_ret
          rw [HN.out]
          exact ⟨rfl, _, by rw [← HS.out.2.2.2, World.drewN_drewN]⟩
      · have hge : (n1 : Int) ≤ k := by omega
        have heq : decide (xs = ys) = true := by
          rw [decide_eq_true_eq]
          apply List.ext_getElem?
          intro j
          rcases Nat.lt_or_ge j k with h | h
          · exact hsame j h
          · rw [List.getElem?_eq_none (by rw [HX.out.1]; omega), List.getElem?_eq_none (by rw [HX.out.2]; omega)]
        have HQ := Lib.hid heq
        clear heq hsame
        go_wp2_with fail
        go_ret
        rw [HQ.out]
        exact ⟨rfl, n, rfl⟩
  · have he : decide (xs = ys) = false := by rw [decide_eq_false_iff_not]; rintro rfl; exact hl rfl
    rw [he]
    have hl2 : ((xs.length : Int) == (ys.length : Int)) = false := by rw [beq_eq_false_iff_ne]; omega
    go_enter Try.func72, Try.ntmps72
    go_wp2_with fail
    go_ret
    exact ⟨rfl, 0, rfl⟩
set_option maxRecDepth 100000 in
set_option maxHeartbeats 1000000 in
theorem same_numB {w : World} {R : HP} (hs : sat w R) (p q : Bool) (ao bo : Option Addr) (ca cb : Nat) (a b : List Int) (ha : ∀ w, sat w R → MagW w ao a) (hb : ∀ w, sat w R → MagW w bo b) (hn : a.length ≤ 1048576) (hm : b.length ≤ 1048576) :
    Calls Try.prog 40 #[.agg #[.bool p, .slice ao a.length ca], .agg #[.bool q, .slice bo b.length cb]] w (SaysR R (.bool (p == q && decide (a = b))) w) := by
  have h2 := (hs.alloc (.cells #[.bool p, .slice ao a.length ca] 51)).alloc (.cells #[.bool q, .slice bo b.length cb] 51)
  have hb2 : Below 0 w ((w.alloc (.cells #[.bool p, .slice ao a.length ca] 51)).alloc (.cells #[.bool q, .slice bo b.length cb] 51)) := (Below.zero_alloc _ _).trans (Below.zero_alloc _ _)
  have hC := same_mags _ ao bo ca cb a b (ha _ h2.right.right) (hb _ h2.right.right) (by omega) (by omega)
  have HX := Lib.hid (And.intro h2.right.right hb2)
  obtain ⟨r, hr⟩ : ∃ r, decide (a = b) = r := ⟨_, rfl⟩
  rw [hr] at hC ⊢
  clear h2 hb2 hs ha hb hr
  cases hpq : (p == q) with
  | true =>
    rw [Bool.true_and]
    go_enter Try.func40, Try.ntmps40
    go_wp2_with fail
    refine hC.mono ?_
    rintro e w' ⟨rfl, j, rfl⟩
    go_wp2_with fail
    go_ret
    exact ⟨rfl, HX.out.1.drewN j, HX.out.2.trans (drewN_low _ j)⟩
  | false =>
    rw [Bool.false_and]
    go_enter Try.func40, Try.ntmps40
    go_wp2_with fail
    go_ret
    exact ⟨rfl, HX.out.1, HX.out.2⟩
theorem text_inj {s t : ByteArray} (h : s.toList = t.toList) : s = t := by
  rw [ByteArray.toList_eq, ByteArray.toList_eq] at h
  cases s; cases t
  simp at h
  rw [h]
open Classical in
/-- Are two data the same? -/
noncomputable def sameB (d e : Dm) : Bool := decide (d = e)
open Classical in
noncomputable def samesB (l m : List Dm) : Bool := decide (l = m)
theorem sameB_true {d e : Dm} : sameB d e = true ↔ d = e := by unfold sameB; simp
theorem samesB_true {l m : List Dm} : samesB l m = true ↔ l = m := by unfold samesB; simp
theorem sameB_false {d e : Dm} : sameB d e = false ↔ d ≠ e := by rw [← Bool.not_eq_true, sameB_true]
theorem samesB_false {l m : List Dm} : samesB l m = false ↔ l ≠ m := by rw [← Bool.not_eq_true, samesB_true]
set_option maxRecDepth 100000 in
set_option maxHeartbeats 4000000 in
theorem same_step (k1 n1 : Int) (p1 : Bool) (m1 : List Int) (t1 : ByteArray) (i1 r1 : List Dm) (k2 n2 : Int) (p2 : Bool) (m2 : List Int) (t2 : ByteArray) (i2 r2 : List Dm)
    (hsz1 : (Dm.mk k1 n1 p1 m1 t1 i1 r1).size ≤ 1048576) (hsz2 : (Dm.mk k2 n2 p2 m2 t2 i2 r2).size ≤ 1048576)
    (hQ1 : ∀ (w : World) (R : HP) (ao bo : Option Addr) (ca cb : Nat), sat w R → DKs R i1 ao 0 → DKs R i2 bo 0 → Calls Try.prog 43 #[.slice ao i1.length ca, .slice bo i2.length cb] w (SaysR R (.bool (samesB i1 i2)) w))
    (hQ2 : ∀ (w : World) (R : HP) (ao bo : Option Addr) (ca cb : Nat), sat w R → DKs R r1 ao 0 → DKs R r2 bo 0 → Calls Try.prog 43 #[.slice ao r1.length ca, .slice bo r2.length cb] w (SaysR R (.bool (samesB r1 r2)) w))
    (w : World) (R : HP) (cs ds : List Value) (hs : sat w R) (hd : DK R (.mk k1 n1 p1 m1 t1 i1 r1) cs) (he : DK R (.mk k2 n2 p2 m2 t2 i2 r2) ds) :
    Calls Try.prog 30 #[.agg cs.toArray, .agg ds.toArray] w (SaysR R (.bool (sameB (.mk k1 n1 p1 m1 t1 i1 r1) (.mk k2 n2 p2 m2 t2 i2 r2))) w) := by
  unfold Dm.size at hsz1 hsz2
  obtain ⟨am, cm, ai, ci, ar, cr, rfl, ⟨_, _, hmag, _⟩, hit, hre⟩ := hd.open
  obtain ⟨bm, dm, bi, di, br, dr, rfl, ⟨_, _, hmag', _⟩, hit', hre'⟩ := he.open
  have hsame : sameB (.mk k1 n1 p1 m1 t1 i1 r1) (.mk k2 n2 p2 m2 t2 i2 r2) = true ↔ (k1 = k2 ∧ n1 = n2 ∧ t1 = t2 ∧ (p1 == p2 && decide (m1 = m2)) = true ∧ samesB i1 i2 = true ∧ samesB r1 r2 = true) := by
    rw [sameB_true, samesB_true, samesB_true]
    simp only [Dm.mk.injEq, Bool.and_eq_true, beq_iff_eq, decide_eq_true_eq]
    constructor
    · rintro ⟨a, b, c, d, e, f, g⟩; exact ⟨a, b, e, ⟨c, d⟩, f, g⟩
    · rintro ⟨a, b, e, ⟨c, d⟩, f, g⟩; exact ⟨a, b, c, d, e, f, g⟩
  obtain ⟨B, hB⟩ : ∃ B, sameB (.mk k1 n1 p1 m1 t1 i1 r1) (.mk k2 n2 p2 m2 t2 i2 r2) = B := ⟨_, rfl⟩
  rw [hB] at hsame ⊢
  have hs1 := (hs.alloc (dmO [.int .i64 k1, .int .i64 n1, .bool p1, .slice am m1.length cm, .string t1, .slice ai i1.length ci, .slice ar r1.length cr])).alloc (dmO [.int .i64 k2, .int .i64 n2, .bool p2, .slice bm m2.length dm, .string t2, .slice bi i2.length di, .slice br r2.length dr])
  rw [World.size_alloc] at hs1
  have hb1 : Below 0 w ((w.alloc (dmO [.int .i64 k1, .int .i64 n1, .bool p1, .slice am m1.length cm, .string t1, .slice ai i1.length ci, .slice ar r1.length cr])).alloc (dmO [.int .i64 k2, .int .i64 n2, .bool p2, .slice bm m2.length dm, .string t2, .slice bi i2.length di, .slice br r2.length dr])) := (Below.zero_alloc _ _).trans (Below.zero_alloc _ _)
  obtain ⟨g, hg⟩ : ∃ g, w.heap.size = g := ⟨_, rfl⟩
  rw [hg] at hs1
  obtain ⟨F, hF⟩ : ∃ F : HP, F = Go.Proofs.Ytanjiecefioffaa.blk (g + 1) (dmO [.int .i64 k2, .int .i64 n2, .bool p2, .slice bm m2.length dm, .string t2, .slice bi i2.length di, .slice br r2.length dr]) * (Go.Proofs.Ytanjiecefioffaa.blk g (dmO [.int .i64 k1, .int .i64 n1, .bool p1, .slice am m1.length cm, .string t1, .slice ai i1.length ci, .slice ar r1.length cr]) * R) := ⟨_, rfl⟩
  rw [← hF] at hs1
  have hFR : ∀ w', sat w' F → sat w' R := fun w' h => by rw [hF] at h; exact h.right.right
  have hc : ∀ w', sat w' F → (w'.cell? ⟨g, 0, none⟩ = some (.int .i64 k1) ∧ w'.cell? ⟨g, 1, none⟩ = some (.int .i64 n1) ∧ w'.cell? ⟨g, 2, none⟩ = some (.bool p1) ∧ w'.cell? ⟨g, 3, none⟩ = some (.slice am m1.length cm) ∧ w'.cell? ⟨g, 4, none⟩ = some (.string t1) ∧ w'.cell? ⟨g, 5, none⟩ = some (.slice ai i1.length ci) ∧ w'.cell? ⟨g, 6, none⟩ = some (.slice ar r1.length cr)) ∧
      (w'.cell? ⟨g + 1, 0, none⟩ = some (.int .i64 k2) ∧ w'.cell? ⟨g + 1, 1, none⟩ = some (.int .i64 n2) ∧ w'.cell? ⟨g + 1, 2, none⟩ = some (.bool p2) ∧ w'.cell? ⟨g + 1, 3, none⟩ = some (.slice bm m2.length dm) ∧ w'.cell? ⟨g + 1, 4, none⟩ = some (.string t2) ∧ w'.cell? ⟨g + 1, 5, none⟩ = some (.slice bi i2.length di) ∧ w'.cell? ⟨g + 1, 6, none⟩ = some (.slice br r2.length dr)) := by
    intro w' h
    rw [hF] at h
    exact ⟨⟨h.right.left.cell 0, h.right.left.cell 1, h.right.left.cell 2, h.right.left.cell 3, h.right.left.cell 4, h.right.left.cell 5, h.right.left.cell 6⟩, h.left.cell 0, h.left.cell 1, h.left.cell 2, h.left.cell 3, h.left.cell 4, h.left.cell 5, h.left.cell 6⟩
  have hN := same_numB hs1 p1 p2 am bm cm dm m1 m2 (fun w h => hmag w (hFR w h)) (fun w h => hmag' w (hFR w h)) (by omega) (by omega)
  have hI := fun w' (h : sat w' F) => hQ1 w' F ai bi ci di h (hit.mono hFR _) (hit'.mono hFR _)
  have hJ := fun w' (h : sat w' F) => hQ2 w' F ar br cr dr h (hre.mono hFR _) (hre'.mono hFR _)
  have HH := Lib.hid (And.intro hs1 (And.intro hb1 (And.intro hc (And.intro hI (And.intro hJ hFR)))))
  clear hs1 hb1 hc hI hJ hFR hF hQ1 hQ2 hs hit hit' hre hre' hmag hmag' hd he
  obtain ⟨qn, hqn⟩ : ∃ qn, (p1 == p2 && decide (m1 = m2)) = qn := ⟨_, rfl⟩
  obtain ⟨qi, hqi⟩ : ∃ qi, samesB i1 i2 = qi := ⟨_, rfl⟩
  obtain ⟨qr, hqr⟩ : ∃ qr, samesB r1 r2 = qr := ⟨_, rfl⟩
  rw [hqn] at hsame hN
  rw [hqi, hqr] at hsame
  rw [hqi, hqr] at HH
  clear hqn hqi hqr hB
  go_enter Try.func30, Try.ntmps30
  go_upto_region 1 with (fail)
  generalize (w.alloc (dmO [.int .i64 k1, .int .i64 n1, .bool p1, .slice am m1.length cm, .string t1, .slice ai i1.length ci, .slice ar r1.length cr])).alloc (dmO [.int .i64 k2, .int .i64 n2, .bool p2, .slice bm m2.length dm, .string t2, .slice bi i2.length di, .slice br r2.length dr]) = w1 at *
  obtain ⟨⟨c0, c1, c2, c3, c4, c5, c6⟩, ⟨d0, d1, d2, d3, d4, d5, d6⟩⟩ := HH.out.2.2.1 w1 HH.out.1
  by_cases hk : k1 = k2
  · have ek : (k1 == k2) = true := by simp [hk]
    by_cases hn : n1 = n2
    · have en : (n1 == n2) = true := by simp [hn]
      by_cases ht : t1 = t2
      · have et : (t1.toList == t2.toList) = true := by rw [ht, beq_self_eq_true]
        subst hk hn ht
        have hsame2 : B = true ↔ (qn = true ∧ qi = true ∧ qr = true) := by rw [hsame]; simp
        clear hsame
        go_wp2_with fail
        with_reducible refine hN.mono ?_
        clear hN c0 c1 c2 c3 c4 c5 c6 d0 d1 d2 d3 d4 d5 d6
        rintro e w2 ⟨rfl, h2, hb2⟩
        obtain ⟨⟨c0, c1, c2, c3, c4, c5, c6⟩, ⟨d0, d1, d2, d3, d4, d5, d6⟩⟩ := HH.out.2.2.1 w2 h2
        have hI := HH.out.2.2.2.1 w2 h2
        have H2 := Lib.hid (And.intro h2 (HH.out.2.1.trans hb2))
        clear h2 hb2
        cases qn with
        | false =>
          have hb0 : B = false := by rw [← Bool.not_eq_true, hsame2]; simp
          subst hb0
          clear hsame2 hI
          go_wp2_with fail
          go_ret
          exact ⟨rfl, HH.out.2.2.2.2.2 _ H2.out.1, H2.out.2⟩
        | true =>
          go_wp2_with fail
          with_reducible refine hI.mono ?_
          clear hI c0 c1 c2 c3 c4 c5 c6 d0 d1 d2 d3 d4 d5 d6
          rintro e w3 ⟨rfl, h3, hb3⟩
          obtain ⟨⟨c0, c1, c2, c3, c4, c5, c6⟩, ⟨d0, d1, d2, d3, d4, d5, d6⟩⟩ := HH.out.2.2.1 w3 h3
          have hJ := HH.out.2.2.2.2.1 w3 h3
          have H3 := Lib.hid (And.intro h3 (H2.out.2.trans hb3))
          clear h3 hb3
          cases qi with
          | false =>
            have hb0 : B = false := by rw [← Bool.not_eq_true, hsame2]; simp
            subst hb0
            clear hsame2 hJ
            go_wp2_with fail
            go_ret
            exact ⟨rfl, HH.out.2.2.2.2.2 _ H3.out.1, H3.out.2⟩
          | true =>
            have hb0 : B = qr := by
              cases qr with
              | true => rw [hsame2]; simp
              | false => rw [← Bool.not_eq_true, hsame2]; simp
            subst hb0
            clear hsame2
            go_wp2_with fail
            with_reducible refine hJ.mono ?_
            clear hJ
            rintro e w4 ⟨rfl, h4, hb4⟩
            have H4 := Lib.hid (And.intro h4 (H3.out.2.trans hb4))
            clear h4 hb4
            go_wp2_with fail
            go_ret
            exact ⟨rfl, HH.out.2.2.2.2.2 _ H4.out.1, H4.out.2⟩
      · have et : (t1.toList == t2.toList) = false := by rw [beq_eq_false_iff_ne]; exact fun h => ht (text_inj h)
        subst hk hn
        have hb0 : B = false := by rw [← Bool.not_eq_true, hsame]; exact fun h => ht h.2.2.1
        subst hb0
        clear hsame hN
        go_wp2_with fail
        go_ret
        exact ⟨rfl, HH.out.2.2.2.2.2 _ HH.out.1, HH.out.2.1⟩
    · have en : (n1 == n2) = false := by simp [hn]
      subst hk
      have hb0 : B = false := by rw [← Bool.not_eq_true, hsame]; exact fun h => hn h.2.1
      subst hb0
      clear hsame hN
      go_wp2_with fail
      go_ret
      exact ⟨rfl, HH.out.2.2.2.2.2 _ HH.out.1, HH.out.2.1⟩
  · have ek : (k1 == k2) = false := by simp [hk]
    have hb0 : B = false := by rw [← Bool.not_eq_true, hsame]; exact fun h => hk h.1
    subst hb0
    clear hsame hN
    go_wp2_with fail
    go_ret
    exact ⟨rfl, HH.out.2.2.2.2.2 _ HH.out.1, HH.out.2.1⟩
def SaRel (W : World) (R : HP) (n : Nat) (l m : List Dm) (i : Value) (wr : World) : Prop := ∃ k : Nat, k ≤ n ∧ i = .int .i64 k ∧ sat wr R ∧ Below 0 W wr ∧ l.take k = m.take k
set_option maxRecDepth 100000 in
set_option maxHeartbeats 2000000 in
theorem sames_step (l m : List Dm) (hl : l.length ≤ 1048576) (hm : m.length ≤ 1048576)
    (hP : ∀ d ∈ l, ∀ e ∈ m, ∀ (w : World) (R : HP) cs ds, sat w R → DK R d cs → DK R e ds → Calls Try.prog 30 #[.agg cs.toArray, .agg ds.toArray] w (SaysR R (.bool (sameB d e)) w))
    (w : World) (R : HP) (ao bo : Option Addr) (ca cb : Nat) (hs : sat w R) (hd : DKs R l ao 0) (he : DKs R m bo 0) :
    Calls Try.prog 43 #[.slice ao l.length ca, .slice bo m.length cb] w (SaysR R (.bool (samesB l m)) w) := by
  have HP0 := Lib.hid (And.intro hP (And.intro hd he))
  clear hP hd he
  obtain ⟨n1, hn1⟩ : ∃ n, l.length = n := ⟨_, rfl⟩
  obtain ⟨n2, hn2⟩ : ∃ n, m.length = n := ⟨_, rfl⟩
  rw [hn1] at hl ⊢
  rw [hn2] at hm ⊢
  obtain ⟨B, hB⟩ : ∃ B, samesB l m = B := ⟨_, rfl⟩
  rw [hB]
  have HL := Lib.hid (And.intro hn1 (And.intro hn2 hB))
  clear hn1 hn2 hB
  go_enter Try.func43, Try.ntmps43
  by_cases hnn : n1 = n2
  · have e0 : ((n1 : Int) == (n2 : Int)) = true := by simp [hnn]
    subst hnn
    go_wp2_with fail
    go_loopw [5] (SaRel w R n1 l m) (fun i _ => n1 - (intOf i).toNat)
    case atStart => exact ⟨0, Nat.zero_le _, rfl, hs, Below.refl _ _, rfl⟩
    case round =>
      obtain ⟨k, hk, rfl, hs1, hb1, htk⟩ := hrel
      by_cases hlt : k < n1
      · obtain ⟨d, ex⟩ : ∃ d, l[k]? = some d := ⟨_, List.getElem?_eq_getElem (by have := HL.out.1; omega)⟩
        obtain ⟨e, ey⟩ : ∃ e, m[k]? = some e := ⟨_, List.getElem?_eq_getElem (by have := HL.out.2.1; omega)⟩
        obtain ⟨b1, o1, cs, rfl, hcx, hdx⟩ := HP0.out.2.1.get k d ex
        obtain ⟨b2, o2, ds, rfl, hcy, hdy⟩ := HP0.out.2.2.get k e ey
        have hC := HP0.out.1 d (List.mem_of_getElem? ex) e (List.mem_of_getElem? ey) (wr.drewN 1) R cs ds (hs1.drewN 1) hdx hdy
        rw [Nat.zero_add] at hcx hcy
        obtain ⟨q, hq⟩ : ∃ q, sameB d e = q := ⟨_, rfl⟩
        rw [hq] at hC
        have hcs : ∃ v0 v1 v2 v3 v4 v5 v6 : Value, cs = [v0, v1, v2, v3, v4, v5, v6] := hdx.seven
        have hds : ∃ v0 v1 v2 v3 v4 v5 v6 : Value, ds = [v0, v1, v2, v3, v4, v5, v6] := hdy.seven
        obtain ⟨v0, v1, v2, v3, v4, v5, v6, rfl⟩ := hcs
        obtain ⟨z0, z1, z2, z3, z4, z5, z6, rfl⟩ := hds
        clear hdx hdy
        have hcc : ∀ w', sat w' R → (w'.cell? ⟨b1, o1 + k * 7, none⟩ = some v0 ∧ w'.cell? ⟨b1, o1 + k * 7 + 1, none⟩ = some v1 ∧ w'.cell? ⟨b1, o1 + k * 7 + 2, none⟩ = some v2 ∧ w'.cell? ⟨b1, o1 + k * 7 + 3, none⟩ = some v3 ∧ w'.cell? ⟨b1, o1 + k * 7 + 4, none⟩ = some v4 ∧ w'.cell? ⟨b1, o1 + k * 7 + 5, none⟩ = some v5 ∧ w'.cell? ⟨b1, o1 + k * 7 + 6, none⟩ = some v6 ∧ w'.cell? ⟨b2, o2 + k * 7, none⟩ = some z0 ∧ w'.cell? ⟨b2, o2 + k * 7 + 1, none⟩ = some z1 ∧ w'.cell? ⟨b2, o2 + k * 7 + 2, none⟩ = some z2 ∧ w'.cell? ⟨b2, o2 + k * 7 + 3, none⟩ = some z3 ∧ w'.cell? ⟨b2, o2 + k * 7 + 4, none⟩ = some z4 ∧ w'.cell? ⟨b2, o2 + k * 7 + 5, none⟩ = some z5 ∧ w'.cell? ⟨b2, o2 + k * 7 + 6, none⟩ = some z6) :=
          fun w' h => ⟨hcx w' h 0 _ rfl, hcx w' h 1 _ rfl, hcx w' h 2 _ rfl, hcx w' h 3 _ rfl, hcx w' h 4 _ rfl, hcx w' h 5 _ rfl, hcx w' h 6 _ rfl, hcy w' h 0 _ rfl, hcy w' h 1 _ rfl, hcy w' h 2 _ rfl, hcy w' h 3 _ rfl, hcy w' h 4 _ rfl, hcy w' h 5 _ rfl, hcy w' h 6 _ rfl⟩
        obtain ⟨x0, x1, x2, x3, x4, x5, x6, y0, y1, y2, y3, y4, y5, y6⟩ := hcc wr hs1
        have HC := Lib.hid (And.intro hC (And.intro hcc (And.intro hb1 (And.intro htk (And.intro ex (And.intro ey hq))))))
        clear hC hcc hb1 htk ex ey hq hs1 hs hcx hcy
        go_wp2_with fail
        go_region_held3 (fun w' => w'.cell? ⟨b1, o1 + k * 7, none⟩ = some v0 ∧ w'.cell? ⟨b1, o1 + k * 7 + 1, none⟩ = some v1 ∧ w'.cell? ⟨b1, o1 + k * 7 + 2, none⟩ = some v2 ∧ w'.cell? ⟨b1, o1 + k * 7 + 3, none⟩ = some v3 ∧ w'.cell? ⟨b1, o1 + k * 7 + 4, none⟩ = some v4 ∧ w'.cell? ⟨b1, o1 + k * 7 + 5, none⟩ = some v5 ∧ w'.cell? ⟨b1, o1 + k * 7 + 6, none⟩ = some v6 ∧ w'.cell? ⟨b2, o2 + k * 7, none⟩ = some z0 ∧ w'.cell? ⟨b2, o2 + k * 7 + 1, none⟩ = some z1 ∧ w'.cell? ⟨b2, o2 + k * 7 + 2, none⟩ = some z2 ∧ w'.cell? ⟨b2, o2 + k * 7 + 3, none⟩ = some z3 ∧ w'.cell? ⟨b2, o2 + k * 7 + 4, none⟩ = some z4 ∧ w'.cell? ⟨b2, o2 + k * 7 + 5, none⟩ = some z5 ∧ w'.cell? ⟨b2, o2 + k * 7 + 6, none⟩ = some z6) (first | exact k9 | go_keep)
          (first
            | (go_at_call 30; refine HC.out.1.mono ?_; rintro e w3 ⟨rfl, h3, hb3⟩; have k9 := HC.out.2.1 _ h3))
        have HQ := Lib.hid (And.intro h3 ((HC.out.2.2.1.trans (drewN_low wr 1)).trans hb3))
        clear k9 x0 x1 x2 x3 x4 x5 x6 y0 y1 y2 y3 y4 y5 y6 h3 hb3
        cases q with
        | true =>
          go_wp2_with fail
          go_roundw
          case rel =>
            refine ⟨k + 1, by omega, by go_num, HQ.out.1, HQ.out.2, ?_⟩
            have hde := sameB_true.1 HC.out.2.2.2.2.2.2
            rw [List.take_add_one, List.take_add_one, HC.out.2.2.2.1, HC.out.2.2.2.2.1, HC.out.2.2.2.2.2.1, hde]
          case measure => simp [intOf]; omega
        | false =>
          have hb0 : B = false := by
            rw [← HL.out.2.2, samesB_false]
            intro hlm
            have h1 := HC.out.2.2.2.2.1
            rw [hlm, HC.out.2.2.2.2.2.1] at h1
            exact (sameB_false.1 HC.out.2.2.2.2.2.2) (Option.some.inj h1).symm
          subst hb0
          go_wp2_with fail
          go_ret
          exact ⟨rfl, HQ.out.1, HQ.out.2⟩
      · obtain rfl : k = n1 := by omega
        have hge : decide ((k : Int) < (k : Int)) = false := by simp
        have hb0 : B = true := by
          rw [← HL.out.2.2, samesB_true]
          rw [List.take_of_length_le (by have := HL.out.1; omega), List.take_of_length_le (by have := HL.out.2.1; omega)] at htk
          exact htk
        subst hb0
        go_wp2_with fail
        go_ret
        exact ⟨rfl, hs1, hb1⟩
  · have e0 : ((n1 : Int) == (n2 : Int)) = false := by simp; omega
    have hb0 : B = false := by rw [← HL.out.2.2, samesB_false]; rintro rfl; have h1 := HL.out.1; have h2 := HL.out.2.1; omega
    subst hb0
    go_wp2_with fail
    go_ret
    exact ⟨rfl, hs, Below.refl _ _⟩
/-- Same and SameAll of whatever data of a bounded size. -/
theorem sames_all : ∀ s : Nat, s ≤ 1048576 →
    (∀ d e : Dm, d.size ≤ s → e.size ≤ 1048576 → ∀ (w : World) (R : HP) cs ds, sat w R → DK R d cs → DK R e ds → Calls Try.prog 30 #[.agg cs.toArray, .agg ds.toArray] w (SaysR R (.bool (sameB d e)) w)) ∧
    (∀ l m : List Dm, Dm.sizes l ≤ s → Dm.sizes m ≤ 1048576 → ∀ (w : World) (R : HP) (ao bo : Option Addr) (ca cb : Nat), sat w R → DKs R l ao 0 → DKs R m bo 0 → Calls Try.prog 43 #[.slice ao l.length ca, .slice bo m.length cb] w (SaysR R (.bool (samesB l m)) w)) := by
  intro s
  induction s with
  | zero =>
    intro _
    refine ⟨fun d e hd => absurd d.size_pos (by omega), fun l m hl hm => ?_⟩
    have hl0 := Dm.len_le l
    have hm0 := Dm.len_le m
    refine sames_step l m (by omega) (by omega) ?_
    intro d hd
    obtain ⟨i, hi⟩ := List.mem_iff_getElem?.1 hd
    have h1 := Dm.size_le hi
    have h2 := d.size_pos
    omega
  | succ s ih =>
    intro hs
    obtain ⟨_, ihQ⟩ := ih (by omega)
    have hP : ∀ d e : Dm, d.size ≤ s + 1 → e.size ≤ 1048576 → ∀ (w : World) (R : HP) cs ds, sat w R → DK R d cs → DK R e ds → Calls Try.prog 30 #[.agg cs.toArray, .agg ds.toArray] w (SaysR R (.bool (sameB d e)) w) := by
      intro d e hd he w R cs ds hw hdk hek
      cases d with
      | mk k1 n1 p1 m1 t1 i1 r1 =>
      cases e with
      | mk k2 n2 p2 m2 t2 i2 r2 =>
        have hsz := hd
        have hez := he
        unfold Dm.size at hd he
        exact same_step k1 n1 p1 m1 t1 i1 r1 k2 n2 p2 m2 t2 i2 r2 (by omega) (by omega) (ihQ i1 i2 (by omega) (by omega)) (ihQ r1 r2 (by omega) (by omega)) w R cs ds hw hdk hek
    refine ⟨hP, fun l m hl hm => ?_⟩
    have hl0 := Dm.len_le l
    have hm0 := Dm.len_le m
    refine sames_step l m (by omega) (by omega) ?_
    intro d hd e he
    obtain ⟨i, hi⟩ := List.mem_iff_getElem?.1 hd
    obtain ⟨j, hj⟩ := List.mem_iff_getElem?.1 he
    have h1 := Dm.size_le hi
    have h2 := Dm.size_le hj
    exact hP d e (by omega) (by omega)
theorem same_dm {w : World} {R : HP} {d e : Dm} {cs ds : List Value} (hs : sat w R) (hd : DK R d cs) (he : DK R e ds) (hz : d.size ≤ 1048576) (hz' : e.size ≤ 1048576) :
    Calls Try.prog 30 #[.agg cs.toArray, .agg ds.toArray] w (SaysR R (.bool (sameB d e)) w) := (sames_all 1048576 (Nat.le_refl _)).1 d e hz hz' w R cs ds hs hd he
theorem same_dms {w : World} {R : HP} {l m : List Dm} {ao bo : Option Addr} {ca cb : Nat} (hs : sat w R) (hd : DKs R l ao 0) (he : DKs R m bo 0) (hz : Dm.sizes l ≤ 1048576) (hz' : Dm.sizes m ≤ 1048576) :
    Calls Try.prog 43 #[.slice ao l.length ca, .slice bo m.length cb] w (SaysR R (.bool (samesB l m)) w) := (sames_all 1048576 (Nat.le_refl _)).2 l m hz hz' w R ao bo ca cb hs hd he
end Go.Proofs.Ytanjiecefioffaa

/- The heap as plain data: what each of its functions answers. No program in sight. -/
namespace Go.Proofs.Ytanjiecefioffaa
open Go.RowKit

abbrev u64 (x : Int) : Value := .int .u64 x
abbrev i64 (x : Int) : Value := .int .i64 x

/-- A heap: its size, the words in use, where objects begin, how often it was collected. -/
structure HS where
  size : Nat
  ws : List Int
  bs : List Bool
  times : Nat

def isB (bs : List Bool) (p : Int) : Bool := decide (p % 4 = 0) && bs.getD (p / 4).toNat false
def HS.is (S : HS) (p : Int) : Bool := isB S.bs p
def headOf (ws : List Int) (bs : List Bool) (p : Int) : Int := if isB bs p = true then ws.getD (p / 4).toNat 0 else 0
def HS.head (S : HS) (p : Int) : Int := headOf S.ws S.bs p
def kindH (h : Int) : Int := h / 4 % 64
def tagH (h : Int) : Int := h / 256 % 16777216
def rawH (h : Int) : Int := h / 4294967296 % 16777216
def HS.kind (S : HS) (p : Int) : Int := kindH (S.head p)
def HS.tag (S : HS) (p : Int) : Int := tagH (S.head p)
def HS.raw (S : HS) (p : Int) : Int := rawH (S.head p)

theorem kindH_bd (h : Int) : 0 ≤ kindH h ∧ kindH h < 64 := by unfold kindH; omega
theorem tagH_bd (h : Int) : 0 ≤ tagH h ∧ tagH h < 16777216 := by unfold tagH; omega
theorem rawH_bd (h : Int) : 0 ≤ rawH h ∧ rawH h < 16777216 := by unfold rawH; omega

/-- The words are words, and each object lies whole. -/
structure WfH (ws : List Int) (bs : List Bool) : Prop where
  len : bs.length = ws.length
  pos : 0 < ws.length
  u : ∀ x ∈ ws, 0 ≤ x ∧ x < 18446744073709551616
  fits : ∀ k, bs[k]? = some true → k + 1 + (tagH (ws.getD k 0)).toNat + (rawH (ws.getD k 0)).toNat ≤ ws.length
  zero : bs[0]? = some false ∧ ws[0]? = some 0
  first : ws.length = 1 ∨ bs[1]? = some true
  next : ∀ k, bs[k]? = some true → k + 1 + (tagH (ws.getD k 0)).toNat + (rawH (ws.getD k 0)).toNat = ws.length ∨ bs[k + 1 + (tagH (ws.getD k 0)).toNat + (rawH (ws.getD k 0)).toNat]? = some true
  hdr : ∀ k, bs[k]? = some true → ws.getD k 0 % 4 = 3 ∧ 1 ≤ kindH (ws.getD k 0) ∧ ws.getD k 0 < 72057594037927936
  apart : ∀ k j, bs[k]? = some true → bs[j]? = some true → k < j → k + 1 + (tagH (ws.getD k 0)).toNat + (rawH (ws.getD k 0)).toNat ≤ j

/-- May a word be a tagged field? -/
def mayB (bs : List Bool) (x : Int) : Bool := decide (x % 4 = 1) || decide (x % 4 = 2) || isB bs x
/-- No tagged field holds a header, or leads to what is no object. -/
def PtrOk (ws : List Int) (bs : List Bool) : Prop := ∀ k i, bs[k]? = some true → i < (tagH (ws.getD k 0)).toNat → mayB bs (ws.getD (k + 1 + i) 0) = true

/-- Where a heap lies: its block, which half is in use, that half's arrays, the other half's values. -/
structure HV where
  g : Nat
  inn : Nat
  bw : Nat
  cw : Nat
  bb : Nat
  cb : Nat
  o1 : Value
  o2 : Value

def HV.vw (V : HV) (S : HS) : Value := .slice (some ⟨V.bw, 0, none⟩) S.ws.length V.cw
def HV.vb (V : HV) (S : HS) : Value := .slice (some ⟨V.bb, 0, none⟩) S.bs.length V.cb
def heapCells (V : HV) (S : HS) : Array Value :=
  if V.inn = 0 then #[i64 S.size, V.vw S, V.vb S, V.o1, V.o2, i64 0, i64 S.times] else #[i64 S.size, V.o1, V.o2, V.vw S, V.vb S, i64 1, i64 S.times]

/-- A heap's memory (T: its type's number; tu, tb: those of uint64 and bool). -/
def isHeap (V : HV) (S : HS) : HP := blk V.g (.cells (heapCells V S) 125 (0, 0)) * (row 22 1 V.bw V.cw (S.ws.map u64) * row 4 1 V.bb V.cb (S.bs.map .bool))

/-- A heap that is as it should be. -/
structure HOk (V : HV) (S : HS) : Prop where
  inn : V.inn < 2
  lo : 2 ≤ S.size
  hi : S.size ≤ 1048576
  used : S.ws.length ≤ S.size
  wf : WfH S.ws S.bs
  times : S.times < 4611686018427387904
  ptr : PtrOk S.ws S.bs

/-- What a reader sees. -/
structure HeapV (w : World) (V : HV) (S : HS) : Prop where
  ok : HOk V S
  c0 : w.cell? ⟨V.g, 0, none⟩ = some (.int .i64 S.size)
  c5 : w.cell? ⟨V.g, 5, none⟩ = some (.int .i64 V.inn)
  c6 : w.cell? ⟨V.g, 6, none⟩ = some (.int .i64 S.times)
  cw : w.cell? ⟨V.g, 1 + V.inn * 2, none⟩ = some (.slice (some ⟨V.bw, 0, none⟩) S.ws.length V.cw)
  cb : w.cell? ⟨V.g, 1 + V.inn * 2 + 1, none⟩ = some (.slice (some ⟨V.bb, 0, none⟩) S.bs.length V.cb)
  hw : ∀ j x, S.ws[j]? = some x → w.cell? ⟨V.bw, j, none⟩ = some (.int .u64 x)
  hb : ∀ j x, S.bs[j]? = some x → w.cell? ⟨V.bb, j, none⟩ = some (.bool x)
  wc : S.ws.length ≤ V.cw
  bc : S.bs.length ≤ V.cb

theorem HeapV.drewN {w : World} {V : HV} {S : HS} (h : HeapV w V S) (n : Nat) : HeapV (w.drewN n) V S := ⟨h.ok, h.c0, h.c5, h.c6, h.cw, h.cb, h.hw, h.hb, h.wc, h.bc⟩
theorem HeapV.of_drewN {w : World} {V : HV} {S : HS} {n : Nat} (h : HeapV (w.drewN n) V S) : HeapV w V S := ⟨h.ok, h.c0, h.c5, h.c6, h.cw, h.cb, h.hw, h.hb, h.wc, h.bc⟩

theorem sat.heapV {w : World} {V : HV} {S : HS} {R : HP} (h : sat w (isHeap V S * R)) (ok : HOk V S) : HeapV w V S := by
  unfold isHeap at h
  have hblk : sat w (blk V.g (.cells (heapCells V S) 125 (0, 0))) := h.left.left
  have hrw : sat w (row 22 1 V.bw V.cw (S.ws.map u64) * (row 4 1 V.bb V.cb (S.bs.map .bool))) := h.left.right
  have hrb : sat w (row 4 1 V.bb V.cb (S.bs.map .bool) * row 22 1 V.bw V.cw (S.ws.map u64)) := hrw.perm (HP.comm _ _)
  have bw := hrw.row_bounds
  have bb := hrb.row_bounds
  simp only [List.length_map, Nat.mul_one] at bw bb
  have hi := ok.inn
  have hc := hblk.cell
  refine ⟨ok, ?_, ?_, ?_, ?_, ?_, ?_, ?_, bw.1, bb.1⟩
  · rw [hc]; unfold heapCells; split <;> rfl
  · rw [hc]; unfold heapCells; split
    · rename_i e; rw [e]; rfl
    · have e : V.inn = 1 := by omega
      rw [e]; rfl
  · rw [hc]; unfold heapCells; split <;> rfl
  · rw [hc]; unfold heapCells; split
    · rename_i e; rw [e]; rfl
    · have e : V.inn = 1 := by omega
      rw [e]; rfl
  · rw [hc]; unfold heapCells; split
    · rename_i e; rw [e]; rfl
    · have e : V.inn = 1 := by omega
      rw [e]; rfl
  · intro j x hx
    exact hrw.row_cell (by rw [List.getElem?_map, hx]; rfl)
  · intro j x hx
    exact hrb.row_cell (by rw [List.getElem?_map, hx]; rfl)
end Go.Proofs.Ytanjiecefioffaa

/- What the heap's readers answer: half, is, Is, head, Kind, Tagged, Raws, Used, Size, Times. -/
namespace Go.Proofs.Ytanjiecefioffaa
open Go.RowKit

/-- It answers v and leaves memory alone, but for draws. -/
def Says (v : Value) (w : World) (e : Ending) (w' : World) : Prop := e = .returned v ∧ ∃ n, w' = w.drewN n

theorem says_ret {v v' : Value} {w : World} {n : Nat} (h : v = v') : Says v' w (.returned v) (w.drewN n) := ⟨by rw [h], n, rfl⟩
theorem says_ret0 {v v' : Value} {w : World} (h : v = v') : Says v' w (.returned v) w := ⟨by rw [h], 0, rfl⟩
theorem Calls.said {P : Program} {f : FuncId} {args : Array Value} {w : World} {v : Value} {n : Nat} (h : Calls P f args (w.drewN n) (Says v (w.drewN n))) :
    Calls P f args (w.drewN n) fun e w'' => e = .returned v ∧ ∃ m, w'' = w.drewN m := Calls.quiet_of h

set_option maxHeartbeats 400000 in
theorem half_any (g inn : Nat) (w : World) (h5 : w.cell? ⟨g, 5, none⟩ = some (.int .i64 inn)) (hi : inn < 2) :
    Calls Try.prog 50 #[.pointer (some ⟨g, 0, none⟩)] w (Says (.pointer (some ⟨g, 1 + inn * 2, none⟩)) w) := by
  go_enter Try.func50, Try.ntmps50
  go_wp2
  go_quiet (fail)
  go_wp2
  go_ret
  exact says_ret rfl

theorem isB_true {bs : List Bool} {p : Int} (a : p % 4 = 0) (h : (p / 4).toNat < bs.length) : isB bs p = bs[(p / 4).toNat] := by
  unfold isB; rw [List.getD_eq_getElem?_getD, List.getElem?_eq_getElem h]; simp [a]
theorem isB_out {bs : List Bool} {p : Int} (h : bs.length ≤ (p / 4).toNat) : isB bs p = false := by
  unfold isB; rw [List.getD_eq_getElem?_getD, List.getElem?_eq_none h]; simp
theorem isB_odd {bs : List Bool} {p : Int} (a : ¬ p % 4 = 0) : isB bs p = false := by unfold isB; simp [a]

set_option maxHeartbeats 400000 in
theorem is_any (g off bb n cap : Nat) (bs : List Bool) (p : Int) (w : World) (hc : w.cell? ⟨g, off + 1, none⟩ = some (.slice (some ⟨bb, 0, none⟩) n cap)) (hl : bs.length = n) (hn : n ≤ 1048576)
    (hb : ∀ j x, bs[j]? = some x → w.cell? ⟨bb, j, none⟩ = some (.bool x)) (h0 : 0 ≤ p) (h1 : p < 18446744073709551616) :
    Calls Try.prog 88 #[.pointer (some ⟨g, off, none⟩), .int .u64 p] w (Says (.bool (isB bs p)) w) := by
  by_cases a : p % 4 = 0
  · by_cases b : p / 4 < (n : Int)
    · have hj : (p / 4).toNat < bs.length := by omega
      have hcell := hb _ _ (List.getElem?_eq_getElem hj)
      rw [isB_true a hj]
      clear hb
      go_enter Try.func88, Try.ntmps88
      go_wp2
      go_ret
      exact says_ret0 rfl
    · rw [isB_out (by omega)]
      clear hb
      go_enter Try.func88, Try.ntmps88
      go_wp2
      go_ret
      exact says_ret0 rfl
  · rw [isB_odd a]
    clear hb
    go_enter Try.func88, Try.ntmps88
    go_wp2
    go_ret
    exact says_ret0 rfl

theorem u64_mask (k : Nat) (x : Int) (h0 : 0 ≤ x) (h1 : x < 18446744073709551616) (hk : k < 64) : bits .and .u64 x (2 ^ k - 1) = x % 2 ^ k := by
  obtain ⟨n, rfl⟩ := Int.eq_ofNat_of_zero_le h0
  have hp : 0 < 2 ^ k := Nat.pow_pos (by decide)
  have hlt : 2 ^ k < 18446744073709551616 := Nat.pow_lt_pow_right (by decide) (show k < 64 from hk)
  have e : ((2 : Int) ^ k - 1) = ((2 ^ k - 1 : Nat) : Int) := by
    have : ((2 ^ k : Nat) : Int) = (2 : Int) ^ k := by simp
    omega
  rw [e, u64_and_nat _ _ (by omega) (by omega), Nat.and_two_pow_sub_one_eq_mod]
  simp
theorem u64_mask2 (x : Int) (h0 : 0 ≤ x) (h1 : x < 18446744073709551616) : bits .and .u64 x 3 = x % 4 := u64_mask 2 x h0 h1 (by decide)
theorem u64_mask6 (x : Int) (h0 : 0 ≤ x) (h1 : x < 18446744073709551616) : bits .and .u64 x 63 = x % 64 := u64_mask 6 x h0 h1 (by decide)
theorem u64_mask24 (x : Int) (h0 : 0 ≤ x) (h1 : x < 18446744073709551616) : bits .and .u64 x 16777215 = x % 16777216 := u64_mask 24 x h0 h1 (by decide)
theorem says_int {k : IntKind} {v v' : Int} {w : World} {n : Nat} (h : v' = v) : Says (.int k v) w (.returned (.int k v')) (w.drewN n) := ⟨by rw [h], n, rfl⟩

section
variable {w : World} {V : HV} {S : HS}
theorem HeapV.half (h : HeapV w V S) : Calls Try.prog 50 #[.pointer (some ⟨V.g, 0, none⟩)] w (Says (.pointer (some ⟨V.g, 1 + V.inn * 2, none⟩)) w) :=
  half_any V.g V.inn w h.c5 h.ok.inn
theorem HeapV.len (h : HeapV w V S) : S.ws.length ≤ 1048576 := Nat.le_trans h.ok.used h.ok.hi


set_option maxHeartbeats 400000 in
theorem HeapV.Is (h : HeapV w V S) (p : Int) (h0 : 0 ≤ p) (h1 : p < 18446744073709551616) :
    Calls Try.prog 100 #[.pointer (some ⟨V.g, 0, none⟩), .int .u64 p] w (Says (.bool (S.is p)) w) := by
  go_enter Try.func100, Try.ntmps100
  go_wp2_with fail
  refine (h.half).mono ?_
  rintro e w' ⟨rfl, n, rfl⟩
  go_wp2_with fail
  refine (is_any V.g (1 + V.inn * 2) V.bb S.bs.length V.cb S.bs p (w.drewN n) h.cb rfl (by rw [h.ok.wf.len]; exact h.len) h.hb h0 h1).mono ?_
  rintro e w' ⟨rfl, m, rfl⟩
  go_wp2_with fail
  go_ret
  exact says_ret rfl

theorem HeapV.word (h : HeapV w V S) {p : Int} (hp : S.is p = true) : (p / 4).toNat < S.ws.length ∧ S.ws[(p / 4).toNat]? = some (S.head p) ∧ p % 4 = 0 ∧ p / 4 < 1048576 := by
  have hl := h.len
  have hw := h.ok.wf.len
  unfold HS.is at hp
  have hlt : (p / 4).toNat < S.ws.length := by
    rcases Nat.lt_or_ge (p / 4).toNat S.bs.length with a | a
    · omega
    · rw [isB_out a] at hp; cases hp
  have hm : p % 4 = 0 := by
    rcases Decidable.em (p % 4 = 0) with a | a
    · exact a
    · rw [isB_odd a] at hp; cases hp
  refine ⟨hlt, ?_, hm, by omega⟩
  · unfold HS.head headOf; rw [if_pos hp, List.getD_eq_getElem?_getD, List.getElem?_eq_getElem hlt]; rfl

set_option maxHeartbeats 400000 in
theorem HeapV.Head (h : HeapV w V S) (p : Int) (h0 : 0 ≤ p) (h1 : p < 18446744073709551616) :
    Calls Try.prog 73 #[.pointer (some ⟨V.g, 0, none⟩), .int .u64 p] w (Says (.int .u64 (S.head p)) w) := by
  cases hp : S.is p with
  | false =>
    have e : S.head p = 0 := by unfold HS.head headOf; rw [if_neg (by unfold HS.is at hp; simp [hp])]
    have H := Lib.hid hp
    clear hp
    rw [e]
    clear e
    go_enter Try.func73, Try.ntmps73
    go_wp2_with fail
    refine (h.Is p h0 h1).mono ?_
    rintro e w' ⟨rfl, n, rfl⟩
    rw [H.out]
    go_wp2_with fail
    go_ret
    exact says_ret rfl
  | true =>
    obtain ⟨hlt, hj, hm, hb⟩ := h.word hp
    have hcell := h.hw _ _ hj
    have hcw := h.cw
    have hi := h.ok.inn
    have hl := h.len
    have hlt2 : p / 4 < (S.ws.length : Int) := by omega
    have H := Lib.hid hp
    clear hp hj hlt hm
    go_enter Try.func73, Try.ntmps73
    go_wp2_with fail
    refine (h.Is p h0 h1).mono ?_
    rintro e w' ⟨rfl, n, rfl⟩
    rw [H.out]
    go_wp2_with fail
    refine ((h.drewN n).half).mono ?_
    rintro e w' ⟨rfl, m, rfl⟩
    go_wp2_with fail
    go_ret
    exact says_ret rfl

theorem HeapV.head_bd (h : HeapV w V S) (p : Int) : 0 ≤ S.head p ∧ S.head p < 18446744073709551616 := by
  cases hp : S.is p with
  | false => unfold HS.head headOf; rw [if_neg (by unfold HS.is at hp; simp [hp])]; omega
  | true =>
    obtain ⟨_, hj, _⟩ := h.word hp
    exact h.ok.wf.u _ (List.mem_of_getElem? hj)

set_option maxHeartbeats 400000 in
theorem HeapV.Kind (h : HeapV w V S) (p : Int) (h0 : 0 ≤ p) (h1 : p < 18446744073709551616) :
    Calls Try.prog 90 #[.pointer (some ⟨V.g, 0, none⟩), .int .u64 p] w (Says (.int .i64 (S.kind p)) w) := by
  obtain ⟨b0, b1⟩ := h.head_bd p
  go_enter Try.func90, Try.ntmps90
  go_wp2_with fail
  refine (h.Head p h0 h1).mono ?_
  rintro e w' ⟨rfl, n, rfl⟩
  go_wp2_with fail
  go_ret
  exact says_int (by rw [u64_mask6 _ (by omega) (by omega)]; unfold HS.kind kindH wrap64; omega)

set_option maxHeartbeats 400000 in
theorem HeapV.Tagged (h : HeapV w V S) (p : Int) (h0 : 0 ≤ p) (h1 : p < 18446744073709551616) :
    Calls Try.prog 41 #[.pointer (some ⟨V.g, 0, none⟩), .int .u64 p] w (Says (.int .i64 (S.tag p)) w) := by
  obtain ⟨b0, b1⟩ := h.head_bd p
  go_enter Try.func41, Try.ntmps41
  go_wp2_with fail
  refine (h.Head p h0 h1).mono ?_
  rintro e w' ⟨rfl, n, rfl⟩
  go_wp2_with fail
  go_ret
  exact says_int (by rw [u64_mask24 _ (by omega) (by omega)]; unfold HS.tag tagH wrap64; omega)

set_option maxHeartbeats 400000 in
theorem HeapV.Raws (h : HeapV w V S) (p : Int) (h0 : 0 ≤ p) (h1 : p < 18446744073709551616) :
    Calls Try.prog 71 #[.pointer (some ⟨V.g, 0, none⟩), .int .u64 p] w (Says (.int .i64 (S.raw p)) w) := by
  obtain ⟨b0, b1⟩ := h.head_bd p
  go_enter Try.func71, Try.ntmps71
  go_wp2_with fail
  refine (h.Head p h0 h1).mono ?_
  rintro e w' ⟨rfl, n, rfl⟩
  go_wp2_with fail
  go_ret
  exact says_int (by rw [u64_mask24 _ (by omega) (by omega)]; unfold HS.raw rawH wrap64; omega)

set_option maxHeartbeats 400000 in
theorem HeapV.Used (h : HeapV w V S) :
    Calls Try.prog 25 #[.pointer (some ⟨V.g, 0, none⟩)] w (Says (.int .i64 S.ws.length) w) := by
  have hcw := h.cw
  go_enter Try.func25, Try.ntmps25
  go_wp2_with fail
  refine (h.half).mono ?_
  rintro e w' ⟨rfl, n, rfl⟩
  go_wp2_with fail
  go_ret
  exact says_ret rfl

set_option maxHeartbeats 400000 in
theorem HeapV.Size (h : HeapV w V S) :
    Calls Try.prog 53 #[.pointer (some ⟨V.g, 0, none⟩)] w (Says (.int .i64 S.size) w) := by
  have hc := h.c0
  go_enter Try.func53, Try.ntmps53
  go_wp2_with fail
  go_ret
  exact says_ret0 rfl

set_option maxHeartbeats 400000 in
theorem HeapV.Times (h : HeapV w V S) :
    Calls Try.prog 62 #[.pointer (some ⟨V.g, 0, none⟩)] w (Says (.int .i64 S.times) w) := by
  have hc := h.c6
  go_enter Try.func62, Try.ntmps62
  go_wp2_with fail
  go_ret
  exact says_ret0 rfl
end
end Go.Proofs.Ytanjiecefioffaa

/- The heap's fields: field, read, Get, Raw, Set, SetRaw. -/
namespace Go.Proofs.Ytanjiecefioffaa
open Go.RowKit

def fieldAt (p ahead i : Int) : Nat := (p / 4 + 1 + ahead + i).toNat

set_option maxHeartbeats 400000 in
theorem field_none (a : Value) (p i many ahead : Int) (w : World) (h : i < 0 ∨ many ≤ i) :
    Calls Try.prog 75 #[a, .int .u64 p, .int .i64 i, .int .i64 many, .int .i64 ahead] w (Says (.pointer none) w) := by
  by_cases h1 : i < 0
  · go_enter Try.func75, Try.ntmps75
    go_wp2_with fail
    go_ret
    exact says_ret0 rfl
  · have h2 : many ≤ i := by omega
    go_enter Try.func75, Try.ntmps75
    go_wp2_with fail
    go_ret
    exact says_ret0 rfl

set_option maxHeartbeats 400000 in
theorem read_none (w : World) : Calls Try.prog 74 #[.pointer none] w (Says (.tuple #[.int .u64 0, .bool false]) w) := by
  go_enter Try.func74, Try.ntmps74
  go_wp2_with fail
  go_ret2
  exact says_ret0 rfl

set_option maxHeartbeats 400000 in
theorem read_some (a : Addr) (x : Int) (w : World) (h : w.cell? a = some (.int .u64 x)) : Calls Try.prog 74 #[.pointer (some a)] w (Says (.tuple #[.int .u64 x, .bool true]) w) := by
  go_enter Try.func74, Try.ntmps74
  go_wp2_with fail
  go_ret2
  exact says_ret0 rfl

section
variable {w : World} {V : HV} {S : HS}

set_option maxHeartbeats 400000 in
theorem HeapV.Field (h : HeapV w V S) (p i many ahead : Int) (h0 : 0 ≤ p) (h1 : p < 4611686018427387904) (hi : 0 ≤ i) (hm : i < many) (ha : 0 ≤ ahead) (ha2 : ahead ≤ 16777216) (hlt : p / 4 + 1 + ahead + i < (S.ws.length : Int)) :
    Calls Try.prog 75 #[.pointer (some ⟨V.g, 0, none⟩), .int .u64 p, .int .i64 i, .int .i64 many, .int .i64 ahead] w (Says (.pointer (some ⟨V.bw, fieldAt p ahead i, none⟩)) w) := by
  have hcw := h.cw
  have hin := h.ok.inn
  have hl := h.len
  unfold fieldAt
  go_enter Try.func75, Try.ntmps75
  go_wp2_with fail
  refine (h.half).mono ?_
  rintro e w' ⟨rfl, n, rfl⟩
  go_wp2_with fail
  go_ret
  exact says_ret rfl

def HS.get (S : HS) (p i : Int) : Int × Bool := if 0 ≤ i ∧ i < S.tag p then (S.ws.getD (fieldAt p 0 i) 0, true) else (0, false)
def HS.getRaw (S : HS) (p i : Int) : Int × Bool := if 0 ≤ i ∧ i < S.raw p then (S.ws.getD (fieldAt p (S.tag p) i) 0, true) else (0, false)

theorem HeapV.tag_is (h : HeapV w V S) {p i : Int} (hi : 0 ≤ i) (ht : i < S.tag p) : S.is p = true ∧ p / 4 + 1 + 0 + i < (S.ws.length : Int) ∧ p < 4611686018427387904 := by
  have hp : S.is p = true := by
    cases hp : S.is p with
    | true => rfl
    | false => unfold HS.tag HS.head headOf at ht; rw [if_neg (by unfold HS.is at hp; simp [hp])] at ht; unfold tagH at ht; omega
  obtain ⟨hlt, hj, hm, hb⟩ := h.word hp
  refine ⟨hp, ?_, by omega⟩
  have hf : S.bs[(p / 4).toNat]? = some true := by
    unfold HS.is at hp
    rw [List.getElem?_eq_getElem (by have := h.ok.wf.len; omega)]
    rw [isB_true hm (by have := h.ok.wf.len; omega)] at hp
    rw [hp]
  have := h.ok.wf.fits _ hf
  have e : S.ws.getD (p / 4).toNat 0 = S.head p := by rw [List.getD_eq_getElem?_getD, hj]; rfl
  rw [e] at this
  unfold HS.tag at ht
  have := tagH_bd (S.head p)
  omega
theorem HeapV.raw_is (h : HeapV w V S) {p i : Int} (hi : 0 ≤ i) (ht : i < S.raw p) : S.is p = true ∧ p / 4 + 1 + S.tag p + i < (S.ws.length : Int) ∧ p < 4611686018427387904 := by
  have hp : S.is p = true := by
    cases hp : S.is p with
    | true => rfl
    | false => unfold HS.raw HS.head headOf at ht; rw [if_neg (by unfold HS.is at hp; simp [hp])] at ht; unfold rawH at ht; omega
  obtain ⟨hlt, hj, hm, hb⟩ := h.word hp
  refine ⟨hp, ?_, by omega⟩
  have hf : S.bs[(p / 4).toNat]? = some true := by
    unfold HS.is at hp
    rw [List.getElem?_eq_getElem (by have := h.ok.wf.len; omega)]
    rw [isB_true hm (by have := h.ok.wf.len; omega)] at hp
    rw [hp]
  have := h.ok.wf.fits _ hf
  have e : S.ws.getD (p / 4).toNat 0 = S.head p := by rw [List.getD_eq_getElem?_getD, hj]; rfl
  rw [e] at this
  unfold HS.raw at ht
  unfold HS.tag
  have := tagH_bd (S.head p)
  have := rawH_bd (S.head p)
  omega

theorem getD_get {l : List Int} {k : Nat} (h : k < l.length) : l[k]? = some (l.getD k 0) := by
  rw [List.getD_eq_getElem?_getD, List.getElem?_eq_getElem h]; rfl

set_option maxHeartbeats 400000 in
theorem HeapV.Get (h : HeapV w V S) (p i : Int) (h0 : 0 ≤ p) (h1 : p < 18446744073709551616) :
    Calls Try.prog 42 #[.pointer (some ⟨V.g, 0, none⟩), .int .u64 p, .int .i64 i] w (Says (.tuple #[.int .u64 (S.get p i).1, .bool (S.get p i).2]) w) := by
  by_cases hi : 0 ≤ i ∧ i < S.tag p
  · obtain ⟨hp, hlt, hb⟩ := h.tag_is hi.1 hi.2
    have hcell := h.hw _ _ (getD_get (l := S.ws) (k := fieldAt p 0 i) (by unfold fieldAt; omega))
    have e : S.get p i = (S.ws.getD (fieldAt p 0 i) 0, true) := by unfold HS.get; rw [if_pos hi]
    rw [e]
    have H := Lib.hid hp; clear hp
    go_enter Try.func42, Try.ntmps42
    go_wp2_with fail
    refine (h.Tagged p h0 h1).mono ?_
    rintro e w' ⟨rfl, n, rfl⟩
    go_wp2_with fail
    refine ((h.drewN n).Field p i (S.tag p) 0 h0 hb hi.1 hi.2 (by omega) (by omega) hlt).mono ?_
    rintro e w' ⟨rfl, m, rfl⟩
    go_wp2_with fail
    refine (read_some ⟨V.bw, fieldAt p 0 i, none⟩ (S.ws.getD (fieldAt p 0 i) 0) (w.drewN (n + m)) hcell).mono ?_
    rintro e w' ⟨rfl, m, rfl⟩
    go_wp2_with fail
    go_ret2
    exact says_ret rfl
  · have e : S.get p i = (0, false) := by unfold HS.get; rw [if_neg hi]
    rw [e]
    have hi2 : i < 0 ∨ S.tag p ≤ i := by omega
    clear hi
    have H := Lib.hid hi2; clear hi2
    go_enter Try.func42, Try.ntmps42
    go_wp2_with fail
    refine (h.Tagged p h0 h1).mono ?_
    rintro e w' ⟨rfl, n, rfl⟩
    go_wp2_with fail
    refine (field_none _ p i (S.tag p) 0 _ H.out).mono ?_
    rintro e w' ⟨rfl, m, rfl⟩
    go_wp2_with fail
    refine (read_none _).mono ?_
    rintro e w' ⟨rfl, m, rfl⟩
    go_wp2_with fail
    go_ret2
    exact says_ret rfl

set_option maxHeartbeats 400000 in
theorem HeapV.Raw (h : HeapV w V S) (p i : Int) (h0 : 0 ≤ p) (h1 : p < 18446744073709551616) :
    Calls Try.prog 70 #[.pointer (some ⟨V.g, 0, none⟩), .int .u64 p, .int .i64 i] w (Says (.tuple #[.int .u64 (S.getRaw p i).1, .bool (S.getRaw p i).2]) w) := by
  have ht := tagH_bd (S.head p)
  by_cases hi : 0 ≤ i ∧ i < S.raw p
  · obtain ⟨hp, hlt, hb⟩ := h.raw_is hi.1 hi.2
    have ht' : 0 ≤ S.tag p ∧ S.tag p ≤ 16777216 := by unfold HS.tag; omega
    have hcell := h.hw _ _ (getD_get (l := S.ws) (k := fieldAt p (S.tag p) i) (by unfold fieldAt; omega))
    have e : S.getRaw p i = (S.ws.getD (fieldAt p (S.tag p) i) 0, true) := by unfold HS.getRaw; rw [if_pos hi]
    rw [e]
    have H := Lib.hid hp; clear hp
    go_enter Try.func70, Try.ntmps70
    go_wp2_with fail
    refine (h.Raws p h0 h1).mono ?_
    rintro e w' ⟨rfl, n, rfl⟩
    go_wp2_with fail
    refine ((h.drewN n).Tagged p h0 h1).mono ?_
    rintro e w' ⟨rfl, n2, rfl⟩
    go_wp2_with fail
    refine ((h.drewN (n + n2)).Field p i (S.raw p) (S.tag p) h0 hb hi.1 hi.2 ht'.1 ht'.2 hlt).mono ?_
    rintro e w' ⟨rfl, m, rfl⟩
    go_wp2_with fail
    refine (read_some ⟨V.bw, fieldAt p (S.tag p) i, none⟩ (S.ws.getD (fieldAt p (S.tag p) i) 0) (w.drewN (n + n2 + m)) hcell).mono ?_
    rintro e w' ⟨rfl, m, rfl⟩
    go_wp2_with fail
    go_ret2
    exact says_ret rfl
  · have e : S.getRaw p i = (0, false) := by unfold HS.getRaw; rw [if_neg hi]
    rw [e]
    have hi2 : i < 0 ∨ S.raw p ≤ i := by omega
    clear hi
    have H := Lib.hid hi2; clear hi2
    go_enter Try.func70, Try.ntmps70
    go_wp2_with fail
    refine (h.Raws p h0 h1).mono ?_
    rintro e w' ⟨rfl, n, rfl⟩
    go_wp2_with fail
    refine ((h.drewN n).Tagged p h0 h1).mono ?_
    rintro e w' ⟨rfl, n2, rfl⟩
    go_wp2_with fail
    refine (field_none _ p i (S.raw p) (S.tag p) _ H.out).mono ?_
    rintro e w' ⟨rfl, m, rfl⟩
    go_wp2_with fail
    refine (read_none _).mono ?_
    rintro e w' ⟨rfl, m, rfl⟩
    go_wp2_with fail
    go_ret2
    exact says_ret rfl
end
end Go.Proofs.Ytanjiecefioffaa

/- The heap's writers of fields: Set, SetRaw. -/
namespace Go.Proofs.Ytanjiecefioffaa
open Go.RowKit

def HS.may (S : HS) (x : Int) : Bool := mayB S.bs x
def HS.setOk (S : HS) (p i x : Int) : Bool := decide (0 ≤ i ∧ i < S.tag p) && S.may x
def HS.set (S : HS) (p i x : Int) : HS := if S.setOk p i x = true then { S with ws := S.ws.set (fieldAt p 0 i) x } else S
def HS.setRawOk (S : HS) (p i : Int) : Bool := decide (0 ≤ i ∧ i < S.raw p)
def HS.setRaw (S : HS) (p i x : Int) : HS := if S.setRawOk p i = true then { S with ws := S.ws.set (fieldAt p (S.tag p) i) x } else S

/-- A heap lies here, as it should be. -/
structure HeapW (w : World) (V : HV) (S : HS) (R : HP) : Prop where
  s : sat w (isHeap V S * R)
  ok : HOk V S
theorem HeapW.v {w : World} {V : HV} {S : HS} {R : HP} (h : HeapW w V S R) : HeapV w V S := h.s.heapV h.ok
theorem HeapW.drewN {w : World} {V : HV} {S : HS} {R : HP} (h : HeapW w V S R) (n : Nat) : HeapW (w.drewN n) V S R := ⟨h.s, h.ok⟩
theorem HeapW.below {w w' : World} {V : HV} {S : HS} {R : HP} (h : HeapW w V S R) (hb : Below w.heap.size w w') : HeapW w' V S R := ⟨h.s.below hb, h.ok⟩

/-- It answers v; the heap is S' then. -/
def Leaves (v : Value) (V : HV) (S' : HS) (R : HP) (w : World) (e : Ending) (w' : World) : Prop := e = .returned v ∧ HeapW w' V S' R ∧ Below 0 w w'

theorem drewN_below0 (w : World) (n : Nat) : Below 0 w (w.drewN n) := ⟨rfl, rfl, rfl, Nat.le_refl _, fun _ _ => rfl⟩

/-- A word inside an object's fields is set. -/
theorem wf_set {ws : List Int} {bs : List Bool} (h : WfH ws bs) {k j : Nat} {x : Int} (hk : bs[k]? = some true) (hkj : k < j) (hj : j < k + 1 + (tagH (ws.getD k 0)).toNat + (rawH (ws.getD k 0)).toNat) (h0 : 0 ≤ x) (h1 : x < 18446744073709551616) :
    WfH (ws.set j x) bs := by
  have hnot : ∀ q, bs[q]? = some true → q ≠ j := by
    intro q hq e
    subst e
    have := h.apart k q hk hq hkj
    omega
  have hget : ∀ q, bs[q]? = some true → (ws.set j x).getD q 0 = ws.getD q 0 := by
    intro q hq
    rw [List.getD_eq_getElem?_getD, List.getElem?_set_ne (fun e => hnot q hq e.symm), ← List.getD_eq_getElem?_getD]
  have hj0 : 0 < j := by omega
  refine ⟨by simpa using h.len, by simpa using h.pos, ?_, ?_, ⟨h.zero.1, ?_⟩, ?_, ?_, ?_, ?_⟩
  · intro y hy
    rcases List.mem_or_eq_of_mem_set hy with hy | rfl
    · exact h.u y hy
    · exact ⟨h0, h1⟩
  · intro q hq; rw [hget q hq, List.length_set]; exact h.fits q hq
  · rw [List.getElem?_set_ne (by omega)]; exact h.zero.2
  · rw [List.length_set]; exact h.first
  · intro q hq; rw [hget q hq, List.length_set]; exact h.next q hq
  · intro q hq; rw [hget q hq]; exact h.hdr q hq
  · intro a b ha hb hab; rw [hget a ha]; exact h.apart a b ha hb hab

/-- .. and tagged fields stay well. -/
theorem ptr_set {ws : List Int} {bs : List Bool} (h : WfH ws bs) (hp : PtrOk ws bs) {k j : Nat} {x : Int} (hk : bs[k]? = some true) (hkj : k < j) (hj : j < k + 1 + (tagH (ws.getD k 0)).toNat + (rawH (ws.getD k 0)).toNat)
    (hx : j < k + 1 + (tagH (ws.getD k 0)).toNat → mayB bs x = true) : PtrOk (ws.set j x) bs := by
  have hnot : ∀ q, bs[q]? = some true → q ≠ j := by
    intro q hq e
    subst e
    have := h.apart k q hk hq hkj
    omega
  have hjl : j < ws.length := by have := h.fits k hk; omega
  intro q i hq hi
  have e : (ws.set j x).getD q 0 = ws.getD q 0 := by
    rw [List.getD_eq_getElem?_getD, List.getElem?_set_ne (fun e => hnot q hq e.symm), ← List.getD_eq_getElem?_getD]
  rw [e] at hi
  by_cases hqj : q + 1 + i = j
  · rw [hqj, List.getD_eq_getElem?_getD, List.getElem?_set_self hjl]
    refine hx ?_
    rcases Nat.lt_trichotomy q k with a | a | a
    · have := h.apart q k hq hk a; omega
    · subst a; omega
    · have := h.apart k q hk hq a; omega
  · rw [List.getD_eq_getElem?_getD, List.getElem?_set_ne (fun e => hqj e.symm), ← List.getD_eq_getElem?_getD]
    exact hp q i hq hi

section
variable {w : World} {V : HV} {S : HS} {R : HP}

theorem HeapW.setCell (h : HeapW w V S R) {k j : Nat} {x : Int} (hk : S.bs[k]? = some true) (hkj : k < j) (hj : j < k + 1 + (tagH (S.ws.getD k 0)).toNat + (rawH (S.ws.getD k 0)).toNat) (h0 : 0 ≤ x) (h1 : x < 18446744073709551616)
    (hx : j < k + 1 + (tagH (S.ws.getD k 0)).toNat → mayB S.bs x = true) :
    HeapW (w.setCell ⟨V.bw, j, none⟩ (.int .u64 x)) V { S with ws := S.ws.set j x } R := by
  have ok := h.ok
  refine ⟨?_, ⟨ok.inn, ok.lo, ok.hi, by simpa using ok.used, wf_set ok.wf hk hkj hj h0 h1, ok.times, ptr_set ok.wf ok.ptr hk hkj hj hx⟩⟩
  have hs : sat w (row 22 1 V.bw V.cw (S.ws.map u64) * (blk V.g (.cells (heapCells V S) 125 (0, 0)) * (row 4 1 V.bb V.cb (S.bs.map .bool) * R))) := h.s.perm (by unfold isHeap; ac_rfl)
  have h2 := hs.row_set j (.int .u64 x)
  have e : (S.ws.map u64).set j (.int .u64 x) = (S.ws.set j x).map u64 := by rw [List.map_set]
  rw [e] at h2
  have e2 : heapCells V { S with ws := S.ws.set j x } = heapCells V S := by unfold heapCells HV.vw HV.vb; simp
  refine h2.perm ?_
  unfold isHeap
  rw [e2]
  ac_rfl

theorem HeapV.begins (h : HeapV w V S) {p : Int} (hp : S.is p = true) : S.bs[(p / 4).toNat]? = some true ∧ S.ws.getD (p / 4).toNat 0 = S.head p := by
  obtain ⟨hlt, hj, hm, hb⟩ := h.word hp
  refine ⟨?_, by rw [List.getD_eq_getElem?_getD, hj]; rfl⟩
  unfold HS.is at hp
  rw [List.getElem?_eq_getElem (by have := h.ok.wf.len; omega)]
  rw [isB_true hm (by have := h.ok.wf.len; omega)] at hp
  rw [hp]

set_option maxHeartbeats 400000 in
theorem HeapW.Set_in (h : HeapW w V S R) (p i x : Int) (h0 : 0 ≤ p) (h1 : p < 18446744073709551616) (x0 : 0 ≤ x) (x1 : x < 18446744073709551616) (hi : 0 ≤ i ∧ i < S.tag p) :
    Calls Try.prog 78 #[.pointer (some ⟨V.g, 0, none⟩), .int .u64 p, .int .i64 i, .int .u64 x] w (fun e w' => (S.may x = false ∧ Says (.bool false) w e w') ∨ (S.may x = true ∧ e = .returned (.bool true) ∧ ∃ n, w' = (w.drewN n).setCell ⟨V.bw, fieldAt p 0 i, none⟩ (.int .u64 x))) := by
  obtain ⟨hp, hlt, hb⟩ := h.v.tag_is hi.1 hi.2
  have HP' := Lib.hid hp; clear hp
  have hcell := h.v.hw _ _ (getD_get (l := S.ws) (k := fieldAt p 0 i) (by unfold fieldAt; omega))
  have hfr : w.frozen? ⟨V.bw, fieldAt p 0 i, none⟩ = false := (h.s.perm (by unfold isHeap; ac_rfl) : sat w (row 22 1 V.bw V.cw (S.ws.map u64) * (blk V.g (.cells (heapCells V S) 125 (0, 0)) * (row 4 1 V.bb V.cb (S.bs.map .bool) * R)))).row_frozen _
  have m4 := u64_mask2 x x0 x1
  have hx : x % 4 = 3 ∨ x % 4 = 0 ∨ x % 4 = 1 ∨ x % 4 = 2 := by omega
  rcases hx with hx | hx | hx | hx
  · have hmay : S.may x = false := by unfold HS.may mayB; rw [isB_odd (by omega)]; simp [hx]
    have HM := Lib.hid hmay; clear hmay
    rw [hx] at m4
    clear hx
    go_enter Try.func78, Try.ntmps78
    go_wp2_with fail
    refine (h.v.Tagged p h0 h1).mono ?_
    rintro e w' ⟨rfl, n, rfl⟩
    go_wp2_with fail
    refine ((h.v.drewN n).Field p i (S.tag p) 0 h0 hb hi.1 hi.2 (by omega) (by omega) hlt).mono ?_
    rintro e w' ⟨rfl, m, rfl⟩
    go_wp2_with fail
    go_ret
    exact .inl ⟨HM.out, says_ret rfl⟩
  · have hmay : S.may x = S.is x := by unfold HS.may mayB HS.is; simp [hx]
    have HM := Lib.hid hmay; clear hmay
    rw [hx] at m4
    clear hx
    cases hix : S.is x with
    | true =>
      have HI := Lib.hid hix; clear hix
      go_enter Try.func78, Try.ntmps78
      go_wp2_with fail
      refine (h.v.Tagged p h0 h1).mono ?_
      rintro e w' ⟨rfl, n, rfl⟩
      go_wp2_with fail
      refine ((h.v.drewN n).Field p i (S.tag p) 0 h0 hb hi.1 hi.2 (by omega) (by omega) hlt).mono ?_
      rintro e w' ⟨rfl, m, rfl⟩
      go_wp2_with fail
      refine (((h.v.drewN (n + m))).Is x x0 x1).mono ?_
      rintro e w' ⟨rfl, q, rfl⟩
      rw [HI.out]
      go_wp2_with fail
      go_ret
      exact .inr ⟨by rw [HM.out, HI.out], rfl, _, rfl⟩
    | false =>
      have HI := Lib.hid hix; clear hix
      go_enter Try.func78, Try.ntmps78
      go_wp2_with fail
      refine (h.v.Tagged p h0 h1).mono ?_
      rintro e w' ⟨rfl, n, rfl⟩
      go_wp2_with fail
      refine ((h.v.drewN n).Field p i (S.tag p) 0 h0 hb hi.1 hi.2 (by omega) (by omega) hlt).mono ?_
      rintro e w' ⟨rfl, m, rfl⟩
      go_wp2_with fail
      refine (((h.v.drewN (n + m))).Is x x0 x1).mono ?_
      rintro e w' ⟨rfl, q, rfl⟩
      rw [HI.out]
      go_wp2_with fail
      go_ret
      exact .inl ⟨by rw [HM.out, HI.out], says_ret rfl⟩
  · have hmay : S.may x = true := by unfold HS.may mayB; simp [hx]
    have HM := Lib.hid hmay; clear hmay
    rw [hx] at m4
    clear hx
    go_enter Try.func78, Try.ntmps78
    go_wp2_with fail
    refine (h.v.Tagged p h0 h1).mono ?_
    rintro e w' ⟨rfl, n, rfl⟩
    go_wp2_with fail
    refine ((h.v.drewN n).Field p i (S.tag p) 0 h0 hb hi.1 hi.2 (by omega) (by omega) hlt).mono ?_
    rintro e w' ⟨rfl, m, rfl⟩
    go_wp2_with fail
    go_ret
    exact .inr ⟨HM.out, rfl, _, rfl⟩
  · have hmay : S.may x = true := by unfold HS.may mayB; simp [hx]
    have HM := Lib.hid hmay; clear hmay
    rw [hx] at m4
    clear hx
    go_enter Try.func78, Try.ntmps78
    go_wp2_with fail
    refine (h.v.Tagged p h0 h1).mono ?_
    rintro e w' ⟨rfl, n, rfl⟩
    go_wp2_with fail
    refine ((h.v.drewN n).Field p i (S.tag p) 0 h0 hb hi.1 hi.2 (by omega) (by omega) hlt).mono ?_
    rintro e w' ⟨rfl, m, rfl⟩
    go_wp2_with fail
    go_ret
    exact .inr ⟨HM.out, rfl, _, rfl⟩

set_option maxHeartbeats 400000 in
theorem HeapW.Set (h : HeapW w V S R) (p i x : Int) (h0 : 0 ≤ p) (h1 : p < 18446744073709551616) (x0 : 0 ≤ x) (x1 : x < 18446744073709551616) :
    Calls Try.prog 78 #[.pointer (some ⟨V.g, 0, none⟩), .int .u64 p, .int .i64 i, .int .u64 x] w (Leaves (.bool (S.setOk p i x)) V (S.set p i x) R w) := by
  by_cases hi : 0 ≤ i ∧ i < S.tag p
  · obtain ⟨hp, hlt, hb⟩ := h.v.tag_is hi.1 hi.2
    obtain ⟨hk, hkw⟩ := h.v.begins hp
    refine (h.Set_in p i x h0 h1 x0 x1 hi).mono ?_
    rintro e w' (⟨hm, he, n, rfl⟩ | ⟨hm, he, n, rfl⟩)
    · have e1 : S.setOk p i x = false := by unfold HS.setOk; simp [hm]
      have e2 : S.set p i x = S := by unfold HS.set; rw [if_neg (by rw [e1]; simp)]
      rw [e1, e2]
      exact ⟨he, h.drewN n, drewN_below0 _ _⟩
    · have e1 : S.setOk p i x = true := by unfold HS.setOk; simp [hm, hi]
      have e2 : S.set p i x = { S with ws := S.ws.set (fieldAt p 0 i) x } := by unfold HS.set; rw [if_pos e1]
      rw [e1, e2]
      refine ⟨he, (h.drewN n).setCell hk ?_ ?_ x0 x1 (fun _ => hm), (drewN_below0 _ _).setCell (Nat.zero_le _) _⟩
      · unfold fieldAt; omega
      · rw [hkw]; unfold fieldAt; unfold HS.tag at hi; omega
  · have e : S.setOk p i x = false := by unfold HS.setOk; simp [hi]
    have e2 : S.set p i x = S := by unfold HS.set; rw [if_neg (by rw [e]; simp)]
    rw [e, e2]
    have hi2 : i < 0 ∨ S.tag p ≤ i := by omega
    clear hi e e2
    have H := Lib.hid hi2; clear hi2
    go_enter Try.func78, Try.ntmps78
    go_wp2_with fail
    refine (h.v.Tagged p h0 h1).mono ?_
    rintro e w' ⟨rfl, n, rfl⟩
    go_wp2_with fail
    refine (field_none _ p i (S.tag p) 0 _ H.out).mono ?_
    rintro e w' ⟨rfl, m, rfl⟩
    go_wp2_with fail
    go_ret
    exact ⟨rfl, h.drewN _, drewN_below0 _ _⟩

set_option maxHeartbeats 400000 in
theorem HeapW.SetRaw (h : HeapW w V S R) (p i x : Int) (h0 : 0 ≤ p) (h1 : p < 18446744073709551616) (x0 : 0 ≤ x) (x1 : x < 18446744073709551616) :
    Calls Try.prog 82 #[.pointer (some ⟨V.g, 0, none⟩), .int .u64 p, .int .i64 i, .int .u64 x] w (Leaves (.bool (S.setRawOk p i)) V (S.setRaw p i x) R w) := by
  have ht := tagH_bd (S.head p)
  by_cases hi : 0 ≤ i ∧ i < S.raw p
  · obtain ⟨hp, hlt, hb⟩ := h.v.raw_is hi.1 hi.2
    have ht' : 0 ≤ S.tag p ∧ S.tag p ≤ 16777216 := by unfold HS.tag; omega
    obtain ⟨hk, hkw⟩ := h.v.begins hp
    have e : S.setRawOk p i = true := by unfold HS.setRawOk; simp [hi]
    have e2 : S.setRaw p i x = { S with ws := S.ws.set (fieldAt p (S.tag p) i) x } := by unfold HS.setRaw; rw [if_pos e]
    rw [e, e2]
    have hcell := h.v.hw _ _ (getD_get (l := S.ws) (k := fieldAt p (S.tag p) i) (by unfold fieldAt; omega))
    have hfr : w.frozen? ⟨V.bw, fieldAt p (S.tag p) i, none⟩ = false := (h.s.perm (by unfold isHeap; ac_rfl) : sat w (row 22 1 V.bw V.cw (S.ws.map u64) * (blk V.g (.cells (heapCells V S) 125 (0, 0)) * (row 4 1 V.bb V.cb (S.bs.map .bool) * R)))).row_frozen _
    have hfa : (p / 4).toNat < fieldAt p (S.tag p) i := by unfold fieldAt; omega
    have hfb : fieldAt p (S.tag p) i < (p / 4).toNat + 1 + (tagH (S.ws.getD (p / 4).toNat 0)).toNat + (rawH (S.ws.getD (p / 4).toNat 0)).toNat := by
      rw [hkw]; unfold fieldAt; unfold HS.tag; unfold HS.raw at hi; omega
    have hft : ¬ fieldAt p (S.tag p) i < (p / 4).toNat + 1 + (tagH (S.ws.getD (p / 4).toNat 0)).toNat := by rw [hkw]; unfold fieldAt; unfold HS.tag; unfold HS.raw at hi; omega
    have HF := Lib.hid hft; clear hft
    have HH := Lib.hid (And.intro hk (And.intro hfa hfb))
    clear hp hk hkw hfa hfb e e2
    go_enter Try.func82, Try.ntmps82
    go_wp2_with fail
    refine (h.v.Raws p h0 h1).mono ?_
    rintro e w' ⟨rfl, n, rfl⟩
    go_wp2_with fail
    refine ((h.v.drewN n).Tagged p h0 h1).mono ?_
    rintro e w' ⟨rfl, n2, rfl⟩
    go_wp2_with fail
    refine ((h.v.drewN (n + n2)).Field p i (S.raw p) (S.tag p) h0 hb hi.1 hi.2 ht'.1 ht'.2 hlt).mono ?_
    rintro e w' ⟨rfl, m, rfl⟩
    go_wp2_with fail
    go_ret
    exact ⟨rfl, (h.drewN _).setCell HH.out.1 HH.out.2.1 HH.out.2.2 x0 x1 (fun hb => absurd hb HF.out), (drewN_below0 _ _).setCell (Nat.zero_le _) _⟩
  · have e : S.setRawOk p i = false := by unfold HS.setRawOk; simp [hi]
    have e2 : S.setRaw p i x = S := by unfold HS.setRaw; rw [if_neg (by rw [e]; simp)]
    rw [e, e2]
    have hi2 : i < 0 ∨ S.raw p ≤ i := by omega
    clear hi e e2
    have H := Lib.hid hi2; clear hi2
    go_enter Try.func82, Try.ntmps82
    go_wp2_with fail
    refine (h.v.Raws p h0 h1).mono ?_
    rintro e w' ⟨rfl, n, rfl⟩
    go_wp2_with fail
    refine ((h.v.drewN n).Tagged p h0 h1).mono ?_
    rintro e w' ⟨rfl, n2, rfl⟩
    go_wp2_with fail
    refine (field_none _ p i (S.raw p) (S.tag p) _ H.out).mono ?_
    rintro e w' ⟨rfl, m, rfl⟩
    go_wp2_with fail
    go_ret
    exact ⟨rfl, h.drewN _, drewN_below0 _ _⟩
end
end Go.Proofs.Ytanjiecefioffaa

/- Objects are laid: Words, empty, New, lay, Alloc. -/
namespace Go.Proofs.Ytanjiecefioffaa
open Go.RowKit

theorem info_u64 : (Try.prog.info? 22).map (fun i => (i.zero, i.size, i.bytes)) = some (some (.int .u64 0), 1, 8) := by kernel_rfl
theorem info_bool : (Try.prog.info? 4).map (fun i => (i.zero, i.size, i.bytes)) = some (some (.bool false), 1, 1) := by kernel_rfl

/-- The walk halts here: the goal is behind a name. -/
def Halt' (p : Prop) : Prop := p
theorem halt {p : Prop} (h : Halt' p) : p := h
theorem goon {p : Prop} (h : p) : Halt' p := h

/-- It answers a slice of its own that holds xs. -/
def Lists (e sz n : Nat) (xs : List Value) (R : HP) (w : World) (en : Ending) (w' : World) : Prop := ∃ v, en = .returned v ∧ sat w' (own e sz v n xs * R) ∧ Below 0 w w'

section
variable {w : World} {V : HV} {S : HS} {R : HP}

theorem cells_of {w : World} {b n : Nat} {l : List Value} (h : ∀ j v, l[j]? = some v → w.cell? ⟨b, n + j, none⟩ = some v) : ∀ j u, l[j]? = some u → w.cell? ((⟨b, n, none⟩ : Addr).add j) = some u := by
  intro j u hu
  have hadd : (⟨b, n, none⟩ : Addr).add j = ⟨b, n + j, none⟩ := by unfold Addr.add; split <;> simp_all
  rw [hadd]; exact h j u hu
theorem map_cells {α : Type} {w : World} {b n : Nat} {l : List α} {f : α → Value} (h : ∀ j x, l[j]? = some x → w.cell? ⟨b, n + j, none⟩ = some (f x)) : ∀ j v, (l.map f)[j]? = some v → w.cell? ⟨b, n + j, none⟩ = some v := by
  intro j v hv
  rw [List.getElem?_map] at hv
  cases hl : l[j]? with
  | none => rw [hl] at hv; cases hv
  | some x => rw [hl] at hv; cases hv; exact h j x hl
theorem one_map {α : Type} {l : List α} {f : α → Value} (h : ∀ x, (f x).oneCell' = true) : ∀ u ∈ l.map f, u.oneCell' = true := by
  intro u hu
  obtain ⟨x, _, rfl⟩ := List.mem_map.1 hu
  exact h x

set_option maxHeartbeats 400000 in
theorem HeapW.Words (h : HeapW w V S R) : Calls Try.prog 19 #[.pointer (some ⟨V.g, 0, none⟩)] w (Lists 22 1 S.ws.length (S.ws.map u64) (isHeap V S * R) w) := by
  obtain ⟨i0, hi, hz0, hz1, hz2⟩ := info_parts info_u64
  have hcw := h.v.cw
  have hl := h.v.len
  go_enter Try.func19, Try.ntmps19
  go_wp2_with fail
  refine (h.v.half).mono ?_
  rintro e w' ⟨rfl, n, rfl⟩
  go_wp2_with (at_builtin; refine wpList_append_sat (w := w.drewN n) rfl (.const (.slice none 0 0)) (.tmp 7) 35 rfl 22 i0 (.int .u64 0) 1 8 Try.underlying35 hi hz0 hz1 hz2 rfl _ 0 [] rfl (isHeap V S * R) ⟨V.bw, 0, none⟩ S.ws.length V.cw (S.ws.map u64) rfl ?_ ?hnil ?c1 ?hcl ?c2 ?c3 ?c4; intro v' w' hs' hb')
  rotate_left
  case hnil => exact sat.nil_own (e := 22) (sz := 1) (h.drewN n).s
  case c1 => simp
  case hcl => exact cells_of (map_cells (by simpa using h.v.hw))
  case c2 => exact one_map fun _ => rfl
  case c3 => omega
  case c4 => unfold maxLen; omega
  rw [Nat.zero_add, List.nil_append] at hs'
  go_wp2_with fail
  go_ret
  exact ⟨_, rfl, hs', (drewN_below0 _ _).trans hb'⟩

theorem pair_set {cs : Array Value} {off : Nat} {u v : Value} (h : off + 1 < cs.size) : ((cs.setIfInBounds off u).setIfInBounds (off + 1) v)[off]? = some u ∧ ((cs.setIfInBounds off u).setIfInBounds (off + 1) v)[off + 1]? = some v := by
  constructor
  · simp [Array.getElem?_setIfInBounds]; omega
  · simp [Array.getElem?_setIfInBounds]; omega

def laid (m : Nat) : List Bool := true :: List.replicate (m - 1) false

theorem laid_set (bs : List Bool) (n m : Nat) (h : bs.length = n) (h0 : 0 < m) : (bs.map Value.bool ++ List.replicate m (Value.bool false)).set n (Value.bool true) = (bs ++ laid m).map Value.bool := by
  obtain ⟨m, rfl⟩ : ∃ k, m = k + 1 := ⟨m - 1, by omega⟩
  rw [List.set_append_right _ _ (by simp [h])]
  simp [h, laid, List.replicate_succ]

/-- What lay leaves. -/
def LayPost (g off : Nat) (cs : Array Value) (T : Nat) (ws : List Int) (bs : List Bool) (xs : List Int) (R : HP) (w : World) (e : Ending) (w' : World) : Prop :=
  e = .returned (.int .u64 (4 * ws.length)) ∧ Below 0 w w' ∧ ∃ bw cw bb cb, ws.length + xs.length ≤ cw ∧ ws.length + xs.length ≤ cb ∧
    sat w' (blk g (.cells ((cs.setIfInBounds off (.slice (some ⟨bw, 0, none⟩) (ws.length + xs.length) cw)).setIfInBounds (off + 1) (.slice (some ⟨bb, 0, none⟩) (ws.length + xs.length) cb)) T (0, 0)) *
      (row 22 1 bw cw ((ws ++ xs).map u64) * (row 4 1 bb cb ((bs ++ laid xs.length).map .bool) * R)))

set_option maxHeartbeats 1000000 in
theorem lay_any (g off bw cw bb cb ab ao m c : Nat) (cs : Array Value) (T : Nat) (ws : List Int) (bs : List Bool) (xs : List Int)
    (hs : sat w (blk g (.cells cs T (0, 0)) * (row 22 1 bw cw (ws.map u64) * (row 4 1 bb cb (bs.map .bool) * R))))
    (h1 : cs[off]? = some (.slice (some ⟨bw, 0, none⟩) ws.length cw)) (h2 : cs[off + 1]? = some (.slice (some ⟨bb, 0, none⟩) bs.length cb))
    (hwc : ws.length ≤ cw) (hbc : bs.length ≤ cb) (hl : bs.length = ws.length) (hp : 0 < ws.length) (hm : xs.length = m) (hm0 : 0 < m) (hn : ws.length + m ≤ 2097152)
    (hx : ∀ j x, xs[j]? = some x → w.cell? ⟨ab, ao + j, none⟩ = some (.int .u64 x)) :
    Calls Try.prog 89 #[.pointer (some ⟨g, off, none⟩), .slice (some ⟨ab, ao, none⟩) m c] w (LayPost g off cs T ws bs xs R w) := by
  obtain ⟨i0, hi, hz0, hz1, hz2⟩ := info_parts info_u64
  obtain ⟨j0, hj, hy0, hy1, hy2⟩ := info_parts info_bool
  have hoff : off + 1 < cs.size := by
    rcases Nat.lt_or_ge (off + 1) cs.size with h | h
    · exact h
    · rw [Array.getElem?_eq_none h] at h2; cases h2
  have k1 : w.cell? ⟨g, off, none⟩ = _ := (hs.left.cell off).trans h1
  have H1 := Lib.hid (And.intro hi (And.intro hz0 (And.intro hz1 hz2)))
  have H2 := Lib.hid (And.intro hj (And.intro hy0 (And.intro hy1 hy2)))
  clear hi hz0 hz1 hz2 hj hy0 hy1 hy2
  have HX := Lib.hid hx; clear hx
  have HM := Lib.hid hm; clear hm
  have HL := Lib.hid hl; clear hl
  have HH := Lib.hid (And.intro h1 h2); clear h1 h2
  go_enter Try.func89, Try.ntmps89
  go_wp2_with (at_builtin; refine halt ?_)
  refine goon ?_
  obtain ⟨hi, hz0, hz1, hz2⟩ := H1.out
  refine wpList_append_sat rfl (.tmp 17) (.tmp 18) 35 rfl 22 i0 (.int .u64 0) 1 8 Try.underlying35 hi hz0 hz1 hz2 rfl (.slice (some ⟨bw, 0, none⟩) ws.length cw) ws.length (ws.map u64) rfl (blk g (.cells cs T (0, 0)) * (row 4 1 bb cb (bs.map .bool) * R)) ⟨ab, ao, none⟩ m c (xs.map u64) rfl ?_ ?h ?c1 ?c2 ?c3 ?c4 ?c5
  case h => exact sat.shut_own (by simp) hwc (hs.perm (by ac_rfl))
  case c1 => simp [HM.out]
  case c2 => exact cells_of (map_cells HX.out)
  case c3 => exact one_map fun _ => rfl
  case c4 => omega
  case c5 => unfold maxLen; omega
  clear hi hz0 hz1 hz2
  intro v' w1 hs1 hb1
  obtain ⟨bw', cw', rfl, hn1, hl1, hr1⟩ := hs1.own_some (by omega)
  have hs2 := (hr1.perm (by ac_rfl) : sat w1 (blk g (.cells cs T (0, 0)) * (row 22 1 bw' cw' (ws.map u64 ++ xs.map u64) * (row 4 1 bb cb (bs.map .bool) * R))))
  have q1 : w1.cell? ⟨g, off, none⟩ = _ := (hs2.left.cell off).trans HH.out.1
  have q2 : w1.frozen? ⟨g, off, none⟩ = false := hs2.left.frozen off
  have q3 : w1.cell? ⟨g, off + 1, none⟩ = _ := (hs2.left.cell (off + 1)).trans HH.out.2
  clear k1 hs1 hr1
  go_wp2_with (at_builtin; refine halt ?_)
  refine goon ?_
  obtain ⟨hj, hy0, hy1, hy2⟩ := H2.out
  have hs3 := hs2.setCell (off := off) (.slice (some ⟨bw', 0, none⟩) (ws.length + m) cw')
  refine wpList_append_zeros rfl (.tmp 26) (.tmp 28) 62 3 rfl 4 .i64 j0 (.bool false) 1 Try.underlying62 Try.underlying3 hj hy0 hy1 hy2 rfl rfl (.slice (some ⟨bb, 0, none⟩) bs.length cb) bs.length (bs.map .bool) rfl (blk g (.cells (cs.setIfInBounds off (.slice (some ⟨bw', 0, none⟩) (ws.length + m) cw')) T (0, 0)) * (row 22 1 bw' cw' (ws.map u64 ++ xs.map u64) * R)) m rfl ?_ ?h ?c1 ?c2 ?c3
  case h => exact sat.shut_own (by simp) hbc (hs3.perm (by ac_rfl))
  case c1 => rw [HL.out]; exact hp
  case c2 => rw [HL.out]; omega
  case c3 => rw [HL.out]; omega
  clear hj hy0 hy1 hy2
  intro v' w2 hs4 hb2
  rw [HL.out] at hs4
  obtain ⟨bb', cb', rfl, hn2, hl2, hr2⟩ := hs4.own_some (by omega)
  have hs5 := (hr2.perm (by ac_rfl) : sat w2 (blk g (.cells (cs.setIfInBounds off (.slice (some ⟨bw', 0, none⟩) (ws.length + m) cw')) T (0, 0)) * (row 4 1 bb' cb' (bs.map .bool ++ List.replicate m (.bool false)) * (row 22 1 bw' cw' (ws.map u64 ++ xs.map u64) * R))))
  have hs6 := hs5.setCell (off := off + 1) (.slice (some ⟨bb', 0, none⟩) (ws.length + m) cb')
  have p1 : w2.cell? ⟨g, off + 1, none⟩ = some (.slice (some ⟨bb, 0, none⟩) bs.length cb) := by
    rw [hs5.left.cell, Array.getElem?_setIfInBounds_ne (by omega)]; exact HH.out.2
  have p2 : w2.frozen? ⟨g, off + 1, none⟩ = false := hs5.left.frozen _
  clear q1 q2 q3 hs2 hs3 hs4 hr2 hs
  go_upto_region 4 with (fail)
  generalize hw3 : w2.setCell ⟨g, off + 1, none⟩ (.slice (some ⟨bb', 0, none⟩) (ws.length + m) cb') = w3 at *
  have hs7 := (hs6.perm (by ac_rfl) : sat w3 (row 4 1 bb' cb' (bs.map .bool ++ List.replicate m (.bool false)) * (blk g (.cells ((cs.setIfInBounds off (.slice (some ⟨bw', 0, none⟩) (ws.length + m) cw')).setIfInBounds (off + 1) (.slice (some ⟨bb', 0, none⟩) (ws.length + m) cb')) T (0, 0)) * (row 22 1 bw' cw' (ws.map u64 ++ xs.map u64) * R))))
  have r1 : w3.cell? ⟨bb', ws.length, none⟩ = some (.bool false) := hs7.row_cell (by rw [List.getElem?_append_right (by simp [HL.out])]; simp [HL.out, hm0])
  have r2 : w3.frozen? ⟨bb', ws.length, none⟩ = false := hs7.row_frozen _
  have r3 : w3.cell? ⟨g, off + 1, none⟩ = some (.slice (some ⟨bb', 0, none⟩) (ws.length + m) cb') := (hs6.left.cell _).trans (pair_set hoff).2
  have hb3 : Below 0 w2 w3 := by rw [← hw3]; exact (Below.refl _ _).setCell (Nat.zero_le _) _
  clear hs5 hs6 p1 p2 hw3
  go_wp2_with fail
  go_ret
  have hm := HM.out
  subst hm
  refine ⟨rfl, ?_, bw', cw', bb', cb', hn1, hn2, ?_⟩
  · exact ((hb1.trans ((Below.refl _ _).setCell (Nat.zero_le _) _)).trans hb2).trans (hb3.trans ((Below.refl _ _).setCell (Nat.zero_le _) _))
  · have h8 := hs7.row_set ws.length (.bool true)
    rw [laid_set bs ws.length xs.length HL.out hm0] at h8
    refine h8.perm ?_
    simp only [List.map_append]
    ac_rfl

end
end Go.Proofs.Ytanjiecefioffaa
