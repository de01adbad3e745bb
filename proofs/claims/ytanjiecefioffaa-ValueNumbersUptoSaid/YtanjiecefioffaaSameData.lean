/- SameLimbs. Same, SameAll of data that are numbers. SameAll of two rows of numbers. What lies in a row of numbers' data, with their limbs beside it, is read. -/
import Derived.Test.YtanjiecefioffaaSameW
import Derived.Test.YtanjiecefioffaaTakeNum
import Derived.Test.YtanjiecefioffaaTakeChain
/- SameLimbs. -/
namespace Go.Proofs.Ytanjiecefioffaa
open Go.RowKit

/-- The limbs xs can be read here. -/
def Reads32 (w : World) (ao : Option Addr) (xs : List Int) : Prop := ∀ (j : Nat) x, xs[j]? = some x → ∃ a, ao = some a ∧ w.cell? (a.add j) = some (.int .u32 x)
set_option maxHeartbeats 400000 in
theorem same_limbs (w : World) (ao bo : Option Addr) (c d : Nat) (xs ys : List Int) (hx : Reads32 w ao xs) (hy : Reads32 w bo ys) (hn : xs.length < 4611686018427387904) (hm : ys.length < 4611686018427387904) :
    Calls Try.prog 72 #[.slice ao xs.length c, .slice bo ys.length d] w (Says (.bool (decide (xs = ys))) w) := by
  by_cases hl : xs.length = ys.length
  · have hl2 : (xs.length : Int) = ys.length := by omega
    generalize hnx : xs.length = n1 at *
    generalize hny : ys.length = n2 at *
    subst hl
    have HX := Lib.hid (And.intro hnx hny)
    clear hnx hny hm hl2
    go_enter Try.func72, Try.ntmps72
    go_wp2_with fail
    go_loopw [5] (SameRel w xs ys) (fun i _ => n1 - (intOf i).toNat)
    case atStart => exact ⟨0, 0, Nat.zero_le _, rfl, rfl, fun j h => by omega⟩
    case round =>
      obtain ⟨k, n, hk, rfl, rfl, hsame⟩ := hrel
      by_cases hlt : k < n1
      · obtain ⟨x, ex⟩ : ∃ x, xs[k]? = some x := ⟨_, List.getElem?_eq_getElem (by rw [HX.out.1]; exact hlt)⟩
        obtain ⟨y, ey⟩ : ∃ y, ys[k]? = some y := ⟨_, List.getElem?_eq_getElem (by rw [HX.out.2]; exact hlt)⟩
        obtain ⟨a, rfl, ha⟩ := hx k x ex
        obtain ⟨b, rfl, hb⟩ := hy k y ey
        have ha2 : (w.drewN n).cell? (a.add k) = some (.int .u32 x) := ha
        have hb2 : (w.drewN n).cell? (b.add k) = some (.int .u32 y) := hb
        have HW := Lib.hid (rfl : w.drewN n = w.drewN n)
        generalize hw : w.drewN n = w1 at *
        have HW1 := Lib.hid hw
        clear hw HW ha hb
        have HS := Lib.hid (And.intro ex (And.intro ey hsame))
        clear ex ey hsame
        by_cases he : x = y
        · subst he
          go_wp2_with fail
          go_quiet (fail)
          go_wp2_with fail
          go_roundw
          case rel =>
            refine ⟨k + 1, n + nq, by rw [HX.out.1]; omega, by go_num, by rw [← HW1.out, World.drewN_drewN], ?_⟩
            intro j hj
            by_cases e : j = k
            · subst e; rw [HS.out.1, HS.out.2.1]
            · exact HS.out.2.2 j (by omega)
          case measure => simp [intOf]; omega
        · have he2 : (x == y) = false := by rw [beq_eq_false_iff_ne]; exact he
          go_wp2_with fail
          go_quiet (fail)
          go_wp2_with fail
          go_ret
          rw [same_false HS.out.1 HS.out.2.1 he]
          rw [← HW1.out]
          exact ⟨rfl, n + nq, by rw [World.drewN_drewN]⟩
      · have hge : (n1 : Int) ≤ k := by omega
        have heq : decide (xs = ys) = true := by
          rw [decide_eq_true_eq]
          apply List.ext_getElem?
          intro j
          rcases Nat.lt_or_ge j k with h | h
          · exact hsame j h
          · rw [List.getElem?_eq_none (by rw [HX.out.1]; omega), List.getElem?_eq_none (by rw [HX.out.2]; omega)]
        have HQ := Lib.hid heq
        clear heq hsame
        go_wp2_with fail
        go_ret
        rw [HQ.out]
        exact ⟨rfl, n, rfl⟩
  · have he : decide (xs = ys) = false := by rw [decide_eq_false_iff_not]; rintro rfl; exact hl rfl
    rw [he]
    have hl2 : ((xs.length : Int) == (ys.length : Int)) = false := by rw [beq_eq_false_iff_ne]; omega
    go_enter Try.func72, Try.ntmps72
    go_wp2_with fail
    go_ret
    exact ⟨rfl, 0, rfl⟩

set_option maxRecDepth 100000 in
set_option maxHeartbeats 1000000 in
/-- Numbers of one sign and the same limbs are told the same. -/
theorem same_num {w : World} {R : HP} (hs : sat w R) (P : Bool) (ao bo : Option Addr) (ca cb : Nat) (l : List Int) (ha : ∀ w, sat w R → Reads32 w ao l) (hb : ∀ w, sat w R → Reads32 w bo l) (hn : l.length < 4611686018427387904) :
    Calls Try.prog 40 #[.agg #[.bool P, .slice ao l.length ca], .agg #[.bool P, .slice bo l.length cb]] w fun e w' => e = .returned (.bool true) ∧ sat w' R ∧ Below 0 w w' := by
  have h2 := ((hs.alloc (.cells #[.bool P, .slice ao l.length ca] 51)).alloc (.cells #[.bool P, .slice bo l.length cb] 51)).right.right
  have hb2 : Below 0 w ((w.alloc (.cells #[.bool P, .slice ao l.length ca] 51)).alloc (.cells #[.bool P, .slice bo l.length cb] 51)) := (Below.zero_alloc _ _).trans (Below.zero_alloc _ _)
  have hC := same_limbs _ ao bo ca cb l l (ha _ h2) (hb _ h2) hn hn
  rw [decide_eq_true (rfl : l = l)] at hC
  have HX := Lib.hid (And.intro h2 hb2)
  have q : (P == P) = true := by simp
  clear h2 hb2 hs ha hb
  go_enter Try.func40, Try.ntmps40
  go_wp2_with fail
  refine hC.mono ?_
  rintro e w' ⟨rfl, j, rfl⟩
  go_wp2_with fail
  go_ret
  exact ⟨rfl, HX.out.1.drewN j, HX.out.2.trans (drewN_below0 _ _)⟩
end Go.Proofs.Ytanjiecefioffaa

/- Same, SameAll of data that are numbers. -/
namespace Go.Proofs.Ytanjiecefioffaa
open Go.RowKit

set_option maxRecDepth 100000 in
theorem same_all_nil (w : World) : Calls Try.prog 43 #[.slice none 0 0, .slice none 0 0] w fun e w' => e = .returned (.bool true) ∧ w' = w := by
  go_enter Try.func43, Try.ntmps43
  go_wp2_with fail
  go_loopw [5] (fun i wr => i = .int .i64 0 ∧ wr = w) (fun _ _ => 0)
  case atStart => exact ⟨rfl, rfl⟩
  case round =>
    obtain ⟨rfl, rfl⟩ := hrel
    go_wp2_with fail
    go_ret
    exact ⟨rfl, rfl⟩
set_option maxRecDepth 100000 in
set_option maxHeartbeats 2000000 in
theorem same_numD {w : World} {R : HP} (hs : sat w R) (P : Bool) (ao bo : Option Addr) (ca cb : Nat) (l : List Int) (ha : ∀ w, sat w R → Reads32 w ao l) (hb : ∀ w, sat w R → Reads32 w bo l) (hn : l.length < 4611686018427387904) :
    Calls Try.prog 30 #[numD P ao l.length ca, numD P bo l.length cb] w fun e w' => e = .returned (.bool true) ∧ sat w' R ∧ Below 0 w w' := by
  have hA := (hs.alloc (.cells #[.int .i64 1, .int .i64 0, .bool P, .slice ao l.length ca, .string ⟨#[]⟩, .slice none 0 0, .slice none 0 0] 54)).alloc (.cells #[.int .i64 1, .int .i64 0, .bool P, .slice bo l.length cb, .string ⟨#[]⟩, .slice none 0 0, .slice none 0 0] 54)
  have hb2 : Below 0 w ((w.alloc (.cells #[.int .i64 1, .int .i64 0, .bool P, .slice ao l.length ca, .string ⟨#[]⟩, .slice none 0 0, .slice none 0 0] 54)).alloc (.cells #[.int .i64 1, .int .i64 0, .bool P, .slice bo l.length cb, .string ⟨#[]⟩, .slice none 0 0, .slice none 0 0] 54)) := (Below.zero_alloc _ _).trans (Below.zero_alloc _ _)
  rw [World.size_alloc] at hA
  have hC := same_num hA P ao bo ca cb l (fun w h => ha w h.right.right) (fun w h => hb w h.right.right) hn
  have HX := Lib.hid hb2
  clear hb2 hs ha hb hA
  unfold numD
  go_enter Try.func30, Try.ntmps30
  go_wp2_with fail
  refine hC.mono ?_
  rintro e w3 ⟨rfl, h3, hb3⟩
  have b5 := (h3.left.cell 5).trans (show _ = some (Value.slice none 0 0) from rfl)
  have b6 := (h3.left.cell 6).trans (show _ = some (Value.slice none 0 0) from rfl)
  have a5 := (h3.right.left.cell 5).trans (show _ = some (Value.slice none 0 0) from rfl)
  have a6 := (h3.right.left.cell 6).trans (show _ = some (Value.slice none 0 0) from rfl)
  have HY := Lib.hid (And.intro h3.right.right (HX.out.trans hb3))
  clear hC h3 hb3
  go_wp2_with fail
  refine (same_all_nil _).mono ?_
  rintro e w' ⟨rfl, rfl⟩
  go_wp2_with fail
  refine (same_all_nil _).mono ?_
  rintro e w' ⟨rfl, rfl⟩
  go_wp2_with fail
  go_ret
  exact ⟨rfl, HY.out.1, HY.out.2⟩
end Go.Proofs.Ytanjiecefioffaa

/- SameAll of two rows of numbers. -/
namespace Go.Proofs.Ytanjiecefioffaa
open Go.RowKit

/-- A row of data that are numbers can be read here. -/
def ItemsIn (R : HP) (ao : Option Addr) (l : List Item) : Prop := ∀ w, sat w R → ∀ (k : Nat) t, l[k]? = some t →
  (∃ b, ao = some ⟨b, 0, none⟩ ∧ ∀ (j : Nat) u, (itemC t)[j]? = some u → w.cell? ⟨b, k * 7 + j, none⟩ = some u) ∧ Reads32 w t.2.1 (limbsOf t.1.natAbs)
def SiRel (W : World) (R : HP) (n : Nat) (i : Value) (wr : World) : Prop := ∃ k : Nat, k ≤ n ∧ i = .int .i64 k ∧ sat wr R ∧ Below 0 W wr
set_option maxRecDepth 100000 in
set_option maxHeartbeats 2000000 in
theorem same_items {w : World} {R : HP} (hs : sat w R) (ao bo : Option Addr) (ca cb n : Nat) (xs ys : List Item) (hx : ItemsIn R ao xs) (hy : ItemsIn R bo ys) (hn : xs.length = n) (hv : xs.map (·.1) = ys.map (·.1)) (hb : n ≤ 20000)
    (hl : ∀ t ∈ xs, (limbsOf t.1.natAbs).length < 4611686018427387904) :
    Calls Try.prog 43 #[.slice ao n ca, .slice bo n cb] w fun e w' => e = .returned (.bool true) ∧ sat w' R ∧ Below 0 w w' := by
  have HX := Lib.hid (And.intro hs (And.intro hx (And.intro hy (And.intro hn (And.intro hv hl)))))
  clear hs hx hy hn hv hl
  go_enter Try.func43, Try.ntmps43
  go_wp2_with fail
  go_loopw [5] (SiRel w R n) (fun i _ => n - (intOf i).toNat)
  case atStart => exact ⟨0, Nat.zero_le _, rfl, HX.out.1, Below.refl _ _⟩
  case round =>
    obtain ⟨k, hk, rfl, hs, hb2⟩ := hrel
    by_cases hlt : k < n
    · obtain ⟨x, ex⟩ : ∃ x, xs[k]? = some x := ⟨_, List.getElem?_eq_getElem (by have := HX.out.2.2.2.1; omega)⟩
      have hlen : xs.length = ys.length := by have := congrArg List.length HX.out.2.2.2.2.1; simpa using this
      obtain ⟨y, ey⟩ : ∃ y, ys[k]? = some y := ⟨_, List.getElem?_eq_getElem (by have := HX.out.2.2.2.1; omega)⟩
      have hxy : x.1 = y.1 := by
        have := congrArg (·[k]?) HX.out.2.2.2.2.1
        simp only [List.getElem?_map, ex, ey, Option.map_some, Option.some.injEq] at this
        exact this
      obtain ⟨⟨bx, rfl, hcx⟩, _⟩ := HX.out.2.1 wr hs k x ex
      obtain ⟨⟨bY, rfl, hcy⟩, _⟩ := HX.out.2.2.1 wr hs k y ey
      have hS := fun m => same_numD (hs.drewN m) (decide (x.1 < 0)) x.2.1 y.2.1 x.2.2 y.2.2 (limbsOf x.1.natAbs) (fun w h => (HX.out.2.1 w h k x ex).2) (fun w h => by rw [hxy]; exact (HX.out.2.2.1 w h k y ey).2) (HX.out.2.2.2.2.2 x (List.mem_of_getElem? ex))
      unfold itemC at hcx hcy
      rw [← hxy] at hcy
      unfold numD at hS
      obtain ⟨nl, hnl⟩ : ∃ nl, (limbsOf x.1.natAbs).length = nl := ⟨_, rfl⟩
      obtain ⟨P, hP⟩ : ∃ P, decide (x.1 < 0) = P := ⟨_, rfl⟩
      rw [hnl, hP] at hcx hcy
      simp only [hnl, hP] at hS
      have x0 : wr.cell? ⟨bx, k * 7, none⟩ = some (.int .i64 1) := hcx 0 _ rfl
      have x1 : wr.cell? ⟨bx, k * 7 + 1, none⟩ = some (.int .i64 0) := hcx 1 _ rfl
      have x2 : wr.cell? ⟨bx, k * 7 + 2, none⟩ = some (.bool P) := hcx 2 _ rfl
      have x3 : wr.cell? ⟨bx, k * 7 + 3, none⟩ = some (.slice x.2.1 nl x.2.2) := hcx 3 _ rfl
      have x4 : wr.cell? ⟨bx, k * 7 + 4, none⟩ = some (.string ⟨#[]⟩) := hcx 4 _ rfl
      have x5 : wr.cell? ⟨bx, k * 7 + 5, none⟩ = some (.slice none 0 0) := hcx 5 _ rfl
      have x6 : wr.cell? ⟨bx, k * 7 + 6, none⟩ = some (.slice none 0 0) := hcx 6 _ rfl
      have y0 : wr.cell? ⟨bY, k * 7, none⟩ = some (.int .i64 1) := hcy 0 _ rfl
      have y1 : wr.cell? ⟨bY, k * 7 + 1, none⟩ = some (.int .i64 0) := hcy 1 _ rfl
      have y2 : wr.cell? ⟨bY, k * 7 + 2, none⟩ = some (.bool P) := hcy 2 _ rfl
      have y3 : wr.cell? ⟨bY, k * 7 + 3, none⟩ = some (.slice y.2.1 nl y.2.2) := hcy 3 _ rfl
      have y4 : wr.cell? ⟨bY, k * 7 + 4, none⟩ = some (.string ⟨#[]⟩) := hcy 4 _ rfl
      have y5 : wr.cell? ⟨bY, k * 7 + 5, none⟩ = some (.slice none 0 0) := hcy 5 _ rfl
      have y6 : wr.cell? ⟨bY, k * 7 + 6, none⟩ = some (.slice none 0 0) := hcy 6 _ rfl
      have HF := Lib.hid (And.intro hb2 hS)
      have hG : ∀ w', sat w' R → (w'.cell? ⟨bx, k * 7, none⟩ = some (.int .i64 1) ∧ w'.cell? ⟨bx, k * 7 + 1, none⟩ = some (.int .i64 0) ∧ w'.cell? ⟨bx, k * 7 + 2, none⟩ = some (.bool P) ∧ w'.cell? ⟨bx, k * 7 + 3, none⟩ = some (.slice x.2.1 nl x.2.2) ∧ w'.cell? ⟨bx, k * 7 + 4, none⟩ = some (.string ⟨#[]⟩) ∧ w'.cell? ⟨bx, k * 7 + 5, none⟩ = some (.slice none 0 0) ∧ w'.cell? ⟨bx, k * 7 + 6, none⟩ = some (.slice none 0 0) ∧ w'.cell? ⟨bY, k * 7, none⟩ = some (.int .i64 1) ∧ w'.cell? ⟨bY, k * 7 + 1, none⟩ = some (.int .i64 0) ∧ w'.cell? ⟨bY, k * 7 + 2, none⟩ = some (.bool P) ∧ w'.cell? ⟨bY, k * 7 + 3, none⟩ = some (.slice y.2.1 nl y.2.2) ∧ w'.cell? ⟨bY, k * 7 + 4, none⟩ = some (.string ⟨#[]⟩) ∧ w'.cell? ⟨bY, k * 7 + 5, none⟩ = some (.slice none 0 0) ∧ w'.cell? ⟨bY, k * 7 + 6, none⟩ = some (.slice none 0 0)) := by
        intro w' h
        obtain ⟨⟨b1, e1, hc1⟩, _⟩ := HX.out.2.1 w' h k x ex
        obtain ⟨⟨b2, e2, hc2⟩, _⟩ := HX.out.2.2.1 w' h k y ey
        cases e1; cases e2
        unfold itemC at hc1 hc2
        rw [← hxy, hnl, hP] at hc2
        rw [hnl, hP] at hc1
        exact ⟨hc1 0 _ rfl, hc1 1 _ rfl, hc1 2 _ rfl, hc1 3 _ rfl, hc1 4 _ rfl, hc1 5 _ rfl, hc1 6 _ rfl, hc2 0 _ rfl, hc2 1 _ rfl, hc2 2 _ rfl, hc2 3 _ rfl, hc2 4 _ rfl, hc2 5 _ rfl, hc2 6 _ rfl⟩
      have HG := Lib.hid hG
      clear hG hnl hP
      clear hs hb2 hS hcx hcy ex ey hxy hlen
      go_wp2_with fail
      go_region_held3 (fun w' => w'.cell? ⟨bx, k * 7, none⟩ = some (.int .i64 1) ∧ w'.cell? ⟨bx, k * 7 + 1, none⟩ = some (.int .i64 0) ∧ w'.cell? ⟨bx, k * 7 + 2, none⟩ = some (.bool P) ∧ w'.cell? ⟨bx, k * 7 + 3, none⟩ = some (.slice x.2.1 nl x.2.2) ∧ w'.cell? ⟨bx, k * 7 + 4, none⟩ = some (.string ⟨#[]⟩) ∧ w'.cell? ⟨bx, k * 7 + 5, none⟩ = some (.slice none 0 0) ∧ w'.cell? ⟨bx, k * 7 + 6, none⟩ = some (.slice none 0 0) ∧ w'.cell? ⟨bY, k * 7, none⟩ = some (.int .i64 1) ∧ w'.cell? ⟨bY, k * 7 + 1, none⟩ = some (.int .i64 0) ∧ w'.cell? ⟨bY, k * 7 + 2, none⟩ = some (.bool P) ∧ w'.cell? ⟨bY, k * 7 + 3, none⟩ = some (.slice y.2.1 nl y.2.2) ∧ w'.cell? ⟨bY, k * 7 + 4, none⟩ = some (.string ⟨#[]⟩) ∧ w'.cell? ⟨bY, k * 7 + 5, none⟩ = some (.slice none 0 0) ∧ w'.cell? ⟨bY, k * 7 + 6, none⟩ = some (.slice none 0 0)) (first | exact k9 | go_keep)
        (first
          | (go_at_call 30; refine (HF.out.2 1).mono ?_; rintro e w3 ⟨rfl, h3, hb3⟩; have k9 := HG.out _ h3))
      have HQ := Lib.hid (And.intro h3 ((HF.out.1.trans (drewN_below0 wr 1)).trans hb3))
      clear k9 x0 x1 x2 x3 x4 x5 x6 y0 y1 y2 y3 y4 y5 y6
      clear h3 hb3
      go_wp2_with fail
      go_roundw
      case rel => exact ⟨k + 1, by omega, by go_num, HQ.out.1, HQ.out.2⟩
      case measure => simp [intOf]; omega
    · obtain rfl : k = n := by omega
      have hge : (k : Int) ≤ k := by omega
      have HF := Lib.hid (And.intro hs hb2)
      clear hs hb2
      go_wp2_with fail
      go_ret
      exact ⟨rfl, HF.out.1, HF.out.2⟩
end Go.Proofs.Ytanjiecefioffaa

/- What lies in a row of numbers' data, with their limbs beside it, is read. -/
namespace Go.Proofs.Ytanjiecefioffaa
open Go.RowKit

theorem itemsC_get : ∀ (l : List Item) (k : Nat) (t : Item), l[k]? = some t → ∀ (j : Nat) u, (itemC t)[j]? = some u → (itemsC l)[k * 7 + j]? = some u
  | [], k, t, h, _, _, _ => by simp at h
  | x :: l, 0, t, h, j, u, hu => by
    simp at h
    subst h
    unfold itemsC
    rw [List.flatMap_cons, Nat.zero_mul, Nat.zero_add, List.getElem?_append_left (List.getElem?_eq_some_iff.1 hu).1]
    exact hu
  | x :: l, k + 1, t, h, j, u, hu => by
    rw [List.getElem?_cons_succ] at h
    have ih := itemsC_get l k t h j u hu
    unfold itemsC at ih ⊢
    rw [List.flatMap_cons, List.getElem?_append_right (by show 7 ≤ _; omega)]
    rw [show (k + 1) * 7 + j - (itemC x).length = k * 7 + j by show (k + 1) * 7 + j - 7 = _; omega]
    exact ih
theorem mags_get : ∀ (l : List Item) (k : Nat) (t : Item) {R : HP} {w : World}, l[k]? = some t → sat w (magsP l * R) → ∃ R', sat w (magP t * R')
  | [], k, t, R, w, h, _ => by simp at h
  | x :: l, 0, t, R, w, h, hs => by
    simp at h
    subst h
    exact ⟨magsP l * R, (hs : sat w (magP x * magsP l * R)).perm (by ac_rfl)⟩
  | x :: l, k + 1, t, R, w, h, hs => by
    rw [List.getElem?_cons_succ] at h
    exact mags_get l k t (R := magP x * R) h ((hs : sat w (magP x * magsP l * R)).perm (by ac_rfl))
theorem items_in {ao : Option Addr} {n c : Nat} {items : List Item} (hl : items.length = n) (R : HP) : ItemsIn (own 54 7 (.slice ao n c) n (itemsC items) * (magsP items * R)) ao items := by
  intro w hs k t ht
  have hk := (List.getElem?_eq_some_iff.1 ht).1
  refine ⟨?_, ?_⟩
  · obtain ⟨b, cap, hb, _, _, hr⟩ := hs.own_some (by omega)
    cases hb
    exact ⟨b, rfl, fun j u hu => hr.row_cell (itemsC_get items k t ht j u hu)⟩
  · obtain ⟨R', hm⟩ := mags_get items k t ht hs.right
    intro j x hx
    have hj := (List.getElem?_eq_some_iff.1 hx).1
    have hm' : sat w (own 70 1 (.slice t.2.1 (limbsOf t.1.natAbs).length t.2.2) (limbsOf t.1.natAbs).length ((limbsOf t.1.natAbs).map u32v) * R') := hm
    obtain ⟨b, cap, hb, _, _, hr⟩ := hm'.own_some (by omega)
    simp only [Value.slice.injEq] at hb
    rw [hb.1]
    refine ⟨_, rfl, ?_⟩
    have hadd : (⟨b, 0, none⟩ : Addr).add j = ⟨b, j, none⟩ := by unfold Addr.add; split <;> simp_all
    rw [hadd]
    exact hr.row_cell (by rw [List.getElem?_map, hx]; rfl)
end Go.Proofs.Ytanjiecefioffaa
