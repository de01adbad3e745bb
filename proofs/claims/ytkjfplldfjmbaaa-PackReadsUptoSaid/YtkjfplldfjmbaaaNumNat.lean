/- Limbs, plainly. nat.trim. nat.add, nat.Add. nat.Cmp, nat.Bits. nat.Bits. nat.Sub. -/
import Derived.Test.YtkjfplldfjmbaaaSep5
import Derived.Test.YtkjfplldfjmbaaaRowWords
import Derived.Test.YtkjfplldfjmbaaaSaysW
/- Limbs, plainly. -/
namespace Go.Proofs.Ytkjfplldfjmbaaa
open Go.RowKit

def Limbs (l : List Int) : Prop := ∀ x ∈ l, 0 ≤ x ∧ x < 4294967296
/-- The number that limbs say. -/
def valL : List Int → Nat
  | [] => 0
  | x :: l => x.toNat + 4294967296 * valL l
/-- The canonical limbs of a number. -/
def limbsOf (v : Nat) : List Int := if h : v = 0 then [] else ((v % 4294967296 : Nat) : Int) :: limbsOf (v / 4294967296)
termination_by v
decreasing_by omega

theorem limbsOf_zero : limbsOf 0 = [] := by unfold limbsOf; simp
theorem limbsOf_pos {v : Nat} (h : v ≠ 0) : limbsOf v = ((v % 4294967296 : Nat) : Int) :: limbsOf (v / 4294967296) := by
  rw [limbsOf]; simp [h]
theorem limbsOf_limbs (v : Nat) : Limbs (limbsOf v) := by
  induction v using Nat.strongRecOn with
  | ind v ih =>
    by_cases h : v = 0
    · subst h; rw [limbsOf_zero]; intro x hx; simp at hx
    · rw [limbsOf_pos h]
      intro x hx
      rcases List.mem_cons.1 hx with rfl | hx
      · omega
      · exact ih (v / 4294967296) (by omega) x hx
theorem valL_limbsOf (v : Nat) : valL (limbsOf v) = v := by
  induction v using Nat.strongRecOn with
  | ind v ih =>
    by_cases h : v = 0
    · subst h; rw [limbsOf_zero]; rfl
    · rw [limbsOf_pos h, valL, ih (v / 4294967296) (by omega)]
      omega
theorem limbsOf_nil {v : Nat} : limbsOf v = [] ↔ v = 0 := by
  constructor
  · intro h; rw [← valL_limbsOf v, h]; rfl
  · rintro rfl; exact limbsOf_zero
/-- Limbs without a 0 at their end are canonical. -/
theorem limbsOf_val : ∀ {l : List Int}, Limbs l → (l = [] ∨ l.getD (l.length - 1) 0 ≠ 0) → limbsOf (valL l) = l
  | [], _, _ => limbsOf_zero
  | x :: l, h, he => by
    have hx := h x (by simp)
    have hl : Limbs l := fun y hy => h y (by simp [hy])
    have he' : l = [] ∨ l.getD (l.length - 1) 0 ≠ 0 := by
      cases l with
      | nil => exact .inl rfl
      | cons y l => right; simpa using he
    have ih := limbsOf_val hl he'
    have hne : valL (x :: l) ≠ 0 := by
      rcases he' with rfl | he'
      · simp at he
        simp only [valL]
        omega
      · intro h0
        simp only [valL] at h0
        have h1 : valL l = 0 := by omega
        rw [h1, limbsOf_zero] at ih
        rw [← ih] at he'
        simp at he'
    rw [limbsOf_pos hne]
    simp only [valL]
    rw [show (x.toNat + 4294967296 * valL l) % 4294967296 = x.toNat by omega, show (x.toNat + 4294967296 * valL l) / 4294967296 = valL l by omega, ih]
    congr 1
    omega
theorem valL_append (l m : List Int) : valL (l ++ m) = valL l + 4294967296 ^ l.length * valL m := by
  induction l with
  | nil => simp [valL]
  | cons x l ih =>
    simp only [List.cons_append, valL, ih, List.length_cons]
    rw [Nat.pow_succ, Nat.mul_add, ← Nat.mul_assoc, Nat.mul_comm 4294967296 (4294967296 ^ l.length), Nat.add_assoc]
theorem valL_lt {l : List Int} (h : Limbs l) : valL l < 4294967296 ^ l.length := by
  induction l with
  | nil => simp [valL]
  | cons x l ih =>
    have hx := h x (by simp)
    have := ih fun y hy => h y (by simp [hy])
    simp only [valL, List.length_cons, Nat.pow_succ]
    have h2 : valL l + 1 ≤ 4294967296 ^ l.length := this
    have h3 := Nat.mul_le_mul_right 4294967296 h2
    omega
theorem valL_zeros {l : List Int} (h : ∀ x ∈ l, x = 0) : valL l = 0 := by
  induction l with
  | nil => rfl
  | cons x l ih => simp only [valL]; rw [ih fun y hy => h y (by simp [hy]), h x (by simp)]; rfl
/-- What is left when the zeros at the end are struck. -/
theorem trim_take {l : List Int} {n : Nat} (h : Limbs l) (hn : n ≤ l.length) (hz : ∀ j x, n ≤ j → l[j]? = some x → x = 0) (he : n = 0 ∨ l.getD (n - 1) 0 ≠ 0) : l.take n = limbsOf (valL l) := by
  have hv : valL l = valL (l.take n) := by
    have h1 := valL_append (l.take n) (l.drop n)
    rw [List.take_append_drop] at h1
    rw [h1, valL_zeros (l := l.drop n), Nat.mul_zero, Nat.add_zero]
    intro x hx
    obtain ⟨j, hj⟩ := List.mem_iff_getElem?.1 hx
    rw [List.getElem?_drop] at hj
    exact hz _ x (by omega) hj
  rw [hv]
  refine (limbsOf_val (fun x hx => h x (List.mem_of_mem_take hx)) ?_).symm
  rcases he with rfl | he
  · left; rfl
  · right
    rw [List.length_take, Nat.min_eq_left hn, List.getD_eq_getElem?_getD, List.getElem?_take]
    rcases Nat.eq_zero_or_pos n with e | e
    · exfalso
      subst e
      have := hz 0
      rw [List.getD_eq_getElem?_getD] at he
      cases hq : l[0]? with
      | none => rw [hq] at he; simp at he
      | some x => rw [show (0 : Nat) - 1 = 0 from rfl, hq] at he; exact he (this x (Nat.le_refl _) hq)
    · rw [if_pos (by omega), ← List.getD_eq_getElem?_getD]; exact he
theorem limbsOf_len_le {l : List Int} (h : Limbs l) : (limbsOf (valL l)).length ≤ l.length := by
  -- strike zeros
  have key : ∀ n, n ≤ l.length → (∀ j x, n ≤ j → l[j]? = some x → x = 0) → (limbsOf (valL l)).length ≤ n := by
    intro n
    induction n with
    | zero => intro h1 h2; rw [← trim_take h h1 h2 (.inl rfl)]; simp
    | succ n ih =>
      intro h1 h2
      by_cases hz : l.getD n 0 = 0
      · have := ih (by omega) (fun j x hj hx => by
          by_cases e : j = n
          · subst e; rw [List.getD_eq_getElem?_getD, hx] at hz; exact hz
          · exact h2 j x (by omega) hx)
        omega
      · rw [← trim_take h h1 h2 (.inr (by simpa using hz)), List.length_take]; omega
  exact key l.length (Nat.le_refl _) (fun j x hj hx => by rw [List.getElem?_eq_none (by omega)] at hx; cases hx)
theorem limbsOf_take {l : List Int} (h : Limbs l) : l.take (limbsOf (valL l)).length = limbsOf (valL l) := by
  have key : ∀ n, n ≤ l.length → (∀ j x, n ≤ j → l[j]? = some x → x = 0) → ∃ m, m ≤ l.length ∧ l.take m = limbsOf (valL l) := by
    intro n
    induction n with
    | zero => intro h1 h2; exact ⟨0, h1, trim_take h h1 h2 (.inl rfl)⟩
    | succ n ih =>
      intro h1 h2
      by_cases hz : l.getD n 0 = 0
      · exact ih (by omega) (fun j x hj hx => by
          by_cases e : j = n
          · subst e; rw [List.getD_eq_getElem?_getD, hx] at hz; exact hz
          · exact h2 j x (by omega) hx)
      · exact ⟨n + 1, h1, trim_take h h1 h2 (.inr (by simpa using hz))⟩
  obtain ⟨m, hm, ht⟩ := key l.length (Nat.le_refl _) (fun j x hj hx => by rw [List.getElem?_eq_none (by omega)] at hx; cases hx)
  have hl : (limbsOf (valL l)).length = m := by rw [← ht, List.length_take]; omega
  rw [hl]; exact ht
theorem limbsOf_last (v : Nat) (h : v ≠ 0) : (limbsOf v).getD ((limbsOf v).length - 1) 0 ≠ 0 := by
  induction v using Nat.strongRecOn with
  | ind v ih =>
    rw [limbsOf_pos h]
    by_cases h2 : v / 4294967296 = 0
    · rw [h2, limbsOf_zero]
      simp
      omega
    · have := ih (v / 4294967296) (by omega) h2
      have hne : limbsOf (v / 4294967296) ≠ [] := fun e => h2 (limbsOf_nil.1 e)
      cases hl : limbsOf (v / 4294967296) with
      | nil => exact absurd hl hne
      | cons y l =>
        rw [hl] at this
        simpa using this
end Go.Proofs.Ytkjfplldfjmbaaa

/- nat.trim. -/
namespace Go.Proofs.Ytkjfplldfjmbaaa
open Go.RowKit

abbrev u32v (x : Int) : Value := .int .u32 x
/-- Limbs that can be read here. -/
def LimbsW (w : World) (ao : Option Addr) (l : List Int) : Prop := ∀ (j : Nat) x, l[j]? = some x → ∃ a, ao = some a ∧ w.cell? (a.add j) = some (.int .u32 x)
def TrimRel (w : World) (l : List Int) (i : Value) (wr : World) : Prop :=
  ∃ n m : Nat, n ≤ l.length ∧ i = .int .i64 n ∧ wr = w.drewN m ∧ ∀ j x, n ≤ j → l[j]? = some x → x = 0

set_option maxHeartbeats 400000 in
theorem trim_any (w : World) (ao : Option Addr) (cap : Nat) (l : List Int) (hx : LimbsW w ao l) (hl : Limbs l) (hc : l.length ≤ cap) (hn : l.length ≤ 70368744177664) :
    Calls Try.prog 72 #[.slice ao l.length cap] w (Says (.slice ao (limbsOf (valL l)).length cap) w) := by
  go_enter Try.func72, Try.ntmps72
  go_wp2_with fail
  go_loopw [3] (TrimRel w l) (fun i _ => (intOf i).toNat)
  case atStart => exact ⟨l.length, 0, Nat.le_refl _, rfl, rfl, fun j x hj hx => by rw [List.getElem?_eq_none hj] at hx; cases hx⟩
  case round =>
    obtain ⟨n, m, hnl, rfl, rfl, hz⟩ := hrel
    cases n with
    | zero =>
      have ht := trim_take hl (Nat.zero_le _) hz (.inl rfl)
      have HT := Lib.hid ht
      clear ht hz
      have b1 : decide (((0 : Nat) : Int) > 0) = false := by decide
      go_wp2_with fail
      go_ret
      refine ⟨?_, m, rfl⟩
      rw [← HT.out]; rfl
    | succ n =>
      obtain ⟨x, ex⟩ : ∃ x, l[n]? = some x := ⟨_, List.getElem?_eq_getElem (by omega)⟩
      obtain ⟨a, rfl, hcx⟩ := hx n x ex
      have hcx' : (w.drewN m).cell? (a.add n) = some (.int .u32 x) := hcx
      have b1 : decide (((n + 1 : Nat) : Int) > 0) = true := by simp
      have g1 : IntKind.i64.wrap (((n + 1 : Nat) : Int) - 1) = n := by rw [IntWalk.i64_in _ (by omega)]; omega
      by_cases h0 : x = 0
      · have b2 : (x == 0) = true := by simp [h0]
        have HZ := Lib.hid (And.intro hz (And.intro ex h0))
        clear hz ex h0
        go_wp2_with fail
        go_roundw
        case rel =>
          refine ⟨n, m, by omega, by go_num, rfl, ?_⟩
          intro j y hj hy
          by_cases e : j = n
          · subst e; rw [HZ.out.2.1] at hy; cases hy; exact HZ.out.2.2
          · exact HZ.out.1 j y (by omega) hy
        case measure => simp [intOf]
      · have b2 : (x == 0) = false := by simp [h0]
        have ht := trim_take hl hnl hz (.inr (by rw [Nat.add_sub_cancel, List.getD_eq_getElem?_getD, ex]; exact h0))
        have hlen : (limbsOf (valL l)).length = n + 1 := by rw [← ht, List.length_take]; omega
        have HT := Lib.hid hlen
        clear ht hz hlen ex h0
        go_wp2_with fail
        go_ret
        refine ⟨?_, m, rfl⟩
        rw [HT.out]
        rfl
theorem sat.row_prefix {w : World} {R : HP} {e sz b cap : Nat} {xs : List Value} (m : Nat) (h : sat w (row e sz b cap xs * R)) : sat w (row e sz b cap (xs.take m) * R) := by
  obtain ⟨cur, hs, h1, h2, h3, h4⟩ := h.open_row
  refine hs.shut_row h1 (by rw [List.length_take]; omega) h3 ?_
  rw [← h4, List.take_take, List.length_take, ← h4]
  simp only [List.length_take]
  congr 1
  omega
/-- What is trimmed of a row of the call's own. -/
theorem trim_own {w : World} {R : HP} {b cap : Nat} {l : List Int} (hl : Limbs l) (hc : l.length ≤ cap) (h : sat w (row 66 1 b cap (l.map u32v) * R)) :
    sat w (own 66 1 (.slice (some ⟨b, 0, none⟩) (limbsOf (valL l)).length cap) (limbsOf (valL l)).length ((limbsOf (valL l)).map u32v) * R) := by
  have h1 := h.row_prefix (limbsOf (valL l)).length
  rw [← List.map_take, limbsOf_take hl] at h1
  exact sat.shut_own (by simp) (Nat.le_trans (limbsOf_len_le hl) hc) h1
theorem limbs_row {w : World} {R : HP} {b cap : Nat} {l : List Int} (h : sat w (row 66 1 b cap (l.map u32v) * R)) : LimbsW w (some ⟨b, 0, none⟩) l := by
  intro j x hx
  refine ⟨_, rfl, ?_⟩
  have ha : ((⟨b, 0, none⟩ : Addr).add j) = ⟨b, j, none⟩ := by unfold Addr.add; split <;> simp_all
  rw [ha]
  exact h.row_cell (by rw [List.getElem?_map, hx]; rfl)
theorem limbs_own {w : World} {R : HP} {v : Value} {n c : Nat} {ao : Option Addr} {l : List Int} (hv : v = .slice ao n c) (h : sat w (own 66 1 v n (l.map u32v) * R)) : LimbsW w ao l := by
  intro j x hx
  have hj := (List.getElem?_eq_some_iff.1 hx).1
  have hl : l.length = n := by have := h.open_own.1; simpa using this
  obtain ⟨b, c, hb, _, _, hr⟩ := h.own_some (by omega)
  rw [hv] at hb
  simp only [Value.slice.injEq] at hb
  obtain ⟨rfl, _⟩ := hb
  exact limbs_row hr j x hx
end Go.Proofs.Ytkjfplldfjmbaaa

/- nat.add, nat.Add. -/
namespace Go.Proofs.Ytkjfplldfjmbaaa
open Go.RowKit

def AddRel (W : World) (bo n : Nat) (a b : List Int) (R : HP) (c i : Value) (wr : World) : Prop :=
  ∃ (k : Nat) (cv : Int) (s : List Int), k ≤ a.length ∧ i = .int .i64 k ∧ c = .int .u64 cv ∧ 0 ≤ cv ∧ cv ≤ 1 ∧ s.length = k ∧ Limbs s ∧ valL s + 4294967296 ^ k * cv.toNat = valL (a.take k) + valL (b.take k) ∧
    sat wr (row 66 1 bo n ((s ++ List.replicate (n - k) 0).map u32v) * R) ∧ Below 0 W wr
theorem info_u32 : (Try.prog.info? 66).map (fun i => (i.zero, i.size, i.bytes)) = some (some (.int .u32 0), 1, 4) := by kernel_rfl
theorem valL_snoc (l : List Int) (x : Int) : valL (l ++ [x]) = valL l + 4294967296 ^ l.length * x.toNat := by
  rw [valL_append]; simp [valL]
theorem valL_take (l : List Int) (k : Nat) (x : Int) (hx : l[k]? = some x) : valL (l.take (k + 1)) = valL (l.take k) + 4294967296 ^ k * x.toNat := by
  have hk := (List.getElem?_eq_some_iff.1 hx).1
  rw [List.take_add_one, hx]
  show valL (l.take k ++ [x]) = _
  rw [valL_snoc, List.length_take, Nat.min_eq_left (by omega)]
theorem row_set_next {n k : Nat} (f : Int → Value) (s : List Int) (v : Int) (hs : s.length = k) (hk : k < n) :
    ((s ++ List.replicate (n - k) 0).map f).set k (f v) = ((s ++ [v]) ++ List.replicate (n - (k + 1)) 0).map f := by
  rw [List.map_append, List.set_append_right _ _ (by simp [hs]), List.length_map, hs, Nat.sub_self, show n - k = (n - (k + 1)) + 1 by omega, List.replicate_succ, List.map_cons, List.set_cons_zero]
  simp
theorem add_digit (P : Nat) {va vb vs c x y t : Nat} (h : vs + P * c = va + vb) (ht : t = c + x + y) : vs + P * (t % 4294967296) + P * 4294967296 * (t / 4294967296) = va + P * x + (vb + P * y) := by
  have h1 : P * (t % 4294967296) + P * 4294967296 * (t / 4294967296) = P * t := by
    rw [Nat.mul_assoc, ← Nat.mul_add]
    congr 1
    omega
  rw [Nat.add_assoc, h1, ht, Nat.mul_add, Nat.mul_add]
  omega

set_option maxRecDepth 100000 in
set_option maxHeartbeats 1000000 in
theorem nat_add {w : World} {R : HP} (hs : sat w R) (ao bo : Option Addr) (ca cb : Nat) (a b : List Int) (ha : ∀ w, sat w R → LimbsW w ao a) (hb : ∀ w, sat w R → LimbsW w bo b) (la : Limbs a) (lb : Limbs b) (na : a.length ≤ 35184372087808) (nb : b.length ≤ 35184372087808) :
    Calls Try.prog 70 #[.slice ao a.length ca, .slice bo b.length cb] w fun e w' => ∃ v, e = .returned v ∧ sat w' (own 66 1 v (limbsOf (valL a + valL b)).length ((limbsOf (valL a + valL b)).map u32v) * R) ∧ Below 0 w w' := by
  obtain ⟨i0, hi, hz0, hz1, hz2⟩ := info_parts info_u32
  have H1 := Lib.hid (And.intro hi (And.intro hz0 (And.intro hz1 hz2)))
  clear hi hz0 hz1 hz2
  by_cases hlt : a.length < b.length
  · have b1 : decide ((a.length : Int) < (b.length : Int)) = true := by simp; omega
    have g1 : IntKind.i64.wrap ((b.length : Int) + 1) = b.length + 1 := IntWalk.i64_in _ (by omega)
    have HE := Lib.hid (And.intro hb ha)
    clear ha hb
    go_enter Try.func70, Try.ntmps70
    go_wp2_with (at_make; refine halt ?_)
    refine goon ?_
    obtain ⟨hi, hz0, hz1, hz2⟩ := H1.out
    refine wpList_make_sat rfl 55 (.tmp 18) (.tmp 18) rfl 66 i0 (.int .u32 0) 4 Try.underlying55 hi hz0 hz1 hz2 rfl .i64 .i64 ((b.length : Int) + 1) R rfl rfl ?_ hs (by omega) (by omega) (by omega)
    clear hi hz0 hz1 hz2
    intro bo' w2 hs2 hb2
    rw [show ((b.length : Int) + 1).toNat = b.length + 1 by omega] at hs2 ⊢
    have hs2' : sat w2 (row 66 1 bo' (b.length + 1) ((([] : List Int) ++ List.replicate (b.length + 1 - 0) 0).map u32v) * R) := hs2.perm (by simp only [List.nil_append, Nat.sub_zero, List.map_replicate])
    have HB := Lib.hid (And.intro hs2' hb2)
    clear hs2 hb2 hs2'
    go_wp2_with fail
    go_loopw [6, 22] (AddRel w bo' (b.length + 1) b a R) (fun _ i _ => b.length - (intOf i).toNat)
    case atStart => exact ⟨0, 0, [], Nat.zero_le _, rfl, rfl, by decide, by decide, rfl, fun x hx => by simp at hx, by simp [valL], HB.out.1, HB.out.2⟩
    case round =>
      clear HB
      obtain ⟨k, cv, s, hk, rfl, rfl, hc0, hc1, hsl, hsL, hval, hs3, hb3⟩ := hrel
      by_cases hkl : k < b.length
      · obtain ⟨x, ex⟩ : ∃ x, b[k]? = some x := ⟨_, List.getElem?_eq_getElem hkl⟩
        obtain ⟨x0, x1⟩ := lb x (List.mem_of_getElem? ex)
        obtain ⟨aa, rfl, hcx⟩ := HE.out.1 wr hs3.right k x ex
        have hcell := hs3.row_cell (j := k) (v := .int .u32 0) (by rw [List.map_append, List.getElem?_append_right (by simp [hsl]), List.length_map, hsl, Nat.sub_self, List.getElem?_map, List.getElem?_replicate, if_pos (by omega)]; rfl)
        have hfr := hs3.row_frozen k
        have w1 : IntKind.u64.wrap x = x := by rw [IntKind.wrap_u64]; omega
        have w2 : IntKind.u64.wrap (cv + x) = cv + x := by rw [IntKind.wrap_u64]; omega
        have HX := Lib.hid (And.intro ex (And.intro hval (And.intro hs3 (And.intro hb3 hsL))))
        clear ex hval hs3 hb3 hsL
        by_cases hkb : k < a.length
        · obtain ⟨y, ey⟩ : ∃ y, a[k]? = some y := ⟨_, List.getElem?_eq_getElem hkb⟩
          obtain ⟨y0, y1⟩ := la y (List.mem_of_getElem? ey)
          obtain ⟨ab, rfl, hcy⟩ := HE.out.2 wr HX.out.2.2.1.right k y ey
          have w3 : IntKind.u64.wrap y = y := by rw [IntKind.wrap_u64]; omega
          have w4 : IntKind.u64.wrap (cv + x + y) = cv + x + y := by rw [IntKind.wrap_u64]; omega
          obtain ⟨t, ht⟩ : ∃ t, cv + x + y = t := ⟨_, rfl⟩
          have ht0 : 0 ≤ t := by omega
          have ht1 : t < 8589934592 := by omega
          have w5 : IntKind.u32.wrap t = t % 4294967296 := rfl
          have HT := Lib.hid (And.intro ht ey)
          rw [ht] at w4
          clear ey
          go_wp2_with fail
          go_roundw
          case rel =>
            have hs5 := HX.out.2.2.1.row_set k (u32v (t % 4294967296))
            rw [row_set_next u32v s (t % 4294967296) hsl (by omega)] at hs5
            refine ⟨k + 1, t / 4294967296, s ++ [t % 4294967296], by omega, by go_num, rfl, by omega, by omega, by simp [hsl], ?_, ?_, hs5, HX.out.2.2.2.1.setCell (p := ⟨bo', k, none⟩) (Nat.zero_le _) _⟩
            · intro z hz
              rcases List.mem_append.1 hz with hz | hz
              · exact HX.out.2.2.2.2 z hz
              · simp at hz; subst hz; omega
            · rw [valL_snoc, hsl, valL_take b k x HX.out.1, valL_take a k y HT.out.2, Nat.pow_succ]
              have := add_digit (4294967296 ^ k) HX.out.2.1 (x := x.toNat) (y := y.toNat) (t := t.toNat) (by have := HT.out.1; omega)
              rw [show (t % 4294967296).toNat = t.toNat % 4294967296 by omega, show (t / 4294967296).toNat = t.toNat / 4294967296 by omega]
              exact this
          case measure => simp [intOf]; omega
        · obtain ⟨t, ht⟩ : ∃ t, cv + x = t := ⟨_, rfl⟩
          have ht0 : 0 ≤ t := by omega
          have ht1 : t < 8589934592 := by omega
          have w5 : IntKind.u32.wrap t = t % 4294967296 := rfl
          have HT := Lib.hid ht
          rw [ht] at w2
          go_wp2_with fail
          go_roundw
          case rel =>
            have hs5 := HX.out.2.2.1.row_set k (u32v (t % 4294967296))
            rw [row_set_next u32v s (t % 4294967296) hsl (by omega)] at hs5
            refine ⟨k + 1, t / 4294967296, s ++ [t % 4294967296], by omega, by go_num, rfl, by omega, by omega, by simp [hsl], ?_, ?_, hs5, HX.out.2.2.2.1.setCell (p := ⟨bo', k, none⟩) (Nat.zero_le _) _⟩
            · intro z hz
              rcases List.mem_append.1 hz with hz | hz
              · exact HX.out.2.2.2.2 z hz
              · simp at hz; subst hz; omega
            · rw [valL_snoc, hsl, valL_take b k x HX.out.1, List.take_of_length_le (l := a) (show a.length ≤ k + 1 by omega), Nat.pow_succ]
              have h6 := HX.out.2.1
              rw [List.take_of_length_le (l := a) (show a.length ≤ k by omega)] at h6
              have := add_digit (4294967296 ^ k) h6 (x := x.toNat) (y := 0) (t := t.toNat) (by have := HT.out; omega)
              rw [Nat.mul_zero, Nat.add_zero] at this
              rw [show (t % 4294967296).toNat = t.toNat % 4294967296 by omega, show (t / 4294967296).toNat = t.toNat / 4294967296 by omega]
              exact this
          case measure => simp [intOf]; omega
      · obtain rfl : k = b.length := by omega
        have hge : (b.length : Int) ≤ b.length := by omega
        rw [show b.length + 1 - b.length = 1 by omega] at hs3
        have hcell := hs3.row_cell (j := b.length) (v := .int .u32 0) (by rw [List.map_append, List.getElem?_append_right (by simp [hsl]), List.length_map, hsl, Nat.sub_self]; rfl)
        have hfr := hs3.row_frozen b.length
        have w5 : IntKind.u32.wrap cv = cv := by rw [show IntKind.u32.wrap cv = cv % 4294967296 from rfl]; omega
        have hs5 := hs3.row_set b.length (u32v cv)
        have hrs := row_set_next (n := b.length + 1) u32v s cv hsl (by omega)
        rw [show b.length + 1 - b.length = 1 by omega, Nat.sub_self, List.replicate_zero, List.append_nil] at hrs
        rw [hrs] at hs5
        have hL : Limbs (s ++ [cv]) := by
          intro z hz
          rcases List.mem_append.1 hz with hz | hz
          · exact hsL z hz
          · simp at hz; subst hz; omega
        have hv : valL (s ++ [cv]) = valL a + valL b := by
          rw [valL_snoc, hsl, hval, List.take_of_length_le (Nat.le_refl _), List.take_of_length_le (by omega)]; omega
        have hlen : (s ++ [cv]).length = b.length + 1 := by simp [hsl]
        have hT := trim_any (wr.setCell ⟨bo', b.length, none⟩ (u32v cv)) (some ⟨bo', 0, none⟩) (b.length + 1) (s ++ [cv]) (limbs_row hs5) hL (by omega) (by omega)
        have hO := trim_own hL (by omega) hs5
        rw [hv] at hT hO
        rw [hlen] at hT
        have HF := Lib.hid (And.intro hO (hb3.setCell (p := ⟨bo', b.length, none⟩) (Nat.zero_le _) (u32v cv)))
        clear hs3 hs5 hL hv hlen hO hb3 hval hsL HE
        go_wp2_with fail
        with_reducible refine hT.mono ?_
        rintro e w' ⟨rfl, j, rfl⟩
        go_wp2_with fail
        go_ret
        exact ⟨_, rfl, HF.out.1.drewN j, HF.out.2.trans (drewN_below0 _ _)⟩
  · have b1 : decide ((a.length : Int) < (b.length : Int)) = false := by simp; omega
    have g1 : IntKind.i64.wrap ((a.length : Int) + 1) = a.length + 1 := IntWalk.i64_in _ (by omega)
    have HE := Lib.hid (And.intro ha hb)
    clear ha hb
    go_enter Try.func70, Try.ntmps70
    go_wp2_with (at_make; refine halt ?_)
    refine goon ?_
    obtain ⟨hi, hz0, hz1, hz2⟩ := H1.out
    refine wpList_make_sat rfl 55 (.tmp 18) (.tmp 18) rfl 66 i0 (.int .u32 0) 4 Try.underlying55 hi hz0 hz1 hz2 rfl .i64 .i64 ((a.length : Int) + 1) R rfl rfl ?_ hs (by omega) (by omega) (by omega)
    clear hi hz0 hz1 hz2
    intro bo' w2 hs2 hb2
    rw [show ((a.length : Int) + 1).toNat = a.length + 1 by omega] at hs2 ⊢
    have hs2' : sat w2 (row 66 1 bo' (a.length + 1) ((([] : List Int) ++ List.replicate (a.length + 1 - 0) 0).map u32v) * R) := hs2.perm (by simp only [List.nil_append, Nat.sub_zero, List.map_replicate])
    have HB := Lib.hid (And.intro hs2' hb2)
    clear hs2 hb2 hs2'
    go_wp2_with fail
    go_loopw [6, 22] (AddRel w bo' (a.length + 1) a b R) (fun _ i _ => a.length - (intOf i).toNat)
    case atStart => exact ⟨0, 0, [], Nat.zero_le _, rfl, rfl, by decide, by decide, rfl, fun x hx => by simp at hx, by simp [valL], HB.out.1, HB.out.2⟩
    case round =>
      clear HB
      obtain ⟨k, cv, s, hk, rfl, rfl, hc0, hc1, hsl, hsL, hval, hs3, hb3⟩ := hrel
      by_cases hkl : k < a.length
      · obtain ⟨x, ex⟩ : ∃ x, a[k]? = some x := ⟨_, List.getElem?_eq_getElem hkl⟩
        obtain ⟨x0, x1⟩ := la x (List.mem_of_getElem? ex)
        obtain ⟨aa, rfl, hcx⟩ := HE.out.1 wr hs3.right k x ex
        have hcell := hs3.row_cell (j := k) (v := .int .u32 0) (by rw [List.map_append, List.getElem?_append_right (by simp [hsl]), List.length_map, hsl, Nat.sub_self, List.getElem?_map, List.getElem?_replicate, if_pos (by omega)]; rfl)
        have hfr := hs3.row_frozen k
        have w1 : IntKind.u64.wrap x = x := by rw [IntKind.wrap_u64]; omega
        have w2 : IntKind.u64.wrap (cv + x) = cv + x := by rw [IntKind.wrap_u64]; omega
        have HX := Lib.hid (And.intro ex (And.intro hval (And.intro hs3 (And.intro hb3 hsL))))
        clear ex hval hs3 hb3 hsL
        by_cases hkb : k < b.length
        · obtain ⟨y, ey⟩ : ∃ y, b[k]? = some y := ⟨_, List.getElem?_eq_getElem hkb⟩
          obtain ⟨y0, y1⟩ := lb y (List.mem_of_getElem? ey)
          obtain ⟨ab, rfl, hcy⟩ := HE.out.2 wr HX.out.2.2.1.right k y ey
          have w3 : IntKind.u64.wrap y = y := by rw [IntKind.wrap_u64]; omega
          have w4 : IntKind.u64.wrap (cv + x + y) = cv + x + y := by rw [IntKind.wrap_u64]; omega
          obtain ⟨t, ht⟩ : ∃ t, cv + x + y = t := ⟨_, rfl⟩
          have ht0 : 0 ≤ t := by omega
          have ht1 : t < 8589934592 := by omega
          have w5 : IntKind.u32.wrap t = t % 4294967296 := rfl
          have HT := Lib.hid (And.intro ht ey)
          rw [ht] at w4
          clear ey
          go_wp2_with fail
          go_roundw
          case rel =>
            have hs5 := HX.out.2.2.1.row_set k (u32v (t % 4294967296))
            rw [row_set_next u32v s (t % 4294967296) hsl (by omega)] at hs5
            refine ⟨k + 1, t / 4294967296, s ++ [t % 4294967296], by omega, by go_num, rfl, by omega, by omega, by simp [hsl], ?_, ?_, hs5, HX.out.2.2.2.1.setCell (p := ⟨bo', k, none⟩) (Nat.zero_le _) _⟩
            · intro z hz
              rcases List.mem_append.1 hz with hz | hz
              · exact HX.out.2.2.2.2 z hz
              · simp at hz; subst hz; omega
            · rw [valL_snoc, hsl, valL_take a k x HX.out.1, valL_take b k y HT.out.2, Nat.pow_succ]
              have := add_digit (4294967296 ^ k) HX.out.2.1 (x := x.toNat) (y := y.toNat) (t := t.toNat) (by have := HT.out.1; omega)
              rw [show (t % 4294967296).toNat = t.toNat % 4294967296 by omega, show (t / 4294967296).toNat = t.toNat / 4294967296 by omega]
              exact this
          case measure => simp [intOf]; omega
        · obtain ⟨t, ht⟩ : ∃ t, cv + x = t := ⟨_, rfl⟩
          have ht0 : 0 ≤ t := by omega
          have ht1 : t < 8589934592 := by omega
          have w5 : IntKind.u32.wrap t = t % 4294967296 := rfl
          have HT := Lib.hid ht
          rw [ht] at w2
          go_wp2_with fail
          go_roundw
          case rel =>
            have hs5 := HX.out.2.2.1.row_set k (u32v (t % 4294967296))
            rw [row_set_next u32v s (t % 4294967296) hsl (by omega)] at hs5
            refine ⟨k + 1, t / 4294967296, s ++ [t % 4294967296], by omega, by go_num, rfl, by omega, by omega, by simp [hsl], ?_, ?_, hs5, HX.out.2.2.2.1.setCell (p := ⟨bo', k, none⟩) (Nat.zero_le _) _⟩
            · intro z hz
              rcases List.mem_append.1 hz with hz | hz
              · exact HX.out.2.2.2.2 z hz
              · simp at hz; subst hz; omega
            · rw [valL_snoc, hsl, valL_take a k x HX.out.1, List.take_of_length_le (l := b) (show b.length ≤ k + 1 by omega), Nat.pow_succ]
              have h6 := HX.out.2.1
              rw [List.take_of_length_le (l := b) (show b.length ≤ k by omega)] at h6
              have := add_digit (4294967296 ^ k) h6 (x := x.toNat) (y := 0) (t := t.toNat) (by have := HT.out; omega)
              rw [Nat.mul_zero, Nat.add_zero] at this
              rw [show (t % 4294967296).toNat = t.toNat % 4294967296 by omega, show (t / 4294967296).toNat = t.toNat / 4294967296 by omega]
              exact this
          case measure => simp [intOf]; omega
      · obtain rfl : k = a.length := by omega
        have hge : (a.length : Int) ≤ a.length := by omega
        rw [show a.length + 1 - a.length = 1 by omega] at hs3
        have hcell := hs3.row_cell (j := a.length) (v := .int .u32 0) (by rw [List.map_append, List.getElem?_append_right (by simp [hsl]), List.length_map, hsl, Nat.sub_self]; rfl)
        have hfr := hs3.row_frozen a.length
        have w5 : IntKind.u32.wrap cv = cv := by rw [show IntKind.u32.wrap cv = cv % 4294967296 from rfl]; omega
        have hs5 := hs3.row_set a.length (u32v cv)
        have hrs := row_set_next (n := a.length + 1) u32v s cv hsl (by omega)
        rw [show a.length + 1 - a.length = 1 by omega, Nat.sub_self, List.replicate_zero, List.append_nil] at hrs
        rw [hrs] at hs5
        have hL : Limbs (s ++ [cv]) := by
          intro z hz
          rcases List.mem_append.1 hz with hz | hz
          · exact hsL z hz
          · simp at hz; subst hz; omega
        have hv : valL (s ++ [cv]) = valL a + valL b := by
          rw [valL_snoc, hsl, hval, List.take_of_length_le (Nat.le_refl _), List.take_of_length_le (by omega)]
        have hlen : (s ++ [cv]).length = a.length + 1 := by simp [hsl]
        have hT := trim_any (wr.setCell ⟨bo', a.length, none⟩ (u32v cv)) (some ⟨bo', 0, none⟩) (a.length + 1) (s ++ [cv]) (limbs_row hs5) hL (by omega) (by omega)
        have hO := trim_own hL (by omega) hs5
        rw [hv] at hT hO
        rw [hlen] at hT
        have HF := Lib.hid (And.intro hO (hb3.setCell (p := ⟨bo', a.length, none⟩) (Nat.zero_le _) (u32v cv)))
        clear hs3 hs5 hL hv hlen hO hb3 hval hsL HE
        go_wp2_with fail
        with_reducible refine hT.mono ?_
        rintro e w' ⟨rfl, j, rfl⟩
        go_wp2_with fail
        go_ret
        exact ⟨_, rfl, HF.out.1.drewN j, HF.out.2.trans (drewN_below0 _ _)⟩

def NAddRel (w2 : World) (v : Value) (s i : Value) (wr : World) : Prop := s = v ∧ i = .int .i64 0 ∧ wr = w2
/-- nat.Add of two. -/
theorem nat_Add {w : World} {R : HP} (hs : sat w R) (ao bo : Option Addr) (ca cb : Nat) (a b : List Int) (ha : ∀ w, sat w R → LimbsW w ao a) (hb : ∀ w, sat w R → LimbsW w bo b) (la : Limbs a) (lb : Limbs b) (na : a.length ≤ 35184372087808) (nb : b.length ≤ 35184372087808) :
    Calls Try.prog 65 #[.slice ao a.length ca, .slice bo b.length cb, .slice none 0 0] w fun e w' => ∃ v, e = .returned v ∧ sat w' (own 66 1 v (limbsOf (valL a + valL b)).length ((limbsOf (valL a + valL b)).map u32v) * R) ∧ Below 0 w w' := by
  have hA := Lib.hid (nat_add hs ao bo ca cb a b ha hb la lb na nb)
  clear ha hb
  go_enter Try.func65, Try.ntmps65
  go_wp2_with fail
  refine hA.out.mono ?_
  rintro e w2 ⟨v, rfl, hs2, hb2⟩
  have HB := Lib.hid (And.intro hs2 hb2)
  clear hs2 hb2
  go_wp2_with fail
  go_loopw [7, 15] (NAddRel w2 v) (fun _ i _ => (intOf i).toNat)
  case atStart => exact ⟨rfl, rfl, rfl⟩
  case round =>
    obtain ⟨rfl, rfl, rfl⟩ := hrel
    go_wp2_with fail
    go_ret
    exact ⟨_, rfl, HB.out.1, HB.out.2⟩
end Go.Proofs.Ytkjfplldfjmbaaa

/- nat.Cmp, nat.Bits. -/
namespace Go.Proofs.Ytkjfplldfjmbaaa
open Go.RowKit

def cmpN (a b : Nat) : Int := if a < b then -1 else if b < a then 1 else 0
def CmpRel (w : World) (x y : List Int) (n : Nat) (i : Value) (wr : World) : Prop :=
  ∃ k m : Nat, k ≤ n ∧ i = .int .i64 ((k : Int) - 1) ∧ wr = w.drewN m ∧ x.drop k = y.drop k
theorem valL_drop_lt : ∀ {x y : List Int} (k : Nat) {p q : Int}, Limbs x → Limbs y → x[k]? = some p → y[k]? = some q → x.drop (k + 1) = y.drop (k + 1) → p < q → valL x < valL y
  | [], _, k, p, q, _, _, hp, _, _, _ => by simp at hp
  | _, [], k, p, q, _, _, _, hq, _, _ => by simp at hq
  | u :: x, v :: y, 0, p, q, hx, hy, hp, hq, hd, h => by
    simp at hp hq hd
    subst hp hq hd
    have := hx u (by simp); have := hy v (by simp)
    simp only [valL]
    omega
  | u :: x, v :: y, k + 1, p, q, hx, hy, hp, hq, hd, h => by
    have ih := valL_drop_lt (x := x) (y := y) k (fun z hz => hx z (by simp [hz])) (fun z hz => hy z (by simp [hz])) (by simpa using hp) (by simpa using hq) (by simpa using hd) h
    have := hx u (by simp); have := hy v (by simp)
    simp only [valL]
    omega
theorem limbsOf_len_lt {a b : Nat} (h : (limbsOf a).length < (limbsOf b).length) : a < b := by
  rcases Nat.lt_or_ge a b with h1 | h1
  · exact h1
  · exfalso
    -- a ≥ b: a's limbs are as many at least
    have key : ∀ (b a : Nat), b ≤ a → (limbsOf b).length ≤ (limbsOf a).length := by
      intro b
      induction b using Nat.strongRecOn with
      | ind b ih =>
        intro a hab
        by_cases hb : b = 0
        · subst hb; rw [limbsOf_zero]; simp
        · rw [limbsOf_pos hb, limbsOf_pos (show a ≠ 0 by omega)]
          have := ih (b / 4294967296) (by omega) (a / 4294967296) (by omega)
          simp only [List.length_cons]
          omega
    have := key b a h1
    omega

set_option maxHeartbeats 1000000 in
theorem nat_Cmp (w : World) (ao bo : Option Addr) (ca cb : Nat) (a b : List Int) (ha : LimbsW w ao a) (hb : LimbsW w bo b) (la : Limbs a) (lb : Limbs b) (na : a.length ≤ 70368744177664) (nb : b.length ≤ 70368744177664) (hca : a.length ≤ ca) (hcb : b.length ≤ cb) :
    Calls Try.prog 71 #[.slice ao a.length ca, .slice bo b.length cb] w (Says (.int .i64 (cmpN (valL a) (valL b))) w) := by
  have tA := trim_any w ao ca a ha la hca na
  have tB := fun n => trim_any (w.drewN n) bo cb b hb lb hcb nb
  have pa := limbsOf_take la
  have pb := limbsOf_take lb
  have hal := limbsOf_len_le la
  have hbl := limbsOf_len_le lb
  obtain ⟨x, hx⟩ : ∃ x, limbsOf (valL a) = x := ⟨_, rfl⟩
  obtain ⟨y, hy⟩ : ∃ y, limbsOf (valL b) = y := ⟨_, rfl⟩
  have hvx : valL a = valL x := by rw [← hx, valL_limbsOf]
  have hvy : valL b = valL y := by rw [← hy, valL_limbsOf]
  have lx : Limbs x := hx ▸ limbsOf_limbs _
  have ly : Limbs y := hy ▸ limbsOf_limbs _
  have rx : LimbsW w ao x := by
    intro j z hz
    refine ha j z ?_
    rw [hx] at pa
    rw [← pa, List.getElem?_take] at hz
    split at hz
    · exact hz
    · cases hz
  have ry : LimbsW w bo y := by
    intro j z hz
    refine hb j z ?_
    rw [hy] at pb
    rw [← pb, List.getElem?_take] at hz
    split at hz
    · exact hz
    · cases hz
  have hlt1 : x.length < y.length → valL a < valL b := fun h => limbsOf_len_lt (by rw [hx, hy]; exact h)
  have hlt2 : y.length < x.length → valL b < valL a := fun h => limbsOf_len_lt (by rw [hx, hy]; exact h)
  rw [hx] at tA hal
  rw [hy] at tB hbl
  have HV := Lib.hid (And.intro hvx (And.intro hvy (And.intro lx (And.intro ly (And.intro hlt1 hlt2)))))
  clear pa pb hx hy hvx hvy lx ly hlt1 hlt2 ha hb
  rcases Nat.lt_trichotomy x.length y.length with h | h | h
  · have b1 : decide ((x.length : Int) < (y.length : Int)) = true := by simp; omega
    have hc : cmpN (valL a) (valL b) = -1 := by unfold cmpN; rw [if_pos (HV.out.2.2.2.2.1 h)]
    rw [hc]
    clear hc
    go_enter Try.func71, Try.ntmps71
    go_wp2_with fail
    refine tA.mono ?_
    rintro e w' ⟨rfl, j, rfl⟩
    go_wp2_with fail
    refine (tB j).mono ?_
    rintro e w' ⟨rfl, j2, rfl⟩
    go_wp2_with fail
    go_ret
    exact ⟨rfl, _, rfl⟩
  · obtain ⟨n, hn⟩ : ∃ n, y.length = n := ⟨_, rfl⟩
    have hxn : x.length = n := by omega
    rw [hxn] at tA hal
    rw [hn] at tB hbl
    clear h
    have g1 : IntKind.i64.wrap ((n : Int) - 1) = (n : Int) - 1 := IntWalk.i64_in _ (by omega)
    have HN := Lib.hid (And.intro hxn hn)
    clear hxn hn
    go_enter Try.func71, Try.ntmps71
    go_wp2_with fail
    refine tA.mono ?_
    rintro e w' ⟨rfl, j, rfl⟩
    go_wp2_with fail
    refine (tB j).mono ?_
    rintro e w' ⟨rfl, j2, rfl⟩
    go_wp2_with fail
    go_loopw [5] (CmpRel w x y n) (fun i _ => (intOf i + 1).toNat)
    case atStart => exact ⟨n, j + j2, Nat.le_refl _, rfl, rfl, by rw [List.drop_of_length_le (by rw [HN.out.1]; exact Nat.le_refl _), List.drop_of_length_le (by rw [HN.out.2]; exact Nat.le_refl _)]⟩
    case round =>
      obtain ⟨k, m, hk, rfl, rfl, hd⟩ := hrel
      cases k with
      | zero =>
        have hxy : x = y := by simpa using hd
        have hc : cmpN (valL a) (valL b) = 0 := by
          unfold cmpN
          rw [HV.out.1, HV.out.2.1, hxy]
          simp
        have HC := Lib.hid hc
        have b1 : decide ((((0 : Nat) : Int) - 1) ≥ 0) = false := by decide
        clear hc hxy hd
        go_wp2_with fail
        go_ret
        exact ⟨by rw [HC.out]; rfl, _, rfl⟩
      | succ k =>
        obtain ⟨p, ep⟩ : ∃ p, x[k]? = some p := ⟨_, List.getElem?_eq_getElem (by have := HN.out.1; omega)⟩
        obtain ⟨q, eq⟩ : ∃ q, y[k]? = some q := ⟨_, List.getElem?_eq_getElem (by have := HN.out.2; omega)⟩
        obtain ⟨aa, rfl, hcp⟩ := rx k p ep
        obtain ⟨ab, rfl, hcq⟩ := ry k q eq
        have hcp' : (w.drewN m).cell? (aa.add k) = some (.int .u32 p) := hcp
        have hcq' : (w.drewN m).cell? (ab.add k) = some (.int .u32 q) := hcq
        have b1 : decide ((((k + 1 : Nat) : Int) - 1) ≥ 0) = true := by rw [decide_eq_true_eq]; omega
        have b2 : (((k + 1 : Nat) : Int) - 1) = (k : Int) := by omega
        rw [b2] at b1 ⊢
        have HE := Lib.hid (And.intro ep (And.intro eq hd))
        clear ep eq hd b2 hcp hcq
        obtain ⟨w9, hw9⟩ : ∃ w9, w.drewN m = w9 := ⟨_, rfl⟩
        rw [hw9] at hcp' hcq' ⊢
        have HW := Lib.hid hw9
        clear hw9
        rcases Int.lt_trichotomy p q with h | h | h
        · have c1 : decide (p < q) = true := by simp [h]
          have hc : cmpN (valL a) (valL b) = -1 := by
            unfold cmpN
            rw [if_pos (by rw [HV.out.1, HV.out.2.1]; exact valL_drop_lt k HV.out.2.2.1 HV.out.2.2.2.1 HE.out.1 HE.out.2.1 HE.out.2.2 h)]
          have HC := Lib.hid hc
          clear hc h
          go_wp2_with fail
          go_quiet (fail)
          go_wp2_with fail
          go_ret
          exact ⟨by rw [HC.out]; rfl, _, by rw [← HW.out, World.drewN_drewN]⟩
        · subst h
          have c1 : decide (p < p) = false := by simp
          have c2 : decide (p > p) = false := by simp
          go_wp2_with fail
          go_quiet (fail)
          go_wp2_with fail
          go_quiet (fail)
          go_wp2_with fail
          go_roundw
          case rel =>
            refine ⟨k, _, by omega, rfl, by rw [← HW.out, World.drewN_drewN], ?_⟩
            obtain ⟨h1, e1⟩ := List.getElem?_eq_some_iff.1 HE.out.1
            obtain ⟨h2, e2⟩ := List.getElem?_eq_some_iff.1 HE.out.2.1
            rw [List.drop_eq_getElem_cons h1, List.drop_eq_getElem_cons h2, e1, e2, HE.out.2.2]
          case measure => simp [intOf]
        · have c1 : decide (p < q) = false := by simp; omega
          have c2 : decide (p > q) = true := by simp [h]
          have hc : cmpN (valL a) (valL b) = 1 := by
            have := valL_drop_lt k HV.out.2.2.2.1 HV.out.2.2.1 HE.out.2.1 HE.out.1 HE.out.2.2.symm h
            unfold cmpN
            rw [HV.out.1, HV.out.2.1, if_neg (by omega), if_pos this]
          have HC := Lib.hid hc
          clear hc h
          go_wp2_with fail
          go_quiet (fail)
          go_wp2_with fail
          go_quiet (fail)
          go_wp2_with fail
          go_ret
          exact ⟨by rw [HC.out]; rfl, _, by rw [← HW.out, World.drewN_drewN, World.drewN_drewN]⟩
  · have b1 : decide ((x.length : Int) < (y.length : Int)) = false := by simp; omega
    have b2 : decide ((x.length : Int) > (y.length : Int)) = true := by simp; omega
    have hc : cmpN (valL a) (valL b) = 1 := by have := HV.out.2.2.2.2.2 h; unfold cmpN; rw [if_neg (by omega), if_pos this]
    rw [hc]
    clear hc
    go_enter Try.func71, Try.ntmps71
    go_wp2_with fail
    refine tA.mono ?_
    rintro e w' ⟨rfl, j, rfl⟩
    go_wp2_with fail
    refine (tB j).mono ?_
    rintro e w' ⟨rfl, j2, rfl⟩
    go_wp2_with fail
    go_ret
    exact ⟨rfl, _, rfl⟩

end Go.Proofs.Ytkjfplldfjmbaaa

/- nat.Bits. -/
namespace Go.Proofs.Ytkjfplldfjmbaaa
open Go.RowKit

/-- How many binary digits a number has. -/
def bitsN (v : Nat) : Nat := if v = 0 then 0 else Nat.log2 v + 1
theorem bits_le (v k : Nat) : bitsN v ≤ k ↔ v < 2 ^ k := by
  unfold bitsN
  by_cases h : v = 0
  · subst h; simp [Nat.pow_pos]
  · rw [if_neg h, Nat.succ_le_iff, Nat.log2_lt h]
theorem bits_shift {v : Nat} (k : Nat) (h : 2 ^ k ≤ v) : bitsN v = k + bitsN (v / 2 ^ k) := by
  have key : ∀ n, bitsN v ≤ n ↔ k + bitsN (v / 2 ^ k) ≤ n := by
    intro n
    rw [bits_le]
    rcases Nat.lt_or_ge n k with hn | hn
    · have : 2 ^ n < 2 ^ k := Nat.pow_lt_pow_right (by decide) hn
      constructor
      · intro h1; omega
      · intro h1; omega
    · have h1 := bits_le (v / 2 ^ k) (n - k)
      have h2 : v / 2 ^ k < 2 ^ (n - k) ↔ v < 2 ^ n := by
        rw [Nat.div_lt_iff_lt_mul (Nat.pow_pos (by decide)), ← Nat.pow_add, Nat.sub_add_cancel hn]
      rw [h2] at h1
      rw [← h1]
      omega
  have h1 := (key (bitsN v)).1 (Nat.le_refl _)
  have h2 := (key (k + bitsN (v / 2 ^ k))).2 (Nat.le_refl _)
  omega
def len8 : ByteArray := ⟨#[0, 1, 2, 2, 3, 3, 3, 3, 4, 4, 4, 4, 4, 4, 4, 4, 5, 5, 5, 5, 5, 5, 5, 5, 5, 5, 5, 5, 5, 5, 5, 5, 6, 6, 6, 6, 6, 6, 6, 6, 6, 6, 6, 6, 6, 6, 6, 6, 6, 6, 6, 6, 6, 6, 6, 6, 6, 6, 6, 6, 6, 6, 6, 6, 7, 7, 7, 7, 7, 7, 7, 7, 7, 7, 7, 7, 7, 7, 7, 7, 7, 7, 7, 7, 7, 7, 7, 7, 7, 7, 7, 7, 7, 7, 7, 7, 7, 7, 7, 7, 7, 7, 7, 7, 7, 7, 7, 7, 7, 7, 7, 7, 7, 7, 7, 7, 7, 7, 7, 7, 7, 7, 7, 7, 7, 7, 7, 7, 8, 8, 8, 8, 8, 8, 8, 8, 8, 8, 8, 8, 8, 8, 8, 8, 8, 8, 8, 8, 8, 8, 8, 8, 8, 8, 8, 8, 8, 8, 8, 8, 8, 8, 8, 8, 8, 8, 8, 8, 8, 8, 8, 8, 8, 8, 8, 8, 8, 8, 8, 8, 8, 8, 8, 8, 8, 8, 8, 8, 8, 8, 8, 8, 8, 8, 8, 8, 8, 8, 8, 8, 8, 8, 8, 8, 8, 8, 8, 8, 8, 8, 8, 8, 8, 8, 8, 8, 8, 8, 8, 8, 8, 8, 8, 8, 8, 8, 8, 8, 8, 8, 8, 8, 8, 8, 8, 8, 8, 8, 8, 8, 8, 8, 8, 8, 8, 8, 8, 8, 8, 8, 8, 8, 8, 8, 8, 8]⟩
theorem len8_size : len8.size = 256 := by decide +kernel
theorem len8_all : ∀ i : Fin 256, (len8[i.1]'(by rw [len8_size]; exact i.2)).toNat = bitsN i.1 := by decide +kernel
theorem len8_at (y : Nat) (h : y < len8.size) : (len8[y]'h).toNat = bitsN y := len8_all ⟨y, by rw [len8_size] at h; exact h⟩
set_option maxRecDepth 100000 in
set_option maxHeartbeats 4000000 in
theorem len32_any (w : World) (x : Int) (x0 : 0 ≤ x) (x1 : x < 4294967296) :
    Calls Try.prog 80 #[.int .u32 x] w (Says (.int .i64 (bitsN x.toNat)) w) := by
  by_cases h16 : x < 65536
  · have b1 : decide (x ≥ 65536) = false := by simp; omega
    by_cases h8 : x < 256
    · have b2 : decide (x ≥ 256) = false := by simp; omega
      have hb := (bits_le x.toNat 8).2 (by omega)
      have ht := len8_at x.toNat (by rw [len8_size]; omega)
      have HT := Lib.hid (And.intro hb ht)
      clear hb ht
      go_enter Try.func80, Try.ntmps80
      go_wp2_with fail
      go_ret
      refine ⟨congrArg (fun v => Ending.returned (.int .i64 v)) ?_, 0, rfl⟩
      show wrap64 (wrap64 (((len8[x.toNat]'(by rw [len8_size]; omega)).toNat : Nat) : Int)) = _
      rw [HT.out.2]
      have := HT.out.1
      unfold wrap64
      omega
    · have b2 : decide (x ≥ 256) = true := by simp; omega
      have hb := (bits_le (x.toNat / 256) 8).2 (by omega)
      have hs := bits_shift (v := x.toNat) 8 (by omega)
      have ht := len8_at (x.toNat / 256) (by rw [len8_size]; omega)
      have HT := Lib.hid (And.intro hb (And.intro ht hs))
      clear hb ht hs
      go_enter Try.func80, Try.ntmps80
      go_wp2_with fail
      go_ret
      refine ⟨congrArg (fun v => Ending.returned (.int .i64 v)) ?_, 0, rfl⟩
      show wrap64 (8 + wrap64 (((len8[(x / 256).toNat]'(by rw [len8_size]; omega)).toNat : Nat) : Int)) = _
      rw [len8_at, show (x / 256).toNat = x.toNat / 256 by omega]
      have h1 := HT.out.1
      have h2 := HT.out.2.2
      rw [show (2 : Nat) ^ 8 = 256 from rfl] at h2
      rw [h2]
      unfold wrap64
      omega
  · have b1 : decide (x ≥ 65536) = true := by simp; omega
    have hs := bits_shift (v := x.toNat) 16 (by omega)
    obtain ⟨y, hy⟩ : ∃ y, x / 65536 = y := ⟨_, rfl⟩
    have y0 : 0 ≤ y := by omega
    have y1 : y < 65536 := by omega
    have hyn : x.toNat / 2 ^ 16 = y.toNat := by omega
    rw [hyn] at hs
    clear hyn
    by_cases h8 : y < 256
    · have b2 : decide (y ≥ 256) = false := by simp; omega
      have hb := (bits_le y.toNat 8).2 (by omega)
      have HT := Lib.hid (And.intro hb hs)
      clear hb hs
      go_enter Try.func80, Try.ntmps80
      go_wp2_with fail
      go_ret
      refine ⟨congrArg (fun v => Ending.returned (.int .i64 v)) ?_, 0, rfl⟩
      show wrap64 (16 + wrap64 (((len8[y.toNat]'(by rw [len8_size]; omega)).toNat : Nat) : Int)) = _
      rw [len8_at]
      have h1 := HT.out.1
      have h2 := HT.out.2
      rw [h2]
      unfold wrap64
      omega
    · have b2 : decide (y ≥ 256) = true := by simp; omega
      have hb := (bits_le (y.toNat / 256) 8).2 (by omega)
      have hs2 := bits_shift (v := y.toNat) 8 (by omega)
      have HT := Lib.hid (And.intro hb (And.intro hs hs2))
      clear hb hs hs2
      go_enter Try.func80, Try.ntmps80
      go_wp2_with fail
      go_ret
      refine ⟨congrArg (fun v => Ending.returned (.int .i64 v)) ?_, 0, rfl⟩
      show wrap64 (24 + wrap64 (((len8[(y / 256).toNat]'(by rw [len8_size]; omega)).toNat : Nat) : Int)) = _
      rw [len8_at, show (y / 256).toNat = y.toNat / 256 by omega]
      have h1 := HT.out.1
      have h2 := HT.out.2.1
      have h3 := HT.out.2.2
      rw [show (2 : Nat) ^ 8 = 256 from rfl] at h3
      rw [h2, h3]
      unfold wrap64
      omega

set_option maxHeartbeats 1000000 in
theorem nat_Bits (w : World) (ao : Option Addr) (ca : Nat) (a : List Int) (ha : LimbsW w ao a) (la : Limbs a) (na : a.length ≤ 70368744177664) (hca : a.length ≤ ca) :
    Calls Try.prog 77 #[.slice ao a.length ca] w (Says (.int .i64 (bitsN (valL a))) w) := by
  have tA := trim_any w ao ca a ha la hca na
  have pa := limbsOf_take la
  have hal := limbsOf_len_le la
  obtain ⟨x, hx⟩ : ∃ x, limbsOf (valL a) = x := ⟨_, rfl⟩
  have hvx : valL a = valL x := by rw [← hx, valL_limbsOf]
  have lx : Limbs x := hx ▸ limbsOf_limbs _
  have hnil : x = [] ↔ valL a = 0 := by rw [← hx]; exact limbsOf_nil
  rw [hx] at tA hal pa
  have rx : LimbsW w ao x := by
    intro j z hz
    refine ha j z ?_
    rw [← pa, List.getElem?_take] at hz
    split at hz
    · exact hz
    · cases hz
  by_cases h0 : x.length = 0
  · have hv : bitsN (valL a) = 0 := by rw [hnil.1 (List.eq_nil_of_length_eq_zero h0)]; rfl
    rw [hv]
    rw [h0] at tA
    clear hv h0 hx pa hvx hnil
    go_enter Try.func77, Try.ntmps77
    go_wp2_with fail
    refine tA.mono ?_
    rintro e w' ⟨rfl, j, rfl⟩
    go_wp2_with fail
    go_ret
    exact ⟨rfl, _, rfl⟩
  · obtain ⟨n, hn⟩ : ∃ n, x.length = n + 1 := ⟨x.length - 1, by omega⟩
    obtain ⟨t, et⟩ : ∃ t, x[n]? = some t := ⟨_, List.getElem?_eq_getElem (by omega)⟩
    obtain ⟨t0, t1⟩ := lx t (List.mem_of_getElem? et)
    obtain ⟨aa, rfl, hct⟩ := rx n t et
    have hval : valL a = valL (x.take n) + 4294967296 ^ n * t.toNat := by
      rw [hvx, ← valL_take x n t et, List.take_of_length_le (by omega)]
    have hlow : valL (x.take n) < 4294967296 ^ n := by
      have := valL_lt (l := x.take n) (fun z hz => lx z (List.mem_of_mem_take hz))
      rw [List.length_take, Nat.min_eq_left (by omega)] at this
      exact this
    have htp : 0 < t.toNat := by
      have hv0 : valL a ≠ 0 := fun e => by rw [hnil.2 e] at hn; simp at hn
      have hl := limbsOf_last (valL a) hv0
      rw [hx, hn, Nat.add_sub_cancel, List.getD_eq_getElem?_getD, et] at hl
      have : t ≠ 0 := hl
      omega
    have hbits : bitsN (valL a) = 32 * n + bitsN t.toNat := by
      have e32 : (4294967296 : Nat) ^ n = 2 ^ (32 * n) := by rw [Nat.pow_mul]
      rw [bits_shift (v := valL a) (32 * n) (by rw [hval, ← e32]; have := Nat.mul_le_mul_left (4294967296 ^ n) htp; omega)]
      congr 2
      rw [hval, ← e32, Nat.add_mul_div_left _ _ (Nat.pow_pos (by decide)), Nat.div_eq_of_lt hlow, Nat.zero_add]
    have hb32 := (bits_le t.toNat 32).2 (by omega)
    rw [hn] at tA hal
    rw [hbits]
    have hL := fun m => len32_any (w.drewN m) t t0 t1
    generalize bitsN t.toNat = bt at *
    clear hbits hlow hval htp hvx hnil hx pa h0 hn et
    have g1 : IntKind.i64.wrap (((n + 1 : Nat) : Int) - 1) = n := by rw [IntWalk.i64_in _ (by omega)]; omega
    have g2 : IntKind.i64.wrap (32 * (n : Int)) = 32 * n := IntWalk.i64_in _ (by omega)
    have g3 : IntKind.i64.wrap (32 * (n : Int) + bt) = 32 * n + bt := IntWalk.i64_in _ (by omega)
    have b1 : (((n + 1 : Nat) : Int) == 0) = false := by rw [beq_eq_false_iff_ne]; omega
    go_enter Try.func77, Try.ntmps77
    go_wp2_with fail
    refine tA.mono ?_
    rintro e w' ⟨rfl, j, rfl⟩
    have hct' : (w.drewN j).cell? (aa.add n) = some (.int .u32 t) := hct
    go_wp2_with fail
    refine (hL j).mono ?_
    rintro e w' ⟨rfl, j2, rfl⟩
    go_wp2_with fail
    go_ret
    exact ⟨by rw [show (((32 * n + bt : Nat)) : Int) = 32 * n + bt by omega]; rfl, _, rfl⟩
end Go.Proofs.Ytkjfplldfjmbaaa

/- nat.Sub. -/
namespace Go.Proofs.Ytkjfplldfjmbaaa
open Go.RowKit

def SubRel (W : World) (bo : Nat) (a b : List Int) (R : HP) (c i : Value) (wr : World) : Prop :=
  ∃ (k : Nat) (cv : Int) (s : List Int), k ≤ a.length ∧ i = .int .i64 k ∧ c = .int .u64 cv ∧ 0 ≤ cv ∧ cv ≤ 1 ∧ s.length = k ∧ Limbs s ∧ valL (a.take k) + 4294967296 ^ k * cv.toNat = valL s + valL (b.take k) ∧
    sat wr (row 66 1 bo a.length ((s ++ List.replicate (a.length - k) 0).map u32v) * R) ∧ Below 0 W wr
theorem sub_digit (P : Nat) {va vb vs c x y t c' : Nat} (h : va + P * c = vs + vb) (ht : x + 4294967296 * c' = t + y + c) : va + P * x + P * 4294967296 * c' = vs + P * t + (vb + P * y) := by
  have h1 : P * x + P * 4294967296 * c' = P * (x + 4294967296 * c') := by rw [Nat.mul_assoc, ← Nat.mul_add]
  rw [Nat.add_assoc, h1, ht, Nat.mul_add, Nat.mul_add]
  omega

set_option maxRecDepth 100000 in
set_option maxHeartbeats 2000000 in
theorem nat_Sub {w : World} {R : HP} (hs : sat w R) (ao bo : Option Addr) (ca cb : Nat) (a b : List Int) (ha : ∀ w, sat w R → LimbsW w ao a) (hb : ∀ w, sat w R → LimbsW w bo b) (la : Limbs a) (lb : Limbs b) (na : a.length ≤ 70368744177663) (nb : b.length ≤ 70368744177663) (hca : a.length ≤ ca) (hcb : b.length ≤ cb) (hle : valL b ≤ valL a) :
    Calls Try.prog 67 #[.slice ao a.length ca, .slice bo b.length cb] w fun e w' => ∃ v, e = .returned (.tuple #[v, .bool true]) ∧ sat w' (own 66 1 v (limbsOf (valL a - valL b)).length ((limbsOf (valL a - valL b)).map u32v) * R) ∧ Below 0 w w' := by
  obtain ⟨i0, hi, hz0, hz1, hz2⟩ := info_parts info_u32
  have H1 := Lib.hid (And.intro hi (And.intro hz0 (And.intro hz1 hz2)))
  clear hi hz0 hz1 hz2
  have hC := nat_Cmp w ao bo ca cb a b (ha w hs) (hb w hs) la lb (by omega) (by omega) hca hcb
  have hc0 : decide (cmpN (valL a) (valL b) < 0) = false := by
    unfold cmpN
    rw [if_neg (by omega)]
    split <;> decide
  have tA := fun n => trim_any (w.drewN n) ao ca a (ha w hs) la hca (by omega)
  have tB := fun n => trim_any (w.drewN n) bo cb b (hb w hs) lb hcb (by omega)
  have pa := limbsOf_take la
  have pb := limbsOf_take lb
  have hal := limbsOf_len_le la
  have hbl := limbsOf_len_le lb
  have hxy : (limbsOf (valL b)).length ≤ (limbsOf (valL a)).length := by
    rcases Nat.lt_or_ge (limbsOf (valL a)).length (limbsOf (valL b)).length with h | h
    · have := limbsOf_len_lt h; omega
    · exact h
  obtain ⟨x, hx⟩ : ∃ x, limbsOf (valL a) = x := ⟨_, rfl⟩
  obtain ⟨y, hy⟩ : ∃ y, limbsOf (valL b) = y := ⟨_, rfl⟩
  have hvx : valL a = valL x := by rw [← hx, valL_limbsOf]
  have hvy : valL b = valL y := by rw [← hy, valL_limbsOf]
  have lx : Limbs x := hx ▸ limbsOf_limbs _
  have ly : Limbs y := hy ▸ limbsOf_limbs _
  rw [hx] at tA hal pa hxy
  rw [hy] at tB hbl pb hxy
  have rx : ∀ w, sat w R → LimbsW w ao x := by
    intro w hs j z hz
    refine ha w hs j z ?_
    rw [← pa, List.getElem?_take] at hz
    split at hz
    · exact hz
    · cases hz
  have ry : ∀ w, sat w R → LimbsW w bo y := by
    intro w hs j z hz
    refine hb w hs j z ?_
    rw [← pb, List.getElem?_take] at hz
    split at hz
    · exact hz
    · cases hz
  have HV := Lib.hid (And.intro hvx (And.intro hvy (And.intro rx (And.intro ry hle))))
  generalize cmpN (valL a) (valL b) = cc at *
  clear pa pb hx hy hvx hvy ha hb la lb rx ry hle
  go_enter Try.func67, Try.ntmps67
  go_wp2_with fail
  refine hC.mono ?_
  rintro e w' ⟨rfl, j, rfl⟩
  go_wp2_with fail
  refine (tA j).mono ?_
  rintro e w' ⟨rfl, j2, rfl⟩
  go_wp2_with fail
  refine (tB (j + j2)).mono ?_
  rintro e w' ⟨rfl, j3, rfl⟩
  go_wp2_with (at_make; refine halt ?_)
  refine goon ?_
  obtain ⟨hi, hz0, hz1, hz2⟩ := H1.out
  have hs0 := hs.drewN (j + j2 + j3)
  have hb0 := drewN_below0 w (j + j2 + j3)
  generalize w.drewN (j + j2 + j3) = w0 at *
  refine wpList_make_sat rfl 55 (.tmp 21) (.tmp 21) rfl 66 i0 (.int .u32 0) 4 Try.underlying55 hi hz0 hz1 hz2 rfl .i64 .i64 (x.length : Int) R rfl rfl ?_ hs0 (by omega) (by omega) (by omega)
  clear hi hz0 hz1 hz2
  intro bo' w2 hs2 hb2
  rw [show (x.length : Int).toNat = x.length by omega] at hs2 ⊢
  have hs2' : sat w2 (row 66 1 bo' x.length ((([] : List Int) ++ List.replicate (x.length - 0) 0).map u32v) * R) := hs2.perm (by simp only [List.nil_append, Nat.sub_zero, List.map_replicate])
  have HB := Lib.hid (And.intro hs2' (hb0.trans hb2))
  clear hs2 hb2 hs2' hs0 hb0 tA tB hC
  go_wp2_with fail
  go_loopw [7, 25] (SubRel w bo' x y R) (fun _ i _ => x.length - (intOf i).toNat)
  case atStart => exact ⟨0, 0, [], Nat.zero_le _, rfl, rfl, by decide, by decide, rfl, fun x hx => by simp at hx, by simp [valL], HB.out.1, HB.out.2⟩
  case round =>
    clear HB
    obtain ⟨k, cv, s, hk, rfl, rfl, hcv0, hcv1, hsl, hsL, hval, hs3, hb3⟩ := hrel
    by_cases hkl : k < x.length
    · obtain ⟨u, ex⟩ : ∃ u, x[k]? = some u := ⟨_, List.getElem?_eq_getElem hkl⟩
      obtain ⟨u0, u1⟩ := lx u (List.mem_of_getElem? ex)
      obtain ⟨aa, rfl, hcx⟩ := HV.out.2.2.1 wr hs3.right k u ex
      have hcell := hs3.row_cell (j := k) (v := .int .u32 0) (by rw [List.map_append, List.getElem?_append_right (by simp [hsl]), List.length_map, hsl, Nat.sub_self, List.getElem?_map, List.getElem?_replicate, if_pos (by omega)]; rfl)
      have hfr := hs3.row_frozen k
      have w1 : IntKind.u64.wrap u = u := by rw [IntKind.wrap_u64]; omega
      have HX := Lib.hid (And.intro ex (And.intro hval (And.intro hs3 (And.intro hb3 hsL))))
      clear ex hval hs3 hb3 hsL
      by_cases hkb : k < y.length
      · obtain ⟨v, ey⟩ : ∃ v, y[k]? = some v := ⟨_, List.getElem?_eq_getElem hkb⟩
        obtain ⟨v0, v1⟩ := ly v (List.mem_of_getElem? ey)
        obtain ⟨ab, rfl, hcy⟩ := HV.out.2.2.2.1 wr HX.out.2.2.1.right k v ey
        have w3 : IntKind.u64.wrap v = v := by rw [IntKind.wrap_u64]; omega
        have w4 : IntKind.u64.wrap (cv + v) = cv + v := by rw [IntKind.wrap_u64]; omega
        obtain ⟨d, hd⟩ : ∃ d, IntKind.u64.wrap (u - (cv + v)) = d := ⟨_, rfl⟩
        have hd2 : d = (u - (cv + v)) % 18446744073709551616 := by rw [← hd, IntKind.wrap_u64]
        have d0 : 0 ≤ d ∧ d < 18446744073709551616 := by omega
        have w5 : IntKind.u32.wrap d = d % 4294967296 := rfl
        have HT := Lib.hid (And.intro hd2 ey)
        clear ey hd2
        go_wp2_with fail
        go_roundw
        case rel =>
          have hs5 := HX.out.2.2.1.row_set k (u32v (d % 4294967296))
          rw [row_set_next u32v s (d % 4294967296) hsl (by omega)] at hs5
          refine ⟨k + 1, d / 9223372036854775808, s ++ [d % 4294967296], by omega, by go_num, rfl, by omega, by omega, by simp [hsl], ?_, ?_, hs5, HX.out.2.2.2.1.setCell (p := ⟨bo', k, none⟩) (Nat.zero_le _) _⟩
          · intro z hz
            rcases List.mem_append.1 hz with hz | hz
            · exact HX.out.2.2.2.2 z hz
            · simp at hz; subst hz; omega
          · rw [valL_snoc, hsl, valL_take x k u HX.out.1, valL_take y k v HT.out.2, Nat.pow_succ]
            exact sub_digit (4294967296 ^ k) HX.out.2.1 (x := u.toNat) (y := v.toNat) (t := (d % 4294967296).toNat) (c' := (d / 9223372036854775808).toNat) (by have := HT.out.1; omega)
        case measure => simp [intOf]; omega
      · obtain ⟨d, hd⟩ : ∃ d, IntKind.u64.wrap (u - cv) = d := ⟨_, rfl⟩
        have hd2 : d = (u - cv) % 18446744073709551616 := by rw [← hd, IntKind.wrap_u64]
        have d0 : 0 ≤ d ∧ d < 18446744073709551616 := by omega
        have w5 : IntKind.u32.wrap d = d % 4294967296 := rfl
        have HT := Lib.hid hd2
        clear hd2
        go_wp2_with fail
        go_roundw
        case rel =>
          have hs5 := HX.out.2.2.1.row_set k (u32v (d % 4294967296))
          rw [row_set_next u32v s (d % 4294967296) hsl (by omega)] at hs5
          refine ⟨k + 1, d / 9223372036854775808, s ++ [d % 4294967296], by omega, by go_num, rfl, by omega, by omega, by simp [hsl], ?_, ?_, hs5, HX.out.2.2.2.1.setCell (p := ⟨bo', k, none⟩) (Nat.zero_le _) _⟩
          · intro z hz
            rcases List.mem_append.1 hz with hz | hz
            · exact HX.out.2.2.2.2 z hz
            · simp at hz; subst hz; omega
          · rw [valL_snoc, hsl, valL_take x k u HX.out.1, List.take_of_length_le (l := y) (show y.length ≤ k + 1 by omega), Nat.pow_succ]
            have h6 := HX.out.2.1
            rw [List.take_of_length_le (l := y) (show y.length ≤ k by omega)] at h6
            have := sub_digit (4294967296 ^ k) h6 (x := u.toNat) (y := 0) (t := (d % 4294967296).toNat) (c' := (d / 9223372036854775808).toNat) (by have := HT.out; omega)
            rw [Nat.mul_zero, Nat.add_zero] at this
            exact this
        case measure => simp [intOf]; omega
    · obtain rfl : k = x.length := by omega
      have hge : (x.length : Int) ≤ x.length := by omega
      rw [Nat.sub_self, List.replicate_zero, List.append_nil] at hs3
      rw [List.take_of_length_le (Nat.le_refl _), List.take_of_length_le hxy] at hval
      have hsv := valL_lt hsL
      rw [hsl] at hsv
      have hle := HV.out.2.2.2.2
      rw [HV.out.1, HV.out.2.1] at hle
      have hv : valL s = valL a - valL b := by
        rw [HV.out.1, HV.out.2.1]
        rcases (show cv = 0 ∨ cv = 1 by omega) with rfl | rfl
        · simp at hval; omega
        · rw [show (1 : Int).toNat = 1 from rfl, Nat.mul_one] at hval; omega
      have hT := trim_any wr (some ⟨bo', 0, none⟩) x.length s (limbs_row hs3) hsL (by omega) (by omega)
      have hO := trim_own hsL (by omega) hs3
      rw [hv] at hT hO
      rw [hsl] at hT
      have HF := Lib.hid (And.intro hO hb3)
      clear hs3 hsL hv hO hb3 hval hle hsv
      go_wp2_with fail
      with_reducible refine hT.mono ?_
      rintro e w' ⟨rfl, j, rfl⟩
      go_wp2_with fail
      go_ret2
      exact ⟨_, rfl, HF.out.1.drewN j, HF.out.2.trans (drewN_below0 _ _)⟩
end Go.Proofs.Ytkjfplldfjmbaaa
