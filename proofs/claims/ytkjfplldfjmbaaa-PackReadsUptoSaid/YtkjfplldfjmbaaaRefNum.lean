/- Digits of 16 bits, plainly. tandemref01: half, trim, at. tandemref01: add, Add. tandemref01.Add, tandemref02.Of, Canon. tandemref01: cmp, sub. tandemref01.sub. tandemref01: Cmp, Sub. tandemref02: Neg. tandemref02: plus. tandemref02: Sub, Cmp, Small. tandemref02.Small. -/
import Derived.Test.YtkjfplldfjmbaaaNumApi
/- Digits of 16 bits, plainly. -/
namespace Go.Proofs.Ytkjfplldfjmbaaa
open Go.RowKit

def Digs (l : List Int) : Prop := ∀ x ∈ l, 0 ≤ x ∧ x < 65536
/-- The number that digits say. -/
def valD : List Int → Nat
  | [] => 0
  | x :: l => x.toNat + 65536 * valD l
/-- The canonical digits of a number. -/
def digsOf (v : Nat) : List Int := if h : v = 0 then [] else ((v % 65536 : Nat) : Int) :: digsOf (v / 65536)
termination_by v
decreasing_by omega

theorem digsOf_zero : digsOf 0 = [] := by unfold digsOf; simp
theorem digsOf_pos {v : Nat} (h : v ≠ 0) : digsOf v = ((v % 65536 : Nat) : Int) :: digsOf (v / 65536) := by
  rw [digsOf]; simp [h]
theorem digsOf_digs (v : Nat) : Digs (digsOf v) := by
  induction v using Nat.strongRecOn with
  | ind v ih =>
    by_cases h : v = 0
    · subst h; rw [digsOf_zero]; intro x hx; simp at hx
    · rw [digsOf_pos h]
      intro x hx
      rcases List.mem_cons.1 hx with rfl | hx
      · omega
      · exact ih (v / 65536) (by omega) x hx
theorem valD_digsOf (v : Nat) : valD (digsOf v) = v := by
  induction v using Nat.strongRecOn with
  | ind v ih =>
    by_cases h : v = 0
    · subst h; rw [digsOf_zero]; rfl
    · rw [digsOf_pos h, valD, ih (v / 65536) (by omega)]
      omega
theorem digsOf_nil {v : Nat} : digsOf v = [] ↔ v = 0 := by
  constructor
  · intro h; rw [← valD_digsOf v, h]; rfl
  · rintro rfl; exact digsOf_zero
/-- Digs without a 0 at their end are canonical. -/
theorem digsOf_val : ∀ {l : List Int}, Digs l → (l = [] ∨ l.getD (l.length - 1) 0 ≠ 0) → digsOf (valD l) = l
  | [], _, _ => digsOf_zero
  | x :: l, h, he => by
    have hx := h x (by simp)
    have hl : Digs l := fun y hy => h y (by simp [hy])
    have he' : l = [] ∨ l.getD (l.length - 1) 0 ≠ 0 := by
      cases l with
      | nil => exact .inl rfl
      | cons y l => right; simpa using he
    have ih := digsOf_val hl he'
    have hne : valD (x :: l) ≠ 0 := by
      rcases he' with rfl | he'
      · simp at he
        simp only [valD]
        omega
      · intro h0
        simp only [valD] at h0
        have h1 : valD l = 0 := by omega
        rw [h1, digsOf_zero] at ih
        rw [← ih] at he'
        simp at he'
    rw [digsOf_pos hne]
    simp only [valD]
    rw [show (x.toNat + 65536 * valD l) % 65536 = x.toNat by omega, show (x.toNat + 65536 * valD l) / 65536 = valD l by omega, ih]
    congr 1
    omega
theorem valD_append (l m : List Int) : valD (l ++ m) = valD l + 65536 ^ l.length * valD m := by
  induction l with
  | nil => simp [valD]
  | cons x l ih =>
    simp only [List.cons_append, valD, ih, List.length_cons]
    rw [Nat.pow_succ, Nat.mul_add, ← Nat.mul_assoc, Nat.mul_comm 65536 (65536 ^ l.length), Nat.add_assoc]
theorem valD_lt {l : List Int} (h : Digs l) : valD l < 65536 ^ l.length := by
  induction l with
  | nil => simp [valD]
  | cons x l ih =>
    have hx := h x (by simp)
    have := ih fun y hy => h y (by simp [hy])
    simp only [valD, List.length_cons, Nat.pow_succ]
    have h2 : valD l + 1 ≤ 65536 ^ l.length := this
    have h3 := Nat.mul_le_mul_right 65536 h2
    omega
theorem valD_zeros {l : List Int} (h : ∀ x ∈ l, x = 0) : valD l = 0 := by
  induction l with
  | nil => rfl
  | cons x l ih => simp only [valD]; rw [ih fun y hy => h y (by simp [hy]), h x (by simp)]; rfl
/-- What is left when the zeros at the end are struck. -/
theorem dtrim_take {l : List Int} {n : Nat} (h : Digs l) (hn : n ≤ l.length) (hz : ∀ j x, n ≤ j → l[j]? = some x → x = 0) (he : n = 0 ∨ l.getD (n - 1) 0 ≠ 0) : l.take n = digsOf (valD l) := by
  have hv : valD l = valD (l.take n) := by
    have h1 := valD_append (l.take n) (l.drop n)
    rw [List.take_append_drop] at h1
    rw [h1, valD_zeros (l := l.drop n), Nat.mul_zero, Nat.add_zero]
    intro x hx
    obtain ⟨j, hj⟩ := List.mem_iff_getElem?.1 hx
    rw [List.getElem?_drop] at hj
    exact hz _ x (by omega) hj
  rw [hv]
  refine (digsOf_val (fun x hx => h x (List.mem_of_mem_take hx)) ?_).symm
  rcases he with rfl | he
  · left; rfl
  · right
    rw [List.length_take, Nat.min_eq_left hn, List.getD_eq_getElem?_getD, List.getElem?_take]
    rcases Nat.eq_zero_or_pos n with e | e
    · exfalso
      subst e
      have := hz 0
      rw [List.getD_eq_getElem?_getD] at he
      cases hq : l[0]? with
      | none => rw [hq] at he; simp at he
      | some x => rw [show (0 : Nat) - 1 = 0 from rfl, hq] at he; exact he (this x (Nat.le_refl _) hq)
    · rw [if_pos (by omega), ← List.getD_eq_getElem?_getD]; exact he
theorem digsOf_len_le {l : List Int} (h : Digs l) : (digsOf (valD l)).length ≤ l.length := by
  -- strike zeros
  have key : ∀ n, n ≤ l.length → (∀ j x, n ≤ j → l[j]? = some x → x = 0) → (digsOf (valD l)).length ≤ n := by
    intro n
    induction n with
    | zero => intro h1 h2; rw [← dtrim_take h h1 h2 (.inl rfl)]; simp
    | succ n ih =>
      intro h1 h2
      by_cases hz : l.getD n 0 = 0
      · have := ih (by omega) (fun j x hj hx => by
          by_cases e : j = n
          · subst e; rw [List.getD_eq_getElem?_getD, hx] at hz; exact hz
          · exact h2 j x (by omega) hx)
        omega
      · rw [← dtrim_take h h1 h2 (.inr (by simpa using hz)), List.length_take]; omega
  exact key l.length (Nat.le_refl _) (fun j x hj hx => by rw [List.getElem?_eq_none (by omega)] at hx; cases hx)
theorem digsOf_take {l : List Int} (h : Digs l) : l.take (digsOf (valD l)).length = digsOf (valD l) := by
  have key : ∀ n, n ≤ l.length → (∀ j x, n ≤ j → l[j]? = some x → x = 0) → ∃ m, m ≤ l.length ∧ l.take m = digsOf (valD l) := by
    intro n
    induction n with
    | zero => intro h1 h2; exact ⟨0, h1, dtrim_take h h1 h2 (.inl rfl)⟩
    | succ n ih =>
      intro h1 h2
      by_cases hz : l.getD n 0 = 0
      · exact ih (by omega) (fun j x hj hx => by
          by_cases e : j = n
          · subst e; rw [List.getD_eq_getElem?_getD, hx] at hz; exact hz
          · exact h2 j x (by omega) hx)
      · exact ⟨n + 1, h1, dtrim_take h h1 h2 (.inr (by simpa using hz))⟩
  obtain ⟨m, hm, ht⟩ := key l.length (Nat.le_refl _) (fun j x hj hx => by rw [List.getElem?_eq_none (by omega)] at hx; cases hx)
  have hl : (digsOf (valD l)).length = m := by rw [← ht, List.length_take]; omega
  rw [hl]; exact ht
theorem digsOf_last (v : Nat) (h : v ≠ 0) : (digsOf v).getD ((digsOf v).length - 1) 0 ≠ 0 := by
  induction v using Nat.strongRecOn with
  | ind v ih =>
    rw [digsOf_pos h]
    by_cases h2 : v / 65536 = 0
    · rw [h2, digsOf_zero]
      simp
      omega
    · have := ih (v / 65536) (by omega) h2
      have hne : digsOf (v / 65536) ≠ [] := fun e => h2 (digsOf_nil.1 e)
      cases hl : digsOf (v / 65536) with
      | nil => exact absurd hl hne
      | cons y l =>
        rw [hl] at this
        simpa using this
theorem valD_snoc (l : List Int) (x : Int) : valD (l ++ [x]) = valD l + 65536 ^ l.length * x.toNat := by
  rw [valD_append]; simp [valD]
theorem valD_take (l : List Int) (k : Nat) (x : Int) (hx : l[k]? = some x) : valD (l.take (k + 1)) = valD (l.take k) + 65536 ^ k * x.toNat := by
  have hk := (List.getElem?_eq_some_iff.1 hx).1
  rw [List.take_add_one, hx]
  show valD (l.take k ++ [x]) = _
  rw [valD_snoc, List.length_take, Nat.min_eq_left (by omega)]
theorem digsOf_len {v n : Nat} (h : v < 65536 ^ n) : (digsOf v).length ≤ n := by
  induction n generalizing v with
  | zero => simp at h; subst h; rw [digsOf_zero]; simp
  | succ n ih =>
    by_cases h0 : v = 0
    · subst h0; rw [digsOf_zero]; simp
    · rw [digsOf_pos h0, List.length_cons]
      have := ih (v := v / 65536) (by rw [Nat.div_lt_iff_lt_mul (by decide), ← Nat.pow_succ]; exact h)
      omega

/-! ### Between limbs and digits -/
def halfs (l : List Int) : List Int := l.flatMap fun x => [x % 65536, x / 65536]
theorem halfs_len (l : List Int) : (halfs l).length = 2 * l.length := by
  induction l with
  | nil => rfl
  | cons x l ih => unfold halfs at *; rw [List.flatMap_cons, List.length_append, ih]; simp only [List.length_cons, List.length_nil]; omega
theorem halfs_snoc (l : List Int) (x : Int) : halfs (l ++ [x]) = halfs l ++ [x % 65536, x / 65536] := by unfold halfs; simp
theorem halfs_digs {l : List Int} (h : Limbs l) : Digs (halfs l) := by
  intro x hx
  unfold halfs at hx
  obtain ⟨y, hy, hx⟩ := List.mem_flatMap.1 hx
  have := h y hy
  simp at hx
  omega
theorem halfs_val {l : List Int} (h : Limbs l) : valD (halfs l) = valL l := by
  induction l with
  | nil => rfl
  | cons x l ih =>
    have hx := h x (by simp)
    have := ih fun y hy => h y (by simp [hy])
    show valD (x % 65536 :: x / 65536 :: halfs l) = _
    simp only [valD, valL, this]
    omega
/-- Two digits a limb. -/
def fulls : List Int → List Int
  | [] => []
  | [x] => [x]
  | x :: y :: l => (x + y * 65536) :: fulls l
theorem fulls_val : ∀ {l : List Int}, Digs l → valL (fulls l) = valD l
  | [], _ => rfl
  | [x], _ => by simp [fulls, valL, valD]
  | x :: y :: l, h => by
    have hx := h x (by simp)
    have hy := h y (by simp)
    have := fulls_val (l := l) fun z hz => h z (by simp [hz])
    simp only [fulls, valL, valD, this]
    omega
theorem fulls_limbs : ∀ {l : List Int}, Digs l → Limbs (fulls l)
  | [], _, z, hz => by simp [fulls] at hz
  | [x], h, z, hz => by
    have hx := h x (by simp)
    simp [fulls] at hz
    omega
  | x :: y :: l, h, z, hz => by
    have hx := h x (by simp)
    have hy := h y (by simp)
    simp only [fulls, List.mem_cons] at hz
    rcases hz with rfl | hz
    · omega
    · exact fulls_limbs (l := l) (fun z hz => h z (by simp [hz])) z hz
theorem fulls_last : ∀ {l : List Int}, Digs l → l.getD (l.length - 1) 0 ≠ 0 → (fulls l).getD ((fulls l).length - 1) 0 ≠ 0
  | [], _, hl => by simp at hl
  | [x], _, hl => hl
  | [x, y], h, hl => by
    have hx := h x (by simp)
    have hy := h y (by simp)
    simp [fulls] at hl ⊢
    omega
  | x :: y :: z :: l, h, hl => by
    have ih := fulls_last (l := z :: l) (fun w hw => h w (by simp [hw])) (by simpa using hl)
    have hne : fulls (z :: l) ≠ [] := by cases l <;> simp [fulls]
    simp only [fulls]
    cases hf : fulls (z :: l) with
    | nil => exact absurd hf hne
    | cons u m => rw [hf] at ih; simpa using ih
/-- Digits without zeros at the end are canonical limbs. -/
theorem fulls_canon (v : Nat) : fulls (digsOf v) = limbsOf v := by
  by_cases h : v = 0
  · subst h; rw [digsOf_zero, limbsOf_zero]; rfl
  · have h1 := fulls_val (digsOf_digs v)
    rw [valD_digsOf] at h1
    have h2 := limbsOf_val (fulls_limbs (digsOf_digs v)) (.inr (fulls_last (digsOf_digs v) (digsOf_last v h)))
    rw [h1] at h2
    exact h2.symm
theorem fulls_len : ∀ l : List Int, (fulls l).length = (l.length + 1) / 2
  | [] => rfl
  | [x] => by simp [fulls]
  | x :: y :: l => by simp only [fulls, List.length_cons, fulls_len l]; omega
end Go.Proofs.Ytkjfplldfjmbaaa

/- tandemref01: half, trim, at. -/
namespace Go.Proofs.Ytkjfplldfjmbaaa
open Go.RowKit

def DigsW (w : World) (ao : Option Addr) (l : List Int) : Prop := ∀ (j : Nat) x, l[j]? = some x → ∃ a, ao = some a ∧ w.cell? (a.add j) = some (.int .i64 x)
theorem DigsW.cells {w : World} {ao : Option Addr} {l : List Int} (h : DigsW w ao l) : CellsAt w ao (l.map i64) := by
  intro j u hu
  rw [List.getElem?_map] at hu
  cases hx : l[j]? with
  | none => rw [hx] at hu; cases hu
  | some y => rw [hx] at hu; cases hu; exact h j y hx
theorem digs_own {w : World} {R : HP} {v : Value} {n c : Nat} {ao : Option Addr} {l : List Int} (hv : v = .slice ao n c) (h : sat w (own 3 1 v n (l.map i64) * R)) : DigsW w ao l := by
  intro j x hx
  have hj := (List.getElem?_eq_some_iff.1 hx).1
  have hl : l.length = n := by have := h.open_own.1; simpa using this
  obtain ⟨b, c, hb, _, _, hr⟩ := h.own_some (by omega)
  rw [hv] at hb
  simp only [Value.slice.injEq] at hb
  obtain ⟨rfl, _⟩ := hb
  refine ⟨_, rfl, ?_⟩
  have ha : ((⟨b, 0, none⟩ : Addr).add j) = ⟨b, j, none⟩ := by unfold Addr.add; split <;> simp_all
  rw [ha]
  exact hr.row_cell (by rw [List.getElem?_map, hx]; rfl)
theorem info_i64 : (Try.prog.info? 3).map (fun i => (i.zero, i.size, i.bytes)) = some (some (.int .i64 0), 1, 8) := by kernel_rfl
theorem sat.drop_mid {w : World} {P Q R : HP} (h : sat w (P * (Q * R))) : sat w (P * R) := (show sat w ((P * R) * Q) from h.perm (by ac_rfl)).left
/-- The digits of a number, in new memory. -/
def DigPost (R : HP) (d : Nat) (w : World) (e : Ending) (w' : World) : Prop :=
  ∃ v, e = .returned v ∧ sat w' (own 3 1 v (digsOf d).length ((digsOf d).map i64) * R) ∧ Below 0 w w'
def DTrimRel (w : World) (l : List Int) (i : Value) (wr : World) : Prop :=
  ∃ n m : Nat, n ≤ l.length ∧ i = .int .i64 n ∧ wr = w.drewN m ∧ ∀ j x, n ≤ j → l[j]? = some x → x = 0
set_option maxRecDepth 100000 in
set_option maxHeartbeats 1000000 in
theorem ref_trim {w : World} {R : HP} (hs : sat w R) (ao : Option Addr) (n cap : Nat) (l : List Int) (hx : DigsW w ao l) (hl : Digs l) (hn : l.length = n) (hc : n ≤ cap) (hb : n ≤ 1099511627776) :
    Calls Try.prog 79 #[.slice ao n cap] w (DigPost R (valD l) w) := by
  subst hn
  obtain ⟨i0, hi, hz0, hz1, hz2⟩ := info_parts info_i64
  have H1 := Lib.hid (And.intro hi (And.intro hz0 (And.intro hz1 hz2)))
  clear hi hz0 hz1 hz2
  go_enter Try.func79, Try.ntmps79
  go_wp2_with fail
  go_loopw [3] (DTrimRel w l) (fun i _ => (intOf i).toNat)
  case atStart => exact ⟨l.length, 0, Nat.le_refl _, rfl, rfl, fun j x hj hx => by rw [List.getElem?_eq_none hj] at hx; cases hx⟩
  case round =>
    obtain ⟨n, m, hnl, rfl, rfl, hz⟩ := hrel
    have hend : (n = 0 ∨ l.getD (n - 1) 0 ≠ 0) → l.take n = digsOf (valD l) := dtrim_take hl hnl hz
    have hdone : ∀ (hq : l.take n = digsOf (valD l)), sat (w.drewN m) (own 3 1 (.slice none 0 0) 0 [] * R) ∧ n = (digsOf (valD l)).length ∧ CellsAt (w.drewN m) ao ((digsOf (valD l)).map i64) ∧ Below 0 w (w.drewN m) := by
      intro hq
      refine ⟨(hs.drewN m).nil_own, by rw [← hq, List.length_take]; omega, ?_, drewN_below0 _ _⟩
      rw [← hq]
      refine DigsW.cells fun j x hj => hx j x ?_
      rw [List.getElem?_take] at hj
      split at hj
      · exact hj
      · cases hj
    cases n with
    | zero =>
      have HT := Lib.hid (hdone (hend (.inl rfl)))
      clear hend hdone hz
      have b1 : decide (((0 : Nat) : Int) > 0) = false := by decide
      go_wp2_with (at_builtin; refine halt ?_)
      refine goon ?_
      obtain ⟨hi, hz0, hz1, hz2⟩ := H1.out
      obtain ⟨t1, t2, t3, t4⟩ := HT.out
      refine wpList_append_opt rfl (.const (.slice none 0 0)) (.tmp 20) 118 rfl 3 i0 (.int .i64 0) 1 8 Try.underlying118 hi hz0 hz1 hz2 rfl (by decide) (.slice none 0 0) 0 [] rfl R ao 0 cap ((digsOf (valD l)).map i64) rfl ?_ t1 (by simp [← t2]) t3 (fun u hu => by obtain ⟨x, _, rfl⟩ := List.mem_map.1 hu; rfl) (by omega) (by unfold maxLen; omega)
      intro v' w9 hs9 hb9
      rw [Nat.zero_add, List.nil_append, t2] at hs9
      have HQ := Lib.hid (And.intro hs9 (t4.trans hb9))
      clear hs9 hb9 t1 t2 t3 t4 hi hz0 hz1 hz2 HT
      go_wp2_with fail
      go_ret
      exact ⟨_, rfl, HQ.out.1, HQ.out.2⟩
    | succ n =>
      obtain ⟨x, ex⟩ : ∃ x, l[n]? = some x := ⟨_, List.getElem?_eq_getElem (by omega)⟩
      obtain ⟨a, rfl, hcx⟩ := hx n x ex
      have hcx' : (w.drewN m).cell? (a.add n) = some (.int .i64 x) := hcx
      have b1 : decide (((n + 1 : Nat) : Int) > 0) = true := by simp
      have g1 : IntKind.i64.wrap (((n + 1 : Nat) : Int) - 1) = n := by rw [IntWalk.i64_in _ (by omega)]; omega
      by_cases h0 : x = 0
      · have b2 : (x == 0) = true := by simp [h0]
        have HZ := Lib.hid (And.intro hz (And.intro ex h0))
        clear hz ex h0 hend hdone
        go_wp2_with fail
        go_roundw
        case rel =>
          refine ⟨n, m, by omega, by go_num, rfl, ?_⟩
          intro j y hj hy
          by_cases e : j = n
          · subst e; rw [HZ.out.2.1] at hy; cases hy; exact HZ.out.2.2
          · exact HZ.out.1 j y (by omega) hy
        case measure => simp [intOf]
      · have b2 : (x == 0) = false := by simp [h0]
        have HT := Lib.hid (hdone (hend (.inr (by rw [Nat.add_sub_cancel, List.getD_eq_getElem?_getD, ex]; exact h0))))
        have hnl2 : n + 1 ≤ cap := by omega
        clear hend hdone hz ex h0 hx
        go_wp2_with (at_builtin; refine halt ?_)
        refine goon ?_
        obtain ⟨hi, hz0, hz1, hz2⟩ := H1.out
        obtain ⟨t1, t2, t3, t4⟩ := HT.out
        refine wpList_append_opt rfl (.const (.slice none 0 0)) (.tmp 20) 118 rfl 3 i0 (.int .i64 0) 1 8 Try.underlying118 hi hz0 hz1 hz2 rfl (by decide) (.slice none 0 0) 0 [] rfl R (some a) (n + 1) cap ((digsOf (valD l)).map i64) rfl ?_ t1 (by simp [← t2]) t3 (fun u hu => by obtain ⟨x, _, rfl⟩ := List.mem_map.1 hu; rfl) (by omega) (by unfold maxLen; omega)
        intro v' w9 hs9 hb9
        rw [Nat.zero_add, List.nil_append, t2] at hs9
        have HQ := Lib.hid (And.intro hs9 (t4.trans hb9))
        clear hs9 hb9 t1 t2 t3 t4 hi hz0 hz1 hz2 HT
        go_wp2_with fail
        go_ret
        exact ⟨_, rfl, HQ.out.1, HQ.out.2⟩
set_option maxRecDepth 100000 in
theorem ref_at (w : World) (ao : Option Addr) (n cap : Nat) (l : List Int) (i : Nat) (hx : DigsW w ao l) (hn : l.length = n) (hb : n ≤ 1099511627776) (_ : i ≤ 1099511627776) :
    Calls Try.prog 78 #[.slice ao n cap, .int .i64 i] w (Says (.int .i64 (l.getD i 0)) w) := by
  subst hn
  by_cases hlt : i < l.length
  · obtain ⟨x, ex⟩ : ∃ x, l[i]? = some x := ⟨_, List.getElem?_eq_getElem (by omega)⟩
    obtain ⟨a, rfl, hcx⟩ := hx i x ex
    have hg : l.getD i 0 = x := by rw [List.getD_eq_getElem?_getD, ex]; rfl
    rw [hg]
    clear hg ex hx
    go_enter Try.func78, Try.ntmps78
    go_wp2_with fail
    go_ret
    exact says_ret0 rfl
  · have hg : l.getD i 0 = 0 := by rw [List.getD_eq_getElem?_getD, List.getElem?_eq_none (by omega)]; rfl
    have hge : decide ((i : Int) < (l.length : Int)) = false := by simp; omega
    rw [hg]
    clear hg hx
    go_enter Try.func78, Try.ntmps78
    go_wp2_with fail
    go_ret
    exact says_ret0 rfl
def HalfRel (W : World) (R : HP) (l : List Int) (sv i : Value) (wr : World) : Prop :=
  ∃ k : Nat, k ≤ l.length ∧ i = .int .i64 k ∧ sat wr (own 3 1 sv (2 * k) ((halfs (l.take k)).map i64) * R) ∧ Below 0 W wr
set_option maxRecDepth 100000 in
set_option maxHeartbeats 1000000 in
theorem ref_half {w : World} {R : HP} (hs : sat w R) (ao : Option Addr) (n cap : Nat) (l : List Int) (hx : ∀ w, sat w R → LimbsW w ao l) (hl : Limbs l) (hn : l.length = n) (hb : n ≤ 1073741824) :
    Calls Try.prog 75 #[.slice ao n cap] w (DigPost R (valL l) w) := by
  subst hn
  obtain ⟨i0, hi, hz0, hz1, hz2⟩ := info_parts info_i64
  have H1 := Lib.hid (And.intro hi (And.intro hz0 (And.intro hz1 hz2)))
  clear hi hz0 hz1 hz2
  go_enter Try.func75, Try.ntmps75
  go_wp2_with fail
  go_loopw [3, 4] (HalfRel w R l) (fun _ i _ => l.length - (intOf i).toNat)
  case atStart => exact ⟨0, Nat.zero_le _, rfl, by simpa [halfs] using hs.nil_own (e := 3) (sz := 1), Below.refl _ _⟩
  case round =>
    obtain ⟨k, hk, rfl, h1, hb1⟩ := hrel
    by_cases hlt : k < l.length
    · obtain ⟨x, ex⟩ : ∃ x, l[k]? = some x := ⟨_, List.getElem?_eq_getElem hlt⟩
      obtain ⟨a, rfl, hcx⟩ := hx wr h1.right k x ex
      have hxb := hl x (List.mem_of_getElem? ex)
      have htk : halfs (l.take (k + 1)) = halfs (l.take k) ++ [x % 65536, x / 65536] := by rw [List.take_add_one, ex]; exact halfs_snoc _ _
      obtain ⟨p, hp⟩ : ∃ p, x % 65536 = p := ⟨_, rfl⟩
      obtain ⟨q, hq⟩ : ∃ q, x / 65536 = q := ⟨_, rfl⟩
      rw [hp, hq] at htk
      have m1 : x.tmod 65536 = p := by rw [← hp]; exact Int.tmod_eq_emod_of_nonneg hxb.1
      have m2 : x.tdiv 65536 = q := by rw [← hq]; exact Int.tdiv_eq_ediv_of_nonneg hxb.1
      have p1 : IntKind.u32.wrap p = p := by rw [show IntKind.u32.wrap p = p % 4294967296 from rfl]; omega
      have q1 : IntKind.u32.wrap q = q := by rw [show IntKind.u32.wrap q = q % 4294967296 from rfl]; omega
      have p2 : IntKind.i64.wrap p = p := IntWalk.i64_in _ (by omega)
      have q2 : IntKind.i64.wrap q = q := IntWalk.i64_in _ (by omega)
      have hsN := (h1.drew.alloc (.cells #[.int .i64 p, .int .i64 q] 3)).left
      have hsA : sat (wr.drew.alloc (.cells #[.int .i64 p, .int .i64 q] 3)) (own 3 1 u3 (2 * k) ((halfs (l.take k)).map i64) * R) := (h1.drew.alloc (.cells #[.int .i64 p, .int .i64 q] 3)).right
      have hsN2 : ∀ (j : Nat) u, [Value.int .i64 p, .int .i64 q][j]? = some u → (wr.drew.alloc (.cells #[.int .i64 p, .int .i64 q] 3)).cell? ((⟨wr.heap.size, 0, none⟩ : Addr).add j) = some u := by
        intro j u hj
        have hj2 : j < 2 := (List.getElem?_eq_some_iff.1 hj).1
        have hadd : (⟨wr.heap.size, 0, none⟩ : Addr).add j = ⟨wr.heap.size, j, none⟩ := by unfold Addr.add; split <;> simp_all
        rw [hadd]
        exact (hsN.cell j).trans (by simpa using hj)
      have hBA : Below 0 w (wr.drew.alloc (.cells #[.int .i64 p, .int .i64 q] 3)) := (hb1.trans (drewN_below0 wr 1)).trans (Below.zero_alloc _ _)
      have HA := Lib.hid (And.intro hsA (And.intro hsN2 (And.intro hBA htk)))
      clear hsN hsA hsN2 hBA h1 hb1 htk hx hxb hp hq ex
      go_wp2_with fail
      go_region_law
        ((refine step_append_sat rfl (.tmp 11) (.tmp 24) 118 rfl 3 i0 (.int .i64 0) 1 8 Try.underlying118 H1.out.1 H1.out.2.1 H1.out.2.2.1 H1.out.2.2.2 rfl _ (2 * k) ((halfs (l.take k)).map i64) (by rfl) _ HA.out.1 ⟨wr.heap.size, 0, none⟩ 2 2 [.int .i64 p, .int .i64 q] (by rfl) rfl HA.out.2.1 (fun u hu => by simp at hu; rcases hu with rfl | rfl <;> rfl) (by omega) (by unfold maxLen; omega) (by omega) ?_; intro b7 c7 w7 hs7 hc7 hb7))
      all_goals (
        have hs8 := hs7.shut_own (n := 2 * k + 2) (by simp [halfs_len, List.length_take]; omega) hc7
        have HF := Lib.hid (And.intro hs8 (HA.out.2.2.1.trans hb7))
        clear hs7 hc7 hb7 hs8
        go_wp2_with fail
        go_roundw
        case rel => exact ⟨k + 1, by omega, by go_num, by rw [HA.out.2.2.2, List.map_append]; exact HF.out.1, HF.out.2⟩
        case measure => simp [intOf]; omega)
    · obtain rfl : k = l.length := by omega
      have hge : decide ((l.length : Int) < (l.length : Int)) = false := by simp
      rw [List.take_of_length_le (Nat.le_refl _)] at h1
      obtain ⟨b3, c3, rfl⟩ := own_val h1
      have hT := ref_trim h1 b3 (2 * l.length) c3 (halfs l) (digs_own rfl h1) (halfs_digs hl) (halfs_len l) (own_cap h1) (by omega)
      rw [halfs_val hl] at hT
      have HH := Lib.hid (And.intro hb1 hT)
      clear h1 hb1 hT hs hx
      go_wp2_with fail
      refine HH.out.2.mono ?_
      rintro e w4 ⟨v, rfl, h4, hb4⟩
      have HK := Lib.hid (And.intro h4 hb4)
      clear h4 hb4
      go_wp2_with fail
      go_ret
      exact ⟨v, rfl, HK.out.1.drop_mid, HH.out.1.trans HK.out.2⟩
/-- The limbs of a number, in new memory. -/
def LimPost (R : HP) (d : Nat) (w : World) (e : Ending) (w' : World) : Prop :=
  ∃ v, e = .returned v ∧ sat w' (own 66 1 v (limbsOf d).length ((limbsOf d).map u32v) * R) ∧ Below 0 w w'
def FullRel (W : World) (R : HP) (l : List Int) (sv i : Value) (wr : World) : Prop :=
  ∃ k : Nat, 2 * k ≤ l.length + 1 ∧ i = .int .i64 ((2 * k : Nat) : Int) ∧ sat wr (own 66 1 sv k ((fulls (l.take (2 * k))).map u32v) * R) ∧ Below 0 W wr
theorem fulls_two : ∀ (l : List Int) (k : Nat) {x y : Int}, l[2 * k]? = some x → l[2 * k + 1]? = some y → fulls (l.take (2 * (k + 1))) = fulls (l.take (2 * k)) ++ [x + y * 65536]
  | [], k, x, y, h, _ => by simp at h
  | [a], k, x, y, _, h => by simp at h
  | a :: b :: l, 0, x, y, h, h2 => by
    simp at h h2
    subst h h2
    simp [fulls]
  | a :: b :: l, k + 1, x, y, h, h2 => by
    have ih := fulls_two l k (x := x) (y := y) (by simpa [Nat.mul_add] using h) (by simpa [Nat.mul_add] using h2)
    rw [show 2 * (k + 1 + 1) = 2 * (k + 1) + 2 by omega, show 2 * (k + 1) = 2 * k + 2 by omega]
    rw [show 2 * (k + 1) = 2 * k + 2 by omega] at ih
    simp only [List.take_succ_cons, fulls, List.cons_append]
    rw [ih]
theorem fulls_one : ∀ (l : List Int) (k : Nat) {x : Int}, l[2 * k]? = some x → l[2 * k + 1]? = none → fulls (l.take (2 * (k + 1))) = fulls (l.take (2 * k)) ++ [x]
  | [], k, x, h, _ => by simp at h
  | [a], 0, x, h, _ => by simp at h; subst h; simp [fulls]
  | [a], k + 1, x, h, _ => by simp [Nat.mul_add] at h
  | a :: b :: l, 0, x, h, h2 => by simp at h2
  | a :: b :: l, k + 1, x, h, h2 => by
    have ih := fulls_one l k (x := x) (by simpa [Nat.mul_add] using h) (by simpa [Nat.mul_add] using h2)
    rw [show 2 * (k + 1 + 1) = 2 * (k + 1) + 2 by omega, show 2 * (k + 1) = 2 * k + 2 by omega]
    rw [show 2 * (k + 1) = 2 * k + 2 by omega] at ih
    simp only [List.take_succ_cons, fulls, List.cons_append]
    rw [ih]
set_option maxRecDepth 100000 in
set_option maxHeartbeats 1000000 in
theorem ref_full {w : World} {R : HP} (hs : sat w R) (ao : Option Addr) (n cap : Nat) (l : List Int) (hx : DigsW w ao l) (hl : Digs l) (hn : l.length = n) (hc : n ≤ cap) (hb : n ≤ 1099511627776) :
    Calls Try.prog 76 #[.slice ao n cap] w (LimPost R (valD l) w) := by
  obtain ⟨i0, hi, hz0, hz1, hz2⟩ := info_parts info_u32
  have H1 := Lib.hid (And.intro hi (And.intro hz0 (And.intro hz1 hz2)))
  clear hi hz0 hz1 hz2
  have hT := ref_trim hs ao n cap l hx hl hn hc hb
  have hdl : (digsOf (valD l)).length ≤ n := by rw [← hn]; exact digsOf_len_le hl
  have hfc := fulls_canon (valD l)
  have hdd := digsOf_digs (valD l)
  unfold LimPost
  rw [← hfc]
  clear hfc
  unfold DigPost at hT
  generalize digsOf (valD l) = m at *
  clear hs hx hl hn
  go_enter Try.func76, Try.ntmps76
  go_wp2_with fail
  refine hT.mono ?_
  rintro e w1 ⟨v, rfl, h1, hb1⟩
  obtain ⟨b3, c3, rfl⟩ := own_val h1
  have HH := Lib.hid (And.intro h1 hb1)
  clear hT h1 hb1
  go_wp2_with fail
  go_loopw [3, 4] (FullRel w (own 3 1 (.slice b3 m.length c3) m.length (m.map i64) * R) m) (fun _ i _ => m.length + 1 - (intOf i).toNat)
  case atStart => exact ⟨0, Nat.zero_le _, rfl, by simpa [fulls] using HH.out.1.nil_own (e := 66) (sz := 1), HH.out.2⟩
  case round =>
    obtain ⟨k, hk, rfl, h2, hb2⟩ := hrel
    by_cases hlt : 2 * k < m.length
    · obtain ⟨x, ex⟩ : ∃ x, m[2 * k]? = some x := ⟨_, List.getElem?_eq_getElem hlt⟩
      obtain ⟨a, ca, ea, _, _, hr⟩ := h2.right.own_some (by omega)
      cases ea
      have hcx : wr.cell? ⟨a, 2 * k, none⟩ = some (.int .i64 x) := hr.row_cell (by rw [List.getElem?_map, ex]; rfl)
      have hxb := hdd x (List.mem_of_getElem? ex)
      have q1 : IntKind.u32.wrap x = x := by rw [show IntKind.u32.wrap x = x % 4294967296 from rfl]; omega
      by_cases hl2 : 2 * k + 1 < m.length
      · obtain ⟨y, ey⟩ : ∃ y, m[2 * k + 1]? = some y := ⟨_, List.getElem?_eq_getElem hl2⟩
        have hcy : wr.cell? ⟨a, 2 * k + 1, none⟩ = some (.int .i64 y) := hr.row_cell (by rw [List.getElem?_map, ey]; rfl)
        have hyb := hdd y (List.mem_of_getElem? ey)
        have hft := fulls_two m k ex ey
        have q2 : IntKind.u32.wrap y = y := by rw [show IntKind.u32.wrap y = y % 4294967296 from rfl]; omega
        have q3 : IntKind.u32.wrap (y * 65536) = y * 65536 := by rw [show IntKind.u32.wrap (y * 65536) = y * 65536 % 4294967296 from rfl]; omega
        have q4 : IntKind.u32.wrap (x + y * 65536) = x + y * 65536 := by rw [show IntKind.u32.wrap (x + y * 65536) = (x + y * 65536) % 4294967296 from rfl]; omega
        have b2 : decide (((2 * k : Nat) : Int) + 1 < (m.length : Int)) = true := by simp; omega
        have b1 : decide (((2 * k : Nat) : Int) < (m.length : Int)) = true := by simp; omega
        obtain ⟨j, hj⟩ : ∃ j, 2 * k = j := ⟨_, rfl⟩
        rw [hj] at hcx hcy b1 b2 hlt hl2
        have HE := Lib.hid (And.intro hft (And.intro hb2 h2))
        clear hft hb2 h2 hdd ex ey hr
        rw [hj]
        go_wp2_with (at_builtin; refine halt ?_)
        refine goon ?_
        generalize x + y * 65536 = z at *
        have hs7 : sat (wr.alloc (.cells #[.int .u32 z] 66)) (own 66 1 u3 k ((fulls (m.take (2 * k))).map u32v) * (Go.Proofs.Ytkjfplldfjmbaaa.blk wr.heap.size (.cells #[.int .u32 z] 66 (0, 0)) * (own 3 1 (.slice (some ⟨a, 0, none⟩) m.length c3) m.length (m.map i64) * R))) := (HE.out.2.2.alloc (.cells #[.int .u32 z] 66)).perm (by ac_rfl)
        have hnew := (hs7.right.left.cell 0).trans (show _ = some (Value.int .u32 z) from rfl)
        have hb7 : Below 0 w (wr.alloc (.cells #[.int .u32 z] 66)) := HE.out.2.1.trans (Below.zero_alloc _ _)
        obtain ⟨hi, hz0, hz1, hz2⟩ := H1.out
        refine wpList_append_one rfl (.tmp 33) (.tmp 35) 55 rfl 66 i0 (.int .u32 0) 4 Try.underlying55 hi hz0 hz1 hz2 rfl u3 k ((fulls (m.take (2 * k))).map u32v) rfl _ wr.heap.size (.int .u32 z) rfl ?_ hs7 hnew rfl (by omega) (by unfold maxLen; omega)
        clear hi hz0 hz1 hz2 hnew hs7 HH
        intro v' w9 hs9 hb9
        have HQ := Lib.hid (And.intro hs9.drop_mid (hb7.trans hb9))
        clear hs9 hb9 hb7
        rw [← hj] at b1 b2 ⊢
        go_wp2_with fail
        go_roundw
        case rel => exact ⟨k + 1, by omega, by rw [show 2 * (k + 1) = 2 * k + 2 by omega]; go_num, by rw [HE.out.1, List.map_append]; exact HQ.out.1, HQ.out.2⟩
        case measure => simp [intOf]; omega
      · have b2 : decide (((2 * k : Nat) : Int) + 1 < (m.length : Int)) = false := by simp; omega
        have b1 : decide (((2 * k : Nat) : Int) < (m.length : Int)) = true := by simp; omega
        have hft := fulls_one m k ex (List.getElem?_eq_none (by omega))
        obtain ⟨j, hj⟩ : ∃ j, 2 * k = j := ⟨_, rfl⟩
        rw [hj] at hcx b1 b2 hlt hl2
        have HE := Lib.hid (And.intro hft (And.intro hb2 h2))
        clear hft hb2 h2 hdd ex hr
        rw [hj]
        go_wp2_with (at_builtin; refine halt ?_)
        refine goon ?_
        generalize x = z at *
        have hs7 : sat (wr.alloc (.cells #[.int .u32 z] 66)) (own 66 1 u3 k ((fulls (m.take (2 * k))).map u32v) * (Go.Proofs.Ytkjfplldfjmbaaa.blk wr.heap.size (.cells #[.int .u32 z] 66 (0, 0)) * (own 3 1 (.slice (some ⟨a, 0, none⟩) m.length c3) m.length (m.map i64) * R))) := (HE.out.2.2.alloc (.cells #[.int .u32 z] 66)).perm (by ac_rfl)
        have hnew := (hs7.right.left.cell 0).trans (show _ = some (Value.int .u32 z) from rfl)
        have hb7 : Below 0 w (wr.alloc (.cells #[.int .u32 z] 66)) := HE.out.2.1.trans (Below.zero_alloc _ _)
        obtain ⟨hi, hz0, hz1, hz2⟩ := H1.out
        refine wpList_append_one rfl (.tmp 33) (.tmp 35) 55 rfl 66 i0 (.int .u32 0) 4 Try.underlying55 hi hz0 hz1 hz2 rfl u3 k ((fulls (m.take (2 * k))).map u32v) rfl _ wr.heap.size (.int .u32 z) rfl ?_ hs7 hnew rfl (by omega) (by unfold maxLen; omega)
        clear hi hz0 hz1 hz2 hnew hs7 HH
        intro v' w9 hs9 hb9
        have HQ := Lib.hid (And.intro hs9.drop_mid (hb7.trans hb9))
        clear hs9 hb9 hb7
        rw [← hj] at b1 b2 ⊢
        go_wp2_with fail
        go_roundw
        case rel => exact ⟨k + 1, by omega, by rw [show 2 * (k + 1) = 2 * k + 2 by omega]; go_num, by rw [HE.out.1, List.map_append]; exact HQ.out.1, HQ.out.2⟩
        case measure => simp [intOf]; omega
    · have b1 : decide (((2 * k : Nat) : Int) < (m.length : Int)) = false := by simp; omega
      have hft : fulls (m.take (2 * k)) = fulls m := by rw [List.take_of_length_le (by omega)]
      have hlen : k = (fulls m).length := by rw [fulls_len]; omega
      rw [hft] at h2
      have HF := Lib.hid (And.intro h2.drop_mid (And.intro hb2 hlen))
      clear hft h2 hb2 hlen HH
      go_wp2_with fail
      go_ret
      exact ⟨_, rfl, by rw [← HF.out.2.2]; exact HF.out.1, HF.out.2.1⟩
end Go.Proofs.Ytkjfplldfjmbaaa

/- tandemref01: add, Add. -/
namespace Go.Proofs.Ytkjfplldfjmbaaa
open Go.RowKit

theorem valD_takeD (l : List Int) (k : Nat) : valD (l.take (k + 1)) = valD (l.take k) + 65536 ^ k * (l.getD k 0).toNat := by
  rcases Nat.lt_or_ge k l.length with h | h
  · rw [List.getD_eq_getElem?_getD, List.getElem?_eq_getElem h]
    exact valD_take l k _ (List.getElem?_eq_getElem h)
  · rw [List.take_of_length_le (by omega), List.take_of_length_le h, List.getD_eq_getElem?_getD, List.getElem?_eq_none h]
    simp
theorem digs_getD {l : List Int} (h : Digs l) (k : Nat) : 0 ≤ l.getD k 0 ∧ l.getD k 0 < 65536 := by
  rw [List.getD_eq_getElem?_getD]
  cases hx : l[k]? with
  | none => exact ⟨Int.le_refl _, by decide⟩
  | some x => exact h x (List.mem_of_getElem? hx)
theorem dadd_digit (P : Nat) {va vb vs c x y t : Nat} (h : vs + P * c = va + vb) (ht : t = x + y + c) : vs + P * (t % 65536) + P * 65536 * (t / 65536) = va + P * x + (vb + P * y) := by
  have h1 : P * (t % 65536) + P * 65536 * (t / 65536) = P * t := by
    rw [Nat.mul_assoc, ← Nat.mul_add]
    congr 1
    omega
  rw [Nat.add_assoc, h1, ht, Nat.mul_add, Nat.mul_add]
  omega
def RAddRel (W : World) (R : HP) (a b : List Int) (m : Nat) (sv c i : Value) (wr : World) : Prop :=
  ∃ (k : Nat) (cv : Int) (s : List Int), k ≤ m ∧ i = .int .i64 k ∧ c = .int .i64 cv ∧ 0 ≤ cv ∧ cv ≤ 1 ∧ s.length = k ∧ Digs s ∧ valD s + 65536 ^ k * cv.toNat = valD (a.take k) + valD (b.take k) ∧
    sat wr (own 3 1 sv k (s.map i64) * R) ∧ Below 0 W wr
set_option maxRecDepth 100000 in
set_option maxHeartbeats 1000000 in
theorem ref_add {w : World} {R : HP} (hs : sat w R) (ao bo : Option Addr) (na nb ca cb : Nat) (a b : List Int) (ha : ∀ w, sat w R → DigsW w ao a) (hb : ∀ w, sat w R → DigsW w bo b) (la : Digs a) (lb : Digs b) (ea : a.length = na) (eb : b.length = nb) (ba : na ≤ 1073741824) (bb : nb ≤ 1073741824) :
    Calls Try.prog 74 #[.slice ao na ca, .slice bo nb cb] w (DigPost R (valD a + valD b) w) := by
  obtain ⟨i0, hi, hz0, hz1, hz2⟩ := info_parts info_i64
  have H1 := Lib.hid (And.intro hi (And.intro hz0 (And.intro hz1 hz2)))
  clear hi hz0 hz1 hz2
  obtain ⟨m, hm⟩ : ∃ m, max na nb = m := ⟨_, rfl⟩
  have HD := Lib.hid (And.intro ha (And.intro hb (And.intro la lb)))
  clear ha hb la lb
  go_enter Try.func74, Try.ntmps74
  go_wp2_with fail
  go_loopw [5, 6, 7] (RAddRel w R a b m) (fun _ _ i _ => m - (intOf i).toNat)
  case atStart => exact ⟨0, 0, [], Nat.zero_le _, rfl, rfl, by decide, by decide, rfl, fun x hx => by simp at hx, by simp [valD], hs.nil_own, Below.refl _ _⟩
  case round =>
    obtain ⟨k, cv, s, hk, rfl, rfl, c0, c1, hsl, hsd, hv, h1, hb1⟩ := hrel
    have hxa := digs_getD HD.out.2.2.1 k
    have hxb := digs_getD HD.out.2.2.2 k
    have hA := ref_at wr ao na ca a k (HD.out.1 _ h1.right) ea (by omega) (by omega)
    have hB := fun n => ref_at (wr.drewN n) bo nb cb b k (HD.out.2.1 _ h1.right) eb (by omega) (by omega)
    by_cases hlt : k < m
    · have hva := valD_takeD a k
      have hvb := valD_takeD b k
      generalize a.getD k 0 = x at *
      generalize b.getD k 0 = y at *
      obtain ⟨p, hp⟩ : ∃ p, (x + y + cv) % 65536 = p := ⟨_, rfl⟩
      obtain ⟨q, hq⟩ : ∃ q, (x + y + cv) / 65536 = q := ⟨_, rfl⟩
      have m1 : (x + y + cv).tmod 65536 = p := by rw [← hp]; exact Int.tmod_eq_emod_of_nonneg (by omega)
      have m2 : (x + y + cv).tdiv 65536 = q := by rw [← hq]; exact Int.tdiv_eq_ediv_of_nonneg (by omega)
      have g1 : IntKind.i64.wrap (x + y) = x + y := IntWalk.i64_in _ (by omega)
      have g2 : IntKind.i64.wrap (x + y + cv) = x + y + cv := IntWalk.i64_in _ (by omega)
      have p2 : IntKind.i64.wrap p = p := IntWalk.i64_in _ (by omega)
      have q2 : IntKind.i64.wrap q = q := IntWalk.i64_in _ (by omega)
      have hdd := dadd_digit (65536 ^ k) (x := x.toNat) (y := y.toNat) hv rfl
      have hp' : (x.toNat + y.toNat + cv.toNat) % 65536 = p.toNat := by omega
      have hq' : (x.toNat + y.toNat + cv.toNat) / 65536 = q.toNat := by omega
      rw [hp', hq', ← hva, ← hvb, ← Nat.pow_succ] at hdd
      have hpb : 0 ≤ p ∧ p < 65536 := by omega
      have hqb : 0 ≤ q ∧ q ≤ 1 := by omega
      have HE := Lib.hid (And.intro hdd (And.intro hsl (And.intro hsd (And.intro hpb (And.intro hqb (And.intro h1 hb1))))))
      clear hdd hsl hsd hpb hqb h1 hb1 hp' hq' hva hvb hv hp hq hs
      have hgd : k < na ∨ (decide (k < na) = false ∧ k < nb) := by
        simp only [decide_eq_false_iff_not]; omega
      rcases hgd with b1 | ⟨b1, b2⟩
      · skip
        go_wp2_with fail
        refine hA.mono ?_
        clear hA
        rintro e w' ⟨rfl, j1, rfl⟩
        go_wp2_with fail
        refine (hB _).mono ?_
        clear hB
        rintro e w' ⟨rfl, j2, rfl⟩
        go_wp2_with (at_builtin; refine halt ?_)
        refine goon ?_
        have hs7 : sat ((wr.drewN (j1 + j2)).alloc (.cells #[.int .i64 p] 3)) (own 3 1 u5 k (s.map i64) * (Go.Proofs.Ytkjfplldfjmbaaa.blk wr.heap.size (.cells #[.int .i64 p] 3 (0, 0)) * R)) := ((HE.out.2.2.2.2.2.1.drewN (j1 + j2)).alloc (.cells #[.int .i64 p] 3)).perm (by ac_rfl)
        have hnew := (hs7.right.left.cell 0).trans (show _ = some (Value.int .i64 p) from rfl)
        have hb7 : Below 0 w ((wr.drewN (j1 + j2)).alloc (.cells #[.int .i64 p] 3)) := (HE.out.2.2.2.2.2.2.trans (drewN_below0 _ (j1 + j2))).trans (Below.zero_alloc _ _)
        obtain ⟨hi, hz0, hz1, hz2⟩ := H1.out
        refine wpList_append_one rfl (.tmp 30) (.tmp 33) 118 rfl 3 i0 (.int .i64 0) 8 Try.underlying118 hi hz0 hz1 hz2 rfl u5 k (s.map i64) rfl _ wr.heap.size (.int .i64 p) rfl ?_ hs7 hnew rfl (by omega) (by unfold maxLen; omega)
        clear hi hz0 hz1 hz2 hnew hs7
        intro v' w9 hs9 hb9
        have HQ := Lib.hid (And.intro hs9.drop_mid (hb7.trans hb9))
        clear hs9 hb9 hb7
        go_wp2_with fail
        go_roundw
        case rel => exact ⟨k + 1, q, s ++ [p], by omega, by go_num, rfl, HE.out.2.2.2.2.1.1, HE.out.2.2.2.2.1.2, by simp [HE.out.2.1], fun z hz => by
            rcases List.mem_append.1 hz with hz | hz
            · exact HE.out.2.2.1 z hz
            · simp at hz; subst hz; exact HE.out.2.2.2.1, by rw [valD_append, HE.out.2.1]; simp only [valD, Nat.mul_zero, Nat.add_zero]; exact HE.out.1, by rw [List.map_append]; exact HQ.out.1, HQ.out.2⟩
        case measure => simp [intOf]; omega
      · skip
        go_wp2_with fail
        refine hA.mono ?_
        clear hA
        rintro e w' ⟨rfl, j1, rfl⟩
        go_wp2_with fail
        refine (hB _).mono ?_
        clear hB
        rintro e w' ⟨rfl, j2, rfl⟩
        go_wp2_with (at_builtin; refine halt ?_)
        refine goon ?_
        have hs7 : sat ((wr.drewN (j1 + j2)).alloc (.cells #[.int .i64 p] 3)) (own 3 1 u5 k (s.map i64) * (Go.Proofs.Ytkjfplldfjmbaaa.blk wr.heap.size (.cells #[.int .i64 p] 3 (0, 0)) * R)) := ((HE.out.2.2.2.2.2.1.drewN (j1 + j2)).alloc (.cells #[.int .i64 p] 3)).perm (by ac_rfl)
        have hnew := (hs7.right.left.cell 0).trans (show _ = some (Value.int .i64 p) from rfl)
        have hb7 : Below 0 w ((wr.drewN (j1 + j2)).alloc (.cells #[.int .i64 p] 3)) := (HE.out.2.2.2.2.2.2.trans (drewN_below0 _ (j1 + j2))).trans (Below.zero_alloc _ _)
        obtain ⟨hi, hz0, hz1, hz2⟩ := H1.out
        refine wpList_append_one rfl (.tmp 30) (.tmp 33) 118 rfl 3 i0 (.int .i64 0) 8 Try.underlying118 hi hz0 hz1 hz2 rfl u5 k (s.map i64) rfl _ wr.heap.size (.int .i64 p) rfl ?_ hs7 hnew rfl (by omega) (by unfold maxLen; omega)
        clear hi hz0 hz1 hz2 hnew hs7
        intro v' w9 hs9 hb9
        have HQ := Lib.hid (And.intro hs9.drop_mid (hb7.trans hb9))
        clear hs9 hb9 hb7
        go_wp2_with fail
        go_roundw
        case rel => exact ⟨k + 1, q, s ++ [p], by omega, by go_num, rfl, HE.out.2.2.2.2.1.1, HE.out.2.2.2.2.1.2, by simp [HE.out.2.1], fun z hz => by
            rcases List.mem_append.1 hz with hz | hz
            · exact HE.out.2.2.1 z hz
            · simp at hz; subst hz; exact HE.out.2.2.2.1, by rw [valD_append, HE.out.2.1]; simp only [valD, Nat.mul_zero, Nat.add_zero]; exact HE.out.1, by rw [List.map_append]; exact HQ.out.1, HQ.out.2⟩
        case measure => simp [intOf]; omega
    · obtain rfl : k = m := by omega
      have b1 : decide (k < na) = false := by rw [decide_eq_false_iff_not]; omega
      have b2 : decide (k < nb) = false := by rw [decide_eq_false_iff_not]; omega
      rw [List.take_of_length_le (by omega), List.take_of_length_le (by omega)] at hv
      clear hA hB hxa hxb
      have hdc : Digs (s ++ [cv]) := fun z hz => by
        rcases List.mem_append.1 hz with hz | hz
        · exact hsd z hz
        · simp at hz; subst hz; omega
      have hvc : valD (s ++ [cv]) = valD a + valD b := by rw [valD_append, hsl]; simp only [valD, Nat.mul_zero, Nat.add_zero]; exact hv
      have HE := Lib.hid (And.intro hdc (And.intro hvc (And.intro hsl (And.intro h1 hb1))))
      clear hdc hvc hsd hv h1 hb1 hs hsl
      go_wp2_with (at_builtin; refine halt ?_)
      refine goon ?_
      have hs7 : sat (wr.alloc (.cells #[.int .i64 cv] 3)) (own 3 1 u5 k (s.map i64) * (Go.Proofs.Ytkjfplldfjmbaaa.blk wr.heap.size (.cells #[.int .i64 cv] 3 (0, 0)) * R)) := (HE.out.2.2.2.1.alloc (.cells #[.int .i64 cv] 3)).perm (by ac_rfl)
      have hnew := (hs7.right.left.cell 0).trans (show _ = some (Value.int .i64 cv) from rfl)
      have hb7 : Below 0 w (wr.alloc (.cells #[.int .i64 cv] 3)) := HE.out.2.2.2.2.trans (Below.zero_alloc _ _)
      obtain ⟨hi, hz0, hz1, hz2⟩ := H1.out
      refine wpList_append_one rfl (.tmp 37) (.tmp 39) 118 rfl 3 i0 (.int .i64 0) 8 Try.underlying118 hi hz0 hz1 hz2 rfl u5 k (s.map i64) rfl _ wr.heap.size (.int .i64 cv) rfl ?_ hs7 hnew rfl (by omega) (by unfold maxLen; omega)
      clear hi hz0 hz1 hz2 hnew hs7
      intro v' w9 hs9 hb9
      have hs10 : sat w9 (own 3 1 v' (k + 1) ((s ++ [cv]).map i64) * R) := by rw [List.map_append]; exact hs9.drop_mid
      obtain ⟨a9, c9, rfl⟩ := own_val hs10
      have hT := ref_trim hs10 a9 (k + 1) c9 (s ++ [cv]) (digs_own rfl hs10) HE.out.1 (by simp [HE.out.2.2.1]) (own_cap hs10) (by omega)
      rw [HE.out.2.1] at hT
      have HQ := Lib.hid (hb7.trans hb9)
      clear hs9 hb9 hb7 hs10 HE
      go_wp2_with fail
      refine hT.mono ?_
      rintro e w4 ⟨v, rfl, h4, hb4⟩
      have HK := Lib.hid (And.intro h4.drop_mid (HQ.out.trans hb4))
      clear h4 hb4 hT
      go_wp2_with fail
      go_ret
      exact ⟨v, rfl, HK.out.1, HK.out.2⟩
end Go.Proofs.Ytkjfplldfjmbaaa

/- tandemref01.Add, tandemref02.Of, Canon. -/
namespace Go.Proofs.Ytkjfplldfjmbaaa
open Go.RowKit

/-- Rows of limbs that lie in a row. -/
def SlicesIn (R : HP) (b : Nat) (ls : List (Option Addr × Nat × List Int)) : Prop := ∀ w, sat w R → ∀ (j : Nat) t, ls[j]? = some t → w.cell? ⟨b, j, none⟩ = some (.slice t.1 t.2.2.length t.2.1) ∧ LimbsW w t.1 t.2.2
def sumV (ls : List (Option Addr × Nat × List Int)) : Nat := (ls.map fun t => valL t.2.2).sum
theorem digs_bound {n m a b : Nat} (ha : a < 65536 ^ n) (hb : b < 65536 ^ m) (h : m ≤ n) : a + b < 65536 ^ (n + 1) := by
  have h1 : 65536 ^ m ≤ 65536 ^ n := Nat.pow_le_pow_right (by decide) h
  rw [Nat.pow_succ]
  omega
theorem sumV_bound : ∀ (ls : List (Option Addr × Nat × List Int)) (L k : Nat), (∀ t ∈ ls, valL t.2.2 < 65536 ^ L) → k ≤ ls.length → sumV (ls.take k) < 65536 ^ (L + k) := by
  intro ls L k h hk
  induction k with
  | zero => simp only [List.take_zero, sumV, List.map_nil, List.sum_nil]; exact Nat.pow_pos (by decide)
  | succ k ih =>
    have h1 := ih (by omega)
    have h2 := h ls[k] (List.getElem_mem _)
    have h3 := digs_bound h1 h2 (by omega)
    rw [List.take_add_one, List.getElem?_eq_getElem (by omega)]
    unfold sumV at *
    simp only [Option.toList_some, List.map_append, List.sum_append, List.map_cons, List.map_nil, List.sum_cons, List.sum_nil, Nat.add_zero]
    exact h3
theorem valL_bound {l : List Int} (h : Limbs l) {m : Nat} (hl : l.length ≤ m) : valL l < 65536 ^ (2 * m) := by
  have h1 := valL_lt h
  have h2 : (4294967296 : Nat) ^ l.length ≤ 4294967296 ^ m := Nat.pow_le_pow_right (by decide) hl
  rw [Nat.pow_mul]
  exact Nat.lt_of_lt_of_le h1 h2
def RSumRel (W : World) (R : HP) (ls : List (Option Addr × Nat × List Int)) (sv i : Value) (wr : World) : Prop :=
  ∃ k : Nat, k ≤ ls.length ∧ i = .int .i64 k ∧ sat wr (own 3 1 sv (digsOf (sumV (ls.take k))).length ((digsOf (sumV (ls.take k))).map i64) * R) ∧ Below 0 W wr
set_option maxRecDepth 100000 in
set_option maxHeartbeats 1000000 in
theorem ref_Add {w : World} {R : HP} (hs : sat w R) (b n c : Nat) (ls : List (Option Addr × Nat × List Int)) (hn : ls.length = n) (hb : n ≤ 10) (hx : SlicesIn R b ls) (hl : ∀ t ∈ ls, Limbs t.2.2 ∧ t.2.2.length ≤ 268435456) :
    Calls Try.prog 69 #[.slice (some ⟨b, 0, none⟩) n c] w (LimPost R (sumV ls) w) := by
  subst hn
  obtain ⟨L, hL⟩ : ∃ L : Nat, L = 268435456 := ⟨_, rfl⟩
  rw [← hL] at hl
  have hbd := fun k => sumV_bound ls (2 * L) k (fun t ht => valL_bound (hl t ht).1 (hl t ht).2)
  have HX := Lib.hid (And.intro hx (And.intro hl hbd))
  clear hx hl hbd
  go_enter Try.func69, Try.ntmps69
  go_wp2_with fail
  go_loopw [3, 4] (RSumRel w R ls) (fun _ i _ => ls.length - (intOf i).toNat)
  case atStart => exact ⟨0, Nat.zero_le _, rfl, by simpa [sumV, digsOf_zero] using hs.nil_own (e := 3) (sz := 1), Below.refl _ _⟩
  case round =>
    obtain ⟨k, hk, rfl, h1, hb1⟩ := hrel
    have hlen := digsOf_len (HX.out.2.2 k hk)
    by_cases hlt : k < ls.length
    · obtain ⟨t, ex⟩ : ∃ t, ls[k]? = some t := ⟨_, List.getElem?_eq_getElem hlt⟩
      obtain ⟨hcx, htx⟩ := HX.out.1 wr h1.right k t ex
      have htl := HX.out.2.1 t (List.mem_of_getElem? ex)
      have hsum : sumV (ls.take (k + 1)) = sumV (ls.take k) + valL t.2.2 := by rw [List.take_add_one, ex]; unfold sumV; simp
      have hH := ref_half h1 t.1 t.2.2.length t.2.1 t.2.2 (fun w h => (HX.out.1 w h.right k t ex).2) htl.1 rfl (by omega)
      obtain ⟨a3, c3, rfl⟩ := own_val h1
      have htlen := digsOf_len (valL_bound htl.1 htl.2)
      generalize valL t.2.2 = v1 at *
      generalize sumV (ls.take k) = v0 at *
      have HE := Lib.hid (And.intro hsum (And.intro hb1 htlen))
      clear hsum hb1 h1 htx htl ex hs htlen
      go_wp2_with fail
      refine hH.mono ?_
      clear hH
      rintro e w3 ⟨v, rfl, h3, hb3⟩
      obtain ⟨a4, c4, rfl⟩ := own_val h3
      have hA := ref_add h3 a3 a4 (digsOf v0).length (digsOf v1).length c3 c4 (digsOf v0) (digsOf v1) (fun w h => digs_own rfl h.right) (fun w h => digs_own rfl h) (digsOf_digs _) (digsOf_digs _) rfl rfl (by omega) (by have := HE.out.2.2; omega)
      rw [valD_digsOf, valD_digsOf, ← HE.out.1] at hA
      have HF := Lib.hid (HE.out.2.1.trans hb3)
      clear h3 hb3
      go_wp2_with fail
      refine hA.mono ?_
      clear hA
      rintro e w5 ⟨v, rfl, h5, hb5⟩
      have HG := Lib.hid (And.intro h5.drop_mid.drop_mid (HF.out.trans hb5))
      clear h5 hb5
      go_wp2_with fail
      go_roundw
      case rel => exact ⟨k + 1, by omega, by go_num, HG.out.1, HG.out.2⟩
      case measure => simp [intOf]; omega
    · obtain rfl : k = ls.length := by omega
      have hge : decide ((ls.length : Int) < (ls.length : Int)) = false := by simp
      rw [List.take_of_length_le (Nat.le_refl _)] at h1 hlen
      obtain ⟨a3, c3, rfl⟩ := own_val h1
      have hT := ref_full h1 a3 _ c3 (digsOf (sumV ls)) (digs_own rfl h1) (digsOf_digs _) rfl (own_cap h1) (by omega)
      rw [valD_digsOf] at hT
      have HH := Lib.hid (And.intro hb1 hT)
      clear h1 hb1 hT hs
      go_wp2_with fail
      refine HH.out.2.mono ?_
      rintro e w4 ⟨v, rfl, h4, hb4⟩
      have HK := Lib.hid (And.intro h4.drop_mid (HH.out.1.trans hb4))
      clear h4 hb4
      go_wp2_with fail
      go_ret
      exact ⟨v, rfl, HK.out.1, HK.out.2⟩
/-- A canonical number, in new memory. -/
def RefNumPost (R : HP) (s : Int) (w : World) (e : Ending) (w' : World) : Prop :=
  ∃ ao c, e = .returned (.agg #[.bool (decide (s < 0)), .slice ao (limbsOf s.natAbs).length c]) ∧ sat w' (own 66 1 (.slice ao (limbsOf s.natAbs).length c) (limbsOf s.natAbs).length ((limbsOf s.natAbs).map u32v) * R) ∧ Below 0 w w'
set_option maxRecDepth 100000 in
set_option maxHeartbeats 1000000 in
theorem ref_Of {w : World} {R : HP} (hs : sat w R) (n : Bool) (ao : Option Addr) (ca : Nat) (a : List Int) (ha : ∀ w, sat w R → LimbsW w ao a) (la : Limbs a) (na : a.length ≤ 268435456) :
    Calls Try.prog 63 #[.bool n, .slice ao a.length ca] w (RefNumPost R (sgn n (valL a)) w) := by
  have h1 := (hs.alloc (.cells #[.bool false, .slice none 0 0] 57)).alloc (.cells #[.slice ao a.length ca] 55)
  rw [World.size_alloc] at h1
  have hA := ref_Add h1 (w.heap.size + 1) 1 1 [(ao, ca, a)] rfl (by decide) (by
    intro w' h j t hj
    match j, hj with
    | 0, hj =>
      simp at hj
      subst hj
      exact ⟨(h.left.cell 0).trans rfl, ha _ h.right.right⟩) (by simp; exact ⟨la, na⟩)
  rw [show sumV [(ao, ca, a)] = valL a by simp [sumV]] at hA
  have HB := Lib.hid (show Below 0 w _ from (Below.zero_alloc w (.cells #[.bool false, .slice none 0 0] 57)).trans (Below.zero_alloc _ (.cells #[.slice ao a.length ca] 55)))
  clear h1
  go_enter Try.func63, Try.ntmps63
  go_wp2_with fail
  refine hA.mono ?_
  clear hA
  rintro e w3 ⟨v, rfl, h3, hb3⟩
  obtain ⟨a3, c3, rfl⟩ := own_val h3
  have hs4 : sat w3 (Go.Proofs.Ytkjfplldfjmbaaa.blk w.heap.size (.cells #[.bool false, .slice none 0 0] 57 (0, 0)) * (own 66 1 (.slice a3 (limbsOf (valL a)).length c3) (limbsOf (valL a)).length ((limbsOf (valL a)).map u32v) * R)) := (h3.perm (by ac_rfl) : sat w3 (Go.Proofs.Ytkjfplldfjmbaaa.blk (w.heap.size + 1) (.cells #[.slice ao a.length ca] 55 (0, 0)) * (Go.Proofs.Ytkjfplldfjmbaaa.blk w.heap.size (.cells #[.bool false, .slice none 0 0] 57 (0, 0)) * (own 66 1 (.slice a3 (limbsOf (valL a)).length c3) (limbsOf (valL a)).length ((limbsOf (valL a)).map u32v) * R)))).right
  have hsa : limbsOf (sgn n (valL a)).natAbs = limbsOf (valL a) := by rw [sgn_abs]
  have hsg : decide (sgn n (valL a) < 0) = (n && decide (0 < (limbsOf (valL a)).length)) := by
    have : 0 < (limbsOf (valL a)).length ↔ valL a ≠ 0 := by
      rw [List.length_pos_iff]
      exact not_congr limbsOf_nil
    rw [show decide (0 < (limbsOf (valL a)).length) = decide (valL a ≠ 0) from decide_eq_decide.2 this]
    unfold sgn
    cases n
    · simp
    · simp only [if_true, Bool.true_and, decide_eq_decide]; omega
  have hnl := limbsOf_len_le la
  generalize limbsOf (valL a) = m at *
  generalize sgn n (valL a) = sg at *
  obtain ⟨q, hq⟩ : ∃ q, (n && decide (0 < m.length)) = q := ⟨_, rfl⟩
  rw [hq] at hsg
  have HC := Lib.hid (And.intro hs4 (HB.out.trans hb3))
  have c0 := (HC.out.1.left.cell 0).trans rfl
  have f0 := HC.out.1.left.frozen 0
  have c1 := (HC.out.1.left.cell 1).trans rfl
  have f1 := HC.out.1.left.frozen 1
  have hfin : sat ((w3.setCell ⟨w.heap.size, 0, none⟩ (.bool q)).setCell ⟨w.heap.size, 1, none⟩ (.slice a3 m.length c3)) _ := (HC.out.1.setCell (off := 0) (.bool q)).setCell (off := 1) (.slice a3 m.length c3)
  have hfb : Below 0 w ((w3.setCell ⟨w.heap.size, 0, none⟩ (.bool q)).setCell ⟨w.heap.size, 1, none⟩ (.slice a3 m.length c3)) := (HC.out.2.setCell (p := ⟨w.heap.size, 0, none⟩) (Nat.zero_le _) (.bool q)).setCell (p := ⟨w.heap.size, 1, none⟩) (Nat.zero_le _) (.slice a3 m.length c3)
  have r0 := (hfin.left.cell 0).trans (show _ = some (Value.bool q) from rfl)
  have r1 := (hfin.left.cell 1).trans (show _ = some (Value.slice a3 m.length c3) from rfl)
  have hpost : RefNumPost R sg w (.returned (.agg #[.bool q, .slice a3 m.length c3])) ((w3.setCell ⟨w.heap.size, 0, none⟩ (.bool q)).setCell ⟨w.heap.size, 1, none⟩ (.slice a3 m.length c3)) := by
    unfold RefNumPost
    rw [hsa, hsg]
    exact ⟨a3, c3, rfl, hfin.right, hfb⟩
  have HP2 := Lib.hid (And.intro hpost (And.intro r0 r1))
  clear hfin hfb hpost r0 r1 h3 hb3 hs4 hsa hsg hs ha la
  cases n with
  | false =>
    have hq' : false = q := by rw [← hq]; rfl
    subst hq'
    go_wp2_with fail
    have r0 := HP2.out.2.1
    have r1 := HP2.out.2.2
    exact bodyPost_ret (v := .agg #[.bool false, .slice a3 m.length c3]) (by simp [results, Try.results63, go_sem, r0, r1]) rfl HP2.out.1
  | true =>
    by_cases hm : 0 < m.length
    · have hq' : true = q := by rw [← hq]; simp [hm]
      subst hq'
      go_wp2_with fail
      have r0 := HP2.out.2.1
      have r1 := HP2.out.2.2
      exact bodyPost_ret (v := .agg #[.bool true, .slice a3 m.length c3]) (by simp [results, Try.results63, go_sem, r0, r1]) rfl HP2.out.1
    · have hq' : false = q := by rw [← hq]; simp [hm]
      subst hq'
      have hm0 : m.length = 0 := by omega
      rw [hm0] at HP2 ⊢
      go_wp2_with fail
      have r0 := HP2.out.2.1
      have r1 := HP2.out.2.2
      exact bodyPost_ret (v := .agg #[.bool false, .slice a3 0 c3]) (by simp [results, Try.results63, go_sem, r0, r1]) rfl HP2.out.1
set_option maxRecDepth 100000 in
set_option maxHeartbeats 1000000 in
theorem ref_Canon {w : World} {R : HP} (hs : sat w R) (n : Bool) (ao : Option Addr) (ca : Nat) (a : List Int) (ha : ∀ w, sat w R → LimbsW w ao a) (la : Limbs a) (na : a.length ≤ 268435456) :
    Calls Try.prog 58 #[.agg #[.bool n, .slice ao a.length ca]] w (RefNumPost R (sgn n (valL a)) w) := by
  have h1 := (hs.alloc (.cells #[.bool n, .slice ao a.length ca] 57)).alloc (.cells #[.bool false, .slice none 0 0] 57)
  rw [World.size_alloc] at h1
  have hO := ref_Of h1 n ao ca a (fun w' h => ha _ h.right.right) la na
  have HB := Lib.hid (show Below 0 w _ from (Below.zero_alloc w (.cells #[.bool n, .slice ao a.length ca] 57)).trans (Below.zero_alloc _ (.cells #[.bool false, .slice none 0 0] 57)))
  clear h1 hs ha
  go_enter Try.func58, Try.ntmps58
  go_wp2_with fail
  refine hO.mono ?_
  clear hO
  rintro e w3 ⟨a3, c3, rfl, h3, hb3⟩
  generalize sgn n (valL a) = sg at *
  obtain ⟨q, hq⟩ : ∃ q, decide (sg < 0) = q := ⟨_, rfl⟩
  obtain ⟨m, hm⟩ : ∃ m, limbsOf sg.natAbs = m := ⟨_, rfl⟩
  rw [hm] at h3 ⊢
  rw [hq]
  have hs4 : sat w3 (Go.Proofs.Ytkjfplldfjmbaaa.blk (w.heap.size + 1) (.cells #[.bool false, .slice none 0 0] 57 (0, 0)) * (own 66 1 (.slice a3 m.length c3) m.length (m.map u32v) * R)) := (h3.perm (by ac_rfl) : sat w3 (Go.Proofs.Ytkjfplldfjmbaaa.blk w.heap.size (.cells #[.bool n, .slice ao a.length ca] 57 (0, 0)) * (Go.Proofs.Ytkjfplldfjmbaaa.blk (w.heap.size + 1) (.cells #[.bool false, .slice none 0 0] 57 (0, 0)) * (own 66 1 (.slice a3 m.length c3) m.length (m.map u32v) * R)))).right
  have c0 := (hs4.left.cell 0).trans rfl
  have f0 := hs4.left.frozen 0
  have c1 := (hs4.left.cell 1).trans rfl
  have f1 := hs4.left.frozen 1
  have hfin : sat ((w3.setCell ⟨w.heap.size + 1, 0, none⟩ (.bool q)).setCell ⟨w.heap.size + 1, 1, none⟩ (.slice a3 m.length c3)) _ := (hs4.setCell (off := 0) (.bool q)).setCell (off := 1) (.slice a3 m.length c3)
  have hfb : Below 0 w ((w3.setCell ⟨w.heap.size + 1, 0, none⟩ (.bool q)).setCell ⟨w.heap.size + 1, 1, none⟩ (.slice a3 m.length c3)) := ((HB.out.trans hb3).setCell (p := ⟨w.heap.size + 1, 0, none⟩) (Nat.zero_le _) (.bool q)).setCell (p := ⟨w.heap.size + 1, 1, none⟩) (Nat.zero_le _) (.slice a3 m.length c3)
  have r0 := (hfin.left.cell 0).trans (show _ = some (Value.bool q) from rfl)
  have r1 := (hfin.left.cell 1).trans (show _ = some (Value.slice a3 m.length c3) from rfl)
  have hpost : RefNumPost R sg w (.returned (.agg #[.bool q, .slice a3 m.length c3])) ((w3.setCell ⟨w.heap.size + 1, 0, none⟩ (.bool q)).setCell ⟨w.heap.size + 1, 1, none⟩ (.slice a3 m.length c3)) := by
    unfold RefNumPost
    rw [hm, hq]
    exact ⟨a3, c3, rfl, hfin.right, hfb⟩
  have HP2 := Lib.hid (And.intro hpost (And.intro r0 r1))
  clear hfin hfb hpost r0 r1 h3 hb3 hs4 hm hq
  go_wp2_with fail
  have r0 := HP2.out.2.1
  have r1 := HP2.out.2.2
  exact bodyPost_ret (v := .agg #[.bool q, .slice a3 m.length c3]) (by simp [results, Try.results58, go_sem, r0, r1]) rfl HP2.out.1
end Go.Proofs.Ytkjfplldfjmbaaa

/- tandemref01: cmp, sub. -/
namespace Go.Proofs.Ytkjfplldfjmbaaa
open Go.RowKit

theorem valD_drop_lt : ∀ {x y : List Int} (k : Nat) {p q : Int}, Digs x → Digs y → x[k]? = some p → y[k]? = some q → x.drop (k + 1) = y.drop (k + 1) → p < q → valD x < valD y
  | [], _, k, p, q, _, _, hp, _, _, _ => by simp at hp
  | _, [], k, p, q, _, _, _, hq, _, _ => by simp at hq
  | u :: x, v :: y, 0, p, q, hx, hy, hp, hq, hd, h => by
    simp at hp hq hd
    subst hp hq hd
    have := hx u (by simp); have := hy v (by simp)
    simp only [valD]
    omega
  | u :: x, v :: y, k + 1, p, q, hx, hy, hp, hq, hd, h => by
    have ih := valD_drop_lt (x := x) (y := y) k (fun z hz => hx z (by simp [hz])) (fun z hz => hy z (by simp [hz])) (by simpa using hp) (by simpa using hq) (by simpa using hd) h
    have := hx u (by simp); have := hy v (by simp)
    simp only [valD]
    omega
theorem digsOf_len_lt {a b : Nat} (h : (digsOf a).length < (digsOf b).length) : a < b := by
  rcases Nat.lt_or_ge a b with h1 | h1
  · exact h1
  · exfalso
    -- a ≥ b: a's limbs are as many at least
    have key : ∀ (b a : Nat), b ≤ a → (digsOf b).length ≤ (digsOf a).length := by
      intro b
      induction b using Nat.strongRecOn with
      | ind b ih =>
        intro a hab
        by_cases hb : b = 0
        · subst hb; rw [digsOf_zero]; simp
        · rw [digsOf_pos hb, digsOf_pos (show a ≠ 0 by omega)]
          have := ih (b / 65536) (by omega) (a / 65536) (by omega)
          simp only [List.length_cons]
          omega
    have := key b a h1
    omega


end Go.Proofs.Ytkjfplldfjmbaaa

/- tandemref01.sub. -/
namespace Go.Proofs.Ytkjfplldfjmbaaa
open Go.RowKit

theorem dsub_digit (P : Nat) {va vb vs c x y t c' : Nat} (h : va + P * c = vs + vb) (ht : x + 65536 * c' = t + y + c) : va + P * x + P * 65536 * c' = vs + P * t + (vb + P * y) := by
  have h1 : P * x + P * 65536 * c' = P * t + P * y + P * c := by
    rw [Nat.mul_assoc, ← Nat.mul_add, ht, Nat.mul_add, Nat.mul_add]
  omega
def RSubRel (W : World) (R : HP) (a b : List Int) (sv c i : Value) (wr : World) : Prop :=
  ∃ (k : Nat) (cv : Int) (s : List Int), k ≤ a.length ∧ i = .int .i64 k ∧ c = .int .i64 cv ∧ 0 ≤ cv ∧ cv ≤ 1 ∧ s.length = k ∧ Digs s ∧ valD (a.take k) + 65536 ^ k * cv.toNat = valD s + valD (b.take k) ∧
    sat wr (own 3 1 sv k (s.map i64) * R) ∧ Below 0 W wr
end Go.Proofs.Ytkjfplldfjmbaaa

/- tandemref01: Cmp, Sub. tandemref02: Neg. -/
namespace Go.Proofs.Ytkjfplldfjmbaaa
open Go.RowKit

theorem digs_top {l : List Int} (h : Limbs l) (n : l.length ≤ 268435456) : (digsOf (valL l)).length ≤ 536870912 := by
  obtain ⟨L, hL⟩ : ∃ L : Nat, L = 268435456 := ⟨_, rfl⟩
  rw [← hL] at n
  have := digsOf_len (valL_bound h n)
  omega
theorem digsOf_mono {a b : Nat} (h : a ≤ b) : (digsOf a).length ≤ (digsOf b).length := by
  rcases Nat.lt_or_ge (digsOf b).length (digsOf a).length with h1 | h1
  · have := digsOf_len_lt h1; omega
  · exact h1
def RefSubPost (R : HP) (va vb : Nat) (w : World) (e : Ending) (w' : World) : Prop :=
  ∃ ao c, e = .returned (.tuple #[.slice ao (limbsOf (va - vb)).length c, .bool (decide (vb ≤ va))]) ∧ sat w' (own 66 1 (.slice ao (limbsOf (va - vb)).length c) (limbsOf (va - vb)).length ((limbsOf (va - vb)).map u32v) * R) ∧ Below 0 w w'
end Go.Proofs.Ytkjfplldfjmbaaa

/- tandemref02: plus. -/
namespace Go.Proofs.Ytkjfplldfjmbaaa
open Go.RowKit

theorem limbs_sum {n a b : Nat} (ha : (limbsOf a).length ≤ n) (hb : (limbsOf b).length ≤ n) : (limbsOf (a + b)).length ≤ n + 1 := by
  refine limbsOf_len ?_
  have h1 := valL_lt (limbsOf_limbs a)
  have h2 := valL_lt (limbsOf_limbs b)
  rw [valL_limbsOf] at h1 h2
  have h3 : (4294967296 : Nat) ^ (limbsOf a).length ≤ 4294967296 ^ n := Nat.pow_le_pow_right (by decide) ha
  have h4 : (4294967296 : Nat) ^ (limbsOf b).length ≤ 4294967296 ^ n := Nat.pow_le_pow_right (by decide) hb
  rw [Nat.pow_succ]
  omega
theorem limbs_le {a b : Nat} (h : a ≤ b) : (limbsOf a).length ≤ (limbsOf b).length := by
  rcases Nat.lt_or_ge (limbsOf b).length (limbsOf a).length with h1 | h1
  · have := limbsOf_len_lt h1; omega
  · exact h1
theorem plus_same {s t : Int} (h : decide (s < 0) = decide (t < 0)) : sgn (decide (s < 0)) (s.natAbs + t.natAbs) = s + t := by
  have := decide_eq_decide.1 h
  unfold sgn
  by_cases h1 : s < 0
  · rw [if_pos (by simpa using h1)]; omega
  · rw [if_neg (by simpa using h1)]; omega
theorem plus_less {s t : Int} (h : decide (s < 0) ≠ decide (t < 0)) (hl : t.natAbs ≤ s.natAbs) : sgn (decide (s < 0)) (s.natAbs - t.natAbs) = s + t := by
  have : ¬ ((s < 0) ↔ (t < 0)) := fun e => h (decide_eq_decide.2 e)
  unfold sgn
  by_cases h1 : s < 0
  · rw [if_pos (by simpa using h1)]; omega
  · rw [if_neg (by simpa using h1)]; omega
end Go.Proofs.Ytkjfplldfjmbaaa

/- tandemref02: Sub, Cmp, Small. -/
namespace Go.Proofs.Ytkjfplldfjmbaaa
open Go.RowKit

end Go.Proofs.Ytkjfplldfjmbaaa

/- tandemref02.Small. -/
namespace Go.Proofs.Ytkjfplldfjmbaaa
open Go.RowKit

theorem limbs_two (v : Nat) (h : (limbsOf v).length ≤ 2) : v < 18446744073709551616 := by
  have h1 := valL_lt (limbsOf_limbs v)
  rw [valL_limbsOf] at h1
  have h2 : (4294967296 : Nat) ^ (limbsOf v).length ≤ 4294967296 ^ 2 := Nat.pow_le_pow_right (by decide) h
  omega
theorem limbs_big (v : Nat) (h : ¬ (limbsOf v).length ≤ 2) : 18446744073709551616 ≤ v := by
  rcases Nat.lt_or_ge v 18446744073709551616 with h1 | h1
  · exact absurd (limbsOf_len (n := 2) (by omega)) h
  · exact h1
def RSmRel (w : World) (l : List Int) (v i : Value) (wr : World) : Prop :=
  ∃ k j : Nat, k ≤ l.length ∧ i = .int .i64 ((k : Int) - 1) ∧ v = .int .u64 (valL (l.drop k)) ∧ wr = w.drewN j
end Go.Proofs.Ytkjfplldfjmbaaa
