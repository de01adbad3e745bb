/- Digits of 16 bits, plainly. tandemref01: half, trim, at. tandemref01: add, Add. tandemref01.Add, tandemref02.Of, Canon. tandemref01: cmp, sub. tandemref01.sub. tandemref01: Cmp, Sub. tandemref02: Neg. tandemref02: plus. tandemref02: Sub, Cmp, Small. tandemref02.Small. -/
import Derived.Test.YtanjiecefioffaaVE6
/- Digits of 16 bits, plainly. -/
namespace Go.Proofs.Ytanjiecefioffaa
open Go.RowKit

def Digs (l : List Int) : Prop := ∀ x ∈ l, 0 ≤ x ∧ x < 65536
/-- The number that digits say. -/
def valD : List Int → Nat
  | [] => 0
  | x :: l => x.toNat + 65536 * valD l
/-- The canonical digits of a number. -/
def digsOf (v : Nat) : List Int := if h : v = 0 then [] else ((v % 65536 : Nat) : Int) :: digsOf (v / 65536)
termination_by v
decreasing_by omega

theorem digsOf_zero : digsOf 0 = [] := by unfold digsOf; simp
theorem digsOf_pos {v : Nat} (h : v ≠ 0) : digsOf v = ((v % 65536 : Nat) : Int) :: digsOf (v / 65536) := by
  rw [digsOf]; simp [h]
theorem digsOf_digs (v : Nat) : Digs (digsOf v) := by
  induction v using Nat.strongRecOn with
  | ind v ih =>
    by_cases h : v = 0
    · subst h; rw [digsOf_zero]; intro x hx; simp at hx
    · rw [digsOf_pos h]
      intro x hx
      rcases List.mem_cons.1 hx with rfl | hx
      · omega
      · exact ih (v / 65536) (by omega) x hx
theorem valD_digsOf (v : Nat) : valD (digsOf v) = v := by
  induction v using Nat.strongRecOn with
  | ind v ih =>
    by_cases h : v = 0
    · subst h; rw [digsOf_zero]; rfl
    · rw [digsOf_pos h, valD, ih (v / 65536) (by omega)]
      omega
theorem digsOf_nil {v : Nat} : digsOf v = [] ↔ v = 0 := by
  constructor
  · intro h; rw [← valD_digsOf v, h]; rfl
  · rintro rfl; exact digsOf_zero
/-- Digs without a 0 at their end are canonical. -/
theorem digsOf_val : ∀ {l : List Int}, Digs l → (l = [] ∨ l.getD (l.length - 1) 0 ≠ 0) → digsOf (valD l) = l
  | [], _, _ => digsOf_zero
  | x :: l, h, he => by
    have hx := h x (by simp)
    have hl : Digs l := fun y hy => h y (by simp [hy])
    have he' : l = [] ∨ l.getD (l.length - 1) 0 ≠ 0 := by
      cases l with
      | nil => exact .inl rfl
      | cons y l => right; simpa using he
    have ih := digsOf_val hl he'
    have hne : valD (x :: l) ≠ 0 := by
      rcases he' with rfl | he'
      · simp at he
        simp only [valD]
        omega
      · intro h0
        simp only [valD] at h0
        have h1 : valD l = 0 := by omega
        rw [h1, digsOf_zero] at ih
        rw [← ih] at he'
        simp at he'
    rw [digsOf_pos hne]
    simp only [valD]
    rw [show (x.toNat + 65536 * valD l) % 65536 = x.toNat by omega, show (x.toNat + 65536 * valD l) / 65536 = valD l by omega, ih]
    congr 1
    omega
theorem valD_append (l m : List Int) : valD (l ++ m) = valD l + 65536 ^ l.length * valD m := by
  induction l with
  | nil => simp [valD]
  | cons x l ih =>
    simp only [List.cons_append, valD, ih, List.length_cons]
    rw [Nat.pow_succ, Nat.mul_add, ← Nat.mul_assoc, Nat.mul_comm 65536 (65536 ^ l.length), Nat.add_assoc]
theorem valD_lt {l : List Int} (h : Digs l) : valD l < 65536 ^ l.length := by
  induction l with
  | nil => simp [valD]
  | cons x l ih =>
    have hx := h x (by simp)
    have := ih fun y hy => h y (by simp [hy])
    simp only [valD, List.length_cons, Nat.pow_succ]
    have h2 : valD l + 1 ≤ 65536 ^ l.length := this
    have h3 := Nat.mul_le_mul_right 65536 h2
    omega
theorem valD_zeros {l : List Int} (h : ∀ x ∈ l, x = 0) : valD l = 0 := by
  induction l with
  | nil => rfl
  | cons x l ih => simp only [valD]; rw [ih fun y hy => h y (by simp [hy]), h x (by simp)]; rfl
/-- What is left when the zeros at the end are struck. -/
theorem dtrim_take {l : List Int} {n : Nat} (h : Digs l) (hn : n ≤ l.length) (hz : ∀ j x, n ≤ j → l[j]? = some x → x = 0) (he : n = 0 ∨ l.getD (n - 1) 0 ≠ 0) : l.take n = digsOf (valD l) := by
  have hv : valD l = valD (l.take n) := by
    have h1 := valD_append (l.take n) (l.drop n)
    rw [List.take_append_drop] at h1
    rw [h1, valD_zeros (l := l.drop n), Nat.mul_zero, Nat.add_zero]
    intro x hx
    obtain ⟨j, hj⟩ := List.mem_iff_getElem?.1 hx
    rw [List.getElem?_drop] at hj
    exact hz _ x (by omega) hj
  rw [hv]
  refine (digsOf_val (fun x hx => h x (List.mem_of_mem_take hx)) ?_).symm
  rcases he with rfl | he
  · left; rfl
  · right
    rw [List.length_take, Nat.min_eq_left hn, List.getD_eq_getElem?_getD, List.getElem?_take]
    rcases Nat.eq_zero_or_pos n with e | e
    · exfalso
      subst e
      have := hz 0
      rw [List.getD_eq_getElem?_getD] at he
      cases hq : l[0]? with
      | none => rw [hq] at he; simp at he
      | some x => rw [show (0 : Nat) - 1 = 0 from rfl, hq] at he; exact he (this x (Nat.le_refl _) hq)
    · rw [if_pos (by omega), ← List.getD_eq_getElem?_getD]; exact he
theorem digsOf_len_le {l : List Int} (h : Digs l) : (digsOf (valD l)).length ≤ l.length := by
  -- strike zeros
  have key : ∀ n, n ≤ l.length → (∀ j x, n ≤ j → l[j]? = some x → x = 0) → (digsOf (valD l)).length ≤ n := by
    intro n
    induction n with
    | zero => intro h1 h2; rw [← dtrim_take h h1 h2 (.inl rfl)]; simp
    | succ n ih =>
      intro h1 h2
      by_cases hz : l.getD n 0 = 0
      · have := ih (by omega) (fun j x hj hx => by
          by_cases e : j = n
          · subst e; rw [List.getD_eq_getElem?_getD, hx] at hz; exact hz
          · exact h2 j x (by omega) hx)
        omega
      · rw [← dtrim_take h h1 h2 (.inr (by simpa using hz)), List.length_take]; omega
  exact key l.length (Nat.le_refl _) (fun j x hj hx => by rw [List.getElem?_eq_none (by omega)] at hx; cases hx)
theorem digsOf_take {l : List Int} (h : Digs l) : l.take (digsOf (valD l)).length = digsOf (valD l) := by
  have key : ∀ n, n ≤ l.length → (∀ j x, n ≤ j → l[j]? = some x → x = 0) → ∃ m, m ≤ l.length ∧ l.take m = digsOf (valD l) := by
    intro n
    induction n with
    | zero => intro h1 h2; exact ⟨0, h1, dtrim_take h h1 h2 (.inl rfl)⟩
    | succ n ih =>
      intro h1 h2
      by_cases hz : l.getD n 0 = 0
      · exact ih (by omega) (fun j x hj hx => by
          by_cases e : j = n
          · subst e; rw [List.getD_eq_getElem?_getD, hx] at hz; exact hz
          · exact h2 j x (by omega) hx)
      · exact ⟨n + 1, h1, dtrim_take h h1 h2 (.inr (by simpa using hz))⟩
  obtain ⟨m, hm, ht⟩ := key l.length (Nat.le_refl _) (fun j x hj hx => by rw [List.getElem?_eq_none (by omega)] at hx; cases hx)
  have hl : (digsOf (valD l)).length = m := by rw [← ht, List.length_take]; omega
  rw [hl]; exact ht
theorem digsOf_last (v : Nat) (h : v ≠ 0) : (digsOf v).getD ((digsOf v).length - 1) 0 ≠ 0 := by
  induction v using Nat.strongRecOn with
  | ind v ih =>
    rw [digsOf_pos h]
    by_cases h2 : v / 65536 = 0
    · rw [h2, digsOf_zero]
      simp
      omega
    · have := ih (v / 65536) (by omega) h2
      have hne : digsOf (v / 65536) ≠ [] := fun e => h2 (digsOf_nil.1 e)
      cases hl : digsOf (v / 65536) with
      | nil => exact absurd hl hne
      | cons y l =>
        rw [hl] at this
        simpa using this
theorem valD_snoc (l : List Int) (x : Int) : valD (l ++ [x]) = valD l + 65536 ^ l.length * x.toNat := by
  rw [valD_append]; simp [valD]
theorem valD_take (l : List Int) (k : Nat) (x : Int) (hx : l[k]? = some x) : valD (l.take (k + 1)) = valD (l.take k) + 65536 ^ k * x.toNat := by
  have hk := (List.getElem?_eq_some_iff.1 hx).1
  rw [List.take_add_one, hx]
  show valD (l.take k ++ [x]) = _
  rw [valD_snoc, List.length_take, Nat.min_eq_left (by omega)]
theorem digsOf_len {v n : Nat} (h : v < 65536 ^ n) : (digsOf v).length ≤ n := by
  induction n generalizing v with
  | zero => simp at h; subst h; rw [digsOf_zero]; simp
  | succ n ih =>
    by_cases h0 : v = 0
    · subst h0; rw [digsOf_zero]; simp
    · rw [digsOf_pos h0, List.length_cons]
      have := ih (v := v / 65536) (by rw [Nat.div_lt_iff_lt_mul (by decide), ← Nat.pow_succ]; exact h)
      omega

/-! ### Between limbs and digits -/
def halfs (l : List Int) : List Int := l.flatMap fun x => [x % 65536, x / 65536]
theorem halfs_len (l : List Int) : (halfs l).length = 2 * l.length := by
  induction l with
  | nil => rfl
  | cons x l ih => unfold halfs at *; rw [List.flatMap_cons, List.length_append, ih]; simp only [List.length_cons, List.length_nil]; omega
theorem halfs_snoc (l : List Int) (x : Int) : halfs (l ++ [x]) = halfs l ++ [x % 65536, x / 65536] := by unfold halfs; simp
theorem halfs_digs {l : List Int} (h : Limbs l) : Digs (halfs l) := by
  intro x hx
  unfold halfs at hx
  obtain ⟨y, hy, hx⟩ := List.mem_flatMap.1 hx
  have := h y hy
  simp at hx
  omega
theorem halfs_val {l : List Int} (h : Limbs l) : valD (halfs l) = valL l := by
  induction l with
  | nil => rfl
  | cons x l ih =>
    have hx := h x (by simp)
    have := ih fun y hy => h y (by simp [hy])
    show valD (x % 65536 :: x / 65536 :: halfs l) = _
    simp only [valD, valL, this]
    omega
/-- Two digits a limb. -/
def fulls : List Int → List Int
  | [] => []
  | [x] => [x]
  | x :: y :: l => (x + y * 65536) :: fulls l
theorem fulls_val : ∀ {l : List Int}, Digs l → valL (fulls l) = valD l
  | [], _ => rfl
  | [x], _ => by simp [fulls, valL, valD]
  | x :: y :: l, h => by
    have hx := h x (by simp)
    have hy := h y (by simp)
    have := fulls_val (l := l) fun z hz => h z (by simp [hz])
    simp only [fulls, valL, valD, this]
    omega
theorem fulls_limbs : ∀ {l : List Int}, Digs l → Limbs (fulls l)
  | [], _, z, hz => by simp [fulls] at hz
  | [x], h, z, hz => by
    have hx := h x (by simp)
    simp [fulls] at hz
    omega
  | x :: y :: l, h, z, hz => by
    have hx := h x (by simp)
    have hy := h y (by simp)
    simp only [fulls, List.mem_cons] at hz
    rcases hz with rfl | hz
    · omega
    · exact fulls_limbs (l := l) (fun z hz => h z (by simp [hz])) z hz
theorem fulls_last : ∀ {l : List Int}, Digs l → l.getD (l.length - 1) 0 ≠ 0 → (fulls l).getD ((fulls l).length - 1) 0 ≠ 0
  | [], _, hl => by simp at hl
  | [x], _, hl => hl
  | [x, y], h, hl => by
    have hx := h x (by simp)
    have hy := h y (by simp)
    simp [fulls] at hl ⊢
    omega
  | x :: y :: z :: l, h, hl => by
    have ih := fulls_last (l := z :: l) (fun w hw => h w (by simp [hw])) (by simpa using hl)
    have hne : fulls (z :: l) ≠ [] := by cases l <;> simp [fulls]
    simp only [fulls]
    cases hf : fulls (z :: l) with
    | nil => exact absurd hf hne
    | cons u m => rw [hf] at ih; simpa using ih
/-- Digits without zeros at the end are canonical limbs. -/
theorem fulls_canon (v : Nat) : fulls (digsOf v) = limbsOf v := by
  by_cases h : v = 0
  · subst h; rw [digsOf_zero, limbsOf_zero]; rfl
  · have h1 := fulls_val (digsOf_digs v)
    rw [valD_digsOf] at h1
    have h2 := limbsOf_val (fulls_limbs (digsOf_digs v)) (.inr (fulls_last (digsOf_digs v) (digsOf_last v h)))
    rw [h1] at h2
    exact h2.symm
theorem fulls_len : ∀ l : List Int, (fulls l).length = (l.length + 1) / 2
  | [] => rfl
  | [x] => by simp [fulls]
  | x :: y :: l => by simp only [fulls, List.length_cons, fulls_len l]; omega
end Go.Proofs.Ytanjiecefioffaa

/- tandemref01: half, trim, at. -/
namespace Go.Proofs.Ytanjiecefioffaa
open Go.RowKit

def DigsW (w : World) (ao : Option Addr) (l : List Int) : Prop := ∀ (j : Nat) x, l[j]? = some x → ∃ a, ao = some a ∧ w.cell? (a.add j) = some (.int .i64 x)
theorem DigsW.cells {w : World} {ao : Option Addr} {l : List Int} (h : DigsW w ao l) : CellsAt w ao (l.map i64) := by
  intro j u hu
  rw [List.getElem?_map] at hu
  cases hx : l[j]? with
  | none => rw [hx] at hu; cases hu
  | some y => rw [hx] at hu; cases hu; exact h j y hx
theorem digs_own {w : World} {R : HP} {v : Value} {n c : Nat} {ao : Option Addr} {l : List Int} (hv : v = .slice ao n c) (h : sat w (own 3 1 v n (l.map i64) * R)) : DigsW w ao l := by
  intro j x hx
  have hj := (List.getElem?_eq_some_iff.1 hx).1
  have hl : l.length = n := by have := h.open_own.1; simpa using this
  obtain ⟨b, c, hb, _, _, hr⟩ := h.own_some (by omega)
  rw [hv] at hb
  simp only [Value.slice.injEq] at hb
  obtain ⟨rfl, _⟩ := hb
  refine ⟨_, rfl, ?_⟩
  have ha : ((⟨b, 0, none⟩ : Addr).add j) = ⟨b, j, none⟩ := by unfold Addr.add; split <;> simp_all
  rw [ha]
  exact hr.row_cell (by rw [List.getElem?_map, hx]; rfl)
theorem info_i64 : (Try.prog.info? 3).map (fun i => (i.zero, i.size, i.bytes)) = some (some (.int .i64 0), 1, 8) := by kernel_rfl
theorem sat.drop_mid {w : World} {P Q R : HP} (h : sat w (P * (Q * R))) : sat w (P * R) := (show sat w ((P * R) * Q) from h.perm (by ac_rfl)).left
/-- The digits of a number, in new memory. -/
def DigPost (R : HP) (d : Nat) (w : World) (e : Ending) (w' : World) : Prop :=
  ∃ v, e = .returned v ∧ sat w' (own 3 1 v (digsOf d).length ((digsOf d).map i64) * R) ∧ Below 0 w w'
def DTrimRel (w : World) (l : List Int) (i : Value) (wr : World) : Prop :=
  ∃ n m : Nat, n ≤ l.length ∧ i = .int .i64 n ∧ wr = w.drewN m ∧ ∀ j x, n ≤ j → l[j]? = some x → x = 0
set_option maxRecDepth 100000 in
set_option maxHeartbeats 1000000 in
theorem ref_trim {w : World} {R : HP} (hs : sat w R) (ao : Option Addr) (n cap : Nat) (l : List Int) (hx : DigsW w ao l) (hl : Digs l) (hn : l.length = n) (hc : n ≤ cap) (hb : n ≤ 1099511627776) :
    Calls Try.prog 116 #[.slice ao n cap] w (DigPost R (valD l) w) := by
  subst hn
  obtain ⟨i0, hi, hz0, hz1, hz2⟩ := info_parts info_i64
  have H1 := Lib.hid (And.intro hi (And.intro hz0 (And.intro hz1 hz2)))
  clear hi hz0 hz1 hz2
  go_enter Try.func116, Try.ntmps116
  go_wp2_with fail
  go_loopw [3] (DTrimRel w l) (fun i _ => (intOf i).toNat)
  case atStart => exact ⟨l.length, 0, Nat.le_refl _, rfl, rfl, fun j x hj hx => by rw [List.getElem?_eq_none hj] at hx; cases hx⟩
  case round =>
    obtain ⟨n, m, hnl, rfl, rfl, hz⟩ := hrel
    have hend : (n = 0 ∨ l.getD (n - 1) 0 ≠ 0) → l.take n = digsOf (valD l) := dtrim_take hl hnl hz
    have hdone : ∀ (hq : l.take n = digsOf (valD l)), sat (w.drewN m) (own 3 1 (.slice none 0 0) 0 [] * R) ∧ n = (digsOf (valD l)).length ∧ CellsAt (w.drewN m) ao ((digsOf (valD l)).map i64) ∧ Below 0 w (w.drewN m) := by
      intro hq
      refine ⟨(hs.drewN m).nil_own, by rw [← hq, List.length_take]; omega, ?_, drewN_below0 _ _⟩
      rw [← hq]
      refine DigsW.cells fun j x hj => hx j x ?_
      rw [List.getElem?_take] at hj
      split at hj
      · exact hj
      · cases hj
    cases n with
    | zero =>
      have HT := Lib.hid (hdone (hend (.inl rfl)))
      clear hend hdone hz
      have b1 : decide (((0 : Nat) : Int) > 0) = false := by decide
      go_wp2_with (at_builtin; refine halt ?_)
      refine goon ?_
      obtain ⟨hi, hz0, hz1, hz2⟩ := H1.out
      obtain ⟨t1, t2, t3, t4⟩ := HT.out
      refine wpList_append_opt rfl (.const (.slice none 0 0)) (.tmp 20) 29 rfl 3 i0 (.int .i64 0) 1 8 Try.underlying29 hi hz0 hz1 hz2 rfl (by decide) (.slice none 0 0) 0 [] rfl R ao 0 cap ((digsOf (valD l)).map i64) rfl ?_ t1 (by simp [← t2]) t3 (fun u hu => by obtain ⟨x, _, rfl⟩ := List.mem_map.1 hu; rfl) (by omega) (by unfold maxLen; omega)
      intro v' w9 hs9 hb9
      rw [Nat.zero_add, List.nil_append, t2] at hs9
      have HQ := Lib.hid (And.intro hs9 (t4.trans hb9))
      clear hs9 hb9 t1 t2 t3 t4 hi hz0 hz1 hz2 HT
      go_wp2_with fail
      go_ret
      exact ⟨_, rfl, HQ.out.1, HQ.out.2⟩
    | succ n =>
      obtain ⟨x, ex⟩ : ∃ x, l[n]? = some x := ⟨_, List.getElem?_eq_getElem (by omega)⟩
      obtain ⟨a, rfl, hcx⟩ := hx n x ex
      have hcx' : (w.drewN m).cell? (a.add n) = some (.int .i64 x) := hcx
      have b1 : decide (((n + 1 : Nat) : Int) > 0) = true := by simp
      have g1 : IntKind.i64.wrap (((n + 1 : Nat) : Int) - 1) = n := by rw [IntWalk.i64_in _ (by omega)]; omega
      by_cases h0 : x = 0
      · have b2 : (x == 0) = true := by simp [h0]
        have HZ := Lib.hid (And.intro hz (And.intro ex h0))
        clear hz ex h0 hend hdone
        go_wp2_with fail
        go_roundw
        case rel =>
          refine ⟨n, m, by omega, by go_num, rfl, ?_⟩
          intro j y hj hy
          by_cases e : j = n
          · subst e; rw [HZ.out.2.1] at hy; cases hy; exact HZ.out.2.2
          · exact HZ.out.1 j y (by omega) hy
        case measure => simp [intOf]
      · have b2 : (x == 0) = false := by simp [h0]
        have HT := Lib.hid (hdone (hend (.inr (by rw [Nat.add_sub_cancel, List.getD_eq_getElem?_getD, ex]; exact h0))))
        have hnl2 : n + 1 ≤ cap := by omega
        clear hend hdone hz ex h0 hx
        go_wp2_with (at_builtin; refine halt ?_)
        refine goon ?_
        obtain ⟨hi, hz0, hz1, hz2⟩ := H1.out
        obtain ⟨t1, t2, t3, t4⟩ := HT.out
        refine wpList_append_opt rfl (.const (.slice none 0 0)) (.tmp 20) 29 rfl 3 i0 (.int .i64 0) 1 8 Try.underlying29 hi hz0 hz1 hz2 rfl (by decide) (.slice none 0 0) 0 [] rfl R (some a) (n + 1) cap ((digsOf (valD l)).map i64) rfl ?_ t1 (by simp [← t2]) t3 (fun u hu => by obtain ⟨x, _, rfl⟩ := List.mem_map.1 hu; rfl) (by omega) (by unfold maxLen; omega)
        intro v' w9 hs9 hb9
        rw [Nat.zero_add, List.nil_append, t2] at hs9
        have HQ := Lib.hid (And.intro hs9 (t4.trans hb9))
        clear hs9 hb9 t1 t2 t3 t4 hi hz0 hz1 hz2 HT
        go_wp2_with fail
        go_ret
        exact ⟨_, rfl, HQ.out.1, HQ.out.2⟩
set_option maxRecDepth 100000 in
theorem ref_at (w : World) (ao : Option Addr) (n cap : Nat) (l : List Int) (i : Nat) (hx : DigsW w ao l) (hn : l.length = n) (hb : n ≤ 1099511627776) (_ : i ≤ 1099511627776) :
    Calls Try.prog 115 #[.slice ao n cap, .int .i64 i] w (Says (.int .i64 (l.getD i 0)) w) := by
  subst hn
  by_cases hlt : i < l.length
  · obtain ⟨x, ex⟩ : ∃ x, l[i]? = some x := ⟨_, List.getElem?_eq_getElem (by omega)⟩
    obtain ⟨a, rfl, hcx⟩ := hx i x ex
    have hg : l.getD i 0 = x := by rw [List.getD_eq_getElem?_getD, ex]; rfl
    rw [hg]
    clear hg ex hx
    go_enter Try.func115, Try.ntmps115
    go_wp2_with fail
    go_ret
    exact says_ret0 rfl
  · have hg : l.getD i 0 = 0 := by rw [List.getD_eq_getElem?_getD, List.getElem?_eq_none (by omega)]; rfl
    have hge : decide ((i : Int) < (l.length : Int)) = false := by simp; omega
    rw [hg]
    clear hg hx
    go_enter Try.func115, Try.ntmps115
    go_wp2_with fail
    go_ret
    exact says_ret0 rfl
def HalfRel (W : World) (R : HP) (l : List Int) (sv i : Value) (wr : World) : Prop :=
  ∃ k : Nat, k ≤ l.length ∧ i = .int .i64 k ∧ sat wr (own 3 1 sv (2 * k) ((halfs (l.take k)).map i64) * R) ∧ Below 0 W wr
set_option maxRecDepth 100000 in
set_option maxHeartbeats 1000000 in
theorem ref_half {w : World} {R : HP} (hs : sat w R) (ao : Option Addr) (n cap : Nat) (l : List Int) (hx : ∀ w, sat w R → LimbsW w ao l) (hl : Limbs l) (hn : l.length = n) (hb : n ≤ 1073741824) :
    Calls Try.prog 107 #[.slice ao n cap] w (DigPost R (valL l) w) := by
  subst hn
  obtain ⟨i0, hi, hz0, hz1, hz2⟩ := info_parts info_i64
  have H1 := Lib.hid (And.intro hi (And.intro hz0 (And.intro hz1 hz2)))
  clear hi hz0 hz1 hz2
  go_enter Try.func107, Try.ntmps107
  go_wp2_with fail
  go_loopw [3, 4] (HalfRel w R l) (fun _ i _ => l.length - (intOf i).toNat)
  case atStart => exact ⟨0, Nat.zero_le _, rfl, by simpa [halfs] using hs.nil_own (e := 3) (sz := 1), Below.refl _ _⟩
  case round =>
    obtain ⟨k, hk, rfl, h1, hb1⟩ := hrel
    by_cases hlt : k < l.length
    · obtain ⟨x, ex⟩ : ∃ x, l[k]? = some x := ⟨_, List.getElem?_eq_getElem hlt⟩
      obtain ⟨a, rfl, hcx⟩ := hx wr h1.right k x ex
      have hxb := hl x (List.mem_of_getElem? ex)
      have htk : halfs (l.take (k + 1)) = halfs (l.take k) ++ [x % 65536, x / 65536] := by rw [List.take_add_one, ex]; exact halfs_snoc _ _
      obtain ⟨p, hp⟩ : ∃ p, x % 65536 = p := ⟨_, rfl⟩
      obtain ⟨q, hq⟩ : ∃ q, x / 65536 = q := ⟨_, rfl⟩
      rw [hp, hq] at htk
      have m1 : x.tmod 65536 = p := by rw [← hp]; exact Int.tmod_eq_emod_of_nonneg hxb.1
      have m2 : x.tdiv 65536 = q := by rw [← hq]; exact Int.tdiv_eq_ediv_of_nonneg hxb.1
      have p1 : IntKind.u32.wrap p = p := by rw [show IntKind.u32.wrap p = p % 4294967296 from rfl]; omega
      have q1 : IntKind.u32.wrap q = q := by rw [show IntKind.u32.wrap q = q % 4294967296 from rfl]; omega
      have p2 : IntKind.i64.wrap p = p := IntWalk.i64_in _ (by omega)
      have q2 : IntKind.i64.wrap q = q := IntWalk.i64_in _ (by omega)
      have hsN := (h1.drew.alloc (.cells #[.int .i64 p, .int .i64 q] 3)).left
      have hsA : sat (wr.drew.alloc (.cells #[.int .i64 p, .int .i64 q] 3)) (own 3 1 u3 (2 * k) ((halfs (l.take k)).map i64) * R) := (h1.drew.alloc (.cells #[.int .i64 p, .int .i64 q] 3)).right
      have hsN2 : ∀ (j : Nat) u, [Value.int .i64 p, .int .i64 q][j]? = some u → (wr.drew.alloc (.cells #[.int .i64 p, .int .i64 q] 3)).cell? ((⟨wr.heap.size, 0, none⟩ : Addr).add j) = some u := by
        intro j u hj
        have hj2 : j < 2 := (List.getElem?_eq_some_iff.1 hj).1
        have hadd : (⟨wr.heap.size, 0, none⟩ : Addr).add j = ⟨wr.heap.size, j, none⟩ := by unfold Addr.add; split <;> simp_all
        rw [hadd]
        exact (hsN.cell j).trans (by simpa using hj)
      have hBA : Below 0 w (wr.drew.alloc (.cells #[.int .i64 p, .int .i64 q] 3)) := (hb1.trans (drewN_below0 wr 1)).trans (Below.zero_alloc _ _)
      have HA := Lib.hid (And.intro hsA (And.intro hsN2 (And.intro hBA htk)))
      clear hsN hsA hsN2 hBA h1 hb1 htk hx hxb hp hq ex
      go_wp2_with fail
      go_region_law
        ((refine step_append_sat rfl (.tmp 11) (.tmp 24) 29 rfl 3 i0 (.int .i64 0) 1 8 Try.underlying29 H1.out.1 H1.out.2.1 H1.out.2.2.1 H1.out.2.2.2 rfl _ (2 * k) ((halfs (l.take k)).map i64) (by rfl) _ HA.out.1 ⟨wr.heap.size, 0, none⟩ 2 2 [.int .i64 p, .int .i64 q] (by rfl) rfl HA.out.2.1 (fun u hu => by simp at hu; rcases hu with rfl | rfl <;> rfl) (by omega) (by unfold maxLen; omega) (by omega) ?_; intro b7 c7 w7 hs7 hc7 hb7))
      all_goals (
        have hs8 := hs7.shut_own (n := 2 * k + 2) (by simp [halfs_len, List.length_take]; omega) hc7
        have HF := Lib.hid (And.intro hs8 (HA.out.2.2.1.trans hb7))
        clear hs7 hc7 hb7 hs8
        go_wp2_with fail
        go_roundw
        case rel => exact ⟨k + 1, by omega, by go_num, by rw [HA.out.2.2.2, List.map_append]; exact HF.out.1, HF.out.2⟩
        case measure => simp [intOf]; omega)
    · obtain rfl : k = l.length := by omega
      have hge : decide ((l.length : Int) < (l.length : Int)) = false := by simp
      rw [List.take_of_length_le (Nat.le_refl _)] at h1
      obtain ⟨b3, c3, rfl⟩ := own_val h1
      have hT := ref_trim h1 b3 (2 * l.length) c3 (halfs l) (digs_own rfl h1) (halfs_digs hl) (halfs_len l) (own_cap h1) (by omega)
      rw [halfs_val hl] at hT
      have HH := Lib.hid (And.intro hb1 hT)
      clear h1 hb1 hT hs hx
      go_wp2_with fail
      refine HH.out.2.mono ?_
      rintro e w4 ⟨v, rfl, h4, hb4⟩
      have HK := Lib.hid (And.intro h4 hb4)
      clear h4 hb4
      go_wp2_with fail
      go_ret
      exact ⟨v, rfl, HK.out.1.drop_mid, HH.out.1.trans HK.out.2⟩
/-- The limbs of a number, in new memory. -/
def LimPost (R : HP) (d : Nat) (w : World) (e : Ending) (w' : World) : Prop :=
  ∃ v, e = .returned v ∧ sat w' (own 70 1 v (limbsOf d).length ((limbsOf d).map u32v) * R) ∧ Below 0 w w'
def FullRel (W : World) (R : HP) (l : List Int) (sv i : Value) (wr : World) : Prop :=
  ∃ k : Nat, 2 * k ≤ l.length + 1 ∧ i = .int .i64 ((2 * k : Nat) : Int) ∧ sat wr (own 70 1 sv k ((fulls (l.take (2 * k))).map u32v) * R) ∧ Below 0 W wr
theorem fulls_two : ∀ (l : List Int) (k : Nat) {x y : Int}, l[2 * k]? = some x → l[2 * k + 1]? = some y → fulls (l.take (2 * (k + 1))) = fulls (l.take (2 * k)) ++ [x + y * 65536]
  | [], k, x, y, h, _ => by simp at h
  | [a], k, x, y, _, h => by simp at h
  | a :: b :: l, 0, x, y, h, h2 => by
    simp at h h2
    subst h h2
    simp [fulls]
  | a :: b :: l, k + 1, x, y, h, h2 => by
    have ih := fulls_two l k (x := x) (y := y) (by simpa [Nat.mul_add] using h) (by simpa [Nat.mul_add] using h2)
    rw [show 2 * (k + 1 + 1) = 2 * (k + 1) + 2 by omega, show 2 * (k + 1) = 2 * k + 2 by omega]
    rw [show 2 * (k + 1) = 2 * k + 2 by omega] at ih
    simp only [List.take_succ_cons, fulls, List.cons_append]
    rw [ih]
theorem fulls_one : ∀ (l : List Int) (k : Nat) {x : Int}, l[2 * k]? = some x → l[2 * k + 1]? = none → fulls (l.take (2 * (k + 1))) = fulls (l.take (2 * k)) ++ [x]
  | [], k, x, h, _ => by simp at h
  | [a], 0, x, h, _ => by simp at h; subst h; simp [fulls]
  | [a], k + 1, x, h, _ => by simp [Nat.mul_add] at h
  | a :: b :: l, 0, x, h, h2 => by simp at h2
  | a :: b :: l, k + 1, x, h, h2 => by
    have ih := fulls_one l k (x := x) (by simpa [Nat.mul_add] using h) (by simpa [Nat.mul_add] using h2)
    rw [show 2 * (k + 1 + 1) = 2 * (k + 1) + 2 by omega, show 2 * (k + 1) = 2 * k + 2 by omega]
    rw [show 2 * (k + 1) = 2 * k + 2 by omega] at ih
    simp only [List.take_succ_cons, fulls, List.cons_append]
    rw [ih]
set_option maxRecDepth 100000 in
set_option maxHeartbeats 1000000 in
theorem ref_full {w : World} {R : HP} (hs : sat w R) (ao : Option Addr) (n cap : Nat) (l : List Int) (hx : DigsW w ao l) (hl : Digs l) (hn : l.length = n) (hc : n ≤ cap) (hb : n ≤ 1099511627776) :
    Calls Try.prog 108 #[.slice ao n cap] w (LimPost R (valD l) w) := by
  obtain ⟨i0, hi, hz0, hz1, hz2⟩ := info_parts info_u32
  have H1 := Lib.hid (And.intro hi (And.intro hz0 (And.intro hz1 hz2)))
  clear hi hz0 hz1 hz2
  have hT := ref_trim hs ao n cap l hx hl hn hc hb
  have hdl : (digsOf (valD l)).length ≤ n := by rw [← hn]; exact digsOf_len_le hl
  have hfc := fulls_canon (valD l)
  have hdd := digsOf_digs (valD l)
  unfold LimPost
  rw [← hfc]
  clear hfc
  unfold DigPost at hT
  generalize digsOf (valD l) = m at *
  clear hs hx hl hn
  go_enter Try.func108, Try.ntmps108
  go_wp2_with fail
  refine hT.mono ?_
  rintro e w1 ⟨v, rfl, h1, hb1⟩
  obtain ⟨b3, c3, rfl⟩ := own_val h1
  have HH := Lib.hid (And.intro h1 hb1)
  clear hT h1 hb1
  go_wp2_with fail
  go_loopw [3, 4] (FullRel w (own 3 1 (.slice b3 m.length c3) m.length (m.map i64) * R) m) (fun _ i _ => m.length + 1 - (intOf i).toNat)
  case atStart => exact ⟨0, Nat.zero_le _, rfl, by simpa [fulls] using HH.out.1.nil_own (e := 70) (sz := 1), HH.out.2⟩
  case round =>
    obtain ⟨k, hk, rfl, h2, hb2⟩ := hrel
    by_cases hlt : 2 * k < m.length
    · obtain ⟨x, ex⟩ : ∃ x, m[2 * k]? = some x := ⟨_, List.getElem?_eq_getElem hlt⟩
      obtain ⟨a, ca, ea, _, _, hr⟩ := h2.right.own_some (by omega)
      cases ea
      have hcx : wr.cell? ⟨a, 2 * k, none⟩ = some (.int .i64 x) := hr.row_cell (by rw [List.getElem?_map, ex]; rfl)
      have hxb := hdd x (List.mem_of_getElem? ex)
      have q1 : IntKind.u32.wrap x = x := by rw [show IntKind.u32.wrap x = x % 4294967296 from rfl]; omega
      by_cases hl2 : 2 * k + 1 < m.length
      · obtain ⟨y, ey⟩ : ∃ y, m[2 * k + 1]? = some y := ⟨_, List.getElem?_eq_getElem hl2⟩
        have hcy : wr.cell? ⟨a, 2 * k + 1, none⟩ = some (.int .i64 y) := hr.row_cell (by rw [List.getElem?_map, ey]; rfl)
        have hyb := hdd y (List.mem_of_getElem? ey)
        have hft := fulls_two m k ex ey
        have q2 : IntKind.u32.wrap y = y := by rw [show IntKind.u32.wrap y = y % 4294967296 from rfl]; omega
        have q3 : IntKind.u32.wrap (y * 65536) = y * 65536 := by rw [show IntKind.u32.wrap (y * 65536) = y * 65536 % 4294967296 from rfl]; omega
        have q4 : IntKind.u32.wrap (x + y * 65536) = x + y * 65536 := by rw [show IntKind.u32.wrap (x + y * 65536) = (x + y * 65536) % 4294967296 from rfl]; omega
        have b2 : decide (((2 * k : Nat) : Int) + 1 < (m.length : Int)) = true := by simp; omega
        have b1 : decide (((2 * k : Nat) : Int) < (m.length : Int)) = true := by simp; omega
        obtain ⟨j, hj⟩ : ∃ j, 2 * k = j := ⟨_, rfl⟩
        rw [hj] at hcx hcy b1 b2 hlt hl2
        have HE := Lib.hid (And.intro hft (And.intro hb2 h2))
        clear hft hb2 h2 hdd ex ey hr
        rw [hj]
        go_wp2_with (at_builtin; refine halt ?_)
        refine goon ?_
        generalize x + y * 65536 = z at *
        have hs7 : sat (wr.alloc (.cells #[.int .u32 z] 70)) (own 70 1 u3 k ((fulls (m.take (2 * k))).map u32v) * (Go.Proofs.Ytanjiecefioffaa.blk wr.heap.size (.cells #[.int .u32 z] 70 (0, 0)) * (own 3 1 (.slice (some ⟨a, 0, none⟩) m.length c3) m.length (m.map i64) * R))) := (HE.out.2.2.alloc (.cells #[.int .u32 z] 70)).perm (by ac_rfl)
        have hnew := (hs7.right.left.cell 0).trans (show _ = some (Value.int .u32 z) from rfl)
        have hb7 : Below 0 w (wr.alloc (.cells #[.int .u32 z] 70)) := HE.out.2.1.trans (Below.zero_alloc _ _)
        obtain ⟨hi, hz0, hz1, hz2⟩ := H1.out
        refine wpList_append_one rfl (.tmp 33) (.tmp 35) 49 rfl 70 i0 (.int .u32 0) 4 Try.underlying49 hi hz0 hz1 hz2 rfl u3 k ((fulls (m.take (2 * k))).map u32v) rfl _ wr.heap.size (.int .u32 z) rfl ?_ hs7 hnew rfl (by omega) (by unfold maxLen; omega)
        clear hi hz0 hz1 hz2 hnew hs7 HH
        intro v' w9 hs9 hb9
        have HQ := Lib.hid (And.intro hs9.drop_mid (hb7.trans hb9))
        clear hs9 hb9 hb7
        rw [← hj] at b1 b2 ⊢
        go_wp2_with fail
        go_roundw
        case rel => exact ⟨k + 1, by omega, by rw [show 2 * (k + 1) = 2 * k + 2 by omega]; go_num, by rw [HE.out.1, List.map_append]; exact HQ.out.1, HQ.out.2⟩
        case measure => simp [intOf]; omega
      · have b2 : decide (((2 * k : Nat) : Int) + 1 < (m.length : Int)) = false := by simp; omega
        have b1 : decide (((2 * k : Nat) : Int) < (m.length : Int)) = true := by simp; omega
        have hft := fulls_one m k ex (List.getElem?_eq_none (by omega))
        obtain ⟨j, hj⟩ : ∃ j, 2 * k = j := ⟨_, rfl⟩
        rw [hj] at hcx b1 b2 hlt hl2
        have HE := Lib.hid (And.intro hft (And.intro hb2 h2))
        clear hft hb2 h2 hdd ex hr
        rw [hj]
        go_wp2_with (at_builtin; refine halt ?_)
        refine goon ?_
        generalize x = z at *
        have hs7 : sat (wr.alloc (.cells #[.int .u32 z] 70)) (own 70 1 u3 k ((fulls (m.take (2 * k))).map u32v) * (Go.Proofs.Ytanjiecefioffaa.blk wr.heap.size (.cells #[.int .u32 z] 70 (0, 0)) * (own 3 1 (.slice (some ⟨a, 0, none⟩) m.length c3) m.length (m.map i64) * R))) := (HE.out.2.2.alloc (.cells #[.int .u32 z] 70)).perm (by ac_rfl)
        have hnew := (hs7.right.left.cell 0).trans (show _ = some (Value.int .u32 z) from rfl)
        have hb7 : Below 0 w (wr.alloc (.cells #[.int .u32 z] 70)) := HE.out.2.1.trans (Below.zero_alloc _ _)
        obtain ⟨hi, hz0, hz1, hz2⟩ := H1.out
        refine wpList_append_one rfl (.tmp 33) (.tmp 35) 49 rfl 70 i0 (.int .u32 0) 4 Try.underlying49 hi hz0 hz1 hz2 rfl u3 k ((fulls (m.take (2 * k))).map u32v) rfl _ wr.heap.size (.int .u32 z) rfl ?_ hs7 hnew rfl (by omega) (by unfold maxLen; omega)
        clear hi hz0 hz1 hz2 hnew hs7 HH
        intro v' w9 hs9 hb9
        have HQ := Lib.hid (And.intro hs9.drop_mid (hb7.trans hb9))
        clear hs9 hb9 hb7
        rw [← hj] at b1 b2 ⊢
        go_wp2_with fail
        go_roundw
        case rel => exact ⟨k + 1, by omega, by rw [show 2 * (k + 1) = 2 * k + 2 by omega]; go_num, by rw [HE.out.1, List.map_append]; exact HQ.out.1, HQ.out.2⟩
        case measure => simp [intOf]; omega
    · have b1 : decide (((2 * k : Nat) : Int) < (m.length : Int)) = false := by simp; omega
      have hft : fulls (m.take (2 * k)) = fulls m := by rw [List.take_of_length_le (by omega)]
      have hlen : k = (fulls m).length := by rw [fulls_len]; omega
      rw [hft] at h2
      have HF := Lib.hid (And.intro h2.drop_mid (And.intro hb2 hlen))
      clear hft h2 hb2 hlen HH
      go_wp2_with fail
      go_ret
      exact ⟨_, rfl, by rw [← HF.out.2.2]; exact HF.out.1, HF.out.2.1⟩
end Go.Proofs.Ytanjiecefioffaa

/- tandemref01: add, Add. -/
namespace Go.Proofs.Ytanjiecefioffaa
open Go.RowKit

theorem valD_takeD (l : List Int) (k : Nat) : valD (l.take (k + 1)) = valD (l.take k) + 65536 ^ k * (l.getD k 0).toNat := by
  rcases Nat.lt_or_ge k l.length with h | h
  · rw [List.getD_eq_getElem?_getD, List.getElem?_eq_getElem h]
    exact valD_take l k _ (List.getElem?_eq_getElem h)
  · rw [List.take_of_length_le (by omega), List.take_of_length_le h, List.getD_eq_getElem?_getD, List.getElem?_eq_none h]
    simp
theorem digs_getD {l : List Int} (h : Digs l) (k : Nat) : 0 ≤ l.getD k 0 ∧ l.getD k 0 < 65536 := by
  rw [List.getD_eq_getElem?_getD]
  cases hx : l[k]? with
  | none => exact ⟨Int.le_refl _, by decide⟩
  | some x => exact h x (List.mem_of_getElem? hx)
theorem dadd_digit (P : Nat) {va vb vs c x y t : Nat} (h : vs + P * c = va + vb) (ht : t = x + y + c) : vs + P * (t % 65536) + P * 65536 * (t / 65536) = va + P * x + (vb + P * y) := by
  have h1 : P * (t % 65536) + P * 65536 * (t / 65536) = P * t := by
    rw [Nat.mul_assoc, ← Nat.mul_add]
    congr 1
    omega
  rw [Nat.add_assoc, h1, ht, Nat.mul_add, Nat.mul_add]
  omega
def RAddRel (W : World) (R : HP) (a b : List Int) (m : Nat) (sv c i : Value) (wr : World) : Prop :=
  ∃ (k : Nat) (cv : Int) (s : List Int), k ≤ m ∧ i = .int .i64 k ∧ c = .int .i64 cv ∧ 0 ≤ cv ∧ cv ≤ 1 ∧ s.length = k ∧ Digs s ∧ valD s + 65536 ^ k * cv.toNat = valD (a.take k) + valD (b.take k) ∧
    sat wr (own 3 1 sv k (s.map i64) * R) ∧ Below 0 W wr
set_option maxRecDepth 100000 in
set_option maxHeartbeats 1000000 in
theorem ref_add {w : World} {R : HP} (hs : sat w R) (ao bo : Option Addr) (na nb ca cb : Nat) (a b : List Int) (ha : ∀ w, sat w R → DigsW w ao a) (hb : ∀ w, sat w R → DigsW w bo b) (la : Digs a) (lb : Digs b) (ea : a.length = na) (eb : b.length = nb) (ba : na ≤ 1073741824) (bb : nb ≤ 1073741824) :
    Calls Try.prog 106 #[.slice ao na ca, .slice bo nb cb] w (DigPost R (valD a + valD b) w) := by
  obtain ⟨i0, hi, hz0, hz1, hz2⟩ := info_parts info_i64
  have H1 := Lib.hid (And.intro hi (And.intro hz0 (And.intro hz1 hz2)))
  clear hi hz0 hz1 hz2
  obtain ⟨m, hm⟩ : ∃ m, max na nb = m := ⟨_, rfl⟩
  have HD := Lib.hid (And.intro ha (And.intro hb (And.intro la lb)))
  clear ha hb la lb
  go_enter Try.func106, Try.ntmps106
  go_wp2_with fail
  go_loopw [5, 6, 7] (RAddRel w R a b m) (fun _ _ i _ => m - (intOf i).toNat)
  case atStart => exact ⟨0, 0, [], Nat.zero_le _, rfl, rfl, by decide, by decide, rfl, fun x hx => by simp at hx, by simp [valD], hs.nil_own, Below.refl _ _⟩
  case round =>
    obtain ⟨k, cv, s, hk, rfl, rfl, c0, c1, hsl, hsd, hv, h1, hb1⟩ := hrel
    have hxa := digs_getD HD.out.2.2.1 k
    have hxb := digs_getD HD.out.2.2.2 k
    have hA := ref_at wr ao na ca a k (HD.out.1 _ h1.right) ea (by omega) (by omega)
    have hB := fun n => ref_at (wr.drewN n) bo nb cb b k (HD.out.2.1 _ h1.right) eb (by omega) (by omega)
    by_cases hlt : k < m
    · have hva := valD_takeD a k
      have hvb := valD_takeD b k
      generalize a.getD k 0 = x at *
      generalize b.getD k 0 = y at *
      obtain ⟨p, hp⟩ : ∃ p, (x + y + cv) % 65536 = p := ⟨_, rfl⟩
      obtain ⟨q, hq⟩ : ∃ q, (x + y + cv) / 65536 = q := ⟨_, rfl⟩
      have m1 : (x + y + cv).tmod 65536 = p := by rw [← hp]; exact Int.tmod_eq_emod_of_nonneg (by omega)
      have m2 : (x + y + cv).tdiv 65536 = q := by rw [← hq]; exact Int.tdiv_eq_ediv_of_nonneg (by omega)
      have g1 : IntKind.i64.wrap (x + y) = x + y := IntWalk.i64_in _ (by omega)
      have g2 : IntKind.i64.wrap (x + y + cv) = x + y + cv := IntWalk.i64_in _ (by omega)
      have p2 : IntKind.i64.wrap p = p := IntWalk.i64_in _ (by omega)
      have q2 : IntKind.i64.wrap q = q := IntWalk.i64_in _ (by omega)
      have hdd := dadd_digit (65536 ^ k) (x := x.toNat) (y := y.toNat) hv rfl
      have hp' : (x.toNat + y.toNat + cv.toNat) % 65536 = p.toNat := by omega
      have hq' : (x.toNat + y.toNat + cv.toNat) / 65536 = q.toNat := by omega
      rw [hp', hq', ← hva, ← hvb, ← Nat.pow_succ] at hdd
      have hpb : 0 ≤ p ∧ p < 65536 := by omega
      have hqb : 0 ≤ q ∧ q ≤ 1 := by omega
      have HE := Lib.hid (And.intro hdd (And.intro hsl (And.intro hsd (And.intro hpb (And.intro hqb (And.intro h1 hb1))))))
      clear hdd hsl hsd hpb hqb h1 hb1 hp' hq' hva hvb hv hp hq hs
      have hgd : k < na ∨ (decide (k < na) = false ∧ k < nb) := by
        simp only [decide_eq_false_iff_not]; omega
      rcases hgd with b1 | ⟨b1, b2⟩
      · skip
        go_wp2_with fail
        refine hA.mono ?_
        clear hA
        rintro e w' ⟨rfl, j1, rfl⟩
        go_wp2_with fail
        refine (hB _).mono ?_
        clear hB
        rintro e w' ⟨rfl, j2, rfl⟩
        go_wp2_with (at_builtin; refine halt ?_)
        refine goon ?_
        have hs7 : sat ((wr.drewN (j1 + j2)).alloc (.cells #[.int .i64 p] 3)) (own 3 1 u5 k (s.map i64) * (Go.Proofs.Ytanjiecefioffaa.blk wr.heap.size (.cells #[.int .i64 p] 3 (0, 0)) * R)) := ((HE.out.2.2.2.2.2.1.drewN (j1 + j2)).alloc (.cells #[.int .i64 p] 3)).perm (by ac_rfl)
        have hnew := (hs7.right.left.cell 0).trans (show _ = some (Value.int .i64 p) from rfl)
        have hb7 : Below 0 w ((wr.drewN (j1 + j2)).alloc (.cells #[.int .i64 p] 3)) := (HE.out.2.2.2.2.2.2.trans (drewN_below0 _ (j1 + j2))).trans (Below.zero_alloc _ _)
        obtain ⟨hi, hz0, hz1, hz2⟩ := H1.out
        refine wpList_append_one rfl (.tmp 30) (.tmp 33) 29 rfl 3 i0 (.int .i64 0) 8 Try.underlying29 hi hz0 hz1 hz2 rfl u5 k (s.map i64) rfl _ wr.heap.size (.int .i64 p) rfl ?_ hs7 hnew rfl (by omega) (by unfold maxLen; omega)
        clear hi hz0 hz1 hz2 hnew hs7
        intro v' w9 hs9 hb9
        have HQ := Lib.hid (And.intro hs9.drop_mid (hb7.trans hb9))
        clear hs9 hb9 hb7
        go_wp2_with fail
        go_roundw
        case rel => exact ⟨k + 1, q, s ++ [p], by omega, by go_num, rfl, HE.out.2.2.2.2.1.1, HE.out.2.2.2.2.1.2, by simp [HE.out.2.1], fun z hz => by
            rcases List.mem_append.1 hz with hz | hz
            · exact HE.out.2.2.1 z hz
            · simp at hz; subst hz; exact HE.out.2.2.2.1, by rw [valD_append, HE.out.2.1]; simp only [valD, Nat.mul_zero, Nat.add_zero]; exact HE.out.1, by rw [List.map_append]; exact HQ.out.1, HQ.out.2⟩
        case measure => simp [intOf]; omega
      · skip
        go_wp2_with fail
        refine hA.mono ?_
        clear hA
        rintro e w' ⟨rfl, j1, rfl⟩
        go_wp2_with fail
        refine (hB _).mono ?_
        clear hB
        rintro e w' ⟨rfl, j2, rfl⟩
        go_wp2_with (at_builtin; refine halt ?_)
        refine goon ?_
        have hs7 : sat ((wr.drewN (j1 + j2)).alloc (.cells #[.int .i64 p] 3)) (own 3 1 u5 k (s.map i64) * (Go.Proofs.Ytanjiecefioffaa.blk wr.heap.size (.cells #[.int .i64 p] 3 (0, 0)) * R)) := ((HE.out.2.2.2.2.2.1.drewN (j1 + j2)).alloc (.cells #[.int .i64 p] 3)).perm (by ac_rfl)
        have hnew := (hs7.right.left.cell 0).trans (show _ = some (Value.int .i64 p) from rfl)
        have hb7 : Below 0 w ((wr.drewN (j1 + j2)).alloc (.cells #[.int .i64 p] 3)) := (HE.out.2.2.2.2.2.2.trans (drewN_below0 _ (j1 + j2))).trans (Below.zero_alloc _ _)
        obtain ⟨hi, hz0, hz1, hz2⟩ := H1.out
        refine wpList_append_one rfl (.tmp 30) (.tmp 33) 29 rfl 3 i0 (.int .i64 0) 8 Try.underlying29 hi hz0 hz1 hz2 rfl u5 k (s.map i64) rfl _ wr.heap.size (.int .i64 p) rfl ?_ hs7 hnew rfl (by omega) (by unfold maxLen; omega)
        clear hi hz0 hz1 hz2 hnew hs7
        intro v' w9 hs9 hb9
        have HQ := Lib.hid (And.intro hs9.drop_mid (hb7.trans hb9))
        clear hs9 hb9 hb7
        go_wp2_with fail
        go_roundw
        case rel => exact ⟨k + 1, q, s ++ [p], by omega, by go_num, rfl, HE.out.2.2.2.2.1.1, HE.out.2.2.2.2.1.2, by simp [HE.out.2.1], fun z hz => by
            rcases List.mem_append.1 hz with hz | hz
            · exact HE.out.2.2.1 z hz
            · simp at hz; subst hz; exact HE.out.2.2.2.1, by rw [valD_append, HE.out.2.1]; simp only [valD, Nat.mul_zero, Nat.add_zero]; exact HE.out.1, by rw [List.map_append]; exact HQ.out.1, HQ.out.2⟩
        case measure => simp [intOf]; omega
    · obtain rfl : k = m := by omega
      have b1 : decide (k < na) = false := by rw [decide_eq_false_iff_not]; omega
      have b2 : decide (k < nb) = false := by rw [decide_eq_false_iff_not]; omega
      rw [List.take_of_length_le (by omega), List.take_of_length_le (by omega)] at hv
      clear hA hB hxa hxb
      have hdc : Digs (s ++ [cv]) := fun z hz => by
        rcases List.mem_append.1 hz with hz | hz
        · exact hsd z hz
        · simp at hz; subst hz; omega
      have hvc : valD (s ++ [cv]) = valD a + valD b := by rw [valD_append, hsl]; simp only [valD, Nat.mul_zero, Nat.add_zero]; exact hv
      have HE := Lib.hid (And.intro hdc (And.intro hvc (And.intro hsl (And.intro h1 hb1))))
      clear hdc hvc hsd hv h1 hb1 hs hsl
      go_wp2_with (at_builtin; refine halt ?_)
      refine goon ?_
      have hs7 : sat (wr.alloc (.cells #[.int .i64 cv] 3)) (own 3 1 u5 k (s.map i64) * (Go.Proofs.Ytanjiecefioffaa.blk wr.heap.size (.cells #[.int .i64 cv] 3 (0, 0)) * R)) := (HE.out.2.2.2.1.alloc (.cells #[.int .i64 cv] 3)).perm (by ac_rfl)
      have hnew := (hs7.right.left.cell 0).trans (show _ = some (Value.int .i64 cv) from rfl)
      have hb7 : Below 0 w (wr.alloc (.cells #[.int .i64 cv] 3)) := HE.out.2.2.2.2.trans (Below.zero_alloc _ _)
      obtain ⟨hi, hz0, hz1, hz2⟩ := H1.out
      refine wpList_append_one rfl (.tmp 37) (.tmp 39) 29 rfl 3 i0 (.int .i64 0) 8 Try.underlying29 hi hz0 hz1 hz2 rfl u5 k (s.map i64) rfl _ wr.heap.size (.int .i64 cv) rfl ?_ hs7 hnew rfl (by omega) (by unfold maxLen; omega)
      clear hi hz0 hz1 hz2 hnew hs7
      intro v' w9 hs9 hb9
      have hs10 : sat w9 (own 3 1 v' (k + 1) ((s ++ [cv]).map i64) * R) := by rw [List.map_append]; exact hs9.drop_mid
      obtain ⟨a9, c9, rfl⟩ := own_val hs10
      have hT := ref_trim hs10 a9 (k + 1) c9 (s ++ [cv]) (digs_own rfl hs10) HE.out.1 (by simp [HE.out.2.2.1]) (own_cap hs10) (by omega)
      rw [HE.out.2.1] at hT
      have HQ := Lib.hid (hb7.trans hb9)
      clear hs9 hb9 hb7 hs10 HE
      go_wp2_with fail
      refine hT.mono ?_
      rintro e w4 ⟨v, rfl, h4, hb4⟩
      have HK := Lib.hid (And.intro h4.drop_mid (HQ.out.trans hb4))
      clear h4 hb4 hT
      go_wp2_with fail
      go_ret
      exact ⟨v, rfl, HK.out.1, HK.out.2⟩
end Go.Proofs.Ytanjiecefioffaa

/- tandemref01.Add, tandemref02.Of, Canon. -/
namespace Go.Proofs.Ytanjiecefioffaa
open Go.RowKit

/-- Rows of limbs that lie in a row. -/
def SlicesIn (R : HP) (b : Nat) (ls : List (Option Addr × Nat × List Int)) : Prop := ∀ w, sat w R → ∀ (j : Nat) t, ls[j]? = some t → w.cell? ⟨b, j, none⟩ = some (.slice t.1 t.2.2.length t.2.1) ∧ LimbsW w t.1 t.2.2
def sumV (ls : List (Option Addr × Nat × List Int)) : Nat := (ls.map fun t => valL t.2.2).sum
theorem digs_bound {n m a b : Nat} (ha : a < 65536 ^ n) (hb : b < 65536 ^ m) (h : m ≤ n) : a + b < 65536 ^ (n + 1) := by
  have h1 : 65536 ^ m ≤ 65536 ^ n := Nat.pow_le_pow_right (by decide) h
  rw [Nat.pow_succ]
  omega
theorem sumV_bound : ∀ (ls : List (Option Addr × Nat × List Int)) (L k : Nat), (∀ t ∈ ls, valL t.2.2 < 65536 ^ L) → k ≤ ls.length → sumV (ls.take k) < 65536 ^ (L + k) := by
  intro ls L k h hk
  induction k with
  | zero => simp only [List.take_zero, sumV, List.map_nil, List.sum_nil]; exact Nat.pow_pos (by decide)
  | succ k ih =>
    have h1 := ih (by omega)
    have h2 := h ls[k] (List.getElem_mem _)
    have h3 := digs_bound h1 h2 (by omega)
    rw [List.take_add_one, List.getElem?_eq_getElem (by omega)]
    unfold sumV at *
    simp only [Option.toList_some, List.map_append, List.sum_append, List.map_cons, List.map_nil, List.sum_cons, List.sum_nil, Nat.add_zero]
    exact h3
theorem valL_bound {l : List Int} (h : Limbs l) {m : Nat} (hl : l.length ≤ m) : valL l < 65536 ^ (2 * m) := by
  have h1 := valL_lt h
  have h2 : (4294967296 : Nat) ^ l.length ≤ 4294967296 ^ m := Nat.pow_le_pow_right (by decide) hl
  rw [Nat.pow_mul]
  exact Nat.lt_of_lt_of_le h1 h2
def RSumRel (W : World) (R : HP) (ls : List (Option Addr × Nat × List Int)) (sv i : Value) (wr : World) : Prop :=
  ∃ k : Nat, k ≤ ls.length ∧ i = .int .i64 k ∧ sat wr (own 3 1 sv (digsOf (sumV (ls.take k))).length ((digsOf (sumV (ls.take k))).map i64) * R) ∧ Below 0 W wr
set_option maxRecDepth 100000 in
set_option maxHeartbeats 1000000 in
theorem ref_Add {w : World} {R : HP} (hs : sat w R) (b n c : Nat) (ls : List (Option Addr × Nat × List Int)) (hn : ls.length = n) (hb : n ≤ 10) (hx : SlicesIn R b ls) (hl : ∀ t ∈ ls, Limbs t.2.2 ∧ t.2.2.length ≤ 268435456) :
    Calls Try.prog 95 #[.slice (some ⟨b, 0, none⟩) n c] w (LimPost R (sumV ls) w) := by
  subst hn
  obtain ⟨L, hL⟩ : ∃ L : Nat, L = 268435456 := ⟨_, rfl⟩
  rw [← hL] at hl
  have hbd := fun k => sumV_bound ls (2 * L) k (fun t ht => valL_bound (hl t ht).1 (hl t ht).2)
  have HX := Lib.hid (And.intro hx (And.intro hl hbd))
  clear hx hl hbd
  go_enter Try.func95, Try.ntmps95
  go_wp2_with fail
  go_loopw [3, 4] (RSumRel w R ls) (fun _ i _ => ls.length - (intOf i).toNat)
  case atStart => exact ⟨0, Nat.zero_le _, rfl, by simpa [sumV, digsOf_zero] using hs.nil_own (e := 3) (sz := 1), Below.refl _ _⟩
  case round =>
    obtain ⟨k, hk, rfl, h1, hb1⟩ := hrel
    have hlen := digsOf_len (HX.out.2.2 k hk)
    by_cases hlt : k < ls.length
    · obtain ⟨t, ex⟩ : ∃ t, ls[k]? = some t := ⟨_, List.getElem?_eq_getElem hlt⟩
      obtain ⟨hcx, htx⟩ := HX.out.1 wr h1.right k t ex
      have htl := HX.out.2.1 t (List.mem_of_getElem? ex)
      have hsum : sumV (ls.take (k + 1)) = sumV (ls.take k) + valL t.2.2 := by rw [List.take_add_one, ex]; unfold sumV; simp
      have hH := ref_half h1 t.1 t.2.2.length t.2.1 t.2.2 (fun w h => (HX.out.1 w h.right k t ex).2) htl.1 rfl (by omega)
      obtain ⟨a3, c3, rfl⟩ := own_val h1
      have htlen := digsOf_len (valL_bound htl.1 htl.2)
      generalize valL t.2.2 = v1 at *
      generalize sumV (ls.take k) = v0 at *
      have HE := Lib.hid (And.intro hsum (And.intro hb1 htlen))
      clear hsum hb1 h1 htx htl ex hs htlen
      go_wp2_with fail
      refine hH.mono ?_
      clear hH
      rintro e w3 ⟨v, rfl, h3, hb3⟩
      obtain ⟨a4, c4, rfl⟩ := own_val h3
      have hA := ref_add h3 a3 a4 (digsOf v0).length (digsOf v1).length c3 c4 (digsOf v0) (digsOf v1) (fun w h => digs_own rfl h.right) (fun w h => digs_own rfl h) (digsOf_digs _) (digsOf_digs _) rfl rfl (by omega) (by have := HE.out.2.2; omega)
      rw [valD_digsOf, valD_digsOf, ← HE.out.1] at hA
      have HF := Lib.hid (HE.out.2.1.trans hb3)
      clear h3 hb3
      go_wp2_with fail
      refine hA.mono ?_
      clear hA
      rintro e w5 ⟨v, rfl, h5, hb5⟩
      have HG := Lib.hid (And.intro h5.drop_mid.drop_mid (HF.out.trans hb5))
      clear h5 hb5
      go_wp2_with fail
      go_roundw
      case rel => exact ⟨k + 1, by omega, by go_num, HG.out.1, HG.out.2⟩
      case measure => simp [intOf]; omega
    · obtain rfl : k = ls.length := by omega
      have hge : decide ((ls.length : Int) < (ls.length : Int)) = false := by simp
      rw [List.take_of_length_le (Nat.le_refl _)] at h1 hlen
      obtain ⟨a3, c3, rfl⟩ := own_val h1
      have hT := ref_full h1 a3 _ c3 (digsOf (sumV ls)) (digs_own rfl h1) (digsOf_digs _) rfl (own_cap h1) (by omega)
      rw [valD_digsOf] at hT
      have HH := Lib.hid (And.intro hb1 hT)
      clear h1 hb1 hT hs
      go_wp2_with fail
      refine HH.out.2.mono ?_
      rintro e w4 ⟨v, rfl, h4, hb4⟩
      have HK := Lib.hid (And.intro h4.drop_mid (HH.out.1.trans hb4))
      clear h4 hb4
      go_wp2_with fail
      go_ret
      exact ⟨v, rfl, HK.out.1, HK.out.2⟩
/-- A canonical number, in new memory. -/
def RefNumPost (R : HP) (s : Int) (w : World) (e : Ending) (w' : World) : Prop :=
  ∃ ao c, e = .returned (.agg #[.bool (decide (s < 0)), .slice ao (limbsOf s.natAbs).length c]) ∧ sat w' (own 70 1 (.slice ao (limbsOf s.natAbs).length c) (limbsOf s.natAbs).length ((limbsOf s.natAbs).map u32v) * R) ∧ Below 0 w w'
set_option maxRecDepth 100000 in
set_option maxHeartbeats 1000000 in
theorem ref_Of {w : World} {R : HP} (hs : sat w R) (n : Bool) (ao : Option Addr) (ca : Nat) (a : List Int) (ha : ∀ w, sat w R → LimbsW w ao a) (la : Limbs a) (na : a.length ≤ 268435456) :
    Calls Try.prog 66 #[.bool n, .slice ao a.length ca] w (RefNumPost R (sgn n (valL a)) w) := by
  have h1 := (hs.alloc (.cells #[.bool false, .slice none 0 0] 51)).alloc (.cells #[.slice ao a.length ca] 49)
  rw [World.size_alloc] at h1
  have hA := ref_Add h1 (w.heap.size + 1) 1 1 [(ao, ca, a)] rfl (by decide) (by
    intro w' h j t hj
    match j, hj with
    | 0, hj =>
      simp at hj
      subst hj
      exact ⟨(h.left.cell 0).trans rfl, ha _ h.right.right⟩) (by simp; exact ⟨la, na⟩)
  rw [show sumV [(ao, ca, a)] = valL a by simp [sumV]] at hA
  have HB := Lib.hid (show Below 0 w _ from (Below.zero_alloc w (.cells #[.bool false, .slice none 0 0] 51)).trans (Below.zero_alloc _ (.cells #[.slice ao a.length ca] 49)))
  clear h1
  go_enter Try.func66, Try.ntmps66
  go_wp2_with fail
  refine hA.mono ?_
  clear hA
  rintro e w3 ⟨v, rfl, h3, hb3⟩
  obtain ⟨a3, c3, rfl⟩ := own_val h3
  have hs4 : sat w3 (Go.Proofs.Ytanjiecefioffaa.blk w.heap.size (.cells #[.bool false, .slice none 0 0] 51 (0, 0)) * (own 70 1 (.slice a3 (limbsOf (valL a)).length c3) (limbsOf (valL a)).length ((limbsOf (valL a)).map u32v) * R)) := (h3.perm (by ac_rfl) : sat w3 (Go.Proofs.Ytanjiecefioffaa.blk (w.heap.size + 1) (.cells #[.slice ao a.length ca] 49 (0, 0)) * (Go.Proofs.Ytanjiecefioffaa.blk w.heap.size (.cells #[.bool false, .slice none 0 0] 51 (0, 0)) * (own 70 1 (.slice a3 (limbsOf (valL a)).length c3) (limbsOf (valL a)).length ((limbsOf (valL a)).map u32v) * R)))).right
  have hsa : limbsOf (sgn n (valL a)).natAbs = limbsOf (valL a) := by rw [sgn_abs]
  have hsg : decide (sgn n (valL a) < 0) = (n && decide (0 < (limbsOf (valL a)).length)) := by
    have : 0 < (limbsOf (valL a)).length ↔ valL a ≠ 0 := by
      rw [List.length_pos_iff]
      exact not_congr limbsOf_nil
    rw [show decide (0 < (limbsOf (valL a)).length) = decide (valL a ≠ 0) from decide_eq_decide.2 this]
    unfold sgn
    cases n
    · simp
    · simp only [if_true, Bool.true_and, decide_eq_decide]; omega
  have hnl := limbsOf_len_le la
  generalize limbsOf (valL a) = m at *
  generalize sgn n (valL a) = sg at *
  obtain ⟨q, hq⟩ : ∃ q, (n && decide (0 < m.length)) = q := ⟨_, rfl⟩
  rw [hq] at hsg
  have HC := Lib.hid (And.intro hs4 (HB.out.trans hb3))
  have c0 := (HC.out.1.left.cell 0).trans rfl
  have f0 := HC.out.1.left.frozen 0
  have c1 := (HC.out.1.left.cell 1).trans rfl
  have f1 := HC.out.1.left.frozen 1
  have hfin : sat ((w3.setCell ⟨w.heap.size, 0, none⟩ (.bool q)).setCell ⟨w.heap.size, 1, none⟩ (.slice a3 m.length c3)) _ := (HC.out.1.setCell (off := 0) (.bool q)).setCell (off := 1) (.slice a3 m.length c3)
  have hfb : Below 0 w ((w3.setCell ⟨w.heap.size, 0, none⟩ (.bool q)).setCell ⟨w.heap.size, 1, none⟩ (.slice a3 m.length c3)) := (HC.out.2.setCell (p := ⟨w.heap.size, 0, none⟩) (Nat.zero_le _) (.bool q)).setCell (p := ⟨w.heap.size, 1, none⟩) (Nat.zero_le _) (.slice a3 m.length c3)
  have r0 := (hfin.left.cell 0).trans (show _ = some (Value.bool q) from rfl)
  have r1 := (hfin.left.cell 1).trans (show _ = some (Value.slice a3 m.length c3) from rfl)
  have hpost : RefNumPost R sg w (.returned (.agg #[.bool q, .slice a3 m.length c3])) ((w3.setCell ⟨w.heap.size, 0, none⟩ (.bool q)).setCell ⟨w.heap.size, 1, none⟩ (.slice a3 m.length c3)) := by
    unfold RefNumPost
    rw [hsa, hsg]
    exact ⟨a3, c3, rfl, hfin.right, hfb⟩
  have HP2 := Lib.hid (And.intro hpost (And.intro r0 r1))
  clear hfin hfb hpost r0 r1 h3 hb3 hs4 hsa hsg hs ha la
  cases n with
  | false =>
    have hq' : false = q := by rw [← hq]; rfl
    subst hq'
    go_wp2_with fail
    have r0 := HP2.out.2.1
    have r1 := HP2.out.2.2
    exact bodyPost_ret (v := .agg #[.bool false, .slice a3 m.length c3]) (by simp [results, Try.results66, go_sem, r0, r1]) rfl HP2.out.1
  | true =>
    by_cases hm : 0 < m.length
    · have hq' : true = q := by rw [← hq]; simp [hm]
      subst hq'
      go_wp2_with fail
      have r0 := HP2.out.2.1
      have r1 := HP2.out.2.2
      exact bodyPost_ret (v := .agg #[.bool true, .slice a3 m.length c3]) (by simp [results, Try.results66, go_sem, r0, r1]) rfl HP2.out.1
    · have hq' : false = q := by rw [← hq]; simp [hm]
      subst hq'
      have hm0 : m.length = 0 := by omega
      rw [hm0] at HP2 ⊢
      go_wp2_with fail
      have r0 := HP2.out.2.1
      have r1 := HP2.out.2.2
      exact bodyPost_ret (v := .agg #[.bool false, .slice a3 0 c3]) (by simp [results, Try.results66, go_sem, r0, r1]) rfl HP2.out.1
set_option maxRecDepth 100000 in
set_option maxHeartbeats 1000000 in
theorem ref_Canon {w : World} {R : HP} (hs : sat w R) (n : Bool) (ao : Option Addr) (ca : Nat) (a : List Int) (ha : ∀ w, sat w R → LimbsW w ao a) (la : Limbs a) (na : a.length ≤ 268435456) :
    Calls Try.prog 35 #[.agg #[.bool n, .slice ao a.length ca]] w (RefNumPost R (sgn n (valL a)) w) := by
  have h1 := (hs.alloc (.cells #[.bool n, .slice ao a.length ca] 51)).alloc (.cells #[.bool false, .slice none 0 0] 51)
  rw [World.size_alloc] at h1
  have hO := ref_Of h1 n ao ca a (fun w' h => ha _ h.right.right) la na
  have HB := Lib.hid (show Below 0 w _ from (Below.zero_alloc w (.cells #[.bool n, .slice ao a.length ca] 51)).trans (Below.zero_alloc _ (.cells #[.bool false, .slice none 0 0] 51)))
  clear h1 hs ha
  go_enter Try.func35, Try.ntmps35
  go_wp2_with fail
  refine hO.mono ?_
  clear hO
  rintro e w3 ⟨a3, c3, rfl, h3, hb3⟩
  generalize sgn n (valL a) = sg at *
  obtain ⟨q, hq⟩ : ∃ q, decide (sg < 0) = q := ⟨_, rfl⟩
  obtain ⟨m, hm⟩ : ∃ m, limbsOf sg.natAbs = m := ⟨_, rfl⟩
  rw [hm] at h3 ⊢
  rw [hq]
  have hs4 : sat w3 (Go.Proofs.Ytanjiecefioffaa.blk (w.heap.size + 1) (.cells #[.bool false, .slice none 0 0] 51 (0, 0)) * (own 70 1 (.slice a3 m.length c3) m.length (m.map u32v) * R)) := (h3.perm (by ac_rfl) : sat w3 (Go.Proofs.Ytanjiecefioffaa.blk w.heap.size (.cells #[.bool n, .slice ao a.length ca] 51 (0, 0)) * (Go.Proofs.Ytanjiecefioffaa.blk (w.heap.size + 1) (.cells #[.bool false, .slice none 0 0] 51 (0, 0)) * (own 70 1 (.slice a3 m.length c3) m.length (m.map u32v) * R)))).right
  have c0 := (hs4.left.cell 0).trans rfl
  have f0 := hs4.left.frozen 0
  have c1 := (hs4.left.cell 1).trans rfl
  have f1 := hs4.left.frozen 1
  have hfin : sat ((w3.setCell ⟨w.heap.size + 1, 0, none⟩ (.bool q)).setCell ⟨w.heap.size + 1, 1, none⟩ (.slice a3 m.length c3)) _ := (hs4.setCell (off := 0) (.bool q)).setCell (off := 1) (.slice a3 m.length c3)
  have hfb : Below 0 w ((w3.setCell ⟨w.heap.size + 1, 0, none⟩ (.bool q)).setCell ⟨w.heap.size + 1, 1, none⟩ (.slice a3 m.length c3)) := ((HB.out.trans hb3).setCell (p := ⟨w.heap.size + 1, 0, none⟩) (Nat.zero_le _) (.bool q)).setCell (p := ⟨w.heap.size + 1, 1, none⟩) (Nat.zero_le _) (.slice a3 m.length c3)
  have r0 := (hfin.left.cell 0).trans (show _ = some (Value.bool q) from rfl)
  have r1 := (hfin.left.cell 1).trans (show _ = some (Value.slice a3 m.length c3) from rfl)
  have hpost : RefNumPost R sg w (.returned (.agg #[.bool q, .slice a3 m.length c3])) ((w3.setCell ⟨w.heap.size + 1, 0, none⟩ (.bool q)).setCell ⟨w.heap.size + 1, 1, none⟩ (.slice a3 m.length c3)) := by
    unfold RefNumPost
    rw [hm, hq]
    exact ⟨a3, c3, rfl, hfin.right, hfb⟩
  have HP2 := Lib.hid (And.intro hpost (And.intro r0 r1))
  clear hfin hfb hpost r0 r1 h3 hb3 hs4 hm hq
  go_wp2_with fail
  have r0 := HP2.out.2.1
  have r1 := HP2.out.2.2
  exact bodyPost_ret (v := .agg #[.bool q, .slice a3 m.length c3]) (by simp [results, Try.results35, go_sem, r0, r1]) rfl HP2.out.1
end Go.Proofs.Ytanjiecefioffaa

/- tandemref01: cmp, sub. -/
namespace Go.Proofs.Ytanjiecefioffaa
open Go.RowKit

theorem valD_drop_lt : ∀ {x y : List Int} (k : Nat) {p q : Int}, Digs x → Digs y → x[k]? = some p → y[k]? = some q → x.drop (k + 1) = y.drop (k + 1) → p < q → valD x < valD y
  | [], _, k, p, q, _, _, hp, _, _, _ => by simp at hp
  | _, [], k, p, q, _, _, _, hq, _, _ => by simp at hq
  | u :: x, v :: y, 0, p, q, hx, hy, hp, hq, hd, h => by
    simp at hp hq hd
    subst hp hq hd
    have := hx u (by simp); have := hy v (by simp)
    simp only [valD]
    omega
  | u :: x, v :: y, k + 1, p, q, hx, hy, hp, hq, hd, h => by
    have ih := valD_drop_lt (x := x) (y := y) k (fun z hz => hx z (by simp [hz])) (fun z hz => hy z (by simp [hz])) (by simpa using hp) (by simpa using hq) (by simpa using hd) h
    have := hx u (by simp); have := hy v (by simp)
    simp only [valD]
    omega
theorem digsOf_len_lt {a b : Nat} (h : (digsOf a).length < (digsOf b).length) : a < b := by
  rcases Nat.lt_or_ge a b with h1 | h1
  · exact h1
  · exfalso
    -- a ≥ b: a's limbs are as many at least
    have key : ∀ (b a : Nat), b ≤ a → (digsOf b).length ≤ (digsOf a).length := by
      intro b
      induction b using Nat.strongRecOn with
      | ind b ih =>
        intro a hab
        by_cases hb : b = 0
        · subst hb; rw [digsOf_zero]; simp
        · rw [digsOf_pos hb, digsOf_pos (show a ≠ 0 by omega)]
          have := ih (b / 65536) (by omega) (a / 65536) (by omega)
          simp only [List.length_cons]
          omega
    have := key b a h1
    omega


set_option maxRecDepth 100000 in
set_option maxHeartbeats 2000000 in
theorem ref_cmp {w : World} {R : HP} (hs : sat w R) (ao bo : Option Addr) (na nb ca cb : Nat) (a b : List Int) (ha : ∀ w, sat w R → DigsW w ao a) (hb : ∀ w, sat w R → DigsW w bo b) (la : Digs a) (lb : Digs b) (ea : a.length = na) (eb : b.length = nb) (hca : na ≤ ca) (hcb : nb ≤ cb) (ba : na ≤ 1073741824) (bb : nb ≤ 1073741824) :
    Calls Try.prog 119 #[.slice ao na ca, .slice bo nb cb] w (KeepsR R (.int .i64 (cmpN (valD a) (valD b))) w) := by
  have hal : (digsOf (valD a)).length ≤ na := by rw [← ea]; exact digsOf_len_le la
  have hbl : (digsOf (valD b)).length ≤ nb := by rw [← eb]; exact digsOf_len_le lb
  have tA := ref_trim hs ao na ca a (ha w hs) la ea hca (by omega)
  have tB := fun (w : World) (P : HP) (h : sat w (P * R)) => ref_trim h bo nb cb b (hb w h.right) lb eb hcb (by omega)
  obtain ⟨x, hx⟩ : ∃ x, digsOf (valD a) = x := ⟨_, rfl⟩
  obtain ⟨y, hy⟩ : ∃ y, digsOf (valD b) = y := ⟨_, rfl⟩
  have hvx : valD a = valD x := by rw [← hx, valD_digsOf]
  have hvy : valD b = valD y := by rw [← hy, valD_digsOf]
  have lx : Digs x := hx ▸ digsOf_digs _
  have ly : Digs y := hy ▸ digsOf_digs _
  have hlt1 : x.length < y.length → valD a < valD b := fun h => digsOf_len_lt (by rw [hx, hy]; exact h)
  have hlt2 : y.length < x.length → valD b < valD a := fun h => digsOf_len_lt (by rw [hx, hy]; exact h)
  unfold DigPost at tA tB
  rw [hx] at tA hal
  simp only [hy] at tB
  rw [hy] at hbl
  have HV := Lib.hid (And.intro hvx (And.intro hvy (And.intro lx (And.intro ly (And.intro hlt1 hlt2)))))
  clear hx hy hvx hvy lx ly hlt1 hlt2 ha hb la lb ea eb hs
  obtain ⟨cc, hcc⟩ : ∃ cc, cmpN (valD a) (valD b) = cc := ⟨_, rfl⟩
  rw [hcc]
  have HCC := Lib.hid hcc
  clear hcc
  go_enter Try.func119, Try.ntmps119
  go_wp2_with fail
  refine tA.mono ?_
  clear tA
  rintro e w1 ⟨v, rfl, h1, hb1⟩
  obtain ⟨a1, c1, rfl⟩ := own_val h1
  have hB := tB w1 _ h1
  have HB := Lib.hid hb1
  clear h1 hb1 tB
  go_wp2_with fail
  refine hB.mono ?_
  clear hB
  rintro e w2 ⟨v, rfl, h2, hb2⟩
  obtain ⟨a2, c2, rfl⟩ := own_val h2
  have rx : DigsW w2 a1 x := digs_own rfl h2.right
  have ry : DigsW w2 a2 y := digs_own rfl h2
  have HR := Lib.hid (And.intro h2.right.right (HB.out.trans hb2))
  clear h2 hb2 HB
  have hfin : ∀ m, KeepsR R (.int .i64 cc) w (.returned (.int .i64 cc)) (w2.drewN m) := fun m => ⟨rfl, HR.out.1.drewN m, HR.out.2.trans (drewN_below0 _ m)⟩
  have HF := Lib.hid hfin
  clear hfin
  rcases Nat.lt_trichotomy x.length y.length with h | h | h
  · have b0 : (x.length == y.length) = false := by simp; omega
    have b1 : decide ((x.length : Int) < (y.length : Int)) = true := by simp; omega
    have hc : cc = -1 := by rw [← HCC.out]; unfold cmpN; rw [if_pos (HV.out.2.2.2.2.1 h)]
    subst hc
    go_wp2_with fail
    go_ret
    exact HF.out 0
  · obtain ⟨n, hn⟩ : ∃ n, y.length = n := ⟨_, rfl⟩
    have hxn : x.length = n := by omega
    rw [hxn] at hal
    rw [hn] at hbl
    clear h
    rw [hxn, hn]
    have g1 : IntKind.i64.wrap ((n : Int) - 1) = (n : Int) - 1 := IntWalk.i64_in _ (by omega)
    have HN := Lib.hid (And.intro hxn hn)
    clear hxn hn
    go_wp2_with fail
    go_loopw [5] (CmpRel w2 x y n) (fun i _ => (intOf i + 1).toNat)
    case atStart => exact ⟨n, 0, Nat.le_refl _, rfl, rfl, by rw [List.drop_of_length_le (by rw [HN.out.1]; exact Nat.le_refl _), List.drop_of_length_le (by rw [HN.out.2]; exact Nat.le_refl _)]⟩
    case round =>
      obtain ⟨k, m, hk, rfl, rfl, hd⟩ := hrel
      cases k with
      | zero =>
        have hxy : x = y := by simpa using hd
        have hc : cc = 0 := by
          rw [← HCC.out]
          unfold cmpN
          rw [HV.out.1, HV.out.2.1, hxy]
          simp
        subst hc
        have b1 : decide ((((0 : Nat) : Int) - 1) ≥ 0) = false := by decide
        clear hxy hd
        go_wp2_with fail
        go_ret
        exact HF.out m
      | succ k =>
        obtain ⟨p, ep⟩ : ∃ p, x[k]? = some p := ⟨_, List.getElem?_eq_getElem (by have := HN.out.1; omega)⟩
        obtain ⟨q, eq⟩ : ∃ q, y[k]? = some q := ⟨_, List.getElem?_eq_getElem (by have := HN.out.2; omega)⟩
        obtain ⟨aa, rfl, hcp⟩ := rx k p ep
        obtain ⟨ab, rfl, hcq⟩ := ry k q eq
        have hcp' : (w2.drewN m).cell? (aa.add k) = some (.int .i64 p) := hcp
        have hcq' : (w2.drewN m).cell? (ab.add k) = some (.int .i64 q) := hcq
        have b1 : decide ((((k + 1 : Nat) : Int) - 1) ≥ 0) = true := by rw [decide_eq_true_eq]; omega
        have b2 : (((k + 1 : Nat) : Int) - 1) = (k : Int) := by omega
        rw [b2] at b1 ⊢
        have HE := Lib.hid (And.intro ep (And.intro eq hd))
        clear ep eq hd b2 hcp hcq
        obtain ⟨w9, hw9⟩ : ∃ w9, w2.drewN m = w9 := ⟨_, rfl⟩
        rw [hw9] at hcp' hcq' ⊢
        have HW := Lib.hid hw9
        clear hw9
        rcases Int.lt_trichotomy p q with h | h | h
        · have c1 : decide (p < q) = true := by simp [h]
          have hc : cc = -1 := by
            rw [← HCC.out]
            unfold cmpN
            rw [if_pos (by rw [HV.out.1, HV.out.2.1]; exact valD_drop_lt k HV.out.2.2.1 HV.out.2.2.2.1 HE.out.1 HE.out.2.1 HE.out.2.2 h)]
          subst hc
          clear h
          go_wp2_with fail
          go_quiet (fail)
          go_wp2_with fail
          go_ret
          rw [← HW.out, World.drewN_drewN]
          exact HF.out _
        · subst h
          have c1 : decide (p < p) = false := by simp
          have c2 : decide (p > p) = false := by simp
          go_wp2_with fail
          go_quiet (fail)
          go_wp2_with fail
          go_quiet (fail)
          go_wp2_with fail
          go_roundw
          case rel =>
            refine ⟨k, _, by omega, rfl, by rw [← HW.out, World.drewN_drewN], ?_⟩
            obtain ⟨h1, e1⟩ := List.getElem?_eq_some_iff.1 HE.out.1
            obtain ⟨h2, e2⟩ := List.getElem?_eq_some_iff.1 HE.out.2.1
            rw [List.drop_eq_getElem_cons h1, List.drop_eq_getElem_cons h2, e1, e2, HE.out.2.2]
          case measure => simp [intOf]
        · have c1 : decide (p < q) = false := by simp; omega
          have c2 : decide (p > q) = true := by simp [h]
          have hc : cc = 1 := by
            have := valD_drop_lt k HV.out.2.2.2.1 HV.out.2.2.1 HE.out.2.1 HE.out.1 HE.out.2.2.symm h
            rw [← HCC.out]
            unfold cmpN
            rw [HV.out.1, HV.out.2.1, if_neg (by omega), if_pos this]
          subst hc
          clear h
          go_wp2_with fail
          go_quiet (fail)
          go_wp2_with fail
          go_quiet (fail)
          go_wp2_with fail
          go_ret
          rw [← HW.out, World.drewN_drewN, World.drewN_drewN]
          exact HF.out _
  · have b0 : (x.length == y.length) = false := by simp; omega
    have b1 : decide ((x.length : Int) < (y.length : Int)) = false := by simp; omega
    have hc : cc = 1 := by have := HV.out.2.2.2.2.2 h; rw [← HCC.out]; unfold cmpN; rw [if_neg (by omega), if_pos this]
    subst hc
    go_wp2_with fail
    go_ret
    exact HF.out 0
end Go.Proofs.Ytanjiecefioffaa

/- tandemref01.sub. -/
namespace Go.Proofs.Ytanjiecefioffaa
open Go.RowKit

theorem dsub_digit (P : Nat) {va vb vs c x y t c' : Nat} (h : va + P * c = vs + vb) (ht : x + 65536 * c' = t + y + c) : va + P * x + P * 65536 * c' = vs + P * t + (vb + P * y) := by
  have h1 : P * x + P * 65536 * c' = P * t + P * y + P * c := by
    rw [Nat.mul_assoc, ← Nat.mul_add, ht, Nat.mul_add, Nat.mul_add]
  omega
def RSubRel (W : World) (R : HP) (a b : List Int) (sv c i : Value) (wr : World) : Prop :=
  ∃ (k : Nat) (cv : Int) (s : List Int), k ≤ a.length ∧ i = .int .i64 k ∧ c = .int .i64 cv ∧ 0 ≤ cv ∧ cv ≤ 1 ∧ s.length = k ∧ Digs s ∧ valD (a.take k) + 65536 ^ k * cv.toNat = valD s + valD (b.take k) ∧
    sat wr (own 3 1 sv k (s.map i64) * R) ∧ Below 0 W wr
set_option maxRecDepth 100000 in
set_option maxHeartbeats 2000000 in
theorem ref_sub {w : World} {R : HP} (hs : sat w R) (ao bo : Option Addr) (nb ca cb : Nat) (a b : List Int) (ha : ∀ w, sat w R → DigsW w ao a) (hb : ∀ w, sat w R → DigsW w bo b) (la : Digs a) (lb : Digs b) (eb : b.length = nb) (hab : nb ≤ a.length) (hv : valD b ≤ valD a) (ba : a.length ≤ 1073741824) :
    Calls Try.prog 118 #[.slice ao a.length ca, .slice bo nb cb] w (DigPost R (valD a - valD b) w) := by
  obtain ⟨i0, hi, hz0, hz1, hz2⟩ := info_parts info_i64
  have H1 := Lib.hid (And.intro hi (And.intro hz0 (And.intro hz1 hz2)))
  clear hi hz0 hz1 hz2
  obtain ⟨n, hn⟩ : ∃ n, a.length = n := ⟨_, rfl⟩
  rw [hn] at hab ba ⊢
  have HD := Lib.hid (And.intro ha (And.intro hb (And.intro la (And.intro lb (And.intro hn hv)))))
  clear ha hb la lb hn hv
  go_enter Try.func118, Try.ntmps118
  go_wp2_with fail
  go_loopw [5, 6, 7] (RSubRel w R a b) (fun _ _ i _ => n - (intOf i).toNat)
  case atStart => exact ⟨0, 0, [], Nat.zero_le _, rfl, rfl, by decide, by decide, rfl, fun x hx => by simp at hx, by simp [valD], hs.nil_own, Below.refl _ _⟩
  case round =>
    obtain ⟨k, cv, s, hk, rfl, rfl, c0, c1, hsl, hsd, hv, h1, hb1⟩ := hrel
    rw [HD.out.2.2.2.2.1] at hk
    by_cases hlt : k < n
    · obtain ⟨x, ex⟩ : ∃ x, a[k]? = some x := ⟨_, List.getElem?_eq_getElem (by have := HD.out.2.2.2.2.1; omega)⟩
      obtain ⟨aa, rfl, hcx⟩ := HD.out.1 wr h1.right k x ex
      have hxb := HD.out.2.2.1 x (List.mem_of_getElem? ex)
      have hyb := digs_getD HD.out.2.2.2.1 k
      have hB := fun n => ref_at (wr.drewN n) bo nb cb b k (HD.out.2.1 _ h1.right) eb (by omega) (by omega)
      have hva := valD_take a k x ex
      have hvb := valD_takeD b k
      generalize b.getD k 0 = y at *
      have g1 : IntKind.i64.wrap (x - y) = x - y := IntWalk.i64_in _ (by omega)
      have g2 : IntKind.i64.wrap (x - y - cv) = x - y - cv := IntWalk.i64_in _ (by omega)
      obtain ⟨v, hvv⟩ : ∃ v, x - y - cv = v := ⟨_, rfl⟩
      rw [hvv] at g2
      have hnew : ∃ p q : Int, (0 ≤ p ∧ p < 65536) ∧ (0 ≤ q ∧ q ≤ 1) ∧ (if v < 0 then p = v + 65536 ∧ q = 1 else p = v ∧ q = 0) := by
        by_cases h0 : v < 0
        · exact ⟨v + 65536, 1, by omega, by omega, by rw [if_pos h0]; exact ⟨rfl, rfl⟩⟩
        · exact ⟨v, 0, by omega, by omega, by rw [if_neg h0]; exact ⟨rfl, rfl⟩⟩
      obtain ⟨p, q, hpb, hqb, hpq⟩ := hnew
      have hdd := dsub_digit (65536 ^ k) (x := x.toNat) (y := y.toNat) (t := p.toNat) (c' := q.toNat) hv (by split at hpq <;> omega)
      rw [← hva, ← hvb, ← Nat.pow_succ] at hdd
      have HE := Lib.hid (And.intro hdd (And.intro hsl (And.intro hsd (And.intro hpb (And.intro hqb (And.intro h1 hb1))))))
      have HBx := Lib.hid hB
      clear hdd hsl hsd hpb hqb h1 hb1 hva hvb hv hs hB ex
      rw [← hvv] at g2
      go_wp2_with fail
      go_quiet ((go_at_call 115; exact Calls.said (HBx.out _)))
      by_cases h0 : v < 0
      · rw [if_pos h0] at hpq
        obtain ⟨hp, rfl⟩ := hpq
        have g3 : IntKind.i64.wrap (v + 65536) = v + 65536 := IntWalk.i64_in _ (by omega)
        rw [← hp] at g3
        have hp2 := hp.symm
        clear g1 g2 hvv hp
        go_wp2_with (at_builtin; refine halt ?_)
        refine goon ?_
        have hs7 : sat ((wr.drewN nq).alloc (.cells #[.int .i64 p] 3)) (own 3 1 u5 k (s.map i64) * (Go.Proofs.Ytanjiecefioffaa.blk wr.heap.size (.cells #[.int .i64 p] 3 (0, 0)) * R)) := ((HE.out.2.2.2.2.2.1.drewN nq).alloc (.cells #[.int .i64 p] 3)).perm (by ac_rfl)
        have hnew := (hs7.right.left.cell 0).trans (show _ = some (Value.int .i64 p) from rfl)
        have hb7 : Below 0 w ((wr.drewN nq).alloc (.cells #[.int .i64 p] 3)) := (HE.out.2.2.2.2.2.2.trans (drewN_below0 _ nq)).trans (Below.zero_alloc _ _)
        obtain ⟨hi, hz0, hz1, hz2⟩ := H1.out
        refine wpList_append_one rfl (.tmp 29) (.tmp 31) 29 rfl 3 i0 (.int .i64 0) 8 Try.underlying29 hi hz0 hz1 hz2 rfl u5 k (s.map i64) rfl _ wr.heap.size (.int .i64 p) rfl ?_ hs7 hnew rfl (by omega) (by unfold maxLen; omega)
        clear hi hz0 hz1 hz2 hnew hs7
        intro v' w9 hs9 hb9
        have HQ := Lib.hid (And.intro hs9.drop_mid (hb7.trans hb9))
        clear hs9 hb9 hb7
        go_wp2_with fail
        go_roundw
        case rel => exact ⟨k + 1, 1, s ++ [p], by have := HD.out.2.2.2.2.1; omega, by go_num, rfl, by omega, by omega, by simp [HE.out.2.1], fun z hz => by
            rcases List.mem_append.1 hz with hz | hz
            · exact HE.out.2.2.1 z hz
            · simp at hz; subst hz; exact HE.out.2.2.2.1, by rw [valD_append, HE.out.2.1]; simp only [valD, Nat.mul_zero, Nat.add_zero]; exact HE.out.1, by rw [List.map_append]; exact HQ.out.1, HQ.out.2⟩
        case measure => simp [intOf]; omega
      · rw [if_neg h0] at hpq
        obtain ⟨rfl, rfl⟩ := hpq
        have h0' : decide (p < 0) = false := by rw [decide_eq_false_iff_not]; exact h0
        clear g1 g2 hvv
        go_wp2_with (at_builtin; refine halt ?_)
        refine goon ?_
        have hs7 : sat ((wr.drewN nq).alloc (.cells #[.int .i64 p] 3)) (own 3 1 u5 k (s.map i64) * (Go.Proofs.Ytanjiecefioffaa.blk wr.heap.size (.cells #[.int .i64 p] 3 (0, 0)) * R)) := ((HE.out.2.2.2.2.2.1.drewN nq).alloc (.cells #[.int .i64 p] 3)).perm (by ac_rfl)
        have hnew := (hs7.right.left.cell 0).trans (show _ = some (Value.int .i64 p) from rfl)
        have hb7 : Below 0 w ((wr.drewN nq).alloc (.cells #[.int .i64 p] 3)) := (HE.out.2.2.2.2.2.2.trans (drewN_below0 _ nq)).trans (Below.zero_alloc _ _)
        obtain ⟨hi, hz0, hz1, hz2⟩ := H1.out
        refine wpList_append_one rfl (.tmp 29) (.tmp 31) 29 rfl 3 i0 (.int .i64 0) 8 Try.underlying29 hi hz0 hz1 hz2 rfl u5 k (s.map i64) rfl _ wr.heap.size (.int .i64 p) rfl ?_ hs7 hnew rfl (by omega) (by unfold maxLen; omega)
        clear hi hz0 hz1 hz2 hnew hs7
        intro v' w9 hs9 hb9
        have HQ := Lib.hid (And.intro hs9.drop_mid (hb7.trans hb9))
        clear hs9 hb9 hb7
        go_wp2_with fail
        go_roundw
        case rel => exact ⟨k + 1, 0, s ++ [p], by have := HD.out.2.2.2.2.1; omega, by go_num, rfl, by omega, by omega, by simp [HE.out.2.1], fun z hz => by
            rcases List.mem_append.1 hz with hz | hz
            · exact HE.out.2.2.1 z hz
            · simp at hz; subst hz; exact HE.out.2.2.2.1, by rw [valD_append, HE.out.2.1]; simp only [valD, Nat.mul_zero, Nat.add_zero]; exact HE.out.1, by rw [List.map_append]; exact HQ.out.1, HQ.out.2⟩
        case measure => simp [intOf]; omega
    · obtain rfl : k = n := by omega
      have hge : decide ((k : Int) < (k : Int)) = false := by simp
      rw [List.take_of_length_le (by have := HD.out.2.2.2.2.1; omega), List.take_of_length_le (by omega)] at hv
      have hvs : valD s = valD a - valD b := by
        have h1 := valD_lt hsd
        have h2 := HD.out.2.2.2.2.2
        rw [hsl] at h1
        rcases (show cv = 0 ∨ cv = 1 by omega) with rfl | rfl
        · simp at hv; omega
        · simp at hv; omega
      obtain ⟨a3, c3, rfl⟩ := own_val h1
      have hT := ref_trim h1 a3 k c3 s (digs_own rfl h1) hsd hsl (own_cap h1) (by omega)
      rw [hvs] at hT
      have HH := Lib.hid (And.intro hb1 hT)
      clear h1 hb1 hT hs hv hvs hsd hsl
      go_wp2_with fail
      refine HH.out.2.mono ?_
      rintro e w4 ⟨v, rfl, h4, hb4⟩
      have HK := Lib.hid (And.intro h4.drop_mid (HH.out.1.trans hb4))
      clear h4 hb4
      go_wp2_with fail
      go_ret
      exact ⟨v, rfl, HK.out.1, HK.out.2⟩
end Go.Proofs.Ytanjiecefioffaa

/- tandemref01: Cmp, Sub. tandemref02: Neg. -/
namespace Go.Proofs.Ytanjiecefioffaa
open Go.RowKit

theorem digs_top {l : List Int} (h : Limbs l) (n : l.length ≤ 268435456) : (digsOf (valL l)).length ≤ 536870912 := by
  obtain ⟨L, hL⟩ : ∃ L : Nat, L = 268435456 := ⟨_, rfl⟩
  rw [← hL] at n
  have := digsOf_len (valL_bound h n)
  omega
theorem digsOf_mono {a b : Nat} (h : a ≤ b) : (digsOf a).length ≤ (digsOf b).length := by
  rcases Nat.lt_or_ge (digsOf b).length (digsOf a).length with h1 | h1
  · have := digsOf_len_lt h1; omega
  · exact h1
set_option maxRecDepth 100000 in
set_option maxHeartbeats 1000000 in
theorem ref_Cmp01 {w : World} {R : HP} (hs : sat w R) (ao bo : Option Addr) (ca cb : Nat) (a b : List Int) (ha : ∀ w, sat w R → LimbsW w ao a) (hb : ∀ w, sat w R → LimbsW w bo b) (la : Limbs a) (lb : Limbs b) (na : a.length ≤ 268435456) (nb : b.length ≤ 268435456) :
    Calls Try.prog 117 #[.slice ao a.length ca, .slice bo b.length cb] w (KeepsR R (.int .i64 (cmpN (valL a) (valL b))) w) := by
  have hA := ref_half hs ao a.length ca a ha la rfl (by omega)
  have hB := fun (w : World) (P : HP) (h : sat w (P * R)) => ref_half h bo b.length cb b (fun w h => hb w h.right) lb rfl (by omega)
  have ta := digs_top la na
  have tb := digs_top lb nb
  generalize valL a = va at *
  generalize valL b = vb at *
  clear ha hb la lb hs
  go_enter Try.func117, Try.ntmps117
  go_wp2_with fail
  refine hA.mono ?_
  clear hA
  rintro e w1 ⟨v, rfl, h1, hb1⟩
  obtain ⟨a1, c1, rfl⟩ := own_val h1
  have hB1 := hB w1 _ h1
  have HB := Lib.hid hb1
  clear h1 hb1 hB
  go_wp2_with fail
  refine hB1.mono ?_
  clear hB1
  rintro e w2 ⟨v, rfl, h2, hb2⟩
  obtain ⟨a2, c2, rfl⟩ := own_val h2
  have hC := ref_cmp h2 a1 a2 _ _ c1 c2 (digsOf va) (digsOf vb) (fun w h => digs_own rfl h.right) (fun w h => digs_own rfl h) (digsOf_digs _) (digsOf_digs _) rfl rfl (own_cap h2.right) (own_cap h2) (by omega) (by omega)
  rw [valD_digsOf, valD_digsOf] at hC
  have HB2 := Lib.hid (HB.out.trans hb2)
  clear h2 hb2
  go_wp2_with fail
  refine hC.mono ?_
  clear hC
  rintro e w3 ⟨rfl, h3, hb3⟩
  have HC := Lib.hid (And.intro h3.right.right (HB2.out.trans hb3))
  clear h3 hb3
  go_wp2_with fail
  go_ret
  exact ⟨rfl, HC.out.1, HC.out.2⟩
def RefSubPost (R : HP) (va vb : Nat) (w : World) (e : Ending) (w' : World) : Prop :=
  ∃ ao c, e = .returned (.tuple #[.slice ao (limbsOf (va - vb)).length c, .bool (decide (vb ≤ va))]) ∧ sat w' (own 70 1 (.slice ao (limbsOf (va - vb)).length c) (limbsOf (va - vb)).length ((limbsOf (va - vb)).map u32v) * R) ∧ Below 0 w w'
set_option maxRecDepth 100000 in
set_option maxHeartbeats 1000000 in
theorem ref_Sub01 {w : World} {R : HP} (hs : sat w R) (ao bo : Option Addr) (ca cb : Nat) (a b : List Int) (ha : ∀ w, sat w R → LimbsW w ao a) (hb : ∀ w, sat w R → LimbsW w bo b) (la : Limbs a) (lb : Limbs b) (na : a.length ≤ 268435456) (nb : b.length ≤ 268435456) :
    Calls Try.prog 110 #[.slice ao a.length ca, .slice bo b.length cb] w (RefSubPost R (valL a) (valL b) w) := by
  have hC := ref_Cmp01 hs ao bo ca cb a b ha hb la lb na nb
  have hA := fun (w : World) (h : sat w R) => ref_half h ao a.length ca a ha la rfl (by omega)
  have hB := fun (w : World) (P : HP) (h : sat w (P * R)) => ref_half h bo b.length cb b (fun w h => hb w h.right) lb rfl (by omega)
  have ta := digs_top la na
  have tb := digs_top lb nb
  generalize valL a = va at *
  generalize valL b = vb at *
  clear ha hb la lb hs
  go_enter Try.func110, Try.ntmps110
  go_wp2_with fail
  refine hC.mono ?_
  clear hC
  rintro e w1 ⟨rfl, h1, hb1⟩
  by_cases hlt : va < vb
  · have hc : cmpN va vb = -1 := by unfold cmpN; rw [if_pos hlt]
    have hz : va - vb = 0 := by omega
    have hd : decide (vb ≤ va) = false := by rw [decide_eq_false_iff_not]; omega
    rw [hc]
    have hpost : RefSubPost R va vb w (.returned (.tuple #[.slice none 0 0, .bool false])) w1 := by
      unfold RefSubPost
      rw [hz, hd, limbsOf_zero]
      exact ⟨none, 0, rfl, h1.nil_own, hb1⟩
    have HC := Lib.hid hpost
    clear h1 hb1 hA hB hc hz hd hpost
    go_wp2_with fail
    go_ret2
    exact HC.out
  · have hc : decide (cmpN va vb < 0) = false := by unfold cmpN; rw [if_neg hlt]; split <;> decide
    generalize cmpN va vb = cc at *
    have hA1 := hA w1 h1
    have HC := Lib.hid hb1
    clear h1 hb1 hA
    go_wp2_with fail
    refine hA1.mono ?_
    clear hA1
    rintro e w2 ⟨v, rfl, h2, hb2⟩
    obtain ⟨a1, c1, rfl⟩ := own_val h2
    have hB1 := hB w2 _ h2
    have HB := Lib.hid (HC.out.trans hb2)
    clear h2 hb2 hB HC
    go_wp2_with fail
    refine hB1.mono ?_
    clear hB1
    rintro e w3 ⟨v, rfl, h3, hb3⟩
    obtain ⟨a2, c2, rfl⟩ := own_val h3
    have hS := ref_sub h3 a1 a2 _ c1 c2 (digsOf va) (digsOf vb) (fun w h => digs_own rfl h.right) (fun w h => digs_own rfl h) (digsOf_digs _) (digsOf_digs _) rfl (digsOf_mono (by omega)) (by rw [valD_digsOf, valD_digsOf]; omega) (by omega)
    rw [valD_digsOf, valD_digsOf] at hS
    have HB2 := Lib.hid (HB.out.trans hb3)
    clear h3 hb3 HB
    go_wp2_with fail
    refine hS.mono ?_
    clear hS
    rintro e w4 ⟨v, rfl, h4, hb4⟩
    obtain ⟨a4, c4, rfl⟩ := own_val h4
    have h5 := h4.drop_mid.drop_mid
    have t4 := digsOf_mono (show va - vb ≤ va by omega)
    have hF := ref_full h5 a4 _ c4 (digsOf (va - vb)) (digs_own rfl h5) (digsOf_digs _) rfl (own_cap h5) (by omega)
    rw [valD_digsOf] at hF
    have HB4 := Lib.hid (HB2.out.trans hb4)
    clear h4 hb4 h5 HB2
    go_wp2_with fail
    refine hF.mono ?_
    clear hF
    rintro e w6 ⟨v, rfl, h6, hb6⟩
    obtain ⟨a6, c6, rfl⟩ := own_val h6
    have hd : decide (vb ≤ va) = true := by rw [decide_eq_true_eq]; omega
    have hpost : RefSubPost R va vb w (.returned (.tuple #[.slice a6 (limbsOf (va - vb)).length c6, .bool true])) w6 := by
      unfold RefSubPost
      rw [hd]
      exact ⟨a6, c6, rfl, h6.drop_mid, HB4.out.trans hb6⟩
    have HC := Lib.hid hpost
    clear h6 hb6 hpost
    go_wp2_with fail
    go_ret2
    exact HC.out
set_option maxRecDepth 100000 in
set_option maxHeartbeats 1000000 in
theorem ref_Neg {w : World} {R : HP} (hs : sat w R) (n : Bool) (ao : Option Addr) (ca : Nat) (a : List Int) (ha : ∀ w, sat w R → LimbsW w ao a) (la : Limbs a) (na : a.length ≤ 268435456) :
    Calls Try.prog 99 #[.agg #[.bool n, .slice ao a.length ca]] w (RefNumPost R (-(sgn n (valL a))) w) := by
  rw [← sgn_not]
  have h1 := (hs.alloc (.cells #[.bool n, .slice ao a.length ca] 51)).alloc (.cells #[.bool false, .slice none 0 0] 51)
  rw [World.size_alloc] at h1
  have hO := ref_Of h1 (!n) ao ca a (fun w' h => ha _ h.right.right) la na
  have HB := Lib.hid (show Below 0 w _ from (Below.zero_alloc w (.cells #[.bool n, .slice ao a.length ca] 51)).trans (Below.zero_alloc _ (.cells #[.bool false, .slice none 0 0] 51)))
  clear h1 hs ha
  go_enter Try.func99, Try.ntmps99
  go_wp2_with fail
  refine hO.mono ?_
  clear hO
  rintro e w3 ⟨a3, c3, rfl, h3, hb3⟩
  generalize sgn (!n) (valL a) = sg at *
  obtain ⟨q, hq⟩ : ∃ q, decide (sg < 0) = q := ⟨_, rfl⟩
  obtain ⟨m, hm⟩ : ∃ m, limbsOf sg.natAbs = m := ⟨_, rfl⟩
  rw [hm] at h3 ⊢
  rw [hq]
  have hs4 : sat w3 (Go.Proofs.Ytanjiecefioffaa.blk (w.heap.size + 1) (.cells #[.bool false, .slice none 0 0] 51 (0, 0)) * (own 70 1 (.slice a3 m.length c3) m.length (m.map u32v) * R)) := (h3.perm (by ac_rfl) : sat w3 (Go.Proofs.Ytanjiecefioffaa.blk w.heap.size (.cells #[.bool n, .slice ao a.length ca] 51 (0, 0)) * (Go.Proofs.Ytanjiecefioffaa.blk (w.heap.size + 1) (.cells #[.bool false, .slice none 0 0] 51 (0, 0)) * (own 70 1 (.slice a3 m.length c3) m.length (m.map u32v) * R)))).right
  have c0 := (hs4.left.cell 0).trans rfl
  have f0 := hs4.left.frozen 0
  have c1 := (hs4.left.cell 1).trans rfl
  have f1 := hs4.left.frozen 1
  have hfin : sat ((w3.setCell ⟨w.heap.size + 1, 0, none⟩ (.bool q)).setCell ⟨w.heap.size + 1, 1, none⟩ (.slice a3 m.length c3)) _ := (hs4.setCell (off := 0) (.bool q)).setCell (off := 1) (.slice a3 m.length c3)
  have hfb : Below 0 w ((w3.setCell ⟨w.heap.size + 1, 0, none⟩ (.bool q)).setCell ⟨w.heap.size + 1, 1, none⟩ (.slice a3 m.length c3)) := ((HB.out.trans hb3).setCell (p := ⟨w.heap.size + 1, 0, none⟩) (Nat.zero_le _) (.bool q)).setCell (p := ⟨w.heap.size + 1, 1, none⟩) (Nat.zero_le _) (.slice a3 m.length c3)
  have r0 := (hfin.left.cell 0).trans (show _ = some (Value.bool q) from rfl)
  have r1 := (hfin.left.cell 1).trans (show _ = some (Value.slice a3 m.length c3) from rfl)
  have hpost : RefNumPost R sg w (.returned (.agg #[.bool q, .slice a3 m.length c3])) ((w3.setCell ⟨w.heap.size + 1, 0, none⟩ (.bool q)).setCell ⟨w.heap.size + 1, 1, none⟩ (.slice a3 m.length c3)) := by
    unfold RefNumPost
    rw [hm, hq]
    exact ⟨a3, c3, rfl, hfin.right, hfb⟩
  have HP2 := Lib.hid (And.intro hpost (And.intro r0 r1))
  clear hfin hfb hpost r0 r1 h3 hb3 hs4 hm hq
  go_wp2_with fail
  have r0 := HP2.out.2.1
  have r1 := HP2.out.2.2
  exact bodyPost_ret (v := .agg #[.bool q, .slice a3 m.length c3]) (by simp [results, Try.results99, go_sem, r0, r1]) rfl HP2.out.1
end Go.Proofs.Ytanjiecefioffaa

/- tandemref02: plus. -/
namespace Go.Proofs.Ytanjiecefioffaa
open Go.RowKit

theorem limbs_sum {n a b : Nat} (ha : (limbsOf a).length ≤ n) (hb : (limbsOf b).length ≤ n) : (limbsOf (a + b)).length ≤ n + 1 := by
  refine limbsOf_len ?_
  have h1 := valL_lt (limbsOf_limbs a)
  have h2 := valL_lt (limbsOf_limbs b)
  rw [valL_limbsOf] at h1 h2
  have h3 : (4294967296 : Nat) ^ (limbsOf a).length ≤ 4294967296 ^ n := Nat.pow_le_pow_right (by decide) ha
  have h4 : (4294967296 : Nat) ^ (limbsOf b).length ≤ 4294967296 ^ n := Nat.pow_le_pow_right (by decide) hb
  rw [Nat.pow_succ]
  omega
theorem limbs_le {a b : Nat} (h : a ≤ b) : (limbsOf a).length ≤ (limbsOf b).length := by
  rcases Nat.lt_or_ge (limbsOf b).length (limbsOf a).length with h1 | h1
  · have := limbsOf_len_lt h1; omega
  · exact h1
theorem plus_same {s t : Int} (h : decide (s < 0) = decide (t < 0)) : sgn (decide (s < 0)) (s.natAbs + t.natAbs) = s + t := by
  have := decide_eq_decide.1 h
  unfold sgn
  by_cases h1 : s < 0
  · rw [if_pos (by simpa using h1)]; omega
  · rw [if_neg (by simpa using h1)]; omega
theorem plus_less {s t : Int} (h : decide (s < 0) ≠ decide (t < 0)) (hl : t.natAbs ≤ s.natAbs) : sgn (decide (s < 0)) (s.natAbs - t.natAbs) = s + t := by
  have : ¬ ((s < 0) ↔ (t < 0)) := fun e => h (decide_eq_decide.2 e)
  unfold sgn
  by_cases h1 : s < 0
  · rw [if_pos (by simpa using h1)]; omega
  · rw [if_neg (by simpa using h1)]; omega
set_option maxRecDepth 100000 in
set_option maxHeartbeats 2000000 in
theorem ref_plus {w : World} {R : HP} (hs : sat w R) (n k : Bool) (ao bo : Option Addr) (ca cb : Nat) (a b : List Int) (ha : ∀ w, sat w R → LimbsW w ao a) (hb : ∀ w, sat w R → LimbsW w bo b) (la : Limbs a) (lb : Limbs b) (na : a.length ≤ 134217728) (nb : b.length ≤ 134217728) :
    Calls Try.prog 98 #[.agg #[.bool n, .slice ao a.length ca], .agg #[.bool k, .slice bo b.length cb]] w (RefNumPost R (sgn n (valL a) + sgn k (valL b)) w) := by
  have hs1 := ((hs.alloc (.cells #[.bool n, .slice ao a.length ca] 51)).alloc (.cells #[.bool k, .slice bo b.length cb] 51)).alloc (.cells #[.bool false, .slice none 0 0] 51)
  have hb1 : Below 0 w (((w.alloc (.cells #[.bool n, .slice ao a.length ca] 51)).alloc (.cells #[.bool k, .slice bo b.length cb] 51)).alloc (.cells #[.bool false, .slice none 0 0] 51)) := ((Below.zero_alloc _ _).trans (Below.zero_alloc _ _)).trans (Below.zero_alloc _ _)
  simp only [World.size_alloc] at hs1
  obtain ⟨g, hg⟩ : ∃ g, w.heap.size = g := ⟨_, rfl⟩
  rw [hg] at hs1
  have hCa := ref_Canon hs1 n ao ca a (fun w h => ha w h.right.right.right) la (by omega)
  have hCb := fun (w : World) (P : HP) (h : sat w (P * R)) => ref_Canon h k bo cb b (fun w h => hb w h.right) lb (by omega)
  have l1 : (limbsOf (sgn n (valL a)).natAbs).length ≤ 134217728 := by rw [sgn_abs]; exact Nat.le_trans (limbsOf_len_le la) na
  have l2 : (limbsOf (sgn k (valL b)).natAbs).length ≤ 134217728 := by rw [sgn_abs]; exact Nat.le_trans (limbsOf_len_le lb) nb
  generalize sgn n (valL a) = s1 at *
  generalize sgn k (valL b) = s2 at *
  have a0 := (hs1.right.right.left.cell 0).trans (show _ = some (Value.bool n) from rfl)
  have a1 := (hs1.right.right.left.cell 1).trans (show _ = some (Value.slice ao a.length ca) from rfl)
  have HB := Lib.hid hb1
  have HCb := Lib.hid hCb
  clear hs1 hb1 ha hb la lb hs hCb
  unfold RefNumPost at hCa
  obtain ⟨p1, hp1⟩ : ∃ p, decide (s1 < 0) = p := ⟨_, rfl⟩
  obtain ⟨p2, hp2⟩ : ∃ p, decide (s2 < 0) = p := ⟨_, rfl⟩
  rw [hp1] at hCa
  have HP12 := Lib.hid (And.intro hp1 hp2)
  clear hp1 hp2
  go_enter Try.func98, Try.ntmps98
  go_wp2_with fail
  generalize ((w.alloc (.cells #[.bool n, .slice ao a.length ca] 51)).alloc (.cells #[.bool k, .slice bo b.length cb] 51)).alloc (.cells #[.bool false, .slice none 0 0] 51) = w1 at *
  with_reducible refine hCa.mono ?_
  clear hCa a0 a1
  rintro e w2 ⟨xo, xc, rfl, h2, hb2⟩
  have h2a : sat w2 (Go.Proofs.Ytanjiecefioffaa.blk g (.cells #[.bool n, .slice ao a.length ca] 51 (0, 0)) * (Go.Proofs.Ytanjiecefioffaa.blk (g + 1) (.cells #[.bool k, .slice bo b.length cb] 51 (0, 0)) * (Go.Proofs.Ytanjiecefioffaa.blk (g + 1 + 1) (.cells #[.bool false, .slice none 0 0] 51 (0, 0)) * (own 70 1 (.slice xo (limbsOf s1.natAbs).length xc) (limbsOf s1.natAbs).length ((limbsOf s1.natAbs).map u32v) * R)))) := h2.perm (by ac_rfl)
  have a0 := (h2a.left.cell 0).trans (show _ = some (Value.bool n) from rfl)
  have a1 := (h2a.left.cell 1).trans (show _ = some (Value.slice ao a.length ca) from rfl)
  have f0 := h2a.left.frozen 0
  have f1 := h2a.left.frozen 1
  have h3 := (h2a.setCell (off := 0) (.bool p1)).setCell (off := 1) (.slice xo (limbsOf s1.natAbs).length xc)
  have hb3 : Below 0 w ((w2.setCell ⟨g, 0, none⟩ (.bool p1)).setCell ⟨g, 1, none⟩ (.slice xo (limbsOf s1.natAbs).length xc)) := ((HB.out.trans hb2).setCell (p := ⟨g, 0, none⟩) (Nat.zero_le _) _).setCell (p := ⟨g, 1, none⟩) (Nat.zero_le _) _
  have b0 := (h3.right.left.cell 0).trans (show _ = some (Value.bool k) from rfl)
  have b1 := (h3.right.left.cell 1).trans (show _ = some (Value.slice bo b.length cb) from rfl)
  have H3 := Lib.hid (And.intro h3 hb3)
  have hCb := HCb.out _ (Go.Proofs.Ytanjiecefioffaa.blk g (.cells #[.bool p1, .slice xo (limbsOf s1.natAbs).length xc] 51 (0, 0)) * (Go.Proofs.Ytanjiecefioffaa.blk (g + 1) (.cells #[.bool k, .slice bo b.length cb] 51 (0, 0)) * (Go.Proofs.Ytanjiecefioffaa.blk (g + 1 + 1) (.cells #[.bool false, .slice none 0 0] 51 (0, 0)) * own 70 1 (.slice xo (limbsOf s1.natAbs).length xc) (limbsOf s1.natAbs).length ((limbsOf s1.natAbs).map u32v)))) (h3.perm (by show _ = _ * _; simp only [HP.assoc]; rfl))
  unfold RefNumPost at hCb
  rw [HP12.out.2] at hCb
  clear h2 hb2 h2a h3 hb3
  go_wp2_with fail
  with_reducible refine hCb.mono ?_
  clear hCb a0 a1 f0 f1 b0 b1
  rintro e w4 ⟨yo, yc, rfl, h4, hb4⟩
  have h4a : sat w4 (Go.Proofs.Ytanjiecefioffaa.blk (g + 1) (.cells #[.bool k, .slice bo b.length cb] 51 (0, 0)) * (Go.Proofs.Ytanjiecefioffaa.blk g (.cells #[.bool p1, .slice xo (limbsOf s1.natAbs).length xc] 51 (0, 0)) * (Go.Proofs.Ytanjiecefioffaa.blk (g + 1 + 1) (.cells #[.bool false, .slice none 0 0] 51 (0, 0)) * (own 70 1 (.slice xo (limbsOf s1.natAbs).length xc) (limbsOf s1.natAbs).length ((limbsOf s1.natAbs).map u32v) * (own 70 1 (.slice yo (limbsOf s2.natAbs).length yc) (limbsOf s2.natAbs).length ((limbsOf s2.natAbs).map u32v) * R))))) := h4.perm (by ac_rfl)
  have b0 := (h4a.left.cell 0).trans (show _ = some (Value.bool k) from rfl)
  have b1 := (h4a.left.cell 1).trans (show _ = some (Value.slice bo b.length cb) from rfl)
  have f0 := h4a.left.frozen 0
  have f1 := h4a.left.frozen 1
  have e0 := (h4a.right.left.cell 0).trans (show _ = some (Value.bool p1) from rfl)
  have e1 := (h4a.right.left.cell 1).trans (show _ = some (Value.slice xo (limbsOf s1.natAbs).length xc) from rfl)
  obtain ⟨F, hF⟩ : ∃ F : HP, F = Go.Proofs.Ytanjiecefioffaa.blk (g + 1) (.cells #[.bool p2, .slice yo (limbsOf s2.natAbs).length yc] 51 (0, 0)) * (Go.Proofs.Ytanjiecefioffaa.blk g (.cells #[.bool p1, .slice xo (limbsOf s1.natAbs).length xc] 51 (0, 0)) * (Go.Proofs.Ytanjiecefioffaa.blk (g + 1 + 1) (.cells #[.bool false, .slice none 0 0] 51 (0, 0)) * (own 70 1 (.slice xo (limbsOf s1.natAbs).length xc) (limbsOf s1.natAbs).length ((limbsOf s1.natAbs).map u32v) * (own 70 1 (.slice yo (limbsOf s2.natAbs).length yc) (limbsOf s2.natAbs).length ((limbsOf s2.natAbs).map u32v) * R)))) := ⟨_, rfl⟩
  have h5 : sat ((w4.setCell ⟨g + 1, 0, none⟩ (.bool p2)).setCell ⟨g + 1, 1, none⟩ (.slice yo (limbsOf s2.natAbs).length yc)) F := by rw [hF]; exact (h4a.setCell (off := 0) (.bool p2)).setCell (off := 1) (.slice yo (limbsOf s2.natAbs).length yc)
  have hb5 : Below 0 w ((w4.setCell ⟨g + 1, 0, none⟩ (.bool p2)).setCell ⟨g + 1, 1, none⟩ (.slice yo (limbsOf s2.natAbs).length yc)) := ((H3.out.2.trans hb4).setCell (p := ⟨g + 1, 0, none⟩) (Nat.zero_le _) _).setCell (p := ⟨g + 1, 1, none⟩) (Nat.zero_le _) _
  have hc : ∀ w', sat w' F → (w'.cell? ⟨g, 0, none⟩ = some (.bool p1) ∧ w'.cell? ⟨g, 1, none⟩ = some (.slice xo (limbsOf s1.natAbs).length xc) ∧ w'.cell? ⟨g + 1, 0, none⟩ = some (.bool p2) ∧ w'.cell? ⟨g + 1, 1, none⟩ = some (.slice yo (limbsOf s2.natAbs).length yc)) ∧ (w'.cell? ⟨g + 1 + 1, 0, none⟩ = some (.bool false) ∧ w'.cell? ⟨g + 1 + 1, 1, none⟩ = some (.slice none 0 0)) ∧ w'.frozen? ⟨g + 1 + 1, 0, none⟩ = false ∧ w'.frozen? ⟨g + 1 + 1, 1, none⟩ = false := by
    intro w' h
    rw [hF] at h
    exact ⟨⟨(h.right.left.cell 0).trans rfl, (h.right.left.cell 1).trans rfl, (h.left.cell 0).trans rfl, (h.left.cell 1).trans rfl⟩, ⟨(h.right.right.left.cell 0).trans rfl, (h.right.right.left.cell 1).trans rfl⟩, h.right.right.left.frozen 0, h.right.right.left.frozen 1⟩
  have hx : ∀ w', sat w' F → LimbsW w' xo (limbsOf s1.natAbs) := fun w' h => by rw [hF] at h; exact limbs_own rfl h.right.right.right
  have hy : ∀ w', sat w' F → LimbsW w' yo (limbsOf s2.natAbs) := fun w' h => by rw [hF] at h; exact limbs_own rfl h.right.right.right.right
  have hAdd : ∀ w', sat w' F → Calls Try.prog 95 #[.slice (some ⟨w'.heap.size, 0, none⟩) 2 2] (w'.alloc (.cells #[.slice xo (limbsOf s1.natAbs).length xc, .slice yo (limbsOf s2.natAbs).length yc] 49)) (fun e w'' => ∃ ro rc, e = .returned (.slice ro (limbsOf (s1.natAbs + s2.natAbs)).length rc) ∧ sat w'' (own 70 1 (.slice ro (limbsOf (s1.natAbs + s2.natAbs)).length rc) (limbsOf (s1.natAbs + s2.natAbs)).length ((limbsOf (s1.natAbs + s2.natAbs)).map u32v) * F) ∧ Below 0 w' w'') := by
    intro w' h
    have hA := ref_Add (h.alloc (.cells #[.slice xo (limbsOf s1.natAbs).length xc, .slice yo (limbsOf s2.natAbs).length yc] 49)) w'.heap.size 2 2 [(xo, xc, limbsOf s1.natAbs), (yo, yc, limbsOf s2.natAbs)] rfl (by decide) (by
      intro w'' h2 j t hj
      match j, hj with
      | 0, hj => simp at hj; subst hj; exact ⟨(h2.left.cell 0).trans rfl, hx _ h2.right⟩
      | 1, hj => simp at hj; subst hj; exact ⟨(h2.left.cell 1).trans rfl, hy _ h2.right⟩) (by
      intro t ht
      simp at ht
      rcases ht with rfl | rfl
      · exact ⟨limbsOf_limbs _, by show (limbsOf s1.natAbs).length ≤ _; omega⟩
      · exact ⟨limbsOf_limbs _, by show (limbsOf s2.natAbs).length ≤ _; omega⟩)
    rw [show sumV [(xo, xc, limbsOf s1.natAbs), (yo, yc, limbsOf s2.natAbs)] = s1.natAbs + s2.natAbs by simp [sumV, valL_limbsOf]] at hA
    refine hA.mono ?_
    rintro e w'' ⟨v, rfl, h9, hb9⟩
    obtain ⟨ro, rc, rfl⟩ := own_val h9
    exact ⟨ro, rc, rfl, h9.drop_mid, (Below.zero_alloc _ _).trans hb9⟩
  have hSub := fun w' (h : sat w' F) => ref_Sub01 h xo yo xc yc (limbsOf s1.natAbs) (limbsOf s2.natAbs) hx hy (limbsOf_limbs _) (limbsOf_limbs _) (by omega) (by omega)
  have hSub2 := fun w' (P : HP) (h : sat w' (P * F)) => ref_Sub01 h yo xo yc xc (limbsOf s2.natAbs) (limbsOf s1.natAbs) (fun w h => hy w h.right) (fun w h => hx w h.right) (limbsOf_limbs _) (limbsOf_limbs _) (by omega) (by omega)
  unfold RefSubPost at hSub hSub2
  simp only [valL_limbsOf] at hSub hSub2
  have hOf : ∀ w' (q : Bool) (v : Nat) ro rc, (limbsOf v).length ≤ 134217729 → sat w' (own 70 1 (.slice ro (limbsOf v).length rc) (limbsOf v).length ((limbsOf v).map u32v) * F) → Calls Try.prog 66 #[.bool q, .slice ro (limbsOf v).length rc] w' (RefNumPost F (sgn q v) w') := by
    intro w' q v ro rc hl h
    have := ref_Of h q ro rc (limbsOf v) (fun w h => limbs_own rfl h) (limbsOf_limbs _) (by omega)
    rw [valL_limbsOf] at this
    refine this.mono ?_
    rintro e w'' ⟨o, c, he, h2, h3⟩
    exact ⟨o, c, he, h2.drop_mid, h3⟩
  have hend : ∀ w' q ro rc, q = decide (s1 + s2 < 0) → sat w' (own 70 1 (.slice ro (limbsOf (s1 + s2).natAbs).length rc) (limbsOf (s1 + s2).natAbs).length ((limbsOf (s1 + s2).natAbs).map u32v) * F) → Below 0 w w' →
      ((w'.setCell ⟨g + 1 + 1, 0, none⟩ (.bool q)).setCell ⟨g + 1 + 1, 1, none⟩ (.slice ro (limbsOf (s1 + s2).natAbs).length rc)).cell? ⟨g + 1 + 1, 0, none⟩ = some (.bool q) ∧
      ((w'.setCell ⟨g + 1 + 1, 0, none⟩ (.bool q)).setCell ⟨g + 1 + 1, 1, none⟩ (.slice ro (limbsOf (s1 + s2).natAbs).length rc)).cell? ⟨g + 1 + 1, 1, none⟩ = some (.slice ro (limbsOf (s1 + s2).natAbs).length rc) ∧
      RefNumPost R (s1 + s2) w (.returned (.agg #[.bool q, .slice ro (limbsOf (s1 + s2).natAbs).length rc])) ((w'.setCell ⟨g + 1 + 1, 0, none⟩ (.bool q)).setCell ⟨g + 1 + 1, 1, none⟩ (.slice ro (limbsOf (s1 + s2).natAbs).length rc)) := by
    rintro w' q ro rc rfl h hb
    rw [hF] at h
    have h1 := ((show sat w' (Go.Proofs.Ytanjiecefioffaa.blk (g + 1 + 1) (.cells #[.bool false, .slice none 0 0] 51 (0, 0)) * ((Go.Proofs.Ytanjiecefioffaa.blk (g + 1) (.cells #[.bool p2, .slice yo (limbsOf s2.natAbs).length yc] 51 (0, 0)) * (Go.Proofs.Ytanjiecefioffaa.blk g (.cells #[.bool p1, .slice xo (limbsOf s1.natAbs).length xc] 51 (0, 0)) * (own 70 1 (.slice xo (limbsOf s1.natAbs).length xc) (limbsOf s1.natAbs).length ((limbsOf s1.natAbs).map u32v) * own 70 1 (.slice yo (limbsOf s2.natAbs).length yc) (limbsOf s2.natAbs).length ((limbsOf s2.natAbs).map u32v)))) * (own 70 1 (.slice ro (limbsOf (s1 + s2).natAbs).length rc) (limbsOf (s1 + s2).natAbs).length ((limbsOf (s1 + s2).natAbs).map u32v) * R))) from h.perm (by ac_rfl)).setCell (off := 0) (.bool (decide (s1 + s2 < 0)))).setCell (off := 1) (.slice ro (limbsOf (s1 + s2).natAbs).length rc)
    exact ⟨(h1.left.cell 0).trans rfl, (h1.left.cell 1).trans rfl, ro, rc, rfl, h1.right.right, (hb.setCell (p := ⟨g + 1 + 1, 0, none⟩) (Nat.zero_le _) _).setCell (p := ⟨g + 1 + 1, 1, none⟩) (Nat.zero_le _) _⟩
  have t1 := limbs_sum l1 l2
  have t2 := limbs_le (show s1.natAbs - s2.natAbs ≤ s1.natAbs by omega)
  have t3 := limbs_le (show s2.natAbs - s1.natAbs ≤ s2.natAbs by omega)
  have HH := Lib.hid (And.intro hc (And.intro hAdd (And.intro hSub (And.intro hSub2 (And.intro hOf hend)))))
  have H5 := Lib.hid (And.intro h5 hb5)
  clear h4 hb4 h4a hF h5 hb5 hc hx hy hAdd hSub hSub2 hOf hend HCb H3 HB
  obtain ⟨w6, hw6⟩ : ∃ w6, (w4.setCell ⟨g + 1, 0, none⟩ (.bool p2)).setCell ⟨g + 1, 1, none⟩ (.slice yo (limbsOf s2.natAbs).length yc) = w6 := ⟨_, rfl⟩
  rw [hw6] at H5
  obtain ⟨⟨c1, c2, c3, c4⟩, ⟨c5, c6⟩, c7, c8⟩ := HH.out.1 w6 H5.out.1
  have heq : (p1 == p2) = true ∨ (p1 == p2) = false := by cases p1 <;> cases p2 <;> decide
  rcases heq with heq | heq
  · have hsv : sgn p1 (s1.natAbs + s2.natAbs) = s1 + s2 := by
      have h1 := HP12.out.1; have h2 := HP12.out.2
      rw [← h1]
      exact plus_same (by rw [h1, h2]; simpa using heq)
    have hO1 := fun w' ro rc => HH.out.2.2.2.2.1 w' p1 (s1.natAbs + s2.natAbs) ro rc (by omega)
    rw [hsv] at hO1
    unfold RefNumPost at hO1
    have HO := Lib.hid hO1
    clear hO1 hsv
    go_wp2_with fail
    clear hw6 b0 b1 f0 f1 e0 e1
    obtain ⟨⟨n1, n2, n3, n4⟩, ⟨n5, n6⟩, n7, n8⟩ := HH.out.1 _ (H5.out.1.alloc (.cells #[.slice xo (limbsOf s1.natAbs).length xc, .slice yo (limbsOf s2.natAbs).length yc] 49)).right
    go_region_law
      (first
        | (go_simp; go_at_call 95; refine (HH.out.2.1 _ H5.out.1.drew).mono ?_; rintro e w7 ⟨ro, rc, rfl, h7, hb7⟩; obtain ⟨⟨d1, d2, d3, d4⟩, ⟨d5, d6⟩, d7, d8⟩ := HH.out.1 _ h7.right)
        | (go_simp; go_at_call 66; refine (HO.out _ _ _ h7).mono ?_; rintro e w8 ⟨qo, qc, rfl, h8, hb8⟩; obtain ⟨⟨m1, m2, m3, m4⟩, ⟨m5, m6⟩, m7, m8⟩ := HH.out.1 _ h8.right))
    all_goals (
      have hz := HH.out.2.2.2.2.2 w8 (decide (s1 + s2 < 0)) qo qc rfl h8 ((H5.out.2.drew.trans hb7).trans hb8)
      have HZ := Lib.hid hz
      clear hz h7 hb7 h8 hb8 c1 c2 c3 c4 c5 c6 c7 c8 n1 n2 n3 n4 n5 n6 n7 n8 d1 d2 d3 d4 d5 d6 d7 d8 m1 m2 m3 m4 m5 m6 m7 m8 HH HO H5
      go_wp2_with fail
      have r0 := HZ.out.1
      have r1 := HZ.out.2.1
      exact bodyPost_ret (v := .agg #[.bool (decide (s1 + s2 < 0)), .slice qo (limbsOf (s1 + s2).natAbs).length qc]) (by simp [results, Try.results98, go_sem, r0, r1]) rfl HZ.out.2.2)
  · have hne : decide (s1 < 0) ≠ decide (s2 < 0) := by rw [HP12.out.1, HP12.out.2]; simpa using heq
    have HN := Lib.hid hne
    clear hne
    go_wp2_with fail
    refine (HH.out.2.2.1 _ H5.out.1).mono ?_
    rintro e w7 ⟨ro, rc, rfl, h7, hb7⟩
    obtain ⟨⟨d1, d2, d3, d4⟩, ⟨d5, d6⟩, d7, d8⟩ := HH.out.1 _ h7.right
    clear c1 c2 c3 c4 c5 c6 c7 c8 hw6 b0 b1 f0 f1 e0 e1
    by_cases hle : s2.natAbs ≤ s1.natAbs
    · have hd : decide (s2.natAbs ≤ s1.natAbs) = true := by simpa using hle
      rw [hd]
      have hsv : sgn p1 (s1.natAbs - s2.natAbs) = s1 + s2 := by
        rw [← HP12.out.1]
        exact plus_less HN.out hle
      have hO1 := HH.out.2.2.2.2.1 w7 p1 (s1.natAbs - s2.natAbs) ro rc (by omega) h7
      rw [hsv] at hO1
      unfold RefNumPost at hO1
      have H7 := Lib.hid (H5.out.2.trans hb7)
      clear h7 hb7 hd hsv
      go_wp2_with fail
      refine hO1.mono ?_
      clear hO1
      rintro e w8 ⟨qo, qc, rfl, h8, hb8⟩
      obtain ⟨⟨m1, m2, m3, m4⟩, ⟨m5, m6⟩, m7, m8⟩ := HH.out.1 _ h8.right
      have hz := HH.out.2.2.2.2.2 w8 (decide (s1 + s2 < 0)) qo qc rfl h8 (H7.out.trans hb8)
      have HZ := Lib.hid hz
      clear hz h8 hb8 d1 d2 d3 d4 d5 d6 d7 d8 HH H5
      go_wp2_with fail
      have r0 := HZ.out.1
      have r1 := HZ.out.2.1
      exact bodyPost_ret (v := .agg #[.bool (decide (s1 + s2 < 0)), .slice qo (limbsOf (s1 + s2).natAbs).length qc]) (by simp [results, Try.results98, go_sem, r0, r1]) rfl HZ.out.2.2
    · have hd : decide (s2.natAbs ≤ s1.natAbs) = false := by rw [decide_eq_false_iff_not]; exact hle
      rw [hd]
      have hsv : sgn p2 (s2.natAbs - s1.natAbs) = s1 + s2 := by
        rw [← HP12.out.2, Int.add_comm]
        exact plus_less (fun e => HN.out e.symm) (by omega)
      have hS2 := HH.out.2.2.2.1 w7 _ h7
      have H7 := Lib.hid (H5.out.2.trans hb7)
      clear h7 hb7 hd
      go_wp2_with fail
      refine hS2.mono ?_
      clear hS2
      rintro e w9 ⟨uo, uc, rfl, h9, hb9⟩
      clear d1 d2 d3 d4 d5 d6 d7 d8
      have h10 := h9.drop_mid
      obtain ⟨⟨d1, d2, d3, d4⟩, ⟨d5, d6⟩, d7, d8⟩ := HH.out.1 _ h10.right
      have hO1 := HH.out.2.2.2.2.1 w9 p2 (s2.natAbs - s1.natAbs) uo uc (by omega) h10
      rw [hsv] at hO1
      unfold RefNumPost at hO1
      have H9 := Lib.hid (H7.out.trans hb9)
      clear h9 h10 hb9 hsv
      generalize decide (s1.natAbs ≤ s2.natAbs) = q9 at *
      go_wp2_with fail
      refine hO1.mono ?_
      clear hO1
      rintro e w8 ⟨qo, qc, rfl, h8, hb8⟩
      obtain ⟨⟨m1, m2, m3, m4⟩, ⟨m5, m6⟩, m7, m8⟩ := HH.out.1 _ h8.right
      have hz := HH.out.2.2.2.2.2 w8 (decide (s1 + s2 < 0)) qo qc rfl h8 (H9.out.trans hb8)
      have HZ := Lib.hid hz
      clear hz h8 hb8 d1 d2 d3 d4 d5 d6 d7 d8 HH H5
      go_wp2_with fail
      have r0 := HZ.out.1
      have r1 := HZ.out.2.1
      exact bodyPost_ret (v := .agg #[.bool (decide (s1 + s2 < 0)), .slice qo (limbsOf (s1 + s2).natAbs).length qc]) (by simp [results, Try.results98, go_sem, r0, r1]) rfl HZ.out.2.2
end Go.Proofs.Ytanjiecefioffaa

/- tandemref02: Sub, Cmp, Small. -/
namespace Go.Proofs.Ytanjiecefioffaa
open Go.RowKit

set_option maxRecDepth 100000 in
set_option maxHeartbeats 2000000 in
theorem ref_Sub {w : World} {R : HP} (hs : sat w R) (n k : Bool) (ao bo : Option Addr) (ca cb : Nat) (a b : List Int) (ha : ∀ w, sat w R → LimbsW w ao a) (hb : ∀ w, sat w R → LimbsW w bo b) (la : Limbs a) (lb : Limbs b) (na : a.length ≤ 134217728) (nb : b.length ≤ 134217728) :
    Calls Try.prog 68 #[.agg #[.bool n, .slice ao a.length ca], .agg #[.bool k, .slice bo b.length cb]] w (RefNumPost R (sgn n (valL a) - sgn k (valL b)) w) := by
  have hs1 := ((hs.alloc (.cells #[.bool n, .slice ao a.length ca] 51)).alloc (.cells #[.bool k, .slice bo b.length cb] 51)).alloc (.cells #[.bool false, .slice none 0 0] 51)
  have hb1 : Below 0 w (((w.alloc (.cells #[.bool n, .slice ao a.length ca] 51)).alloc (.cells #[.bool k, .slice bo b.length cb] 51)).alloc (.cells #[.bool false, .slice none 0 0] 51)) := ((Below.zero_alloc _ _).trans (Below.zero_alloc _ _)).trans (Below.zero_alloc _ _)
  simp only [World.size_alloc] at hs1
  obtain ⟨g, hg⟩ : ∃ g, w.heap.size = g := ⟨_, rfl⟩
  rw [hg] at hs1
  obtain ⟨F, hF⟩ : ∃ F : HP, F = blk (g + 1 + 1) (.cells #[.bool false, .slice none 0 0] 51 (0, 0)) * (blk (g + 1) (.cells #[.bool k, .slice bo b.length cb] 51 (0, 0)) * (blk g (.cells #[.bool n, .slice ao a.length ca] 51 (0, 0)) * R)) := ⟨_, rfl⟩
  rw [← hF] at hs1
  have hFR : ∀ w', sat w' F → sat w' R := fun w' h => by rw [hF] at h; exact h.right.right.right
  have hc : ∀ w', sat w' F → (w'.cell? ⟨g, 0, none⟩ = some (.bool n) ∧ w'.cell? ⟨g, 1, none⟩ = some (.slice ao a.length ca) ∧ w'.cell? ⟨g + 1, 0, none⟩ = some (.bool k) ∧ w'.cell? ⟨g + 1, 1, none⟩ = some (.slice bo b.length cb)) ∧ (w'.cell? ⟨g + 1 + 1, 0, none⟩ = some (.bool false) ∧ w'.cell? ⟨g + 1 + 1, 1, none⟩ = some (.slice none 0 0)) ∧ w'.frozen? ⟨g + 1 + 1, 0, none⟩ = false ∧ w'.frozen? ⟨g + 1 + 1, 1, none⟩ = false := by
    intro w' h
    rw [hF] at h
    exact ⟨⟨(h.right.right.left.cell 0).trans rfl, (h.right.right.left.cell 1).trans rfl, (h.right.left.cell 0).trans rfl, (h.right.left.cell 1).trans rfl⟩, ⟨(h.left.cell 0).trans rfl, (h.left.cell 1).trans rfl⟩, h.left.frozen 0, h.left.frozen 1⟩
  obtain ⟨B, hB⟩ : ∃ B, decide (-(sgn k (valL b)) < 0) = B := ⟨_, rfl⟩
  have hNeg : ∀ w', sat w' F → Calls Try.prog 99 #[.agg #[.bool k, .slice bo b.length cb]] w' fun e w'' => ∃ so c, e = .returned (.agg #[.bool B, .slice so (limbsOf (valL b)).length c]) ∧ sat w'' (own 70 1 (.slice so (limbsOf (valL b)).length c) (limbsOf (valL b)).length ((limbsOf (valL b)).map u32v) * F) ∧ Below 0 w' w'' := by
    intro w' h
    have h1 := ref_Neg h k bo cb b (fun w hw => hb w (hFR w hw)) lb (by omega)
    unfold RefNumPost at h1
    rw [hB, Int.natAbs_neg, sgn_abs] at h1
    exact h1
  have hPlus : ∀ w' so c, sat w' (own 70 1 (.slice so (limbsOf (valL b)).length c) (limbsOf (valL b)).length ((limbsOf (valL b)).map u32v) * F) →
      Calls Try.prog 98 #[.agg #[.bool n, .slice ao a.length ca], .agg #[.bool B, .slice so (limbsOf (valL b)).length c]] w' (fun e w'' => RefNumPost F (sgn n (valL a) - sgn k (valL b)) w' e w'') := by
    intro w' so c h
    have h1 := ref_plus h n B ao so ca c a (limbsOf (valL b)) (fun w hw => ha w (hFR w hw.right)) (fun w hw => limbs_own rfl hw) la (limbsOf_limbs _) na (Nat.le_trans (limbsOf_len_le lb) nb)
    have hsum : sgn n (valL a) + sgn B (valL (limbsOf (valL b))) = sgn n (valL a) - sgn k (valL b) := by
      have h9 := sgn_dec (-(sgn k (valL b)))
      rw [hB, Int.natAbs_neg, sgn_abs] at h9
      rw [valL_limbsOf]
      omega
    rw [hsum] at h1
    refine h1.mono ?_
    rintro e w'' ⟨o, c, he, hs2, hb2⟩
    exact ⟨o, c, he, hs2.drop_mid, hb2⟩
  have HH := Lib.hid (And.intro hs1 (And.intro hb1 (And.intro hc (And.intro hNeg (And.intro hPlus hF)))))
  clear hs1 hb1 ha hb la lb hs hFR hc hNeg hPlus hF hB
  go_enter Try.func68, Try.ntmps68
  go_wp2_with fail
  generalize ((w.alloc (.cells #[.bool n, .slice ao a.length ca] 51)).alloc (.cells #[.bool k, .slice bo b.length cb] 51)).alloc (.cells #[.bool false, .slice none 0 0] 51) = w1 at HH ⊢
  obtain ⟨⟨c1, c2, c3, c4⟩, ⟨c5, c6⟩, c7, c8⟩ := HH.out.2.2.1 w1 HH.out.1
  go_region_law
    (first
      | (go_simp; go_at_call 99; refine (HH.out.2.2.2.1 _ HH.out.1.drew).mono ?_; rintro e w6 ⟨lo, lc, rfl, hs6, hb6⟩; obtain ⟨⟨l1, l2, l3, l4⟩, l5⟩ := HH.out.2.2.1 _ hs6.right)
      | (go_simp; go_at_call 98; refine (HH.out.2.2.2.2.1 _ _ _ hs6).mono ?_; rintro e w7 ⟨ro, rc, rfl, hs7, hb7⟩; obtain ⟨⟨m1, m2, m3, m4⟩, ⟨m5, m6⟩, m7, m8⟩ := HH.out.2.2.1 _ hs7.right))
  all_goals (
    generalize hsv : sgn n (valL a) - sgn k (valL b) = sv at *
    have hs8 := hs7
    rw [HH.out.2.2.2.2.2] at hs8
    have hs9 := ((show sat w7 (blk (g + 1 + 1) (.cells #[.bool false, .slice none 0 0] 51 (0, 0)) * ((blk (g + 1) (.cells #[.bool k, .slice bo b.length cb] 51 (0, 0)) * blk g (.cells #[.bool n, .slice ao a.length ca] 51 (0, 0))) * (own 70 1 (.slice ro (limbsOf sv.natAbs).length rc) (limbsOf sv.natAbs).length ((limbsOf sv.natAbs).map u32v) * R))) from hs8.perm (by ac_rfl)).setCell (off := 0) (.bool (decide (sv < 0)))).setCell (off := 1) (.slice ro (limbsOf sv.natAbs).length rc)
    have hb9 : Below 0 w ((w7.setCell ⟨g + 1 + 1, 0, none⟩ (.bool (decide (sv < 0)))).setCell ⟨g + 1 + 1, 1, none⟩ (.slice ro (limbsOf sv.natAbs).length rc)) := (((HH.out.2.1.drew.trans hb6).trans hb7).setCell (p := ⟨g + 1 + 1, 0, none⟩) (Nat.zero_le _) _).setCell (p := ⟨g + 1 + 1, 1, none⟩) (Nat.zero_le _) _
    have HQ := Lib.hid (And.intro hs9 hb9)
    clear hs7 hs8 hs9 hb9 hs6 hb6 hb7 l1 l2 l3 l4 l5 m1 m2 m3 m4 m5 m6 m7 m8 c1 c2 c3 c4 c5 c6 c7 c8 HH hsv
    generalize (w7.setCell ⟨g + 1 + 1, 0, none⟩ (.bool (decide (sv < 0)))).setCell ⟨g + 1 + 1, 1, none⟩ (.slice ro (limbsOf sv.natAbs).length rc) = w8 at HQ ⊢
    go_wp2_with fail
    have r0 : w8.cell? ⟨g + 1 + 1, 0, none⟩ = some (.bool (decide (sv < 0))) := (HQ.out.1.left.cell 0).trans rfl
    have r1 : w8.cell? ⟨g + 1 + 1, 1, none⟩ = some (.slice ro (limbsOf sv.natAbs).length rc) := (HQ.out.1.left.cell 1).trans rfl
    refine bodyPost_ret (v := .agg #[.bool (decide (sv < 0)), .slice ro (limbsOf sv.natAbs).length rc]) (by simp [results, Try.results68, go_sem, r0, r1]) rfl ⟨_, _, rfl, HQ.out.1.right.right, HQ.out.2⟩)
set_option maxRecDepth 100000 in
set_option maxHeartbeats 1000000 in
theorem ref_Cmp {w : World} {R : HP} (hs : sat w R) (n k : Bool) (ao bo : Option Addr) (ca cb : Nat) (a b : List Int) (ha : ∀ w, sat w R → LimbsW w ao a) (hb : ∀ w, sat w R → LimbsW w bo b) (la : Limbs a) (lb : Limbs b) (na : a.length ≤ 134217728) (nb : b.length ≤ 134217728) :
    Calls Try.prog 38 #[.agg #[.bool n, .slice ao a.length ca], .agg #[.bool k, .slice bo b.length cb]] w (KeepsR R (.int .i64 (cmpI (sgn n (valL a)) (sgn k (valL b)))) w) := by
  have hs1 := (hs.alloc (.cells #[.bool n, .slice ao a.length ca] 51)).alloc (.cells #[.bool k, .slice bo b.length cb] 51)
  have hb1 : Below 0 w ((w.alloc (.cells #[.bool n, .slice ao a.length ca] 51)).alloc (.cells #[.bool k, .slice bo b.length cb] 51)) := (Below.zero_alloc _ _).trans (Below.zero_alloc _ _)
  have hS := ref_Sub hs1 n k ao bo ca cb a b (fun w hw => ha w hw.right.right) (fun w hw => hb w hw.right.right) la lb na nb
  generalize sgn n (valL a) = s1 at *
  generalize sgn k (valL b) = s2 at *
  obtain ⟨sv, hsv⟩ : ∃ sv, s1 - s2 = sv := ⟨_, rfl⟩
  rw [hsv] at hS
  unfold RefNumPost at hS
  have HH := Lib.hid (And.intro hS hb1)
  clear hs1 hb1 hS ha hb la lb hs
  have hlen : (limbsOf sv.natAbs).length = 0 ↔ sv = 0 := by rw [List.length_eq_zero_iff, limbsOf_nil, Int.natAbs_eq_zero]
  obtain ⟨cc, hcc⟩ : ∃ cc, cmpI s1 s2 = cc := ⟨_, rfl⟩
  rw [hcc]
  have HC := Lib.hid hcc
  clear hcc
  go_enter Try.func38, Try.ntmps38
  go_wp2_with fail
  with_reducible refine HH.out.1.mono ?_
  rintro e w2 ⟨lo, lc, rfl, hs2, hb2⟩
  obtain ⟨q, hq⟩ : ∃ q, decide (sv < 0) = q := ⟨_, rfl⟩
  rw [hq]
  obtain ⟨ml, hml⟩ : ∃ ml, (limbsOf sv.natAbs).length = ml := ⟨_, rfl⟩
  rw [hml] at hs2 hlen ⊢
  have h3 := hs2.right.right.right
  have hb3 : Below 0 w (w2.alloc (.cells #[.bool q, .slice lo ml lc] 51)) := (HH.out.2.trans hb2).trans (Below.zero_alloc _ _)
  have hfin : KeepsR R (.int .i64 cc) w (.returned (.int .i64 cc)) (w2.alloc (.cells #[.bool q, .slice lo ml lc] 51)) := ⟨rfl, (h3.alloc _).right, hb3⟩
  have HF := Lib.hid hfin
  clear hfin h3 hb3 hs2 hb2 HH
  by_cases h0 : sv = 0
  · have hm0 : ((ml : Int) == 0) = true := by simp [hlen.2 h0]
    have hc0 : cc = 0 := by rw [← HC.out]; unfold cmpI; rw [if_neg (by omega), if_neg (by omega)]
    subst hc0
    go_wp2_with fail
    go_ret
    exact HF.out
  · have hm0 : ((ml : Int) == 0) = false := by simp; exact fun h => h0 (hlen.1 h)
    by_cases h1 : sv < 0
    · have hq1 : q = true := by rw [← hq]; simpa using h1
      have hc0 : cc = -1 := by rw [← HC.out]; unfold cmpI; rw [if_pos (by omega)]
      subst hq1 hc0
      go_wp2_with fail
      go_ret
      exact HF.out
    · have hq1 : q = false := by rw [← hq]; simpa using h1
      have hc0 : cc = 1 := by rw [← HC.out]; unfold cmpI; rw [if_neg (by omega), if_pos (by omega)]
      subst hq1 hc0
      go_wp2_with fail
      go_ret
      exact HF.out
end Go.Proofs.Ytanjiecefioffaa

/- tandemref02.Small. -/
namespace Go.Proofs.Ytanjiecefioffaa
open Go.RowKit

theorem limbs_two (v : Nat) (h : (limbsOf v).length ≤ 2) : v < 18446744073709551616 := by
  have h1 := valL_lt (limbsOf_limbs v)
  rw [valL_limbsOf] at h1
  have h2 : (4294967296 : Nat) ^ (limbsOf v).length ≤ 4294967296 ^ 2 := Nat.pow_le_pow_right (by decide) h
  omega
theorem limbs_big (v : Nat) (h : ¬ (limbsOf v).length ≤ 2) : 18446744073709551616 ≤ v := by
  rcases Nat.lt_or_ge v 18446744073709551616 with h1 | h1
  · exact absurd (limbsOf_len (n := 2) (by omega)) h
  · exact h1
def RSmRel (w : World) (l : List Int) (v i : Value) (wr : World) : Prop :=
  ∃ k j : Nat, k ≤ l.length ∧ i = .int .i64 ((k : Int) - 1) ∧ v = .int .u64 (valL (l.drop k)) ∧ wr = w.drewN j
set_option maxRecDepth 100000 in
set_option maxHeartbeats 2000000 in
theorem ref_Small {w : World} {R : HP} (hs : sat w R) (n : Bool) (ao : Option Addr) (ca : Nat) (a : List Int) (ha : ∀ w, sat w R → LimbsW w ao a) (la : Limbs a) (na : a.length ≤ 134217728) :
    Calls Try.prog 36 #[.agg #[.bool n, .slice ao a.length ca]] w (KeepsR R (.tuple #[.int .i64 (smallI (sgn n (valL a))), .bool (isSmall (sgn n (valL a)))]) w) := by
  have hs1 := hs.alloc (.cells #[.bool n, .slice ao a.length ca] 51)
  have hb1 : Below 0 w (w.alloc (.cells #[.bool n, .slice ao a.length ca] 51)) := Below.zero_alloc _ _
  obtain ⟨g, hg⟩ : ∃ g, w.heap.size = g := ⟨_, rfl⟩
  rw [hg] at hs1
  have hC := ref_Canon hs1 n ao ca a (fun w h => ha w h.right) la (by omega)
  generalize sgn n (valL a) = s at *
  unfold RefNumPost at hC
  obtain ⟨q, hq⟩ : ∃ q, decide (s < 0) = q := ⟨_, rfl⟩
  rw [hq] at hC
  have HB := Lib.hid hb1
  have a0 := (hs1.left.cell 0).trans (show _ = some (Value.bool n) from rfl)
  have a1 := (hs1.left.cell 1).trans (show _ = some (Value.slice ao a.length ca) from rfl)
  clear hs1 hb1 ha la hs
  obtain ⟨sm, hsm⟩ : ∃ sm, smallI s = sm := ⟨_, rfl⟩
  obtain ⟨is, his⟩ : ∃ is, isSmall s = is := ⟨_, rfl⟩
  rw [hsm, his]
  have hcase : (¬ (limbsOf s.natAbs).length ≤ 2 → is = false ∧ sm = 0) ∧ ((limbsOf s.natAbs).length ≤ 2 → s.natAbs < 18446744073709551616 ∧ (q = true → s.natAbs ≤ 2305843009213693952 → is = true ∧ sm = -(s.natAbs : Int)) ∧ (q = true → ¬ s.natAbs ≤ 2305843009213693952 → is = false ∧ sm = 0) ∧ (q = false → 2305843009213693952 ≤ s.natAbs → is = false ∧ sm = 0) ∧ (q = false → ¬ 2305843009213693952 ≤ s.natAbs → is = true ∧ sm = (s.natAbs : Int))) := by
    have hno : (¬ (-2305843009213693952 ≤ s ∧ s < 2305843009213693952)) → is = false ∧ sm = 0 := by
      intro h
      have : isSmall s = false := by
        unfold isSmall
        rw [← Bool.not_eq_true, Bool.and_eq_true, decide_eq_true_eq, decide_eq_true_eq]
        exact h
      exact ⟨by rw [← his]; exact this, by rw [← hsm]; unfold smallI; rw [this]; rfl⟩
    have hyes : (-2305843009213693952 ≤ s ∧ s < 2305843009213693952) → is = true ∧ sm = s := by
      intro h
      have : isSmall s = true := by
        unfold isSmall
        rw [Bool.and_eq_true, decide_eq_true_eq, decide_eq_true_eq]
        exact h
      exact ⟨by rw [← his]; exact this, by rw [← hsm]; unfold smallI; rw [this]; rfl⟩
    refine ⟨fun h => hno ?_, fun h => ⟨limbs_two _ h, fun hq1 h1 => ?_, fun hq1 h1 => hno ?_, fun hq1 h1 => hno ?_, fun hq1 h1 => ?_⟩⟩
    · have := limbs_big _ h; omega
    · rw [hq1, decide_eq_true_eq] at hq
      obtain ⟨h2, h3⟩ := hyes (by omega)
      exact ⟨h2, by rw [h3]; omega⟩
    · rw [hq1, decide_eq_true_eq] at hq; omega
    · rw [hq1, decide_eq_false_iff_not] at hq; omega
    · rw [hq1, decide_eq_false_iff_not] at hq
      obtain ⟨h2, h3⟩ := hyes (by omega)
      exact ⟨h2, by rw [h3]; omega⟩
  have HK := Lib.hid hcase
  clear hcase hsm his hq
  go_enter Try.func36, Try.ntmps36
  go_wp2_with fail
  generalize w.alloc (.cells #[.bool n, .slice ao a.length ca] 51) = w1 at *
  with_reducible refine hC.mono ?_
  clear hC a0 a1
  rintro e w2 ⟨xo, xc, rfl, h2, hb2⟩
  have h2a : sat w2 (Go.Proofs.Ytanjiecefioffaa.blk g (.cells #[.bool n, .slice ao a.length ca] 51 (0, 0)) * (own 70 1 (.slice xo (limbsOf s.natAbs).length xc) (limbsOf s.natAbs).length ((limbsOf s.natAbs).map u32v) * R)) := h2.perm (by ac_rfl)
  have a0 := (h2a.left.cell 0).trans (show _ = some (Value.bool n) from rfl)
  have a1 := (h2a.left.cell 1).trans (show _ = some (Value.slice ao a.length ca) from rfl)
  have f0 := h2a.left.frozen 0
  have f1 := h2a.left.frozen 1
  have h3 := (h2a.setCell (off := 0) (.bool q)).setCell (off := 1) (.slice xo (limbsOf s.natAbs).length xc)
  have hb3 : Below 0 w ((w2.setCell ⟨g, 0, none⟩ (.bool q)).setCell ⟨g, 1, none⟩ (.slice xo (limbsOf s.natAbs).length xc)) := ((HB.out.trans hb2).setCell (p := ⟨g, 0, none⟩) (Nat.zero_le _) _).setCell (p := ⟨g, 1, none⟩) (Nat.zero_le _) _
  have hll : valL (limbsOf s.natAbs) = s.natAbs := valL_limbsOf _
  have hlim := limbsOf_limbs s.natAbs
  generalize limbsOf s.natAbs = m at *
  have hxx : LimbsW ((w2.setCell ⟨g, 0, none⟩ (.bool q)).setCell ⟨g, 1, none⟩ (.slice xo m.length xc)) xo m := limbs_own rfl h3.right
  have H3 := Lib.hid (And.intro h3.right.right hb3)
  have HL := Lib.hid (And.intro hll (And.intro hlim hxx))
  clear h2 hb2 h2a hb3 hll hlim hxx
  have c0 := (h3.left.cell 0).trans (show _ = some (Value.bool q) from rfl)
  have c1 := (h3.left.cell 1).trans (show _ = some (Value.slice xo m.length xc) from rfl)
  clear h3
  obtain ⟨w4, hw4⟩ : ∃ w4, (w2.setCell ⟨g, 0, none⟩ (.bool q)).setCell ⟨g, 1, none⟩ (.slice xo m.length xc) = w4 := ⟨_, rfl⟩
  rw [hw4] at H3 HL c0 c1
  have hfin : ∀ j, KeepsR R (.tuple #[.int .i64 sm, .bool is]) w (.returned (.tuple #[.int .i64 sm, .bool is])) (w4.drewN j) := fun j => ⟨rfl, H3.out.1.drewN j, H3.out.2.trans (drewN_below0 _ j)⟩
  have HF := Lib.hid hfin
  clear hfin
  by_cases hlen : m.length ≤ 2
  · have b1 : decide ((m.length : Int) > 2) = false := by simp; omega
    have g1 : IntKind.i64.wrap ((m.length : Int) - 1) = (m.length : Int) - 1 := IntWalk.i64_in _ (by omega)
    go_wp2_with fail
    go_loopw [4, 5] (RSmRel w4 m) (fun _ i _ => (intOf i + 1).toNat)
    case atStart => exact ⟨m.length, 0, Nat.le_refl _, rfl, by rw [List.drop_of_length_le (Nat.le_refl _)]; rfl, rfl⟩
    case round =>
      obtain ⟨k, j, hk, rfl, rfl, rfl⟩ := hrel
      clear hw4
      have d0 : (w4.drewN j).cell? ⟨g, 0, none⟩ = some (.bool q) := c0
      have d1 : (w4.drewN j).cell? ⟨g, 1, none⟩ = some (.slice xo m.length xc) := c1
      cases k with
      | zero =>
        have b2 : decide ((((0 : Nat) : Int) - 1) ≥ 0) = false := by decide
        rw [List.drop_zero, HL.out.1]
        obtain ⟨k1, k2, k3, k4, k5⟩ := HK.out.2 hlen
        generalize s.natAbs = v at *
        have w1' : v < 9223372036854775808 → IntKind.i64.wrap (v : Int) = v := fun h => IntWalk.i64_in _ (by omega)
        have w2' : v < 9223372036854775808 → IntKind.i64.wrap (-(v : Int)) = -(v : Int) := fun h => IntWalk.i64_in _ (by omega)
        cases q with
        | true =>
          by_cases hv : v ≤ 2305843009213693952
          · obtain ⟨rfl, rfl⟩ := k2 rfl hv
            have b3 : decide ((v : Int) ≤ 2305843009213693952) = true := by simp; omega
            have w3' := w1' (by omega)
            have w4' := w2' (by omega)
            clear k1 k2 k3 k4 k5 w1' w2' HK HL
            go_wp2_with fail
            go_ret2
            exact HF.out j
          · obtain ⟨rfl, rfl⟩ := k3 rfl hv
            have b3 : decide ((v : Int) ≤ 2305843009213693952) = false := by simp; omega
            clear k1 k2 k3 k4 k5 w1' w2' HK HL
            go_wp2_with fail
            go_ret2
            exact HF.out j
        | false =>
          by_cases hv : 2305843009213693952 ≤ v
          · obtain ⟨rfl, rfl⟩ := k4 rfl hv
            have b3 : decide ((v : Int) ≥ 2305843009213693952) = true := by simp; omega
            clear k1 k2 k3 k4 k5 w1' w2' HK HL
            go_wp2_with fail
            go_ret2
            exact HF.out j
          · obtain ⟨rfl, rfl⟩ := k5 rfl hv
            have b3 : decide ((v : Int) ≥ 2305843009213693952) = false := by simp; omega
            have w3' := w1' (by omega)
            clear k1 k2 k3 k4 k5 w1' w2' HK HL
            go_wp2_with fail
            go_ret2
            exact HF.out j
      | succ k =>
        obtain ⟨x, ex⟩ : ∃ x, m[k]? = some x := ⟨_, List.getElem?_eq_getElem (by omega)⟩
        obtain ⟨aa, rfl, hcx⟩ := HL.out.2.2 k x ex
        have hcx' : (w4.drewN j).cell? (aa.add k) = some (.int .u32 x) := hcx
        have hxb := HL.out.2.1 x (List.mem_of_getElem? ex)
        have hvd := valL_drop m k x ex
        have hU : valL (m.drop (k + 1)) < 4294967296 := by
          have h1 := valL_lt (l := m.drop (k + 1)) (fun z hz => HL.out.2.1 z (List.mem_of_mem_drop hz))
          have h2 : (4294967296 : Nat) ^ (m.drop (k + 1)).length ≤ 4294967296 ^ 1 := Nat.pow_le_pow_right (by decide) (by rw [List.length_drop]; omega)
          omega
        have b1 : decide ((((k + 1 : Nat) : Int) - 1) ≥ 0) = true := by rw [decide_eq_true_eq]; omega
        have b2 : (((k + 1 : Nat) : Int) - 1) = (k : Int) := by omega
        rw [b2] at b1 ⊢
        generalize valL (m.drop (k + 1)) = U at *
        have g2 : IntKind.u64.wrap ((U : Int) * 4294967296) = (U : Int) * 4294967296 := by rw [show IntKind.u64.wrap ((U : Int) * 4294967296) = ((U : Int) * 4294967296) % 18446744073709551616 from rfl]; omega
        have g3 : IntKind.u64.wrap ((U : Int) * 4294967296 + x) = (U : Int) * 4294967296 + x := by rw [show IntKind.u64.wrap ((U : Int) * 4294967296 + x) = ((U : Int) * 4294967296 + x) % 18446744073709551616 from rfl]; omega
        have g4 : IntKind.u64.wrap x = x := by rw [show IntKind.u64.wrap x = x % 18446744073709551616 from rfl]; omega
        have hnx : ((valL (m.drop k) : Nat) : Int) = (U : Int) * 4294967296 + x := by omega
        have HE := Lib.hid hnx
        clear b2 hnx hvd ex hcx
        go_wp2_with fail
        go_roundw
        case rel => exact ⟨k, j, by omega, rfl, by rw [HE.out], rfl⟩
        case measure => simp [intOf]
  · have b1 : decide ((m.length : Int) > 2) = true := by simp; omega
    obtain ⟨rfl, rfl⟩ := HK.out.1 hlen
    go_wp2_with fail
    go_ret2
    exact HF.out 0
end Go.Proofs.Ytanjiecefioffaa
