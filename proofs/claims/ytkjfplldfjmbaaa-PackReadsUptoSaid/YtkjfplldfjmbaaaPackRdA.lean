/- pack's reader: take. pack's reader: number. pack's reader: sign, text, truth. pack's reader: a reader beside other memory; what constants the bytes say, plainly. pack's reader of constants: its end. -/
import Derived.Test.YtkjfplldfjmbaaaBytesLaw
import Derived.WalkLawsBesides
import Derived.Test.YtkjfplldfjmbaaaNumApi
import Derived.Test.YtkjfplldfjmbaaaDmCopy
/- pack's reader: take. -/
namespace Go.Proofs.Ytkjfplldfjmbaaa
open Go.RowKit
/-- The reader's own panic. -/
def cutE : Ending := .panicked [{ v := .iface 75 (.agg #[]), recovered := false }]
/-- A reader with these bytes left. -/
def RdAt (w : World) (B R : HP) (gr : Nat) (l : List Int) (parts : Int) : Prop :=
  ∃ ao cap, sat w (blk gr (.cells #[.slice ao l.length cap, .int .i64 parts] 72 (0, 0)) * R) ∧ l.length ≤ cap ∧ (∀ w', sat w' B → CellsAt w' ao (l.map bv)) ∧ Bytes l ∧ ∀ w', sat w' R → sat w' B
theorem RdAt.fr {w : World} {B R : HP} {gr : Nat} {l : List Int} {parts : Int} (h : RdAt w B R gr l parts) : sat w R := by
  obtain ⟨_, _, h, _⟩ := h
  exact h.right
theorem cells_drop {w : World} {a : Addr} {l : List Int} {n : Nat} (h : CellsAt w (some a) (l.map bv)) : CellsAt w (some (a.add n)) ((l.drop n).map bv) := by
  intro j u hj
  rw [List.getElem?_map, List.getElem?_drop] at hj
  obtain ⟨a', ha, hc⟩ := h (n + j) u (by rw [List.getElem?_map]; exact hj)
  cases ha
  refine ⟨_, rfl, ?_⟩
  rw [Addr.add_add]
  exact hc
set_option maxRecDepth 100000 in
set_option maxHeartbeats 1000000 in
theorem rd_take (w : World) (B R : HP) (gr : Nat) (l : List Int) (parts : Int) (n : Nat) (h : RdAt w B R gr l parts) (hn : n ≤ l.length) :
    Calls Try.prog 35 #[.pointer (some ⟨gr, 0, none⟩), .int .i64 n] w fun e w' => e = .returned (.string (strOfNums (l.take n))) ∧ RdAt w' B R gr (l.drop n) parts ∧ Below 0 w w' := by
  obtain ⟨ao, cap, hs, hc, hx, hu, hf⟩ := h
  obtain ⟨ll, hll⟩ : ∃ x, l.length = x := ⟨_, rfl⟩
  rw [hll] at hs hc hn
  have c0 := (hs.left.cell 0).trans (show _ = some (Value.slice ao ll cap) from rfl)
  have cf := hs.left.frozen 0
  have e0 : decide ((n : Int) > (ll : Int)) = false := by rw [decide_eq_false_iff_not]; omega
  have b1 : (n : Int) ≤ (ll : Int) := by omega
  have b2 : (ll : Int) ≤ (cap : Int) := by omega
  have b3 : (n : Int) ≤ (cap : Int) := by omega
  have hcv := run_bytes_any (P := Try.prog) (w := w) (cap := cap) 23 9 5 Try.underlying23 Try.underlying5 Try.underlying9 (n := n) (b := l.take n) (ao := ao) (by rw [List.length_take]; omega) (by
    intro j u hj
    rw [List.getElem?_map, List.getElem?_take] at hj
    split at hj
    · exact hx w (hf w hs.right) j u (by rw [List.getElem?_map]; exact hj)
    · simp at hj)
  have H0 := Lib.hid (And.intro hs (And.intro hll (And.intro hx (And.intro hu hf))))
  generalize hsn : strOfNums (l.take n) = sn at *
  clear hs hll hx hu hf hsn
  go_enter Try.func35, Try.ntmps35
  have key : ∀ ao2 cap2, ll - n ≤ cap2 → (∀ w', sat w' B → CellsAt w' ao2 ((l.drop n).map bv)) → RdAt (w.setCell ⟨gr, 0, none⟩ (.slice ao2 (ll - n) cap2)) B R gr (l.drop n) parts ∧ Below 0 w (w.setCell ⟨gr, 0, none⟩ (.slice ao2 (ll - n) cap2)) := by
    intro ao2 cap2 hc2 hx2
    have hdl : (l.drop n).length = ll - n := by rw [List.length_drop, H0.out.2.1]
    refine ⟨⟨ao2, cap2, ?_, by rw [hdl]; exact hc2, hx2, fun x hx => H0.out.2.2.2.1 x (List.mem_of_mem_drop hx), H0.out.2.2.2.2⟩, (Below.refl 0 w).setCell (p := ⟨gr, 0, none⟩) (Nat.zero_le _) _⟩
    rw [hdl]
    exact H0.out.1.setCell (off := 0) _
  have HKY := Lib.hid key
  clear key
  cases ao with
  | none =>
    have hl0 : l = [] := by
      have hx := H0.out.2.2.1 w (H0.out.2.2.2.2 w H0.out.1.right)
      cases l with
      | nil => rfl
      | cons x l => obtain ⟨a, h, _⟩ := hx 0 (bv x) rfl; cases h
    have HL0 := Lib.hid hl0
    clear hl0
    go_wp2_with fail
    go_ret
    exact ⟨rfl, HKY.out none (cap - n) (by omega) (fun w' _ => by rw [HL0.out, List.drop_nil]; intro j u h; simp at h)⟩
  | some a =>
    by_cases hcn : cap = n
    · subst hcn
      have hle : l.drop cap = [] := List.drop_eq_nil_of_le (by have := H0.out.2.1; omega)
      have HLE := Lib.hid hle
      clear hle
      go_wp2_with fail
      go_ret
      have hk := HKY.out (some a) 0 (by omega) (fun w' _ => by rw [HLE.out]; intro j u h; simp at h)
      rw [show ll - cap = 0 by omega] at hk
      exact ⟨rfl, hk⟩
    · have hlt : (n : Int) < (cap : Int) := by omega
      have hlt2 : n < cap := by omega
      go_wp2_with fail
      all_goals first
        | (go_ret; exact ⟨rfl, HKY.out (some (a.add n)) (cap - n) (by omega) (fun w' hw' => cells_drop (H0.out.2.2.1 w' hw'))⟩)
        | omega
set_option maxRecDepth 100000 in
theorem rd_take_no (w : World) (B R : HP) (gr : Nat) (l : List Int) (parts : Int) (n : Int) (h : RdAt w B R gr l parts) (hn : (l.length : Int) < n) :
    Calls Try.prog 35 #[.pointer (some ⟨gr, 0, none⟩), .int .i64 n] w fun e w' => e = cutE ∧ w' = w := by
  obtain ⟨ao, cap, hs, _⟩ := h
  obtain ⟨ll, hll⟩ : ∃ x, l.length = x := ⟨_, rfl⟩
  rw [hll] at hs hn
  have c0 := (hs.left.cell 0).trans (show _ = some (Value.slice ao ll cap) from rfl)
  have e0 : decide (n > (ll : Int)) = true := by rw [decide_eq_true_eq]; omega
  clear hs hll
  go_enter Try.func35, Try.ntmps35
  go_wp2_with fail
  exact ⟨rfl, rfl, rfl⟩
/-- What a reader's function leaves: a value and the reader behind it, or the reader's own panic. -/
def RdPost {α : Type} (val : α → Value) (B R : HP) (gr : Nat) (parts : Int) (o : Option (α × List Int)) (w : World) (e : Ending) (w' : World) : Prop :=
  match o with
  | none => e = cutE ∧ sat w' R ∧ Below 0 w w'
  | some (v, l') => e = .returned (val v) ∧ RdAt w' B R gr l' parts ∧ Below 0 w w'
def takeP (l : List Int) (n : Nat) : Option (ByteArray × List Int) := if n ≤ l.length then some (strOfNums (l.take n), l.drop n) else none
theorem rd_take_any (w : World) (B R : HP) (gr : Nat) (l : List Int) (parts : Int) (n : Nat) (x : Int) (hx : x = n) (h : RdAt w B R gr l parts) :
    Calls Try.prog 35 #[.pointer (some ⟨gr, 0, none⟩), .int .i64 x] w (RdPost .string B R gr parts (takeP l n) w) := by
  subst hx
  by_cases hn : n ≤ l.length
  · unfold takeP
    rw [if_pos hn]
    exact rd_take w B R gr l parts n h hn
  · unfold takeP
    rw [if_neg hn]
    refine (rd_take_no w B R gr l parts n h (by omega)).mono ?_
    rintro e w' ⟨rfl, rfl⟩
    exact ⟨rfl, h.fr, Below.refl _ _⟩
end Go.Proofs.Ytkjfplldfjmbaaa

/- pack's reader: number. -/
namespace Go.Proofs.Ytkjfplldfjmbaaa
open Go.RowKit
/-- A number, so many of its bytes being read. -/
def rdNumF : Nat → Nat → List Int → Option (Int × List Int)
  | _, _, [] => none
  | k, n, v :: l => if 6 < k ∨ 1099511627776 < n + v.toNat % 128 * 128 ^ k ∨ (v = 0 ∧ 0 < k) then none
    else if v < 128 then some (((n + v.toNat % 128 * 128 ^ k : Nat) : Int), l) else rdNumF (k + 1) (n + v.toNat % 128 * 128 ^ k) l
def RnRel (W : World) (B R : HP) (gr : Nat) (parts : Int) (l0 : List Int) (a b : Value) (wr : World) : Prop :=
  ∃ (k n : Nat) (l : List Int), rdNumF 0 0 l0 = rdNumF k n l ∧ k ≤ 7 ∧ n < 128 ^ k ∧ n ≤ 1099511627776 ∧ a = .int .i64 n ∧ b = .int .i64 ((7 * k : Nat) : Int) ∧ RdAt wr B R gr l parts ∧ Below 0 W wr
theorem strOf_one (v : Int) : strOfNums [v] = ⟨#[UInt8.ofNat v.toNat]⟩ := rfl
theorem and127 (n : Nat) (h : n < 256) : bits .and .i64 (n : Int) 127 = ((n % 128 : Nat) : Int) := by
  have key : ∀ i : Fin 256, bits .and .i64 ((i.1 : Nat) : Int) 127 = ((i.1 % 128 : Nat) : Int) := by decide +kernel
  exact key ⟨n, h⟩
theorem shl_at (P : Program) (x k : Nat) (at' : Int) (hat : ((7 * k : Nat) : Int) = at') (hk : k ≤ 7) (hx : x < 128) (w : World) : Sem.run P (Op.shift .shl .i64 (x : Int) .i64 at') w = .ok (.int .i64 ((x * 128 ^ k : Nat) : Int)) w := by
  subst hat
  have hp : (128 : Nat) ^ k ≤ 128 ^ 7 := Nat.pow_le_pow_right (by decide) hk
  have hm : x * 128 ^ k ≤ 128 * 128 ^ 7 := Nat.mul_le_mul (by omega) hp
  unfold Op.shift
  rw [if_neg (by omega)]
  have e1 : min ((7 * k : Nat) : Int).toNat IntKind.i64.bits = 7 * k := by
    show min ((7 * k : Nat) : Int).toNat 64 = 7 * k
    omega
  have e2 : ((x : Int) * 2 ^ (7 * k)) = ((x * 128 ^ k : Nat) : Int) := by
    rw [Int.natCast_mul, Int.natCast_pow, Int.pow_mul]
    rfl
  simp only [e1]
  rw [e2, IntWalk.i64_in _ (by omega)]
  rfl
theorem or_at (n x k : Nat) (hn : n < 128 ^ k) (hk : k ≤ 7) (hx : x < 128) : bits .or .i64 (n : Int) ((x * 128 ^ k : Nat) : Int) = ((n + x * 128 ^ k : Nat) : Int) := by
  have hp : (128 : Nat) ^ k ≤ 128 ^ 7 := Nat.pow_le_pow_right (by decide) hk
  have hm : x * 128 ^ k ≤ 128 * 128 ^ 7 := Nat.mul_le_mul (by omega) hp
  rw [i64_or_nat n (x * 128 ^ k) (by omega) (by omega)]
  have e : (128 : Nat) ^ k = 2 ^ (7 * k) := by rw [Nat.pow_mul]
  rw [e] at hn ⊢
  have h := Nat.two_pow_add_eq_or_of_lt hn x
  rw [Nat.mul_comm x, Nat.or_comm, ← h, Nat.add_comm]
theorem rd_next (k n : Nat) (v : Int) (l : List Int) : rdNumF k n (v :: l) = if 6 < k ∨ 1099511627776 < n + v.toNat % 128 * 128 ^ k ∨ (v = 0 ∧ 0 < k) then none
    else if v < 128 then some (((n + v.toNat % 128 * 128 ^ k : Nat) : Int), l) else rdNumF (k + 1) (n + v.toNat % 128 * 128 ^ k) l := rfl
set_option maxRecDepth 100000 in
set_option maxHeartbeats 2000000 in
theorem rd_number (w : World) (B R : HP) (gr : Nat) (l0 : List Int) (parts : Int) (h : RdAt w B R gr l0 parts) :
    Calls Try.prog 36 #[.pointer (some ⟨gr, 0, none⟩)] w (RdPost (.int .i64) B R gr parts (rdNumF 0 0 l0) w) := by
  go_enter Try.func36, Try.ntmps36
  go_wp2_with fail
  go_loopw [3, 4] (RnRel w B R gr parts l0) (fun _ b _ => 60 - (intOf b).toNat)
  case atStart => exact ⟨0, 0, l0, rfl, by decide, by decide, by decide, rfl, rfl, h, Below.refl _ _⟩
  case round =>
    obtain ⟨k, n, l, hrd, hk, hn, hn2, rfl, rfl, h1, hb1⟩ := hrel
    have hT := rd_take_any wr B R gr l parts 1 1 rfl h1
    cases l with
    | nil =>
      have HH := Lib.hid (And.intro hrd hb1)
      clear hrd hb1 h1 h hn hn2
      go_wp2_with fail
      refine hT.mono ?_
      clear hT
      rintro e w2 ⟨rfl, h2, hb2⟩
      unfold cutE
      go_wp2_with fail
      rw [HH.out.1]
      exact ⟨rfl, rfl, h2, HH.out.2.trans hb2⟩
    | cons v l =>
      obtain ⟨at', hat⟩ : ∃ x : Int, ((7 * k : Nat) : Int) = x := ⟨_, rfl⟩
      rw [hat]
      have hu : 0 ≤ v ∧ v < 256 := by obtain ⟨_, _, _, _, _, hu, _⟩ := h1; exact hu v (by simp)
      unfold takeP at hT
      rw [if_pos (by simp)] at hT
      simp only [List.take_succ_cons, List.take_zero, List.drop_succ_cons, List.drop_zero] at hT
      rw [strOf_one] at hT
      obtain ⟨vn, rfl⟩ : ∃ x : Nat, v = x := ⟨v.toNat, by omega⟩
      have hv : vn < 256 := by omega
      rw [Int.toNat_natCast] at hT
      have hb8 : (UInt8.ofNat vn).toNat = vn := by rw [UInt8.toNat_ofNat']; omega
      obtain ⟨b8, hbb⟩ : ∃ x, UInt8.ofNat vn = x := ⟨_, rfl⟩
      rw [hbb] at hb8 hT
      have hidx : ∀ p, ((⟨#[b8]⟩ : ByteArray)[0]'p).toNat = vn := fun _ => hb8
      have hwr : wrap64 (vn : Int) = vn := IntWalk.wrap64_in _ (by omega)
      obtain ⟨x7, hx7⟩ : ∃ x : Nat, vn % 128 = x := ⟨_, rfl⟩
      have hx7b : x7 < 128 := by omega
      have hand : bits .and .i64 (vn : Int) 127 = (x7 : Int) := by rw [and127 vn hv, hx7]
      obtain ⟨m, hm⟩ : ∃ x : Nat, x7 * 128 ^ k = x := ⟨_, rfl⟩
      have hsh : ∀ w', Sem.run Try.prog (Op.shift .shl .i64 (x7 : Int) .i64 at') w' = .ok (.int .i64 (m : Int)) w' := fun w' => by rw [← hm]; exact shl_at _ x7 k at' hat hk hx7b w'
      obtain ⟨N, hN⟩ : ∃ x : Nat, n + m = x := ⟨_, rfl⟩
      have hor : bits .or .i64 (n : Int) (m : Int) = (N : Int) := by rw [← hN, ← hm]; exact or_at n x7 k hn hk hx7b
      have hrd2 : rdNumF 0 0 l0 = if 6 < k ∨ 1099511627776 < N ∨ ((vn : Int) = 0 ∧ 0 < k) then none else if (vn : Int) < 128 then some ((N : Int), l) else rdNumF (k + 1) N l := by
        rw [hrd, rd_next, Int.toNat_natCast, hx7, hm, hN]
      have hNb : N < 128 ^ (k + 1) := by
        rw [← hN, ← hm, Nat.pow_succ]
        have h3 : x7 * 128 ^ k ≤ 127 * 128 ^ k := Nat.mul_le_mul_right _ (by omega)
        omega
      have HH := Lib.hid (And.intro hrd2 (And.intro hk (And.intro hNb (And.intro hat (And.intro hb1 hv)))))
      clear hrd hrd2 hk hn hn2 hat hb1 h1 h hb8 hbb hx7 hm hN hx7b hNb hu hv
      go_wp2_with fail
      refine hT.mono ?_
      clear hT
      rintro e w2 ⟨rfl, h2, hb2⟩
      have H2 := Lib.hid (And.intro h2 (HH.out.2.2.2.2.1.trans hb2))
      clear h2 hb2
      go_upto_region 6 with (fail)
      by_cases c1 : at' > 42
      · have e1 : decide (at' > 42) = true := by rw [decide_eq_true_eq]; exact c1
        go_wp2_with fail
        rw [HH.out.1, if_pos (.inl (by have := HH.out.2.2.2.1; omega))]
        exact ⟨rfl, rfl, H2.out.1.fr, H2.out.2⟩
      have e1 : decide (at' > 42) = false := by rw [decide_eq_false_iff_not]; exact c1
      by_cases c2 : (N : Int) > 1099511627776
      · have e2 : decide ((N : Int) > 1099511627776) = true := by rw [decide_eq_true_eq]; exact c2
        go_wp2_with fail
        rw [HH.out.1, if_pos (.inr (.inl (by omega)))]
        exact ⟨rfl, rfl, H2.out.1.fr, H2.out.2⟩
      have e2 : decide ((N : Int) > 1099511627776) = false := by rw [decide_eq_false_iff_not]; exact c2
      have key : ¬ ((vn : Int) = 0 ∧ 0 < k) → ¬ (6 < k ∨ 1099511627776 < N ∨ ((vn : Int) = 0 ∧ 0 < k)) := by
        rintro h (h1 | h1 | h1)
        · have := HH.out.2.2.2.1; omega
        · omega
        · exact h h1
      have HKY := Lib.hid key
      clear key
      have c1' := Lib.hid (And.intro c1 c2)
      clear c1 c2
      by_cases c3 : (vn : Int) = 0
      case' pos =>
        have e3 : ((vn : Int) == 0) = true := by rw [beq_iff_eq]; exact c3
        by_cases c4 : at' > 0
        · have e4 : decide (at' > 0) = true := by rw [decide_eq_true_eq]; exact c4
          clear c3
          go_wp2_with fail
          rw [HH.out.1, if_pos (.inr (.inr ⟨by rw [beq_iff_eq] at e3; exact e3, by have := HH.out.2.2.2.1; omega⟩))]
          exact ⟨rfl, rfl, H2.out.1.fr, H2.out.2⟩
        have e4 : decide (at' > 0) = false := by rw [decide_eq_false_iff_not]; exact c4
        have HNN := Lib.hid (HKY.out (by rintro ⟨_, h⟩; have := HH.out.2.2.2.1; omega))
        clear c3 c4
        go_upto_region 8 with (fail)
      case' neg =>
        have e3 : ((vn : Int) == 0) = false := by rw [beq_eq_false_iff_ne]; exact c3
        have HNN := Lib.hid (HKY.out (by rintro ⟨h, _⟩; exact c3 h))
        clear c3
        go_upto_region 8 with (fail)
      all_goals
        by_cases c5 : (vn : Int) < 128
        · have e5 : decide ((vn : Int) < 128) = true := by rw [decide_eq_true_eq]; exact c5
          go_wp2_with fail
          go_ret
          rw [HH.out.1, if_neg HNN.out, if_pos (by omega)]
          exact ⟨rfl, H2.out.1, H2.out.2⟩
        · have e5 : decide ((vn : Int) < 128) = false := by rw [decide_eq_false_iff_not]; exact c5
          have hat7 : IntKind.i64.wrap (at' + 7) = at' + 7 := IntWalk.i64_in _ (by have := HH.out.2.2.2.1; have := HH.out.2.1; omega)
          go_wp2_with fail
          go_roundw
          case rel =>
            refine ⟨k + 1, N, l, ?_, by have := HH.out.2.2.2.1; have := c1'.out; omega, HH.out.2.2.1, by have := c1'.out; omega, rfl, ?_, H2.out.1, H2.out.2⟩
            · rw [HH.out.1, if_neg HNN.out, if_neg (by omega)]
            · congr 1; have := HH.out.2.2.2.1; omega
          case measure =>
            have := HH.out.2.2.2.1; have := c1'.out
            simp [intOf]; omega
end Go.Proofs.Ytkjfplldfjmbaaa

/- pack's reader: sign, text, truth. -/
namespace Go.Proofs.Ytkjfplldfjmbaaa
open Go.RowKit
theorem rdNumF_bd : ∀ (l : List Int) (k n : Nat) (x : Int) (l' : List Int), rdNumF k n l = some (x, l') → 0 ≤ x ∧ x ≤ 1099511627776 ∧ l'.length < l.length
  | [], k, n, x, l', h => by cases h
  | v :: l, k, n, x, l', h => by
    rw [rd_next] at h
    split at h
    · cases h
    · rename_i hc
      split at h
      · simp only [Option.some.injEq, Prod.mk.injEq] at h
        obtain ⟨rfl, rfl⟩ := h
        simp only [List.length_cons]
        omega
      · have := rdNumF_bd l _ _ x l' h
        simp only [List.length_cons]
        omega
def unzig (n : Int) : Int := if n % 2 = 1 then -((n + 1) / 2) else n / 2
def rdNum (l : List Int) : Option (Int × List Int) := rdNumF 0 0 l
def rdSign (l : List Int) : Option (Int × List Int) := match rdNum l with
  | none => none
  | some (n, l') => some (unzig n, l')
def rdText (l : List Int) : Option (ByteArray × List Int) := match rdNum l with
  | none => none
  | some (n, l') => takeP l' n.toNat
def rdBool (l : List Int) : Option (Bool × List Int) := match l with
  | [] => none
  | v :: l => if 1 < v then none else some (decide (v = 1), l)
theorem i64_and1 (n : Nat) (h : n < 9223372036854775808) : bits .and .i64 (n : Int) 1 = ((n % 2 : Nat) : Int) := by
  have e : bits .and .i64 (n : Int) 1 = IntKind.i64.wrap ((BitVec.ofInt 64 (n : Int) &&& BitVec.ofInt 64 1).toNat : Int) := rfl
  rw [e]
  have e1 : (BitVec.ofInt 64 (n : Int)).toNat = n := by rw [BitVec.toNat_ofInt]; omega
  have e2 : (BitVec.ofInt 64 (1 : Int)).toNat = 1 := rfl
  rw [BitVec.toNat_and, e1, e2, Nat.and_one_is_mod, IntWalk.i64_in _ (by omega)]
set_option maxRecDepth 100000 in
set_option maxHeartbeats 1000000 in
theorem rd_sign (w : World) (B R : HP) (gr : Nat) (l : List Int) (parts : Int) (h : RdAt w B R gr l parts) :
    Calls Try.prog 53 #[.pointer (some ⟨gr, 0, none⟩)] w (RdPost (.int .i64) B R gr parts (rdSign l) w) := by
  have hN := rd_number w B R gr l parts h
  cases ho : rdNumF 0 0 l with
  | none =>
    have hs : rdSign l = none := by unfold rdSign rdNum; rw [ho]
    rw [ho] at hN
    rw [hs]
    clear hs ho h
    go_enter Try.func53, Try.ntmps53
    go_wp2_with fail
    refine hN.mono ?_
    rintro e w2 ⟨rfl, h2, hb2⟩
    unfold cutE
    go_wp2_with fail
    exact ⟨rfl, rfl, h2, hb2⟩
  | some r =>
    obtain ⟨x, l'⟩ := r
    have hs : rdSign l = some (unzig x, l') := by unfold rdSign rdNum; rw [ho]
    have hbd := rdNumF_bd l 0 0 x l' ho
    rw [ho] at hN
    rw [hs]
    obtain ⟨n, rfl⟩ : ∃ n : Nat, x = n := ⟨x.toNat, by omega⟩
    obtain ⟨p, hp⟩ : ∃ p : Nat, n % 2 = p := ⟨_, rfl⟩
    have ha : bits .and .i64 (n : Int) 1 = (p : Int) := by rw [i64_and1 n (by omega), hp]
    clear hs ho h
    by_cases h1 : p = 1
    · have hu : unzig (n : Int) = -(((n : Int) + 1) / 2) := by unfold unzig; rw [if_pos (by omega)]
      rw [hu]
      obtain ⟨z, hz⟩ : ∃ z : Int, -(((n : Int) + 1) / 2) = z := ⟨_, rfl⟩
      have e1 : ((p : Int) == 1) = true := by rw [beq_iff_eq]; omega
      have e2 : IntKind.i64.wrap ((n : Int) + 1) = (n : Int) + 1 := IntWalk.i64_in _ (by omega)
      have e3 : IntKind.i64.wrap (-((n : Int) + 1)) = -((n : Int) + 1) := IntWalk.i64_in _ (by omega)
      have e4 : (-((n : Int) + 1)).tdiv 2 = z := by
        rw [← hz, Int.neg_tdiv, Int.tdiv_eq_ediv_of_nonneg (by omega)]
      have e5 : IntKind.i64.wrap z = z := IntWalk.i64_in _ (by omega)
      rw [hz]
      clear hu hz hp h1
      go_enter Try.func53, Try.ntmps53
      go_wp2_with fail
      refine hN.mono ?_
      rintro e w2 ⟨rfl, h2, hb2⟩
      go_wp2_with fail
      go_ret
      exact ⟨rfl, h2, hb2⟩
    · have hu : unzig (n : Int) = (n : Int) / 2 := by unfold unzig; rw [if_neg (by omega)]
      rw [hu]
      obtain ⟨z, hz⟩ : ∃ z : Int, (n : Int) / 2 = z := ⟨_, rfl⟩
      have e1 : ((p : Int) == 1) = false := by rw [beq_eq_false_iff_ne]; omega
      have e4 : (n : Int).tdiv 2 = z := by rw [← hz, Int.tdiv_eq_ediv_of_nonneg (by omega)]
      have e5 : IntKind.i64.wrap z = z := IntWalk.i64_in _ (by omega)
      rw [hz]
      clear hu hz hp h1
      go_enter Try.func53, Try.ntmps53
      go_wp2_with fail
      refine hN.mono ?_
      rintro e w2 ⟨rfl, h2, hb2⟩
      go_wp2_with fail
      go_ret
      exact ⟨rfl, h2, hb2⟩
set_option maxRecDepth 100000 in
set_option maxHeartbeats 1000000 in
theorem rd_text (w : World) (B R : HP) (gr : Nat) (l : List Int) (parts : Int) (h : RdAt w B R gr l parts) :
    Calls Try.prog 51 #[.pointer (some ⟨gr, 0, none⟩)] w (RdPost .string B R gr parts (rdText l) w) := by
  have hN := rd_number w B R gr l parts h
  cases ho : rdNumF 0 0 l with
  | none =>
    have hs : rdText l = none := by unfold rdText rdNum; rw [ho]
    rw [ho] at hN
    rw [hs]
    clear hs ho h
    go_enter Try.func51, Try.ntmps51
    go_wp2_with fail
    refine hN.mono ?_
    rintro e w2 ⟨rfl, h2, hb2⟩
    unfold cutE
    go_wp2_with fail
    exact ⟨rfl, rfl, h2, hb2⟩
  | some r =>
    obtain ⟨x, l'⟩ := r
    have hs : rdText l = takeP l' x.toNat := by unfold rdText rdNum; rw [ho]
    have hbd := rdNumF_bd l 0 0 x l' ho
    rw [ho] at hN
    obtain ⟨o, hto⟩ : ∃ o, takeP l' x.toNat = o := ⟨_, rfl⟩
    rw [hs, hto]
    have hxx : x = (x.toNat : Int) := by omega
    have HX := Lib.hid (And.intro hxx hto)
    clear hs ho h hbd hxx hto
    go_enter Try.func51, Try.ntmps51
    go_wp2_with fail
    refine hN.mono ?_
    clear hN
    rintro e w2 ⟨rfl, h2, hb2⟩
    have hT := rd_take_any w2 B R gr l' parts x.toNat x HX.out.1 h2
    rw [HX.out.2] at hT
    clear h2
    cases o with
    | none =>
      go_wp2_with fail
      refine hT.mono ?_
      rintro e w3 ⟨rfl, h3, hb3⟩
      unfold cutE
      go_wp2_with fail
      exact ⟨rfl, rfl, h3, hb2.trans hb3⟩
    | some r =>
      obtain ⟨s, l2⟩ := r
      go_wp2_with fail
      refine hT.mono ?_
      rintro e w3 ⟨rfl, h3, hb3⟩
      go_wp2_with fail
      go_ret
      exact ⟨rfl, h3, hb2.trans hb3⟩
set_option maxRecDepth 100000 in
set_option maxHeartbeats 1000000 in
theorem rd_truth (w : World) (B R : HP) (gr : Nat) (l : List Int) (parts : Int) (h : RdAt w B R gr l parts) :
    Calls Try.prog 52 #[.pointer (some ⟨gr, 0, none⟩)] w (RdPost .bool B R gr parts (rdBool l) w) := by
  have hT := rd_take_any w B R gr l parts 1 1 rfl h
  cases l with
  | nil =>
    clear h
    go_enter Try.func52, Try.ntmps52
    go_wp2_with fail
    refine hT.mono ?_
    rintro e w2 ⟨rfl, h2, hb2⟩
    unfold cutE
    go_wp2_with fail
    exact ⟨rfl, rfl, h2, hb2⟩
  | cons v l =>
    have hu : 0 ≤ v ∧ v < 256 := by obtain ⟨_, _, _, _, _, hu, _⟩ := h; exact hu v (by simp)
    unfold takeP at hT
    rw [if_pos (by simp)] at hT
    simp only [List.take_succ_cons, List.take_zero, List.drop_succ_cons, List.drop_zero] at hT
    rw [strOf_one] at hT
    obtain ⟨vn, rfl⟩ : ∃ x : Nat, v = x := ⟨v.toNat, by omega⟩
    rw [Int.toNat_natCast] at hT
    have hb8 : (UInt8.ofNat vn).toNat = vn := by rw [UInt8.toNat_ofNat']; omega
    obtain ⟨b8, hbb⟩ : ∃ x, UInt8.ofNat vn = x := ⟨_, rfl⟩
    rw [hbb] at hb8 hT
    have hidx : ∀ p, ((⟨#[b8]⟩ : ByteArray)[0]'p).toNat = vn := fun _ => hb8
    clear h hb8 hbb
    by_cases c1 : 1 < (vn : Int)
    · have hs : rdBool ((vn : Int) :: l) = none := by show (if 1 < (vn : Int) then none else some (decide ((vn : Int) = 1), l)) = _; rw [if_pos c1]
      rw [hs]
      have e1 : decide ((vn : Int) > 1) = true := by rw [decide_eq_true_eq]; exact c1
      clear hs c1
      go_enter Try.func52, Try.ntmps52
      go_wp2_with fail
      refine hT.mono ?_
      rintro e w2 ⟨rfl, h2, hb2⟩
      go_wp2_with fail
      exact ⟨rfl, rfl, h2.fr, hb2⟩
    · have hs : rdBool ((vn : Int) :: l) = some (decide ((vn : Int) = 1), l) := by show (if 1 < (vn : Int) then none else some (decide ((vn : Int) = 1), l)) = _; rw [if_neg c1]
      rw [hs]
      have e1 : decide ((vn : Int) > 1) = false := by rw [decide_eq_false_iff_not]; exact c1
      obtain ⟨bb, hbb⟩ : ∃ b, decide ((vn : Int) = 1) = b := ⟨_, rfl⟩
      have e2 : ((vn : Int) == 1) = bb := by rw [← hbb]; by_cases e : (vn : Int) = 1 <;> simp [e]
      rw [hbb]
      clear hs c1 hbb
      go_enter Try.func52, Try.ntmps52
      go_wp2_with fail
      refine hT.mono ?_
      rintro e w2 ⟨rfl, h2, hb2⟩
      go_wp2_with fail
      go_ret
      exact ⟨rfl, h2, hb2⟩
end Go.Proofs.Ytkjfplldfjmbaaa

/- pack's reader: a reader beside other memory; what constants the bytes say, plainly. -/
namespace Go.Proofs.Ytkjfplldfjmbaaa
open Go.RowKit
section
variable {w : World} {B R : HP} {gr : Nat} {l : List Int} {p : Int}
theorem RdAt.sub (h : RdAt w B R gr l p) : ∀ w', sat w' R → sat w' B := by
  obtain ⟨_, _, _, _, _, _, hf⟩ := h
  exact hf
theorem RdAt.perm {R' : HP} (h : RdAt w B R gr l p) (e : R = R') : RdAt w B R' gr l p := e ▸ h
theorem RdAt.alloc (h : RdAt w B R gr l p) (o : Obj) : RdAt (w.alloc o) B (blk w.heap.size o * R) gr l p := by
  obtain ⟨ao, cap, hs, h1, h2, h3, hf⟩ := h
  exact ⟨ao, cap, (hs.alloc o).perm (by ac_rfl), h1, h2, h3, fun w' h => hf w' h.right⟩
theorem RdAt.put {g : Nat} {cs : Array Value} {t : Nat} (off : Nat) (v : Value) (h : RdAt w B (blk g (.cells cs t (0, 0)) * R) gr l p) (hR : ∀ w', sat w' R → sat w' B) :
    RdAt (w.setCell ⟨g, off, none⟩ v) B (blk g (.cells (cs.setIfInBounds off v) t (0, 0)) * R) gr l p := by
  obtain ⟨ao, cap, hs, h1, h2, h3, hf⟩ := h
  refine ⟨ao, cap, ?_, h1, h2, h3, fun w' h => hR w' h.right⟩
  have h4 := (hs.perm (show _ = blk g _ * (blk gr _ * R) by ac_rfl)).setCell (off := off) v
  exact h4.perm (by ac_rfl)
theorem RdAt.drop {X : HP} (h : RdAt w B (X * R) gr l p) (hR : ∀ w', sat w' R → sat w' B) : RdAt w B R gr l p := by
  obtain ⟨ao, cap, hs, h1, h2, h3, hf⟩ := h
  exact ⟨ao, cap, (hs.perm (show _ = X * (blk gr _ * R) by ac_rfl)).right, h1, h2, h3, hR⟩
theorem RdAt.parts (h : RdAt w B R gr l p) : w.cell? ⟨gr, 1, none⟩ = some (.int .i64 p) ∧ w.frozen? ⟨gr, 1, none⟩ = false ∧ ∀ q : Int, RdAt (w.setCell ⟨gr, 1, none⟩ (.int .i64 q)) B R gr l q := by
  obtain ⟨ao, cap, hs, h1, h2, h3, hf⟩ := h
  exact ⟨hs.left.cell 1, hs.left.frozen 1, fun q => ⟨ao, cap, hs.setCell (off := 1) _, h1, h2, h3, hf⟩⟩
theorem RdAt.drewN (h : RdAt w B R gr l p) (n : Nat) : RdAt (w.drewN n) B R gr l p := h
theorem RdAt.len (h : RdAt w B R gr l p) : ∃ ao cap, w.cell? ⟨gr, 0, none⟩ = some (.slice ao l.length cap) := by
  obtain ⟨ao, cap, hs, _⟩ := h
  exact ⟨ao, cap, hs.left.cell 0⟩
end
/-- Limbs, so many. -/
def rdLimbs : Nat → List Int → Option (List Int × List Int)
  | 0, l => some ([], l)
  | n + 1, l => match rdNum l with
    | none => none
    | some (x, l1) => if 4294967296 ≤ x then none else match rdLimbs n l1 with
      | none => none
      | some (xs, l2) => some (x :: xs, l2)
/-- So many of a kind. -/
def rdMany {α : Type} (f : Int → List Int → Option (α × Int × List Int)) : Nat → Int → List Int → Option (List α × Int × List Int)
  | 0, p, l => some ([], p, l)
  | n + 1, p, l => match f p l with
    | none => none
    | some (d, p1, l1) => match rdMany f n p1 l1 with
      | none => none
      | some (ds, p2, l2) => some (d :: ds, p2, l2)
/-- The constant that bytes begin with, if it may be so deep. -/
def rdConst : Nat → Int → List Int → Option (Dm × Int × List Int)
  | 0, _, _ => none
  | deep + 1, p, l => if 20000 < p + 1 then none else match rdNum l with
    | none => none
    | some (k, l1) =>
      if k = 1 then match rdBool l1 with
        | none => none
        | some (neg, l2) => match rdNum l2 with
          | none => none
          | some (n, l3) => match rdLimbs n.toNat l3 with
            | none => none
            | some (mag, l4) => some (.mk 1 0 neg mag noT [] [], p + 1, l4)
      else if k = 2 ∨ k = 3 ∨ k = 9 then match rdSign l1 with
        | none => none
        | some (n, l2) => some (.mk k n false [] noT [] [], p + 1, l2)
      else if k = 4 then match rdText l1 with
        | none => none
        | some (s, l2) => some (.mk 4 0 false [] s [] [], p + 1, l2)
      else if k = 5 then match rdText l1 with
        | none => none
        | some (s, l2) => match rdSign l2 with
          | none => none
          | some (n, l3) => some (.mk 5 n false [] s [] [], p + 1, l3)
      else if k = 6 ∨ k = 7 then match rdNum l1 with
        | none => none
        | some (n, l2) => match rdMany (rdConst deep) n.toNat (p + 1) l2 with
          | none => none
          | some (items, q, l3) => if k = 6 then match rdBool l3 with
              | none => none
              | some (false, l4) => some (.mk k 0 false [] noT items [], q, l4)
              | some (true, l4) => match rdConst deep q l4 with
                | none => none
                | some (r, q2, l5) => some (.mk k 0 false [] noT items [r], q2, l5)
            else some (.mk k 0 false [] noT items [], q, l3)
      else if k = 8 then some (.mk 8 0 false [] noT [] [], p + 1, l1)
      else none
/-- What the reader of constants leaves. -/
def RcPost (B R : HP) (gr : Nat) (o : Option (Dm × Int × List Int)) (w : World) (e : Ending) (w' : World) : Prop :=
  match o with
  | none => e = cutE ∧ sat w' R ∧ Below 0 w w'
  | some (d, q, l') => ∃ cs M, e = .returned (.agg cs.toArray) ∧ DK M d cs ∧ RdAt w' B (M * R) gr l' q ∧ Below 0 w w'
def RdConstAt (deep : Nat) : Prop := ∀ (w : World) (B R : HP) (gr : Nat) (l : List Int) (p : Int), RdAt w B R gr l p → 0 ≤ p ∧ p ≤ 20000 → l.length ≤ 67108864 →
  Calls Try.prog 54 #[.pointer (some ⟨gr, 0, none⟩), .int .i64 deep] w (RcPost B R gr (rdConst deep p l) w)
end Go.Proofs.Ytkjfplldfjmbaaa

/- pack's reader of constants: its end. -/
namespace Go.Proofs.Ytkjfplldfjmbaaa
open Go.RowKit
theorem rdSign_bd {l : List Int} {n : Int} {l' : List Int} (h : rdSign l = some (n, l')) : -549755813889 ≤ n ∧ n ≤ 549755813888 ∧ l'.length < l.length := by
  unfold rdSign rdNum at h
  cases ho : rdNumF 0 0 l with
  | none => rw [ho] at h; cases h
  | some r =>
    obtain ⟨x, m⟩ := r
    rw [ho] at h
    simp only [Option.some.injEq, Prod.mk.injEq] at h
    obtain ⟨rfl, rfl⟩ := h
    have := rdNumF_bd l 0 0 x m ho
    unfold unzig
    split <;> omega
theorem fin_cells {w : World} {X : HP} {g5 g4 : Nat} {a0 a1 a2 a3 a4 a5 a6 : Value} (h : sat w (blk g5 (dmO [a0, a1, a2, a3, a4, a5, a6]) * (blk g4 (dmO [.int .i64 0, .int .i64 0, .bool false, .slice none 0 0, .string ⟨#[]⟩, .slice none 0 0, .slice none 0 0]) * X))) :
    (w.cell? ⟨g5, 0, none⟩ = some a0 ∧ w.cell? ⟨g5, 1, none⟩ = some a1 ∧ w.cell? ⟨g5, 2, none⟩ = some a2 ∧ w.cell? ⟨g5, 3, none⟩ = some a3 ∧ w.cell? ⟨g5, 4, none⟩ = some a4 ∧ w.cell? ⟨g5, 5, none⟩ = some a5 ∧ w.cell? ⟨g5, 6, none⟩ = some a6) ∧
    (w.cell? ⟨g4, 0, none⟩ = some (.int .i64 0) ∧ w.cell? ⟨g4, 1, none⟩ = some (.int .i64 0) ∧ w.cell? ⟨g4, 2, none⟩ = some (.bool false) ∧ w.cell? ⟨g4, 3, none⟩ = some (.slice none 0 0) ∧ w.cell? ⟨g4, 4, none⟩ = some (.string ⟨#[]⟩) ∧ w.cell? ⟨g4, 5, none⟩ = some (.slice none 0 0) ∧ w.cell? ⟨g4, 6, none⟩ = some (.slice none 0 0)) ∧
    w.frozen? ⟨g4, 0, none⟩ = false ∧ w.frozen? ⟨g4, 1, none⟩ = false ∧ w.frozen? ⟨g4, 2, none⟩ = false ∧ w.frozen? ⟨g4, 3, none⟩ = false ∧ w.frozen? ⟨g4, 4, none⟩ = false ∧ w.frozen? ⟨g4, 5, none⟩ = false ∧ w.frozen? ⟨g4, 6, none⟩ = false :=
  ⟨⟨h.left.cell 0, h.left.cell 1, h.left.cell 2, h.left.cell 3, h.left.cell 4, h.left.cell 5, h.left.cell 6⟩,
   ⟨h.right.left.cell 0, h.right.left.cell 1, h.right.left.cell 2, h.right.left.cell 3, h.right.left.cell 4, h.right.left.cell 5, h.right.left.cell 6⟩,
   h.right.left.frozen 0, h.right.left.frozen 1, h.right.left.frozen 2, h.right.left.frozen 3, h.right.left.frozen 4, h.right.left.frozen 5, h.right.left.frozen 6⟩
theorem RdAt.put7 {w : World} {B X : HP} {gr g : Nat} {l : List Int} {p : Int} (a0 a1 a2 a3 a4 a5 a6 : Value) (h : RdAt w B (blk g (dmO [.int .i64 0, .int .i64 0, .bool false, .slice none 0 0, .string ⟨#[]⟩, .slice none 0 0, .slice none 0 0]) * X) gr l p) (hX : ∀ w', sat w' X → sat w' B) :
    RdAt (((((((w.setCell ⟨g, 0, none⟩ a0).setCell ⟨g, 1, none⟩ a1).setCell ⟨g, 2, none⟩ a2).setCell ⟨g, 3, none⟩ a3).setCell ⟨g, 4, none⟩ a4).setCell ⟨g, 5, none⟩ a5).setCell ⟨g, 6, none⟩ a6) B X gr l p ∧
    (∀ w9, (((((((w.setCell ⟨g, 0, none⟩ a0).setCell ⟨g, 1, none⟩ a1).setCell ⟨g, 2, none⟩ a2).setCell ⟨g, 3, none⟩ a3).setCell ⟨g, 4, none⟩ a4).setCell ⟨g, 5, none⟩ a5).setCell ⟨g, 6, none⟩ a6) = w9 →
      w9.cell? ⟨g, 0, none⟩ = some a0 ∧ w9.cell? ⟨g, 1, none⟩ = some a1 ∧ w9.cell? ⟨g, 2, none⟩ = some a2 ∧ w9.cell? ⟨g, 3, none⟩ = some a3 ∧ w9.cell? ⟨g, 4, none⟩ = some a4 ∧ w9.cell? ⟨g, 5, none⟩ = some a5 ∧ w9.cell? ⟨g, 6, none⟩ = some a6) ∧
    Below 0 w (((((((w.setCell ⟨g, 0, none⟩ a0).setCell ⟨g, 1, none⟩ a1).setCell ⟨g, 2, none⟩ a2).setCell ⟨g, 3, none⟩ a3).setCell ⟨g, 4, none⟩ a4).setCell ⟨g, 5, none⟩ a5).setCell ⟨g, 6, none⟩ a6) := by
  have h9 := ((((((h.put 0 a0 hX).put 1 a1 hX).put 2 a2 hX).put 3 a3 hX).put 4 a4 hX).put 5 a5 hX).put 6 a6 hX
  refine ⟨h9.drop hX, ?_, (((((((Below.refl 0 w).setCell (p := ⟨g, 0, none⟩) (Nat.zero_le _) a0).setCell (p := ⟨g, 1, none⟩) (Nat.zero_le _) a1).setCell (p := ⟨g, 2, none⟩) (Nat.zero_le _) a2).setCell (p := ⟨g, 3, none⟩) (Nat.zero_le _) a3).setCell (p := ⟨g, 4, none⟩) (Nat.zero_le _) a4).setCell (p := ⟨g, 5, none⟩) (Nat.zero_le _) a5).setCell (p := ⟨g, 6, none⟩) (Nat.zero_le _) a6⟩
  intro w9 hw9
  rw [hw9] at h9
  obtain ⟨_, _, hs, _⟩ := h9
  exact cells7 hs.right
end Go.Proofs.Ytkjfplldfjmbaaa
