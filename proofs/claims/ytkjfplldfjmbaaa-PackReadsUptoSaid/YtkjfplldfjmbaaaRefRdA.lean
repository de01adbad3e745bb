/- The reference's reader: take, num, signed, bit. The reference's reader of data: what is bad; kinds without parts. -/
import Derived.Test.YtkjfplldfjmbaaaPackRdE
import Derived.Test.YtkjfplldfjmbaaaDmOpen
/- The reference's reader: take, num, signed, bit. -/
namespace Go.Proofs.Ytkjfplldfjmbaaa
open Go.RowKit
/-- The reference's reader: the bytes left, whether something was wrong, the parts left. -/
def RfAt (w : World) (B R : HP) (gr : Nat) (bad : Bool) (l : List Int) (left : Int) : Prop :=
  ∃ ao cap, sat w (blk gr (.cells #[.slice ao l.length cap, .bool bad, .int .i64 left] 80 (0, 0)) * R) ∧ l.length ≤ cap ∧ (∀ w', sat w' B → CellsAt w' ao (l.map bv)) ∧ Bytes l ∧ ∀ w', sat w' R → sat w' B
section
variable {w : World} {B R : HP} {gr : Nat} {bad : Bool} {l : List Int} {left : Int}
theorem RfAt.fr (h : RfAt w B R gr bad l left) : sat w R := by
  obtain ⟨_, _, h, _⟩ := h
  exact h.right
theorem RfAt.sub (h : RfAt w B R gr bad l left) : ∀ w', sat w' R → sat w' B := by
  obtain ⟨_, _, _, _, _, _, hf⟩ := h
  exact hf
theorem RfAt.perm {R' : HP} (h : RfAt w B R gr bad l left) (e : R = R') : RfAt w B R' gr bad l left := e ▸ h
theorem RfAt.alloc (h : RfAt w B R gr bad l left) (o : Obj) : RfAt (w.alloc o) B (blk w.heap.size o * R) gr bad l left := by
  obtain ⟨ao, cap, hs, h1, h2, h3, hf⟩ := h
  exact ⟨ao, cap, (hs.alloc o).perm (by ac_rfl), h1, h2, h3, fun w' h => hf w' h.right⟩
theorem RfAt.put {g : Nat} {cs : Array Value} {t : Nat} (off : Nat) (v : Value) (h : RfAt w B (blk g (.cells cs t (0, 0)) * R) gr bad l left) (hR : ∀ w', sat w' R → sat w' B) :
    RfAt (w.setCell ⟨g, off, none⟩ v) B (blk g (.cells (cs.setIfInBounds off v) t (0, 0)) * R) gr bad l left := by
  obtain ⟨ao, cap, hs, h1, h2, h3, hf⟩ := h
  refine ⟨ao, cap, ?_, h1, h2, h3, fun w' h => hR w' h.right⟩
  have h4 := (hs.perm (show _ = blk g _ * (blk gr _ * R) by ac_rfl)).setCell (off := off) v
  exact h4.perm (by ac_rfl)
theorem RfAt.drop {X : HP} (h : RfAt w B (X * R) gr bad l left) (hR : ∀ w', sat w' R → sat w' B) : RfAt w B R gr bad l left := by
  obtain ⟨ao, cap, hs, h1, h2, h3, hf⟩ := h
  exact ⟨ao, cap, (hs.perm (show _ = X * (blk gr _ * R) by ac_rfl)).right, h1, h2, h3, hR⟩
theorem RfAt.bads (h : RfAt w B R gr bad l left) : w.cell? ⟨gr, 1, none⟩ = some (.bool bad) ∧ w.frozen? ⟨gr, 1, none⟩ = false ∧ ∀ b : Bool, RfAt (w.setCell ⟨gr, 1, none⟩ (.bool b)) B R gr b l left := by
  obtain ⟨ao, cap, hs, h1, h2, h3, hf⟩ := h
  exact ⟨hs.left.cell 1, hs.left.frozen 1, fun q => ⟨ao, cap, hs.setCell (off := 1) _, h1, h2, h3, hf⟩⟩
theorem RfAt.lefts (h : RfAt w B R gr bad l left) : w.cell? ⟨gr, 2, none⟩ = some (.int .i64 left) ∧ w.frozen? ⟨gr, 2, none⟩ = false ∧ ∀ q : Int, RfAt (w.setCell ⟨gr, 2, none⟩ (.int .i64 q)) B R gr bad l q := by
  obtain ⟨ao, cap, hs, h1, h2, h3, hf⟩ := h
  exact ⟨hs.left.cell 2, hs.left.frozen 2, fun q => ⟨ao, cap, hs.setCell (off := 2) _, h1, h2, h3, hf⟩⟩
theorem RfAt.len (h : RfAt w B R gr bad l left) : ∃ ao cap, w.cell? ⟨gr, 0, none⟩ = some (.slice ao l.length cap) := by
  obtain ⟨ao, cap, hs, _⟩ := h
  exact ⟨ao, cap, hs.left.cell 0⟩
end
/-- What a step of the reader makes of its state and gives: once bad it stays bad; bytes that say nothing make it bad. -/
def StepR {α : Type} (o : Option (α × List Int)) (bad : Bool) (l : List Int) (x : α) (bad' : Bool) (l' : List Int) : Prop :=
  (bad = true → bad' = true) ∧ (bad = false → match o with | none => bad' = true | some (y, t) => bad' = false ∧ l' = t ∧ x = y) ∧ l'.length ≤ l.length
theorem StepR.good {α : Type} {o : Option (α × List Int)} {bad bad' : Bool} {l l' : List Int} {x : α} (h : StepR o bad l x bad' l') (hb : bad' = false) : bad = false ∧ o = some (x, l') := by
  obtain ⟨h1, h2, _⟩ := h
  have hb0 : bad = false := by
    cases bad with
    | false => rfl
    | true => rw [h1 rfl] at hb; cases hb
  refine ⟨hb0, ?_⟩
  have h3 := h2 hb0
  cases o with
  | none => rw [show bad' = true from h3] at hb; cases hb
  | some r =>
    obtain ⟨y, t⟩ := r
    obtain ⟨_, rfl, rfl⟩ := h3
    rfl
theorem StepR.ofBad {α : Type} {o : Option (α × List Int)} {bad bad' : Bool} {l l' : List Int} {x : α} (h : StepR o bad l x bad' l') (hb : bad' = true) : bad = true ∨ o = none := by
  obtain ⟨_, h2, _⟩ := h
  cases bad with
  | true => exact .inl rfl
  | false =>
    have h3 := h2 rfl
    cases o with
    | none => exact .inr rfl
    | some r =>
      obtain ⟨y, t⟩ := r
      obtain ⟨h4, _⟩ := h3
      rw [h4] at hb; cases hb
theorem cells_take {w : World} {ao : Option Addr} {l : List Int} (n : Nat) (h : CellsAt w ao (l.map bv)) : CellsAt w ao ((l.take n).map bv) := by
  intro j u hj
  rw [List.getElem?_map, List.getElem?_take] at hj
  split at hj
  · exact h j u (by rw [List.getElem?_map]; exact hj)
  · simp at hj
theorem StepR.map {α β : Type} (f : α → β) {o : Option (α × List Int)} {bad bad' : Bool} {l l' : List Int} {x : α} (h : StepR o bad l x bad' l') : StepR (o.map fun r => (f r.1, r.2)) bad l (f x) bad' l' := by
  obtain ⟨h1, h2, h3⟩ := h
  refine ⟨h1, fun hb => ?_, h3⟩
  have h4 := h2 hb
  cases o with
  | none => exact h4
  | some r =>
    obtain ⟨y, t⟩ := r
    obtain ⟨h5, h6, h7⟩ := h4
    exact ⟨h5, h6, by rw [h7]⟩
theorem StepR.bind {α β : Type} {f : α → List Int → Option (β × List Int)} {o : Option (α × List Int)} {bad b1 b2 : Bool} {l l1 l2 : List Int} {x : α} {y : β} (h : StepR o bad l x b1 l1) (h' : StepR (f x l1) b1 l1 y b2 l2) :
    StepR (o.bind fun r => f r.1 r.2) bad l y b2 l2 := by
  obtain ⟨h1, h2, h3⟩ := h
  obtain ⟨k1, k2, k3⟩ := h'
  refine ⟨fun hb => k1 (h1 hb), fun hb => ?_, by omega⟩
  have h4 := h2 hb
  cases o with
  | none => exact k1 h4
  | some r =>
    obtain ⟨a, t⟩ := r
    obtain ⟨h5, rfl, rfl⟩ := h4
    exact k2 h5
/-- What take leaves. -/
def RtkPost (B R : HP) (gr : Nat) (left : Int) (bad : Bool) (l : List Int) (n : Nat) (w : World) (e : Ending) (w' : World) : Prop :=
  if bad = true ∨ l.length < n then e = .returned (.slice none 0 0) ∧ RfAt w' B R gr true l left ∧ Below 0 w w'
  else ∃ ao cap, e = .returned (.slice ao n cap) ∧ (∀ w', sat w' B → CellsAt w' ao ((l.take n).map bv)) ∧ RfAt w' B R gr false (l.drop n) left ∧ Below 0 w w'
set_option maxRecDepth 100000 in
set_option maxHeartbeats 1000000 in
theorem rf_take (w : World) (B R : HP) (gr : Nat) (bad : Bool) (l : List Int) (left : Int) (n : Nat) (x : Int) (hx : x = n) (h : RfAt w B R gr bad l left) :
    Calls Try.prog 38 #[.pointer (some ⟨gr, 0, none⟩), .int .i64 x] w (RtkPost B R gr left bad l n w) := by
  subst hx
  obtain ⟨c1, f1, hq⟩ := h.bads
  have hq1 := hq true
  have hbq := (Below.refl 0 w).setCell (p := ⟨gr, 1, none⟩) (Nat.zero_le _) (.bool true)
  obtain ⟨ao, cap, hs, hc, hcx, hu, hf⟩ := h
  obtain ⟨ll, hll⟩ : ∃ x, l.length = x := ⟨_, rfl⟩
  rw [hll] at hs hc
  have c0 := (hs.left.cell 0).trans (show _ = some (Value.slice ao ll cap) from rfl)
  have f0 := hs.left.frozen 0
  have HQ := Lib.hid (And.intro hq1 hbq)
  have H0 := Lib.hid (And.intro hs (And.intro hll (And.intro hcx (And.intro hu hf))))
  clear hq hq1 hbq hs hcx hu hf
  have hno : bad = true ∨ ll < n → RtkPost B R gr left bad l n w (.returned (.slice none 0 0)) (w.setCell ⟨gr, 1, none⟩ (.bool true)) := by
    intro h
    unfold RtkPost
    rw [if_pos (by rw [H0.out.2.1]; exact h)]
    exact ⟨rfl, HQ.out.1, HQ.out.2⟩
  have HNO := Lib.hid hno
  clear hno
  cases bad with
  | true =>
    go_enter Try.func38, Try.ntmps38
    go_wp2_with fail
    go_ret
    exact HNO.out (by simp)
  | false =>
    by_cases hn : ll < n
    · have e0 : decide ((n : Int) > (ll : Int)) = true := by rw [decide_eq_true_eq]; omega
      have e1 : decide (ll < n) = true := by rw [decide_eq_true_eq]; omega
      have HN := Lib.hid hn
      clear hn hll
      go_enter Try.func38, Try.ntmps38
      go_wp2_with fail
      go_ret
      exact HNO.out (.inr HN.out)
    · have e0 : decide ((n : Int) > (ll : Int)) = false := by rw [decide_eq_false_iff_not]; omega
      have e1 : decide (ll < n) = false := by rw [decide_eq_false_iff_not]; omega
      have b1 : (n : Int) ≤ (ll : Int) := by omega
      have b2 : (ll : Int) ≤ (cap : Int) := by omega
      have b3 : (n : Int) ≤ (cap : Int) := by omega
      have key : ∀ ao2 cap2, ll - n ≤ cap2 → (∀ w', sat w' B → CellsAt w' ao2 ((l.drop n).map bv)) → RtkPost B R gr left false l n w (.returned (.slice ao n cap)) (w.setCell ⟨gr, 0, none⟩ (.slice ao2 (ll - n) cap2)) := by
        intro ao2 cap2 hc2 hx2
        have hdl : (l.drop n).length = ll - n := by rw [List.length_drop, H0.out.2.1]
        unfold RtkPost
        rw [if_neg (by rw [H0.out.2.1]; simp; omega)]
        refine ⟨ao, cap, rfl, fun w' h => cells_take n (H0.out.2.2.1 w' h), ⟨ao2, cap2, ?_, by rw [hdl]; exact hc2, hx2, fun x hx => H0.out.2.2.2.1 x (List.mem_of_mem_drop hx), H0.out.2.2.2.2⟩, (Below.refl 0 w).setCell (p := ⟨gr, 0, none⟩) (Nat.zero_le _) _⟩
        rw [hdl]
        exact H0.out.1.setCell (off := 0) _
      have HKY := Lib.hid key
      clear key hll
      go_enter Try.func38, Try.ntmps38
      cases ao with
      | none =>
        have hl0 : l = [] := by
          have hx := H0.out.2.2.1 w (H0.out.2.2.2.2 w H0.out.1.right)
          cases l with
          | nil => rfl
          | cons x l => obtain ⟨a, h, _⟩ := hx 0 (bv x) rfl; cases h
        have HL0 := Lib.hid hl0
        clear hl0
        go_wp2_with fail
        go_ret
        exact HKY.out none (cap - n) (by omega) (fun w' _ => by rw [HL0.out, List.drop_nil]; intro j u h; simp at h)
      | some a =>
        by_cases hcn : cap = n
        · subst hcn
          have hle : l.drop cap = [] := List.drop_eq_nil_of_le (by have := H0.out.2.1; omega)
          have HLE := Lib.hid hle
          clear hle
          go_wp2_with fail
          go_ret
          have hk := HKY.out (some a) 0 (by omega) (fun w' _ => by rw [HLE.out]; intro j u h; simp at h)
          rw [show ll - cap = 0 by omega] at hk
          exact hk
        · have hlt : (n : Int) < (cap : Int) := by omega
          have hlt2 : n < cap := by omega
          go_wp2_with fail
          all_goals first
            | (go_ret; exact HKY.out (some (a.add n)) (cap - n) (by omega) (fun w' hw' => cells_drop (H0.out.2.2.1 w' hw')))
            | omega
theorem rdNumF_big {n : Nat} (h : 1099511627776 < n) : ∀ (l : List Int) (k : Nat), rdNumF k n l = none
  | [], _ => rfl
  | v :: l, k => by
    rw [rd_next, if_pos]
    exact .inr (.inl (by omega))
theorem rdNumF_six {n : Nat} : ∀ (l : List Int), (∀ v ∈ l, 0 ≤ v ∧ v < 256) → rdNumF 6 n l = none
  | [], _ => rfl
  | v :: l, hu => by
    have hv := hu v (by simp)
    rw [rd_next]
    by_cases h0 : v = 0
    · rw [if_pos (.inr (.inr ⟨h0, by decide⟩))]
    by_cases hlt : v < 128
    · have e1 : v.toNat % 128 = v.toNat := Nat.mod_eq_of_lt (by omega)
      have e2 : 1 * 128 ^ 6 ≤ v.toNat * 128 ^ 6 := Nat.mul_le_mul_right _ (by omega)
      have hbig : 1099511627776 < n + v.toNat % 128 * 128 ^ 6 := by rw [e1]; omega
      rw [if_pos (.inr (.inl hbig))]
    · split
      · rfl
      · cases l with
        | nil => rfl
        | cons a t => rw [rd_next, if_pos (.inl (by decide))]
theorem shl_atk (P : Program) (x k : Nat) (at' : Int) (hat : ((7 * k : Nat) : Int) = at') (hk : k ≤ 7) (hx : x < 128) (w : World) : Sem.run P (Op.shift .shl .i64 (x : Int) .u64 at') w = .ok (.int .i64 ((x * 128 ^ k : Nat) : Int)) w := by
  subst hat
  have hp : (128 : Nat) ^ k ≤ 128 ^ 7 := Nat.pow_le_pow_right (by decide) hk
  have hm : x * 128 ^ k ≤ 128 * 128 ^ 7 := Nat.mul_le_mul (by omega) hp
  unfold Op.shift
  rw [if_neg (by omega)]
  have e1 : min ((7 * k : Nat) : Int).toNat IntKind.i64.bits = 7 * k := by
    show min ((7 * k : Nat) : Int).toNat 64 = 7 * k
    omega
  have e2 : ((x : Int) * 2 ^ (7 * k)) = ((x * 128 ^ k : Nat) : Int) := by
    rw [Int.natCast_mul, Int.natCast_pow, Int.pow_mul]
    rfl
  simp only [e1]
  rw [e2, IntWalk.i64_in _ (by omega)]
  rfl
theorem w64n (x : Nat) (h : x ≤ 8796093022208) : wrap64 (x : Int) = x ∧ IntKind.i64.wrap (x : Int) = x := ⟨IntWalk.wrap64_in _ (by omega), IntWalk.i64_in _ (by omega)⟩
/-- What a reader of numbers leaves. -/
def RfnPost (B R : HP) (gr : Nat) (left : Int) (o : Option (Int × List Int)) (lo hi : Int) (bad : Bool) (l : List Int) (w : World) (e : Ending) (w' : World) : Prop :=
  ∃ (x : Int) (bad' : Bool) (l' : List Int), e = .returned (.int .i64 x) ∧ (lo ≤ x ∧ x ≤ hi) ∧ StepR o bad l x bad' l' ∧ RfAt w' B R gr bad' l' left ∧ Below 0 w w'
def RfRel (W : World) (B R : HP) (gr : Nat) (left : Int) (bad : Bool) (l0 : List Int) (v k : Value) (wr : World) : Prop :=
  ∃ (kk n : Nat) (l : List Int), v = .int .i64 n ∧ k = .int .i64 kk ∧ kk ≤ 6 ∧ n < 128 ^ kk ∧ l.length ≤ l0.length ∧ RfAt wr B R gr bad l left ∧ Below 0 W wr ∧ (bad = false → rdNumF 0 0 l0 = rdNumF kk n l) ∧ (bad = true → kk = 0)
set_option maxRecDepth 100000 in
set_option maxHeartbeats 2000000 in
theorem rf_num (w : World) (B R : HP) (gr : Nat) (bad : Bool) (l0 : List Int) (left : Int) (h : RfAt w B R gr bad l0 left) :
    Calls Try.prog 39 #[.pointer (some ⟨gr, 0, none⟩)] w (RfnPost B R gr left (rdNumF 0 0 l0) 0 8796093022208 bad l0 w) := by
  go_enter Try.func39, Try.ntmps39
  go_wp2_with fail
  go_loopw [3, 4] (RfRel w B R gr left bad l0) (fun _ k _ => 6 - (intOf k).toNat)
  case atStart => exact ⟨0, 0, l0, rfl, rfl, by decide, by decide, Nat.le_refl _, h, Below.refl _ _, fun _ => rfl, fun _ => rfl⟩
  case round =>
    obtain ⟨kk, n, l, rfl, rfl, hkk, hn, hll, h1, hb1, hg, hbad⟩ := hrel
    by_cases hk6 : kk = 6
    · have hb0 : bad = false := by
        cases bad with
        | false => rfl
        | true => have := hbad rfl; omega
      have e0 : decide ((kk : Int) < 6) = false := by rw [decide_eq_false_iff_not]; omega
      obtain ⟨c1, f1, hq⟩ := h1.bads
      have hu : Bytes l := by obtain ⟨_, _, _, _, _, hu, _⟩ := h1; exact hu
      have hno : rdNumF 0 0 l0 = none := by rw [hg hb0, hk6]; exact rdNumF_six l hu
      have HQ := Lib.hid (And.intro (hq true) (And.intro (hb1.setCell (p := ⟨gr, 1, none⟩) (Nat.zero_le _) (.bool true)) (And.intro hno hll)))
      subst hb0 hk6
      clear hq hno h1 hb1 hg hbad hn hll h hu hkk
      go_wp2_with fail
      go_ret
      exact ⟨0, true, l, rfl, by decide, ⟨fun _ => rfl, fun _ => by rw [HQ.out.2.2.1], HQ.out.2.2.2⟩, HQ.out.1, HQ.out.2.1⟩
    · have e0 : decide ((kk : Int) < 6) = true := by rw [decide_eq_true_eq]; omega
      have hT := rf_take wr B R gr bad l left 1 1 rfl h1
      have HH := Lib.hid (And.intro hkk (And.intro hn (And.intro hll (And.intro h1 (And.intro hb1 (And.intro hg (And.intro hbad hk6)))))))
      clear hkk hn hll h1 hb1 hg hbad hk6 h
      by_cases hc : bad = true ∨ l.length < 1
      · have HC := Lib.hid hc
        clear hc
        go_wp2_with fail
        refine hT.mono ?_
        clear hT
        intro e w2 hP
        unfold RtkPost at hP
        rw [if_pos HC.out] at hP
        obtain ⟨rfl, h2, hb2⟩ := hP
        have c1 := h2.bads.1
        have H2 := Lib.hid (And.intro h2 (HH.out.2.2.2.2.1.trans hb2))
        clear h2 hb2
        go_wp2_with fail
        go_ret
        refine ⟨0, true, l, rfl, by decide, ⟨fun _ => rfl, fun hb => ?_, HH.out.2.2.1⟩, H2.out.1, H2.out.2⟩
        have hl : l = [] := by
          rcases HC.out with h | h
          · rw [hb] at h; cases h
          · exact List.eq_nil_of_length_eq_zero (by omega)
        rw [HH.out.2.2.2.2.2.1 hb, hl]
        rfl
      · have hb0 : bad = false := by
          cases bad with
          | false => rfl
          | true => exact absurd (.inl rfl) hc
        subst hb0
        obtain ⟨v, l, rfl⟩ : ∃ v t, l = v :: t := by
          cases l with
          | nil => exact absurd (.inr (by decide)) hc
          | cons v t => exact ⟨v, t, rfl⟩
        have hu : 0 ≤ v ∧ v < 256 := by obtain ⟨_, _, _, _, _, hu, _⟩ := HH.out.2.2.2.1; exact hu v (by simp)
        have HC := Lib.hid hc
        clear hc
        obtain ⟨vn, rfl⟩ : ∃ x : Nat, v = x := ⟨v.toNat, by omega⟩
        have hv : vn < 256 := by omega
        obtain ⟨at', hat⟩ : ∃ x : Int, ((7 * kk : Nat) : Int) = x := ⟨_, rfl⟩
        obtain ⟨x7, hx7⟩ : ∃ x : Nat, vn % 128 = x := ⟨_, rfl⟩
        have hx7b : x7 < 128 := by omega
        have m1 : (vn : Int).tmod 128 = (x7 : Int) := by rw [Int.tmod_eq_emod_of_nonneg (by omega)]; omega
        have g1 : IntKind.u8.wrap (x7 : Int) = x7 := by rw [IntKind.wrap_u8]; omega
        have g2 : wrap64 (x7 : Int) = x7 := IntWalk.wrap64_in _ (by omega)
        have g2' : IntKind.i64.wrap (x7 : Int) = x7 := IntWalk.i64_in _ (by omega)
        have g3 : 7 * (kk : Int) = at' := by omega
        have hk2 := HH.out.1
        have g4 : wrap64 at' = at' := IntWalk.wrap64_in _ (by omega)
        have g4' : IntKind.i64.wrap at' = at' := IntWalk.i64_in _ (by omega)
        have g5 : IntKind.u64.wrap at' = at' := by rw [IntKind.wrap_u64]; omega
        obtain ⟨m, hm⟩ : ∃ x : Nat, x7 * 128 ^ kk = x := ⟨_, rfl⟩
        have hsh : ∀ w', Sem.run Try.prog (Op.shift .shl .i64 (x7 : Int) .u64 at') w' = .ok (.int .i64 (m : Int)) w' := fun w' => by rw [← hm]; exact shl_atk _ x7 kk at' hat (by omega) hx7b w'
        obtain ⟨N, hN⟩ : ∃ x : Nat, n + m = x := ⟨_, rfl⟩
        have hnk := HH.out.2.1
        have hK5 : (128 : Nat) ^ kk ≤ 34359738368 := Nat.pow_le_pow_right (n := 128) (j := 5) (by decide) (by have := HH.out.2.2.2.2.2.2.2; omega)
        have hNb : N < 128 ^ (kk + 1) := by
          rw [← hN, ← hm, Nat.pow_succ]
          have h3 : x7 * 128 ^ kk ≤ 127 * 128 ^ kk := Nat.mul_le_mul_right _ (by omega)
          generalize 128 ^ kk = K at *
          omega
        have hN8 : N ≤ 8796093022208 ∧ m ≤ 8796093022208 := by
          have h3 : x7 * 128 ^ kk ≤ 127 * 128 ^ kk := Nat.mul_le_mul_right _ (by omega)
          rw [hm] at h3
          generalize 128 ^ kk = K at *
          omega
        have HNb := Lib.hid hNb
        clear hNb hnk hK5
        have hrd2 : rdNumF kk n ((vn : Int) :: l) = if 6 < kk ∨ 1099511627776 < N ∨ ((vn : Int) = 0 ∧ 0 < kk) then none else if (vn : Int) < 128 then some ((N : Int), l) else rdNumF (kk + 1) N l := by
          rw [rd_next, Int.toNat_natCast, hx7, hm, hN]
        have HRD := Lib.hid hrd2
        clear hrd2 hm
        have g6 : (n : Int) + (m : Int) = (N : Int) := by rw [← hN]; rfl
        have g7 := (w64n N hN8.1).1
        have g7' := (w64n N hN8.1).2
        have HX := Lib.hid (And.intro HRD.out (And.intro HNb.out (And.intro hat (And.intro hv (And.intro hk2 hN8.1)))))
        clear hat hN8 hN hx7 hx7b hu hk2 HRD HNb
        go_wp2_with fail
        refine hT.mono ?_
        clear hT
        intro e w2 hP
        unfold RtkPost at hP
        rw [if_neg HC.out] at hP
        simp only [List.take_succ_cons, List.take_zero, List.drop_succ_cons, List.drop_zero] at hP
        obtain ⟨ao, cap, rfl, hcx, h2, hb2⟩ := hP
        obtain ⟨a, rfl, hca⟩ := hcx w2 (h2.sub _ h2.fr) 0 (bv (vn : Int)) rfl
        rw [show a.add 0 = a by simp [Addr.add]] at hca
        obtain ⟨ab, ai, rfl⟩ : ∃ b o, a = ⟨b, o, none⟩ := ⟨_, _, dm_addr hca⟩
        obtain ⟨c1, f1, hq⟩ := h2.bads
        have hca2 : w2.cell? ⟨ab, ai, none⟩ = some (.int .u8 (vn : Int)) := hca
        have H2 := Lib.hid (And.intro h2 (HH.out.2.2.2.2.1.trans hb2))
        have HQ := Lib.hid (And.intro (hq true) ((HH.out.2.2.2.2.1.trans hb2).setCell (p := ⟨gr, 1, none⟩) (Nat.zero_le _) (.bool true)))
        clear h2 hb2 hcx hca hq
        go_upto_region 9 with (fail)
        clear m1 g1 g2 g2' g3 g4 g4' g5 hsh g6 g7 g7'
        obtain ⟨h1a, h1b, h1c, h1d, h1e, h1f⟩ := HX.out
        have HB1 := Lib.hid (And.intro h1b h1f)
        clear h1b h1f
        by_cases c5 : (vn : Int) < 128
        · have e5 : decide (vn < 128) = true := by rw [decide_eq_true_eq]; omega
          have e5' : decide ((vn : Int) < 128) = true := by rw [decide_eq_true_eq]; omega
          by_cases hbad' : (vn = 0 ∧ 0 < kk) ∨ 1099511627776 < N
          · have hno : rdNumF 0 0 l0 = none := by
              rw [HH.out.2.2.2.2.2.1 (by trivial), h1a, if_pos]
              rcases hbad' with ⟨h2, h3⟩ | h2
              · exact .inr (.inr ⟨by omega, h3⟩)
              · exact .inr (.inl h2)
            have HNO := Lib.hid hno
            clear hno h1a c5
            have key : ∀ x : Nat, x = N → RfnPost B R gr left (rdNumF 0 0 l0) 0 8796093022208 false l0 w (.returned (.int .i64 (x : Int))) (w2.setCell ⟨gr, 1, none⟩ (.bool true)) := by
              rintro x rfl
              refine ⟨x, true, l, rfl, by have := HB1.out.2; omega, ⟨fun _ => rfl, fun _ => by rw [HNO.out], by have := HH.out.2.2.1; simp at this; omega⟩, HQ.out.1, HQ.out.2⟩
            have HKY := Lib.hid key
            clear key
            by_cases hz : vn = 0
            · subst hz
              by_cases hk0 : 0 < kk
              · have e6 : decide (0 < kk) = true := by rw [decide_eq_true_eq]; exact hk0
                clear hbad'
                go_wp2_with fail
                go_ret
                exact HKY.out N rfl
              · have e6 : decide (0 < kk) = false := by rw [decide_eq_false_iff_not]; exact hk0
                have hNb : 1099511627776 < N := by
                  rcases hbad' with ⟨_, h⟩ | h
                  · exact absurd h hk0
                  · exact h
                have e7 : decide ((N : Int) > 1099511627776) = true := by rw [decide_eq_true_eq]; omega
                have e7' : decide (1099511627776 < (N : Int)) = true := by rw [decide_eq_true_eq]; omega
                clear hbad' hNb
                go_wp2_with fail
                go_ret
                exact HKY.out N rfl
            · have e6 : ((vn : Int) == 0) = false := by rw [beq_eq_false_iff_ne]; omega
              have hNb : 1099511627776 < N := by
                rcases hbad' with ⟨h, _⟩ | h
                · exact absurd h hz
                · exact h
              have e7 : decide ((N : Int) > 1099511627776) = true := by rw [decide_eq_true_eq]; omega
              have e7' : decide (1099511627776 < (N : Int)) = true := by rw [decide_eq_true_eq]; omega
              clear hbad' hNb
              go_wp2_with fail
              go_ret
              exact HKY.out N rfl
          · have hyes : rdNumF 0 0 l0 = some ((N : Int), l) := by
              rw [HH.out.2.2.2.2.2.1 (by trivial), h1a, if_neg, if_pos c5]
              rintro (h2 | h2 | ⟨h2, h3⟩)
              · have := HH.out.1; omega
              · exact hbad' (.inr h2)
              · exact hbad' (.inl ⟨by omega, h3⟩)
            have hNb : ¬ 1099511627776 < N := fun h => hbad' (.inr h)
            have hzk : ¬ (vn = 0 ∧ 0 < kk) := fun h => hbad' (.inl h)
            have HYE := Lib.hid hyes
            clear hyes h1a c5 hbad'
            have e7 : decide ((N : Int) > 1099511627776) = false := by rw [decide_eq_false_iff_not]; omega
            have e7' : decide (1099511627776 < (N : Int)) = false := by rw [decide_eq_false_iff_not]; omega
            have key : RfnPost B R gr left (rdNumF 0 0 l0) 0 8796093022208 false l0 w (.returned (.int .i64 (N : Int))) w2 := by
              refine ⟨N, false, l, rfl, by have := HB1.out.2; omega, ⟨fun h => (by cases h), fun _ => by rw [HYE.out]; exact ⟨rfl, rfl, rfl⟩, by have := HH.out.2.2.1; simp at this; omega⟩, H2.out.1, H2.out.2⟩
            have HKY := Lib.hid key
            clear key
            by_cases hz : vn = 0
            · subst hz
              have hk0 : kk = 0 := by omega
              subst hk0
              clear hzk hNb
              go_wp2_with fail
              go_ret
              exact HKY.out
            · have e6 : ((vn : Int) == 0) = false := by rw [beq_eq_false_iff_ne]; omega
              clear hzk hNb
              go_wp2_with fail
              go_ret
              exact HKY.out
        · have e5 : decide (vn < 128) = false := by rw [decide_eq_false_iff_not]; omega
          have e5' : decide ((vn : Int) < 128) = false := by rw [decide_eq_false_iff_not]; omega
          have hk6 := HH.out.2.2.2.2.2.2.2
          have hk8 := HH.out.1
          have hat1 : IntKind.i64.wrap ((kk : Int) + 1) = (kk : Int) + 1 := IntWalk.i64_in _ (by omega)
          have hat2 : wrap64 ((kk : Int) + 1) = (kk : Int) + 1 := IntWalk.wrap64_in _ (by omega)
          have HA1 := Lib.hid h1a
          have HC5 := Lib.hid (And.intro c5 (And.intro hk6 hk8))
          clear h1a c5 hk6 hk8
          go_wp2_with fail
          go_roundw
          case rel =>
            refine ⟨kk + 1, N, l, rfl, by congr 1, by have := HC5.out; omega, HB1.out.1, by have := HH.out.2.2.1; simp at this; omega, H2.out.1, H2.out.2, fun _ => ?_, fun h => by cases h⟩
            rw [HH.out.2.2.2.2.2.1 (by trivial), HA1.out]
            by_cases hNN : 1099511627776 < N
            · rw [if_pos (.inr (.inl hNN)), rdNumF_big hNN]
            rw [if_neg, if_neg HC5.out.1]
            rintro (h2 | h2 | ⟨h2, h3⟩)
            · have := HC5.out; omega
            · exact hNN h2
            · have := HC5.out; omega
          case measure =>
            have := HC5.out
            simp [intOf]; omega
theorem rf_take_any (w : World) (B R : HP) (gr : Nat) (bad : Bool) (l : List Int) (left : Int) (n : Nat) (x : Int) (hx : x = n) (h : RfAt w B R gr bad l left) :
    Calls Try.prog 38 #[.pointer (some ⟨gr, 0, none⟩), .int .i64 x] w fun e w' => ∃ (ro : Option Addr) (k rc : Nat) (zs : List Int) (bad' : Bool) (l' : List Int), e = .returned (.slice ro k rc) ∧ zs.length = k ∧ (∀ w', sat w' B → CellsAt w' ro (zs.map bv)) ∧ StepR (takeP l n) bad l (strOfNums zs) bad' l' ∧ RfAt w' B R gr bad' l' left ∧ Below 0 w w' := by
  refine (rf_take w B R gr bad l left n x hx h).mono ?_
  intro e w' hP
  unfold RtkPost at hP
  by_cases hc : bad = true ∨ l.length < n
  · rw [if_pos hc] at hP
    obtain ⟨rfl, h2, hb2⟩ := hP
    refine ⟨none, 0, 0, [], true, l, rfl, rfl, fun w' _ j u hj => by simp at hj, ⟨fun _ => rfl, fun hb => ?_, Nat.le_refl _⟩, h2, hb2⟩
    have hn : l.length < n := by
      rcases hc with h | h
      · rw [hb] at h; cases h
      · exact h
    unfold takeP
    rw [if_neg (by omega)]
  · rw [if_neg hc] at hP
    obtain ⟨ao, cap, rfl, hcx, h2, hb2⟩ := hP
    have hn : n ≤ l.length := by
      apply Nat.le_of_not_lt
      exact fun h => hc (.inr h)
    refine ⟨ao, n, cap, l.take n, false, l.drop n, rfl, by rw [List.length_take]; omega, hcx, ⟨fun hb => absurd (.inl hb) hc, fun _ => ?_, by rw [List.length_drop]; omega⟩, h2, hb2⟩
    unfold takeP
    rw [if_pos hn]
    exact ⟨rfl, rfl, rfl⟩
theorem rdSign_map (l : List Int) : rdSign l = (rdNumF 0 0 l).map fun r => (unzig r.1, r.2) := by
  unfold rdSign rdNum
  cases rdNumF 0 0 l with
  | none => rfl
  | some r => rfl
theorem rdText_bind (l : List Int) : rdText l = (rdNumF 0 0 l).bind fun r => takeP r.2 r.1.toNat := by
  unfold rdText rdNum
  cases rdNumF 0 0 l with
  | none => rfl
  | some r => rfl
set_option maxRecDepth 100000 in
set_option maxHeartbeats 2000000 in
theorem rf_signed (w : World) (B R : HP) (gr : Nat) (bad : Bool) (l : List Int) (left : Int) (h : RfAt w B R gr bad l left) :
    Calls Try.prog 41 #[.pointer (some ⟨gr, 0, none⟩)] w (RfnPost B R gr left (rdSign l) (-8796093022208) 8796093022208 bad l w) := by
  have hN := rf_num w B R gr bad l left h
  clear h
  go_enter Try.func41, Try.ntmps41
  go_wp2_with fail
  refine hN.mono ?_
  clear hN
  rintro e w2 ⟨x, bad', l', rfl, ⟨hx0, hx1⟩, hst, h2, hb2⟩
  have hst2 := hst.map unzig
  have H2 := Lib.hid (And.intro hst2 (And.intro h2 hb2))
  clear hst hst2 h2 hb2
  obtain ⟨p, hp⟩ : ∃ p : Int, x % 2 = p := ⟨_, rfl⟩
  obtain ⟨z, hz⟩ : ∃ z : Int, x / 2 = z := ⟨_, rfl⟩
  have m1 : x.tmod 2 = p := by rw [← hp]; exact Int.tmod_eq_emod_of_nonneg hx0
  have m2 : x.tdiv 2 = z := by rw [← hz]; exact Int.tdiv_eq_ediv_of_nonneg hx0
  have g1 : IntKind.i64.wrap p = p := IntWalk.i64_in _ (by omega)
  have g2 : IntKind.i64.wrap z = z := IntWalk.i64_in _ (by omega)
  by_cases h1 : p = 1
  · have e1 : (p == 1) = true := by rw [beq_iff_eq]; exact h1
    have g3 : IntKind.i64.wrap (-z) = -z := IntWalk.i64_in _ (by omega)
    have g4 : IntKind.i64.wrap (-z - 1) = -z - 1 := IntWalk.i64_in _ (by omega)
    have hu : unzig x = -z - 1 := by unfold unzig; rw [if_pos (by omega)]; omega
    have HU := Lib.hid (And.intro hu (And.intro hx0 (And.intro hx1 hz)))
    clear hu hx0 hx1 hp hz h1
    go_wp2_with fail
    go_ret
    refine ⟨-z - 1, bad', l', rfl, by have := HU.out; omega, ?_, H2.out.2.1, H2.out.2.2⟩
    rw [← HU.out.1, rdSign_map]
    exact H2.out.1
  · have e1 : (p == 1) = false := by rw [beq_eq_false_iff_ne]; exact h1
    have hu : unzig x = z := by unfold unzig; rw [if_neg (by omega)]; exact hz
    have HU := Lib.hid (And.intro hu (And.intro hx0 (And.intro hx1 hz)))
    clear hu hx0 hx1 hp hz h1
    go_wp2_with fail
    go_ret
    refine ⟨z, bad', l', rfl, by have := HU.out; omega, ?_, H2.out.2.1, H2.out.2.2⟩
    rw [← HU.out.1, rdSign_map]
    exact H2.out.1
set_option maxRecDepth 100000 in
set_option maxHeartbeats 2000000 in
theorem rf_bit (w : World) (B R : HP) (gr : Nat) (bad : Bool) (l : List Int) (left : Int) (h : RfAt w B R gr bad l left) :
    Calls Try.prog 40 #[.pointer (some ⟨gr, 0, none⟩)] w fun e w' => ∃ (x : Bool) (bad' : Bool) (l' : List Int), e = .returned (.bool x) ∧ StepR (rdBool l) bad l x bad' l' ∧ RfAt w' B R gr bad' l' left ∧ Below 0 w w' := by
  have hT := rf_take w B R gr bad l left 1 1 rfl h
  go_enter Try.func40, Try.ntmps40
  by_cases hc : bad = true ∨ l.length < 1
  · have HC := Lib.hid hc
    clear hc h
    go_wp2_with fail
    refine hT.mono ?_
    clear hT
    intro e w2 hP
    unfold RtkPost at hP
    rw [if_pos HC.out] at hP
    obtain ⟨rfl, h2, hb2⟩ := hP
    obtain ⟨c1, f1, hq⟩ := h2.bads
    have H2 := Lib.hid (And.intro (hq true) (hb2.setCell (p := ⟨gr, 1, none⟩) (Nat.zero_le _) (.bool true)))
    clear h2 hb2 hq
    go_wp2_with fail
    go_ret
    refine ⟨false, true, l, rfl, ⟨fun _ => rfl, fun hb => ?_, Nat.le_refl _⟩, H2.out.1, H2.out.2⟩
    have hl : l = [] := by
      rcases HC.out with h | h
      · rw [hb] at h; cases h
      · exact List.eq_nil_of_length_eq_zero (by omega)
    rw [hl]
    rfl
  · have hb0 : bad = false := by
      cases bad with
      | false => rfl
      | true => exact absurd (.inl rfl) hc
    subst hb0
    obtain ⟨v, l, rfl⟩ : ∃ v t, l = v :: t := by
      cases l with
      | nil => exact absurd (.inr (by decide)) hc
      | cons v t => exact ⟨v, t, rfl⟩
    have HC := Lib.hid hc
    clear hc h
    go_wp2_with fail
    refine hT.mono ?_
    clear hT
    intro e w2 hP
    unfold RtkPost at hP
    rw [if_neg HC.out] at hP
    simp only [List.take_succ_cons, List.take_zero, List.drop_succ_cons, List.drop_zero] at hP
    obtain ⟨ao, cap, rfl, hcx, h2, hb2⟩ := hP
    obtain ⟨a, rfl, hca⟩ := hcx w2 (h2.sub _ h2.fr) 0 (bv v) rfl
    rw [show a.add 0 = a by simp [Addr.add]] at hca
    obtain ⟨ab, ai, rfl⟩ : ∃ b o, a = ⟨b, o, none⟩ := ⟨_, _, dm_addr hca⟩
    obtain ⟨c1, f1, hq⟩ := h2.bads
    have H2 := Lib.hid (And.intro h2 hb2)
    have HQ := Lib.hid (And.intro (hq true) (hb2.setCell (p := ⟨gr, 1, none⟩) (Nat.zero_le _) (.bool true)))
    have hca2 : w2.cell? ⟨ab, ai, none⟩ = some (.int .u8 v) := hca
    clear h2 hb2 hcx hq hca
    by_cases hv : 1 < v
    · have e1 : decide (1 < v) = true := by rw [decide_eq_true_eq]; exact hv
      have e2 : decide (v > 1) = true := by rw [decide_eq_true_eq]; exact hv
      have HV := Lib.hid hv
      clear hv
      go_wp2_with fail
      go_ret
      refine ⟨false, true, l, rfl, ⟨fun _ => rfl, fun _ => ?_, by simp⟩, HQ.out.1, HQ.out.2⟩
      have e : rdBool (v :: l) = none := if_pos HV.out
      rw [e]
    · have e1 : decide (1 < v) = false := by rw [decide_eq_false_iff_not]; exact hv
      have e2 : decide (v > 1) = false := by rw [decide_eq_false_iff_not]; exact hv
      obtain ⟨t, ht⟩ : ∃ t, decide (v = 1) = t := ⟨_, rfl⟩
      have e3 : (v == 1) = t := by rw [← ht]; rfl
      have HV := Lib.hid (And.intro hv ht)
      clear hv ht
      go_wp2_with fail
      go_ret
      refine ⟨t, false, l, rfl, ⟨fun h => (by cases h), fun _ => ?_, by simp⟩, H2.out.1, H2.out.2⟩
      have e : rdBool (v :: l) = some (decide (v = 1), l) := if_neg (by have := HV.out.1; omega)
      rw [e, HV.out.2]
      exact ⟨rfl, rfl, rfl⟩
end Go.Proofs.Ytkjfplldfjmbaaa

/- The reference's reader of data: what is bad; kinds without parts. -/
namespace Go.Proofs.Ytkjfplldfjmbaaa
open Go.RowKit
/-- What the reference's reader of data leaves. -/
def RfdPost (B R : HP) (gr : Nat) (bad : Bool) (l : List Int) (o : Option (Dm × Int × List Int)) (w : World) (e : Ending) (w' : World) : Prop :=
  ∃ (v0 v1 v2 v3 v4 v5 v6 : Value) (bad' : Bool) (l' : List Int) (left' : Int) (M : HP), e = .returned (.agg #[v0, v1, v2, v3, v4, v5, v6]) ∧ (∀ u ∈ [v0, v1, v2, v3, v4, v5, v6], u.oneCell' = true) ∧ RfAt w' B (M * R) gr bad' l' left' ∧ Below 0 w w' ∧ l'.length ≤ l.length ∧ (bad = true → bad' = true) ∧
    (bad = false → match o with | none => bad' = true | some (d, q, t) => bad' = false ∧ l' = t ∧ left' = 20000 - q ∧ DK M d [v0, v1, v2, v3, v4, v5, v6])
def RfDatAt (deep : Nat) : Prop := ∀ (w : World) (B R : HP) (gr : Nat) (bad : Bool) (l : List Int) (left p : Int), RfAt w B R gr bad l left → (bad = false ∧ left = 20000 - p ∧ 0 ≤ p ∧ p ≤ 20000) → l.length ≤ 67108864 → ∀ dp : Int, dp = 101 - (deep : Int) →
  Calls Try.prog 42 #[.pointer (some ⟨gr, 0, none⟩), .int .i64 dp] w (RfdPost B R gr bad l (rdConst deep p l) w)
theorem RfAt.put7 {w : World} {B X : HP} {gr g : Nat} {bad : Bool} {l : List Int} {left : Int} (a0 a1 a2 a3 a4 a5 a6 : Value) (h : RfAt w B (blk g (dmO [.int .i64 0, .int .i64 0, .bool false, .slice none 0 0, .string ⟨#[]⟩, .slice none 0 0, .slice none 0 0]) * X) gr bad l left) (hX : ∀ w', sat w' X → sat w' B) :
    RfAt (((((((w.setCell ⟨g, 0, none⟩ a0).setCell ⟨g, 1, none⟩ a1).setCell ⟨g, 2, none⟩ a2).setCell ⟨g, 3, none⟩ a3).setCell ⟨g, 4, none⟩ a4).setCell ⟨g, 5, none⟩ a5).setCell ⟨g, 6, none⟩ a6) B X gr bad l left ∧
    (∀ w9, (((((((w.setCell ⟨g, 0, none⟩ a0).setCell ⟨g, 1, none⟩ a1).setCell ⟨g, 2, none⟩ a2).setCell ⟨g, 3, none⟩ a3).setCell ⟨g, 4, none⟩ a4).setCell ⟨g, 5, none⟩ a5).setCell ⟨g, 6, none⟩ a6) = w9 →
      w9.cell? ⟨g, 0, none⟩ = some a0 ∧ w9.cell? ⟨g, 1, none⟩ = some a1 ∧ w9.cell? ⟨g, 2, none⟩ = some a2 ∧ w9.cell? ⟨g, 3, none⟩ = some a3 ∧ w9.cell? ⟨g, 4, none⟩ = some a4 ∧ w9.cell? ⟨g, 5, none⟩ = some a5 ∧ w9.cell? ⟨g, 6, none⟩ = some a6) ∧
    Below 0 w (((((((w.setCell ⟨g, 0, none⟩ a0).setCell ⟨g, 1, none⟩ a1).setCell ⟨g, 2, none⟩ a2).setCell ⟨g, 3, none⟩ a3).setCell ⟨g, 4, none⟩ a4).setCell ⟨g, 5, none⟩ a5).setCell ⟨g, 6, none⟩ a6) := by
  have h9 := ((((((h.put 0 a0 hX).put 1 a1 hX).put 2 a2 hX).put 3 a3 hX).put 4 a4 hX).put 5 a5 hX).put 6 a6 hX
  refine ⟨h9.drop hX, ?_, (((((((Below.refl 0 w).setCell (p := ⟨g, 0, none⟩) (Nat.zero_le _) a0).setCell (p := ⟨g, 1, none⟩) (Nat.zero_le _) a1).setCell (p := ⟨g, 2, none⟩) (Nat.zero_le _) a2).setCell (p := ⟨g, 3, none⟩) (Nat.zero_le _) a3).setCell (p := ⟨g, 4, none⟩) (Nat.zero_le _) a4).setCell (p := ⟨g, 5, none⟩) (Nat.zero_le _) a5).setCell (p := ⟨g, 6, none⟩) (Nat.zero_le _) a6⟩
  intro w9 hw9
  rw [hw9] at h9
  obtain ⟨_, _, hs, _⟩ := h9
  exact cells7 hs.right
theorem DK.leaf {R : HP} {k n : Int} {s : ByteArray} (hk : -9223372036854775808 ≤ k ∧ k < 9223372036854775808) (hn : -9223372036854775808 ≤ n ∧ n < 9223372036854775808) :
    DK R (.mk k n false [] s [] []) [.int .i64 k, .int .i64 n, .bool false, .slice none 0 0, .string s, .slice none 0 0, .slice none 0 0] :=
  DK.mk (mag := []) (items := []) (rest := []) ⟨hk, hn⟩ (fun w _ j x hx => by simp at hx) (fun x hx => by simp at hx) ⟨Nat.le_refl _, Nat.le_refl _, Nat.le_refl _⟩ DKs.nil DKs.nil
set_option maxRecDepth 100000 in
set_option maxHeartbeats 8000000 in
theorem rfd_shut1 (w : World) (B R : HP) (gr : Nat) (bad : Bool) (l : List Int) (left : Int) (o : Option (Dm × Int × List Int)) (h : RfAt w B R gr bad l left) (hw : -9223372036854775808 ≤ left - 1 ∧ left - 1 ≤ 9223372036854775807) (dp : Int) (hc : left - 1 < 0) (hnone : bad = false → o = none) :
    Calls Try.prog 42 #[.pointer (some ⟨gr, 0, none⟩), .int .i64 dp] w (RfdPost B R gr bad l o w) := by
  have hB := h.sub
  have h1 := h.alloc (dmO [.int .i64 0, .int .i64 0, .bool false, .slice none 0 0, .string ⟨#[]⟩, .slice none 0 0, .slice none 0 0])
  have hb1 := Below.zero_alloc w (dmO [.int .i64 0, .int .i64 0, .bool false, .slice none 0 0, .string ⟨#[]⟩, .slice none 0 0, .slice none 0 0])
  obtain ⟨c1, f1, hq1⟩ := h1.lefts
  obtain ⟨left1, hl1⟩ : ∃ x, left - 1 = x := ⟨_, rfl⟩
  have h2 := hq1 left1
  have hb2 := hb1.setCell (p := ⟨gr, 2, none⟩) (Nat.zero_le _) (.int .i64 left1)
  have c2 := h2.lefts.1
  obtain ⟨g4, hg4⟩ : ∃ g, w.heap.size = g := ⟨_, rfl⟩
  rw [hg4] at h2
  obtain ⟨b1, b2, b3⟩ := h2.bads
  have h2b := b3 true
  have hb2b := hb2.setCell (p := ⟨gr, 1, none⟩) (Nat.zero_le _) (.bool true)
  have hN := rf_num _ _ _ gr true l left1 h2b
  have e2 : IntKind.i64.wrap (left - 1) = left1 := by rw [IntWalk.i64_in _ hw]; exact hl1
  have e1 : decide (left1 < 0) = true := by rw [decide_eq_true_eq]; omega
  have H0 := Lib.hid (And.intro hB (And.intro hb2b (And.intro hnone hc)))
  clear h h1 hb1 hq1 h2 hb2 hB hl1 hnone h2b hb2b b3 hc hw
  go_enter Try.func42, Try.ntmps42
  go_upto_region 1 with (fail)
  go_upto_region 4 with (fail)
  clear c1 f1 c2 b1 b2
  try rw [hg4]
  clear hg4
  generalize ((w.alloc (dmO [.int .i64 0, .int .i64 0, .bool false, .slice none 0 0, .string ⟨#[]⟩, .slice none 0 0, .slice none 0 0])).setCell ⟨gr, 2, none⟩ (.int .i64 left1)).setCell ⟨gr, 1, none⟩ (.bool true) = w2 at *
  go_wp2_with fail
  refine hN.mono ?_
  clear hN
  rintro e w3 ⟨x, bad', l', rfl, hxb, hst, h3, hb3⟩
  obtain rfl : bad' = true := hst.1 rfl
  have hll := hst.2.2
  clear hst hxb
  have h4 := h3.alloc (dmO [.int .i64 x, .int .i64 0, .bool false, .slice none 0 0, .string ⟨#[]⟩, .slice none 0 0, .slice none 0 0])
  have hb4 := (H0.out.2.1.trans hb3).trans (Below.zero_alloc w3 (dmO [.int .i64 x, .int .i64 0, .bool false, .slice none 0 0, .string ⟨#[]⟩, .slice none 0 0, .slice none 0 0]))
  obtain ⟨g5, hg5⟩ : ∃ g, w3.heap.size = g := ⟨_, rfl⟩
  rw [hg5] at h4
  have c5 := h4.bads.1
  have H4 := Lib.hid (And.intro h4 (And.intro hb4 hll))
  clear h3 hb3 h4 hb4 hll
  go_upto_region 5 with (fail)
  try rw [hg5]
  clear hg5
  generalize w3.alloc (dmO [.int .i64 x, .int .i64 0, .bool false, .slice none 0 0, .string ⟨#[]⟩, .slice none 0 0, .slice none 0 0]) = w4 at *
  go_upto_region 6 with (fail)
  have hMB : ∀ w', sat w' (R) → sat w' B := H0.out.1
  have hE : RfAt w4 B (blk g5 (dmO [.int .i64 x, .int .i64 0, .bool false, .slice none 0 0, .string ⟨#[]⟩, .slice none 0 0, .slice none 0 0]) * (blk g4 (dmO [.int .i64 0, .int .i64 0, .bool false, .slice none 0 0, .string ⟨#[]⟩, .slice none 0 0, .slice none 0 0]) * (R))) gr true l' left1 := H4.out.1
  have hsE := hE.fr
  obtain ⟨⟨d0, d1, d2, d3, d4, d5, d6⟩, ⟨z0, z1, z2, z3, z4, z5, z6⟩, y0, y1, y2, y3, y4, y5, y6⟩ := fin_cells hsE
  have hE2 : RfAt _ B (blk g4 (dmO [.int .i64 0, .int .i64 0, .bool false, .slice none 0 0, .string ⟨#[]⟩, .slice none 0 0, .slice none 0 0]) * (R)) gr true l' left1 := hE.drop (fun w' h => hMB w' h.right)
  obtain ⟨hF, hC, hbF⟩ := hE2.put7 (.int .i64 x) (.int .i64 0) (.bool false) (.slice none 0 0) (.string ⟨#[]⟩) (.slice none 0 0) (.slice none 0 0) hMB
  have HT := Lib.hid (And.intro hF (And.intro hC ((H4.out.2.1).trans hbF)))
  clear hE hsE hE2 hF hC hbF hMB
  go_wp2_with fail
  obtain ⟨r0, r1, r2, r3, r4, r5, r6⟩ := HT.out.2.1 _ rfl
  refine bodyPost_ret (v := .agg #[.int .i64 x, .int .i64 0, .bool false, .slice none 0 0, .string ⟨#[]⟩, .slice none 0 0, .slice none 0 0]) (by simp [results, Try.results42, go_sem, r0, r1, r2, r3, r4, r5, r6]) rfl ?_
  exact ⟨_, _, _, _, _, _, _, true, l', left1, emp, rfl, (by intro u hu; simp at hu; rcases hu with rfl | rfl | rfl | rfl | rfl | rfl | rfl <;> rfl), HT.out.1.perm (by rw [HP.emp_mul]), HT.out.2.2, H4.out.2.2, fun _ => rfl, fun h => by rw [H0.out.2.2.1 h]⟩
set_option maxRecDepth 100000 in
set_option maxHeartbeats 8000000 in
theorem rfd_shut2 (w : World) (B R : HP) (gr : Nat) (bad : Bool) (l : List Int) (left : Int) (o : Option (Dm × Int × List Int)) (h : RfAt w B R gr bad l left) (hw : -9223372036854775808 ≤ left - 1 ∧ left - 1 ≤ 9223372036854775807) (dp : Int) (hc : ¬ left - 1 < 0 ∧ 100 < dp) (hnone : bad = false → o = none) :
    Calls Try.prog 42 #[.pointer (some ⟨gr, 0, none⟩), .int .i64 dp] w (RfdPost B R gr bad l o w) := by
  have hB := h.sub
  have h1 := h.alloc (dmO [.int .i64 0, .int .i64 0, .bool false, .slice none 0 0, .string ⟨#[]⟩, .slice none 0 0, .slice none 0 0])
  have hb1 := Below.zero_alloc w (dmO [.int .i64 0, .int .i64 0, .bool false, .slice none 0 0, .string ⟨#[]⟩, .slice none 0 0, .slice none 0 0])
  obtain ⟨c1, f1, hq1⟩ := h1.lefts
  obtain ⟨left1, hl1⟩ : ∃ x, left - 1 = x := ⟨_, rfl⟩
  have h2 := hq1 left1
  have hb2 := hb1.setCell (p := ⟨gr, 2, none⟩) (Nat.zero_le _) (.int .i64 left1)
  have c2 := h2.lefts.1
  obtain ⟨g4, hg4⟩ : ∃ g, w.heap.size = g := ⟨_, rfl⟩
  rw [hg4] at h2
  obtain ⟨b1, b2, b3⟩ := h2.bads
  have h2b := b3 true
  have hb2b := hb2.setCell (p := ⟨gr, 1, none⟩) (Nat.zero_le _) (.bool true)
  have hN := rf_num _ _ _ gr true l left1 h2b
  have e2 : IntKind.i64.wrap (left - 1) = left1 := by rw [IntWalk.i64_in _ hw]; exact hl1
  have e1 : decide (left1 < 0) = false := by rw [decide_eq_false_iff_not]; omega
  have e3 : decide (dp > 100) = true := by rw [decide_eq_true_eq]; omega
  have e4 : decide (100 < dp) = true := by rw [decide_eq_true_eq]; omega
  have H0 := Lib.hid (And.intro hB (And.intro hb2b (And.intro hnone hc)))
  clear h h1 hb1 hq1 h2 hb2 hB hl1 hnone h2b hb2b b3 hc hw
  go_enter Try.func42, Try.ntmps42
  go_upto_region 1 with (fail)
  go_upto_region 4 with (fail)
  clear c1 f1 c2 b1 b2
  try rw [hg4]
  clear hg4
  generalize ((w.alloc (dmO [.int .i64 0, .int .i64 0, .bool false, .slice none 0 0, .string ⟨#[]⟩, .slice none 0 0, .slice none 0 0])).setCell ⟨gr, 2, none⟩ (.int .i64 left1)).setCell ⟨gr, 1, none⟩ (.bool true) = w2 at *
  go_wp2_with fail
  refine hN.mono ?_
  clear hN
  rintro e w3 ⟨x, bad', l', rfl, hxb, hst, h3, hb3⟩
  obtain rfl : bad' = true := hst.1 rfl
  have hll := hst.2.2
  clear hst hxb
  have h4 := h3.alloc (dmO [.int .i64 x, .int .i64 0, .bool false, .slice none 0 0, .string ⟨#[]⟩, .slice none 0 0, .slice none 0 0])
  have hb4 := (H0.out.2.1.trans hb3).trans (Below.zero_alloc w3 (dmO [.int .i64 x, .int .i64 0, .bool false, .slice none 0 0, .string ⟨#[]⟩, .slice none 0 0, .slice none 0 0]))
  obtain ⟨g5, hg5⟩ : ∃ g, w3.heap.size = g := ⟨_, rfl⟩
  rw [hg5] at h4
  have c5 := h4.bads.1
  have H4 := Lib.hid (And.intro h4 (And.intro hb4 hll))
  clear h3 hb3 h4 hb4 hll
  go_upto_region 5 with (fail)
  try rw [hg5]
  clear hg5
  generalize w3.alloc (dmO [.int .i64 x, .int .i64 0, .bool false, .slice none 0 0, .string ⟨#[]⟩, .slice none 0 0, .slice none 0 0]) = w4 at *
  go_upto_region 6 with (fail)
  have hMB : ∀ w', sat w' (R) → sat w' B := H0.out.1
  have hE : RfAt w4 B (blk g5 (dmO [.int .i64 x, .int .i64 0, .bool false, .slice none 0 0, .string ⟨#[]⟩, .slice none 0 0, .slice none 0 0]) * (blk g4 (dmO [.int .i64 0, .int .i64 0, .bool false, .slice none 0 0, .string ⟨#[]⟩, .slice none 0 0, .slice none 0 0]) * (R))) gr true l' left1 := H4.out.1
  have hsE := hE.fr
  obtain ⟨⟨d0, d1, d2, d3, d4, d5, d6⟩, ⟨z0, z1, z2, z3, z4, z5, z6⟩, y0, y1, y2, y3, y4, y5, y6⟩ := fin_cells hsE
  have hE2 : RfAt _ B (blk g4 (dmO [.int .i64 0, .int .i64 0, .bool false, .slice none 0 0, .string ⟨#[]⟩, .slice none 0 0, .slice none 0 0]) * (R)) gr true l' left1 := hE.drop (fun w' h => hMB w' h.right)
  obtain ⟨hF, hC, hbF⟩ := hE2.put7 (.int .i64 x) (.int .i64 0) (.bool false) (.slice none 0 0) (.string ⟨#[]⟩) (.slice none 0 0) (.slice none 0 0) hMB
  have HT := Lib.hid (And.intro hF (And.intro hC ((H4.out.2.1).trans hbF)))
  clear hE hsE hE2 hF hC hbF hMB
  go_wp2_with fail
  obtain ⟨r0, r1, r2, r3, r4, r5, r6⟩ := HT.out.2.1 _ rfl
  refine bodyPost_ret (v := .agg #[.int .i64 x, .int .i64 0, .bool false, .slice none 0 0, .string ⟨#[]⟩, .slice none 0 0, .slice none 0 0]) (by simp [results, Try.results42, go_sem, r0, r1, r2, r3, r4, r5, r6]) rfl ?_
  exact ⟨_, _, _, _, _, _, _, true, l', left1, emp, rfl, (by intro u hu; simp at hu; rcases hu with rfl | rfl | rfl | rfl | rfl | rfl | rfl <;> rfl), HT.out.1.perm (by rw [HP.emp_mul]), HT.out.2.2, H4.out.2.2, fun _ => rfl, fun h => by rw [H0.out.2.2.1 h]⟩
set_option maxRecDepth 100000 in
set_option maxHeartbeats 8000000 in
theorem rfd_shut3 (w : World) (B R : HP) (gr : Nat) (bad : Bool) (l : List Int) (left : Int) (o : Option (Dm × Int × List Int)) (h : RfAt w B R gr bad l left) (hw : -9223372036854775808 ≤ left - 1 ∧ left - 1 ≤ 9223372036854775807) (dp : Int) (hc : ¬ left - 1 < 0 ∧ ¬ 100 < dp) (hno : bad = true ∨ rdNumF 0 0 l = none) (hnone : bad = false → o = none) :
    Calls Try.prog 42 #[.pointer (some ⟨gr, 0, none⟩), .int .i64 dp] w (RfdPost B R gr bad l o w) := by
  have hB := h.sub
  have h1 := h.alloc (dmO [.int .i64 0, .int .i64 0, .bool false, .slice none 0 0, .string ⟨#[]⟩, .slice none 0 0, .slice none 0 0])
  have hb1 := Below.zero_alloc w (dmO [.int .i64 0, .int .i64 0, .bool false, .slice none 0 0, .string ⟨#[]⟩, .slice none 0 0, .slice none 0 0])
  obtain ⟨c1, f1, hq1⟩ := h1.lefts
  obtain ⟨left1, hl1⟩ : ∃ x, left - 1 = x := ⟨_, rfl⟩
  have h2 := hq1 left1
  have hb2 := hb1.setCell (p := ⟨gr, 2, none⟩) (Nat.zero_le _) (.int .i64 left1)
  have c2 := h2.lefts.1
  obtain ⟨g4, hg4⟩ : ∃ g, w.heap.size = g := ⟨_, rfl⟩
  rw [hg4] at h2
  have hN := rf_num _ _ _ gr bad l left1 h2
  have e2 : IntKind.i64.wrap (left - 1) = left1 := by rw [IntWalk.i64_in _ hw]; exact hl1
  have e1 : decide (left1 < 0) = false := by rw [decide_eq_false_iff_not]; omega
  have e3 : decide (dp > 100) = false := by rw [decide_eq_false_iff_not]; omega
  have e4 : decide (100 < dp) = false := by rw [decide_eq_false_iff_not]; omega
  have H0 := Lib.hid (And.intro hB (And.intro hb2 (And.intro hnone hno)))
  clear h h1 hb1 hq1 h2 hb2 hB hl1 hnone hc hno hw
  go_enter Try.func42, Try.ntmps42
  go_upto_region 1 with (fail)
  go_upto_region 4 with (fail)
  clear c1 f1 c2
  try rw [hg4]
  clear hg4
  generalize ((w.alloc (dmO [.int .i64 0, .int .i64 0, .bool false, .slice none 0 0, .string ⟨#[]⟩, .slice none 0 0, .slice none 0 0])).setCell ⟨gr, 2, none⟩ (.int .i64 left1)) = w2 at *
  go_wp2_with fail
  refine hN.mono ?_
  clear hN
  rintro e w3 ⟨x, bad', l', rfl, hxb, hst, h3, hb3⟩
  obtain rfl : bad' = true := by
    rcases H0.out.2.2.2 with h | h
    · exact hst.1 h
    · cases bad with
      | true => exact hst.1 rfl
      | false => have := hst.2.1 rfl; rw [h] at this; exact this
  have hll := hst.2.2
  clear hst hxb
  have h4 := h3.alloc (dmO [.int .i64 x, .int .i64 0, .bool false, .slice none 0 0, .string ⟨#[]⟩, .slice none 0 0, .slice none 0 0])
  have hb4 := (H0.out.2.1.trans hb3).trans (Below.zero_alloc w3 (dmO [.int .i64 x, .int .i64 0, .bool false, .slice none 0 0, .string ⟨#[]⟩, .slice none 0 0, .slice none 0 0]))
  obtain ⟨g5, hg5⟩ : ∃ g, w3.heap.size = g := ⟨_, rfl⟩
  rw [hg5] at h4
  have c5 := h4.bads.1
  have H4 := Lib.hid (And.intro h4 (And.intro hb4 hll))
  clear h3 hb3 h4 hb4 hll
  go_upto_region 5 with (fail)
  try rw [hg5]
  clear hg5
  generalize w3.alloc (dmO [.int .i64 x, .int .i64 0, .bool false, .slice none 0 0, .string ⟨#[]⟩, .slice none 0 0, .slice none 0 0]) = w4 at *
  go_upto_region 6 with (fail)
  have hMB : ∀ w', sat w' (R) → sat w' B := H0.out.1
  have hE : RfAt w4 B (blk g5 (dmO [.int .i64 x, .int .i64 0, .bool false, .slice none 0 0, .string ⟨#[]⟩, .slice none 0 0, .slice none 0 0]) * (blk g4 (dmO [.int .i64 0, .int .i64 0, .bool false, .slice none 0 0, .string ⟨#[]⟩, .slice none 0 0, .slice none 0 0]) * (R))) gr true l' left1 := H4.out.1
  have hsE := hE.fr
  obtain ⟨⟨d0, d1, d2, d3, d4, d5, d6⟩, ⟨z0, z1, z2, z3, z4, z5, z6⟩, y0, y1, y2, y3, y4, y5, y6⟩ := fin_cells hsE
  have hE2 : RfAt _ B (blk g4 (dmO [.int .i64 0, .int .i64 0, .bool false, .slice none 0 0, .string ⟨#[]⟩, .slice none 0 0, .slice none 0 0]) * (R)) gr true l' left1 := hE.drop (fun w' h => hMB w' h.right)
  obtain ⟨hF, hC, hbF⟩ := hE2.put7 (.int .i64 x) (.int .i64 0) (.bool false) (.slice none 0 0) (.string ⟨#[]⟩) (.slice none 0 0) (.slice none 0 0) hMB
  have HT := Lib.hid (And.intro hF (And.intro hC ((H4.out.2.1).trans hbF)))
  clear hE hsE hE2 hF hC hbF hMB
  go_wp2_with fail
  obtain ⟨r0, r1, r2, r3, r4, r5, r6⟩ := HT.out.2.1 _ rfl
  refine bodyPost_ret (v := .agg #[.int .i64 x, .int .i64 0, .bool false, .slice none 0 0, .string ⟨#[]⟩, .slice none 0 0, .slice none 0 0]) (by simp [results, Try.results42, go_sem, r0, r1, r2, r3, r4, r5, r6]) rfl ?_
  exact ⟨_, _, _, _, _, _, _, true, l', left1, emp, rfl, (by intro u hu; simp at hu; rcases hu with rfl | rfl | rfl | rfl | rfl | rfl | rfl <;> rfl), HT.out.1.perm (by rw [HP.emp_mul]), HT.out.2.2, H4.out.2.2, fun _ => rfl, fun h => by rw [H0.out.2.2.1 h]⟩
set_option maxRecDepth 100000 in
set_option maxHeartbeats 8000000 in
theorem rfd_k2 (deep : Nat) (w : World) (B R : HP) (gr : Nat) (l : List Int) (left : Int) (h : RfAt w B R gr false l left) (p : Int) (hp : left = 20000 - p ∧ 0 ≤ p ∧ p ≤ 20000) (hl : l.length ≤ 67108864) (hp1 : ¬ 20000 < p + 1) (k : Int) (l1 : List Int) (hn : rdNumF 0 0 l = some (k, l1)) (hk : k = 2) (dp : Int) (hdp : dp = 101 - ((deep + 1 : Nat) : Int)) (hdb : deep ≤ 100) :
    Calls Try.prog 42 #[.pointer (some ⟨gr, 0, none⟩), .int .i64 dp] w (RfdPost B R gr false l (rdConst (deep + 1) p l) w) := by
  have hB := h.sub
  have h1 := h.alloc (dmO [.int .i64 0, .int .i64 0, .bool false, .slice none 0 0, .string ⟨#[]⟩, .slice none 0 0, .slice none 0 0])
  have hb1 := Below.zero_alloc w (dmO [.int .i64 0, .int .i64 0, .bool false, .slice none 0 0, .string ⟨#[]⟩, .slice none 0 0, .slice none 0 0])
  obtain ⟨c1, f1, hq1⟩ := h1.lefts
  obtain ⟨left1, hl1⟩ : ∃ x, left - 1 = x := ⟨_, rfl⟩
  have h2 := hq1 left1
  have hb2 := hb1.setCell (p := ⟨gr, 2, none⟩) (Nat.zero_le _) (.int .i64 left1)
  have c2 := h2.lefts.1
  obtain ⟨g4, hg4⟩ : ∃ g, w.heap.size = g := ⟨_, rfl⟩
  rw [hg4] at h2
  have hN := rf_num _ _ _ gr false l left1 h2
  have hkb := rdNumF_bd l 0 0 k l1 hn
  have hre : rdConst (deep + 1) p l = (match rdSign l1 with | none => none | some (n, l2) => some (.mk 2 n false [] noT [] [], p + 1, l2)) := by subst hk; simp only [rdConst, if_neg hp1, show rdNum l = some (2, l1) from hn]; rfl
  have e1 : decide (left1 < 0) = false := by rw [decide_eq_false_iff_not]; omega
  have e3 : decide (dp > 100) = false := by rw [decide_eq_false_iff_not]; omega
  have e4 : decide (100 < dp) = false := by rw [decide_eq_false_iff_not]; omega
  have e2 : IntKind.i64.wrap (left - 1) = left1 := by rw [IntWalk.i64_in _ (by omega)]; exact hl1
  obtain ⟨o, ho⟩ : ∃ o, rdConst (deep + 1) p l = o := ⟨_, rfl⟩
  rw [ho]
  have HO := Lib.hid (ho.symm.trans hre)
  clear ho
  have H0 := Lib.hid (And.intro hB (And.intro hb2 (And.intro hkb (And.intro hdp (And.intro hdb (And.intro hp (And.intro hl (And.intro hl1 hn))))))))
  have HP1 := Lib.hid hp1
  have HK := Lib.hid hk
  clear hk h h1 hb1 hq1 h2 hb2 hn hkb hre hB hdp hdb hp hl hp1 hl1
  go_enter Try.func42, Try.ntmps42
  go_upto_region 1 with (fail)
  go_upto_region 2 with (fail)
  clear c1 f1
  try rw [hg4]
  clear hg4
  generalize (w.alloc (dmO [.int .i64 0, .int .i64 0, .bool false, .slice none 0 0, .string ⟨#[]⟩, .slice none 0 0, .slice none 0 0])).setCell ⟨gr, 2, none⟩ (.int .i64 left1) = w2 at *
  go_wp2_with fail
  refine hN.mono ?_
  clear hN c2
  rintro e w3 ⟨x, bad', l', rfl, hxb, hst, h3, hb3⟩
  have hst2 := hst.2.1 rfl
  rw [H0.out.2.2.2.2.2.2.2.2] at hst2
  obtain ⟨rfl, rfl, rfl⟩ := hst2
  clear hst hxb
  have h4 := h3.alloc (dmO [.int .i64 x, .int .i64 0, .bool false, .slice none 0 0, .string ⟨#[]⟩, .slice none 0 0, .slice none 0 0])
  have hb4 := (H0.out.2.1.trans hb3).trans (Below.zero_alloc w3 (dmO [.int .i64 x, .int .i64 0, .bool false, .slice none 0 0, .string ⟨#[]⟩, .slice none 0 0, .slice none 0 0]))
  obtain ⟨g5, hg5⟩ : ∃ g, w3.heap.size = g := ⟨_, rfl⟩
  rw [hg5] at h4
  have c0 := ((show sat _ _ from h4.fr).left.cell 0).trans (show _ = some (Value.int .i64 x) from rfl)
  have c5 := h4.bads.1
  have H4 := Lib.hid (And.intro h4 hb4)
  clear h3 hb3 h4 hb4
  go_upto_region 5 with (fail)
  try rw [hg5]
  clear hg5
  generalize w3.alloc (dmO [.int .i64 x, .int .i64 0, .bool false, .slice none 0 0, .string ⟨#[]⟩, .slice none 0 0, .slice none 0 0]) = w4 at *
  obtain rfl : x = 2 := HK.out
  have hS := rf_signed w4 B _ gr false l' left1 H4.out.1
  go_wp2_with fail
  refine hS.mono ?_
  clear hS c0 c5
  rintro e w5 ⟨y, bad5, l5, rfl, hyb, hst, h5, hb5⟩
  have f1 := h5.fr.left.frozen 1
  have d1 := (h5.fr.left.cell 1).trans (show _ = some (Value.int .i64 0) from rfl)
  have h6 := h5.put 1 (.int .i64 y) (fun w' h => H0.out.1 w' h.right)
  have hb6 := (H4.out.2.trans hb5).setCell (p := ⟨g5, 1, none⟩) (Nat.zero_le _) (.int .i64 y)
  have H6 := Lib.hid (And.intro h6 (And.intro hb6 (And.intro hst hyb)))
  clear h5 hb5 h6 hb6 hst hyb
  go_upto_region 42 with (fail)
  clear f1 d1
  generalize w5.setCell ⟨g5, 1, none⟩ (.int .i64 y) = w6 at *
  have hMB : ∀ w', sat w' (R) → sat w' B := H0.out.1
  have hE : RfAt w6 B (blk g5 (dmO [.int .i64 2, .int .i64 y, .bool false, .slice none 0 0, .string ⟨#[]⟩, .slice none 0 0, .slice none 0 0]) * (blk g4 (dmO [.int .i64 0, .int .i64 0, .bool false, .slice none 0 0, .string ⟨#[]⟩, .slice none 0 0, .slice none 0 0]) * (R))) gr bad5 l5 left1 := H6.out.1
  have hsE := hE.fr
  obtain ⟨⟨d0, d1, d2, d3, d4, d5, d6⟩, ⟨z0, z1, z2, z3, z4, z5, z6⟩, y0, y1, y2, y3, y4, y5, y6⟩ := fin_cells hsE
  have hE2 : RfAt _ B (blk g4 (dmO [.int .i64 0, .int .i64 0, .bool false, .slice none 0 0, .string ⟨#[]⟩, .slice none 0 0, .slice none 0 0]) * (R)) gr bad5 l5 left1 := hE.drop (fun w' h => hMB w' h.right)
  obtain ⟨hF, hC, hbF⟩ := hE2.put7 (.int .i64 2) (.int .i64 y) (.bool false) (.slice none 0 0) (.string ⟨#[]⟩) (.slice none 0 0) (.slice none 0 0) hMB
  have HT := Lib.hid (And.intro hF (And.intro hC ((H6.out.2.1).trans hbF)))
  clear hE hsE hE2 hF hC hbF hMB
  go_wp2_with fail
  obtain ⟨r0, r1, r2, r3, r4, r5, r6⟩ := HT.out.2.1 _ rfl
  refine bodyPost_ret (v := .agg #[.int .i64 2, .int .i64 y, .bool false, .slice none 0 0, .string ⟨#[]⟩, .slice none 0 0, .slice none 0 0]) (by simp [results, Try.results42, go_sem, r0, r1, r2, r3, r4, r5, r6]) rfl ?_
  refine ⟨_, _, _, _, _, _, _, bad5, l5, left1, emp, rfl, (by intro u hu; simp at hu; rcases hu with rfl | rfl | rfl | rfl | rfl | rfl | rfl <;> rfl), HT.out.1.perm (by rw [HP.emp_mul]), HT.out.2.2, ?_, fun h => (by cases h), fun _ => ?_⟩
  · have := H6.out.2.2.1.2.2; have := H0.out.2.2.1; omega
  rw [HO.out]
  have hs := H6.out.2.2.1.2.1 rfl
  cases hc : rdSign l' with
  | none => rw [hc] at hs; exact hs
  | some r =>
    obtain ⟨n, t⟩ := r
    rw [hc] at hs
    obtain ⟨s1, rfl, rfl⟩ := hs
    exact ⟨s1, rfl, by have := H0.out.2.2.2.2.2; omega, DK.leaf (by decide) (by have := H6.out.2.2.2; omega)⟩
set_option maxRecDepth 100000 in
set_option maxHeartbeats 8000000 in
theorem rfd_k3 (deep : Nat) (w : World) (B R : HP) (gr : Nat) (l : List Int) (left : Int) (h : RfAt w B R gr false l left) (p : Int) (hp : left = 20000 - p ∧ 0 ≤ p ∧ p ≤ 20000) (hl : l.length ≤ 67108864) (hp1 : ¬ 20000 < p + 1) (k : Int) (l1 : List Int) (hn : rdNumF 0 0 l = some (k, l1)) (hk : k = 3) (dp : Int) (hdp : dp = 101 - ((deep + 1 : Nat) : Int)) (hdb : deep ≤ 100) :
    Calls Try.prog 42 #[.pointer (some ⟨gr, 0, none⟩), .int .i64 dp] w (RfdPost B R gr false l (rdConst (deep + 1) p l) w) := by
  have hB := h.sub
  have h1 := h.alloc (dmO [.int .i64 0, .int .i64 0, .bool false, .slice none 0 0, .string ⟨#[]⟩, .slice none 0 0, .slice none 0 0])
  have hb1 := Below.zero_alloc w (dmO [.int .i64 0, .int .i64 0, .bool false, .slice none 0 0, .string ⟨#[]⟩, .slice none 0 0, .slice none 0 0])
  obtain ⟨c1, f1, hq1⟩ := h1.lefts
  obtain ⟨left1, hl1⟩ : ∃ x, left - 1 = x := ⟨_, rfl⟩
  have h2 := hq1 left1
  have hb2 := hb1.setCell (p := ⟨gr, 2, none⟩) (Nat.zero_le _) (.int .i64 left1)
  have c2 := h2.lefts.1
  obtain ⟨g4, hg4⟩ : ∃ g, w.heap.size = g := ⟨_, rfl⟩
  rw [hg4] at h2
  have hN := rf_num _ _ _ gr false l left1 h2
  have hkb := rdNumF_bd l 0 0 k l1 hn
  have hre : rdConst (deep + 1) p l = (match rdSign l1 with | none => none | some (n, l2) => some (.mk 3 n false [] noT [] [], p + 1, l2)) := by subst hk; simp only [rdConst, if_neg hp1, show rdNum l = some (3, l1) from hn]; rfl
  have e1 : decide (left1 < 0) = false := by rw [decide_eq_false_iff_not]; omega
  have e3 : decide (dp > 100) = false := by rw [decide_eq_false_iff_not]; omega
  have e4 : decide (100 < dp) = false := by rw [decide_eq_false_iff_not]; omega
  have e2 : IntKind.i64.wrap (left - 1) = left1 := by rw [IntWalk.i64_in _ (by omega)]; exact hl1
  obtain ⟨o, ho⟩ : ∃ o, rdConst (deep + 1) p l = o := ⟨_, rfl⟩
  rw [ho]
  have HO := Lib.hid (ho.symm.trans hre)
  clear ho
  have H0 := Lib.hid (And.intro hB (And.intro hb2 (And.intro hkb (And.intro hdp (And.intro hdb (And.intro hp (And.intro hl (And.intro hl1 hn))))))))
  have HP1 := Lib.hid hp1
  have HK := Lib.hid hk
  clear hk h h1 hb1 hq1 h2 hb2 hn hkb hre hB hdp hdb hp hl hp1 hl1
  go_enter Try.func42, Try.ntmps42
  go_upto_region 1 with (fail)
  go_upto_region 2 with (fail)
  clear c1 f1
  try rw [hg4]
  clear hg4
  generalize (w.alloc (dmO [.int .i64 0, .int .i64 0, .bool false, .slice none 0 0, .string ⟨#[]⟩, .slice none 0 0, .slice none 0 0])).setCell ⟨gr, 2, none⟩ (.int .i64 left1) = w2 at *
  go_wp2_with fail
  refine hN.mono ?_
  clear hN c2
  rintro e w3 ⟨x, bad', l', rfl, hxb, hst, h3, hb3⟩
  have hst2 := hst.2.1 rfl
  rw [H0.out.2.2.2.2.2.2.2.2] at hst2
  obtain ⟨rfl, rfl, rfl⟩ := hst2
  clear hst hxb
  have h4 := h3.alloc (dmO [.int .i64 x, .int .i64 0, .bool false, .slice none 0 0, .string ⟨#[]⟩, .slice none 0 0, .slice none 0 0])
  have hb4 := (H0.out.2.1.trans hb3).trans (Below.zero_alloc w3 (dmO [.int .i64 x, .int .i64 0, .bool false, .slice none 0 0, .string ⟨#[]⟩, .slice none 0 0, .slice none 0 0]))
  obtain ⟨g5, hg5⟩ : ∃ g, w3.heap.size = g := ⟨_, rfl⟩
  rw [hg5] at h4
  have c0 := ((show sat _ _ from h4.fr).left.cell 0).trans (show _ = some (Value.int .i64 x) from rfl)
  have c5 := h4.bads.1
  have H4 := Lib.hid (And.intro h4 hb4)
  clear h3 hb3 h4 hb4
  go_upto_region 5 with (fail)
  try rw [hg5]
  clear hg5
  generalize w3.alloc (dmO [.int .i64 x, .int .i64 0, .bool false, .slice none 0 0, .string ⟨#[]⟩, .slice none 0 0, .slice none 0 0]) = w4 at *
  obtain rfl : x = 3 := HK.out
  have hS := rf_signed w4 B _ gr false l' left1 H4.out.1
  go_wp2_with fail
  refine hS.mono ?_
  clear hS c0 c5
  rintro e w5 ⟨y, bad5, l5, rfl, hyb, hst, h5, hb5⟩
  have f1 := h5.fr.left.frozen 1
  have d1 := (h5.fr.left.cell 1).trans (show _ = some (Value.int .i64 0) from rfl)
  have h6 := h5.put 1 (.int .i64 y) (fun w' h => H0.out.1 w' h.right)
  have hb6 := (H4.out.2.trans hb5).setCell (p := ⟨g5, 1, none⟩) (Nat.zero_le _) (.int .i64 y)
  have H6 := Lib.hid (And.intro h6 (And.intro hb6 (And.intro hst hyb)))
  clear h5 hb5 h6 hb6 hst hyb
  go_upto_region 42 with (fail)
  clear f1 d1
  generalize w5.setCell ⟨g5, 1, none⟩ (.int .i64 y) = w6 at *
  have hMB : ∀ w', sat w' (R) → sat w' B := H0.out.1
  have hE : RfAt w6 B (blk g5 (dmO [.int .i64 3, .int .i64 y, .bool false, .slice none 0 0, .string ⟨#[]⟩, .slice none 0 0, .slice none 0 0]) * (blk g4 (dmO [.int .i64 0, .int .i64 0, .bool false, .slice none 0 0, .string ⟨#[]⟩, .slice none 0 0, .slice none 0 0]) * (R))) gr bad5 l5 left1 := H6.out.1
  have hsE := hE.fr
  obtain ⟨⟨d0, d1, d2, d3, d4, d5, d6⟩, ⟨z0, z1, z2, z3, z4, z5, z6⟩, y0, y1, y2, y3, y4, y5, y6⟩ := fin_cells hsE
  have hE2 : RfAt _ B (blk g4 (dmO [.int .i64 0, .int .i64 0, .bool false, .slice none 0 0, .string ⟨#[]⟩, .slice none 0 0, .slice none 0 0]) * (R)) gr bad5 l5 left1 := hE.drop (fun w' h => hMB w' h.right)
  obtain ⟨hF, hC, hbF⟩ := hE2.put7 (.int .i64 3) (.int .i64 y) (.bool false) (.slice none 0 0) (.string ⟨#[]⟩) (.slice none 0 0) (.slice none 0 0) hMB
  have HT := Lib.hid (And.intro hF (And.intro hC ((H6.out.2.1).trans hbF)))
  clear hE hsE hE2 hF hC hbF hMB
  go_wp2_with fail
  obtain ⟨r0, r1, r2, r3, r4, r5, r6⟩ := HT.out.2.1 _ rfl
  refine bodyPost_ret (v := .agg #[.int .i64 3, .int .i64 y, .bool false, .slice none 0 0, .string ⟨#[]⟩, .slice none 0 0, .slice none 0 0]) (by simp [results, Try.results42, go_sem, r0, r1, r2, r3, r4, r5, r6]) rfl ?_
  refine ⟨_, _, _, _, _, _, _, bad5, l5, left1, emp, rfl, (by intro u hu; simp at hu; rcases hu with rfl | rfl | rfl | rfl | rfl | rfl | rfl <;> rfl), HT.out.1.perm (by rw [HP.emp_mul]), HT.out.2.2, ?_, fun h => (by cases h), fun _ => ?_⟩
  · have := H6.out.2.2.1.2.2; have := H0.out.2.2.1; omega
  rw [HO.out]
  have hs := H6.out.2.2.1.2.1 rfl
  cases hc : rdSign l' with
  | none => rw [hc] at hs; exact hs
  | some r =>
    obtain ⟨n, t⟩ := r
    rw [hc] at hs
    obtain ⟨s1, rfl, rfl⟩ := hs
    exact ⟨s1, rfl, by have := H0.out.2.2.2.2.2; omega, DK.leaf (by decide) (by have := H6.out.2.2.2; omega)⟩
set_option maxRecDepth 100000 in
set_option maxHeartbeats 8000000 in
theorem rfd_k9 (deep : Nat) (w : World) (B R : HP) (gr : Nat) (l : List Int) (left : Int) (h : RfAt w B R gr false l left) (p : Int) (hp : left = 20000 - p ∧ 0 ≤ p ∧ p ≤ 20000) (hl : l.length ≤ 67108864) (hp1 : ¬ 20000 < p + 1) (k : Int) (l1 : List Int) (hn : rdNumF 0 0 l = some (k, l1)) (hk : k = 9) (dp : Int) (hdp : dp = 101 - ((deep + 1 : Nat) : Int)) (hdb : deep ≤ 100) :
    Calls Try.prog 42 #[.pointer (some ⟨gr, 0, none⟩), .int .i64 dp] w (RfdPost B R gr false l (rdConst (deep + 1) p l) w) := by
  have hB := h.sub
  have h1 := h.alloc (dmO [.int .i64 0, .int .i64 0, .bool false, .slice none 0 0, .string ⟨#[]⟩, .slice none 0 0, .slice none 0 0])
  have hb1 := Below.zero_alloc w (dmO [.int .i64 0, .int .i64 0, .bool false, .slice none 0 0, .string ⟨#[]⟩, .slice none 0 0, .slice none 0 0])
  obtain ⟨c1, f1, hq1⟩ := h1.lefts
  obtain ⟨left1, hl1⟩ : ∃ x, left - 1 = x := ⟨_, rfl⟩
  have h2 := hq1 left1
  have hb2 := hb1.setCell (p := ⟨gr, 2, none⟩) (Nat.zero_le _) (.int .i64 left1)
  have c2 := h2.lefts.1
  obtain ⟨g4, hg4⟩ : ∃ g, w.heap.size = g := ⟨_, rfl⟩
  rw [hg4] at h2
  have hN := rf_num _ _ _ gr false l left1 h2
  have hkb := rdNumF_bd l 0 0 k l1 hn
  have hre : rdConst (deep + 1) p l = (match rdSign l1 with | none => none | some (n, l2) => some (.mk 9 n false [] noT [] [], p + 1, l2)) := by subst hk; simp only [rdConst, if_neg hp1, show rdNum l = some (9, l1) from hn]; rfl
  have e1 : decide (left1 < 0) = false := by rw [decide_eq_false_iff_not]; omega
  have e3 : decide (dp > 100) = false := by rw [decide_eq_false_iff_not]; omega
  have e4 : decide (100 < dp) = false := by rw [decide_eq_false_iff_not]; omega
  have e2 : IntKind.i64.wrap (left - 1) = left1 := by rw [IntWalk.i64_in _ (by omega)]; exact hl1
  obtain ⟨o, ho⟩ : ∃ o, rdConst (deep + 1) p l = o := ⟨_, rfl⟩
  rw [ho]
  have HO := Lib.hid (ho.symm.trans hre)
  clear ho
  have H0 := Lib.hid (And.intro hB (And.intro hb2 (And.intro hkb (And.intro hdp (And.intro hdb (And.intro hp (And.intro hl (And.intro hl1 hn))))))))
  have HP1 := Lib.hid hp1
  have HK := Lib.hid hk
  clear hk h h1 hb1 hq1 h2 hb2 hn hkb hre hB hdp hdb hp hl hp1 hl1
  go_enter Try.func42, Try.ntmps42
  go_upto_region 1 with (fail)
  go_upto_region 2 with (fail)
  clear c1 f1
  try rw [hg4]
  clear hg4
  generalize (w.alloc (dmO [.int .i64 0, .int .i64 0, .bool false, .slice none 0 0, .string ⟨#[]⟩, .slice none 0 0, .slice none 0 0])).setCell ⟨gr, 2, none⟩ (.int .i64 left1) = w2 at *
  go_wp2_with fail
  refine hN.mono ?_
  clear hN c2
  rintro e w3 ⟨x, bad', l', rfl, hxb, hst, h3, hb3⟩
  have hst2 := hst.2.1 rfl
  rw [H0.out.2.2.2.2.2.2.2.2] at hst2
  obtain ⟨rfl, rfl, rfl⟩ := hst2
  clear hst hxb
  have h4 := h3.alloc (dmO [.int .i64 x, .int .i64 0, .bool false, .slice none 0 0, .string ⟨#[]⟩, .slice none 0 0, .slice none 0 0])
  have hb4 := (H0.out.2.1.trans hb3).trans (Below.zero_alloc w3 (dmO [.int .i64 x, .int .i64 0, .bool false, .slice none 0 0, .string ⟨#[]⟩, .slice none 0 0, .slice none 0 0]))
  obtain ⟨g5, hg5⟩ : ∃ g, w3.heap.size = g := ⟨_, rfl⟩
  rw [hg5] at h4
  have c0 := ((show sat _ _ from h4.fr).left.cell 0).trans (show _ = some (Value.int .i64 x) from rfl)
  have c5 := h4.bads.1
  have H4 := Lib.hid (And.intro h4 hb4)
  clear h3 hb3 h4 hb4
  go_upto_region 5 with (fail)
  try rw [hg5]
  clear hg5
  generalize w3.alloc (dmO [.int .i64 x, .int .i64 0, .bool false, .slice none 0 0, .string ⟨#[]⟩, .slice none 0 0, .slice none 0 0]) = w4 at *
  obtain rfl : x = 9 := HK.out
  have hS := rf_signed w4 B _ gr false l' left1 H4.out.1
  go_wp2_with fail
  refine hS.mono ?_
  clear hS c0 c5
  rintro e w5 ⟨y, bad5, l5, rfl, hyb, hst, h5, hb5⟩
  have f1 := h5.fr.left.frozen 1
  have d1 := (h5.fr.left.cell 1).trans (show _ = some (Value.int .i64 0) from rfl)
  have h6 := h5.put 1 (.int .i64 y) (fun w' h => H0.out.1 w' h.right)
  have hb6 := (H4.out.2.trans hb5).setCell (p := ⟨g5, 1, none⟩) (Nat.zero_le _) (.int .i64 y)
  have H6 := Lib.hid (And.intro h6 (And.intro hb6 (And.intro hst hyb)))
  clear h5 hb5 h6 hb6 hst hyb
  go_upto_region 42 with (fail)
  clear f1 d1
  generalize w5.setCell ⟨g5, 1, none⟩ (.int .i64 y) = w6 at *
  have hMB : ∀ w', sat w' (R) → sat w' B := H0.out.1
  have hE : RfAt w6 B (blk g5 (dmO [.int .i64 9, .int .i64 y, .bool false, .slice none 0 0, .string ⟨#[]⟩, .slice none 0 0, .slice none 0 0]) * (blk g4 (dmO [.int .i64 0, .int .i64 0, .bool false, .slice none 0 0, .string ⟨#[]⟩, .slice none 0 0, .slice none 0 0]) * (R))) gr bad5 l5 left1 := H6.out.1
  have hsE := hE.fr
  obtain ⟨⟨d0, d1, d2, d3, d4, d5, d6⟩, ⟨z0, z1, z2, z3, z4, z5, z6⟩, y0, y1, y2, y3, y4, y5, y6⟩ := fin_cells hsE
  have hE2 : RfAt _ B (blk g4 (dmO [.int .i64 0, .int .i64 0, .bool false, .slice none 0 0, .string ⟨#[]⟩, .slice none 0 0, .slice none 0 0]) * (R)) gr bad5 l5 left1 := hE.drop (fun w' h => hMB w' h.right)
  obtain ⟨hF, hC, hbF⟩ := hE2.put7 (.int .i64 9) (.int .i64 y) (.bool false) (.slice none 0 0) (.string ⟨#[]⟩) (.slice none 0 0) (.slice none 0 0) hMB
  have HT := Lib.hid (And.intro hF (And.intro hC ((H6.out.2.1).trans hbF)))
  clear hE hsE hE2 hF hC hbF hMB
  go_wp2_with fail
  obtain ⟨r0, r1, r2, r3, r4, r5, r6⟩ := HT.out.2.1 _ rfl
  refine bodyPost_ret (v := .agg #[.int .i64 9, .int .i64 y, .bool false, .slice none 0 0, .string ⟨#[]⟩, .slice none 0 0, .slice none 0 0]) (by simp [results, Try.results42, go_sem, r0, r1, r2, r3, r4, r5, r6]) rfl ?_
  refine ⟨_, _, _, _, _, _, _, bad5, l5, left1, emp, rfl, (by intro u hu; simp at hu; rcases hu with rfl | rfl | rfl | rfl | rfl | rfl | rfl <;> rfl), HT.out.1.perm (by rw [HP.emp_mul]), HT.out.2.2, ?_, fun h => (by cases h), fun _ => ?_⟩
  · have := H6.out.2.2.1.2.2; have := H0.out.2.2.1; omega
  rw [HO.out]
  have hs := H6.out.2.2.1.2.1 rfl
  cases hc : rdSign l' with
  | none => rw [hc] at hs; exact hs
  | some r =>
    obtain ⟨n, t⟩ := r
    rw [hc] at hs
    obtain ⟨s1, rfl, rfl⟩ := hs
    exact ⟨s1, rfl, by have := H0.out.2.2.2.2.2; omega, DK.leaf (by decide) (by have := H6.out.2.2.2; omega)⟩
set_option maxRecDepth 100000 in
set_option maxHeartbeats 8000000 in
theorem rfd_k8 (deep : Nat) (w : World) (B R : HP) (gr : Nat) (l : List Int) (left : Int) (h : RfAt w B R gr false l left) (p : Int) (hp : left = 20000 - p ∧ 0 ≤ p ∧ p ≤ 20000) (hl : l.length ≤ 67108864) (hp1 : ¬ 20000 < p + 1) (k : Int) (l1 : List Int) (hn : rdNumF 0 0 l = some (k, l1)) (hk : k = 8) (dp : Int) (hdp : dp = 101 - ((deep + 1 : Nat) : Int)) (hdb : deep ≤ 100) :
    Calls Try.prog 42 #[.pointer (some ⟨gr, 0, none⟩), .int .i64 dp] w (RfdPost B R gr false l (rdConst (deep + 1) p l) w) := by
  have hB := h.sub
  have h1 := h.alloc (dmO [.int .i64 0, .int .i64 0, .bool false, .slice none 0 0, .string ⟨#[]⟩, .slice none 0 0, .slice none 0 0])
  have hb1 := Below.zero_alloc w (dmO [.int .i64 0, .int .i64 0, .bool false, .slice none 0 0, .string ⟨#[]⟩, .slice none 0 0, .slice none 0 0])
  obtain ⟨c1, f1, hq1⟩ := h1.lefts
  obtain ⟨left1, hl1⟩ : ∃ x, left - 1 = x := ⟨_, rfl⟩
  have h2 := hq1 left1
  have hb2 := hb1.setCell (p := ⟨gr, 2, none⟩) (Nat.zero_le _) (.int .i64 left1)
  have c2 := h2.lefts.1
  obtain ⟨g4, hg4⟩ : ∃ g, w.heap.size = g := ⟨_, rfl⟩
  rw [hg4] at h2
  have hN := rf_num _ _ _ gr false l left1 h2
  have hkb := rdNumF_bd l 0 0 k l1 hn
  have hre : rdConst (deep + 1) p l = some (.mk 8 0 false [] noT [] [], p + 1, l1) := by subst hk; simp only [rdConst, if_neg hp1, show rdNum l = some (8, l1) from hn]; rfl
  have e1 : decide (left1 < 0) = false := by rw [decide_eq_false_iff_not]; omega
  have e3 : decide (dp > 100) = false := by rw [decide_eq_false_iff_not]; omega
  have e4 : decide (100 < dp) = false := by rw [decide_eq_false_iff_not]; omega
  have e2 : IntKind.i64.wrap (left - 1) = left1 := by rw [IntWalk.i64_in _ (by omega)]; exact hl1
  obtain ⟨o, ho⟩ : ∃ o, rdConst (deep + 1) p l = o := ⟨_, rfl⟩
  rw [ho]
  have HO := Lib.hid (ho.symm.trans hre)
  clear ho
  have H0 := Lib.hid (And.intro hB (And.intro hb2 (And.intro hkb (And.intro hdp (And.intro hdb (And.intro hp (And.intro hl (And.intro hl1 hn))))))))
  have HP1 := Lib.hid hp1
  have HK := Lib.hid hk
  clear hk h h1 hb1 hq1 h2 hb2 hn hkb hre hB hdp hdb hp hl hp1 hl1
  go_enter Try.func42, Try.ntmps42
  go_upto_region 1 with (fail)
  go_upto_region 2 with (fail)
  clear c1 f1
  try rw [hg4]
  clear hg4
  generalize (w.alloc (dmO [.int .i64 0, .int .i64 0, .bool false, .slice none 0 0, .string ⟨#[]⟩, .slice none 0 0, .slice none 0 0])).setCell ⟨gr, 2, none⟩ (.int .i64 left1) = w2 at *
  go_wp2_with fail
  refine hN.mono ?_
  clear hN c2
  rintro e w3 ⟨x, bad', l', rfl, hxb, hst, h3, hb3⟩
  have hst2 := hst.2.1 rfl
  rw [H0.out.2.2.2.2.2.2.2.2] at hst2
  obtain ⟨rfl, rfl, rfl⟩ := hst2
  clear hst hxb
  have h4 := h3.alloc (dmO [.int .i64 x, .int .i64 0, .bool false, .slice none 0 0, .string ⟨#[]⟩, .slice none 0 0, .slice none 0 0])
  have hb4 := (H0.out.2.1.trans hb3).trans (Below.zero_alloc w3 (dmO [.int .i64 x, .int .i64 0, .bool false, .slice none 0 0, .string ⟨#[]⟩, .slice none 0 0, .slice none 0 0]))
  obtain ⟨g5, hg5⟩ : ∃ g, w3.heap.size = g := ⟨_, rfl⟩
  rw [hg5] at h4
  have c0 := ((show sat _ _ from h4.fr).left.cell 0).trans (show _ = some (Value.int .i64 x) from rfl)
  have c5 := h4.bads.1
  have H4 := Lib.hid (And.intro h4 hb4)
  clear h3 hb3 h4 hb4
  go_upto_region 5 with (fail)
  try rw [hg5]
  clear hg5
  generalize w3.alloc (dmO [.int .i64 x, .int .i64 0, .bool false, .slice none 0 0, .string ⟨#[]⟩, .slice none 0 0, .slice none 0 0]) = w4 at *
  obtain rfl : x = 8 := HK.out
  go_upto_region 42 with (fail)
  clear c0 c5
  have hMB : ∀ w', sat w' (R) → sat w' B := H0.out.1
  have hE : RfAt w4 B (blk g5 (dmO [.int .i64 8, .int .i64 0, .bool false, .slice none 0 0, .string ⟨#[]⟩, .slice none 0 0, .slice none 0 0]) * (blk g4 (dmO [.int .i64 0, .int .i64 0, .bool false, .slice none 0 0, .string ⟨#[]⟩, .slice none 0 0, .slice none 0 0]) * (R))) gr false l' left1 := H4.out.1
  have hsE := hE.fr
  obtain ⟨⟨d0, d1, d2, d3, d4, d5, d6⟩, ⟨z0, z1, z2, z3, z4, z5, z6⟩, y0, y1, y2, y3, y4, y5, y6⟩ := fin_cells hsE
  have hE2 : RfAt _ B (blk g4 (dmO [.int .i64 0, .int .i64 0, .bool false, .slice none 0 0, .string ⟨#[]⟩, .slice none 0 0, .slice none 0 0]) * (R)) gr false l' left1 := hE.drop (fun w' h => hMB w' h.right)
  obtain ⟨hF, hC, hbF⟩ := hE2.put7 (.int .i64 8) (.int .i64 0) (.bool false) (.slice none 0 0) (.string ⟨#[]⟩) (.slice none 0 0) (.slice none 0 0) hMB
  have HT := Lib.hid (And.intro hF (And.intro hC ((H4.out.2).trans hbF)))
  clear hE hsE hE2 hF hC hbF hMB
  go_wp2_with fail
  obtain ⟨r0, r1, r2, r3, r4, r5, r6⟩ := HT.out.2.1 _ rfl
  refine bodyPost_ret (v := .agg #[.int .i64 8, .int .i64 0, .bool false, .slice none 0 0, .string ⟨#[]⟩, .slice none 0 0, .slice none 0 0]) (by simp [results, Try.results42, go_sem, r0, r1, r2, r3, r4, r5, r6]) rfl ?_
  exact ⟨_, _, _, _, _, _, _, false, l', left1, emp, rfl, (by intro u hu; simp at hu; rcases hu with rfl | rfl | rfl | rfl | rfl | rfl | rfl <;> rfl), HT.out.1.perm (by rw [HP.emp_mul]), HT.out.2.2, by have := H0.out.2.2.1; omega, fun h => (by cases h), fun _ => by rw [HO.out]; exact ⟨rfl, rfl, by have := H0.out.2.2.2.2.2; omega, DK.leaf (by decide) (by decide)⟩⟩
set_option maxRecDepth 100000 in
set_option maxHeartbeats 8000000 in
theorem rfd_k0 (deep : Nat) (w : World) (B R : HP) (gr : Nat) (l : List Int) (left : Int) (h : RfAt w B R gr false l left) (p : Int) (hp : left = 20000 - p ∧ 0 ≤ p ∧ p ≤ 20000) (hl : l.length ≤ 67108864) (hp1 : ¬ 20000 < p + 1) (k : Int) (l1 : List Int) (hn : rdNumF 0 0 l = some (k, l1)) (hk : k ≠ 1 ∧ k ≠ 2 ∧ k ≠ 3 ∧ k ≠ 4 ∧ k ≠ 5 ∧ k ≠ 6 ∧ k ≠ 7 ∧ k ≠ 8 ∧ k ≠ 9) (dp : Int) (hdp : dp = 101 - ((deep + 1 : Nat) : Int)) (hdb : deep ≤ 100) :
    Calls Try.prog 42 #[.pointer (some ⟨gr, 0, none⟩), .int .i64 dp] w (RfdPost B R gr false l (rdConst (deep + 1) p l) w) := by
  have hB := h.sub
  have h1 := h.alloc (dmO [.int .i64 0, .int .i64 0, .bool false, .slice none 0 0, .string ⟨#[]⟩, .slice none 0 0, .slice none 0 0])
  have hb1 := Below.zero_alloc w (dmO [.int .i64 0, .int .i64 0, .bool false, .slice none 0 0, .string ⟨#[]⟩, .slice none 0 0, .slice none 0 0])
  obtain ⟨c1, f1, hq1⟩ := h1.lefts
  obtain ⟨left1, hl1⟩ : ∃ x, left - 1 = x := ⟨_, rfl⟩
  have h2 := hq1 left1
  have hb2 := hb1.setCell (p := ⟨gr, 2, none⟩) (Nat.zero_le _) (.int .i64 left1)
  have c2 := h2.lefts.1
  obtain ⟨g4, hg4⟩ : ∃ g, w.heap.size = g := ⟨_, rfl⟩
  rw [hg4] at h2
  have hN := rf_num _ _ _ gr false l left1 h2
  have hkb := rdNumF_bd l 0 0 k l1 hn
  have hre : rdConst (deep + 1) p l = none := by simp only [rdConst, if_neg hp1, show rdNum l = some (k, l1) from hn]; rw [if_neg (by omega), if_neg (by omega), if_neg (by omega), if_neg (by omega), if_neg (by omega), if_neg (by omega)]
  have e1 : decide (left1 < 0) = false := by rw [decide_eq_false_iff_not]; omega
  have e3 : decide (dp > 100) = false := by rw [decide_eq_false_iff_not]; omega
  have e4 : decide (100 < dp) = false := by rw [decide_eq_false_iff_not]; omega
  have e2 : IntKind.i64.wrap (left - 1) = left1 := by rw [IntWalk.i64_in _ (by omega)]; exact hl1
  obtain ⟨o, ho⟩ : ∃ o, rdConst (deep + 1) p l = o := ⟨_, rfl⟩
  rw [ho]
  have HO := Lib.hid (ho.symm.trans hre)
  clear ho
  have H0 := Lib.hid (And.intro hB (And.intro hb2 (And.intro hkb (And.intro hdp (And.intro hdb (And.intro hp (And.intro hl (And.intro hl1 hn))))))))
  have HP1 := Lib.hid hp1
  have HK := Lib.hid hk
  clear hk h h1 hb1 hq1 h2 hb2 hn hkb hre hB hdp hdb hp hl hp1 hl1
  go_enter Try.func42, Try.ntmps42
  go_upto_region 1 with (fail)
  go_upto_region 2 with (fail)
  clear c1 f1
  try rw [hg4]
  clear hg4
  generalize (w.alloc (dmO [.int .i64 0, .int .i64 0, .bool false, .slice none 0 0, .string ⟨#[]⟩, .slice none 0 0, .slice none 0 0])).setCell ⟨gr, 2, none⟩ (.int .i64 left1) = w2 at *
  go_wp2_with fail
  refine hN.mono ?_
  clear hN c2
  rintro e w3 ⟨x, bad', l', rfl, hxb, hst, h3, hb3⟩
  have hst2 := hst.2.1 rfl
  rw [H0.out.2.2.2.2.2.2.2.2] at hst2
  obtain ⟨rfl, rfl, rfl⟩ := hst2
  clear hst hxb
  have h4 := h3.alloc (dmO [.int .i64 x, .int .i64 0, .bool false, .slice none 0 0, .string ⟨#[]⟩, .slice none 0 0, .slice none 0 0])
  have hb4 := (H0.out.2.1.trans hb3).trans (Below.zero_alloc w3 (dmO [.int .i64 x, .int .i64 0, .bool false, .slice none 0 0, .string ⟨#[]⟩, .slice none 0 0, .slice none 0 0]))
  obtain ⟨g5, hg5⟩ : ∃ g, w3.heap.size = g := ⟨_, rfl⟩
  rw [hg5] at h4
  have c0 := ((show sat _ _ from h4.fr).left.cell 0).trans (show _ = some (Value.int .i64 x) from rfl)
  have c5 := h4.bads.1
  have H4 := Lib.hid (And.intro h4 hb4)
  clear h3 hb3 h4 hb4
  go_upto_region 5 with (fail)
  try rw [hg5]
  clear hg5
  generalize w3.alloc (dmO [.int .i64 x, .int .i64 0, .bool false, .slice none 0 0, .string ⟨#[]⟩, .slice none 0 0, .slice none 0 0]) = w4 at *
  have hk := HK.out
  have k1 : (x == 1) = false := by rw [beq_eq_false_iff_ne]; omega
  have k2 : (x == 2) = false := by rw [beq_eq_false_iff_ne]; omega
  have k3 : (x == 3) = false := by rw [beq_eq_false_iff_ne]; omega
  have k4 : (x == 4) = false := by rw [beq_eq_false_iff_ne]; omega
  have k5 : (x == 5) = false := by rw [beq_eq_false_iff_ne]; omega
  have k6 : (x == 6) = false := by rw [beq_eq_false_iff_ne]; omega
  have k7 : (x == 7) = false := by rw [beq_eq_false_iff_ne]; omega
  have k8 : (x == 8) = false := by rw [beq_eq_false_iff_ne]; omega
  have k9 : (x == 9) = false := by rw [beq_eq_false_iff_ne]; omega
  clear hk
  obtain ⟨b1, b2, b3⟩ := H4.out.1.bads
  have H6 := Lib.hid (And.intro (b3 true) (H4.out.2.setCell (p := ⟨gr, 1, none⟩) (Nat.zero_le _) (.bool true)))
  clear b3
  go_upto_region 42 with (fail)
  clear c0 c5 b1 b2 k1 k2 k3 k4 k5 k6 k7 k8 k9
  generalize w4.setCell ⟨gr, 1, none⟩ (.bool true) = w6 at *
  have hMB : ∀ w', sat w' (R) → sat w' B := H0.out.1
  have hE : RfAt w6 B (blk g5 (dmO [.int .i64 x, .int .i64 0, .bool false, .slice none 0 0, .string ⟨#[]⟩, .slice none 0 0, .slice none 0 0]) * (blk g4 (dmO [.int .i64 0, .int .i64 0, .bool false, .slice none 0 0, .string ⟨#[]⟩, .slice none 0 0, .slice none 0 0]) * (R))) gr true l' left1 := H6.out.1
  have hsE := hE.fr
  obtain ⟨⟨d0, d1, d2, d3, d4, d5, d6⟩, ⟨z0, z1, z2, z3, z4, z5, z6⟩, y0, y1, y2, y3, y4, y5, y6⟩ := fin_cells hsE
  have hE2 : RfAt _ B (blk g4 (dmO [.int .i64 0, .int .i64 0, .bool false, .slice none 0 0, .string ⟨#[]⟩, .slice none 0 0, .slice none 0 0]) * (R)) gr true l' left1 := hE.drop (fun w' h => hMB w' h.right)
  obtain ⟨hF, hC, hbF⟩ := hE2.put7 (.int .i64 x) (.int .i64 0) (.bool false) (.slice none 0 0) (.string ⟨#[]⟩) (.slice none 0 0) (.slice none 0 0) hMB
  have HT := Lib.hid (And.intro hF (And.intro hC ((H6.out.2).trans hbF)))
  clear hE hsE hE2 hF hC hbF hMB
  go_wp2_with fail
  obtain ⟨r0, r1, r2, r3, r4, r5, r6⟩ := HT.out.2.1 _ rfl
  refine bodyPost_ret (v := .agg #[.int .i64 x, .int .i64 0, .bool false, .slice none 0 0, .string ⟨#[]⟩, .slice none 0 0, .slice none 0 0]) (by simp [results, Try.results42, go_sem, r0, r1, r2, r3, r4, r5, r6]) rfl ?_
  exact ⟨_, _, _, _, _, _, _, true, l', left1, emp, rfl, (by intro u hu; simp at hu; rcases hu with rfl | rfl | rfl | rfl | rfl | rfl | rfl <;> rfl), HT.out.1.perm (by rw [HP.emp_mul]), HT.out.2.2, by have := H0.out.2.2.1; omega, fun h => (by cases h), fun _ => by rw [HO.out]⟩
end Go.Proofs.Ytkjfplldfjmbaaa
