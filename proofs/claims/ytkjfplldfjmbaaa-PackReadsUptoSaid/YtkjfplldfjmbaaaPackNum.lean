/- pack: number, sign, text, truth, size, whole. -/
import Derived.Test.YtkjfplldfjmbaaaPackPure
namespace Go.Proofs.Ytkjfplldfjmbaaa
open Go.RowKit
theorem info_b8 : (Try.prog.info? 5).map (fun i => (i.zero, i.size, i.bytes)) = some (some (.int .u8 0), 1, 1) := by kernel_rfl
/-- A slice of the call's own that holds these bytes. -/
def BytesR (R : HP) (xs : List Int) (w : World) (e : Ending) (w' : World) : Prop := ∃ v', e = .returned v' ∧ sat w' (own 5 1 v' xs.length (xs.map bv) * R) ∧ Below 0 w w'
/-- A slice of the call's own, or one without room that can be read. -/
def OwnOr (R : HP) (v : Value) (ys : List Int) (w : World) : Prop :=
  sat w (own 5 1 v ys.length (ys.map bv) * R) ∨ (sat w R ∧ ∃ b, v = .slice (some ⟨b, 0, none⟩) ys.length ys.length ∧ ∀ w', sat w' R → ∀ (j : Nat) u, (ys.map bv)[j]? = some u → w'.cell? ⟨b, j, none⟩ = some u)
theorem OwnOr.box {R : HP} {v : Value} {ys : List Int} {w : World} (h : OwnOr R v ys w) (o : Obj) : OwnOr (blk w.heap.size o * R) v ys (w.alloc o) ∧ sat (w.alloc o) (blk w.heap.size o * R) := by
  rcases h with h | ⟨h, b, hv, hc⟩
  · have h2 : sat (w.alloc o) (own 5 1 v ys.length (ys.map bv) * (blk w.heap.size o * R)) := (h.alloc o).perm (by ac_rfl)
    exact ⟨.inl h2, h2.right⟩
  · exact ⟨.inr ⟨h.alloc o, b, hv, fun w' h' => hc w' h'.right⟩, h.alloc o⟩
theorem wpList_append_or {w : World} {ops : Array Oper} {rest : List Oper} {o : Oper} {a : Act} {Q : Exit → Act → World → Prop} (hgd : o.guard = none) (s x : Operand)
    (ho : o.op = .call { callee := .builtin .append, args := #[s, x], argTypes := #[23, 23] })
    (i : TypeInfo) (hi : Try.prog.info? 5 = some i) (hz : i.zero = some (.int .u8 0)) (hsize : i.size = 1) (hby : i.bytes = 1)
    (v : Value) (ys : List Int) (hs : a.eval s = v) (R : HP) (b : Nat) (d : Int) (hx : a.eval x = .slice (some ⟨b, 0, none⟩) 1 1)
    (k : ∀ v' w', sat w' (own 5 1 v' (ys.length + 1) (ys.map bv ++ [bv d]) * R) → Below 0 w w' → wpList Try.prog ops Q rest (a.put o.dst v') w')
    (h : OwnOr R v ys w) (hc : w.cell? ⟨b, 0, none⟩ = some (bv d)) (hb : ys.length + 1 ≤ 140737488355328) : wpList Try.prog ops Q (o :: rest) a w := by
  rcases h with h | ⟨hR, b2, rfl, hcell⟩
  · exact wpList_append_one hgd s x 23 ho 5 i (.int .u8 0) 1 Try.underlying23 hi hz hsize hby rfl v ys.length (ys.map bv) hs R b (bv d) hx k h hc rfl (by omega) (by unfold maxLen; omega)
  · have hadd : ∀ (g j : Nat), (⟨g, 0, none⟩ : Addr).add j = ⟨g, j, none⟩ := fun g j => by unfold Addr.add; split <;> simp_all
    have hrun := run_append_grow (P := Try.prog) w 23 o.type 5 i (.int .u8 0) Try.underlying23 hi hz ⟨b2, 0, none⟩ ys.length ys.length (ys.map bv) (by rw [hsize]; simp) (fun j u hu => by rw [hadd]; exact hcell w hR j u hu)
      ⟨b, 0, none⟩ 1 1 [bv d] (by rw [hsize]; rfl) (fun j u hu => by
        match j, hu with
        | 0, hu => simp at hu; subst hu; rw [hadd]; exact hc) (by omega) (by omega) (growslice_fits (by omega) (by rw [hby]; omega))
    refine wpList_plain hgd fun K hK => ?_
    unfold Oper.wp execOp
    simp only [ho, resolve, invoke, builtin, Sem.run_bind, Sem.run_pure, Result.andThen_ok, List.map_toArray, List.map_cons, List.map_nil, hs, hx, hrun]
    refine hK _ _ (k _ _ ?_ ((Below.refl 0 w).drew.alloc (Nat.zero_le _) _))
    have hge := grownCap_ge w (ys.length + 1) ys.length 5
    have hcm : grownCap w (ys.length + 1) ys.length 5 ≤ maxLen := grownCap_le_maxLen w (ys.length + 1) ys.length 5 (by unfold maxLen; omega)
    have hz1 : (Value.int IntKind.u8 0).cells.size = 1 := rfl
    refine sat.shut_own (by simp) hge ((hR.drew.alloc _).shut_row ?_ ?_ hcm ?_)
    · simp only [Array.size_append, List.size_toArray, size_zeroCells, hz1, List.length_map, List.length_cons, List.length_nil]
      omega
    · simp only [List.length_append, List.length_map, List.length_cons, List.length_nil]; omega
    · simp only [Array.toList_append]
      have : (ys.map bv ++ [bv d]) = (ys.map bv).toArray.toList ++ [bv d].toArray.toList := by simp
      rw [this]; exact List.take_left
def NuRel (W : World) (R : HP) (all : List Int) (v i : Value) (wr : World) : Prop :=
  ∃ (k : Nat) (ys : List Int), i = .int .i64 k ∧ k < 9223372036854775808 ∧ ys ++ numB k = all ∧ OwnOr R v ys wr ∧ Below 0 W wr
set_option maxRecDepth 100000 in
theorem pack_number_or {w : World} {R : HP} (v : Value) (xs : List Int) (hs : OwnOr R v xs w) (k : Nat) (hk : k < 9223372036854775808) (hl : xs.length ≤ 70368744177664) :
    Calls Try.prog 19 #[v, .int .i64 k] w (BytesR R (xs ++ numB k) w) := by
  obtain ⟨i0, hi, hz0, hz1, hz2⟩ := info_parts info_b8
  have H1 := Lib.hid (And.intro hi (And.intro hz0 (And.intro hz1 hz2)))
  have hten := numB_ten hk
  have hal : (xs ++ numB k).length ≤ 70368744177700 := by rw [List.length_append]; omega
  obtain ⟨all, hall⟩ : ∃ all, xs ++ numB k = all := ⟨_, rfl⟩
  rw [hall] at hal ⊢
  have H0 := Lib.hid (And.intro hs (And.intro hall hal))
  clear hi hz0 hz1 hz2 hs hall hal hten hl
  go_enter Try.func19, Try.ntmps19
  go_wp2_with fail
  go_loopw [0, 1] (NuRel w R all) (fun _ i _ => (intOf i).toNat)
  case atStart => exact ⟨k, xs, rfl, hk, H0.out.2.1, H0.out.1, Below.refl _ _⟩
  case round =>
    obtain ⟨k', ys, rfl, hk', hy, h1, hb1⟩ := hrel
    have hyl : ys.length + (numB k').length ≤ 70368744177700 := by have := H0.out.2.2; rw [← hy, List.length_append] at this; exact this
    have hp := numB_pos k'
    by_cases hlt : k' < 128
    · have b1 : decide ((k' : Int) ≥ 128) = false := by rw [decide_eq_false_iff_not]; omega
      have g1 := byte_small k' hlt
      have h2 := h1.box (.cells #[bv k'] 5)
      have h3 := h2.1
      have hnew : (wr.alloc (.cells #[bv k'] 5)).cell? ⟨wr.heap.size, 0, none⟩ = some (bv k') := (h2.2.left.cell 0).trans rfl
      have HK := Lib.hid (And.intro h3 (And.intro hnew (And.intro (hb1.trans (Below.zero_alloc wr (.cells #[bv k'] 5))) (And.intro hy (And.intro hyl hp)))))
      clear h1 h2 h3 hnew hb1 hy hyl hp
      go_wp2_with (at_builtin; refine halt ?_)
      refine goon ?_
      obtain ⟨hi, hz0, hz1, hz2⟩ := H1.out
      refine wpList_append_or rfl (.tmp 15) (.tmp 18) rfl i0 hi hz0 hz1 hz2 u0 ys rfl _ wr.heap.size k' rfl ?_ HK.out.1 HK.out.2.1 (by have := HK.out.2.2.2.2.1; omega)
      clear hi hz0 hz1 hz2
      intro v' w9 hs9 hb9
      have HQ := Lib.hid (And.intro hs9 hb9)
      clear hs9 hb9
      go_wp2_with fail
      go_ret
      refine ⟨v', rfl, ?_, HK.out.2.2.1.trans HQ.out.2⟩
      have hy := HK.out.2.2.2.1
      rw [numB_lt hlt] at hy
      rw [← hy, List.length_append, List.map_append]
      exact (HQ.out.1.perm (show _ = Go.Proofs.Ytkjfplldfjmbaaa.blk wr.heap.size (.cells #[bv k'] 5 (0, 0)) * (own 5 1 v' (ys.length + 1) (ys.map bv ++ [bv k']) * R) by ac_rfl)).right
    · have b1 : decide ((k' : Int) ≥ 128) = true := by rw [decide_eq_true_eq]; omega
      have g1 := byte_or k'
      obtain ⟨d, hd⟩ : ∃ d : Int, ((k' % 128 + 128 : Nat) : Int) = d := ⟨_, rfl⟩
      rw [hd] at g1
      have h2 := h1.box (.cells #[bv d] 5)
      have h3 := h2.1
      have hnew : (wr.alloc (.cells #[bv d] 5)).cell? ⟨wr.heap.size, 0, none⟩ = some (bv d) := (h2.2.left.cell 0).trans rfl
      have HK := Lib.hid (And.intro h3 (And.intro hnew (And.intro (hb1.trans (Below.zero_alloc wr (.cells #[bv d] 5))) (And.intro hy (And.intro hyl (And.intro hp hd))))))
      clear h1 h2 h3 hnew hb1 hy hyl hp hd
      go_wp2_with (at_builtin; refine halt ?_)
      refine goon ?_
      obtain ⟨hi, hz0, hz1, hz2⟩ := H1.out
      refine wpList_append_or rfl (.tmp 9) (.tmp 13) rfl i0 hi hz0 hz1 hz2 u0 ys rfl _ wr.heap.size d rfl ?_ HK.out.1 HK.out.2.1 (by have := HK.out.2.2.2.2.1; omega)
      clear hi hz0 hz1 hz2
      intro v' w9 hs9 hb9
      have HQ := Lib.hid (And.intro hs9 hb9)
      clear hs9 hb9
      have q1 : (k' : Int) / 128 = ((k' / 128 : Nat) : Int) := by omega
      obtain ⟨m, hm⟩ : ∃ m : Int, (k' : Int) / 128 = m := ⟨_, rfl⟩
      have hmm : m = ((k' / 128 : Nat) : Int) := by omega
      have HM := Lib.hid hmm
      have q2 : IntKind.i64.wrap m = m := IntWalk.i64_in _ (by omega)
      clear q1 hmm
      go_wp2_with fail
      go_roundw
      case rel =>
        refine ⟨k' / 128, ys ++ [d], ?_, by omega, ?_, ?_, HK.out.2.2.1.trans HQ.out.2⟩
        · rw [← HM.out]
        · have hy := HK.out.2.2.2.1
          rw [numB_ge hlt, HK.out.2.2.2.2.2.2] at hy
          rw [← hy]
          simp
        · refine .inl ?_
          rw [List.length_append, List.map_append]
          exact (HQ.out.1.perm (show _ = Go.Proofs.Ytkjfplldfjmbaaa.blk wr.heap.size (.cells #[bv d] 5 (0, 0)) * (own 5 1 v' (ys.length + 1) (ys.map bv ++ [bv d]) * R) by ac_rfl)).right
      case measure =>
        simp only [intOf]
        omega
theorem pack_number {w : World} {R : HP} (v : Value) (xs : List Int) (hs : sat w (own 5 1 v xs.length (xs.map bv) * R)) (k : Nat) (hk : k < 9223372036854775808) (hl : xs.length ≤ 70368744177664) :
    Calls Try.prog 19 #[v, .int .i64 k] w (BytesR R (xs ++ numB k) w) := pack_number_or v xs (.inl hs) k hk hl
/-- How a signed number is told. -/
theorem zig_neg {v : Int} (h : v < 0) : -2 * v - 1 = ((zigN v : Nat) : Int) := by unfold zigN; rw [if_pos h]; omega
theorem zig_pos {v : Int} (h : ¬ v < 0) : 2 * v = ((zigN v : Nat) : Int) := by unfold zigN; rw [if_neg h]; omega
theorem zig_bd {v : Int} (h : -549755813888 ≤ v ∧ v ≤ 549755813888) : zigN v ≤ 1099511627776 := by unfold zigN; split <;> omega
theorem pack_sign {w : World} {R : HP} (v : Value) (xs : List Int) (hs : sat w (own 5 1 v xs.length (xs.map bv) * R)) (x : Int) (hx : -549755813888 ≤ x ∧ x ≤ 549755813888) (hl : xs.length ≤ 70368744177664) :
    Calls Try.prog 22 #[v, .int .i64 x] w (BytesR R (xs ++ zigB x) w) := by
  have hC := pack_number v xs hs (zigN x) (by have := zig_bd hx; omega) hl
  by_cases h0 : x < 0
  · have b1 : decide (x < 0) = true := by simp [h0]
    rw [← zig_neg h0] at hC
    have g1 : IntKind.i64.wrap (-2 * x) = -2 * x := IntWalk.i64_in _ (by omega)
    have g2 : IntKind.i64.wrap (-2 * x - 1) = -2 * x - 1 := IntWalk.i64_in _ (by omega)
    clear hs
    go_enter Try.func22, Try.ntmps22
    go_wp2_with fail
    refine hC.mono ?_
    clear hC
    rintro e w2 ⟨v2, rfl, h2, hb2⟩
    have HQ := Lib.hid (And.intro h2 hb2)
    clear h2 hb2
    go_wp2_with fail
    go_ret
    exact ⟨v2, rfl, HQ.out.1, HQ.out.2⟩
  · have b1 : decide (x < 0) = false := by simp [h0]
    rw [← zig_pos h0] at hC
    have g1 : IntKind.i64.wrap (2 * x) = 2 * x := IntWalk.i64_in _ (by omega)
    clear hs
    go_enter Try.func22, Try.ntmps22
    go_wp2_with fail
    refine hC.mono ?_
    clear hC
    rintro e w2 ⟨v2, rfl, h2, hb2⟩
    have HQ := Lib.hid (And.intro h2 hb2)
    clear h2 hb2
    go_wp2_with fail
    go_ret
    exact ⟨v2, rfl, HQ.out.1, HQ.out.2⟩
set_option maxRecDepth 100000 in
theorem pack_text {w : World} {R : HP} (v : Value) (xs : List Int) (hs : sat w (own 5 1 v xs.length (xs.map bv) * R)) (s : ByteArray) (hz : s.size ≤ 35184372088832) (hl : xs.length ≤ 35184372088832) :
    Calls Try.prog 21 #[v, .string s] w (BytesR R (xs ++ textB s) w) := by
  obtain ⟨i0, hi, hz0, hz1, hz2⟩ := info_parts info_b8
  have H1 := Lib.hid (And.intro hi (And.intro hz0 (And.intro hz1 hz2)))
  clear hi hz0 hz1 hz2
  have hC := pack_number v xs hs s.size (by omega) (by omega)
  have hten := numB_ten (n := s.size) (by omega)
  clear hs
  go_enter Try.func21, Try.ntmps21
  go_wp2_with fail
  refine hC.mono ?_
  clear hC
  rintro e w2 ⟨v2, rfl, h2, hb2⟩
  have H2 := Lib.hid (And.intro h2 (And.intro hb2 hten))
  clear h2 hb2 hten
  go_wp2_with (at_builtin; refine halt ?_)
  refine goon ?_
  obtain ⟨hi, hz0, hz1, hz2⟩ := H1.out
  refine wpList_append_str rfl (.tmp 8) (.tmp 9) 23 9 rfl 5 i0 Try.underlying23 Try.underlying9 hi hz0 hz1 hz2 v2 _ (xs ++ numB s.size) rfl R s rfl ?_ rfl H2.out.1 (by rw [List.length_append]; have := H2.out.2.2; omega)
  clear hi hz0 hz1 hz2
  intro v' w9 hs9 hb9
  have HQ := Lib.hid (And.intro hs9 hb9)
  clear hs9 hb9
  go_wp2_with fail
  go_ret
  refine ⟨v', rfl, ?_, H2.out.2.1.trans HQ.out.2⟩
  unfold textB
  rw [← List.append_assoc]
  exact HQ.out.1
set_option maxRecDepth 100000 in
theorem pack_truth {w : World} {R : HP} (v : Value) (xs : List Int) (hs : sat w (own 5 1 v xs.length (xs.map bv) * R)) (b : Bool) (hl : xs.length ≤ 70368744177664) :
    Calls Try.prog 20 #[v, .bool b] w (BytesR R (xs ++ bitB b) w) := by
  obtain ⟨i0, hi, hz0, hz1, hz2⟩ := info_parts info_b8
  have H1 := Lib.hid (And.intro hi (And.intro hz0 (And.intro hz1 hz2)))
  clear hi hz0 hz1 hz2
  have key : ∀ d : Int, sat (w.alloc (.cells #[bv d] 5)) (own 5 1 v xs.length (xs.map bv) * (Go.Proofs.Ytkjfplldfjmbaaa.blk w.heap.size (.cells #[bv d] 5 (0, 0)) * R)) := fun d => (hs.alloc (.cells #[bv d] 5)).perm (by ac_rfl)
  have hnew : ∀ d : Int, (w.alloc (.cells #[bv d] 5)).cell? ⟨w.heap.size, 0, none⟩ = some (bv d) := fun d => ((key d).right.left.cell 0).trans rfl
  have HK := Lib.hid (And.intro key hnew)
  clear key hnew hs
  cases b with
  | true =>
    go_enter Try.func20, Try.ntmps20
    go_wp2_with (at_builtin; refine halt ?_)
    refine goon ?_
    obtain ⟨hi, hz0, hz1, hz2⟩ := H1.out
    refine wpList_append_one rfl (.tmp 6) (.tmp 7) 23 rfl 5 i0 (.int .u8 0) 1 Try.underlying23 hi hz0 hz1 hz2 rfl v xs.length (xs.map bv) rfl _ w.heap.size (bv 1) rfl ?_ (HK.out.1 1) (HK.out.2 1) rfl (by omega) (by unfold maxLen; omega)
    clear hi hz0 hz1 hz2
    intro v' w9 hs9 hb9
    have HQ := Lib.hid (And.intro hs9 hb9)
    clear hs9 hb9
    go_wp2_with fail
    go_ret
    refine ⟨v', rfl, ?_, (Below.zero_alloc _ _).trans HQ.out.2⟩
    rw [List.length_append, List.map_append]
    exact (HQ.out.1.perm (show _ = Go.Proofs.Ytkjfplldfjmbaaa.blk w.heap.size (.cells #[bv 1] 5 (0, 0)) * (own 5 1 v' (xs.length + 1) (xs.map bv ++ [bv 1]) * R) by ac_rfl)).right
  | false =>
    go_enter Try.func20, Try.ntmps20
    go_wp2_with (at_builtin; refine halt ?_)
    refine goon ?_
    obtain ⟨hi, hz0, hz1, hz2⟩ := H1.out
    refine wpList_append_one rfl (.tmp 9) (.tmp 10) 23 rfl 5 i0 (.int .u8 0) 1 Try.underlying23 hi hz0 hz1 hz2 rfl v xs.length (xs.map bv) rfl _ w.heap.size (bv 0) rfl ?_ (HK.out.1 0) (HK.out.2 0) rfl (by omega) (by unfold maxLen; omega)
    clear hi hz0 hz1 hz2
    intro v' w9 hs9 hb9
    have HQ := Lib.hid (And.intro hs9 hb9)
    clear hs9 hb9
    go_wp2_with fail
    go_ret
    refine ⟨v', rfl, ?_, (Below.zero_alloc _ _).trans HQ.out.2⟩
    rw [List.length_append, List.map_append]
    exact (HQ.out.1.perm (show _ = Go.Proofs.Ytkjfplldfjmbaaa.blk w.heap.size (.cells #[bv 0] 5 (0, 0)) * (own 5 1 v' (xs.length + 1) (xs.map bv ++ [bv 0]) * R) by ac_rfl)).right
/-- May a number be written? -/
def sizeB (n : Int) : Bool := decide (0 ≤ n ∧ n ≤ 1099511627776)
def wholeB (n : Int) : Bool := decide (-549755813888 ≤ n ∧ n ≤ 549755813888)
theorem pack_size (w : World) (n : Int) : Calls Try.prog 43 #[.int .i64 n] w (Says (.bool (sizeB n)) w) := by
  by_cases h1 : n ≥ 0
  · have b1 : decide (n ≥ 0) = true := by simp [h1]
    by_cases h2 : n ≤ 1099511627776
    · have b2 : decide (n ≤ 1099511627776) = true := by simp [h2]
      have e : sizeB n = true := by unfold sizeB; simp; omega
      rw [e]
      clear h1 h2
      go_enter Try.func43, Try.ntmps43
      go_wp2_with fail
      go_ret
      exact says_ret0 rfl
    · have b2 : decide (n ≤ 1099511627776) = false := by simp; omega
      have e : sizeB n = false := by unfold sizeB; simp; omega
      rw [e]
      clear h1 h2
      go_enter Try.func43, Try.ntmps43
      go_wp2_with fail
      go_ret
      exact says_ret0 rfl
  · have b1 : decide (n ≥ 0) = false := by simp; omega
    have e : sizeB n = false := by unfold sizeB; simp; omega
    rw [e]
    clear h1
    go_enter Try.func43, Try.ntmps43
    go_wp2_with fail
    go_ret
    exact says_ret0 rfl
theorem pack_whole (w : World) (n : Int) : Calls Try.prog 44 #[.int .i64 n] w (Says (.bool (wholeB n)) w) := by
  by_cases h1 : n ≥ -549755813888
  · have b1 : decide (n ≥ -549755813888) = true := by simp; omega
    by_cases h2 : n ≤ 549755813888
    · have b2 : decide (n ≤ 549755813888) = true := by simp [h2]
      have e : wholeB n = true := by unfold wholeB; simp; omega
      rw [e]
      clear h1 h2
      go_enter Try.func44, Try.ntmps44
      go_wp2_with fail
      go_ret
      exact says_ret0 rfl
    · have b2 : decide (n ≤ 549755813888) = false := by simp; omega
      have e : wholeB n = false := by unfold wholeB; simp; omega
      rw [e]
      clear h1 h2
      go_enter Try.func44, Try.ntmps44
      go_wp2_with fail
      go_ret
      exact says_ret0 rfl
  · have b1 : decide (n ≥ -549755813888) = false := by simp; omega
    have e : wholeB n = false := by unfold wholeB; simp; omega
    rw [e]
    clear h1
    go_enter Try.func44, Try.ntmps44
    go_wp2_with fail
    go_ret
    exact says_ret0 rfl
end Go.Proofs.Ytkjfplldfjmbaaa
