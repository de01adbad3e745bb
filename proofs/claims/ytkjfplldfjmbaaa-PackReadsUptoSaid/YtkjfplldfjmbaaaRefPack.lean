/- The reference's writer: num, signed, some, in, half, bit. -/
import Derived.Test.YtkjfplldfjmbaaaPackWr
namespace Go.Proofs.Ytkjfplldfjmbaaa
open Go.RowKit
theorem wpList_append_bytes {w : World} {ops : Array Oper} {rest : List Oper} {o : Oper} {a : Act} {Q : Exit → Act → World → Prop} (hgd : o.guard = none) (s x : Operand)
    (ho : o.op = .call { callee := .builtin .append, args := #[s, x], argTypes := #[23, 23] })
    (i : TypeInfo) (hi : Try.prog.info? 5 = some i) (hz : i.zero = some (.int .u8 0)) (hsize : i.size = 1) (hby : i.bytes = 1)
    (v v2 : Value) (ys zs : List Int) (hs : a.eval s = v) (R : HP) (hx : a.eval x = v2)
    (k : ∀ v' w', sat w' (own 5 1 v' (ys ++ zs).length ((ys ++ zs).map bv) * R) → Below 0 w w' → wpList Try.prog ops Q rest (a.put o.dst v') w')
    (h : sat w (own 5 1 v2 zs.length (zs.map bv) * (own 5 1 v ys.length (ys.map bv) * R))) (hp : 0 < zs.length) (hb : ys.length + zs.length ≤ 140737488355328) : wpList Try.prog ops Q (o :: rest) a w := by
  obtain ⟨b, cap, rfl, hc, hl, hr⟩ := h.own_some hp
  have hadd : ∀ (j : Nat), (⟨b, 0, none⟩ : Addr).add j = ⟨b, j, none⟩ := fun j => by unfold Addr.add; split <;> simp_all
  refine wpList_append_sat hgd s x 23 ho 5 i (.int .u8 0) 1 1 Try.underlying23 hi hz hsize hby rfl v ys.length (ys.map bv) hs (own 5 1 (.slice (some ⟨b, 0, none⟩) zs.length cap) zs.length (zs.map bv) * R) ⟨b, 0, none⟩ zs.length cap (zs.map bv) hx ?_ (h.perm (by ac_rfl)) (by simp) (fun j u hu => by rw [hadd]; exact hr.row_cell hu) (fun u hu => by obtain ⟨y, _, rfl⟩ := List.mem_map.1 hu; rfl) (by omega) (by unfold maxLen; omega)
  intro v' w' h' hb'
  refine k v' w' ?_ hb'
  rw [List.length_append, List.map_append]
  exact (h'.perm (show _ = own 5 1 (.slice (some ⟨b, 0, none⟩) zs.length cap) zs.length (zs.map bv) * (own 5 1 v' (ys.length + zs.length) (ys.map bv ++ zs.map bv) * R) by ac_rfl)).right
theorem row_lit {w : World} {R : HP} (h : sat w R) (d : Int) : sat (w.alloc (.cells #[bv d] 5)) (own 5 1 (.slice (some ⟨w.heap.size, 0, none⟩) 1 1) ([d] : List Int).length (([d] : List Int).map bv) * R) :=
  sat.shut_own (n := 1) rfl (Nat.le_refl _) ((h.alloc _).shut_row rfl (by simp) (by decide) rfl)
set_option maxRecDepth 100000 in
theorem refp_num (n : Nat) : ∀ {w : World} {R : HP} (x : Int), x.toNat = n → sat w R → 0 ≤ x → x < 9223372036854775808 → Calls Try.prog 26 #[.int .i64 x] w (BytesR R (numB x.toNat) w) := by
  induction n using Nat.strongRecOn with
  | ind n ih =>
    intro w R x hn hs h0 hx
    by_cases hlt : x < 128
    · have b1 : decide (x < 128) = true := by simp [hlt]
      have g1 : IntKind.u8.wrap x = x := by
        have := byte_small x.toNat (by omega)
        rw [show ((x.toNat : Nat) : Int) = x by omega] at this
        exact this
      have e : numB x.toNat = [x] := by rw [numB_lt (by omega)]; congr 1; omega
      rw [e]
      have HS := Lib.hid (row_lit hs x)
      clear hs h0 hx hlt e hn
      go_enter Try.func26, Try.ntmps26
      go_wp2_with fail
      go_ret
      exact ⟨_, rfl, HS.out, Below.zero_alloc _ _⟩
    · have b1 : decide (x < 128) = false := by simp; omega
      obtain ⟨i0, hi, hz0, hz1, hz2⟩ := info_parts info_b8
      have H1 := Lib.hid (And.intro hi (And.intro hz0 (And.intro hz1 hz2)))
      obtain ⟨r, hr⟩ : ∃ r : Int, x % 128 = r := ⟨_, rfl⟩
      obtain ⟨q, hq⟩ : ∃ q : Int, x / 128 = q := ⟨_, rfl⟩
      obtain ⟨d, hd⟩ : ∃ d : Int, r + 128 = d := ⟨_, rfl⟩
      have m1 : x.tmod 128 = r := by rw [← hr]; exact Int.tmod_eq_emod_of_nonneg (by omega)
      have m2 : x.tdiv 128 = q := by rw [← hq]; exact Int.tdiv_eq_ediv_of_nonneg (by omega)
      have g1 : IntKind.i64.wrap r = r := IntWalk.i64_in _ (by omega)
      have g2 : IntKind.i64.wrap d = d := IntWalk.i64_in _ (by omega)
      have g3 : IntKind.i64.wrap q = q := IntWalk.i64_in _ (by omega)
      have g4 : IntKind.u8.wrap d = d := by
        have h : ∀ d : Int, 0 ≤ d → d < 256 → IntKind.u8.wrap d = d := fun d h1 h2 => by rw [IntKind.wrap_u8]; omega
        exact h d (by omega) (by omega)
      have e : numB x.toNat = [d] ++ numB q.toNat := by
        rw [numB_ge (by omega), List.singleton_append]
        congr 1
        · omega
        · congr 1; omega
      have hten := numB_ten (n := q.toNat) (by omega)
      have hp := numB_pos q.toNat
      have hC := ih q.toNat (by omega) q rfl (row_lit hs d) (by omega) (by omega)
      rw [e]
      have HS := Lib.hid (And.intro hten hp)
      clear hs h0 hx hlt e hn hr hq hi hz0 hz1 hz2 ih hten hp
      go_enter Try.func26, Try.ntmps26
      go_wp2_with fail
      refine hC.mono ?_
      clear hC
      rintro e w2 ⟨v2, rfl, h2, hb2⟩
      have HK := Lib.hid (And.intro h2 ((Below.zero_alloc w (.cells #[bv d] 5)).trans hb2))
      clear h2 hb2
      go_wp2_with (at_builtin; refine halt ?_)
      refine goon ?_
      obtain ⟨hi, hz0, hz1, hz2⟩ := H1.out
      refine wpList_append_bytes rfl (.tmp 12) (.tmp 15) rfl i0 hi hz0 hz1 hz2 _ v2 [d] (numB q.toNat) rfl R rfl ?_ HK.out.1 HS.out.2 (by have := HS.out.1; simp only [List.length_cons, List.length_nil]; omega)
      clear hi hz0 hz1 hz2
      intro v' w9 hs9 hb9
      have HQ := Lib.hid (And.intro hs9 hb9)
      clear hs9 hb9
      go_wp2_with fail
      go_ret
      exact ⟨v', rfl, HQ.out.1, HK.out.2.trans HQ.out.2⟩
theorem refp_signed {w : World} {R : HP} (hs : sat w R) (x : Int) (hx : -549755813888 ≤ x ∧ x ≤ 549755813888) : Calls Try.prog 29 #[.int .i64 x] w (BytesR R (zigB x) w) := by
  have hz := zig_bd hx
  have hC := refp_num (zigN x) ((zigN x : Nat) : Int) (by omega) hs (by omega) (by omega)
  rw [show ((zigN x : Nat) : Int).toNat = zigN x by omega] at hC
  by_cases h0 : x < 0
  · have b1 : decide (x < 0) = true := by simp [h0]
    rw [← zig_neg h0] at hC
    have g1 : IntKind.i64.wrap (-2 * x) = -2 * x := IntWalk.i64_in _ (by omega)
    have g2 : IntKind.i64.wrap (-2 * x - 1) = -2 * x - 1 := IntWalk.i64_in _ (by omega)
    clear hs hx h0 hz
    go_enter Try.func29, Try.ntmps29
    go_wp2_with fail
    refine hC.mono ?_
    clear hC
    rintro e w2 ⟨v2, rfl, h2, hb2⟩
    have HQ := Lib.hid (And.intro h2 hb2)
    clear h2 hb2
    go_wp2_with fail
    go_ret
    exact ⟨v2, rfl, HQ.out.1, HQ.out.2⟩
  · have b1 : decide (x < 0) = false := by simp; omega
    rw [← zig_pos h0] at hC
    have g1 : IntKind.i64.wrap (2 * x) = 2 * x := IntWalk.i64_in _ (by omega)
    clear hs hx h0 hz
    go_enter Try.func29, Try.ntmps29
    go_wp2_with fail
    refine hC.mono ?_
    clear hC
    rintro e w2 ⟨v2, rfl, h2, hb2⟩
    have HQ := Lib.hid (And.intro h2 hb2)
    clear h2 hb2
    go_wp2_with fail
    go_ret
    exact ⟨v2, rfl, HQ.out.1, HQ.out.2⟩
set_option maxRecDepth 100000 in
theorem refp_some {w : World} {R : HP} (hs : sat w R) (s : ByteArray) (hz : s.size ≤ 35184372088832) : Calls Try.prog 27 #[.string s] w (BytesR R (textB s) w) := by
  obtain ⟨i0, hi, hz0, hz1, hz2⟩ := info_parts info_b8
  have H1 := Lib.hid (And.intro hi (And.intro hz0 (And.intro hz1 hz2)))
  clear hi hz0 hz1 hz2
  have hC := refp_num s.size (s.size : Int) (by omega) hs (by omega) (by omega)
  rw [show ((s.size : Nat) : Int).toNat = s.size by omega] at hC
  have hten := numB_ten (n := s.size) (by omega)
  clear hs
  go_enter Try.func27, Try.ntmps27
  go_wp2_with fail
  refine hC.mono ?_
  clear hC
  rintro e w2 ⟨v2, rfl, h2, hb2⟩
  have H2 := Lib.hid (And.intro h2 (And.intro hb2 hten))
  clear h2 hb2 hten
  go_wp2_with (at_builtin; refine halt ?_)
  refine goon ?_
  obtain ⟨hi, hz0, hz1, hz2⟩ := H1.out
  refine wpList_append_str rfl (.tmp 5) (.tmp 6) 23 9 rfl 5 i0 Try.underlying23 Try.underlying9 hi hz0 hz1 hz2 v2 _ (numB s.size) rfl R s rfl ?_ rfl H2.out.1 (by have := H2.out.2.2; omega)
  clear hi hz0 hz1 hz2
  intro v' w9 hs9 hb9
  have HQ := Lib.hid (And.intro hs9 hb9)
  clear hs9 hb9
  go_wp2_with fail
  go_ret
  exact ⟨v', rfl, HQ.out.1, H2.out.2.1.trans HQ.out.2⟩
def inB (n l h : Int) : Bool := decide (l ≤ n ∧ n ≤ h)
theorem refp_in (w : World) (n l h : Int) : Calls Try.prog 47 #[.int .i64 n, .int .i64 l, .int .i64 h] w (Says (.bool (inB n l h)) w) := by
  by_cases h1 : n ≥ l
  · have b1 : decide (n ≥ l) = true := by simp [h1]
    have e : inB n l h = decide (n ≤ h) := by unfold inB; simp; omega
    rw [e]
    clear h1
    go_enter Try.func47, Try.ntmps47
    go_wp2_with fail
    go_ret
    exact says_ret0 rfl
  · have b1 : decide (n ≥ l) = false := by simp; omega
    have e : inB n l h = false := by unfold inB; simp; omega
    rw [e]
    clear h1
    go_enter Try.func47, Try.ntmps47
    go_wp2_with fail
    go_ret
    exact says_ret0 rfl
theorem refp_half (w : World) (n : Int) : Calls Try.prog 48 #[.int .i64 n] w (Says (.bool (wholeB n)) w) := by
  have hC := fun w' => refp_in w' n (-549755813888) 549755813888
  go_enter Try.func48, Try.ntmps48
  go_wp2_with fail
  refine (hC _).mono ?_
  clear hC
  rintro e w2 ⟨rfl, m2, rfl⟩
  go_wp2_with fail
  go_ret
  exact says_ret rfl
theorem refp_bit (w : World) (b : Bool) : Calls Try.prog 28 #[.bool b] w (Says (.int .u8 (if b then 1 else 0)) w) := by
  cases b
  · go_enter Try.func28, Try.ntmps28
    go_wp2_with fail
    go_ret
    exact says_ret0 rfl
  · go_enter Try.func28, Try.ntmps28
    go_wp2_with fail
    go_ret
    exact says_ret0 rfl
end Go.Proofs.Ytkjfplldfjmbaaa
