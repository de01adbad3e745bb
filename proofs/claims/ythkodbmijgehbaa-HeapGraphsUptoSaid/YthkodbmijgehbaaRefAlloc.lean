/- The reference's Alloc. -/
import Derived.Test.YthkodbmijgehbaaRefSet
import Derived.Test.YthkodbmijgehbaaSep3
namespace Go.Proofs.Ythkodbmijgehbaa
open Go.RowKit

theorem info_int : (Try.prog.info? 3).map (fun i => (i.zero, i.size, i.bytes)) = some (some (.int .i64 0), 1, 8) := by kernel_rfl

theorem u64_or_add' (i : Nat) (x y : Int) (hx : 0 ≤ x) (hx2 : x < 2 ^ i) (hy : 0 ≤ y) (hi : i < 64) (hs : 2 ^ i * y < 18446744073709551616) : bits .or .u64 (2 ^ i * y) x = x + 2 ^ i * y := by
  obtain ⟨m, rfl⟩ := Int.eq_ofNat_of_zero_le hx
  obtain ⟨n, rfl⟩ := Int.eq_ofNat_of_zero_le hy
  have hp : ((2 ^ i : Nat) : Int) = (2 : Int) ^ i := by simp
  have hlt : 2 ^ i < 18446744073709551616 := Nat.pow_lt_pow_right (by decide) (show i < 64 from hi)
  have e : ((2 : Int) ^ i * (n : Int)) = ((2 ^ i * n : Nat) : Int) := by simp
  rw [e] at hs ⊢
  have hm : m < 2 ^ i := by omega
  rw [u64_or_nat _ _ (by omega) (by omega), ← Nat.two_pow_add_eq_or_of_lt hm]
  omega
theorem header_bits' (k t r : Int) (a : 1 ≤ k) (b : k ≤ 63) (c : 0 ≤ t) (d : 0 ≤ r) (e : t ≤ 1048576) (f : r ≤ 1048576) :
    bits .or .u64 (bits .or .u64 (bits .or .u64 (r * 4294967296) (t * 256)) (k * 4)) 3 = headerOf k t r := by
  have h1 := u64_or_add' 32 (t * 256) r (by omega) (by omega) (by omega) (by decide) (by omega)
  have h2 := u64_or_add' 8 (k * 4) (t + 16777216 * r) (by omega) (by omega) (by omega) (by decide) (by omega)
  have h3 := u64_or_add' 2 3 (k + 64 * t + 1073741824 * r) (by omega) (by omega) (by omega) (by decide) (by omega)
  simp only [show (2 : Int) ^ 2 = 4 from rfl, show (2 : Int) ^ 8 = 256 from rfl, show (2 : Int) ^ 32 = 4294967296 from rfl] at h1 h2 h3
  rw [Int.mul_comm r, h1, show t * 256 + 4294967296 * r = 256 * (t + 16777216 * r) by omega, h2, show k * 4 + 256 * (t + 16777216 * r) = 4 * (k + 64 * t + 1073741824 * r) by omega, h3]
  unfold headerOf; omega

/-- While an object is laid: its place is told, its words are coming. -/
def Mid (w : World) (g : Nat) (S : HS) (bh ch bw cw : Nat) (ws : List Int) (R : HP) : Prop :=
  sat w (blk g (.cells #[i64 S.size, .slice (some ⟨bw, 0, none⟩) ws.length cw, .slice (some ⟨bh, 0, none⟩) ((headsOf S.bs).length + 1) ch, i64 S.times] 109 (0, 0)) * (row 28 1 bw cw (ws.map u64) * (row 3 1 bh ch ((headsOf S.bs).map hVal ++ [.int .i64 (S.ws.length : Int)]) * R)))

section
variable {w : World} {g : Nat} {S : HS} {bh ch bw cw : Nat} {ws : List Int} {R : HP}
theorem Mid.c1 (h : Mid w g S bh ch bw cw ws R) : w.cell? ⟨g, 1, none⟩ = some (.slice (some ⟨bw, 0, none⟩) ws.length cw) := (h.left.cell 1).trans rfl
theorem Mid.f1 (h : Mid w g S bh ch bw cw ws R) : w.frozen? ⟨g, 1, none⟩ = false := h.left.frozen 1
theorem Mid.alloc (h : Mid w g S bh ch bw cw ws R) (o : Obj) : Mid (w.alloc o) g S bh ch bw cw ws R := (sat.alloc h o).right
theorem Mid.cap (h : Mid w g S bh ch bw cw ws R) : ws.length ≤ cw := by
  have := h.right.row_bounds.1; simpa using this
/-- The words, ready for an append. -/
theorem Mid.own (h : Mid w g S bh ch bw cw ws R) : sat w (own 28 1 (.slice (some ⟨bw, 0, none⟩) ws.length cw) ws.length (ws.map u64) * (blk g (.cells #[i64 S.size, .slice (some ⟨bw, 0, none⟩) ws.length cw, .slice (some ⟨bh, 0, none⟩) ((headsOf S.bs).length + 1) ch, i64 S.times] 109 (0, 0)) * (row 3 1 bh ch ((headsOf S.bs).map hVal ++ [.int .i64 (S.ws.length : Int)]) * R))) := by
  refine sat.shut_own (by simp) h.cap ?_
  refine sat.perm h ?_
  ac_rfl
/-- Behind an append and the store of what it gave. -/
theorem Mid.back {xs : List Int} {n : Nat} {bw' cw' : Nat} {vs : List Value} (h : sat w (row 28 1 bw' cw' (ws.map u64 ++ vs) * (blk g (.cells #[i64 S.size, .slice (some ⟨bw, 0, none⟩) ws.length cw, .slice (some ⟨bh, 0, none⟩) ((headsOf S.bs).length + 1) ch, i64 S.times] 109 (0, 0)) * (row 3 1 bh ch ((headsOf S.bs).map hVal ++ [.int .i64 (S.ws.length : Int)]) * R))))
    (hv : vs = xs.map u64) (hn : n = xs.length) : Mid (w.setCell ⟨g, 1, none⟩ (.slice (some ⟨bw', 0, none⟩) (ws.length + n) cw')) g S bh ch bw' cw' (ws ++ xs) R ∧ w.cell? ⟨g, 1, none⟩ = some (.slice (some ⟨bw, 0, none⟩) ws.length cw) ∧ w.frozen? ⟨g, 1, none⟩ = false := by
  subst hv hn
  have h1 : sat w (blk g (.cells #[i64 S.size, .slice (some ⟨bw, 0, none⟩) ws.length cw, .slice (some ⟨bh, 0, none⟩) ((headsOf S.bs).length + 1) ch, i64 S.times] 109 (0, 0)) * (row 28 1 bw' cw' (ws.map u64 ++ xs.map u64) * (row 3 1 bh ch ((headsOf S.bs).map hVal ++ [.int .i64 (S.ws.length : Int)]) * R))) := h.perm (by ac_rfl)
  refine ⟨?_, (h1.left.cell 1).trans rfl, h1.left.frozen 1⟩
  have h2 := h1.setCell (off := 1) (.slice (some ⟨bw', 0, none⟩) (ws.length + xs.length) cw')
  unfold Mid
  rw [List.length_append, List.map_append]
  exact h2
end

/-- The loop: n of the tagged fields are laid. -/
def RARel (w : World) (g : Nat) (S : HS) (bh ch : Nat) (hd t : Int) (R : HP) (i : Value) (wr : World) : Prop :=
  ∃ n bw cw : Nat, n ≤ t.toNat ∧ i = .int .i64 n ∧ Mid wr g S bh ch bw cw (S.ws ++ hd :: List.replicate n 2) R ∧ Below 0 w wr

section
variable {w : World} {V : RV} {S : HS} {R : HP}

set_option maxRecDepth 100000 in
set_option maxHeartbeats 1000000 in
theorem RefW.Alloc_no (h : RefW w V S R) (k t r : Int) (hn : S.room k t r = false) :
    Calls Try.prog 62 #[.pointer (some ⟨V.g, 0, none⟩), .int .i64 k, .int .i64 t, .int .i64 r] w (RLeaves (.tuple #[.int .u64 0, .bool false]) V S R w) := by
  have hcase : k < 1 ∨ (1 ≤ k ∧ 63 < k) ∨ (1 ≤ k ∧ k ≤ 63 ∧ t < 0) ∨ (1 ≤ k ∧ k ≤ 63 ∧ 0 ≤ t ∧ 1048576 < t) ∨ (1 ≤ k ∧ k ≤ 63 ∧ 0 ≤ t ∧ t ≤ 1048576 ∧ r < 0) ∨ (1 ≤ k ∧ k ≤ 63 ∧ 0 ≤ t ∧ t ≤ 1048576 ∧ 0 ≤ r ∧ 1048576 < r) ∨ (1 ≤ k ∧ k ≤ 63 ∧ 0 ≤ t ∧ t ≤ 1048576 ∧ 0 ≤ r ∧ r ≤ 1048576 ∧ (S.size : Int) < S.ws.length + 1 + t + r) := by
    unfold HS.room at hn
    simp only [Bool.and_eq_false_iff, decide_eq_false_iff_not] at hn
    omega
  clear hn
  rcases hcase with a | ⟨a, b⟩ | ⟨a, b, c⟩ | ⟨a, b, c, d⟩ | ⟨a, b, c, d, e⟩ | ⟨a, b, c, d, e, f⟩ | ⟨a, b, c, d, e, f, g⟩
  · go_enter Try.func62, Try.ntmps62
    go_wp2_with fail
    go_quiet (fail)
    go_wp2_with fail
    go_ret2
    exact ⟨rfl, h.drewN _, drewN_below0 _ _⟩
  · have h1 : decide (k < 1) = false := by simp; omega
    have h2 : decide (63 < k) = true := by simp; omega
    clear a b
    go_enter Try.func62, Try.ntmps62
    go_wp2_with fail
    go_quiet (fail)
    go_wp2_with fail
    go_ret2
    exact ⟨rfl, h.drewN _, drewN_below0 _ _⟩
  · have h1 : decide (k < 1) = false := by simp; omega
    have h2 : decide (63 < k) = false := by simp; omega
    have h3 : decide (t < 0) = true := by simp; omega
    clear a b c
    go_enter Try.func62, Try.ntmps62
    go_wp2_with fail
    go_quiet (fail)
    go_wp2_with fail
    go_ret2
    exact ⟨rfl, h.drewN _, drewN_below0 _ _⟩
  · have h1 : decide (k < 1) = false := by simp; omega
    have h2 : decide (63 < k) = false := by simp; omega
    have h3 : decide (t < 0) = false := by simp; omega
    have h4 : decide (1048576 < t) = true := by simp; omega
    clear a b c d
    go_enter Try.func62, Try.ntmps62
    go_wp2_with fail
    go_quiet (fail)
    go_wp2_with fail
    go_ret2
    exact ⟨rfl, h.drewN _, drewN_below0 _ _⟩
  · have h1 : decide (k < 1) = false := by simp; omega
    have h2 : decide (63 < k) = false := by simp; omega
    have h3 : decide (t < 0) = false := by simp; omega
    have h4 : decide (1048576 < t) = false := by simp; omega
    have h5 : decide (r < 0) = true := by simp; omega
    clear a b c d e
    go_enter Try.func62, Try.ntmps62
    go_wp2_with fail
    go_quiet (fail)
    go_wp2_with fail
    go_ret2
    exact ⟨rfl, h.drewN _, drewN_below0 _ _⟩
  · have h1 : decide (k < 1) = false := by simp; omega
    have h2 : decide (63 < k) = false := by simp; omega
    have h3 : decide (t < 0) = false := by simp; omega
    have h4 : decide (1048576 < t) = false := by simp; omega
    have h5 : decide (r < 0) = false := by simp; omega
    have h6 : decide (1048576 < r) = true := by simp; omega
    clear a b c d e f
    go_enter Try.func62, Try.ntmps62
    go_wp2_with fail
    go_quiet (fail)
    go_wp2_with fail
    go_ret2
    exact ⟨rfl, h.drewN _, drewN_below0 _ _⟩
  · have hc0 := h.v.c0
    have hc1 := h.v.c1
    have hl := h.v.len
    have h1 : decide (k < 1) = false := by simp; omega
    have h2 : decide (63 < k) = false := by simp; omega
    have h3 : decide (t < 0) = false := by simp; omega
    have h4 : decide (1048576 < t) = false := by simp; omega
    have h5 : decide (r < 0) = false := by simp; omega
    have h6 : decide (1048576 < r) = false := by simp; omega
    have h7 : decide ((S.size : Int) < S.ws.length + 1 + t + r) = true := by simp; omega
    have s1 : IntKind.i64.wrap ((S.ws.length : Int) + 1) = S.ws.length + 1 := IntWalk.i64_in _ (by omega)
    have s2 : IntKind.i64.wrap ((S.ws.length : Int) + 1 + t) = S.ws.length + 1 + t := IntWalk.i64_in _ (by omega)
    have s3 : IntKind.i64.wrap ((S.ws.length : Int) + 1 + t + r) = S.ws.length + 1 + t + r := IntWalk.i64_in _ (by omega)
    clear a b c d e f g hl
    go_enter Try.func62, Try.ntmps62
    go_wp2_with fail
    go_quiet (fail)
    go_wp2_with fail
    go_ret2
    exact ⟨rfl, h.drewN _, drewN_below0 _ _⟩

def RAllocPost (V : RV) (S S' : HS) (R : HP) (w : World) (e : Ending) (w' : World) : Prop :=
  e = .returned (.tuple #[.int .u64 (4 * S.ws.length), .bool true]) ∧ Below 0 w w' ∧ ∃ V' : RV, V'.g = V.g ∧ RefW w' V' S' R

set_option maxRecDepth 100000 in
set_option maxHeartbeats 1000000 in
theorem RefW.Alloc_yes (h : RefW w V S R) (k t r : Int) (hn : S.room k t r = true) :
    Calls Try.prog 62 #[.pointer (some ⟨V.g, 0, none⟩), .int .i64 k, .int .i64 t, .int .i64 r] w (RAllocPost V S (S.alloc k t r) R w) := by
  have hc0 := h.v.c0
  have hc1 := h.v.c1
  have hc2 := h.v.c2
  have hl := h.v.len
  have hhl := heads_len S h.ok
  obtain ⟨a, b, c, d, e, f, g⟩ := room_bd hn
  have HN := Lib.hid hn; clear hn
  have h1 : decide (k < 1) = false := by simp; omega
  have h2 : decide (63 < k) = false := by simp; omega
  have h3 : decide (t < 0) = false := by simp; omega
  have h4 : decide (1048576 < t) = false := by simp; omega
  have h5 : decide (r < 0) = false := by simp; omega
  have h6 : decide (1048576 < r) = false := by simp; omega
  have h7 : decide ((S.size : Int) < S.ws.length + 1 + t + r) = false := by simp; omega
  have s1 : IntKind.i64.wrap ((S.ws.length : Int) + 1) = S.ws.length + 1 := IntWalk.i64_in _ (by omega)
  have s2 : IntKind.i64.wrap ((S.ws.length : Int) + 1 + t) = S.ws.length + 1 + t := IntWalk.i64_in _ (by omega)
  have s3 : IntKind.i64.wrap ((S.ws.length : Int) + 1 + t + r) = S.ws.length + 1 + t + r := IntWalk.i64_in _ (by omega)
  have hsz := h.ok.hi
  obtain ⟨i0, hi, hz0, hz1, hz2⟩ := info_parts info_u64
  obtain ⟨j0, hj, hy0, hy1, hy2⟩ := info_parts info_int
  have H1 := Lib.hid (And.intro hi (And.intro hz0 (And.intro hz1 hz2)))
  have H2 := Lib.hid (And.intro hj (And.intro hy0 (And.intro hy1 hy2)))
  clear hi hz0 hz1 hz2 hj hy0 hy1 hy2
  go_enter Try.func62, Try.ntmps62
  go_wp2_with fail
  go_quiet (fail)
  clear h1 h2 h3 h4 h5 h6 h7 s1 s2 s3
  go_wp2_with (at_builtin; refine halt ?_)
  refine goon ?_
  have hs0 := (h.drewN nq).s.alloc (.cells #[.int .i64 (S.ws.length : Int)] 3)
  have hb0 : Below 0 w ((w.drewN nq).alloc (.cells #[.int .i64 (S.ws.length : Int)] 3)) := (drewN_below0 _ _).trans (Below.zero_alloc _ _)
  have hnew : ((w.drewN nq).alloc (.cells #[.int .i64 (S.ws.length : Int)] 3)).cell? ⟨w.heap.size, 0, none⟩ = some (.int .i64 (S.ws.length : Int)) := (hs0.left.cell 0).trans rfl
  have hs1 : sat ((w.drewN nq).alloc (.cells #[.int .i64 (S.ws.length : Int)] 3)) (own 3 1 (V.vh S) (headsOf S.bs).length ((headsOf S.bs).map hVal) * (blk V.g (.cells #[i64 S.size, .slice (some ⟨V.bw, 0, none⟩) S.ws.length V.cw, V.vh S, i64 S.times] 109 (0, 0)) * (row 28 1 V.bw V.cw (S.ws.map u64) * R))) := hs0.right.perm (by unfold isRef; ac_rfl)
  generalize (w.drewN nq).alloc (.cells #[.int .i64 (S.ws.length : Int)] 3) = w1 at *
  obtain ⟨hj, hy0, hy1, hy2⟩ := H2.out
  refine wpList_append_sat rfl (.tmp 60) (.tmp 62) 22 rfl 3 j0 (.int .i64 0) 1 8 Try.underlying22 hj hy0 hy1 hy2 rfl (V.vh S) (headsOf S.bs).length ((headsOf S.bs).map hVal) rfl _ ⟨w.heap.size, 0, none⟩ 1 1 [.int .i64 (S.ws.length : Int)] rfl ?_ hs1 rfl ?c1 ?c2 (by omega) (by unfold maxLen; omega)
  case c1 => intro j u hj; match j, hj with | 0, hj => simp at hj; subst hj; simpa [Addr.add] using hnew
  case c2 => intro u hu; simp at hu; subst hu; rfl
  clear hj hy0 hy1 hy2 hnew hs0 hs1
  intro v' w2 hs2 hb2
  obtain ⟨bh, ch, rfl, hn2, hl2, hr2⟩ := hs2.own_some (by omega)
  have hs3 : sat w2 (blk V.g (.cells #[i64 S.size, .slice (some ⟨V.bw, 0, none⟩) S.ws.length V.cw, V.vh S, i64 S.times] 109 (0, 0)) * (row 28 1 V.bw V.cw (S.ws.map u64) * (row 3 1 bh ch ((headsOf S.bs).map hVal ++ [.int .i64 (S.ws.length : Int)]) * R))) := hr2.perm (by ac_rfl)
  have k1 := (hs3.left.cell 2).trans rfl
  have k2 := hs3.left.frozen 2
  clear hs2 hr2 hc0 hc1 hc2
  go_upto_region 5 with (fail)
  have hs4 := hs3.setCell (off := 2) (.slice (some ⟨bh, 0, none⟩) ((headsOf S.bs).length + 1) ch)
  have hb4 := (hb0.trans hb2).setCell (p := ⟨V.g, 2, none⟩) (Nat.zero_le _) (.slice (some ⟨bh, 0, none⟩) ((headsOf S.bs).length + 1) ch)
  have hm : Mid (w2.setCell ⟨V.g, 2, none⟩ (.slice (some ⟨bh, 0, none⟩) ((headsOf S.bs).length + 1) ch)) V.g S bh ch V.bw V.cw S.ws R := by
    refine hs4.perm ?_
    simp only [List.setIfInBounds_toArray, List.set_cons_zero, List.set_cons_succ]
  clear hs3 hs4 k1 k2 hb0 hb2
  generalize w2.setCell ⟨V.g, 2, none⟩ (.slice (some ⟨bh, 0, none⟩) ((headsOf S.bs).length + 1) ch) = w3 at *
  have hwc := h.v.wc
  have hsT := h.ok.times
  clear hl2
  have k1 := hm.c1
  go_wp2_with (at_builtin; refine halt ?_)
  refine goon ?_
  rw [header_bits' k t r a b c d e f]
  have hm2 := hm.alloc (.cells #[.int .u64 (headerOf k t r)] 28)
  have hb5 : Below 0 w (w3.alloc (.cells #[.int .u64 (headerOf k t r)] 28)) := hb4.trans (Below.zero_alloc _ _)
  have hnew : (w3.alloc (.cells #[.int .u64 (headerOf k t r)] 28)).cell? ⟨w3.heap.size, 0, none⟩ = some (.int .u64 (headerOf k t r)) := by simp
  clear hm hb4
  generalize w3.alloc (.cells #[.int .u64 (headerOf k t r)] 28) = w4 at *
  obtain ⟨hi, hz0, hz1, hz2⟩ := H1.out
  refine wpList_append_one rfl (.tmp 70) (.tmp 83) 33 rfl 28 i0 (.int .u64 0) 8 Try.underlying33 hi hz0 hz1 hz2 rfl _ S.ws.length (S.ws.map u64) rfl _ w3.heap.size (.int .u64 (headerOf k t r)) rfl ?_ hm2.own hnew rfl (by omega) (by unfold maxLen; omega)
  clear hi hz0 hz1 hz2 hnew
  intro v' w5 hs5 hb6
  obtain ⟨bw', cw', rfl, hn5, hl5, hr5⟩ := hs5.own_some (by omega)
  obtain ⟨hm6, k2, k3⟩ := Mid.back (xs := [headerOf k t r]) hr5 rfl rfl
  have hb7 := (hb5.trans hb6).setCell (p := ⟨V.g, 1, none⟩) (Nat.zero_le _) (.slice (some ⟨bw', 0, none⟩) (S.ws.length + [headerOf k t r].length) cw')
  clear k1 hs5 hr5 hl5 hm2 hb5 hb6
  go_upto_region 6 with (fail)
  simp only [List.length_cons, List.length_nil, Nat.zero_add] at hm6 hb7
  generalize w5.setCell ⟨V.g, 1, none⟩ (.slice (some ⟨bw', 0, none⟩) (S.ws.length + 1) cw') = w6 at *
  clear k2 k3 hn5
  go_wp2_with fail
  go_loopw [11] (RARel w V.g S bh ch (headerOf k t r) t R) (fun i _ => t.toNat - (intOf i).toNat)
  case atStart => exact ⟨0, bw', cw', Nat.zero_le _, rfl, by simpa using hm6, hb7⟩
  case round =>
    clear hm6 hb7
    obtain ⟨n, bw, cw, hn, rfl, hm, hb⟩ := hrel
    have hlen : (S.ws ++ headerOf k t r :: List.replicate n 2).length = S.ws.length + 1 + n := by simp; omega
    have hnext : (S.ws ++ headerOf k t r :: List.replicate n 2) ++ [2] = S.ws ++ headerOf k t r :: List.replicate (n + 1) 2 := by
      rw [List.append_assoc, List.cons_append, ← List.replicate_succ']
    generalize hws : S.ws ++ headerOf k t r :: List.replicate n 2 = ws at hm hlen hnext
    have hcap := hm.cap
    have k1 := hm.c1
    have hl1 : (ws.length : Int) ≤ S.ws.length + 1 + n := by omega
    have hl2 : 0 < ws.length := by omega
    have HL := Lib.hid hlen
    have HX := Lib.hid hnext
    have HW := Lib.hid hws
    clear hlen hnext hws
    by_cases hlt : n < t.toNat
    · have hlt2 : (n : Int) < t := by omega
      go_wp2_with (at_builtin; refine halt ?_)
      refine goon ?_
      have hm2 := hm.alloc (.cells #[.int .u64 2] 28)
      have hb2 : Below 0 w (wr.alloc (.cells #[.int .u64 2] 28)) := hb.trans (Below.zero_alloc _ _)
      have hnew : (wr.alloc (.cells #[.int .u64 2] 28)).cell? ⟨wr.heap.size, 0, none⟩ = some (.int .u64 2) := by simp
      clear hm hb k1
      generalize wr.alloc (.cells #[.int .u64 2] 28) = w4 at *
      obtain ⟨hi, hz0, hz1, hz2⟩ := H1.out
      refine wpList_append_one rfl (.tmp 96) (.tmp 97) 33 rfl 28 i0 (.int .u64 0) 8 Try.underlying33 hi hz0 hz1 hz2 rfl _ ws.length (ws.map Go.Proofs.Ythkodbmijgehbaa.u64) rfl _ wr.heap.size (.int .u64 2) rfl ?_ hm2.own hnew rfl (by omega) (by unfold maxLen; omega)
      clear hi hz0 hz1 hz2 hnew
      intro v' w5 hs5 hb6
      obtain ⟨bw', cw', rfl, hn5, hl5, hr5⟩ := hs5.own_some (by omega)
      obtain ⟨hm6, k2, k3⟩ := Mid.back (xs := [2]) hr5 rfl rfl
      have hb7 := (hb2.trans hb6).setCell (p := ⟨V.g, 1, none⟩) (Nat.zero_le _) (.slice (some ⟨bw', 0, none⟩) (ws.length + 1) cw')
      clear hs5 hr5 hl5 hm2 hb2 hb6
      rw [HX.out] at hm6
      have HM := Lib.hid (And.intro hm6 hb7)
      clear hm6 hb7 
      go_wp2_with fail
      go_roundw
      case rel => exact ⟨n + 1, bw', cw', by omega, by go_num, HM.out.1, HM.out.2⟩
      case measure => simp [intOf]; omega
    · obtain rfl : n = t.toNat := by omega
      have hge : t ≤ (t.toNat : Int) := by omega
      have hrr : (r.toNat : Int) = r := by omega
      go_wp2_with (at_builtin; refine halt ?_)
      refine goon ?_
      obtain ⟨hi, hz0, hz1, hz2⟩ := H1.out
      rw [← hrr]
      refine wpList_append_zeros rfl (.tmp 105) (.tmp 106) 33 3 rfl 28 .i64 i0 (.int .u64 0) 8 Try.underlying33 Try.underlying3 hi hz0 hz1 hz2 rfl rfl _ ws.length (ws.map Go.Proofs.Ythkodbmijgehbaa.u64) rfl _ r.toNat rfl ?_ hm.own (by omega) (by omega) (by omega)
      clear hi hz0 hz1 hz2
      intro v' w5 hs5 hb6
      obtain ⟨bw', cw', rfl, hn5, hl5, hr5⟩ := hs5.own_some (by omega)
      obtain ⟨hm6, k2, k3⟩ := Mid.back (xs := List.replicate r.toNat 0) (n := r.toNat) hr5 (by simp) (by simp)
      have hb7 := (hb.trans hb6).setCell (p := ⟨V.g, 1, none⟩) (Nat.zero_le _) (.slice (some ⟨bw', 0, none⟩) (ws.length + r.toNat) cw')
      clear hs5 hr5 hl5 hb hb6 k1
      have HM := Lib.hid (And.intro hm6 hb7)
      clear hm6 hb7
      go_wp2_with fail
      go_ret2
      refine ⟨by rw [Int.mul_comm]; rfl, HM.out.2, ⟨V.g, bw', cw', some bh, ch⟩, rfl, ?_⟩
      have hok : SOk (S.alloc k t r) := by
        have hal := alloc_len HN.out
        have := h.ok.used
        have hsz : (S.alloc k t r).size = S.size := by rw [alloc_ws HN.out]
        refine ⟨?_, ?_, ?_, ?_, ?_, ?_⟩
        · rw [hsz]; exact h.ok.lo
        · rw [hsz]; exact h.ok.hi
        · rw [hsz]; omega
        · rw [alloc_ws HN.out]; exact wf_alloc h.ok.wf a b c d e f
        · rw [alloc_ws HN.out]; exact h.ok.times
        · rw [alloc_ws HN.out]; exact ptr_alloc h.ok.wf h.ok.ptr a b c d e f
      refine ⟨?_, hok⟩
      have hm := HM.out.1
      have hw2 : ws ++ List.replicate r.toNat 0 = S.ws ++ objWords k t r := by rw [← HW.out]; simp [objWords]
      rw [hw2] at hm
      have hwl : ws.length + r.toNat = (S.ws ++ objWords k t r).length := by rw [← hw2]; simp
      have hhd : headsOf (S.alloc k t r).bs = headsOf S.bs ++ [S.ws.length] := by
        rw [alloc_ws HN.out, show 1 + t.toNat + r.toNat = (t.toNat + r.toNat) + 1 by omega, headsOf_laid, h.ok.wf.len]
      unfold isRef RV.vh
      rw [hhd, alloc_ws HN.out]
      rw [hwl] at hm ⊢
      unfold Mid at hm
      have h9 := hm.perm (Q := row 3 1 bh ch ((headsOf S.bs).map hVal ++ [.int .i64 (S.ws.length : Int)]) * (blk V.g (.cells #[i64 S.size, .slice (some ⟨bw', 0, none⟩) (S.ws ++ objWords k t r).length cw', .slice (some ⟨bh, 0, none⟩) ((headsOf S.bs).length + 1) ch, i64 S.times] 109 (0, 0)) * (row 28 1 bw' cw' ((S.ws ++ objWords k t r).map Go.Proofs.Ythkodbmijgehbaa.u64) * R))) (by ac_rfl)
      have h10 := h9.shut_own (n := (headsOf S.bs).length + 1) (by simp) hn2
      refine h10.perm ?_
      simp only [List.map_append, List.map_cons, List.map_nil, List.length_append, List.length_cons, List.length_nil, Nat.zero_add, Option.map]
      ac_rfl

theorem RefW.Alloc (h : RefW w V S R) (k t r : Int) :
    Calls Try.prog 62 #[.pointer (some ⟨V.g, 0, none⟩), .int .i64 k, .int .i64 t, .int .i64 r] w fun e w' =>
      e = .returned (.tuple #[.int .u64 (if S.room k t r = true then 4 * S.ws.length else 0), .bool (S.room k t r)]) ∧ Below 0 w w' ∧ ∃ V' : RV, V'.g = V.g ∧ RefW w' V' (S.alloc k t r) R := by
  cases hr : S.room k t r with
  | true =>
    refine (h.Alloc_yes k t r hr).mono ?_
    rintro e w' ⟨he, hb, hv⟩
    exact ⟨by simpa using he, hb, hv⟩
  | false =>
    refine (h.Alloc_no k t r hr).mono ?_
    rintro e w' ⟨he, hw, hb⟩
    refine ⟨by simpa using he, hb, V, rfl, ?_⟩
    unfold HS.alloc; rw [if_neg (by rw [hr]; simp)]; exact hw
end
end Go.Proofs.Ythkodbmijgehbaa
