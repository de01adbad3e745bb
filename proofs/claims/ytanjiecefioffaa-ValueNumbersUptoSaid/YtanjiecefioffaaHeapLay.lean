/- Objects are laid: Words, empty, New, lay, Alloc. -/
import Derived.Test.YtanjiecefioffaaHeapSet
import Derived.Test.YtanjiecefioffaaSep2
namespace Go.Proofs.Ytanjiecefioffaa
open Go.RowKit

theorem info_u64 : (Try.prog.info? 22).map (fun i => (i.zero, i.size, i.bytes)) = some (some (.int .u64 0), 1, 8) := by kernel_rfl
theorem info_bool : (Try.prog.info? 4).map (fun i => (i.zero, i.size, i.bytes)) = some (some (.bool false), 1, 1) := by kernel_rfl

/-- The walk halts here: the goal is behind a name. -/
def Halt' (p : Prop) : Prop := p
theorem halt {p : Prop} (h : Halt' p) : p := h
theorem goon {p : Prop} (h : p) : Halt' p := h

/-- It answers a slice of its own that holds xs. -/
def Lists (e sz n : Nat) (xs : List Value) (R : HP) (w : World) (en : Ending) (w' : World) : Prop := ∃ v, en = .returned v ∧ sat w' (own e sz v n xs * R) ∧ Below 0 w w'

section
variable {w : World} {V : HV} {S : HS} {R : HP}

theorem cells_of {w : World} {b n : Nat} {l : List Value} (h : ∀ j v, l[j]? = some v → w.cell? ⟨b, n + j, none⟩ = some v) : ∀ j u, l[j]? = some u → w.cell? ((⟨b, n, none⟩ : Addr).add j) = some u := by
  intro j u hu
  have hadd : (⟨b, n, none⟩ : Addr).add j = ⟨b, n + j, none⟩ := by unfold Addr.add; split <;> simp_all
  rw [hadd]; exact h j u hu
theorem map_cells {α : Type} {w : World} {b n : Nat} {l : List α} {f : α → Value} (h : ∀ j x, l[j]? = some x → w.cell? ⟨b, n + j, none⟩ = some (f x)) : ∀ j v, (l.map f)[j]? = some v → w.cell? ⟨b, n + j, none⟩ = some v := by
  intro j v hv
  rw [List.getElem?_map] at hv
  cases hl : l[j]? with
  | none => rw [hl] at hv; cases hv
  | some x => rw [hl] at hv; cases hv; exact h j x hl
theorem one_map {α : Type} {l : List α} {f : α → Value} (h : ∀ x, (f x).oneCell' = true) : ∀ u ∈ l.map f, u.oneCell' = true := by
  intro u hu
  obtain ⟨x, _, rfl⟩ := List.mem_map.1 hu
  exact h x

set_option maxHeartbeats 400000 in
theorem HeapW.Words (h : HeapW w V S R) : Calls Try.prog 19 #[.pointer (some ⟨V.g, 0, none⟩)] w (Lists 22 1 S.ws.length (S.ws.map u64) (isHeap V S * R) w) := by
  obtain ⟨i0, hi, hz0, hz1, hz2⟩ := info_parts info_u64
  have hcw := h.v.cw
  have hl := h.v.len
  go_enter Try.func19, Try.ntmps19
  go_wp2_with fail
  refine (h.v.half).mono ?_
  rintro e w' ⟨rfl, n, rfl⟩
  go_wp2_with (at_builtin; refine wpList_append_sat (w := w.drewN n) rfl (.const (.slice none 0 0)) (.tmp 7) 35 rfl 22 i0 (.int .u64 0) 1 8 Try.underlying35 hi hz0 hz1 hz2 rfl _ 0 [] rfl (isHeap V S * R) ⟨V.bw, 0, none⟩ S.ws.length V.cw (S.ws.map u64) rfl ?_ ?hnil ?c1 ?hcl ?c2 ?c3 ?c4; intro v' w' hs' hb')
  rotate_left
  case hnil => exact sat.nil_own (e := 22) (sz := 1) (h.drewN n).s
  case c1 => simp
  case hcl => exact cells_of (map_cells (by simpa using h.v.hw))
  case c2 => exact one_map fun _ => rfl
  case c3 => omega
  case c4 => unfold maxLen; omega
  rw [Nat.zero_add, List.nil_append] at hs'
  go_wp2_with fail
  go_ret
  exact ⟨_, rfl, hs', (drewN_below0 _ _).trans hb'⟩

theorem pair_set {cs : Array Value} {off : Nat} {u v : Value} (h : off + 1 < cs.size) : ((cs.setIfInBounds off u).setIfInBounds (off + 1) v)[off]? = some u ∧ ((cs.setIfInBounds off u).setIfInBounds (off + 1) v)[off + 1]? = some v := by
  constructor
  · simp [Array.getElem?_setIfInBounds]; omega
  · simp [Array.getElem?_setIfInBounds]; omega

def laid (m : Nat) : List Bool := true :: List.replicate (m - 1) false

theorem laid_set (bs : List Bool) (n m : Nat) (h : bs.length = n) (h0 : 0 < m) : (bs.map Value.bool ++ List.replicate m (Value.bool false)).set n (Value.bool true) = (bs ++ laid m).map Value.bool := by
  obtain ⟨m, rfl⟩ : ∃ k, m = k + 1 := ⟨m - 1, by omega⟩
  rw [List.set_append_right _ _ (by simp [h])]
  simp [h, laid, List.replicate_succ]

/-- What lay leaves. -/
def LayPost (g off : Nat) (cs : Array Value) (T : Nat) (ws : List Int) (bs : List Bool) (xs : List Int) (R : HP) (w : World) (e : Ending) (w' : World) : Prop :=
  e = .returned (.int .u64 (4 * ws.length)) ∧ Below 0 w w' ∧ ∃ bw cw bb cb, ws.length + xs.length ≤ cw ∧ ws.length + xs.length ≤ cb ∧
    sat w' (blk g (.cells ((cs.setIfInBounds off (.slice (some ⟨bw, 0, none⟩) (ws.length + xs.length) cw)).setIfInBounds (off + 1) (.slice (some ⟨bb, 0, none⟩) (ws.length + xs.length) cb)) T (0, 0)) *
      (row 22 1 bw cw ((ws ++ xs).map u64) * (row 4 1 bb cb ((bs ++ laid xs.length).map .bool) * R)))

set_option maxHeartbeats 1000000 in
theorem lay_any (g off bw cw bb cb ab ao m c : Nat) (cs : Array Value) (T : Nat) (ws : List Int) (bs : List Bool) (xs : List Int)
    (hs : sat w (blk g (.cells cs T (0, 0)) * (row 22 1 bw cw (ws.map u64) * (row 4 1 bb cb (bs.map .bool) * R))))
    (h1 : cs[off]? = some (.slice (some ⟨bw, 0, none⟩) ws.length cw)) (h2 : cs[off + 1]? = some (.slice (some ⟨bb, 0, none⟩) bs.length cb))
    (hwc : ws.length ≤ cw) (hbc : bs.length ≤ cb) (hl : bs.length = ws.length) (hp : 0 < ws.length) (hm : xs.length = m) (hm0 : 0 < m) (hn : ws.length + m ≤ 2097152)
    (hx : ∀ j x, xs[j]? = some x → w.cell? ⟨ab, ao + j, none⟩ = some (.int .u64 x)) :
    Calls Try.prog 89 #[.pointer (some ⟨g, off, none⟩), .slice (some ⟨ab, ao, none⟩) m c] w (LayPost g off cs T ws bs xs R w) := by
  obtain ⟨i0, hi, hz0, hz1, hz2⟩ := info_parts info_u64
  obtain ⟨j0, hj, hy0, hy1, hy2⟩ := info_parts info_bool
  have hoff : off + 1 < cs.size := by
    rcases Nat.lt_or_ge (off + 1) cs.size with h | h
    · exact h
    · rw [Array.getElem?_eq_none h] at h2; cases h2
  have k1 : w.cell? ⟨g, off, none⟩ = _ := (hs.left.cell off).trans h1
  have H1 := Lib.hid (And.intro hi (And.intro hz0 (And.intro hz1 hz2)))
  have H2 := Lib.hid (And.intro hj (And.intro hy0 (And.intro hy1 hy2)))
  clear hi hz0 hz1 hz2 hj hy0 hy1 hy2
  have HX := Lib.hid hx; clear hx
  have HM := Lib.hid hm; clear hm
  have HL := Lib.hid hl; clear hl
  have HH := Lib.hid (And.intro h1 h2); clear h1 h2
  go_enter Try.func89, Try.ntmps89
  go_wp2_with (at_builtin; refine halt ?_)
  refine goon ?_
  obtain ⟨hi, hz0, hz1, hz2⟩ := H1.out
  refine wpList_append_sat rfl (.tmp 17) (.tmp 18) 35 rfl 22 i0 (.int .u64 0) 1 8 Try.underlying35 hi hz0 hz1 hz2 rfl (.slice (some ⟨bw, 0, none⟩) ws.length cw) ws.length (ws.map u64) rfl (blk g (.cells cs T (0, 0)) * (row 4 1 bb cb (bs.map .bool) * R)) ⟨ab, ao, none⟩ m c (xs.map u64) rfl ?_ ?h ?c1 ?c2 ?c3 ?c4 ?c5
  case h => exact sat.shut_own (by simp) hwc (hs.perm (by ac_rfl))
  case c1 => simp [HM.out]
  case c2 => exact cells_of (map_cells HX.out)
  case c3 => exact one_map fun _ => rfl
  case c4 => omega
  case c5 => unfold maxLen; omega
  clear hi hz0 hz1 hz2
  intro v' w1 hs1 hb1
  obtain ⟨bw', cw', rfl, hn1, hl1, hr1⟩ := hs1.own_some (by omega)
  have hs2 := (hr1.perm (by ac_rfl) : sat w1 (blk g (.cells cs T (0, 0)) * (row 22 1 bw' cw' (ws.map u64 ++ xs.map u64) * (row 4 1 bb cb (bs.map .bool) * R))))
  have q1 : w1.cell? ⟨g, off, none⟩ = _ := (hs2.left.cell off).trans HH.out.1
  have q2 : w1.frozen? ⟨g, off, none⟩ = false := hs2.left.frozen off
  have q3 : w1.cell? ⟨g, off + 1, none⟩ = _ := (hs2.left.cell (off + 1)).trans HH.out.2
  clear k1 hs1 hr1
  go_wp2_with (at_builtin; refine halt ?_)
  refine goon ?_
  obtain ⟨hj, hy0, hy1, hy2⟩ := H2.out
  have hs3 := hs2.setCell (off := off) (.slice (some ⟨bw', 0, none⟩) (ws.length + m) cw')
  refine wpList_append_zeros rfl (.tmp 26) (.tmp 28) 62 3 rfl 4 .i64 j0 (.bool false) 1 Try.underlying62 Try.underlying3 hj hy0 hy1 hy2 rfl rfl (.slice (some ⟨bb, 0, none⟩) bs.length cb) bs.length (bs.map .bool) rfl (blk g (.cells (cs.setIfInBounds off (.slice (some ⟨bw', 0, none⟩) (ws.length + m) cw')) T (0, 0)) * (row 22 1 bw' cw' (ws.map u64 ++ xs.map u64) * R)) m rfl ?_ ?h ?c1 ?c2 ?c3
  case h => exact sat.shut_own (by simp) hbc (hs3.perm (by ac_rfl))
  case c1 => rw [HL.out]; exact hp
  case c2 => rw [HL.out]; omega
  case c3 => rw [HL.out]; omega
  clear hj hy0 hy1 hy2
  intro v' w2 hs4 hb2
  rw [HL.out] at hs4
  obtain ⟨bb', cb', rfl, hn2, hl2, hr2⟩ := hs4.own_some (by omega)
  have hs5 := (hr2.perm (by ac_rfl) : sat w2 (blk g (.cells (cs.setIfInBounds off (.slice (some ⟨bw', 0, none⟩) (ws.length + m) cw')) T (0, 0)) * (row 4 1 bb' cb' (bs.map .bool ++ List.replicate m (.bool false)) * (row 22 1 bw' cw' (ws.map u64 ++ xs.map u64) * R))))
  have hs6 := hs5.setCell (off := off + 1) (.slice (some ⟨bb', 0, none⟩) (ws.length + m) cb')
  have p1 : w2.cell? ⟨g, off + 1, none⟩ = some (.slice (some ⟨bb, 0, none⟩) bs.length cb) := by
    rw [hs5.left.cell, Array.getElem?_setIfInBounds_ne (by omega)]; exact HH.out.2
  have p2 : w2.frozen? ⟨g, off + 1, none⟩ = false := hs5.left.frozen _
  clear q1 q2 q3 hs2 hs3 hs4 hr2 hs
  go_upto_region 4 with (fail)
  generalize hw3 : w2.setCell ⟨g, off + 1, none⟩ (.slice (some ⟨bb', 0, none⟩) (ws.length + m) cb') = w3 at *
  have hs7 := (hs6.perm (by ac_rfl) : sat w3 (row 4 1 bb' cb' (bs.map .bool ++ List.replicate m (.bool false)) * (blk g (.cells ((cs.setIfInBounds off (.slice (some ⟨bw', 0, none⟩) (ws.length + m) cw')).setIfInBounds (off + 1) (.slice (some ⟨bb', 0, none⟩) (ws.length + m) cb')) T (0, 0)) * (row 22 1 bw' cw' (ws.map u64 ++ xs.map u64) * R))))
  have r1 : w3.cell? ⟨bb', ws.length, none⟩ = some (.bool false) := hs7.row_cell (by rw [List.getElem?_append_right (by simp [HL.out])]; simp [HL.out, hm0])
  have r2 : w3.frozen? ⟨bb', ws.length, none⟩ = false := hs7.row_frozen _
  have r3 : w3.cell? ⟨g, off + 1, none⟩ = some (.slice (some ⟨bb', 0, none⟩) (ws.length + m) cb') := (hs6.left.cell _).trans (pair_set hoff).2
  have hb3 : Below 0 w2 w3 := by rw [← hw3]; exact (Below.refl _ _).setCell (Nat.zero_le _) _
  clear hs5 hs6 p1 p2 hw3
  go_wp2_with fail
  go_ret
  have hm := HM.out
  subst hm
  refine ⟨rfl, ?_, bw', cw', bb', cb', hn1, hn2, ?_⟩
  · exact ((hb1.trans ((Below.refl _ _).setCell (Nat.zero_le _) _)).trans hb2).trans (hb3.trans ((Below.refl _ _).setCell (Nat.zero_le _) _))
  · have h8 := hs7.row_set ws.length (.bool true)
    rw [laid_set bs ws.length xs.length HL.out hm0] at h8
    refine h8.perm ?_
    simp only [List.map_append]
    ac_rfl

end
end Go.Proofs.Ytanjiecefioffaa
