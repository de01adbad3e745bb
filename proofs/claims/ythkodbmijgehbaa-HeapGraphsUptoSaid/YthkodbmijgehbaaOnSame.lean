/- same: both heaps tell alike. -/
import Derived.Test.YthkodbmijgehbaaOnNew
namespace Go.Proofs.Ythkodbmijgehbaa
open Go.RowKit

theorem reads_row {w : World} {b cap : Nat} {xs : List Int} {R : HP} (h : sat w (row 28 1 b cap (xs.map u64) * R)) : Reads w (some ⟨b, 0, none⟩) xs := by
  intro j x hx
  refine ⟨_, rfl, ?_⟩
  have ha : ((⟨b, 0, none⟩ : Addr).add j) = ⟨b, j, none⟩ := by unfold Addr.add; split <;> simp_all
  rw [ha]
  exact h.row_cell (by rw [List.getElem?_map, hx]; rfl)

section
variable {w : World} {O : OV} {V : HV} {V2 : RV} {S : HS} {R : HP}
theorem Pair.drewN (h : Pair w O V V2 S R) (n : Nat) : Pair (w.drewN n) O V V2 S R := ⟨h.s, h.p, h.q, h.ok⟩
theorem Pair.hw (h : Pair w O V V2 S R) : HeapW w V S (isOn O * (isRef V2 S * R)) := ⟨h.s.perm (by ac_rfl), h.ok⟩
theorem Pair.rw (h : Pair w O V V2 S R) : RefW w V2 S (isOn O * (isHeap V S * R)) := ⟨h.s.perm (by ac_rfl), h.ok.s⟩
theorem Pair.rrow (h : Pair w O V V2 S R) : Reads w (some ⟨V2.bw, 0, none⟩) S.ws := by
  have h1 := h.s.right.right.left
  unfold isRef at h1
  have h2 : sat w (row 28 1 V2.bw V2.cw (S.ws.map u64) * _) := h1.right
  exact reads_row h2
theorem Pair.c (h : Pair w O V V2 S R) : w.cell? ⟨O.g, 0, none⟩ = some (.pointer (some ⟨V.g, 0, none⟩)) ∧ w.cell? ⟨O.g, 1, none⟩ = some (.pointer (some ⟨V2.g, 0, none⟩)) := by
  have h1 := h.s.left
  unfold isOn at h1
  rw [h.p, h.q] at h1
  exact ⟨(h1.left.cell 0).trans rfl, (h1.left.cell 1).trans rfl⟩

set_option maxHeartbeats 1000000 in
set_option maxRecDepth 100000 in
theorem Pair.same (h : Pair w O V V2 S R) :
    Calls Try.prog 38 #[.pointer (some ⟨O.g, 0, none⟩)] w fun e w' => e = .returned (.bool true) ∧ Pair w' O V V2 S R ∧ Below 0 w w' := by
  have c0 := h.c.1
  have c1 := h.c.2
  have r0 := h.rw.v.c0
  have r1 := h.rw.v.c1
  have r3 := h.rw.v.c3
  have hlen : S.ws.length < 4611686018427387904 := by have := h.ok.used; have := h.ok.hi; omega
  have HL := Lib.hid hlen
  clear hlen
  go_enter Try.func38, Try.ntmps38
  go_wp2_with fail
  go_region_held3 (fun w' => w'.cell? ⟨O.g, 0, none⟩ = some (.pointer (some ⟨V.g, 0, none⟩)) ∧ w'.cell? ⟨O.g, 1, none⟩ = some (.pointer (some ⟨V2.g, 0, none⟩)) ∧ w'.cell? ⟨V2.g, 0, none⟩ = some (.int .i64 S.size) ∧ w'.cell? ⟨V2.g, 1, none⟩ = some (.slice (some ⟨V2.bw, 0, none⟩) S.ws.length V2.cw) ∧ w'.cell? ⟨V2.g, 3, none⟩ = some (.int .i64 S.times))
    (first | go_keep | exact ⟨k0, k1, k2, k3, k4⟩)
    (first
      | (go_at_call 33; refine ((h.hw.v.drewN _).Size).mono ?_; rintro e w' ⟨rfl, j1, rfl⟩)
      | (go_at_call 21; refine ((h.hw.v.drewN _).Used).mono ?_; rintro e w' ⟨rfl, j1, rfl⟩)
      | (go_at_call 34; refine ((h.hw.v.drewN _).Times).mono ?_; rintro e w' ⟨rfl, j1, rfl⟩)
      | (go_at_call 22; refine ((h.drewN _).hw.Words).mono ?_; rintro e w7 ⟨v7, rfl, hs7, hb7⟩; obtain ⟨bv, cv, rfl, hn7, hl7, hs8⟩ := hs7.own_some h.ok.wf.pos; have hp7 : Pair w7 O V V2 S (row 28 1 bv cv (S.ws.map u64) * R) := ⟨hs8.perm (by ac_rfl), h.p, h.q, h.ok⟩; have k0 := hp7.c.1; have k1 := hp7.c.2; have k2 := hp7.rw.v.c0; have k3 := hp7.rw.v.c1; have k4 := hp7.rw.v.c3)
      | (go_at_call 32; refine (same_words _ (some ⟨bv, 0, none⟩) (some ⟨V2.bw, 0, none⟩) cv V2.cw S.ws S.ws (reads_row hs8) hp7.rrow HL.out HL.out).mono ?_; rintro e w' ⟨rfl, j9, rfl⟩))
  have hp8 : Pair w7 O V V2 S R := by
    refine ⟨?_, h.p, h.q, h.ok⟩
    have h9 : sat w7 ((isOn O * (isHeap V S * (isRef V2 S * R))) * row 28 1 bv cv (S.ws.map u64)) := hp7.s.perm (by ac_rfl)
    exact h9.left
  rename_i hHeld
  clear hHeld k0 k1 k2 k3 k4
  go_wp2_with fail
  go_ret
  exact ⟨rfl, hp8.drewN _, ((drewN_below0 _ _).trans hb7).trans (drewN_below0 _ _)⟩
end
end Go.Proofs.Ythkodbmijgehbaa
