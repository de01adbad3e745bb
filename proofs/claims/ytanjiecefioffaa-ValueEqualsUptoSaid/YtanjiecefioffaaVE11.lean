/- Collect. -/
import Derived.Test.YtanjiecefioffaaVE10
import Derived.Test.YtanjiecefioffaaVE9
import Derived.Test.YtanjiecefioffaaVE1
import Derived.Test.YtanjiecefioffaaVE5
namespace Go.Proofs.Ytanjiecefioffaa
open Go.RowKit

/-- The roots can be read wherever R holds. -/
def RootsIn (R : HP) (ao : Option Addr) (roots : List Int) : Prop := ∀ w, sat w R → ∀ j x, roots[j]? = some x → ∃ a, ao = some a ∧ w.cell? (a.add j) = some (.int .u64 x)

def CollectPost (V : HV) (S : HS) (roots : List Int) (R : HP) (w : World) (e : Ending) (w' : World) : Prop :=
  ∃ bo V', e = .returned (.slice (some ⟨bo, 0, none⟩) roots.length roots.length) ∧ V'.g = V.g ∧ HeapW w' V' (S.collect roots) (row 22 1 bo roots.length ((S.moved roots).map u64) * R) ∧ Below 0 w w'

theorem GcInv.copyRoom {S : HS} {c : CS} {P : Nat} {V : HV} (h : GcInv S c P) (ok : HOk V S) {x : Int} : S.is x = true → c.gone.getD (x / 4).toNat 0 = 0 → c.tw.length + sizeAt S.ws (x / 4).toNat ≤ 2097152 := by
  intro hi h0
  have := h.room ok.wf (is_iff.1 hi).2 h0
  have := ok.used
  have := ok.hi
  omega
theorem out_step (done : List Int) (n k : Nat) (hd : done.length = k) (hk : k < n) (v : Int) : ((done ++ List.replicate (n - k) 0).map u64).set k (.int .u64 v) = ((done ++ [v]) ++ List.replicate (n - (k + 1)) 0).map u64 := by
  obtain ⟨q, rfl⟩ : ∃ q, n = k + 1 + q := ⟨n - k - 1, by omega⟩
  rw [show k + 1 + q - k = q + 1 by omega, show k + 1 + q - (k + 1) = q by omega, List.map_append, List.set_append_right _ _ (by simp [hd])]
  simp [hd, List.replicate_succ]

/-- Collect's first loop: k roots are copied. -/
def CRel1 (w : World) (bf bg bt bh br bo : Nat) (V : HV) (S : HS) (roots : List Int) (R : HP) (i : Value) (wr : World) : Prop :=
  ∃ (k : Nat) (c : CS) (done : List Int) (bw cw bb cb : Nat), k ≤ roots.length ∧ i = .int .i64 k ∧ done.length = k ∧ (copyAll S c (roots.drop k)).1 = (copyAll S (CS.zero S) roots).1 ∧ done ++ (copyAll S c (roots.drop k)).2 = S.moved roots ∧
    GcInv S c 1 ∧ GMem wr ⟨bf, bg, bt, bh, br, bw, cw, bb, cb⟩ V S c (row 22 1 bo roots.length ((done ++ List.replicate (roots.length - k) 0).map u64) * R) ∧ Below 0 w wr

/-- Collect's second loop: the objects of the new half from place j on are to come. -/
def CRel2 (w : World) (bf bg bt bh br bo : Nat) (V : HV) (S : HS) (roots : List Int) (R : HP) (i : Value) (wr : World) : Prop :=
  ∃ (f : Nat) (c : CS) (j bw cw bb cb : Nat), i = .int .i64 j ∧ scan S f c j = gcEnd S roots ∧ (j = c.tw.length ∨ c.tb[j]? = some true) ∧ S.ws.length ≤ f + j ∧
    GcInv S c j ∧ GMem wr ⟨bf, bg, bt, bh, br, bw, cw, bb, cb⟩ V S c (row 22 1 bo roots.length ((S.moved roots).map u64) * R) ∧ Below 0 w wr

theorem num_eq {a b : Int} (h : a = b) : Value.int .i64 a = .int .i64 b := by rw [h]

theorem sat.two {w : World} {g : Nat} {cs : Array Value} {T : Nat} {X A B : HP} (h : sat w (A * (B * (blk g (.cells cs T (0, 0)) * X)))) (off : Nat) (u v : Value) :
    sat ((w.setCell ⟨g, off, none⟩ u).setCell ⟨g, off + 1, none⟩ v) (blk g (.cells ((cs.setIfInBounds off u).setIfInBounds (off + 1) v) T (0, 0)) * (X * (A * B))) := by
  have h1 : sat w (blk g (.cells cs T (0, 0)) * (X * (A * B))) := h.perm (by ac_rfl)
  exact (h1.setCell u).setCell v

/-- The half in use laid empty: what the other cells hold. -/
theorem cells_half (V : HV) (S : HS) (h : V.inn < 2) (e1 e2 : Value) :
    (((heapCells V S).setIfInBounds (1 + V.inn * 2) e1).setIfInBounds (1 + V.inn * 2 + 1) e2)[5]? = some (.int .i64 V.inn) ∧
    ((((heapCells V S).setIfInBounds (1 + V.inn * 2) e1).setIfInBounds (1 + V.inn * 2 + 1) e2).setIfInBounds 5 (.int .i64 ((1 - V.inn : Nat) : Int)))[5]? = some (.int .i64 ((1 - V.inn : Nat) : Int)) ∧
    (((((heapCells V S).setIfInBounds (1 + V.inn * 2) e1).setIfInBounds (1 + V.inn * 2 + 1) e2).setIfInBounds 5 (.int .i64 ((1 - V.inn : Nat) : Int)))[1 + (1 - V.inn) * 2]? = some V.o1 ∧
     ((((heapCells V S).setIfInBounds (1 + V.inn * 2) e1).setIfInBounds (1 + V.inn * 2 + 1) e2).setIfInBounds 5 (.int .i64 ((1 - V.inn : Nat) : Int)))[1 + (1 - V.inn) * 2 + 1]? = some V.o2) ∧
    (∀ (S' : HS) (bw cw bb cb : Nat), S'.size = S.size → S'.times = S.times + 1 →
      ((((((((heapCells V S).setIfInBounds (1 + V.inn * 2) e1).setIfInBounds (1 + V.inn * 2 + 1) e2).setIfInBounds 5 (.int .i64 ((1 - V.inn : Nat) : Int))).setIfInBounds (1 + (1 - V.inn) * 2) (.slice (some ⟨bw, 0, none⟩) S'.ws.length cw)).setIfInBounds (1 + (1 - V.inn) * 2 + 1) (.slice (some ⟨bb, 0, none⟩) S'.bs.length cb))[6]? = some (.int .i64 S.times)) ∧
       (((((((heapCells V S).setIfInBounds (1 + V.inn * 2) e1).setIfInBounds (1 + V.inn * 2 + 1) e2).setIfInBounds 5 (.int .i64 ((1 - V.inn : Nat) : Int))).setIfInBounds (1 + (1 - V.inn) * 2) (.slice (some ⟨bw, 0, none⟩) S'.ws.length cw)).setIfInBounds (1 + (1 - V.inn) * 2 + 1) (.slice (some ⟨bb, 0, none⟩) S'.bs.length cb)).setIfInBounds 6 (.int .i64 (S.times + 1 : Nat))) =
       heapCells ⟨V.g, 1 - V.inn, bw, cw, bb, cb, e1, e2⟩ S')) := by
  have e : V.inn = 0 ∨ V.inn = 1 := by omega
  rcases e with e | e
  · refine ⟨by simp [heapCells, e], by simp [heapCells, e], ⟨by simp [heapCells, e], by simp [heapCells, e]⟩, ?_⟩
    intro S' bw cw bb cb h1 h2
    simp [heapCells, e, HV.vw, HV.vb, h1, h2]
  · refine ⟨by simp [heapCells, e], by simp [heapCells, e], ⟨by simp [heapCells, e], by simp [heapCells, e]⟩, ?_⟩
    intro S' bw cw bb cb h1 h2
    simp [heapCells, e, HV.vw, HV.vb, h1, h2]

theorem keep3 {w : World} {V : HV} {S : HS} {c : CS} {R X : HP} {g T bf bg bt bh br bw cw bb cb : Nat} {cs : Array Value} (h : sat w (blk g (.cells cs T (0, 0)) * (gcMem ⟨bf, bg, bt, bh, br, bw, cw, bb, cb⟩ V S c * R * X))) :
    w.cell? ⟨bh, 0, none⟩ = some (.pointer (some ⟨V.g, 0, none⟩)) ∧ w.cell? ⟨bt, 0, none⟩ = some (.slice (some ⟨bw, 0, none⟩) c.tw.length cw) ∧ w.cell? ⟨bt, 1, none⟩ = some (.slice (some ⟨bb, 0, none⟩) c.tb.length cb) := by
  have hm := h.right.left.left
  unfold gcMem at hm
  have ht := hm.right.right.left
  exact ⟨(hm.right.right.right.left.cell 0).trans rfl, (ht.cell 0).trans rfl, (ht.cell 1).trans rfl⟩

/-- Its inner loop: the first i tagged fields of the object at place j are told anew. -/
def CRel3 (w : World) (bf bg bt bh br bo : Nat) (V : HV) (S : HS) (roots : List Int) (R : HP) (j : Nat) (hd : Int) (C1 : CS) (v : Value) (wr : World) : Prop :=
  ∃ (i : Nat) (c : CS) (bw cw bb cb : Nat), i ≤ (tagH hd).toNat ∧ v = .int .i64 i ∧ fixN S c (j + 1 + i) ((tagH hd).toNat - i) = C1 ∧ GcInv S c (j + 1 + i) ∧ c.tb[j]? = some true ∧ c.tw.getD j 0 = hd ∧
    GMem wr ⟨bf, bg, bt, bh, br, bw, cw, bb, cb⟩ V S c (row 22 1 bo roots.length ((S.moved roots).map u64) * R) ∧ Below 0 w wr

section
variable {w : World} {G : GV} {V : HV} {S : HS} {c : CS} {R : HP}
theorem GMem.tov (h : GMem w G V S c R) : w.cell? ⟨G.bt, 0, none⟩ = some (.slice (some ⟨G.bw, 0, none⟩) c.tw.length G.cw) := by
  have := h.s.left; unfold gcMem at this; exact (this.right.right.left.cell 0).trans rfl
theorem GMem.to_sat (h : GMem w G V S c R) : sat w (row 22 1 G.bw G.cw (c.tw.map u64) * emp) := by
  have := h.s.left; unfold gcMem at this; rw [HP.mul_emp]; exact this.right.right.right.right.right.left
theorem GMem.toAt (h : GMem w G V S c R) {k : Nat} (hk : k < c.tw.length) : w.cell? ⟨G.bw, k, none⟩ = some (.int .u64 (c.tw.getD k 0)) ∧ w.frozen? ⟨G.bw, k, none⟩ = false :=
  ⟨h.to_sat.row_cell (by rw [List.getElem?_map, getD_get hk]; rfl), h.to_sat.row_frozen k⟩
theorem GMem.toCap (h : GMem w G V S c R) : c.tw.length ≤ G.cw := by
  have := h.to_sat.row_bounds.1; simpa using this
theorem GMem.setTo (h : GMem w G V S c R) (k : Nat) (v : Int) : GMem (w.setCell ⟨G.bw, k, none⟩ (.int .u64 v)) G V S { c with tw := c.tw.set k v } R := by
  have hs : sat w (row 22 1 G.bw G.cw (c.tw.map u64) * (blk G.bf (.cells #[.pointer (some ⟨V.g, 1 + V.inn * 2, none⟩)] 94 (0, 0)) * (blk G.bg (.cells #[.slice (some ⟨G.br, 0, none⟩) S.ws.length S.ws.length] 35 (0, 0)) *
  (blk G.bt (.cells #[.slice (some ⟨G.bw, 0, none⟩) c.tw.length G.cw, .slice (some ⟨G.bb, 0, none⟩) c.tb.length G.cb] 93 (0, 0)) * (blk G.bh (.cells #[.pointer (some ⟨V.g, 0, none⟩)] 37 (0, 0)) *
  (row 22 1 G.br S.ws.length (c.gone.map u64) * (row 4 1 G.bb G.cb (c.tb.map .bool) * (isHeap V S * R)))))))) := h.s.perm (by unfold gcMem; ac_rfl)
  have h2 := hs.row_set k (.int .u64 v)
  rw [show (c.tw.map u64).set k (.int .u64 v) = (c.tw.set k v).map u64 by rw [List.map_set]] at h2
  exact ⟨h2.perm (by unfold gcMem; simp only [List.length_set]; ac_rfl), h.ok, by simpa using h.gok.len, by simpa using h.gok.pos, h.gok.gone⟩
end

section
variable {w : World} {V : HV} {S : HS} {R : HP}

set_option maxRecDepth 100000 in
set_option maxHeartbeats 1000000 in
theorem HeapW.Collect (h : HeapW w V S R) (ao : Option Addr) (cap : Nat) (roots : List Int) (hr : RootsIn R ao roots) (hu : ∀ x ∈ roots, 0 ≤ x ∧ x < 18446744073709551616) (hn : roots.length ≤ 17592186044416) (ht : S.times < 4611686018427387900) :
    Calls Try.prog 61 #[.pointer (some ⟨V.g, 0, none⟩), .slice ao roots.length cap] w (CollectPost V S roots R w) := by
  have hl := h.v.len
  have hcw := h.v.cw
  obtain ⟨i0, hi, hz0, hz1, hz2⟩ := info_parts info_u64
  have H1 := Lib.hid (And.intro hi (And.intro hz0 (And.intro hz1 hz2)))
  clear hi hz0 hz1 hz2
  have hbx : HeapW (w.alloc (.cells #[.pointer (some ⟨V.g, 0, none⟩)] 37)) V S (blk w.heap.size (.cells #[.pointer (some ⟨V.g, 0, none⟩)] 37 (0, 0)) * R) :=
    ⟨(h.s.alloc _).perm (by ac_rfl), h.ok⟩
  go_enter Try.func61, Try.ntmps61
  go_wp2_with fail
  refine (hbx.v.half).mono ?_
  rintro e w' ⟨rfl, q, rfl⟩
  go_wp2_with fail
  have hb0 : Below 0 w ((w.alloc (.cells #[.pointer (some ⟨V.g, 0, none⟩)] 37)).drewN q) := (Below.zero_alloc _ _).trans (drewN_below0 _ _)
  have h1 := hbx.drewN q
  have hbh := h1.s.right.left.cell 0
  clear hbx
  generalize (w.alloc (.cells #[.pointer (some ⟨V.g, 0, none⟩)] 37)).drewN q = w1 at *
  generalize w.heap.size = bh at *
  refine (empty_any h1.s).mono ?_
  rintro e w2 ⟨b1, b2, rfl, hs2, hb2⟩
  go_upto_region 2 with (fail)
  have hs3 := (hs2.alloc (.cells #[.pointer (some ⟨V.g, 1 + V.inn * 2, none⟩)] 94)).alloc (.cells #[.slice (some ⟨b1, 0, none⟩) 1 1, .slice (some ⟨b2, 0, none⟩) 1 1] 93)
  have hb3 : Below 0 w2 ((w2.alloc (.cells #[.pointer (some ⟨V.g, 1 + V.inn * 2, none⟩)] 94)).alloc (.cells #[.slice (some ⟨b1, 0, none⟩) 1 1, .slice (some ⟨b2, 0, none⟩) 1 1] 93)) := (Below.zero_alloc _ _).trans (Below.zero_alloc _ _)
  have hz : (w2.alloc (.cells #[.pointer (some ⟨V.g, 1 + V.inn * 2, none⟩)] 94)).heap.size = w2.heap.size + 1 := by simp
  rw [hz] at hs3
  clear hz
  generalize (w2.alloc (.cells #[.pointer (some ⟨V.g, 1 + V.inn * 2, none⟩)] 94)).alloc (.cells #[.slice (some ⟨b1, 0, none⟩) 1 1, .slice (some ⟨b2, 0, none⟩) 1 1] 93) = w3 at *
  have hb4 : Below 0 w w3 := (hb0.trans hb2).trans hb3
  clear hs2 h1 hb2 hb3 hb0 hbh
  generalize w2.heap.size + 1 = bt at *
  generalize w2.heap.size = bf at *
  have hs4 : sat w3 (isHeap V S * (blk bh (.cells #[.pointer (some ⟨V.g, 0, none⟩)] 37 (0, 0)) * (blk bf (.cells #[.pointer (some ⟨V.g, 1 + V.inn * 2, none⟩)] 94 (0, 0)) * (blk bt (.cells #[.slice (some ⟨b1, 0, none⟩) 1 1, .slice (some ⟨b2, 0, none⟩) 1 1] 93 (0, 0)) *
    (row 22 1 b1 1 [.int .u64 0] * (row 4 1 b2 1 [.bool false] * R)))))) := hs3.perm (by ac_rfl)
  clear hs3
  have k1 := hs4.right.right.left.cell 0
  have k2 := (hs4.heapV h.ok).cw
  go_wp2_with (at_make; refine halt ?_)
  refine goon ?_
  obtain ⟨hi, hz0, hz1, hz2⟩ := H1.out
  refine wpList_make_sat rfl 35 (.tmp 25) (.tmp 25) rfl 22 i0 (.int .u64 0) 8 Try.underlying35 hi hz0 hz1 hz2 rfl .i64 .i64 (S.ws.length : Int) _ rfl rfl ?_ hs4 (by omega) (by omega) (by omega)
  clear hi hz0 hz1 hz2 k1 k2 hs4
  intro br w4 hs5 hb5
  rw [Int.toNat_natCast] at hs5 ⊢
  go_upto_region 4 with (fail)
  have hs6 := hs5.alloc (.cells #[.slice (some ⟨br, 0, none⟩) S.ws.length S.ws.length] 35)
  have hb6 : Below 0 w4 (w4.alloc (.cells #[.slice (some ⟨br, 0, none⟩) S.ws.length S.ws.length] 35)) := Below.zero_alloc _ _
  generalize w4.alloc (.cells #[.slice (some ⟨br, 0, none⟩) S.ws.length S.ws.length] 35) = w5 at *
  have hb7 : Below 0 w w5 := (hb4.trans hb5).trans hb6
  clear hs5 hb4 hb5 hb6
  generalize w4.heap.size = bg at *
  have hG : GMem w5 ⟨bf, bg, bt, bh, br, b1, 1, b2, 1⟩ V S (CS.zero S) R := by
    refine ⟨hs6.perm ?_, h.ok, ⟨rfl, by simp [CS.zero], by simp [CS.zero]⟩⟩
    unfold gcMem CS.zero
    simp only [List.map_replicate, List.map_cons, List.map_nil, List.length_cons, List.length_nil]
    ac_rfl
  clear hs6
  go_wp2_with (at_make; refine halt ?_)
  refine goon ?_
  obtain ⟨hi, hz0, hz1, hz2⟩ := H1.out
  refine wpList_make_sat rfl 35 (.tmp 29) (.tmp 29) rfl 22 i0 (.int .u64 0) 8 Try.underlying35 hi hz0 hz1 hz2 rfl .i64 .i64 (roots.length : Int) _ rfl rfl ?_ hG.s (by omega) (by omega) (by omega)
  clear hi hz0 hz1 hz2
  intro bo w6 hs7 hb8
  rw [Int.toNat_natCast] at hs7 ⊢
  have hG1 : GMem w6 ⟨bf, bg, bt, bh, br, b1, 1, b2, 1⟩ V S (CS.zero S) (row 22 1 bo roots.length ((([] : List Int) ++ List.replicate (roots.length - 0) 0).map u64) * R) := by
    refine ⟨hs7.perm ?_, h.ok, hG.gok⟩
    simp only [List.nil_append, Nat.sub_zero, List.map_replicate]
    ac_rfl
  have hb9 := hb7.trans hb8
  clear hs7 hG hb7 hb8
  go_wp2_with fail
  go_loopw [33] (CRel1 w bf bg bt bh br bo V S roots R) (fun i _ => roots.length - (intOf i).toNat)
  case atStart => exact ⟨0, CS.zero S, [], b1, 1, b2, 1, Nat.zero_le _, rfl, rfl, rfl, rfl, GcInv.zero 1 (Nat.le_refl _), hG1, hb9⟩
  case round =>
    clear hG1 hb9
    obtain ⟨k, c, done, bw, cw, bb, cb, hk, rfl, hd, hf1, hf2, hinv, hG, hb⟩ := hrel
    by_cases hlt : k < roots.length
    · obtain ⟨x, hx⟩ : ∃ x, roots[k]? = some x := ⟨_, List.getElem?_eq_getElem hlt⟩
      obtain ⟨a, rfl, hcell⟩ := hr wr hG.s.right.right.right k x hx
      have hxu := hu x (List.mem_of_getElem? hx)
      have hdrop : roots.drop k = x :: roots.drop (k + 1) := by
        rw [List.drop_eq_getElem_cons hlt]
        rw [List.getElem?_eq_getElem hlt] at hx
        cases hx; rfl
      rw [hdrop] at hf1 hf2
      have HF := Lib.hid (And.intro hf1 hf2)
      clear hf1 hf2 hdrop hx
      go_wp2_with fail
      refine (hG.copy x hxu.1 hxu.2 (hinv.copyRoom h.ok)).mono ?_
      rintro e w7 ⟨rfl, hb7, bw', cw', bb', cb', hG2⟩
      have g1 := (hinv.copy1 h.ok.wf hl x hxu.1 hxu.2).1
      simp only [copyAll] at HF
      generalize Go.Proofs.Ytanjiecefioffaa.copy1 S c x = cv at *
      obtain ⟨c', v⟩ := cv
      simp only at *
      have hso : sat w7 (row 22 1 bo roots.length ((done ++ List.replicate (roots.length - k) 0).map u64) * (gcMem ⟨bf, bg, bt, bh, br, bw', cw', bb', cb'⟩ V S c' * (isHeap V S * R))) := hG2.s.perm (by ac_rfl)
      have q1 : w7.cell? ⟨bo, k, none⟩ = some (.int .u64 0) := hso.row_cell (by rw [List.map_append, List.getElem?_append_right (by simp [hd]), List.length_map, hd, Nat.sub_self, List.map_replicate, List.getElem?_replicate, if_pos (by omega)])
      have q2 : w7.frozen? ⟨bo, k, none⟩ = false := hso.row_frozen _
      have hd' := Lib.hid hd
      clear hd
      go_wp2_with fail
      go_roundw
      case rel =>
        have h8 := hso.row_set k (.int .u64 v)
        rw [out_step done roots.length k hd'.out hlt v] at h8
        refine ⟨k + 1, c', done ++ [v], bw', cw', bb', cb', by omega, by go_num, by simp [hd'.out], HF.out.1, ?_, g1, ⟨h8.perm (by ac_rfl), h.ok, hG2.gok⟩, (hb.trans hb7).setCell (Nat.zero_le _) _⟩
        rw [List.append_assoc]; exact HF.out.2
      case measure => simp [intOf]; omega
    · obtain rfl : k = roots.length := by omega
      have hge : (roots.length : Int) ≤ roots.length := by omega
      rw [List.drop_length] at hf1 hf2
      simp only [copyAll, List.append_nil] at hf1 hf2
      rw [Nat.sub_self, List.replicate_zero, List.append_nil, hf2] at hG
      subst hf1
      clear hf2 hd hr
      go_wp2_with fail
      go_loopw [12] (CRel2 w bf bg bt bh br bo V S roots R) (fun i _ => S.ws.length + 1 - (intOf i).toNat)
      case atStart =>
        refine ⟨S.ws.length, _, 1, bw, cw, bb, cb, rfl, rfl, ?_, by omega, hinv, hG, hb⟩
        rcases hinv.wf.first with e | e
        · left; omega
        · right; exact e
      case round =>
        clear hG hb hinv
        obtain ⟨f, c, j, bw, cw, bb, cb, rfl, hsc, hbd, hf, hinv, hG, hb⟩ := hrel
        have hcl := hinv.len h.ok.wf
        have k1 := hG.tov
        have hcap := hG.toCap
        by_cases hlt : j < c.tw.length
        · have hj := hbd.resolve_left (by omega)
          obtain ⟨f, rfl⟩ : ∃ f', f = f' + 1 := ⟨f - 1, by omega⟩
          simp only [scan] at hsc
          rw [if_pos hlt] at hsc
          have hfit := hinv.wf.fits j hj
          have k2 := (hG.toAt hlt).1
          have hhu := hinv.wf.u _ (List.mem_of_getElem? (getD_get hlt))
          have hobj := hinv.object h.ok.wf hl hj
          have hstart : GcInv S c (j + 1 + 0) := hinv.move (by omega) (by omega) (fun q i hq hi hle => by
            rcases Nat.lt_or_ge q j with a | a
            · have := hinv.wf.apart q j hq hj a; unfold tagAt at hi; omega
            · omega)
          have HH := Lib.hid (And.intro hsc (And.intro hbd (And.intro hj (And.intro hobj hstart))))
          clear hsc hbd hj hobj hstart
          generalize hhd : c.tw.getD j 0 = hd at *
          have m1 : bits .and .u64 (hd / 256) 16777215 = tagH hd := u64_mask24 _ (by omega) (by omega)
          have m2 : bits .and .u64 (hd / 4294967296) 16777215 = rawH hd := u64_mask24 _ (by omega) (by omega)
          have tb1 := tagH_bd hd
          have tb2 := rawH_bd hd
          have HD := Lib.hid hhd
          clear hhd
          go_wp2_with fail
          go_loopw [64] (CRel3 w bf bg bt bh br bo V S roots R j hd (fixN S c (j + 1) (tagH hd).toNat)) (fun i _ => (tagH hd).toNat - (intOf i).toNat)
          case atStart =>
            refine ⟨0, c, bw, cw, bb, cb, Nat.zero_le _, rfl, rfl, HH.out.2.2.2.2, HH.out.2.2.1, HD.out, hG, hb⟩
          case round =>
            clear hG hb hinv k1 k2 hcap
            obtain ⟨i, c', bw, cw, bb, cb, hi, rfl, hfx, hinv, hj, hhd, hG, hb⟩ := hrel
            have hfit' := hinv.wf.fits j hj
            rw [hhd] at hfit'
            have hcl' := hinv.len h.ok.wf
            have k1 := hG.tov
            have hcap := hG.toCap
            by_cases hit : i < (tagH hd).toNat
            · have hit2 : (i : Int) < tagH hd := by omega
              have hP : j + 1 + i < c'.tw.length := by omega
              have k2 := (hG.toAt hP).1
              have hxu := hinv.wf.u _ (List.mem_of_getElem? (getD_get hP))
              have hcr := hinv.copyRoom h.ok (x := c'.tw.getD (j + 1 + i) 0)
              have hone := hinv.oneField h.ok.wf hl hj (i := i) (by unfold tagAt; rw [hhd]; exact hit) rfl
              obtain ⟨q, hq⟩ : ∃ q, (tagH hd).toNat - i = q + 1 := ⟨(tagH hd).toNat - i - 1, by omega⟩
              rw [hq] at hfx
              simp only [fixN] at hfx
              unfold fix1 at hfx hone
              generalize hgx : c'.tw.getD (j + 1 + i) 0 = x at *
              clear hgx
              have HX := Lib.hid (And.intro hfx (And.intro hone (And.intro hj (And.intro hhd hq))))
              have HI := Lib.hid hinv
              clear hfx hone hj hhd hq hinv
              have hj1 : (j : Int) + 1 + i < (c'.tw.length : Int) := by omega
              go_wp2_with fail
              refine (hG.copy x hxu.1 hxu.2 hcr).mono ?_
              rintro e w7 ⟨rfl, hb7, bw', cw', bb', cb', hG2⟩
              have hlen2 := (HI.out.copy1 h.ok.wf hl x hxu.1 hxu.2).2.2.1
              generalize Go.Proofs.Ytanjiecefioffaa.copy1 S c' x = cv at *
              obtain ⟨c2, v⟩ := cv
              simp only at *
              have hP2 : j + 1 + i < c2.tw.length := by omega
              have hj2 : (j : Int) + 1 + i < (c2.tw.length : Int) := by omega
              have hcap2 := hG2.toCap
              have p1 := hG2.tov
              have p2 := (hG2.toAt hP2).1
              have p3 := (hG2.toAt hP2).2
              simp only at p2 p3 p1 hcap2
              clear k1 k2
              go_wp2_with fail
              go_roundw
              case rel => exact ⟨i + 1, { c2 with tw := c2.tw.set (j + 1 + i) v }, bw', cw', bb', cb', by omega, by go_num, by rw [show (tagH hd).toNat - (i + 1) = q by have := HX.out.2.2.2.2; omega]; exact HX.out.1, HX.out.2.1.1, HX.out.2.1.2.2.2, by rw [HX.out.2.1.2.2.1 j (Nat.le_refl _)]; exact HX.out.2.2.2.1, hG2.setTo _ _, (hb.trans hb7).setCell (Nat.zero_le _) _⟩
              case measure => simp [intOf]; omega
            · obtain rfl : i = (tagH hd).toNat := by omega
              have hge : tagH hd ≤ ((tagH hd).toNat : Int) := by omega
              rw [Nat.sub_self] at hfx
              simp only [fixN] at hfx
              have HX := Lib.hid (And.intro hfx (And.intro hj hhd))
              have HI := Lib.hid hinv
              have hsz : sizeAt c.tw j = 1 + (tagH hd).toNat + (rawH hd).toNat := by unfold sizeAt; rw [HD.out]
              have HS' := Lib.hid hsz
              clear hfx hj hhd hinv hsz
              go_wp2_with fail
              go_roundw
              case rel =>
                have ho := HH.out.2.2.2.1
                unfold tagAt at ho
                rw [HD.out, HS'.out] at ho
                have hs := HH.out.1
                rw [HS'.out] at hs
                have hf' := hs.symm
                refine ⟨f, fixN S c (j + 1) (tagH hd).toNat, j + (1 + (tagH hd).toNat + (rawH hd).toNat), bw, cw, bb, cb, ?_, hs, ?_, by omega, ho.1, ?_, hb⟩
                · refine num_eq ?_
                  omega
                · exact ho.2.2
                · rw [← HX.out.1]; exact hG
              case measure => simp [intOf]; omega
        · have hje : j = c.tw.length := by have := hinv.front; omega
          have hge : (c.tw.length : Int) ≤ j := by omega
          have hend : c = gcEnd S roots := by
            rw [← hsc]
            cases f with
            | zero => rfl
            | succ f => simp only [scan]; rw [if_neg hlt]
          clear hsc hbd hinv hf
          subst hend
          have HJ := Lib.hid hje
          clear hje hlt
          go_wp2_with fail
          have hin := h.ok.inn
          have hs : sat wr (blk V.g (.cells (heapCells V S) 125 (0, 0)) * (gcMem ⟨bf, bg, bt, bh, br, bw, cw, bb, cb⟩ V S (gcEnd S roots) * (row 22 1 V.bw V.cw (S.ws.map Go.Proofs.Ytanjiecefioffaa.u64) * (row 4 1 V.bb V.cb (S.bs.map .bool) * (row 22 1 bo roots.length ((S.moved roots).map Go.Proofs.Ytanjiecefioffaa.u64) * R))))) := hG.s.perm (by unfold isHeap; ac_rfl)
          have p1 := hG.from_
          have p2 := hs.left.cell (1 + V.inn * 2)
          have p3 := hs.left.cell (1 + V.inn * 2 + 1)
          rw [heapCells_w V S hin] at p2
          rw [heapCells_b V S hin] at p3
          have p4 := hs.left.frozen (1 + V.inn * 2)
          have p5 := hs.left.frozen (1 + V.inn * 2 + 1)
          simp only at p1
          clear k1 hcap hcl
          go_region_held3 (fun w' => w'.cell? ⟨bf, 0, none⟩ = some (.pointer (some ⟨V.g, 1 + V.inn * 2, none⟩)))
            (first | go_keep | exact k1 | exact ((hs7.two (1 + V.inn * 2) _ _).right.left.left.left.cell 0).trans rfl)
            (first
              | (go_at_call 79; refine (empty_any hs.drew).mono ?_; rintro e w7 ⟨b3, b4, rfl, hs7, hb7⟩; have k1 := (hs7.right.right.right.left.left.cell 0).trans rfl; have k2 := (hs7.right.right.left.cell (1 + V.inn * 2)).trans (heapCells_w V S hin); have k3 := (hs7.right.right.left.cell (1 + V.inn * 2 + 1)).trans (heapCells_b V S hin); have k4 := hs7.right.right.left.frozen (1 + V.inn * 2); have k5 := hs7.right.right.left.frozen (1 + V.inn * 2 + 1)))
          have hs8 := hs7.two (1 + V.inn * 2) (.slice (some ⟨b3, 0, none⟩) 1 1) (.slice (some ⟨b4, 0, none⟩) 1 1)
          have hb8 : Below 0 w ((w7.setCell ⟨V.g, 1 + V.inn * 2, none⟩ (.slice (some ⟨b3, 0, none⟩) 1 1)).setCell ⟨V.g, 1 + V.inn * 2 + 1, none⟩ (.slice (some ⟨b4, 0, none⟩) 1 1)) := (((hb.trans (drewN_below0 wr 1)).trans hb7).setCell (Nat.zero_le _) _).setCell (Nat.zero_le _) _
          clear k1 k2 k3 k4 k5 p1 p2 p3 p4 p5 hb7 hb
          generalize (w7.setCell ⟨V.g, 1 + V.inn * 2, none⟩ (.slice (some ⟨b3, 0, none⟩) 1 1)).setCell ⟨V.g, 1 + V.inn * 2 + 1, none⟩ (.slice (some ⟨b4, 0, none⟩) 1 1) = w8 at *
          clear hs7 hs hG
          obtain ⟨e5, e6, e7, e8⟩ := cells_half V S hin (.slice (some ⟨b3, 0, none⟩) 1 1) (.slice (some ⟨b4, 0, none⟩) 1 1)
          have k1 := (hs8.right.left.left.right.right.right.left.cell 0).trans rfl
          have k2 := (hs8.left.cell 5).trans e5
          have k3 := hs8.left.frozen 5
          have HE := Lib.hid (And.intro e6 (And.intro e7 e8))
          clear e5 e6 e7 e8
          have s1 : IntKind.i64.wrap (1 - (V.inn : Int)) = ((1 - V.inn : Nat) : Int) := by rw [IntWalk.i64_in _ (by omega)]; omega
          go_wp2_with fail
          go_region
          have hs9 := (hs8.setCell (off := 5) (.int .i64 ((1 - V.inn : Nat) : Int))).drew
          have hb9 : Below 0 w (w8.setCell ⟨V.g, 5, none⟩ (.int .i64 ((1 - V.inn : Nat) : Int))).drew := (hb8.setCell (p := ⟨V.g, 5, none⟩) (Nat.zero_le _) (.int .i64 ((1 - V.inn : Nat) : Int))).drew
          clear k1 k2 k3 s1 hs8 hb8
          generalize (w8.setCell ⟨V.g, 5, none⟩ (.int .i64 ((1 - V.inn : Nat) : Int))).drew = w9 at *
          have hb10 : sat w9 (blk bt (.cells #[.slice (some ⟨bw, 0, none⟩) (gcEnd S roots).tw.length cw, .slice (some ⟨bb, 0, none⟩) (gcEnd S roots).tb.length cb] 93 (0, 0))) := hs9.right.left.left.right.right.left
          have k1 := (hs9.right.left.left.right.right.right.left.cell 0).trans rfl
          have k2 := (hb10.cell 0).trans rfl
          have k3 := (hb10.cell 1).trans rfl
          have k4 := (hs9.left.cell 5).trans HE.out.1
          have k5 := (hs9.left.cell (1 + (1 - V.inn) * 2)).trans HE.out.2.1.1
          have k6 := (hs9.left.cell (1 + (1 - V.inn) * 2 + 1)).trans HE.out.2.1.2
          have k7 := hs9.left.frozen (1 + (1 - V.inn) * 2)
          have k8 := hs9.left.frozen (1 + (1 - V.inn) * 2 + 1)
          go_wp2_with fail
          go_region_held3 (fun w' => w'.cell? ⟨bh, 0, none⟩ = some (.pointer (some ⟨V.g, 0, none⟩)) ∧ w'.cell? ⟨bt, 0, none⟩ = some (.slice (some ⟨bw, 0, none⟩) (gcEnd S roots).tw.length cw) ∧ w'.cell? ⟨bt, 1, none⟩ = some (.slice (some ⟨bb, 0, none⟩) (gcEnd S roots).tb.length cb))
            (first | go_keep | exact keep3 (((hs9.drewN _).setCell _).setCell _))
            (first
              | (go_at_call 50; refine (half_any V.g (1 - V.inn) w9.drew k4 (by omega)).mono ?_; rintro e w' ⟨rfl, m, rfl⟩))
          have hs11 := ((hs9.drewN (1 + m)).setCell (off := 1 + (1 - V.inn) * 2) (.slice (some ⟨bw, 0, none⟩) (gcEnd S roots).tw.length cw)).setCell (off := 1 + (1 - V.inn) * 2 + 1) (.slice (some ⟨bb, 0, none⟩) (gcEnd S roots).tb.length cb)
          have hb11 : Below 0 w (((w9.drewN (1 + m)).setCell ⟨V.g, 1 + (1 - V.inn) * 2, none⟩ (.slice (some ⟨bw, 0, none⟩) (gcEnd S roots).tw.length cw)).setCell ⟨V.g, 1 + (1 - V.inn) * 2 + 1, none⟩ (.slice (some ⟨bb, 0, none⟩) (gcEnd S roots).tb.length cb)) := ((hb9.trans (drewN_below0 _ _)).setCell (Nat.zero_le _) _).setCell (Nat.zero_le _) _
          clear k1 k2 k3 k4 k5 k6 k7 k8 hs9 hb9 hb10
          generalize ((w9.drewN (1 + m)).setCell ⟨V.g, 1 + (1 - V.inn) * 2, none⟩ (.slice (some ⟨bw, 0, none⟩) (gcEnd S roots).tw.length cw)).setCell ⟨V.g, 1 + (1 - V.inn) * 2 + 1, none⟩ (.slice (some ⟨bb, 0, none⟩) (gcEnd S roots).tb.length cb) = w10 at *
          obtain ⟨e6, e7⟩ := HE.out.2.2 (S.collect roots) bw cw bb cb rfl rfl
          have k1 := (keep3 hs11).1
          have k2 := (hs11.left.cell 6).trans e6
          have k3 := hs11.left.frozen 6
          have HE7 := Lib.hid e7
          clear e6 e7
          go_wp2_with fail
          go_ret
          have hs12 := hs11.setCell (off := 6) (.int .i64 ((S.times + 1 : Nat) : Int))
          have hb12 := hb11.setCell (p := ⟨V.g, 6, none⟩) (Nat.zero_le _) (.int .i64 ((S.times + 1 : Nat) : Int))
          have hok := gc_ok h.ok.wf h.ok.ptr hl hu
          rw [show ((S.times : Int) + 1) = ((S.times + 1 : Nat) : Int) by omega]
          refine ⟨bo, ⟨V.g, 1 - V.inn, bw, cw, bb, cb, .slice (some ⟨b3, 0, none⟩) 1 1, .slice (some ⟨b4, 0, none⟩) 1 1⟩, rfl, rfl, ⟨?_, ?_⟩, hb12⟩
          · have e8 := HE7.out
            have ec : (S.collect roots).ws = (gcEnd S roots).tw ∧ (S.collect roots).bs = (gcEnd S roots).tb := ⟨rfl, rfl⟩
            rw [ec.1, ec.2] at e8
            rw [e8] at hs12
            generalize (w10.setCell ⟨V.g, 6, none⟩ (.int .i64 ((S.times + 1 : Nat) : Int))) = w11 at hs12 ⊢
            unfold gcMem at hs12
            dsimp only at hs12
            unfold isHeap
            rw [ec.1, ec.2]
            dsimp only
            generalize heapCells _ _ = HC at hs12 ⊢
            have hs13 : sat w11 ((blk V.g (.cells HC 125 (0, 0)) * (row 22 1 bw cw ((gcEnd S roots).tw.map Go.Proofs.Ytanjiecefioffaa.u64) * row 4 1 bb cb ((gcEnd S roots).tb.map .bool)) * (row 22 1 bo roots.length ((S.moved roots).map Go.Proofs.Ytanjiecefioffaa.u64) * R)) *
              ((blk bf (.cells #[.pointer (some ⟨V.g, 1 + V.inn * 2, none⟩)] 94 (0, 0)) * (blk bg (.cells #[.slice (some ⟨br, 0, none⟩) S.ws.length S.ws.length] 35 (0, 0)) *
                (blk bt (.cells #[.slice (some ⟨bw, 0, none⟩) (gcEnd S roots).tw.length cw, .slice (some ⟨bb, 0, none⟩) (gcEnd S roots).tb.length cb] 93 (0, 0)) * (blk bh (.cells #[.pointer (some ⟨V.g, 0, none⟩)] 37 (0, 0)) *
                row 22 1 br S.ws.length ((gcEnd S roots).gone.map Go.Proofs.Ytanjiecefioffaa.u64))))) *
               (row 22 1 V.bw V.cw (S.ws.map Go.Proofs.Ytanjiecefioffaa.u64) * (row 4 1 V.bb V.cb (S.bs.map .bool) * (row 22 1 b3 1 [.int .u64 0] * row 4 1 b4 1 [.bool false]))))) := hs12.perm (by ac_rfl)
            exact hs13.left
          · have := h.ok.used
            exact ⟨by simp only; omega, h.ok.lo, h.ok.hi, Nat.le_trans hok.2.2 h.ok.used, hok.1, by show S.times + 1 < _; omega, hok.2.1⟩
end
end Go.Proofs.Ytanjiecefioffaa

/- value.Store: Keep. -/
namespace Go.Proofs.Ytanjiecefioffaa
open Go.RowKit

/-- The words of all symbols, in order. -/
def StS.words (Y : StS) : List Int := Y.ord.map fun s => (Y.syms.get s).getD 0
def StS.kept (Y : StS) (S : HS) (roots : List Int) : StS :=
  ⟨Y.syms.updAll (Y.ord.zip ((S.moved (roots ++ Y.words)).drop roots.length)), Y.ord, S.times + 1⟩

def KRel1 (W : World) (g mb : Nat) (oo : Option Addr) (oc : Nat) (V : HV) (S : HS) (Y : StS) (R : HP) (roots : List Int) (v i : Value) (wr : World) : Prop :=
  ∃ k : Nat, k ≤ Y.ord.length ∧ i = .int .i64 k ∧ StW wr ⟨g, mb, .slice oo Y.ord.length oc⟩ V S Y (own 22 1 v (roots.length + k) ((roots ++ Y.words.take k).map u64) * R) ∧ Below 0 W wr

def KRel2 (W : World) (g mb : Nat) (oo : Option Addr) (oc : Nat) (V : HV) (S : HS) (syms : SM) (ord : List ByteArray) (tm : Nat) (ws : List Int) (R : HP) (i : Value) (wr : World) : Prop :=
  ∃ k : Nat, k ≤ ord.length ∧ i = .int .i64 k ∧ StW wr ⟨g, mb, .slice oo ord.length oc⟩ V S ⟨syms.updAll ((ord.zip ws).take k), ord, tm⟩ R ∧ Below 0 W wr
theorem moved_len (S : HS) (l : List Int) : ∀ c : CS, (copyAll S c l).2.length = l.length := by
  induction l with
  | nil => intro c; rfl
  | cons x l ih => intro c; simp only [copyAll]; simp [ih]
def KeepPost (X : StV) (V : HV) (S : HS) (Y : StS) (R : HP) (roots : List Int) (w : World) (e : Ending) (w' : World) : Prop :=
  ∃ (bo : Nat) (V' : HV), e = .returned (.slice (some ⟨bo, 0, none⟩) roots.length roots.length) ∧ V'.g = V.g ∧
    StW w' X V' (S.collect (roots ++ Y.words)) (Y.kept S roots) (row 22 1 bo (roots ++ Y.words).length ((S.moved (roots ++ Y.words)).map u64) * R) ∧ Below 0 w w'

section
variable {w : World} {X : StV} {V : HV} {S : HS} {Y : StS} {R : HP}
set_option maxRecDepth 100000 in
set_option maxHeartbeats 2000000 in
theorem StW.Keep (h : StW w X V S Y R) (ht : Y.tm = S.times) (ao : Option Addr) (cap : Nat) (roots : List Int) (hr : WordsIn R ao roots) (hu : ∀ x ∈ roots, 0 ≤ x ∧ x < 18446744073709551616) (hn : roots.length ≤ 1048576)
    (hsy : ∀ s ∈ Y.ord, ∃ v, Y.syms.get s = some v ∧ 0 ≤ v ∧ v < 18446744073709551616) (hol : Y.ord.length ≤ 1048576) (htm : S.times < 4611686018427387900) :
    Calls Try.prog 29 #[.pointer (some ⟨X.g, 0, none⟩), .slice ao roots.length cap] w (KeepPost X V S Y R roots w) := by
  obtain ⟨oo, oc, hov⟩ := own_val h.syms.right
  obtain ⟨g, mb, ov⟩ := X
  dsimp only at hov
  subst hov
  obtain ⟨i0, hi, hz0, hz1, hz2⟩ := info_parts info_u64
  have H1 := Lib.hid (And.intro hi (And.intro hz0 (And.intro hz1 hz2)))
  clear hi hz0 hz1 hz2
  go_enter Try.func29, Try.ntmps29
  go_wp2_with (at_builtin; refine halt ?_)
  refine goon ?_
  obtain ⟨hi, hz0, hz1, hz2⟩ := H1.out
  refine wpList_append_opt rfl (.const (.slice none 0 0)) (.tmp 11) 35 rfl 22 i0 (.int .u64 0) 1 8 Try.underlying35 hi hz0 hz1 hz2 rfl (by decide) (.slice none 0 0) 0 [] rfl (isHeap V S * (isSt ⟨g, mb, .slice oo Y.ord.length oc⟩ V.g Y * R)) ao roots.length cap (roots.map Go.Proofs.Ytanjiecefioffaa.u64) rfl ?_ h.s.nil_own (by simp) (CellsAt.words .u64 (hr w h.fr)) (by intro u hu; obtain ⟨y, _, rfl⟩ := List.mem_map.1 hu; rfl) (by omega) (by unfold maxLen; omega)
  clear hi hz0 hz1 hz2
  intro v1 w1 hs1 hb1
  have h1 : StW w1 ⟨g, mb, .slice oo Y.ord.length oc⟩ V S Y (own 22 1 v1 (roots.length + 0) ((roots ++ Y.words.take 0).map Go.Proofs.Ytanjiecefioffaa.u64) * R) := ⟨hs1.perm (by simp only [Nat.zero_add, Nat.add_zero, List.nil_append, List.take_zero, List.append_nil]; ac_rfl), h.ok⟩
  have hK := h1.known ht
  have c2 := h1.c2
  have HB := Lib.hid (And.intro h1 (And.intro hb1 h))
  clear hs1 h1 hb1
  go_wp2_with fail
  refine hK.mono ?_
  rintro e w' ⟨rfl, j, rfl⟩
  have c2' : (w1.drewN j).cell? ⟨g, 2, none⟩ = _ := c2
  go_wp2_with fail
  go_loopw [5, 20] (KRel1 w g mb oo oc V S Y R roots) (fun _ i _ => Y.ord.length - (intOf i).toNat)
  case atStart => exact ⟨0, Nat.zero_le _, rfl, HB.out.1.drewN j, HB.out.2.1.trans (drewN_below0 _ _)⟩
  case round =>
    obtain ⟨k, hk, rfl, hs, hb⟩ := hrel
    by_cases hlt : k < Y.ord.length
    · obtain ⟨s, es⟩ : ∃ s, Y.ord[k]? = some s := ⟨_, List.getElem?_eq_getElem hlt⟩
      obtain ⟨px, hpx, hp0, hp1⟩ := hsy s (List.mem_of_getElem? es)
      obtain ⟨b, cap', hov, _, _, hro⟩ := hs.syms.right.own_some (by omega)
      simp only [Value.slice.injEq] at hov
      obtain ⟨rfl, _, rfl⟩ := hov
      have hcs := hro.row_cell (j := k) (v := .string s) (by rw [List.getElem?_map, es]; rfl)
      have hlk := run_lookup_str1 (P := Try.prog) hs.syms Try.underlying38 Try.underlying9 (zero_u64 wr) s
      dsimp only at hlk
      rw [hpx] at hlk
      have htk : (roots ++ Y.words.take (k + 1)).map Go.Proofs.Ytanjiecefioffaa.u64 = (roots ++ Y.words.take k).map Go.Proofs.Ytanjiecefioffaa.u64 ++ [.int .u64 px] := by
        have : Y.words[k]? = some px := by unfold StS.words; rw [List.getElem?_map, es]; simp [hpx]
        rw [List.take_add_one, this]; simp
      have HX := Lib.hid (And.intro hs (And.intro hb (And.intro htk es)))
      clear hs hb htk es hro hpx hsy
      go_wp2_with (at_builtin; refine halt ?_)
      refine goon ?_
      obtain ⟨hi, hz0, hz1, hz2⟩ := H1.out
      have hs7 : sat (wr.alloc (.cells #[.int .u64 px] 22)) (own 22 1 u5 (roots.length + k) ((roots ++ Y.words.take k).map Go.Proofs.Ytanjiecefioffaa.u64) * (Go.Proofs.Ytanjiecefioffaa.blk wr.heap.size (.cells #[.int .u64 px] 22 (0, 0)) * (isHeap V S * (isSt ⟨g, mb, .slice (some ⟨b, 0, none⟩) Y.ord.length oc⟩ V.g Y * R)))) := (HX.out.1.s.alloc (.cells #[.int .u64 px] 22)).perm (by ac_rfl)
      have hnew : (wr.alloc (.cells #[.int .u64 px] 22)).cell? ⟨wr.heap.size, 0, none⟩ = some (.int .u64 px) := (hs7.right.left.cell 0).trans rfl
      have hb7 : Below 0 w (wr.alloc (.cells #[.int .u64 px] 22)) := HX.out.2.1.trans (Below.zero_alloc _ _)
      generalize wr.alloc (.cells #[.int .u64 px] 22) = w7 at *
      generalize wr.heap.size = bn at *
      refine wpList_append_one rfl (.tmp 24) (.tmp 28) 35 rfl 22 i0 (.int .u64 0) 8 Try.underlying35 hi hz0 hz1 hz2 rfl u5 (roots.length + k) ((roots ++ Y.words.take k).map Go.Proofs.Ytanjiecefioffaa.u64) rfl _ bn (.int .u64 px) rfl ?_ hs7 hnew rfl (by omega) (by unfold maxLen; omega)
      clear hi hz0 hz1 hz2 hnew hs7
      intro v' w9 hs9 hb9
      have HQ := Lib.hid (And.intro hs9 (hb7.trans hb9))
      clear hs9 hb9 hb7
      go_wp2_with fail
      go_roundw
      case rel =>
        refine ⟨k + 1, by omega, by go_num, ⟨?_, HX.out.1.ok⟩, HQ.out.2⟩
        rw [HX.out.2.2.1]
        have h12 : sat w9 (Go.Proofs.Ytanjiecefioffaa.blk bn (.cells #[.int .u64 px] 22 (0, 0)) * (isHeap V S * (isSt ⟨g, mb, .slice (some ⟨b, 0, none⟩) Y.ord.length oc⟩ V.g Y * (own 22 1 v' (roots.length + k + 1) ((roots ++ Y.words.take k).map Go.Proofs.Ytanjiecefioffaa.u64 ++ [.int .u64 px]) * R)))) := HQ.out.1.perm (by ac_rfl)
        exact h12.right
      case measure => simp [intOf]; omega
    · obtain rfl : k = Y.ord.length := by omega
      have hge : (Y.ord.length : Int) ≤ Y.ord.length := by omega
      have hwl : Y.words.length = Y.ord.length := by unfold StS.words; simp
      rw [List.take_of_length_le (by omega)] at hs
      obtain ⟨ao5, c5, rfl⟩ := own_val hs.fr
      have hal : (roots ++ Y.words).length = roots.length + Y.ord.length := by rw [List.length_append, hwl]
      have hau : ∀ x ∈ roots ++ Y.words, 0 ≤ x ∧ x < 18446744073709551616 := by
        intro x hx
        rcases List.mem_append.1 hx with hx | hx
        · exact hu x hx
        · unfold StS.words at hx
          obtain ⟨s, hs, rfl⟩ := List.mem_map.1 hx
          obtain ⟨v, hv, h0, h1⟩ := hsy s hs
          rw [hv]; exact ⟨h0, h1⟩
      have hC := hs.hw.Collect ao5 c5 (roots ++ Y.words) (fun w' h' => own_reads (n := roots.length + Y.ord.length) hal rfl h'.right) hau (by rw [hal]; omega) htm
      rw [hal] at hC
      have c0 := hs.c0
      generalize hall : roots ++ Y.words = all at *
      have HX := Lib.hid (And.intro hb (And.intro hal (And.intro hau (And.intro hall hsy))))
      clear hs hb hwl hal hau hall hsy HB
      go_wp2_with fail
      refine hC.mono ?_
      rintro e w2 ⟨bo, V2, rfl, hg2, h2, hb2⟩
      have h2' := StW.turn (R := row 22 1 bo all.length ((S.moved all).map Go.Proofs.Ytanjiecefioffaa.u64) * R) (V' := V2) (X := ⟨g, mb, .slice oo Y.ord.length oc⟩) (Y := Y) ⟨(show sat w2 (own 22 1 (.slice ao5 (roots.length + Y.ord.length) c5) (roots.length + Y.ord.length) (all.map Go.Proofs.Ytanjiecefioffaa.u64) * (isHeap V2 (S.collect all) * (isSt ⟨g, mb, .slice oo Y.ord.length oc⟩ V.g Y * (row 22 1 bo all.length ((S.moved all).map Go.Proofs.Ytanjiecefioffaa.u64) * R)))) from h2.s.perm (by ac_rfl)).right, h2.ok⟩ hg2
      have hbw := HX.out.1.trans hb2
      have hT := h2'.hw.v.Times
      have c0 := h2'.c0
      have c3 := h2'.c3
      have f3 := h2'.blk.frozen 3
      have hml : (S.moved all).length = all.length := by unfold HS.moved; exact moved_len S all _
      have hmu : ∀ x ∈ S.moved all, 0 ≤ x ∧ x < 18446744073709551616 := (gc_end h.ok.wf h.hw.v.len HX.out.2.2.1).u
      have HY := Lib.hid (And.intro h2' (And.intro hbw (And.intro hml (And.intro hmu hg2))))
      clear h2 h2' hbw hb2 hC hml hmu hg2
      dsimp only at c0 c3 f3
      go_wp2_with fail
      refine hT.mono ?_
      rintro e w' ⟨rfl, j2, rfl⟩
      have c3' : (w2.drewN j2).cell? ⟨g, 3, none⟩ = some (.int .i64 (Y.tm : Int)) := c3
      have f3' : (w2.drewN j2).frozen? ⟨g, 3, none⟩ = false := f3
      obtain ⟨tm, htm2⟩ : ∃ tm : Nat, S.times + 1 = tm := ⟨_, rfl⟩
      have htt : (((S.collect all).times : Nat) : Int) = (tm : Int) := by rw [← htm2]; rfl
      rw [htt]
      have HTM := Lib.hid htm2
      clear htt htm2
      go_upto_region 10 with (fail)
      have hs3 : sat ((w2.drewN j2).setCell ⟨g, 3, none⟩ (.int .i64 (tm : Int))) (isHeap V2 (S.collect all) * (isSt ⟨g, mb, .slice oo Y.ord.length oc⟩ V2.g ⟨Y.syms, Y.ord, tm⟩ * (row 22 1 bo all.length ((S.moved all).map Go.Proofs.Ytanjiecefioffaa.u64) * R))) := by
        have h3 := (HY.out.1.drewN j2).s
        unfold isSt at h3 ⊢
        dsimp only at h3 ⊢
        have h4 := (show sat (w2.drewN j2) (Go.Proofs.Ytanjiecefioffaa.blk g (.cells #[.pointer (some ⟨V2.g, 0, none⟩), .map (some mb), .slice oo Y.ord.length oc, i64 Y.tm] 41 (0, 0)) * (mapS mb Y.syms * (own 9 1 (.slice oo Y.ord.length oc) Y.ord.length (Y.ord.map .string) * (isHeap V2 (S.collect all) * (row 22 1 bo all.length ((S.moved all).map Go.Proofs.Ytanjiecefioffaa.u64) * R))))) from h3.perm (by ac_rfl)).setCell (off := 3) (.int .i64 (tm : Int))
        exact h4.perm (by simp only [List.setIfInBounds_toArray, List.set_cons_succ, List.set_cons_zero]; ac_rfl)
      have hb3 : Below 0 w ((w2.drewN j2).setCell ⟨g, 3, none⟩ (.int .i64 (tm : Int))) := (HY.out.2.1.trans (drewN_below0 w2 j2)).setCell (p := ⟨g, 3, none⟩) (Nat.zero_le _) _
      clear c3 c3' f3 f3' hT
      generalize (w2.drewN j2).setCell ⟨g, 3, none⟩ (.int .i64 (tm : Int)) = w3 at *
      have h3 : StW w3 ⟨g, mb, .slice oo Y.ord.length oc⟩ V2 (S.collect all) ⟨Y.syms.updAll ((Y.ord.zip ((S.moved all).drop roots.length)).take 0), Y.ord, tm⟩ (row 22 1 bo all.length ((S.moved all).map Go.Proofs.Ytanjiecefioffaa.u64) * R) := ⟨hs3, HY.out.1.ok⟩
      have c2 := h3.c2
      dsimp only at c2
      have HZ := Lib.hid (And.intro h3 hb3)
      clear hs3 h3 hb3 c0
      go_wp2_with fail
      go_loopw [50] (KRel2 w g mb oo oc V2 (S.collect all) Y.syms Y.ord tm ((S.moved all).drop roots.length) (row 22 1 bo all.length ((S.moved all).map Go.Proofs.Ytanjiecefioffaa.u64) * R)) (fun i _ => Y.ord.length - (intOf i).toNat)
      case atStart => exact ⟨0, Nat.zero_le _, rfl, HZ.out.1, HZ.out.2⟩
      case round =>
        clear HZ
        obtain ⟨k, hk, rfl, hs, hb⟩ := hrel
        by_cases hlt : k < Y.ord.length
        · obtain ⟨s, es⟩ : ∃ s, Y.ord[k]? = some s := ⟨_, List.getElem?_eq_getElem hlt⟩
          obtain ⟨y, ey⟩ : ∃ y, (S.moved all)[roots.length + k]? = some y := ⟨_, List.getElem?_eq_getElem (by have := HX.out.2.1; have := HY.out.2.2.1; omega)⟩
          obtain ⟨b, cap', hov, _, _, hro⟩ := hs.syms.right.own_some (by dsimp only; omega)
          simp only [Value.slice.injEq] at hov
          obtain ⟨rfl, _, rfl⟩ := hov
          have hcs := hro.row_cell (j := k) (v := .string s) (by rw [List.getElem?_map, es]; rfl)
          have hrw : sat wr (row 22 1 bo all.length ((S.moved all).map Go.Proofs.Ytanjiecefioffaa.u64) * R) := hs.fr
          have hcy := hrw.row_cell (j := roots.length + k) (v := .int .u64 y) (by rw [List.getElem?_map, ey]; rfl)
          have c1 := hs.c1
          dsimp only at c1
          have hzk : (Y.ord.zip ((S.moved all).drop roots.length))[k]? = some (s, y) := by
            rw [List.getElem?_zip_eq_some, List.getElem?_drop]
            exact ⟨es, ey⟩
          have hsome : ((Y.syms.updAll ((Y.ord.zip ((S.moved all).drop roots.length)).take k)).get s).isSome = true := by
            rw [SM.updAll_isSome]
            obtain ⟨v, hv, _⟩ := HX.out.2.2.2.2 s (List.mem_of_getElem? es)
            rw [hv]; rfl
          obtain ⟨o, hrun, hs4, hb4⟩ := run_update_str (P := Try.prog) hs.syms Try.underlying38 Try.underlying9 s y hsome
          have hst : Y.syms.updAll ((Y.ord.zip ((S.moved all).drop roots.length)).take (k + 1)) = (Y.syms.updAll ((Y.ord.zip ((S.moved all).drop roots.length)).take k)).upd s y := by
            rw [List.take_add_one, hzk]
            exact SM.updAll_app _ (s, y) _
          have g1 : IntKind.i64.wrap ((roots.length : Int) + k) = roots.length + k := IntWalk.i64_in _ (by omega)
          have g2 : decide ((roots.length : Int) + k < (all.length : Int)) = true := by have := HX.out.2.1; simp; omega
          have g3 : ((roots.length : Int) + k).toNat = roots.length + k := by omega
          have g4 : (0 : Int) ≤ (roots.length : Int) + k := by omega
          have g5 : (roots.length : Int) + k < (all.length : Int) := by have := HX.out.2.1; omega
          have HW := Lib.hid (And.intro hs4 (And.intro (hb.trans hb4) (And.intro hst hs.ok)))
          clear hs hb hs4 hb4 hst hsome hzk hro hrw ey es
          have hr1 : (Instr.mapUpdate 38 (.map (some mb)) (.string s) (.int .u64 y)).run Try.prog wr.drew = .ok () (setObj wr mb o).drew := hrun 1
          clear hrun
          go_wp2_with fail
          go_region
          have HV := Lib.hid (And.intro HW.out.1.drew HW.out.2.1.drew)
          clear hr1
          generalize (setObj wr mb o).drew = w5 at *
          go_wp2_with fail
          go_roundw
          case rel =>
            refine ⟨k + 1, by omega, by go_num, ⟨?_, HW.out.2.2.2⟩, HV.out.2⟩
            rw [HW.out.2.2.1]
            unfold isSt
            exact HV.out.1.perm (by dsimp only; ac_rfl)
          case measure => simp [intOf]; omega
        · obtain rfl : k = Y.ord.length := by omega
          have hge2 : (Y.ord.length : Int) ≤ Y.ord.length := by omega
          have hlz : (Y.ord.zip ((S.moved all).drop roots.length)).length = Y.ord.length := by
            rw [List.length_zip, List.length_drop]
            have := HX.out.2.1; have := HY.out.2.2.1
            omega
          rw [List.take_of_length_le (by omega)] at hs
          have g1 : roots.length ≤ all.length := by have := HX.out.2.1; omega
          have HF := Lib.hid (And.intro hs hb)
          clear hs hb hlz
          go_wp2_with fail
          go_ret
          refine ⟨bo, V2, rfl, HY.out.2.2.2.2, ?_, HF.out.2⟩
          unfold StS.kept
          rw [HX.out.2.2.2.1, HTM.out]
          exact HF.out.1
end
end Go.Proofs.Ytanjiecefioffaa

/- ValueSymbols, plainly: what holds while names are made symbols. -/
namespace Go.Proofs.Ytanjiecefioffaa
open Go.RowKit

structure SymInv (names : List ByteArray) (T k L : Nat) (S : HS) (Y : StS) (ls : List Int) : Prop where
  tm : Y.tm = S.times
  tb : S.times ≤ T
  size : S.size = 32768
  len : S.ws.length ≤ L
  ll : ls.length = k
  got : ∀ j s, j < k → names[j]? = some s → Y.syms.get s = ls[j]?
  sym : ∀ s v, Y.syms.get s = some v → SymIn S (bytesOf s) v ∧ s.size ≤ 300
  ord : ∀ s, s ∈ Y.ord ↔ (Y.syms.get s).isSome = true
  ol : Y.ord.length ≤ k
theorem SM.get_app (l : SM) (s t : ByteArray) (v : Int) : SM.get (l ++ [(s, v)]) t = (SM.get l t).or (if s = t then some v else none) := by
  induction l with
  | nil => rw [List.nil_append, SM.get_cons]; simp [SM.get]
  | cons p l ih =>
    rw [List.cons_append, SM.get_cons, SM.get_cons, ih]
    split <;> simp
theorem SM.updAll_get (f : ByteArray → Int) (t : ByteArray) : ∀ (r : List (ByteArray × Int)) (l : SM), (∀ p ∈ r, p.2 = f p.1 ∧ (l.get p.1).isSome = true) → (t ∈ r.map (·.1) → (l.updAll r).get t = some (f t)) ∧ (t ∉ r.map (·.1) → (l.updAll r).get t = l.get t) := by
  intro r
  induction r with
  | nil => intro l _; exact ⟨fun h => absurd h (by simp), fun _ => rfl⟩
  | cons p r ih =>
    intro l h
    obtain ⟨h1, h2⟩ := h p (by simp)
    obtain ⟨g1, g2⟩ := ih (l.upd p.1 p.2) (fun q hq => ⟨(h q (by simp [hq])).1, by rw [SM.upd_isSome]; exact (h q (by simp [hq])).2⟩)
    unfold SM.updAll
    have hu := SM.upd_get l p.1 p.2 t h2
    refine ⟨fun hm => ?_, fun hm => ?_⟩
    · by_cases hr : t ∈ r.map (·.1)
      · exact g1 hr
      · rw [g2 hr, hu]
        rw [List.map_cons, List.mem_cons] at hm
        rcases hm with e | e
        · rw [if_pos e, h1, e]
        · exact absurd e hr
    · rw [List.map_cons, List.mem_cons, not_or] at hm
      rw [g2 hm.2, hu, if_neg hm.1]

section
variable {names : List ByteArray} {T k L : Nat} {S : HS} {Y : StS} {ls : List Int}
theorem SymInv.old (h : SymInv names T k L S Y ls) {s : ByteArray} {v : Int} (hs : names[k]? = some s) (hv : Y.syms.get s = some v) : SymInv names T (k + 1) (L + 43) S Y (ls ++ [v]) := by
  have hll := h.ll
  refine ⟨h.tm, h.tb, h.size, by have := h.len; omega, by simp [h.ll], ?_, h.sym, h.ord, by have := h.ol; omega⟩
  intro j t hj ht
  by_cases e : j = k
  · subst e
    rw [hs] at ht
    cases ht
    rw [List.getElem?_append_right (by omega), hll, Nat.sub_self]
    exact hv
  · rw [List.getElem?_append_left (by omega)]
    exact h.got j t (by omega) ht
theorem sym_len (S : HS) (b : List Int) : (S.sym b).ws.length = S.ws.length + 4 + (b.length + 7) / 8 ∧ (S.sym b).size = S.size ∧ (S.sym b).times = S.times := by
  obtain ⟨h1, h2, h3⟩ := text_len S b
  have h4 := wordsOf_len b
  refine ⟨?_, h2, h3⟩
  unfold HS.sym HS.part
  simp [h1]
  omega
theorem SymInv.new (h : SymInv names T k L S Y ls) (hw : WfH S.ws S.bs) {s : ByteArray} (hs : names[k]? = some s) (hsz : s.size ≤ 300) (hv : Y.syms.get s = none) :
    SymInv names T (k + 1) (L + 43) (S.sym (bytesOf s)) (Y.sym s (4 * ((S.text (bytesOf s)).ws.length : Int))) (ls ++ [4 * ((S.text (bytesOf s)).ws.length : Int)]) := by
  have hll := h.ll
  have hbl := bytesOf_len s
  obtain ⟨l1, l2, l3⟩ := sym_len S (bytesOf s)
  have hext : Ext S (S.sym (bytesOf s)) := (part_ext S 3 0 _ 0 _ _).trans (part_ext (S.text (bytesOf s)) 4 1 0 2 _ 1)
  have hin := sym_in (S := S) (bytesOf s) hw
  generalize 4 * ((S.text (bytesOf s)).ws.length : Int) = p at *
  have hget : ∀ t, (Y.sym s p).syms.get t = (Y.syms.get t).or (if s = t then some p else none) := fun t => SM.get_app _ _ _ _
  refine ⟨h.tm.trans l3.symm, by rw [l3]; exact h.tb, by rw [l2]; exact h.size, by have := h.len; omega, by simp [hll], ?_, ?_, ?_, ?_⟩
  · intro j t hj ht
    rw [hget]
    by_cases e : j = k
    · subst e
      rw [hs] at ht
      cases ht
      rw [List.getElem?_append_right (by omega), hll, Nat.sub_self, hv, if_pos rfl]
      rfl
    · rw [List.getElem?_append_left (by omega), h.got j t (by omega) ht, List.getElem?_eq_getElem (by omega)]
      rfl
  · intro t v ht
    rw [hget] at ht
    cases hg : Y.syms.get t with
    | some v' =>
      rw [hg] at ht
      simp at ht
      subst ht
      obtain ⟨a, b⟩ := h.sym t v' hg
      exact ⟨a.ext hext hw (by rw [bytesOf_len]; omega), b⟩
    | none =>
      rw [hg] at ht
      by_cases e : s = t
      · subst e
        rw [if_pos rfl] at ht
        simp at ht
        subst ht
        exact ⟨hin, hsz⟩
      · rw [if_neg e] at ht; cases ht
  · intro t
    rw [hget]
    unfold StS.sym
    simp only [List.mem_append, List.mem_singleton]
    rw [h.ord t]
    cases hg : Y.syms.get t with
    | some v' => simp
    | none => by_cases e : s = t <;> simp [e, eq_comm]
  · unfold StS.sym; simp; exact h.ol
theorem SymInv.text (h : SymInv names T k L S Y ls) (hw : WfH S.ws S.bs) (b : List Int) (hb : b.length = 7) : SymInv names T k (L + 3) (S.text b) Y ls := by
  obtain ⟨l1, l2, l3⟩ := text_len S b
  have h4 := wordsOf_len b
  refine ⟨h.tm.trans l3.symm, by rw [l3]; exact h.tb, by rw [l2]; exact h.size, by have := h.len; omega, h.ll, h.got, ?_, h.ord, h.ol⟩
  intro t v ht
  obtain ⟨a, c⟩ := h.sym t v ht
  exact ⟨a.ext (part_ext S 3 0 _ 0 _ _) hw (by rw [bytesOf_len]; omega), c⟩
theorem SymInv.u (h : SymInv names T k L S Y ls) (hw : WfH S.ws S.bs) (hs : S.ws.length ≤ 1048576) {s : ByteArray} {v : Int} (hv : Y.syms.get s = some v) : 0 ≤ v ∧ v < 18446744073709551616 := by
  have hi := (h.sym s v hv).1.is
  have := is_lt hw hi
  have := is_nonneg hw hi
  omega
theorem SymInv.lsu (h : SymInv names T k L S Y ls) (hw : WfH S.ws S.bs) (hs : S.ws.length ≤ 1048576) (hn : k ≤ names.length) : ∀ x ∈ ls, 0 ≤ x ∧ x < 18446744073709551616 := by
  intro x hx
  obtain ⟨j, hj⟩ := List.mem_iff_getElem?.1 hx
  have hjl := (List.getElem?_eq_some_iff.1 hj).1
  have hll := h.ll
  have hg := h.got j _ (by omega) (List.getElem?_eq_getElem (show j < names.length by omega))
  exact h.u hw hs (hg.trans hj)
theorem SymInv.keep (h : SymInv names T k L S Y ls) (hw : WfH S.ws S.bs) (hp : PtrOk S.ws S.bs) (hs : S.ws.length ≤ 1048576) (hn : k ≤ names.length) :
    SymInv names (T + 1) k L (S.collect (ls ++ Y.words)) (Y.kept S ls) (ls.map (fwd S (gcEnd S (ls ++ Y.words)))) := by
  have hall : ∀ x ∈ ls ++ Y.words, 0 ≤ x ∧ x < 18446744073709551616 := by
    intro x hx
    rcases List.mem_append.1 hx with hx | hx
    · exact h.lsu hw hs hn x hx
    · unfold StS.words at hx
      obtain ⟨s, hs', rfl⟩ := List.mem_map.1 hx
      have h1 := (h.ord s).1 hs'
      obtain ⟨v, hv⟩ := Option.isSome_iff_exists.1 h1
      rw [hv]; exact h.u hw hs hv
  have he := gc_end hw hs hall
  have hok := gc_ok hw hp hs hall
  have hll := h.ll
  have hout : (S.moved (ls ++ Y.words)).drop ls.length = Y.words.map (fwd S (gcEnd S (ls ++ Y.words))) := by
    rw [he.out, List.map_append, List.drop_append_of_le_length (by simp), List.drop_of_length_le (by simp), List.nil_append]
  have hget : ∀ t, (t ∈ Y.ord → (Y.kept S ls).syms.get t = some (fwd S (gcEnd S (ls ++ Y.words)) ((Y.syms.get t).getD 0))) ∧ (t ∉ Y.ord → (Y.kept S ls).syms.get t = Y.syms.get t) := by
    intro t
    unfold StS.kept
    simp only
    rw [hout]
    have h1 := SM.updAll_get (fun s => fwd S (gcEnd S (ls ++ Y.words)) ((Y.syms.get s).getD 0)) t (Y.ord.zip (Y.words.map (fwd S (gcEnd S (ls ++ Y.words))))) Y.syms (by
      rintro ⟨s, y⟩ hz
      obtain ⟨i, hi⟩ := List.mem_iff_getElem?.1 hz
      rw [List.getElem?_zip_eq_some] at hi
      obtain ⟨h1, h2⟩ := hi
      unfold StS.words at h2
      rw [List.getElem?_map, List.getElem?_map, h1] at h2
      simp at h2
      exact ⟨h2.symm, (h.ord s).1 (List.mem_of_getElem? h1)⟩)
    rw [List.map_fst_zip (by unfold StS.words; simp)] at h1
    exact h1
  refine ⟨rfl, by show S.times + 1 ≤ T + 1; have := h.tb; omega, h.size, Nat.le_trans hok.2.2 h.len, by simp [hll], ?_, ?_, ?_, h.ol⟩
  · intro j s hj hs'
    have hg := h.got j s hj hs'
    rw [List.getElem?_eq_getElem (by omega)] at hg
    rw [(hget s).1 ((h.ord s).2 (by rw [hg]; rfl)), List.getElem?_map, List.getElem?_eq_getElem (by omega), hg]
    rfl
  · intro s v hv
    by_cases hm : s ∈ Y.ord
    · rw [(hget s).1 hm] at hv
      obtain ⟨v0, h0⟩ := Option.isSome_iff_exists.1 ((h.ord s).1 hm)
      rw [h0] at hv
      simp at hv
      subst hv
      obtain ⟨a, b⟩ := h.sym s v0 h0
      refine ⟨a.moved hw hs hall (he.res v0 (List.mem_append.2 (.inr ?_))) (by rw [bytesOf_len]; omega), b⟩
      unfold StS.words
      exact List.mem_map.2 ⟨s, hm, by rw [h0]; rfl⟩
    · rw [(hget s).2 hm] at hv
      exact absurd ((h.ord s).2 (by rw [hv]; rfl)) hm
  · intro s
    show s ∈ Y.ord ↔ _
    by_cases hm : s ∈ Y.ord
    · rw [(hget s).1 hm]; simp [hm]
    · rw [(hget s).2 hm]; exact h.ord s
theorem SymInv.name (h : SymInv names T k L S Y ls) (hw : WfH S.ws S.bs) {j : Nat} {s : ByteArray} {x : Int} (hj : j < k) (hs : names[j]? = some s) (hx : ls[j]? = some x) : S.nameOk x = true ∧ S.name x = s := by
  obtain ⟨a, b⟩ := h.sym s x ((h.got j s hj hs).trans hx)
  have h1 := a.name hw (bytesOf_u s) (by rw [bytesOf_len]; omega)
  rw [strOf_bytesOf] at h1
  exact h1
theorem SymInv.one (h : SymInv names T k L S Y ls) (hw : WfH S.ws S.bs) {i j : Nat} {s t : ByteArray} {x y : Int} (hi : i < k) (hj : j < k) (hs : names[i]? = some s) (ht : names[j]? = some t) (hx : ls[i]? = some x) (hy : ls[j]? = some y) : x = y ↔ s = t := by
  constructor
  · rintro rfl
    rw [← (h.name hw hi hs hx).2, ← (h.name hw hj ht hy).2]
  · rintro rfl
    have h1 := (h.got i s hi hs).trans hx
    have h2 := (h.got j s hj ht).trans hy
    rw [h1] at h2
    exact Option.some.inj h2
end
end Go.Proofs.Ytanjiecefioffaa

/- value.Store: what a maker of data leaves; Intern of whatever name. -/
namespace Go.Proofs.Ytanjiecefioffaa
open Go.RowKit

/-- No symbol is new. -/
def Still (S S' : HS) : Prop := ∀ x, S'.is x = true → S'.kind x = 4 → S.is x = true
theorem Still.refl (S : HS) : Still S S := fun _ h _ => h
/-- What lies behind a part that is laid. -/
theorem part_old {S : HS} (hl : S.bs.length = S.ws.length) (hz : 0 < S.ws.length) (kind : Int) (t r : Nat) (z : Int) (xs : List Int) (i : Nat) {x : Int} (hx : (S.part kind t r z xs i).is x = true) : S.is x = true ∨ x = 4 * (S.ws.length : Int) := by
  obtain ⟨h1, h2⟩ := is_iff.1 hx
  unfold HS.part at h2
  simp only at h2
  by_cases hlt : (x / 4).toNat < S.bs.length
  · rw [List.getElem?_append_left hlt] at h2
    exact .inl (is_iff.2 ⟨h1, h2⟩)
  · rw [List.getElem?_append_right (by omega)] at h2
    unfold laid at h2
    right
    cases hk : (x / 4).toNat - S.bs.length with
    | zero => omega
    | succ n =>
      rw [hk, List.getElem?_cons_succ, List.getElem?_replicate] at h2
      split at h2 <;> simp at h2
theorem part_headold {S : HS} (hl : S.bs.length = S.ws.length) (kind : Int) (t r : Nat) (z : Int) (xs : List Int) (i : Nat) {x : Int} (hx : S.is x = true) : (S.part kind t r z xs i).head x = S.head x := by
  have h := part_ext S kind t r z xs i
  rw [is_head hx, is_head (h.is hx)]
  refine h.at ?_
  have h2 := (is_iff.1 hx).2
  have := (List.getElem?_eq_some_iff.1 h2).1
  omega
theorem part_still {S : HS} (hl : S.bs.length = S.ws.length) (hz : 0 < S.ws.length) {kind : Int} {t r : Nat} (hk : kindH (headerOf kind t r) ≠ 4) (z : Int) (xs : List Int) (i : Nat) : Still S (S.part kind t r z xs i) := by
  intro x hx hx4
  rcases part_old hl hz kind t r z xs i hx with h | rfl
  · exact h
  · unfold HS.kind at hx4
    rw [part_head hl] at hx4
    exact absurd hx4 hk
theorem wf_pos {S : HS} (hw : WfH S.ws S.bs) : 0 < S.ws.length := by
  have h1 := hw.zero.1
  have h2 := hw.len
  have := (List.getElem?_eq_some_iff.1 h1).1
  omega
theorem Still.trans {S S' S'' : HS} (h1 : Still S S') (h2 : Still S' S'') (e : Ext S' S'') (hl : S'.bs.length = S'.ws.length) : Still S S'' := by
  intro x hx h4
  have h3 := h2 x hx h4
  refine h1 x h3 ?_
  have : S''.head x = S'.head x := by
    rw [is_head h3, is_head (e.is h3)]
    refine e.at ?_
    have h5 := (is_iff.1 h3).2
    have := (List.getElem?_eq_some_iff.1 h5).1
    omega
  unfold HS.kind at h4 ⊢
  rw [← this]
  exact h4
/-- The symbols are in order. -/
structure SyOk (S : HS) (Y : StS) : Prop where
  tm : Y.tm = S.times
  sym : ∀ s v, Y.syms.get s = some v → SymIn S (bytesOf s) v ∧ s.size ≤ 1048576
  ord : ∀ s, s ∈ Y.ord → (Y.syms.get s).isSome = true
  ol : Y.ord.length ≤ S.ws.length
  uniq : ∀ x, S.is x = true → S.kind x = 4 → ∃ s, Y.syms.get s = some x
/-- What a maker leaves. -/
def PutPost (X : StV) (V : HV) (S : HS) (Y : StS) (R : HP) (Q : HS → StS → Int → Prop) (w : World) (e : Ending) (w' : World) : Prop :=
  ∃ (X' : StV) (V' : HV) (S' : HS) (Y' : StS) (x : Int) (ok : Bool), e = .returned (.tuple #[.int .u64 x, .bool ok]) ∧ (X'.g = X.g ∧ V'.g = V.g) ∧ StW w' X' V' S' Y' R ∧ SyOk S' Y' ∧ (Ext S S' ∧ S'.size = S.size ∧ S'.times = S.times) ∧
    (∀ s v, Y.syms.get s = some v → Y'.syms.get s = some v) ∧ ((0 ≤ x ∧ x < 18446744073709551616) ∧ (ok = true → Q S' Y' x)) ∧ Below 0 w w'
theorem SyOk.ext {S S' : HS} {Y : StS} (h : SyOk S Y) (e : Ext S S') (hw : WfH S.ws S.bs) (ht : S'.times = S.times) (hs : Still S S') : SyOk S' Y := by
  refine ⟨by rw [h.tm, ht], fun s v hv => ⟨(h.sym s v hv).1.ext e hw (by rw [bytesOf_len]; have := (h.sym s v hv).2; omega), (h.sym s v hv).2⟩, h.ord, ?_, ?_⟩
  · obtain ⟨l, hl⟩ := e.ws
    rw [hl, List.length_append]
    have := h.ol
    omega
  · intro x hx h4
    have h1 := hs x hx h4
    refine h.uniq x h1 ?_
    unfold HS.kind at h4 ⊢
    rw [← e.head hw h1]
    exact h4
theorem SyOk.new (n : Nat) : SyOk (HS.new n) ⟨[], [], 0⟩ := by
  refine ⟨rfl, fun s v h => by simp [SM.get] at h, fun s h => by simp at h, Nat.zero_le _, fun x hx => ?_⟩
  obtain ⟨_, h2⟩ := is_iff.1 hx
  exfalso
  unfold HS.new at h2
  simp only at h2
  cases h : (x / 4).toNat with
  | zero => rw [h] at h2; simp at h2
  | succ k => rw [h] at h2; simp at h2
section
variable {w : World} {X : StV} {V : HV} {S : HS} {Y : StS} {R : HP}
theorem is_bd {S : HS} (hw : WfH S.ws S.bs) (hs : S.ws.length ≤ 1048576) {x : Int} (hx : S.is x = true) : 0 ≤ x ∧ x < 18446744073709551616 := by
  have h1 := is_nonneg hw hx
  have h2 := is_lt hw hx
  have h3 := (is_iff.1 hx).1
  omega
theorem StW.intern (h : StW w X V S Y R) (hy : SyOk S Y) (s : ByteArray) (hn : s.size ≤ 1048576) :
    Calls Try.prog 23 #[.pointer (some ⟨X.g, 0, none⟩), .string s] w (PutPost X V S Y R (fun S' Y' x => SymIn S' (bytesOf s) x ∧ Y'.syms.get s = some x) w) := by
  have hle : S.ws.length ≤ 1048576 := h.hw.v.len
  cases hv : Y.syms.get s with
  | some v =>
    refine (h.Intern_old hy.tm s v hv).mono ?_
    rintro e w' ⟨rfl, j, rfl⟩
    exact ⟨X, V, S, Y, v, true, rfl, ⟨rfl, rfl⟩, h.drewN j, hy, ⟨Ext.refl _, rfl, rfl⟩, fun _ _ h => h, ⟨is_bd h.ok.wf hle (hy.sym s v hv).1.is, fun _ => ⟨(hy.sym s v hv).1, hv⟩⟩, drewN_below0 _ _⟩
  | none =>
    by_cases hsm : s.size / 8 ≤ S.size
    · cases hok : symOk S (bytesOf s) with
      | true =>
        refine (h.Intern_new hy.tm s hv (by omega) hok (by have := hy.ol; omega)).mono ?_
        rintro e w' ⟨rfl, hb, X', V', hx, _, hg, h'⟩
        have hsi := sym_in (S := S) (bytesOf s) h.ok.wf
        obtain ⟨q1, q2, q3⟩ := sym_len S (bytesOf s)
        have hext : Ext S (S.sym (bytesOf s)) := (part_ext S 3 0 _ 0 _ _).trans (part_ext _ 4 1 0 2 _ 1)
        have hget : ∀ t, (Y.sym s (4 * ((S.text (bytesOf s)).ws.length : Int))).syms.get t = (Y.syms.get t).or (if s = t then some (4 * ((S.text (bytesOf s)).ws.length : Int)) else none) := fun t => SM.get_app _ _ _ _
        have hyo : ∀ t v, Y.syms.get t = some v → SymIn (S.sym (bytesOf s)) (bytesOf t) v ∧ t.size ≤ 1048576 := fun t v hv => ⟨(hy.sym t v hv).1.ext hext h.ok.wf (by rw [bytesOf_len]; have := (hy.sym t v hv).2; omega), (hy.sym t v hv).2⟩
        refine ⟨X', V', _, _, _, true, rfl, ⟨hx, hg⟩, h', ⟨by rw [q3]; exact hy.tm, ?_, ?_, ?_, ?_⟩, ⟨hext, q2, q3⟩, fun t v ht => by rw [hget, ht]; rfl, ⟨is_bd h'.ok.wf h'.hw.v.len hsi.is, fun _ => ⟨hsi, by rw [hget, hv]; simp⟩⟩, hb⟩
        · intro t v ht
          rw [hget] at ht
          cases hg2 : Y.syms.get t with
          | some v' => rw [hg2] at ht; cases ht; exact hyo t _ hg2
          | none =>
            rw [hg2] at ht
            by_cases hst : s = t
            · subst hst
              simp at ht
              subst ht
              exact ⟨hsi, hn⟩
            · simp [hst] at ht
        · intro t ht
          rw [hget]
          rcases List.mem_append.1 ht with ht | ht
          · have := hy.ord t ht
            cases hg2 : Y.syms.get t with
            | some v' => rfl
            | none => rw [hg2] at this; cases this
          · simp at ht
            subst ht
            simp
        · show (Y.ord ++ [s]).length ≤ _
          rw [List.length_append]
          have := hy.ol
          simp only [List.length_cons, List.length_nil]
          omega
        · intro x hx h4
          have htl := text_bs h.ok.wf.len (bytesOf s)
          have hwp := wf_pos h.ok.wf
          have htp : 0 < (S.text (bytesOf s)).ws.length := by have := (text_len S (bytesOf s)).1; omega
          rcases part_old htl htp 4 1 0 2 _ 1 hx with h1 | rfl
          · have hh : (S.sym (bytesOf s)).head x = (S.text (bytesOf s)).head x := part_headold htl 4 1 0 2 _ 1 h1
            have hwl := wordsOf_len (bytesOf s)
            have hst : Still S (S.text (bytesOf s)) := part_still h.ok.wf.len hwp (by
              obtain ⟨g1, g2, g3⟩ := text_head (wordsOf (bytesOf s)).length (by have := bytesOf_len s; omega)
              rw [show kindH (headerOf 3 (0 : Nat) ((wordsOf (bytesOf s)).length : Nat)) = 3 from g3]; decide) _ _ _
            have h4' : (S.text (bytesOf s)).kind x = 4 := by unfold HS.kind at h4 ⊢; rw [← hh]; exact h4
            have h2 := hst x h1 h4'
            have hh2 : (S.text (bytesOf s)).head x = S.head x := part_headold h.ok.wf.len 3 0 _ 0 _ _ h2
            obtain ⟨t, ht⟩ := hy.uniq x h2 (by unfold HS.kind at h4' ⊢; rw [← hh2]; exact h4')
            refine ⟨t, ?_⟩
            show (Y.sym s _).syms.get t = _
            rw [hget, ht]; rfl
          · refine ⟨s, ?_⟩
            show (Y.sym s _).syms.get s = _
            rw [hget, hv]; simp
      | false =>
        refine (h.Intern_full hy.tm s hv (by omega) hsm hok).mono ?_
        rintro e w' ⟨rfl, hb, V', hg, h'⟩
        exact ⟨X, V', S, Y, 0, false, rfl, ⟨rfl, hg⟩, h', hy, ⟨Ext.refl _, rfl, rfl⟩, fun _ _ h => h, ⟨by decide, fun h => by cases h⟩, hb⟩
    · refine (h.Intern_big hy.tm s hv (by omega) (by omega)).mono ?_
      rintro e w' ⟨rfl, j, rfl⟩
      exact ⟨X, V, S, Y, 0, false, rfl, ⟨rfl, rfl⟩, h.drewN j, hy, ⟨Ext.refl _, rfl, rfl⟩, fun _ _ h => h, ⟨by decide, fun h => by cases h⟩, drewN_below0 _ _⟩
end
end Go.Proofs.Ytanjiecefioffaa

/- value.Store.put of what has no parts. -/
namespace Go.Proofs.Ytanjiecefioffaa
open Go.RowKit

/-- What put makes of a datum. -/
def PutQ (n0 : Nat) (d : Dm) (S : HS) (Y : StS) (x : Int) : Prop := HIn S (plainP d) x ∧ ∀ k n p m t i r, d = .mk k n p m t i r → (k = 5 → Y.syms.get t = some x) ∧ (k = 4 ∨ k = 7 ∨ (k = 6 ∧ i ≠ []) → 4 * (n0 : Int) ≤ x) ∧ (k = 6 → i = [] → r = [])
theorem plain_at {k n : Int} {neg : Bool} {mag : List Int} {text : ByteArray} {items rest : List Dm} : plainP (.mk k n neg mag text items rest) =
    if k = 1 then .mk 1 0 (decide (sgn neg (valL mag) < 0)) (limbsOf (sgn neg (valL mag)).natAbs) ⟨#[]⟩ [] []
    else if k = 2 ∨ k = 3 then .mk k n false [] ⟨#[]⟩ [] []
    else if k = 4 ∨ k = 5 then .mk k 0 false [] text [] []
    else if k = 6 then (match plainPs rest with
      | [r] => joinD (plainPs items) r
      | _ => .mk 6 0 false [] ⟨#[]⟩ (plainPs items) [])
    else if k = 7 then .mk 7 0 false [] ⟨#[]⟩ (plainPs items) []
    else .mk k 0 false [] ⟨#[]⟩ [] [] := by
  conv => lhs; unfold plainP
  rfl
theorem char_word (n : Int) (h0 : 0 ≤ n) (h1 : n ≤ 255) : bits .or .u64 (n * 256) 22 = 256 * n + 22 := by
  have key : ∀ i : Fin 256, bits .or .u64 (((i.1 : Nat) : Int) * 256) 22 = 256 * ((i.1 : Nat) : Int) + 22 := by decide +kernel
  have := key ⟨n.toNat, by omega⟩
  simp only at this
  rw [show ((n.toNat : Nat) : Int) = n by omega] at this
  exact this
theorem number_still {S : HS} (hw : WfH S.ws S.bs) (v : Int) : Still S (S.number v).1 := by
  unfold HS.number
  split
  · exact Still.refl _
  · split
    · rename_i h
      have hwl := numWords_len v
      obtain ⟨g1, g2, g3⟩ := num_head (numWords v).length (by omega)
      exact part_still hw.len (wf_pos hw) (by rw [show kindH (headerOf 5 (0 : Nat) ((numWords v).length : Nat)) = 5 from g3]; decide) _ _ _
    · exact Still.refl _
theorem text_still {S : HS} (hw : WfH S.ws S.bs) (b : List Int) (hb : b.length ≤ 8388600) : Still S (S.text b) := by
  have hwl := wordsOf_len b
  obtain ⟨g1, g2, g3⟩ := text_head (wordsOf b).length (by omega)
  exact part_still hw.len (wf_pos hw) (by rw [show kindH (headerOf 3 (0 : Nat) ((wordsOf b).length : Nat)) = 3 from g3]; decide) _ _ _
section
variable {w : World} {X : StV} {V : HV} {S : HS} {Y : StS} {R : HP}
theorem put_none (hy : SyOk S Y) {w' : World} {Q : HS → StS → Int → Prop} (h' : StW w' X V S Y R) (hb : Below 0 w w') : PutPost X V S Y R Q w (.returned (.tuple #[.int .u64 0, .bool false])) w' :=
  ⟨X, V, S, Y, 0, false, rfl, ⟨rfl, rfl⟩, h', hy, ⟨Ext.refl _, rfl, rfl⟩, fun _ _ h => h, ⟨by decide, fun h => by cases h⟩, hb⟩
theorem put_imm (hy : SyOk S Y) {w' : World} {Q : HS → StS → Int → Prop} {x : Int} (h' : StW w' X V S Y R) (hb : Below 0 w w') (hx : 0 ≤ x ∧ x < 18446744073709551616) (hq : Q S Y x) : PutPost X V S Y R Q w (.returned (.tuple #[.int .u64 x, .bool true])) w' :=
  ⟨X, V, S, Y, x, true, rfl, ⟨rfl, rfl⟩, h', hy, ⟨Ext.refl _, rfl, rfl⟩, fun _ _ h => h, ⟨hx, fun _ => hq⟩, hb⟩
set_option maxRecDepth 100000 in
set_option maxHeartbeats 8000000 in
theorem StW.put_leaf (h : StW w X V S Y R) (hy : SyOk S Y) (k n : Int) (neg : Bool) (mag : List Int) (text : ByteArray) (items rest : List Dm) (hsz : (Dm.mk k n neg mag text items rest).size ≤ 1048576) (hk6 : k ≠ 6) (hk7 : k ≠ 7) (cs : List Value)
    (hd : DK R (.mk k n neg mag text items rest) cs) (deep : Int) (hdp : 0 < deep ∧ deep ≤ 100) :
    Calls Try.prog 58 #[.pointer (some ⟨X.g, 0, none⟩), .agg cs.toArray, .int .i64 deep] w (PutPost X V S Y R (PutQ S.ws.length (.mk k n neg mag text items rest)) w) := by
  rw [size_mk] at hsz
  obtain ⟨am, cm, ai, ci, ar, cr, rfl, ⟨hk, hn, hmag, hml, hcm, hci, hcr⟩, _⟩ := hd.open
  have h1 := h.push (dmO [.int .i64 k, .int .i64 n, .bool neg, .slice am mag.length cm, .string text, .slice ai items.length ci, .slice ar rest.length cr])
  have hb1 : Below 0 w (w.alloc (dmO [.int .i64 k, .int .i64 n, .bool neg, .slice am mag.length cm, .string text, .slice ai items.length ci, .slice ar rest.length cr])) := Below.zero_alloc _ _
  obtain ⟨g, hg⟩ : ∃ g, w.heap.size = g := ⟨_, rfl⟩
  rw [hg] at h1
  have c0 := h1.fr.left.cell 0
  have c1 := h1.fr.left.cell 1
  have c2 := h1.fr.left.cell 2
  have c3 := h1.fr.left.cell 3
  have c4 := h1.fr.left.cell 4
  simp only [List.getElem?_toArray, List.getElem?_cons_zero, List.getElem?_cons_succ] at c0 c1 c2 c3 c4
  have gd : (deep == 0) = false := by simp; omega
  have e6 : (k == 6) = false := by simp [hk6]
  have e7 : (k == 7) = false := by simp [hk7]
  have HH := Lib.hid (And.intro h (And.intro h1 (And.intro hb1 (And.intro hmag hml))))
  clear h h1 hb1 hmag hml hd
  go_enter Try.func58, Try.ntmps58
  go_upto_region 1 with (fail)
  generalize w.alloc (dmO [.int .i64 k, .int .i64 n, .bool neg, .slice am mag.length cm, .string text, .slice ai items.length ci, .slice ar rest.length cr]) = w1 at *
  by_cases hk1 : k = 1
  · subst hk1
    have hN := HH.out.2.1.Number neg am cm mag (fun w h => HH.out.2.2.2.1 w h.right) HH.out.2.2.2.2 (by unfold topB; omega) hcm
    obtain ⟨v, hv⟩ : ∃ v, sgn neg (valL mag) = v := ⟨_, rfl⟩
    rw [hv] at hN
    have hp : plainP (.mk 1 n neg mag text items rest) = .mk 1 0 (decide (v < 0)) (limbsOf v.natAbs) ⟨#[]⟩ [] [] := by rw [plain_at, if_pos rfl, hv]
    have HPp := Lib.hid hp
    clear hp hv e6 e7
    go_wp2_with fail
    with_reducible refine hN.mono ?_
    clear hN c0 c1 c2 c3 c4
    rintro e w2 ⟨rfl, hb2, V2, hg2, h2⟩
    obtain ⟨q1, q2, q3⟩ := number_size S v
    have hle : S.ws.length ≤ 1048576 := HH.out.1.hw.v.len
    have hwf := HH.out.1.ok.wf
    have hst := number_still (S := S) hwf v
    have hyes := fun hq => number_yes (S := S) hwf.len hle v hq
    have hbx : 0 ≤ (S.number v).2.1 ∧ (S.number v).2.1 < 18446744073709551616 := by
      unfold HS.number
      split
      · exact fixW_bd v
      · split
        · simp only; omega
        · simp only; omega
    obtain ⟨r, hr⟩ : ∃ r, S.number v = r := ⟨_, rfl⟩
    rw [hr] at h2 q1 q2 q3 hyes hbx hst ⊢
    obtain ⟨S2, x, ok⟩ := r
    simp only at h2 q1 q2 q3 hyes hbx hst ⊢
    have hpost : PutPost X V S Y R (PutQ S.ws.length (.mk 1 n neg mag text items rest)) w (.returned (.tuple #[.int .u64 x, .bool ok])) w2 := by
      refine ⟨X, V2, S2, Y, x, ok, rfl, ⟨rfl, hg2⟩, h2.drop, hy.ext q3 hwf q2 hst, ⟨q3, q1, q2⟩, fun _ _ h => h, ⟨hbx, fun hok => ⟨?_, fun k n p m t i r he => by cases he; exact ⟨fun hk => (by cases hk), fun hk => (by omega), fun hk => (by cases hk)⟩⟩⟩, HH.out.2.2.1.trans hb2⟩
      rw [HPp.out]
      unfold HIn
      exact ⟨hbx, .inl ⟨v, rfl, rfl, rfl, rfl, rfl, rfl, rfl, (hyes hok).1⟩⟩
    have HF := Lib.hid hpost
    clear hpost h2 hb2 hg2 q1 q2 q3 hyes hr hbx hst
    go_wp2_with fail
    go_ret2
    exact HF.out
  · have e1 : (k == 1) = false := by simp [hk1]
    by_cases hk2 : k = 2
    · subst hk2
      have hp : plainP (.mk 2 n neg mag text items rest) = .mk 2 n false [] ⟨#[]⟩ [] [] := by rw [plain_at, if_neg (by decide), if_pos (.inl rfl)]
      have hq : ∀ x, ((n = 0 ∧ x = 2) ∨ (n = 1 ∧ x = 6)) → PutQ S.ws.length (.mk 2 n neg mag text items rest) S Y x := by
        intro x hx
        refine ⟨?_, fun k n p m t i r he => by cases he; exact ⟨fun hk => (by cases hk), fun hk => (by omega), fun hk => (by cases hk)⟩⟩
        rw [hp]
        unfold HIn
        exact ⟨by rcases hx with ⟨_, rfl⟩ | ⟨_, rfl⟩ <;> decide, .inr (.inl ⟨rfl, rfl, rfl, rfl, rfl, rfl, hx⟩)⟩
      have HQ := Lib.hid hq
      clear hq hp e1 e6 e7 hk1
      by_cases hn0 : n = 0
      · subst hn0
        have hs2 := HH.out.2.1.push (.cells #[.int .u64 2, .int .u64 6] 22)
        have d1 := hs2.fr.right.left.cell 1
        have q0 := hs2.fr.left.cell 0
        simp only [List.getElem?_toArray, List.getElem?_cons_zero, List.getElem?_cons_succ] at d1 q0
        have HS := Lib.hid hs2
        clear hs2
        go_wp2_with fail
        go_ret2
        exact put_imm hy HS.out.drop.drop (HH.out.2.2.1.trans (Below.zero_alloc _ _)) (by decide) (HQ.out _ (by simp))
      · by_cases hn1 : n = 1
        · subst hn1
          have hs2 := HH.out.2.1.push (.cells #[.int .u64 2, .int .u64 6] 22)
          have d1 := hs2.fr.right.left.cell 1
          have q0 := hs2.fr.left.cell 1
          simp only [List.getElem?_toArray, List.getElem?_cons_zero, List.getElem?_cons_succ] at d1 q0
          have HS := Lib.hid hs2
          clear hs2
          go_wp2_with fail
          go_ret2
          exact put_imm hy HS.out.drop.drop (HH.out.2.2.1.trans (Below.zero_alloc _ _)) (by decide) (HQ.out _ (by simp))
        · have x0 : (n != 0) = true := by simp [hn0]
          have x1 : (n != 1) = true := by simp [hn1]
          go_wp2_with fail
          go_ret2
          exact put_none hy HH.out.2.1.drop HH.out.2.2.1
    · have e2 : (k == 2) = false := by simp [hk2]
      by_cases hk3 : k = 3
      · subst hk3
        have hp : plainP (.mk 3 n neg mag text items rest) = .mk 3 n false [] ⟨#[]⟩ [] [] := by rw [plain_at, if_neg (by decide), if_pos (.inr rfl)]
        clear e1 e2 e6 e7 hk1 hk2
        by_cases hn0 : n < 0
        · have x0 : decide (n < 0) = true := by simp [hn0]
          go_wp2_with fail
          go_ret2
          exact put_none hy HH.out.2.1.drop HH.out.2.2.1
        · have x0 : decide (n < 0) = false := by simp; omega
          by_cases hn1 : n > 255
          · have x1 : decide (n > 255) = true := by simp; omega
            go_wp2_with fail
            go_ret2
            exact put_none hy HH.out.2.1.drop HH.out.2.2.1
          · have x1 : decide (n > 255) = false := by simp; omega
            have g1 : IntKind.u64.wrap n = n := by rw [IntKind.wrap_u64]; omega
            have g2 := char_word n (by omega) (by omega)
            have g3 : IntKind.u64.wrap (n * 256) = n * 256 := by rw [IntKind.wrap_u64]; omega
            have hq : PutQ S.ws.length (.mk 3 n neg mag text items rest) S Y (256 * n + 22) := by
              refine ⟨?_, fun k n p m t i r he => by cases he; exact ⟨fun hk => (by cases hk), fun hk => (by omega), fun hk => (by cases hk)⟩⟩
              rw [hp]
              unfold HIn
              exact ⟨by omega, .inr (.inr (.inl ⟨rfl, rfl, rfl, rfl, rfl, rfl, by omega, by omega, rfl⟩))⟩
            have HQ := Lib.hid hq
            clear hq hp
            go_wp2_with fail
            go_ret2
            exact put_imm hy HH.out.2.1.drop HH.out.2.2.1 (by omega) HQ.out
      · have e3 : (k == 3) = false := by simp [hk3]
        by_cases hk4 : k = 4
        · subst hk4
          have hp : plainP (.mk 4 n neg mag text items rest) = .mk 4 0 false [] text [] [] := by rw [plain_at, if_neg (by decide), if_neg (by decide), if_pos (.inl rfl)]
          clear e1 e2 e3 e6 e7 hk1 hk2 hk3
          have hcv := fun w s => run_bytes_of_string (P := Try.prog) w 9 44 5 s Try.underlying9 Try.underlying44 Try.underlying5
          have HPp := Lib.hid hp
          clear hp
          go_wp2_with fail
          have h4 : StW (w1.alloc (.cells (bytesRow text (grownCap w1 text.size 0 5)) 5 ((bytesRow text (grownCap w1 text.size 0 5)).size, (bytesRow text (grownCap w1 text.size 0 5)).size + 1))).drew X V S Y _ := (HH.out.2.1.push (.cells (bytesRow text (grownCap w1 text.size 0 5)) 5 ((bytesRow text (grownCap w1 text.size 0 5)).size, (bytesRow text (grownCap w1 text.size 0 5)).size + 1))).drewN 1
          have hbt : (bytesOf text).length ≤ 140737488355328 := by rw [bytesOf_len]; omega
          have hwf := HH.out.1.ok.wf
          have hbz := HH.out.2.2.1.trans (Below.zero_alloc w1 (.cells (bytesRow text (grownCap w1 text.size 0 5)) 5 ((bytesRow text (grownCap w1 text.size 0 5)).size, (bytesRow text (grownCap w1 text.size 0 5)).size + 1)))
          cases hok : textOk S (bytesOf text) with
          | true =>
            have hT := h4.Text_yes (some ⟨w1.heap.size, 0, none⟩) (grownCap w1 text.size 0 5) (bytesOf text) (bytesRow_in text _ _ _ _) (bytesOf_u text) hbt hok
            rw [bytesOf_len] at hT
            obtain ⟨l1, l2, l3⟩ := text_len S (bytesOf text)
            have hti := text_in hwf.len (bytesOf text)
            have hext : Ext S (S.text (bytesOf text)) := part_ext S 3 0 _ 0 _ _
            clear h4
            with_reducible refine hT.mono ?_
            clear hT c0 c1 c2 c3 c4 hcv
            rintro e w2 ⟨rfl, hb2, V2, hg2, h2⟩
            have hbx := is_bd h2.ok.wf h2.hw.v.len hti.is
            have hpost : PutPost X V S Y R (PutQ S.ws.length (.mk 4 n neg mag text items rest)) w (.returned (.tuple #[.int .u64 (4 * (S.ws.length : Int)), .bool true])) w2 := by
              refine ⟨X, V2, S.text (bytesOf text), Y, _, true, rfl, ⟨rfl, hg2⟩, h2.drop.drop, hy.ext hext hwf l3 (text_still hwf (bytesOf text) (by rw [bytesOf_len]; omega)), ⟨hext, l2, l3⟩, fun _ _ h => h, ⟨hbx, fun _ => ⟨?_, fun k n p m t i r he => by cases he; exact ⟨fun hk => (by cases hk), fun _ => Int.le_refl _, fun hk => (by cases hk)⟩⟩⟩, (hbz.drew).trans hb2⟩
              rw [HPp.out]
              unfold HIn
              exact ⟨hbx, .inr (.inr (.inr (.inl ⟨rfl, rfl, rfl, rfl, rfl, rfl, by omega, hti⟩)))⟩
            have HF := Lib.hid hpost
            clear hpost h2 hb2 hg2 hti hext l1 l2 l3 hbx
            go_wp2_with fail
            go_ret2
            exact HF.out
          | false =>
            have hT := h4.Text_no (some ⟨w1.heap.size, 0, none⟩) (grownCap w1 text.size 0 5) (bytesOf text) (bytesRow_in text _ _ _ _) (bytesOf_u text) hbt hok
            rw [bytesOf_len] at hT
            clear h4
            with_reducible refine hT.mono ?_
            clear hT c0 c1 c2 c3 c4 hcv
            rintro e w2 ⟨rfl, hb2, V2, hg2, h2⟩
            have hpost : PutPost X V S Y R (PutQ S.ws.length (.mk 4 n neg mag text items rest)) w (.returned (.tuple #[.int .u64 0, .bool false])) w2 :=
              ⟨X, V2, S, Y, 0, false, rfl, ⟨rfl, hg2⟩, h2.drop.drop, hy, ⟨Ext.refl _, rfl, rfl⟩, fun _ _ h => h, ⟨by decide, fun h => by cases h⟩, (hbz.drew).trans hb2⟩
            have HF := Lib.hid hpost
            clear hpost h2 hb2 hg2
            go_wp2_with fail
            go_ret2
            exact HF.out
        · have e4 : (k == 4) = false := by simp [hk4]
          by_cases hk5 : k = 5
          · subst hk5
            have hp : plainP (.mk 5 n neg mag text items rest) = .mk 5 0 false [] text [] [] := by rw [plain_at, if_neg (by decide), if_neg (by decide), if_pos (.inr rfl)]
            clear e1 e2 e3 e4 e6 e7 hk1 hk2 hk3 hk4
            have hI := HH.out.2.1.intern hy text (by omega)
            have HPp := Lib.hid hp
            clear hp
            go_wp2_with fail
            with_reducible refine hI.mono ?_
            clear hI c0 c1 c2 c3 c4
            rintro e w2 ⟨X2, V2, S2, Y2, x, ok, rfl, hg2, h2, hy2, he2, hm2, ⟨hbx, hq2⟩, hb2⟩
            have hpost : PutPost X V S Y R (PutQ S.ws.length (.mk 5 n neg mag text items rest)) w (.returned (.tuple #[.int .u64 x, .bool ok])) w2 := by
              refine ⟨X2, V2, S2, Y2, x, ok, rfl, hg2, h2.drop, hy2, he2, hm2, ⟨hbx, fun hok => ⟨?_, fun k n p m t i r he => by cases he; exact ⟨fun _ => (hq2 hok).2, fun hk => (by omega), fun hk => (by cases hk)⟩⟩⟩, HH.out.2.2.1.trans hb2⟩
              rw [HPp.out]
              unfold HIn
              exact ⟨hbx, .inr (.inr (.inr (.inr (.inl ⟨rfl, rfl, rfl, rfl, rfl, rfl, by omega, (hq2 hok).1⟩))))⟩
            have HF := Lib.hid hpost
            clear hpost h2 hb2 hg2 hy2 he2 hm2 hbx hq2
            go_wp2_with fail
            go_ret2
            exact HF.out
          · have e5 : (k == 5) = false := by simp [hk5]
            by_cases hk8 : k = 8
            · subst hk8
              have hp : plainP (.mk 8 n neg mag text items rest) = .mk 8 0 false [] ⟨#[]⟩ [] [] := by rw [plain_at, if_neg (by decide), if_neg (by decide), if_neg (by decide), if_neg (by decide), if_neg (by decide)]
              have hq : PutQ S.ws.length (.mk 8 n neg mag text items rest) S Y 14 := by
                refine ⟨?_, fun k n p m t i r he => by cases he; exact ⟨fun hk => (by cases hk), fun hk => (by omega), fun hk => (by cases hk)⟩⟩
                rw [hp]
                unfold HIn
                exact ⟨by decide, .inr (.inr (.inr (.inr (.inr (.inl ⟨rfl, rfl, rfl, rfl, rfl, rfl, rfl, rfl⟩)))))⟩
              have HQ := Lib.hid hq
              clear hq hp
              go_wp2_with fail
              go_ret2
              exact put_imm hy HH.out.2.1.drop HH.out.2.2.1 (by decide) HQ.out
            · have e8 : (k == 8) = false := by simp [hk8]
              go_wp2_with fail
              go_ret2
              exact put_none hy HH.out.2.1.drop HH.out.2.2.1
end
end Go.Proofs.Ytanjiecefioffaa
