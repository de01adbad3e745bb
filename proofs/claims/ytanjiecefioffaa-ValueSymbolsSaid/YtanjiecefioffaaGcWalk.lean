/- Collect. -/
import Derived.Test.YtanjiecefioffaaGcCopy
import Derived.Test.YtanjiecefioffaaGcScan
namespace Go.Proofs.Ytanjiecefioffaa
open Go.RowKit

/-- The roots can be read wherever R holds. -/
def RootsIn (R : HP) (ao : Option Addr) (roots : List Int) : Prop := ∀ w, sat w R → ∀ j x, roots[j]? = some x → ∃ a, ao = some a ∧ w.cell? (a.add j) = some (.int .u64 x)

def CollectPost (V : HV) (S : HS) (roots : List Int) (R : HP) (w : World) (e : Ending) (w' : World) : Prop :=
  ∃ bo V', e = .returned (.slice (some ⟨bo, 0, none⟩) roots.length roots.length) ∧ V'.g = V.g ∧ HeapW w' V' (S.collect roots) (row 22 1 bo roots.length ((S.moved roots).map u64) * R) ∧ Below 0 w w'

theorem GcInv.copyRoom {S : HS} {c : CS} {P : Nat} {V : HV} (h : GcInv S c P) (ok : HOk V S) {x : Int} : S.is x = true → c.gone.getD (x / 4).toNat 0 = 0 → c.tw.length + sizeAt S.ws (x / 4).toNat ≤ 2097152 := by
  intro hi h0
  have := h.room ok.wf (is_iff.1 hi).2 h0
  have := ok.used
  have := ok.hi
  omega
theorem out_step (done : List Int) (n k : Nat) (hd : done.length = k) (hk : k < n) (v : Int) : ((done ++ List.replicate (n - k) 0).map u64).set k (.int .u64 v) = ((done ++ [v]) ++ List.replicate (n - (k + 1)) 0).map u64 := by
  obtain ⟨q, rfl⟩ : ∃ q, n = k + 1 + q := ⟨n - k - 1, by omega⟩
  rw [show k + 1 + q - k = q + 1 by omega, show k + 1 + q - (k + 1) = q by omega, List.map_append, List.set_append_right _ _ (by simp [hd])]
  simp [hd, List.replicate_succ]

/-- Collect's first loop: k roots are copied. -/
def CRel1 (w : World) (bf bg bt bh br bo : Nat) (V : HV) (S : HS) (roots : List Int) (R : HP) (i : Value) (wr : World) : Prop :=
  ∃ (k : Nat) (c : CS) (done : List Int) (bw cw bb cb : Nat), k ≤ roots.length ∧ i = .int .i64 k ∧ done.length = k ∧ (copyAll S c (roots.drop k)).1 = (copyAll S (CS.zero S) roots).1 ∧ done ++ (copyAll S c (roots.drop k)).2 = S.moved roots ∧
    GcInv S c 1 ∧ GMem wr ⟨bf, bg, bt, bh, br, bw, cw, bb, cb⟩ V S c (row 22 1 bo roots.length ((done ++ List.replicate (roots.length - k) 0).map u64) * R) ∧ Below 0 w wr

/-- Collect's second loop: the objects of the new half from place j on are to come. -/
def CRel2 (w : World) (bf bg bt bh br bo : Nat) (V : HV) (S : HS) (roots : List Int) (R : HP) (i : Value) (wr : World) : Prop :=
  ∃ (f : Nat) (c : CS) (j bw cw bb cb : Nat), i = .int .i64 j ∧ scan S f c j = gcEnd S roots ∧ (j = c.tw.length ∨ c.tb[j]? = some true) ∧ S.ws.length ≤ f + j ∧
    GcInv S c j ∧ GMem wr ⟨bf, bg, bt, bh, br, bw, cw, bb, cb⟩ V S c (row 22 1 bo roots.length ((S.moved roots).map u64) * R) ∧ Below 0 w wr

theorem num_eq {a b : Int} (h : a = b) : Value.int .i64 a = .int .i64 b := by rw [h]

theorem sat.two {w : World} {g : Nat} {cs : Array Value} {T : Nat} {X A B : HP} (h : sat w (A * (B * (blk g (.cells cs T (0, 0)) * X)))) (off : Nat) (u v : Value) :
    sat ((w.setCell ⟨g, off, none⟩ u).setCell ⟨g, off + 1, none⟩ v) (blk g (.cells ((cs.setIfInBounds off u).setIfInBounds (off + 1) v) T (0, 0)) * (X * (A * B))) := by
  have h1 : sat w (blk g (.cells cs T (0, 0)) * (X * (A * B))) := h.perm (by ac_rfl)
  exact (h1.setCell u).setCell v

/-- The half in use laid empty: what the other cells hold. -/
theorem cells_half (V : HV) (S : HS) (h : V.inn < 2) (e1 e2 : Value) :
    (((heapCells V S).setIfInBounds (1 + V.inn * 2) e1).setIfInBounds (1 + V.inn * 2 + 1) e2)[5]? = some (.int .i64 V.inn) ∧
    ((((heapCells V S).setIfInBounds (1 + V.inn * 2) e1).setIfInBounds (1 + V.inn * 2 + 1) e2).setIfInBounds 5 (.int .i64 ((1 - V.inn : Nat) : Int)))[5]? = some (.int .i64 ((1 - V.inn : Nat) : Int)) ∧
    (((((heapCells V S).setIfInBounds (1 + V.inn * 2) e1).setIfInBounds (1 + V.inn * 2 + 1) e2).setIfInBounds 5 (.int .i64 ((1 - V.inn : Nat) : Int)))[1 + (1 - V.inn) * 2]? = some V.o1 ∧
     ((((heapCells V S).setIfInBounds (1 + V.inn * 2) e1).setIfInBounds (1 + V.inn * 2 + 1) e2).setIfInBounds 5 (.int .i64 ((1 - V.inn : Nat) : Int)))[1 + (1 - V.inn) * 2 + 1]? = some V.o2) ∧
    (∀ (S' : HS) (bw cw bb cb : Nat), S'.size = S.size → S'.times = S.times + 1 →
      ((((((((heapCells V S).setIfInBounds (1 + V.inn * 2) e1).setIfInBounds (1 + V.inn * 2 + 1) e2).setIfInBounds 5 (.int .i64 ((1 - V.inn : Nat) : Int))).setIfInBounds (1 + (1 - V.inn) * 2) (.slice (some ⟨bw, 0, none⟩) S'.ws.length cw)).setIfInBounds (1 + (1 - V.inn) * 2 + 1) (.slice (some ⟨bb, 0, none⟩) S'.bs.length cb))[6]? = some (.int .i64 S.times)) ∧
       (((((((heapCells V S).setIfInBounds (1 + V.inn * 2) e1).setIfInBounds (1 + V.inn * 2 + 1) e2).setIfInBounds 5 (.int .i64 ((1 - V.inn : Nat) : Int))).setIfInBounds (1 + (1 - V.inn) * 2) (.slice (some ⟨bw, 0, none⟩) S'.ws.length cw)).setIfInBounds (1 + (1 - V.inn) * 2 + 1) (.slice (some ⟨bb, 0, none⟩) S'.bs.length cb)).setIfInBounds 6 (.int .i64 (S.times + 1 : Nat))) =
       heapCells ⟨V.g, 1 - V.inn, bw, cw, bb, cb, e1, e2⟩ S')) := by
  have e : V.inn = 0 ∨ V.inn = 1 := by omega
  rcases e with e | e
  · refine ⟨by simp [heapCells, e], by simp [heapCells, e], ⟨by simp [heapCells, e], by simp [heapCells, e]⟩, ?_⟩
    intro S' bw cw bb cb h1 h2
    simp [heapCells, e, HV.vw, HV.vb, h1, h2]
  · refine ⟨by simp [heapCells, e], by simp [heapCells, e], ⟨by simp [heapCells, e], by simp [heapCells, e]⟩, ?_⟩
    intro S' bw cw bb cb h1 h2
    simp [heapCells, e, HV.vw, HV.vb, h1, h2]

theorem keep3 {w : World} {V : HV} {S : HS} {c : CS} {R X : HP} {g T bf bg bt bh br bw cw bb cb : Nat} {cs : Array Value} (h : sat w (blk g (.cells cs T (0, 0)) * (gcMem ⟨bf, bg, bt, bh, br, bw, cw, bb, cb⟩ V S c * R * X))) :
    w.cell? ⟨bh, 0, none⟩ = some (.pointer (some ⟨V.g, 0, none⟩)) ∧ w.cell? ⟨bt, 0, none⟩ = some (.slice (some ⟨bw, 0, none⟩) c.tw.length cw) ∧ w.cell? ⟨bt, 1, none⟩ = some (.slice (some ⟨bb, 0, none⟩) c.tb.length cb) := by
  have hm := h.right.left.left
  unfold gcMem at hm
  have ht := hm.right.right.left
  exact ⟨(hm.right.right.right.left.cell 0).trans rfl, (ht.cell 0).trans rfl, (ht.cell 1).trans rfl⟩

/-- Its inner loop: the first i tagged fields of the object at place j are told anew. -/
def CRel3 (w : World) (bf bg bt bh br bo : Nat) (V : HV) (S : HS) (roots : List Int) (R : HP) (j : Nat) (hd : Int) (C1 : CS) (v : Value) (wr : World) : Prop :=
  ∃ (i : Nat) (c : CS) (bw cw bb cb : Nat), i ≤ (tagH hd).toNat ∧ v = .int .i64 i ∧ fixN S c (j + 1 + i) ((tagH hd).toNat - i) = C1 ∧ GcInv S c (j + 1 + i) ∧ c.tb[j]? = some true ∧ c.tw.getD j 0 = hd ∧
    GMem wr ⟨bf, bg, bt, bh, br, bw, cw, bb, cb⟩ V S c (row 22 1 bo roots.length ((S.moved roots).map u64) * R) ∧ Below 0 w wr

section
variable {w : World} {G : GV} {V : HV} {S : HS} {c : CS} {R : HP}
theorem GMem.tov (h : GMem w G V S c R) : w.cell? ⟨G.bt, 0, none⟩ = some (.slice (some ⟨G.bw, 0, none⟩) c.tw.length G.cw) := by
  have := h.s.left; unfold gcMem at this; exact (this.right.right.left.cell 0).trans rfl
theorem GMem.to_sat (h : GMem w G V S c R) : sat w (row 22 1 G.bw G.cw (c.tw.map u64) * emp) := by
  have := h.s.left; unfold gcMem at this; rw [HP.mul_emp]; exact this.right.right.right.right.right.left
theorem GMem.toAt (h : GMem w G V S c R) {k : Nat} (hk : k < c.tw.length) : w.cell? ⟨G.bw, k, none⟩ = some (.int .u64 (c.tw.getD k 0)) ∧ w.frozen? ⟨G.bw, k, none⟩ = false :=
  ⟨h.to_sat.row_cell (by rw [List.getElem?_map, getD_get hk]; rfl), h.to_sat.row_frozen k⟩
theorem GMem.toCap (h : GMem w G V S c R) : c.tw.length ≤ G.cw := by
  have := h.to_sat.row_bounds.1; simpa using this
theorem GMem.setTo (h : GMem w G V S c R) (k : Nat) (v : Int) : GMem (w.setCell ⟨G.bw, k, none⟩ (.int .u64 v)) G V S { c with tw := c.tw.set k v } R := by
  have hs : sat w (row 22 1 G.bw G.cw (c.tw.map u64) * (blk G.bf (.cells #[.pointer (some ⟨V.g, 1 + V.inn * 2, none⟩)] 94 (0, 0)) * (blk G.bg (.cells #[.slice (some ⟨G.br, 0, none⟩) S.ws.length S.ws.length] 35 (0, 0)) *
  (blk G.bt (.cells #[.slice (some ⟨G.bw, 0, none⟩) c.tw.length G.cw, .slice (some ⟨G.bb, 0, none⟩) c.tb.length G.cb] 93 (0, 0)) * (blk G.bh (.cells #[.pointer (some ⟨V.g, 0, none⟩)] 37 (0, 0)) *
  (row 22 1 G.br S.ws.length (c.gone.map u64) * (row 4 1 G.bb G.cb (c.tb.map .bool) * (isHeap V S * R)))))))) := h.s.perm (by unfold gcMem; ac_rfl)
  have h2 := hs.row_set k (.int .u64 v)
  rw [show (c.tw.map u64).set k (.int .u64 v) = (c.tw.set k v).map u64 by rw [List.map_set]] at h2
  exact ⟨h2.perm (by unfold gcMem; simp only [List.length_set]; ac_rfl), h.ok, by simpa using h.gok.len, by simpa using h.gok.pos, h.gok.gone⟩
end

section
variable {w : World} {V : HV} {S : HS} {R : HP}

set_option maxRecDepth 100000 in
set_option maxHeartbeats 1000000 in
theorem HeapW.Collect (h : HeapW w V S R) (ao : Option Addr) (cap : Nat) (roots : List Int) (hr : RootsIn R ao roots) (hu : ∀ x ∈ roots, 0 ≤ x ∧ x < 18446744073709551616) (hn : roots.length ≤ 17592186044416) (ht : S.times < 4611686018427387900) :
    Calls Try.prog 61 #[.pointer (some ⟨V.g, 0, none⟩), .slice ao roots.length cap] w (CollectPost V S roots R w) := by
  have hl := h.v.len
  have hcw := h.v.cw
  obtain ⟨i0, hi, hz0, hz1, hz2⟩ := info_parts info_u64
  have H1 := Lib.hid (And.intro hi (And.intro hz0 (And.intro hz1 hz2)))
  clear hi hz0 hz1 hz2
  have hbx : HeapW (w.alloc (.cells #[.pointer (some ⟨V.g, 0, none⟩)] 37)) V S (blk w.heap.size (.cells #[.pointer (some ⟨V.g, 0, none⟩)] 37 (0, 0)) * R) :=
    ⟨(h.s.alloc _).perm (by ac_rfl), h.ok⟩
  go_enter Try.func61, Try.ntmps61
  go_wp2_with fail
  refine (hbx.v.half).mono ?_
  rintro e w' ⟨rfl, q, rfl⟩
  go_wp2_with fail
  have hb0 : Below 0 w ((w.alloc (.cells #[.pointer (some ⟨V.g, 0, none⟩)] 37)).drewN q) := (Below.zero_alloc _ _).trans (drewN_below0 _ _)
  have h1 := hbx.drewN q
  have hbh := h1.s.right.left.cell 0
  clear hbx
  generalize (w.alloc (.cells #[.pointer (some ⟨V.g, 0, none⟩)] 37)).drewN q = w1 at *
  generalize w.heap.size = bh at *
  refine (empty_any h1.s).mono ?_
  rintro e w2 ⟨b1, b2, rfl, hs2, hb2⟩
  go_upto_region 2 with (fail)
  have hs3 := (hs2.alloc (.cells #[.pointer (some ⟨V.g, 1 + V.inn * 2, none⟩)] 94)).alloc (.cells #[.slice (some ⟨b1, 0, none⟩) 1 1, .slice (some ⟨b2, 0, none⟩) 1 1] 93)
  have hb3 : Below 0 w2 ((w2.alloc (.cells #[.pointer (some ⟨V.g, 1 + V.inn * 2, none⟩)] 94)).alloc (.cells #[.slice (some ⟨b1, 0, none⟩) 1 1, .slice (some ⟨b2, 0, none⟩) 1 1] 93)) := (Below.zero_alloc _ _).trans (Below.zero_alloc _ _)
  have hz : (w2.alloc (.cells #[.pointer (some ⟨V.g, 1 + V.inn * 2, none⟩)] 94)).heap.size = w2.heap.size + 1 := by simp
  rw [hz] at hs3
  clear hz
  generalize (w2.alloc (.cells #[.pointer (some ⟨V.g, 1 + V.inn * 2, none⟩)] 94)).alloc (.cells #[.slice (some ⟨b1, 0, none⟩) 1 1, .slice (some ⟨b2, 0, none⟩) 1 1] 93) = w3 at *
  have hb4 : Below 0 w w3 := (hb0.trans hb2).trans hb3
  clear hs2 h1 hb2 hb3 hb0 hbh
  generalize w2.heap.size + 1 = bt at *
  generalize w2.heap.size = bf at *
  have hs4 : sat w3 (isHeap V S * (blk bh (.cells #[.pointer (some ⟨V.g, 0, none⟩)] 37 (0, 0)) * (blk bf (.cells #[.pointer (some ⟨V.g, 1 + V.inn * 2, none⟩)] 94 (0, 0)) * (blk bt (.cells #[.slice (some ⟨b1, 0, none⟩) 1 1, .slice (some ⟨b2, 0, none⟩) 1 1] 93 (0, 0)) *
    (row 22 1 b1 1 [.int .u64 0] * (row 4 1 b2 1 [.bool false] * R)))))) := hs3.perm (by ac_rfl)
  clear hs3
  have k1 := hs4.right.right.left.cell 0
  have k2 := (hs4.heapV h.ok).cw
  go_wp2_with (at_make; refine halt ?_)
  refine goon ?_
  obtain ⟨hi, hz0, hz1, hz2⟩ := H1.out
  refine wpList_make_sat rfl 35 (.tmp 25) (.tmp 25) rfl 22 i0 (.int .u64 0) 8 Try.underlying35 hi hz0 hz1 hz2 rfl .i64 .i64 (S.ws.length : Int) _ rfl rfl ?_ hs4 (by omega) (by omega) (by omega)
  clear hi hz0 hz1 hz2 k1 k2 hs4
  intro br w4 hs5 hb5
  rw [Int.toNat_natCast] at hs5 ⊢
  go_upto_region 4 with (fail)
  have hs6 := hs5.alloc (.cells #[.slice (some ⟨br, 0, none⟩) S.ws.length S.ws.length] 35)
  have hb6 : Below 0 w4 (w4.alloc (.cells #[.slice (some ⟨br, 0, none⟩) S.ws.length S.ws.length] 35)) := Below.zero_alloc _ _
  generalize w4.alloc (.cells #[.slice (some ⟨br, 0, none⟩) S.ws.length S.ws.length] 35) = w5 at *
  have hb7 : Below 0 w w5 := (hb4.trans hb5).trans hb6
  clear hs5 hb4 hb5 hb6
  generalize w4.heap.size = bg at *
  have hG : GMem w5 ⟨bf, bg, bt, bh, br, b1, 1, b2, 1⟩ V S (CS.zero S) R := by
    refine ⟨hs6.perm ?_, h.ok, ⟨rfl, by simp [CS.zero], by simp [CS.zero]⟩⟩
    unfold gcMem CS.zero
    simp only [List.map_replicate, List.map_cons, List.map_nil, List.length_cons, List.length_nil]
    ac_rfl
  clear hs6
  go_wp2_with (at_make; refine halt ?_)
  refine goon ?_
  obtain ⟨hi, hz0, hz1, hz2⟩ := H1.out
  refine wpList_make_sat rfl 35 (.tmp 29) (.tmp 29) rfl 22 i0 (.int .u64 0) 8 Try.underlying35 hi hz0 hz1 hz2 rfl .i64 .i64 (roots.length : Int) _ rfl rfl ?_ hG.s (by omega) (by omega) (by omega)
  clear hi hz0 hz1 hz2
  intro bo w6 hs7 hb8
  rw [Int.toNat_natCast] at hs7 ⊢
  have hG1 : GMem w6 ⟨bf, bg, bt, bh, br, b1, 1, b2, 1⟩ V S (CS.zero S) (row 22 1 bo roots.length ((([] : List Int) ++ List.replicate (roots.length - 0) 0).map u64) * R) := by
    refine ⟨hs7.perm ?_, h.ok, hG.gok⟩
    simp only [List.nil_append, Nat.sub_zero, List.map_replicate]
    ac_rfl
  have hb9 := hb7.trans hb8
  clear hs7 hG hb7 hb8
  go_wp2_with fail
  go_loopw [33] (CRel1 w bf bg bt bh br bo V S roots R) (fun i _ => roots.length - (intOf i).toNat)
  case atStart => exact ⟨0, CS.zero S, [], b1, 1, b2, 1, Nat.zero_le _, rfl, rfl, rfl, rfl, GcInv.zero 1 (Nat.le_refl _), hG1, hb9⟩
  case round =>
    clear hG1 hb9
    obtain ⟨k, c, done, bw, cw, bb, cb, hk, rfl, hd, hf1, hf2, hinv, hG, hb⟩ := hrel
    by_cases hlt : k < roots.length
    · obtain ⟨x, hx⟩ : ∃ x, roots[k]? = some x := ⟨_, List.getElem?_eq_getElem hlt⟩
      obtain ⟨a, rfl, hcell⟩ := hr wr hG.s.right.right.right k x hx
      have hxu := hu x (List.mem_of_getElem? hx)
      have hdrop : roots.drop k = x :: roots.drop (k + 1) := by
        rw [List.drop_eq_getElem_cons hlt]
        rw [List.getElem?_eq_getElem hlt] at hx
        cases hx; rfl
      rw [hdrop] at hf1 hf2
      have HF := Lib.hid (And.intro hf1 hf2)
      clear hf1 hf2 hdrop hx
      go_wp2_with fail
      refine (hG.copy x hxu.1 hxu.2 (hinv.copyRoom h.ok)).mono ?_
      rintro e w7 ⟨rfl, hb7, bw', cw', bb', cb', hG2⟩
      have g1 := (hinv.copy1 h.ok.wf hl x hxu.1 hxu.2).1
      simp only [copyAll] at HF
      generalize Go.Proofs.Ytanjiecefioffaa.copy1 S c x = cv at *
      obtain ⟨c', v⟩ := cv
      simp only at *
      have hso : sat w7 (row 22 1 bo roots.length ((done ++ List.replicate (roots.length - k) 0).map u64) * (gcMem ⟨bf, bg, bt, bh, br, bw', cw', bb', cb'⟩ V S c' * (isHeap V S * R))) := hG2.s.perm (by ac_rfl)
      have q1 : w7.cell? ⟨bo, k, none⟩ = some (.int .u64 0) := hso.row_cell (by rw [List.map_append, List.getElem?_append_right (by simp [hd]), List.length_map, hd, Nat.sub_self, List.map_replicate, List.getElem?_replicate, if_pos (by omega)])
      have q2 : w7.frozen? ⟨bo, k, none⟩ = false := hso.row_frozen _
      have hd' := Lib.hid hd
      clear hd
      go_wp2_with fail
      go_roundw
      case rel =>
        have h8 := hso.row_set k (.int .u64 v)
        rw [out_step done roots.length k hd'.out hlt v] at h8
        refine ⟨k + 1, c', done ++ [v], bw', cw', bb', cb', by omega, by go_num, by simp [hd'.out], HF.out.1, ?_, g1, ⟨h8.perm (by ac_rfl), h.ok, hG2.gok⟩, (hb.trans hb7).setCell (Nat.zero_le _) _⟩
        rw [List.append_assoc]; exact HF.out.2
      case measure => simp [intOf]; omega
    · obtain rfl : k = roots.length := by omega
      have hge : (roots.length : Int) ≤ roots.length := by omega
      rw [List.drop_length] at hf1 hf2
      simp only [copyAll, List.append_nil] at hf1 hf2
      rw [Nat.sub_self, List.replicate_zero, List.append_nil, hf2] at hG
      subst hf1
      clear hf2 hd hr
      go_wp2_with fail
      go_loopw [12] (CRel2 w bf bg bt bh br bo V S roots R) (fun i _ => S.ws.length + 1 - (intOf i).toNat)
      case atStart =>
        refine ⟨S.ws.length, _, 1, bw, cw, bb, cb, rfl, rfl, ?_, by omega, hinv, hG, hb⟩
        rcases hinv.wf.first with e | e
        · left; omega
        · right; exact e
      case round =>
        clear hG hb hinv
        obtain ⟨f, c, j, bw, cw, bb, cb, rfl, hsc, hbd, hf, hinv, hG, hb⟩ := hrel
        have hcl := hinv.len h.ok.wf
        have k1 := hG.tov
        have hcap := hG.toCap
        by_cases hlt : j < c.tw.length
        · have hj := hbd.resolve_left (by omega)
          obtain ⟨f, rfl⟩ : ∃ f', f = f' + 1 := ⟨f - 1, by omega⟩
          simp only [scan] at hsc
          rw [if_pos hlt] at hsc
          have hfit := hinv.wf.fits j hj
          have k2 := (hG.toAt hlt).1
          have hhu := hinv.wf.u _ (List.mem_of_getElem? (getD_get hlt))
          have hobj := hinv.object h.ok.wf hl hj
          have hstart : GcInv S c (j + 1 + 0) := hinv.move (by omega) (by omega) (fun q i hq hi hle => by
            rcases Nat.lt_or_ge q j with a | a
            · have := hinv.wf.apart q j hq hj a; unfold tagAt at hi; omega
            · omega)
          have HH := Lib.hid (And.intro hsc (And.intro hbd (And.intro hj (And.intro hobj hstart))))
          clear hsc hbd hj hobj hstart
          generalize hhd : c.tw.getD j 0 = hd at *
          have m1 : bits .and .u64 (hd / 256) 16777215 = tagH hd := u64_mask24 _ (by omega) (by omega)
          have m2 : bits .and .u64 (hd / 4294967296) 16777215 = rawH hd := u64_mask24 _ (by omega) (by omega)
          have tb1 := tagH_bd hd
          have tb2 := rawH_bd hd
          have HD := Lib.hid hhd
          clear hhd
          go_wp2_with fail
          go_loopw [64] (CRel3 w bf bg bt bh br bo V S roots R j hd (fixN S c (j + 1) (tagH hd).toNat)) (fun i _ => (tagH hd).toNat - (intOf i).toNat)
          case atStart =>
            refine ⟨0, c, bw, cw, bb, cb, Nat.zero_le _, rfl, rfl, HH.out.2.2.2.2, HH.out.2.2.1, HD.out, hG, hb⟩
          case round =>
            clear hG hb hinv k1 k2 hcap
            obtain ⟨i, c', bw, cw, bb, cb, hi, rfl, hfx, hinv, hj, hhd, hG, hb⟩ := hrel
            have hfit' := hinv.wf.fits j hj
            rw [hhd] at hfit'
            have hcl' := hinv.len h.ok.wf
            have k1 := hG.tov
            have hcap := hG.toCap
            by_cases hit : i < (tagH hd).toNat
            · have hit2 : (i : Int) < tagH hd := by omega
              have hP : j + 1 + i < c'.tw.length := by omega
              have k2 := (hG.toAt hP).1
              have hxu := hinv.wf.u _ (List.mem_of_getElem? (getD_get hP))
              have hcr := hinv.copyRoom h.ok (x := c'.tw.getD (j + 1 + i) 0)
              have hone := hinv.oneField h.ok.wf hl hj (i := i) (by unfold tagAt; rw [hhd]; exact hit) rfl
              obtain ⟨q, hq⟩ : ∃ q, (tagH hd).toNat - i = q + 1 := ⟨(tagH hd).toNat - i - 1, by omega⟩
              rw [hq] at hfx
              simp only [fixN] at hfx
              unfold fix1 at hfx hone
              generalize hgx : c'.tw.getD (j + 1 + i) 0 = x at *
              clear hgx
              have HX := Lib.hid (And.intro hfx (And.intro hone (And.intro hj (And.intro hhd hq))))
              have HI := Lib.hid hinv
              clear hfx hone hj hhd hq hinv
              have hj1 : (j : Int) + 1 + i < (c'.tw.length : Int) := by omega
              go_wp2_with fail
              refine (hG.copy x hxu.1 hxu.2 hcr).mono ?_
              rintro e w7 ⟨rfl, hb7, bw', cw', bb', cb', hG2⟩
              have hlen2 := (HI.out.copy1 h.ok.wf hl x hxu.1 hxu.2).2.2.1
              generalize Go.Proofs.Ytanjiecefioffaa.copy1 S c' x = cv at *
              obtain ⟨c2, v⟩ := cv
              simp only at *
              have hP2 : j + 1 + i < c2.tw.length := by omega
              have hj2 : (j : Int) + 1 + i < (c2.tw.length : Int) := by omega
              have hcap2 := hG2.toCap
              have p1 := hG2.tov
              have p2 := (hG2.toAt hP2).1
              have p3 := (hG2.toAt hP2).2
              simp only at p2 p3 p1 hcap2
              clear k1 k2
              go_wp2_with fail
              go_roundw
              case rel => exact ⟨i + 1, { c2 with tw := c2.tw.set (j + 1 + i) v }, bw', cw', bb', cb', by omega, by go_num, by rw [show (tagH hd).toNat - (i + 1) = q by have := HX.out.2.2.2.2; omega]; exact HX.out.1, HX.out.2.1.1, HX.out.2.1.2.2.2, by rw [HX.out.2.1.2.2.1 j (Nat.le_refl _)]; exact HX.out.2.2.2.1, hG2.setTo _ _, (hb.trans hb7).setCell (Nat.zero_le _) _⟩
              case measure => simp [intOf]; omega
            · obtain rfl : i = (tagH hd).toNat := by omega
              have hge : tagH hd ≤ ((tagH hd).toNat : Int) := by omega
              rw [Nat.sub_self] at hfx
              simp only [fixN] at hfx
              have HX := Lib.hid (And.intro hfx (And.intro hj hhd))
              have HI := Lib.hid hinv
              have hsz : sizeAt c.tw j = 1 + (tagH hd).toNat + (rawH hd).toNat := by unfold sizeAt; rw [HD.out]
              have HS' := Lib.hid hsz
              clear hfx hj hhd hinv hsz
              go_wp2_with fail
              go_roundw
              case rel =>
                have ho := HH.out.2.2.2.1
                unfold tagAt at ho
                rw [HD.out, HS'.out] at ho
                have hs := HH.out.1
                rw [HS'.out] at hs
                have hf' := hs.symm
                refine ⟨f, fixN S c (j + 1) (tagH hd).toNat, j + (1 + (tagH hd).toNat + (rawH hd).toNat), bw, cw, bb, cb, ?_, hs, ?_, by omega, ho.1, ?_, hb⟩
                · refine num_eq ?_
                  omega
                · exact ho.2.2
                · rw [← HX.out.1]; exact hG
              case measure => simp [intOf]; omega
        · have hje : j = c.tw.length := by have := hinv.front; omega
          have hge : (c.tw.length : Int) ≤ j := by omega
          have hend : c = gcEnd S roots := by
            rw [← hsc]
            cases f with
            | zero => rfl
            | succ f => simp only [scan]; rw [if_neg hlt]
          clear hsc hbd hinv hf
          subst hend
          have HJ := Lib.hid hje
          clear hje hlt
          go_wp2_with fail
          have hin := h.ok.inn
          have hs : sat wr (blk V.g (.cells (heapCells V S) 125 (0, 0)) * (gcMem ⟨bf, bg, bt, bh, br, bw, cw, bb, cb⟩ V S (gcEnd S roots) * (row 22 1 V.bw V.cw (S.ws.map Go.Proofs.Ytanjiecefioffaa.u64) * (row 4 1 V.bb V.cb (S.bs.map .bool) * (row 22 1 bo roots.length ((S.moved roots).map Go.Proofs.Ytanjiecefioffaa.u64) * R))))) := hG.s.perm (by unfold isHeap; ac_rfl)
          have p1 := hG.from_
          have p2 := hs.left.cell (1 + V.inn * 2)
          have p3 := hs.left.cell (1 + V.inn * 2 + 1)
          rw [heapCells_w V S hin] at p2
          rw [heapCells_b V S hin] at p3
          have p4 := hs.left.frozen (1 + V.inn * 2)
          have p5 := hs.left.frozen (1 + V.inn * 2 + 1)
          simp only at p1
          clear k1 hcap hcl
          go_region_held3 (fun w' => w'.cell? ⟨bf, 0, none⟩ = some (.pointer (some ⟨V.g, 1 + V.inn * 2, none⟩)))
            (first | go_keep | exact k1 | exact ((hs7.two (1 + V.inn * 2) _ _).right.left.left.left.cell 0).trans rfl)
            (first
              | (go_at_call 79; refine (empty_any hs.drew).mono ?_; rintro e w7 ⟨b3, b4, rfl, hs7, hb7⟩; have k1 := (hs7.right.right.right.left.left.cell 0).trans rfl; have k2 := (hs7.right.right.left.cell (1 + V.inn * 2)).trans (heapCells_w V S hin); have k3 := (hs7.right.right.left.cell (1 + V.inn * 2 + 1)).trans (heapCells_b V S hin); have k4 := hs7.right.right.left.frozen (1 + V.inn * 2); have k5 := hs7.right.right.left.frozen (1 + V.inn * 2 + 1)))
          have hs8 := hs7.two (1 + V.inn * 2) (.slice (some ⟨b3, 0, none⟩) 1 1) (.slice (some ⟨b4, 0, none⟩) 1 1)
          have hb8 : Below 0 w ((w7.setCell ⟨V.g, 1 + V.inn * 2, none⟩ (.slice (some ⟨b3, 0, none⟩) 1 1)).setCell ⟨V.g, 1 + V.inn * 2 + 1, none⟩ (.slice (some ⟨b4, 0, none⟩) 1 1)) := (((hb.trans (drewN_below0 wr 1)).trans hb7).setCell (Nat.zero_le _) _).setCell (Nat.zero_le _) _
          clear k1 k2 k3 k4 k5 p1 p2 p3 p4 p5 hb7 hb
          generalize (w7.setCell ⟨V.g, 1 + V.inn * 2, none⟩ (.slice (some ⟨b3, 0, none⟩) 1 1)).setCell ⟨V.g, 1 + V.inn * 2 + 1, none⟩ (.slice (some ⟨b4, 0, none⟩) 1 1) = w8 at *
          clear hs7 hs hG
          obtain ⟨e5, e6, e7, e8⟩ := cells_half V S hin (.slice (some ⟨b3, 0, none⟩) 1 1) (.slice (some ⟨b4, 0, none⟩) 1 1)
          have k1 := (hs8.right.left.left.right.right.right.left.cell 0).trans rfl
          have k2 := (hs8.left.cell 5).trans e5
          have k3 := hs8.left.frozen 5
          have HE := Lib.hid (And.intro e6 (And.intro e7 e8))
          clear e5 e6 e7 e8
          have s1 : IntKind.i64.wrap (1 - (V.inn : Int)) = ((1 - V.inn : Nat) : Int) := by rw [IntWalk.i64_in _ (by omega)]; omega
          go_wp2_with fail
          go_region
          have hs9 := (hs8.setCell (off := 5) (.int .i64 ((1 - V.inn : Nat) : Int))).drew
          have hb9 : Below 0 w (w8.setCell ⟨V.g, 5, none⟩ (.int .i64 ((1 - V.inn : Nat) : Int))).drew := (hb8.setCell (p := ⟨V.g, 5, none⟩) (Nat.zero_le _) (.int .i64 ((1 - V.inn : Nat) : Int))).drew
          clear k1 k2 k3 s1 hs8 hb8
          generalize (w8.setCell ⟨V.g, 5, none⟩ (.int .i64 ((1 - V.inn : Nat) : Int))).drew = w9 at *
          have hb10 : sat w9 (blk bt (.cells #[.slice (some ⟨bw, 0, none⟩) (gcEnd S roots).tw.length cw, .slice (some ⟨bb, 0, none⟩) (gcEnd S roots).tb.length cb] 93 (0, 0))) := hs9.right.left.left.right.right.left
          have k1 := (hs9.right.left.left.right.right.right.left.cell 0).trans rfl
          have k2 := (hb10.cell 0).trans rfl
          have k3 := (hb10.cell 1).trans rfl
          have k4 := (hs9.left.cell 5).trans HE.out.1
          have k5 := (hs9.left.cell (1 + (1 - V.inn) * 2)).trans HE.out.2.1.1
          have k6 := (hs9.left.cell (1 + (1 - V.inn) * 2 + 1)).trans HE.out.2.1.2
          have k7 := hs9.left.frozen (1 + (1 - V.inn) * 2)
          have k8 := hs9.left.frozen (1 + (1 - V.inn) * 2 + 1)
          go_wp2_with fail
          go_region_held3 (fun w' => w'.cell? ⟨bh, 0, none⟩ = some (.pointer (some ⟨V.g, 0, none⟩)) ∧ w'.cell? ⟨bt, 0, none⟩ = some (.slice (some ⟨bw, 0, none⟩) (gcEnd S roots).tw.length cw) ∧ w'.cell? ⟨bt, 1, none⟩ = some (.slice (some ⟨bb, 0, none⟩) (gcEnd S roots).tb.length cb))
            (first | go_keep | exact keep3 (((hs9.drewN _).setCell _).setCell _))
            (first
              | (go_at_call 50; refine (half_any V.g (1 - V.inn) w9.drew k4 (by omega)).mono ?_; rintro e w' ⟨rfl, m, rfl⟩))
          have hs11 := ((hs9.drewN (1 + m)).setCell (off := 1 + (1 - V.inn) * 2) (.slice (some ⟨bw, 0, none⟩) (gcEnd S roots).tw.length cw)).setCell (off := 1 + (1 - V.inn) * 2 + 1) (.slice (some ⟨bb, 0, none⟩) (gcEnd S roots).tb.length cb)
          have hb11 : Below 0 w (((w9.drewN (1 + m)).setCell ⟨V.g, 1 + (1 - V.inn) * 2, none⟩ (.slice (some ⟨bw, 0, none⟩) (gcEnd S roots).tw.length cw)).setCell ⟨V.g, 1 + (1 - V.inn) * 2 + 1, none⟩ (.slice (some ⟨bb, 0, none⟩) (gcEnd S roots).tb.length cb)) := ((hb9.trans (drewN_below0 _ _)).setCell (Nat.zero_le _) _).setCell (Nat.zero_le _) _
          clear k1 k2 k3 k4 k5 k6 k7 k8 hs9 hb9 hb10
          generalize ((w9.drewN (1 + m)).setCell ⟨V.g, 1 + (1 - V.inn) * 2, none⟩ (.slice (some ⟨bw, 0, none⟩) (gcEnd S roots).tw.length cw)).setCell ⟨V.g, 1 + (1 - V.inn) * 2 + 1, none⟩ (.slice (some ⟨bb, 0, none⟩) (gcEnd S roots).tb.length cb) = w10 at *
          obtain ⟨e6, e7⟩ := HE.out.2.2 (S.collect roots) bw cw bb cb rfl rfl
          have k1 := (keep3 hs11).1
          have k2 := (hs11.left.cell 6).trans e6
          have k3 := hs11.left.frozen 6
          have HE7 := Lib.hid e7
          clear e6 e7
          go_wp2_with fail
          go_ret
          have hs12 := hs11.setCell (off := 6) (.int .i64 ((S.times + 1 : Nat) : Int))
          have hb12 := hb11.setCell (p := ⟨V.g, 6, none⟩) (Nat.zero_le _) (.int .i64 ((S.times + 1 : Nat) : Int))
          have hok := gc_ok h.ok.wf h.ok.ptr hl hu
          rw [show ((S.times : Int) + 1) = ((S.times + 1 : Nat) : Int) by omega]
          refine ⟨bo, ⟨V.g, 1 - V.inn, bw, cw, bb, cb, .slice (some ⟨b3, 0, none⟩) 1 1, .slice (some ⟨b4, 0, none⟩) 1 1⟩, rfl, rfl, ⟨?_, ?_⟩, hb12⟩
          · have e8 := HE7.out
            have ec : (S.collect roots).ws = (gcEnd S roots).tw ∧ (S.collect roots).bs = (gcEnd S roots).tb := ⟨rfl, rfl⟩
            rw [ec.1, ec.2] at e8
            rw [e8] at hs12
            generalize (w10.setCell ⟨V.g, 6, none⟩ (.int .i64 ((S.times + 1 : Nat) : Int))) = w11 at hs12 ⊢
            unfold gcMem at hs12
            dsimp only at hs12
            unfold isHeap
            rw [ec.1, ec.2]
            dsimp only
            generalize heapCells _ _ = HC at hs12 ⊢
            have hs13 : sat w11 ((blk V.g (.cells HC 125 (0, 0)) * (row 22 1 bw cw ((gcEnd S roots).tw.map Go.Proofs.Ytanjiecefioffaa.u64) * row 4 1 bb cb ((gcEnd S roots).tb.map .bool)) * (row 22 1 bo roots.length ((S.moved roots).map Go.Proofs.Ytanjiecefioffaa.u64) * R)) *
              ((blk bf (.cells #[.pointer (some ⟨V.g, 1 + V.inn * 2, none⟩)] 94 (0, 0)) * (blk bg (.cells #[.slice (some ⟨br, 0, none⟩) S.ws.length S.ws.length] 35 (0, 0)) *
                (blk bt (.cells #[.slice (some ⟨bw, 0, none⟩) (gcEnd S roots).tw.length cw, .slice (some ⟨bb, 0, none⟩) (gcEnd S roots).tb.length cb] 93 (0, 0)) * (blk bh (.cells #[.pointer (some ⟨V.g, 0, none⟩)] 37 (0, 0)) *
                row 22 1 br S.ws.length ((gcEnd S roots).gone.map Go.Proofs.Ytanjiecefioffaa.u64))))) *
               (row 22 1 V.bw V.cw (S.ws.map Go.Proofs.Ytanjiecefioffaa.u64) * (row 4 1 V.bb V.cb (S.bs.map .bool) * (row 22 1 b3 1 [.int .u64 0] * row 4 1 b4 1 [.bool false]))))) := hs12.perm (by ac_rfl)
            exact hs13.left
          · have := h.ok.used
            exact ⟨by simp only; omega, h.ok.lo, h.ok.hi, Nat.le_trans hok.2.2 h.ok.used, hok.1, by show S.times + 1 < _; omega, hok.2.1⟩
end
end Go.Proofs.Ytanjiecefioffaa
