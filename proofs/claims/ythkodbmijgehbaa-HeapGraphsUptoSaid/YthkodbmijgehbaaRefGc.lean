/- The reference's Collect. -/
import Derived.Test.YthkodbmijgehbaaRefMove
namespace Go.Proofs.Ythkodbmijgehbaa
open Go.RowKit

/-- The roots can be read wherever R holds. -/
def RootsInR (R : HP) (ao : Option Addr) (roots : List Int) : Prop := ∀ w, sat w R → ∀ j x, roots[j]? = some x → ∃ a, ao = some a ∧ w.cell? (a.add j) = some (.int .u64 x)

def RCollectPost (V : RV) (S : HS) (roots : List Int) (R : HP) (w : World) (e : Ending) (w' : World) : Prop :=
  ∃ (vo : Value) (V' : RV), e = .returned vo ∧ V'.g = V.g ∧ RefW w' V' (S.collect roots) (own 28 1 vo roots.length ((S.moved roots).map u64) * R) ∧ Below 0 w w'

/-- The first loop: k roots are moved. -/
def RRel1 (w : World) (g2 bt : Nat) (V : RV) (S : HS) (roots : List Int) (R : HP) (o i : Value) (wr : World) : Prop :=
  ∃ (k : Nat) (c : CS) (done : List Int) (V2 : RV), k ≤ roots.length ∧ i = .int .i64 k ∧ done.length = k ∧ (copyAll S c (roots.drop k)).1 = (copyAll S (CS.zero S) roots).1 ∧ done ++ (copyAll S c (roots.drop k)).2 = S.moved roots ∧
    GcInv S c 1 ∧ V2.g = g2 ∧ RMem wr V V2 bt S c (own 28 1 o k (done.map u64) * R) ∧ Below 0 w wr

theorem toOf_zero (S : HS) : toOf S (CS.zero S) = List.replicate (headsOf S.bs).length (.int .i64 0) := by
  have ha : ∀ k, (CS.zero S).at_ k = 0 := by
    intro k
    unfold CS.at_ CS.zero
    simp only [List.getD_eq_getElem?_getD, List.getElem?_replicate]
    split <;> rfl
  unfold toOf
  rw [List.eq_replicate_iff]
  refine ⟨by simp, fun x hx => ?_⟩
  obtain ⟨k, _, rfl⟩ := List.mem_map.1 hx
  rw [ha]; rfl

/-! ### The new heads stay in front -/
theorem tb_copy1 (S : HS) (c : CS) (x : Int) : ∃ l, (copy1 S c x).1.tb = c.tb ++ l := by
  unfold copy1
  split
  · split
    · exact ⟨_, rfl⟩
    · exact ⟨[], by simp⟩
  · exact ⟨[], by simp⟩
theorem tb_fix1 (S : HS) (c : CS) (j : Nat) : ∃ l, (fix1 S c j).tb = c.tb ++ l := tb_copy1 S c _
theorem tb_fixN (S : HS) (n : Nat) : ∀ (c : CS) (j : Nat), ∃ l, (fixN S c j n).tb = c.tb ++ l := by
  induction n with
  | zero => intro c j; exact ⟨[], by simp [fixN]⟩
  | succ n ih =>
    intro c j
    obtain ⟨l, hl⟩ := ih (fix1 S c j) (j + 1)
    obtain ⟨m, hm⟩ := tb_fix1 S c j
    exact ⟨m ++ l, by simp only [fixN]; rw [hl, hm, List.append_assoc]⟩
theorem heads_app {bs l : List Bool} {k j : Nat} (h : (headsOf bs)[k]? = some j) : (headsOf (bs ++ l))[k]? = some j := by
  unfold headsOf at *
  rw [headsFrom_app, List.getElem?_append_left (List.getElem?_eq_some_iff.1 h).1]; exact h
theorem headsFrom_true (l : List Bool) : ∀ (k x : Nat), x ∈ headsFrom k l → l[x - k]? = some true := by
  induction l with
  | nil => intro k x h; cases h
  | cons b l ih =>
    intro k x h
    simp only [headsFrom] at h
    have hgo : x ∈ headsFrom (k + 1) l → (b :: l)[x - k]? = some true := fun h => by
      have h1 := ih (k + 1) x h
      have h2 := (headsFrom_bd l (k + 1) x h).1
      rw [show x - k = (x - (k + 1)) + 1 by omega, List.getElem?_cons_succ]; exact h1
    split at h
    · rename_i hb
      rcases List.mem_cons.1 h with rfl | h
      · rw [Nat.sub_self]; simp [hb]
      · exact hgo h
    · exact hgo h
theorem heads_true {bs : List Bool} {k x : Nat} (h : (headsOf bs)[k]? = some x) : bs[x]? = some true := by
  have := headsFrom_true bs 0 x (List.mem_of_getElem? h)
  simpa using this
/-- Behind a head comes the next, or the end. -/
theorem next_head {ws : List Int} {bs : List Bool} (h : WfH ws bs) {k j : Nat} (hk : (headsOf bs)[k]? = some j) :
    (k + 1 = (headsOf bs).length ∧ j + sizeAt ws j = ws.length) ∨ (headsOf bs)[k + 1]? = some (j + sizeAt ws j) := by
  have hj := heads_true hk
  have hkl := (List.getElem?_eq_some_iff.1 hk).1
  have hfit := h.fits j hj
  have hlen := h.len
  have hfar : ∀ x, (headsOf bs)[k + 1]? = some x → j + sizeAt ws j ≤ x := by
    intro x hx
    have h1 := headsFrom_lt bs 0 k (k + 1) j x (by omega) hk hx
    have h2 := h.apart j x hj (heads_true hx) h1
    unfold sizeAt; omega
  rcases h.next j hj with e | e
  · left
    refine ⟨?_, by unfold sizeAt; omega⟩
    cases hx : (headsOf bs)[k + 1]? with
    | none => have := List.getElem?_eq_none_iff.1 hx; omega
    | some x =>
      have h1 := hfar x hx
      have h2 := heads_mem (List.mem_of_getElem? hx)
      unfold sizeAt at h1; omega
  · right
    have e' : bs[j + sizeAt ws j]? = some true := by rw [← e]; congr 1; unfold sizeAt; omega
    have hr := heads_rank.2 e'
    have h1 := (heads_lt (p := j + sizeAt ws j) hk).1 (by unfold sizeAt; omega)
    cases hx : (headsOf bs)[k + 1]? with
    | none =>
      have := List.getElem?_eq_none_iff.1 hx
      have := (List.getElem?_eq_some_iff.1 hr).1
      omega
    | some x =>
      have h2 := hfar x hx
      have h3 : ¬ k + 1 < rankOf bs (j + sizeAt ws j) := fun h => by have := (heads_lt (p := j + sizeAt ws j) hx).2 h; omega
      have h4 : rankOf bs (j + sizeAt ws j) = k + 1 := by omega
      rw [h4] at hr
      rw [← hx, hr]
theorem first_head {ws : List Int} {bs : List Bool} (h : WfH ws bs) : (0 = (headsOf bs).length ∧ 1 = ws.length) ∨ (headsOf bs)[0]? = some 1 := by
  have h0 := h.zero.1
  have hlen := h.len
  rcases h.first with e | e
  · left
    refine ⟨?_, by omega⟩
    have hb : bs.length = 1 := by omega
    match bs, hb, h0 with
    | [b], _, h0 => simp at h0; subst h0; rfl
  · right
    have hr := heads_rank.2 e
    have hz : rankOf bs 1 = 0 := by
      unfold rankOf
      match bs, h0 with
      | b :: l, h0 => simp at h0; subst h0; rfl
    rw [hz] at hr; exact hr

/-- The second loop: the heads from the k-th on (at place j) are to come. -/
def RRel2 (w : World) (g2 bt : Nat) (V : RV) (S : HS) (roots : List Int) (R : HP) (vo i : Value) (wr : World) : Prop :=
  ∃ (f : Nat) (c : CS) (k j : Nat) (V2 : RV), i = .int .i64 k ∧ scan S f c j = gcEnd S roots ∧ ((k = (headsOf c.tb).length ∧ j = c.tw.length) ∨ (headsOf c.tb)[k]? = some j) ∧ S.ws.length ≤ f + j ∧
    GcInv S c j ∧ V2.g = g2 ∧ RMem wr V V2 bt S c (own 28 1 vo roots.length ((S.moved roots).map u64) * R) ∧ Below 0 w wr
/-- Its inner loop. -/
def RRel3 (w : World) (g2 bt : Nat) (V : RV) (S : HS) (roots : List Int) (R : HP) (vo : Value) (k j : Nat) (hd : Int) (C1 : CS) (v : Value) (wr : World) : Prop :=
  ∃ (i : Nat) (c : CS) (V2 : RV), i ≤ (tagH hd).toNat ∧ v = .int .i64 (i + 1 : Nat) ∧ fixN S c (j + 1 + i) ((tagH hd).toNat - i) = C1 ∧ GcInv S c (j + 1 + i) ∧ (headsOf c.tb)[k]? = some j ∧ c.tw.getD j 0 = hd ∧ V2.g = g2 ∧
    RMem wr V V2 bt S c (own 28 1 vo roots.length ((S.moved roots).map u64) * R) ∧ Below 0 w wr

section
variable {w : World} {V V2 : RV} {bt : Nat} {S : HS} {c : CS} {R : HP}
theorem RMem.nv (h : RMem w V V2 bt S c R) : w.cell? ⟨V2.g, 1, none⟩ = some (.slice (some ⟨V2.bw, 0, none⟩) c.tw.length V2.cw) ∧ w.cell? ⟨V2.g, 2, none⟩ = some (.slice (V2.oh.map fun b => ⟨b, 0, none⟩) (headsOf c.tb).length V2.ch) :=
  ⟨(h.s.left.left.cell 1).trans rfl, (h.s.left.left.cell 2).trans rfl⟩
theorem RMem.to_sat (h : RMem w V V2 bt S c R) : sat w (row 28 1 V2.bw V2.cw (c.tw.map u64) * emp) := by
  have := h.s.left; unfold newHeap at this; rw [HP.mul_emp]; exact this.right.left
theorem RMem.word (h : RMem w V V2 bt S c R) {k : Nat} (hk : k < c.tw.length) : w.cell? ⟨V2.bw, k, none⟩ = some (.int .u64 (c.tw.getD k 0)) ∧ w.frozen? ⟨V2.bw, k, none⟩ = false :=
  ⟨h.to_sat.row_cell (by rw [List.getElem?_map, getD_get hk]; rfl), h.to_sat.row_frozen k⟩
theorem RMem.cap (h : RMem w V V2 bt S c R) : c.tw.length ≤ V2.cw := by
  have := h.to_sat.row_bounds.1; simpa using this
theorem RMem.head (h : RMem w V V2 bt S c R) {k j : Nat} (hk : (headsOf c.tb)[k]? = some j) : ∃ b, V2.oh = some b ∧ w.cell? ⟨b, k, none⟩ = some (.int .i64 j) ∧ (headsOf c.tb).length ≤ V2.ch := by
  have h1 := h.s.left
  unfold newHeap at h1
  have h2 : sat w (own 3 1 (V2.vh (c.hs S)) (headsOf c.tb).length ((headsOf c.tb).map hVal) * emp) := by rw [HP.mul_emp]; exact h1.right.right
  have hpos := (List.getElem?_eq_some_iff.1 hk).1
  obtain ⟨b, cap, hv, hn, _, hr⟩ := h2.own_some (by omega)
  unfold RV.vh at hv
  cases ho : V2.oh with
  | none => rw [ho] at hv; simp at hv
  | some b' =>
    rw [ho] at hv
    simp at hv
    obtain ⟨rfl, _, rfl⟩ := hv
    exact ⟨_, rfl, hr.row_cell (by rw [List.getElem?_map, hk]; rfl), hn⟩
theorem RMem.setWord (h : RMem w V V2 bt S c R) (k : Nat) (v : Int) : RMem (w.setCell ⟨V2.bw, k, none⟩ (.int .u64 v)) V V2 bt S { c with tw := c.tw.set k v } R := by
  have hs : sat w (row 28 1 V2.bw V2.cw (c.tw.map u64) * (blk V2.g (.cells (newCells V2 S c) 109 (0, 0)) * (own 3 1 (V2.vh (c.hs S)) (headsOf c.tb).length ((headsOf c.tb).map hVal) * (row 3 1 bt (headsOf S.bs).length (toOf S c) * (isRef V S * R))))) := h.s.perm (by unfold newHeap; ac_rfl)
  have h2 := hs.row_set k (.int .u64 v)
  rw [show (c.tw.map u64).set k (.int .u64 v) = (c.tw.set k v).map u64 by rw [List.map_set]] at h2
  refine ⟨h2.perm ?_, h.ok⟩
  unfold newHeap newCells RV.vh CS.hs
  simp only [List.length_set]
  rw [show toOf S { c with tw := c.tw.set k v } = toOf S c from rfl]
  ac_rfl
end

section
variable {w : World} {V : RV} {S : HS} {R : HP}

set_option maxRecDepth 100000 in
set_option maxHeartbeats 1000000 in
theorem RefW.Collect (h : RefW w V S R) (ao : Option Addr) (cap : Nat) (roots : List Int) (hr : RootsInR R ao roots) (hu : ∀ x ∈ roots, 0 ≤ x ∧ x < 18446744073709551616) (hn : roots.length ≤ 17592186044416) (ht : S.times < 4611686018427387900) :
    Calls Try.prog 67 #[.pointer (some ⟨V.g, 0, none⟩), .slice ao roots.length cap] w (RCollectPost V S roots R w) := by
  have hl : S.ws.length ≤ 1048576 := Nat.le_trans h.ok.used h.ok.hi
  have hhl := heads_len S h.ok
  have hwl := h.ok.wf.len
  have hc2 := h.v.c2
  have hc0 := h.v.c0
  have hc3 := h.v.c3
  obtain ⟨i0, hi, hz0, hz1, hz2⟩ := info_parts info_u64
  have H1 := Lib.hid (And.intro hi (And.intro hz0 (And.intro hz1 hz2)))
  clear hi hz0 hz1 hz2
  obtain ⟨j0, hj, hy0, hy1, hy2⟩ := info_parts info_int
  have H2 := Lib.hid (And.intro hj (And.intro hy0 (And.intro hy1 hy2)))
  clear hj hy0 hy1 hy2
  go_enter Try.func67, Try.ntmps67
  go_wp2_with (at_make; refine halt ?_)
  refine goon ?_
  obtain ⟨hj, hy0, hy1, hy2⟩ := H2.out
  refine wpList_make_sat rfl 22 (.tmp 18) (.tmp 18) rfl 3 j0 (.int .i64 0) 8 Try.underlying22 hj hy0 hy1 hy2 rfl .i64 .i64 ((headsOf S.bs).length : Int) _ rfl rfl ?_ h.s (by omega) (by omega) (by omega)
  clear hj hy0 hy1 hy2 hc0 hc2 hc3
  intro bt w1 hs1 hb1
  rw [Int.toNat_natCast] at hs1 ⊢
  rw [← toOf_zero] at hs1
  have hv1 : RefV w1 V S := hs1.right.refV h.ok
  have hc0 := hv1.c0
  have hc3 := hv1.c3
  have s1 : IntKind.i64.wrap ((S.times : Int) + 1) = S.times + 1 := IntWalk.i64_in _ (by omega)
  go_upto_region 2 with (fail)
  have nb0 := World.new_ne w1 _ hc0
  have nb3 := World.new_ne w1 _ hc3
  go_region_held3 (fun w' => w'.cell? ⟨V.g, 0, none⟩ = some (.int .i64 S.size) ∧ w'.cell? ⟨V.g, 3, none⟩ = some (.int .i64 S.times)) (go_keep) (fail)
  have hs2 := (hs1.alloc (.cells #[.int .u64 0] 28)).alloc (.cells #[.int .i64 S.size, .slice (some ⟨w1.heap.size, 0, none⟩) 1 1, .slice none 0 0, .int .i64 (S.times + 1)] 109)
  have hz : (w1.alloc (.cells #[.int .u64 0] 28)).heap.size = w1.heap.size + 1 := by simp
  rw [hz] at hs2
  clear hz
  have hb2 : Below 0 w (((w1.alloc (.cells #[.int .u64 0] 28)).alloc (.cells #[.int .i64 S.size, .slice (some ⟨w1.heap.size, 0, none⟩) 1 1, .slice none 0 0, .int .i64 (S.times + 1)] 109)).drew) := ((hb1.trans (Below.zero_alloc _ _)).trans (Below.zero_alloc _ _)).trans (drewN_below0 _ 1)
  have hs3 := hs2.drew
  clear hs2
  rename_i hHeld
  clear hHeld nb0 nb3 hc0 hc3 hv1 hs1 hb1
  generalize ((w1.alloc (.cells #[.int .u64 0] 28)).alloc (.cells #[.int .i64 S.size, .slice (some ⟨w1.heap.size, 0, none⟩) 1 1, .slice none 0 0, .int .i64 (S.times + 1)] 109)).drew = w2 at *
  have hM0 : RMem w2 V ⟨w1.heap.size + 1, w1.heap.size, 1, none, 0⟩ bt S (CS.zero S) (own 28 1 (.slice none 0 0) 0 (([] : List Int).map u64) * R) := by
    refine ⟨?_, h.ok⟩
    have h4 : sat w2 (blk w1.heap.size (.cells #[.int .u64 0] 28 (0, 0)) * (blk (w1.heap.size + 1) (.cells #[.int .i64 S.size, .slice (some ⟨w1.heap.size, 0, none⟩) 1 1, .slice none 0 0, .int .i64 (S.times + 1)] 109 (0, 0)) * (row 3 1 bt (headsOf S.bs).length (toOf S (CS.zero S)) * (isRef V S * R)))) := hs3.perm (by ac_rfl)
    have h5 : sat w2 (row 28 1 w1.heap.size 1 [.int .u64 0] * (blk (w1.heap.size + 1) (.cells #[.int .i64 S.size, .slice (some ⟨w1.heap.size, 0, none⟩) 1 1, .slice none 0 0, .int .i64 (S.times + 1)] 109 (0, 0)) * (row 3 1 bt (headsOf S.bs).length (toOf S (CS.zero S)) * (isRef V S * R)))) := (h4.shut_row (xs := [.int .u64 0]) (cap := 1) (sz := 1) rfl (by simp) (by unfold maxLen; omega) rfl)
    have h6 := (h5.nil_own (e := 3) (sz := 1)).nil_own (e := 28) (sz := 1)
    refine h6.perm ?_
    unfold newHeap newCells RV.vh CS.hs
    rw [show headsOf (CS.zero S).tb = [] from rfl, show (CS.zero S).tw = [0] from rfl]
    simp only [List.length_nil, List.length_cons, Nat.zero_add, Option.map, List.map_nil, List.map_cons, Go.Proofs.Ythkodbmijgehbaa.u64, Go.Proofs.Ythkodbmijgehbaa.i64]
    rw [show ((S.times + 1 : Nat) : Int) = (S.times : Int) + 1 by omega]
    ac_rfl
  clear hs3
  generalize w1.heap.size + 1 = g2 at *
  generalize w1.heap.size = b2 at *
  go_wp2_with fail
  go_loopw [7, 8] (RRel1 w g2 bt V S roots R) (fun _ i _ => roots.length - (intOf i).toNat)
  case atStart => exact ⟨0, CS.zero S, [], ⟨g2, b2, 1, none, 0⟩, Nat.zero_le _, rfl, rfl, rfl, rfl, GcInv.zero 1 (Nat.le_refl _), rfl, hM0, hb2⟩
  case round =>
    clear hM0 hb2 s1
    obtain ⟨k, c, done, V2, hk, rfl, hd, hf1, hf2, hinv, rfl, hM, hb⟩ := hrel
    by_cases hlt : k < roots.length
    · obtain ⟨x, hx⟩ : ∃ x, roots[k]? = some x := ⟨_, List.getElem?_eq_getElem hlt⟩
      obtain ⟨a, rfl, hcell⟩ := hr wr hM.s.right.right.right.right k x hx
      have hxu := hu x (List.mem_of_getElem? hx)
      have hdrop : roots.drop k = x :: roots.drop (k + 1) := by
        rw [List.drop_eq_getElem_cons hlt]
        rw [List.getElem?_eq_getElem hlt] at hx
        cases hx; rfl
      rw [hdrop] at hf1 hf2
      have HF := Lib.hid (And.intro hf1 hf2)
      clear hf1 hf2 hdrop hx
      go_wp2_with fail
      refine (hM.move hinv x hxu.1 hxu.2).mono ?_
      rintro e w7 ⟨rfl, hb7, V3, hg3, hM2⟩
      have g1 := (hinv.copy1 h.ok.wf hl x hxu.1 hxu.2).1
      simp only [copyAll] at HF
      generalize Go.Proofs.Ythkodbmijgehbaa.copy1 S c x = cv at *
      obtain ⟨c', v⟩ := cv
      simp only at *
      go_wp2_with (at_builtin; refine halt ?_)
      refine goon ?_
      have hs8 : sat (w7.alloc (.cells #[.int .u64 v] 28)) (own 28 1 u7 k (done.map Go.Proofs.Ythkodbmijgehbaa.u64) * (blk w7.heap.size (.cells #[.int .u64 v] 28 (0, 0)) * (newHeap V3 S c' * (row 3 1 bt (headsOf S.bs).length (toOf S c') * (isRef V S * R))))) := (hM2.s.alloc _).perm (by ac_rfl)
      have hb8 : Below 0 w (w7.alloc (.cells #[.int .u64 v] 28)) := (hb.trans hb7).trans (Below.zero_alloc _ _)
      have hnew : (w7.alloc (.cells #[.int .u64 v] 28)).cell? ⟨w7.heap.size, 0, none⟩ = some (.int .u64 v) := (hs8.right.left.cell 0).trans rfl
      generalize w7.alloc (.cells #[.int .u64 v] 28) = w8 at *
      obtain ⟨hi, hz0, hz1, hz2⟩ := H1.out
      refine wpList_append_one rfl (.tmp 38) (.tmp 47) 33 rfl 28 i0 (.int .u64 0) 8 Try.underlying33 hi hz0 hz1 hz2 rfl u7 k (done.map Go.Proofs.Ythkodbmijgehbaa.u64) rfl _ w7.heap.size (.int .u64 v) rfl ?_ hs8 hnew rfl (by omega) (by unfold maxLen; omega)
      clear hi hz0 hz1 hz2 hnew hs8
      intro v' w9 hs9 hb9
      go_wp2_with fail
      go_roundw
      case rel =>
        refine ⟨k + 1, c', done ++ [v], V3, by omega, by go_num, by simp [hd], HF.out.1, ?_, g1, hg3, ⟨?_, h.ok⟩, hb8.trans hb9⟩
        · rw [List.append_assoc]; exact HF.out.2
        · have h10 : sat w9 ((newHeap V3 S c' * (row 3 1 bt (headsOf S.bs).length (toOf S c') * (isRef V S * (own 28 1 v' (k + 1) (done.map Go.Proofs.Ythkodbmijgehbaa.u64 ++ [.int .u64 v]) * R)))) * blk w7.heap.size (.cells #[.int .u64 v] 28 (0, 0))) := hs9.perm (by ac_rfl)
          rw [List.map_append]
          exact h10.left
      case measure => simp [intOf]; omega
    · obtain rfl : k = roots.length := by omega
      have hge : (roots.length : Int) ≤ roots.length := by omega
      rw [List.drop_length] at hf1 hf2
      simp only [copyAll, List.append_nil] at hf1 hf2
      rw [hf2] at hM
      subst hf1
      clear hf2 hd hr
      go_wp2_with fail
      go_loopw [9] (RRel2 w V2.g bt V S roots R u7) (fun i _ => S.ws.length + 1 - (intOf i).toNat)
      case atStart =>
        refine ⟨S.ws.length, _, 0, 1, V2, rfl, rfl, ?_, by omega, hinv, rfl, hM, hb⟩
        exact first_head hinv.wf
      case round =>
        generalize V2.g = g2 at *
        clear hM hb hinv
        obtain ⟨f, c, k, j, V2, rfl, hsc, hbd, hf, hinv, rfl, hM, hb⟩ := hrel
        have hcl := hinv.len h.ok.wf
        have hwl2 := hinv.wf.len
        have hhl2 : (headsOf c.tb).length ≤ 1048576 := by
          have := headsFrom_len c.tb 0
          unfold headsOf; omega
        obtain ⟨k1, k2⟩ := hM.nv
        have hcap := hM.cap
        by_cases hlt : k < (headsOf c.tb).length
        · have hj : (headsOf c.tb)[k]? = some j := hbd.resolve_left (by omega)
          have hjt := heads_true hj
          have hfit := hinv.wf.fits j hjt
          have hjl : j < c.tw.length := by omega
          have hkj : k ≤ j := by
            have := (heads_lt (bs := c.tb) (p := j) hj)
            have := headsFrom_len (c.tb.take j) 0
            have h9 : ¬ k < rankOf c.tb j := fun h => by have := (heads_lt (bs := c.tb) (p := j) hj).2 h; omega
            have h8 := heads_inj hj (heads_rank.2 hjt)
            rw [h8]; unfold rankOf; rw [List.length_take] at this; omega
          obtain ⟨f, rfl⟩ : ∃ f', f = f' + 1 := ⟨f - 1, by omega⟩
          simp only [scan] at hsc
          rw [if_pos hjl] at hsc
          have hw1 := (hM.word hjl).1
          obtain ⟨bh, hoh, hh1, hch⟩ := hM.head hj
          rw [hoh] at k2
          simp only [Option.map] at k2
          have hhu := hinv.wf.u _ (List.mem_of_getElem? (getD_get hjl))
          have hobj := hinv.object h.ok.wf hl hjt
          have hstart : GcInv S c (j + 1 + 0) := hinv.move (by omega) (by omega) (fun q i hq hi hle => by
            rcases Nat.lt_or_ge q j with a | a
            · have := hinv.wf.apart q j hq hjt a; unfold tagAt at hi; omega
            · omega)
          have HH := Lib.hid (And.intro hsc (And.intro hj (And.intro hobj hstart)))
          clear hsc hbd hj hobj hstart
          generalize hhd : c.tw.getD j 0 = hd at *
          have tb1 := tagH_bd hd
          have tb2 := rawH_bd hd
          have HD := Lib.hid hhd
          clear hhd
          go_wp2_with fail
          have m1 : hd / 256 % 16777216 = tagH hd := by unfold tagH; omega
          rw [m1]
          go_loopw [12] (RRel3 w V2.g bt V S roots R u7 k j hd (fixN S c (j + 1) (tagH hd).toNat)) (fun i _ => (tagH hd).toNat + 1 - (intOf i).toNat)
          case atStart =>
            exact ⟨0, c, V2, Nat.zero_le _, rfl, rfl, HH.out.2.2.2, HH.out.2.1, HD.out, rfl, hM, hb⟩
          case round =>
            clear hM hb hinv k1 k2 hcap hw1 hoh hh1 hch
            obtain ⟨i, c', V3, hi, rfl, hfx, hinv, hj, hhd, hg2, hM, hb⟩ := hrel
            have hjt := heads_true hj
            have hfit' := hinv.wf.fits j hjt
            rw [hhd] at hfit'
            have hcl' := hinv.len h.ok.wf
            obtain ⟨k1, k2⟩ := hM.nv
            rw [hg2] at k1 k2
            have hcap := hM.cap
            by_cases hit : i < (tagH hd).toNat
            · have hit2 : (i : Int) + 1 ≤ tagH hd := by omega
              have hP : j + 1 + i < c'.tw.length := by omega
              have k3 := (hM.word hP).1
              have hxu := hinv.wf.u _ (List.mem_of_getElem? (getD_get hP))
              have hone := hinv.oneField h.ok.wf hl hjt (i := i) (by unfold tagAt; rw [hhd]; exact hit) rfl
              obtain ⟨q, hq⟩ : ∃ q, (tagH hd).toNat - i = q + 1 := ⟨(tagH hd).toNat - i - 1, by omega⟩
              rw [hq] at hfx
              simp only [fixN] at hfx
              unfold fix1 at hfx hone
              generalize hgx : c'.tw.getD (j + 1 + i) 0 = x at *
              clear hgx
              obtain ⟨l1, hl1⟩ := tb_copy1 S c' x
              have HX := Lib.hid (And.intro hfx (And.intro hone (And.intro hj (And.intro hhd (And.intro hq hl1)))))
              have HI := Lib.hid hinv
              clear hfx hone hj hhd hq hinv hl1 hjt
              have hj1 : (j : Int) + (i + 1) < (c'.tw.length : Int) := by omega
              rw [show j + 1 + i = j + (i + 1) by omega] at k3
              go_wp2_with fail
              have hmv := hM.move HI.out x hxu.1 hxu.2
              rw [hg2] at hmv
              refine hmv.mono ?_
              rintro e w7 ⟨rfl, hb7, V4, hg3, hM2⟩
              have hlen2 := (HI.out.copy1 h.ok.wf hl x hxu.1 hxu.2).2.2.1
              generalize Go.Proofs.Ythkodbmijgehbaa.copy1 S c' x = cv at *
              obtain ⟨c2, v⟩ := cv
              simp only at *
              have hP2 : j + 1 + i < c2.tw.length := by omega
              have hj2 : (j : Int) + (i + 1) < (c2.tw.length : Int) := by omega
              have hcap2 := hM2.cap
              have p1 := hM2.nv.1
              rw [hg3, hg2] at p1
              have p2 := (hM2.word hP2).1
              have p3 := (hM2.word hP2).2
              rw [show j + 1 + i = j + (i + 1) by omega] at p2 p3
              clear k1 k2 k3
              go_wp2_with fail
              go_roundw
              case rel =>
                have h9 := hM2.setWord (j + 1 + i) v
                rw [show j + 1 + i = j + (i + 1) by omega] at h9
                refine ⟨i + 1, { c2 with tw := c2.tw.set (j + (i + 1)) v }, V4, by omega, by go_num, ?_, ?_, ?_, ?_, hg3.trans hg2, h9, (hb.trans hb7).setCell (Nat.zero_le _) _⟩
                · rw [show (tagH hd).toNat - (i + 1) = q by have := HX.out.2.2.2.2.1; omega, show j + (i + 1) = j + 1 + i by omega]; exact HX.out.1
                · rw [show j + (i + 1) = j + 1 + i by omega]; exact HX.out.2.1.1
                · simp only; rw [HX.out.2.2.2.2.2]; exact heads_app HX.out.2.2.1
                · rw [show j + (i + 1) = j + 1 + i by omega, HX.out.2.1.2.2.1 j (Nat.le_refl _)]; exact HX.out.2.2.2.1
              case measure => simp [intOf]; omega
            · obtain rfl : i = (tagH hd).toNat := by omega
              have hge : ¬ ((tagH hd).toNat : Int) + 1 ≤ tagH hd := by omega
              rw [Nat.sub_self] at hfx
              simp only [fixN] at hfx
              have HX := Lib.hid (And.intro hfx (And.intro hj hhd))
              have HI := Lib.hid hinv
              clear hfx hj hhd hinv hit
              go_wp2_with fail
              go_roundw
              case rel =>
                have hsz : sizeAt c.tw j = sizeAt c'.tw j := by unfold sizeAt; rw [HX.out.2.2, HD.out]
                have ho := HH.out.2.2.1
                unfold tagAt at ho
                rw [HD.out, ← HX.out.1] at ho
                have hs := HH.out.1
                rw [← HX.out.1] at hs
                refine ⟨f, c', k + 1, j + sizeAt c.tw j, V3, by go_num, hs, ?_, by unfold sizeAt; omega, ho.1, hg2, hM, hb⟩
                rw [hsz]
                exact next_head ho.1.wf HX.out.2.1
              case measure => simp [intOf]; omega
        · have hkj : k = (headsOf c.tb).length ∧ j = c.tw.length := by
            rcases hbd with e | e
            · exact e
            · have := (List.getElem?_eq_some_iff.1 e).1; omega
          have hend : c = gcEnd S roots := by
            rw [← hsc, hkj.2]
            cases f with
            | zero => rfl
            | succ f => simp only [scan]; rw [if_neg (by omega)]
          obtain ⟨rfl, rfl⟩ := hkj
          clear hsc hbd hinv hf hlt
          subst hend
          have hgok := gc_ok h.ok.wf h.ok.ptr hl hu
          generalize hce : gcEnd S roots = c at *
          have HC := Lib.hid (And.intro hce hgok)
          clear hce hgok
          have q0 : wr.cell? ⟨V2.g, 0, none⟩ = some (.int .i64 S.size) := (hM.s.left.left.cell 0).trans rfl
          have q3 : wr.cell? ⟨V2.g, 3, none⟩ = some (.int .i64 (S.times + 1 : Nat)) := (hM.s.left.left.cell 3).trans rfl
          have c0 := hM.v.c0
          have c1 := hM.v.c1
          have c2 := hM.v.c2
          have c3 := hM.v.c3
          have fr := hM.s.right.right.left
          unfold isRef at fr
          have f0 := fr.left.frozen 0
          have f1 := fr.left.frozen 1
          have f2 := fr.left.frozen 2
          have f3 := fr.left.frozen 3
          clear fr
          go_wp2_with fail
          go_ret
          have hs0 : sat wr (isRef V S * (newHeap V2 S c * (row 3 1 bt (headsOf S.bs).length (toOf S c) * (own 28 1 u7 roots.length ((S.moved roots).map Go.Proofs.Ythkodbmijgehbaa.u64) * R)))) := hM.s.perm (by ac_rfl)
          unfold isRef at hs0
          have hs1 : sat wr (blk V.g (.cells #[i64 S.size, .slice (some ⟨V.bw, 0, none⟩) S.ws.length V.cw, V.vh S, i64 S.times] 109 (0, 0)) * (row 28 1 V.bw V.cw (S.ws.map Go.Proofs.Ythkodbmijgehbaa.u64) * own 3 1 (V.vh S) (headsOf S.bs).length ((headsOf S.bs).map hVal) * (newHeap V2 S c * (row 3 1 bt (headsOf S.bs).length (toOf S c) * (own 28 1 u7 roots.length ((S.moved roots).map Go.Proofs.Ythkodbmijgehbaa.u64) * R))))) := hs0.perm (by ac_rfl)
          have hs2 := (((hs1.setCell (off := 0) (.int .i64 S.size)).setCell (off := 1) (.slice (some ⟨V2.bw, 0, none⟩) c.tw.length V2.cw)).setCell (off := 2) (.slice (V2.oh.map fun b => ⟨b, 0, none⟩) (headsOf c.tb).length V2.ch)).setCell (off := 3) (.int .i64 (S.times + 1))
          have hb2 : Below 0 w ((((wr.setCell ⟨V.g, 0, none⟩ (.int .i64 S.size)).setCell ⟨V.g, 1, none⟩ (.slice (some ⟨V2.bw, 0, none⟩) c.tw.length V2.cw)).setCell ⟨V.g, 2, none⟩ (.slice (V2.oh.map fun b => ⟨b, 0, none⟩) (headsOf c.tb).length V2.ch)).setCell ⟨V.g, 3, none⟩ (.int .i64 (S.times + 1))) :=
            (((hb.setCell (Nat.zero_le _) _).setCell (Nat.zero_le _) _).setCell (Nat.zero_le _) _).setCell (Nat.zero_le _) _
          generalize (((wr.setCell ⟨V.g, 0, none⟩ (.int .i64 S.size)).setCell ⟨V.g, 1, none⟩ (.slice (some ⟨V2.bw, 0, none⟩) c.tw.length V2.cw)).setCell ⟨V.g, 2, none⟩ (.slice (V2.oh.map fun b => ⟨b, 0, none⟩) (headsOf c.tb).length V2.ch)).setCell ⟨V.g, 3, none⟩ (.int .i64 (S.times + 1)) = w9 at *
          simp only [List.setIfInBounds_toArray, List.set_cons_zero, List.set_cons_succ] at hs2
          refine ⟨u7, ⟨V.g, V2.bw, V2.cw, V2.oh, V2.ch⟩, rfl, rfl, ⟨?_, ?_⟩, hb2⟩
          · have e1 : S.collect roots = c.hs S := by unfold HS.collect CS.hs; rw [HC.out.1]
            rw [e1]
            unfold newHeap at hs2
            have hs3 : sat w9 ((blk V.g (.cells #[.int .i64 S.size, .slice (some ⟨V2.bw, 0, none⟩) c.tw.length V2.cw, .slice (V2.oh.map fun b => ⟨b, 0, none⟩) (headsOf c.tb).length V2.ch, .int .i64 (S.times + 1)] 109 (0, 0)) * (row 28 1 V2.bw V2.cw (c.tw.map Go.Proofs.Ythkodbmijgehbaa.u64) * own 3 1 (V2.vh (c.hs S)) (headsOf c.tb).length ((headsOf c.tb).map hVal)) * (own 28 1 u7 roots.length ((S.moved roots).map Go.Proofs.Ythkodbmijgehbaa.u64) * R)) *
              (blk V2.g (.cells (newCells V2 S c) 109 (0, 0)) * (row 28 1 V.bw V.cw (S.ws.map Go.Proofs.Ythkodbmijgehbaa.u64) * (own 3 1 (V.vh S) (headsOf S.bs).length ((headsOf S.bs).map hVal) * row 3 1 bt (headsOf S.bs).length (toOf S c))))) := hs2.perm (by ac_rfl)
            have h4 := hs3.left
            unfold isRef
            exact h4
          · have hok := HC.out.2
            have := h.ok.used
            exact ⟨h.ok.lo, h.ok.hi, Nat.le_trans hok.2.2 h.ok.used, hok.1, by show S.times + 1 < _; omega, hok.2.1⟩
end
end Go.Proofs.Ythkodbmijgehbaa
