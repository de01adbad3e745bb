/- The reference's collection: one word is moved. -/
import Derived.Test.YthkodbmijgehbaaRefAlloc
namespace Go.Proofs.Ythkodbmijgehbaa
open Go.RowKit

/-! ### Where each head has gone -/
def toOf (S : HS) (c : CS) : List Value := (headsOf S.bs).map fun k => .int .i64 (c.at_ k / 4)

theorem headsFrom_lt (l : List Bool) : ∀ (k i j x y : Nat), i < j → (headsFrom k l)[i]? = some x → (headsFrom k l)[j]? = some y → x < y := by
  induction l with
  | nil => intro k i j x y _ h; simp [headsFrom] at h
  | cons b l ih =>
    intro k i j x y hij hi hj
    simp only [headsFrom] at hi hj
    split at hi
    · rename_i hb
      rw [if_pos hb] at hj
      cases j with
      | zero => omega
      | succ j =>
        rw [List.getElem?_cons_succ] at hj
        cases i with
        | zero =>
          rw [List.getElem?_cons_zero] at hi
          cases hi
          have := (headsFrom_bd l (k + 1) y (List.mem_of_getElem? hj)).1
          omega
        | succ i =>
          rw [List.getElem?_cons_succ] at hi
          exact ih (k + 1) i j x y (by omega) hi hj
    · rename_i hb
      rw [if_neg hb] at hj
      exact ih (k + 1) i j x y hij hi hj
theorem heads_inj {bs : List Bool} {i j x : Nat} (hi : (headsOf bs)[i]? = some x) (hj : (headsOf bs)[j]? = some x) : i = j := by
  rcases Nat.lt_trichotomy i j with h | h | h
  · have := headsFrom_lt bs 0 i j x x h hi hj; omega
  · exact h
  · have := headsFrom_lt bs 0 j i x x h hj hi; omega

theorem toOf_put {S : HS} {c : CS} {k : Nat} (hl : c.gone.length = S.ws.length) (hk : S.bs[k]? = some true) (hkl : k < S.ws.length) : toOf S (c.put S k) = (toOf S c).set (rankOf S.bs k) (.int .i64 (c.tw.length : Int)) := by
  have hr := heads_rank.2 hk
  apply List.ext_getElem?
  intro j
  unfold toOf
  rw [List.getElem?_map, List.getElem?_set, List.getElem?_map]
  by_cases e : rankOf S.bs k = j
  · subst e
    rw [if_pos rfl, hr]
    have hlt := (List.getElem?_eq_some_iff.1 hr).1
    rw [if_pos (by rw [List.length_map]; exact hlt)]
    simp only [Option.map]
    rw [put_at hl hkl, if_pos rfl, show (4 * (c.tw.length : Int)) / 4 = c.tw.length by omega]
  · rw [if_neg e]
    cases hx : (headsOf S.bs)[j]? with
    | none => rfl
    | some x =>
      simp only [Option.map]
      have hne : x ≠ k := fun h => e (heads_inj hr (h ▸ hx))
      rw [put_at hl hkl, if_neg hne]

/-- What move works on: the old heap, the new one, the list of where each head has gone. -/
def CS.hs (S : HS) (c : CS) : HS := { size := S.size, ws := c.tw, bs := c.tb, times := S.times + 1 }
def newCells (V2 : RV) (S : HS) (c : CS) : Array Value := #[i64 S.size, .slice (some ⟨V2.bw, 0, none⟩) c.tw.length V2.cw, .slice (V2.oh.map fun b => ⟨b, 0, none⟩) (headsOf c.tb).length V2.ch, i64 ((S.times + 1 : Nat) : Int)]
def newHeap (V2 : RV) (S : HS) (c : CS) : HP := blk V2.g (.cells (newCells V2 S c) 109 (0, 0)) * (row 28 1 V2.bw V2.cw (c.tw.map u64) * own 3 1 (V2.vh (c.hs S)) (headsOf c.tb).length ((headsOf c.tb).map hVal))
theorem newHeap_eq (V2 : RV) (S : HS) (c : CS) : newHeap V2 S c = isRef V2 (c.hs S) := rfl

structure RMem (w : World) (V V2 : RV) (bt : Nat) (S : HS) (c : CS) (R : HP) : Prop where
  s : sat w (newHeap V2 S c * (row 3 1 bt (headsOf S.bs).length (toOf S c) * (isRef V S * R)))
  ok : SOk S

section
variable {w : World} {V V2 : RV} {bt : Nat} {S : HS} {c : CS} {R : HP}
theorem RMem.drewN (h : RMem w V V2 bt S c R) (n : Nat) : RMem (w.drewN n) V V2 bt S c R := ⟨h.s, h.ok⟩
theorem RMem.v (h : RMem w V V2 bt S c R) : RefV w V S := h.s.right.right.refV h.ok
theorem RMem.toAt (h : RMem w V V2 bt S c R) {k : Nat} (hk : S.bs[k]? = some true) : w.cell? ⟨bt, rankOf S.bs k, none⟩ = some (.int .i64 (c.at_ k / 4)) ∧ w.frozen? ⟨bt, rankOf S.bs k, none⟩ = false := by
  have h1 := h.s.right
  refine ⟨h1.row_cell ?_, h1.row_frozen _⟩
  unfold toOf
  rw [List.getElem?_map, heads_rank.2 hk]; rfl

theorem RefV.find' {w : World} {V : RV} {S : HS} (h : RefV w V S) (p : Int) (hp : 0 ≤ p) :
    Calls Try.prog 86 #[.pointer (some ⟨V.g, 0, none⟩), .int .i64 p] w (Says (.int .i64 (findP S.bs p.toNat)) w) := by
  have := h.find p.toNat
  rwa [show ((p.toNat : Nat) : Int) = p by omega] at this

theorem rret_u64 {a b : Int} (h : a = b) : Ending.returned (.int .u64 a) = .returned (.int .u64 b) := by rw [h]
def MovePost (V V2 : RV) (bt : Nat) (S : HS) (c : CS) (x : Int) (R : HP) (w : World) (e : Ending) (w' : World) : Prop :=
  e = .returned (.int .u64 (copy1 S c x).2) ∧ Below 0 w w' ∧ ∃ V3 : RV, V3.g = V2.g ∧ RMem w' V V3 bt S (copy1 S c x).1 R

set_option maxRecDepth 100000 in
set_option maxHeartbeats 400000 in
theorem RMem.move_out (h : RMem w V V2 bt S c R) (x : Int) (x0 : 0 ≤ x) (x1 : x < 18446744073709551616) (hx : S.is x = false) :
    Calls Try.prog 85 #[.pointer (some ⟨V.g, 0, none⟩), .pointer (some ⟨V2.g, 0, none⟩), .slice (some ⟨bt, 0, none⟩) (headsOf S.bs).length (headsOf S.bs).length, .int .u64 x] w (MovePost V V2 bt S c x R w) := by
  have hc : copy1 S c x = (c, x) := by unfold copy1; rw [if_neg (by rw [hx]; simp)]
  have HC := Lib.hid hc
  have HX := Lib.hid hx
  clear hc hx
  go_enter Try.func85, Try.ntmps85
  go_wp2_with fail
  refine (h.v.Is x x0 x1).mono ?_
  rintro e w' ⟨rfl, n, rfl⟩
  rw [HX.out]
  go_wp2_with fail
  go_ret
  unfold MovePost
  rw [HC.out]
  exact ⟨rfl, drewN_below0 _ _, V2, rfl, h.drewN n⟩

set_option maxRecDepth 100000 in
set_option maxHeartbeats 400000 in
theorem RMem.move_old {P : Nat} (h : RMem w V V2 bt S c R) (hi : GcInv S c P) (x : Int) (x0 : 0 ≤ x) (x1 : x < 18446744073709551616) (hx : S.is x = true) (hg : ¬ c.at_ (x / 4).toNat = 0) :
    Calls Try.prog 85 #[.pointer (some ⟨V.g, 0, none⟩), .pointer (some ⟨V2.g, 0, none⟩), .slice (some ⟨bt, 0, none⟩) (headsOf S.bs).length (headsOf S.bs).length, .int .u64 x] w (MovePost V V2 bt S c x R w) := by
  have hc : copy1 S c x = (c, c.at_ (x / 4).toNat) := by unfold copy1; rw [if_pos hx]; unfold CS.at_ at hg ⊢; rw [if_neg hg]
  obtain ⟨j, hj, hcop⟩ := hi.tgt _ hg
  have hjl := (List.getElem?_eq_some_iff.1 hcop.now).1
  have hlen := hi.len h.ok.wf
  have hwl := hi.wf.len
  have hto := (h.toAt hcop.was).1
  have hrk := (List.getElem?_eq_some_iff.1 (heads_rank.2 hcop.was)).1
  have hu := h.ok.used
  have hsz := h.ok.hi
  have hfind : findP S.bs (x / 4).toNat = (rankOf S.bs (x / 4).toNat : Int) := by unfold findP; rw [if_pos hcop.was]
  have hw := h.ok.word hx
  rw [hj, show (4 * (j : Int)) / 4 = j by omega] at hto
  rw [hj] at hg hc
  have hg2 : ((j : Int) == 0) = false := by rw [beq_eq_false_iff_ne]; omega
  have hjb : (j : Int) < 1048576 := by omega
  have hx4 : x.tdiv 4 = x / 4 := Int.tdiv_eq_ediv_of_nonneg x0
  have hw4 : IntKind.i64.wrap (x / 4) = x / 4 := IntWalk.i64_in _ (by omega)
  have hp4 : 0 ≤ x / 4 := by omega
  generalize rankOf S.bs (x / 4).toNat = r at *
  have HC := Lib.hid hc
  have HX := Lib.hid hx
  have HF := Lib.hid hfind
  clear hc hx hj hcop hfind hw hlen hwl hjl
  go_enter Try.func85, Try.ntmps85
  go_wp2_with fail
  refine (h.v.Is x x0 x1).mono ?_
  rintro e w' ⟨rfl, n, rfl⟩
  rw [HX.out]
  go_wp2_with fail
  refine ((h.v.drewN n).find' (x / 4) hp4).mono ?_
  rintro e w' ⟨rfl, m, rfl⟩
  rw [HF.out]
  go_wp2_with fail
  go_ret
  unfold MovePost
  rw [HC.out]
  refine ⟨rret_u64 (by omega), drewN_below0 _ _, V2, rfl, h.drewN (n + m)⟩

/-- Between the stores: to is told already, the words and the heads are to come. -/
theorem RMem.setTo (h : RMem w V V2 bt S c R) {k : Nat} (hl : c.gone.length = S.ws.length) (hk : S.bs[k]? = some true) (hkl : k < S.ws.length) :
    sat (w.setCell ⟨bt, rankOf S.bs k, none⟩ (.int .i64 (c.tw.length : Int))) (newHeap V2 S c * (row 3 1 bt (headsOf S.bs).length (toOf S (c.put S k)) * (isRef V S * R))) := by
  have h1 : sat w (row 3 1 bt (headsOf S.bs).length (toOf S c) * (newHeap V2 S c * (isRef V S * R))) := h.s.perm (by ac_rfl)
  have h2 := h1.row_set (rankOf S.bs k) (.int .i64 (c.tw.length : Int))
  rw [← toOf_put hl hk hkl] at h2
  exact h2.perm (by ac_rfl)

theorem newHeap_put {b9 c9 b7 c7 k : Nat} {X : HP} (hl : c.tb.length = c.tw.length) (hfit : k + sizeAt S.ws k ≤ S.ws.length) (hc7 : (headsOf c.tb).length + 1 ≤ c7)
    (h : sat w (blk V2.g (.cells #[i64 S.size, .slice (some ⟨b9, 0, none⟩) (c.tw.length + sizeAt S.ws k) c9, .slice (some ⟨b7, 0, none⟩) ((headsOf c.tb).length + 1) c7, i64 ((S.times + 1 : Nat) : Int)] 109 (0, 0)) *
        (row 28 1 b9 c9 (c.tw.map u64 ++ ((S.ws.drop k).take (sizeAt S.ws k)).map u64) * (row 3 1 b7 c7 ((headsOf c.tb).map hVal ++ [.int .i64 (c.tw.length : Int)]) * X)))) :
    sat w (newHeap ⟨V2.g, b9, c9, some b7, c7⟩ S (c.put S k) * X) := by
  have hxl : ((S.ws.drop k).take (sizeAt S.ws k)).length = sizeAt S.ws k := by rw [List.length_take, List.length_drop]; omega
  have hh : headsOf (c.put S k).tb = headsOf c.tb ++ [c.tw.length] := by
    have hs : sizeAt S.ws k = (tagH (S.ws.getD k 0)).toNat + (rawH (S.ws.getD k 0)).toNat + 1 := by unfold sizeAt; omega
    unfold CS.put
    simp only
    rw [hs, headsOf_laid, hl]
  have h1 : sat w (row 3 1 b7 c7 ((headsOf c.tb).map hVal ++ [.int .i64 (c.tw.length : Int)]) * (blk V2.g (.cells #[i64 S.size, .slice (some ⟨b9, 0, none⟩) (c.tw.length + sizeAt S.ws k) c9, .slice (some ⟨b7, 0, none⟩) ((headsOf c.tb).length + 1) c7, i64 ((S.times + 1 : Nat) : Int)] 109 (0, 0)) *
        (row 28 1 b9 c9 (c.tw.map u64 ++ ((S.ws.drop k).take (sizeAt S.ws k)).map u64) * X))) := h.perm (by ac_rfl)
  have h2 := h1.shut_own (n := (headsOf c.tb).length + 1) (by simp) hc7
  refine h2.perm ?_
  unfold newHeap newCells RV.vh CS.hs
  simp only [hh]
  rw [show (c.put S k).tw = c.tw ++ (S.ws.drop k).take (sizeAt S.ws k) from rfl]
  simp only [List.length_append, List.map_append, hxl, List.length_cons, List.length_nil, Nat.zero_add, List.map_cons, List.map_nil, Option.map]
  ac_rfl

set_option maxRecDepth 100000 in
set_option maxHeartbeats 1000000 in
theorem RMem.move_new {P : Nat} (h : RMem w V V2 bt S c R) (hi : GcInv S c P) (x : Int) (x0 : 0 ≤ x) (x1 : x < 18446744073709551616) (hx : S.is x = true) (hg : c.at_ (x / 4).toNat = 0) :
    Calls Try.prog 85 #[.pointer (some ⟨V.g, 0, none⟩), .pointer (some ⟨V2.g, 0, none⟩), .slice (some ⟨bt, 0, none⟩) (headsOf S.bs).length (headsOf S.bs).length, .int .u64 x] w (MovePost V V2 bt S c x R w) := by
  have hc : copy1 S c x = (c.put S (x / 4).toNat, 4 * (c.tw.length : Int)) := by unfold copy1; rw [if_pos hx]; unfold CS.at_ at hg; rw [if_pos hg]
  obtain ⟨hkl, hkw, hm4, hb4, hbk, hrest⟩ := h.ok.word hx
  have hroom := hi.room h.ok.wf hbk hg
  have hto := h.toAt hbk
  rw [hg] at hto
  have hrk := (List.getElem?_eq_some_iff.1 (heads_rank.2 hbk)).1
  have hu := h.ok.used
  have hsz := h.ok.hi
  have hfind : findP S.bs (x / 4).toNat = (rankOf S.bs (x / 4).toNat : Int) := by unfold findP; rw [if_pos hbk]
  have hx4 : x.tdiv 4 = x / 4 := Int.tdiv_eq_ediv_of_nonneg x0
  have hw4 : IntKind.i64.wrap (x / 4) = x / 4 := IntWalk.i64_in _ (by omega)
  have hp4 : 0 ≤ x / 4 := by omega
  have HB := Lib.hid (And.intro hbk hkl)
  have htb := tagH_bd (S.head x)
  have hrb := rawH_bd (S.head x)
  have ht0 : 0 ≤ S.tag x ∧ S.tag x < 16777216 := by unfold HS.tag; omega
  have hr0 : 0 ≤ S.raw x ∧ S.raw x < 16777216 := by unfold HS.raw; omega
  have hfit := h.ok.wf.fits _ hbk
  have hhead : S.ws.getD (x / 4).toNat 0 = S.head x := by rw [List.getD_eq_getElem?_getD, hkw]; rfl
  rw [hhead] at hfit
  have hsize : (sizeAt S.ws (x / 4).toNat : Int) = 1 + S.tag x + S.raw x := by unfold sizeAt; rw [hhead]; unfold HS.tag HS.raw at *; omega
  have hfit2 : x / 4 + (1 + S.tag x + S.raw x) ≤ (S.ws.length : Int) := by unfold HS.tag HS.raw at *; omega
  have s1 : IntKind.i64.wrap (1 + S.tag x) = 1 + S.tag x := IntWalk.i64_in _ (by omega)
  have s2 : IntKind.i64.wrap (1 + S.tag x + S.raw x) = 1 + S.tag x + S.raw x := IntWalk.i64_in _ (by omega)
  have s3 : IntKind.i64.wrap (x / 4 + (1 + S.tag x + S.raw x)) = x / 4 + (1 + S.tag x + S.raw x) := IntWalk.i64_in _ (by omega)
  have hcw := h.v.wc
  have b1 : 0 ≤ x / 4 := by omega
  have b2 : x / 4 ≤ x / 4 + (1 + S.tag x + S.raw x) := by omega
  have b3 : x / 4 + (1 + S.tag x + S.raw x) ≤ (V.cw : Int) := by omega
  have hne : ¬ V.cw = (x / 4).toNat := by omega
  generalize hrr : rankOf S.bs (x / 4).toNat = r at hto hrk hfind
  have HR := Lib.hid hrr
  have HC := Lib.hid hc
  have HX := Lib.hid hx
  have HF := Lib.hid hfind
  have HS0 := Lib.hid (And.intro hsize (And.intro hroom (And.intro hhead hfit)))
  obtain ⟨hto1, hto2⟩ := hto
  have HTO := Lib.hid hto2
  have hn1 : w.cell? ⟨V2.g, 1, none⟩ = some (.slice (some ⟨V2.bw, 0, none⟩) c.tw.length V2.cw) := (h.s.left.left.cell 1).trans rfl
  clear hc hx hg hfind hrr hkw hm4 hb4 hbk hrest hkl htb hrb hfit hhead hsize hroom hto2
  go_enter Try.func85, Try.ntmps85
  go_wp2_with fail
  refine (h.v.Is x x0 x1).mono ?_
  rintro e w' ⟨rfl, n, rfl⟩
  rw [HX.out]
  go_wp2_with fail
  refine ((h.v.drewN n).find' (x / 4) hp4).mono ?_
  rintro e w' ⟨rfl, m, rfl⟩
  rw [HF.out]
  go_wp2_with fail
  refine ((h.v.drewN (n + m)).Tagged x x0 x1).mono ?_
  rintro e w' ⟨rfl, m2, rfl⟩
  go_wp2_with fail
  refine ((h.v.drewN (n + m + m2)).Raws x x0 x1).mono ?_
  rintro e w' ⟨rfl, m3, rfl⟩
  have hto2 := HTO.out
  go_wp2_with fail
  have hset := (h.drewN (n + m + m2 + m3)).setTo hi.gone HB.out.1 HB.out.2
  rw [HR.out] at hset
  have hb1 : Below 0 w ((w.drewN (n + m + m2 + m3)).setCell ⟨bt, r, none⟩ (.int .i64 (c.tw.length : Int))) := (drewN_below0 _ _).setCell (Nat.zero_le _) _
  generalize (w.drewN (n + m + m2 + m3)).setCell ⟨bt, r, none⟩ (.int .i64 (c.tw.length : Int)) = w1 at *
  have q1 : w1.cell? ⟨V2.g, 1, none⟩ = some (.slice (some ⟨V2.bw, 0, none⟩) c.tw.length V2.cw) := (hset.left.left.cell 1).trans rfl
  have q2 : w1.cell? ⟨V2.g, 2, none⟩ = some (.slice (V2.oh.map fun b => ⟨b, 0, none⟩) (headsOf c.tb).length V2.ch) := (hset.left.left.cell 2).trans rfl
  have hhl : (headsOf c.tb).length ≤ 1048576 := by
    have := headsFrom_len c.tb 0
    have := hi.wf.len
    have := hi.len h.ok.wf
    unfold headsOf; omega
  have hsA : sat (w1.drew.alloc (.cells #[.int .i64 (c.tw.length : Int)] 3)) (own 3 1 (.slice (V2.oh.map fun b => ⟨b, 0, none⟩) (headsOf c.tb).length V2.ch) (headsOf c.tb).length ((headsOf c.tb).map hVal) *
      (blk V2.g (.cells (newCells V2 S c) 109 (0, 0)) * (row 28 1 V2.bw V2.cw (c.tw.map u64) * (row 3 1 bt (headsOf S.bs).length (toOf S (c.put S (x / 4).toNat)) * (isRef V S * R))))) := by
    refine (hset.drew.alloc (.cells #[.int .i64 (c.tw.length : Int)] 3)).right.perm ?_
    unfold newHeap RV.vh CS.hs
    ac_rfl
  have hsN : (w1.drew.alloc (.cells #[.int .i64 (c.tw.length : Int)] 3)).cell? ⟨w1.heap.size, 0, none⟩ = some (.int .i64 (c.tw.length : Int)) := ((hset.drew.alloc (.cells #[.int .i64 (c.tw.length : Int)] 3)).left.cell 0).trans rfl
  have hsN2 : ∀ (j : Nat) u, [Value.int .i64 (c.tw.length : Int)][j]? = some u → (w1.drew.alloc (.cells #[.int .i64 (c.tw.length : Int)] 3)).cell? ((⟨w1.heap.size, 0, none⟩ : Addr).add j) = some u := by
    intro j u hj; match j, hj with | 0, hj => simp at hj; subst hj; simpa [Addr.add] using hsN
  have hsB : Below 0 w1 (w1.drew.alloc (.cells #[.int .i64 (c.tw.length : Int)] 3)) := (drewN_below0 _ 1).trans (Below.zero_alloc _ _)
  have HA := Lib.hid (And.intro hsA (And.intro hsN2 hsB))
  clear hsA hsN hsN2 hsB
  obtain ⟨j0, hj, hy0, hy1, hy2⟩ := info_parts info_int
  obtain ⟨i0, hi1, hz0, hz1, hz2⟩ := info_parts info_u64
  have HJ := Lib.hid (And.intro hj (And.intro hy0 (And.intro hy1 hy2)))
  have HI := Lib.hid (And.intro hi1 (And.intro hz0 (And.intro hz1 hz2)))
  clear hj hy0 hy1 hy2 hi1 hz0 hz1 hz2
  have q3 : (w1.alloc (.cells #[.int .i64 (c.tw.length : Int)] 3)).cell? ⟨V2.g, 2, none⟩ = some (.slice (V2.oh.map fun b => ⟨b, 0, none⟩) (headsOf c.tb).length V2.ch) := ((hset.alloc (.cells #[.int .i64 (c.tw.length : Int)] 3)).right.left.left.cell 2).trans rfl
  go_region_law
    ((refine step_append_sat rfl (.tmp 50) (.tmp 56) 22 rfl 3 j0 (.int .i64 0) 1 8 Try.underlying22 HJ.out.1 HJ.out.2.1 HJ.out.2.2.1 HJ.out.2.2.2 rfl _ (headsOf c.tb).length ((headsOf c.tb).map hVal) (by rfl) _ HA.out.1 ⟨w1.heap.size, 0, none⟩ 1 1 [.int .i64 (c.tw.length : Int)] (by rfl) rfl HA.out.2.1 (fun u hu => by simp at hu; subst hu; rfl) (by omega) (by unfold maxLen; omega) (by omega) ?_; intro b7 c7 w7 hs7 hc7 hb7; have k2 : w7.cell? ⟨V2.g, 2, none⟩ = some (.slice (V2.oh.map fun b => ⟨b, 0, none⟩) (headsOf c.tb).length V2.ch) := (hs7.right.left.cell 2).trans rfl; have k3 := hs7.right.left.frozen 2))
  all_goals (
    have hs8 : sat (w7.setCell ⟨V2.g, 2, none⟩ (.slice (some ⟨b7, 0, none⟩) ((headsOf c.tb).length + 1) c7)) (blk V2.g (.cells #[i64 S.size, .slice (some ⟨V2.bw, 0, none⟩) c.tw.length V2.cw, .slice (some ⟨b7, 0, none⟩) ((headsOf c.tb).length + 1) c7, i64 ((S.times + 1 : Nat) : Int)] 109 (0, 0)) *
        (row 28 1 V2.bw V2.cw (c.tw.map u64) * (row 3 1 b7 c7 ((headsOf c.tb).map hVal ++ [.int .i64 (c.tw.length : Int)]) * (row 3 1 bt (headsOf S.bs).length (toOf S (c.put S (x / 4).toNat)) * (isRef V S * R))))) := by
      have h8 : sat w7 (blk V2.g (.cells (newCells V2 S c) 109 (0, 0)) * (row 28 1 V2.bw V2.cw (c.tw.map u64) * (row 3 1 b7 c7 ((headsOf c.tb).map hVal ++ [.int .i64 (c.tw.length : Int)]) * (row 3 1 bt (headsOf S.bs).length (toOf S (c.put S (x / 4).toNat)) * (isRef V S * R))))) := hs7.perm (by ac_rfl)
      exact h8.setCell (off := 2) _
    have hb8 : Below 0 w (w7.setCell ⟨V2.g, 2, none⟩ (.slice (some ⟨b7, 0, none⟩) ((headsOf c.tb).length + 1) c7)) := ((hb1.trans HA.out.2.2).trans hb7).setCell (Nat.zero_le _) _
    clear hs7 hb7 k2 k3 q1 q2 q3 hset hb1 HA
    generalize w7.setCell ⟨V2.g, 2, none⟩ (.slice (some ⟨b7, 0, none⟩) ((headsOf c.tb).length + 1) c7) = w8 at *
    have p1 : w8.cell? ⟨V2.g, 1, none⟩ = some (.slice (some ⟨V2.bw, 0, none⟩) c.tw.length V2.cw) := (hs8.left.cell 1).trans rfl
    have hv8 : RefV w8 V S := hs8.right.right.right.right.refV h.ok
    have p2 := hv8.c1
    go_wp2_with fail
    have hm : (x / 4 + (1 + S.tag x + S.raw x)).toNat - (x / 4).toNat = sizeAt S.ws (x / 4).toNat := by have := HS0.out.1; omega
    have hnews : ∀ (j : Nat) u, (((S.ws.drop (x / 4).toNat).take (sizeAt S.ws (x / 4).toNat)).map Go.Proofs.Ythkodbmijgehbaa.u64)[j]? = some u → w8.drew.cell? ((⟨V.bw, (x / 4).toNat, none⟩ : Addr).add j) = some u := by
      intro j u hj
      rw [List.getElem?_map, List.getElem?_take] at hj
      split at hj
      · rw [List.getElem?_drop] at hj
        cases hx : S.ws[(x / 4).toNat + j]? with
        | none => rw [hx] at hj; cases hj
        | some y =>
          rw [hx] at hj
          cases hj
          have := hv8.hw _ _ hx
          have ha : ((⟨V.bw, (x / 4).toNat, none⟩ : Addr).add j) = ⟨V.bw, (x / 4).toNat + j, none⟩ := by unfold Addr.add; split <;> simp_all
          rw [ha]; exact this
      · cases hj
    have hnl : (((S.ws.drop (x / 4).toNat).take (sizeAt S.ws (x / 4).toNat)).map Go.Proofs.Ythkodbmijgehbaa.u64).length = ((x / 4 + (1 + S.tag x + S.raw x)).toNat - (x / 4).toNat) * 1 := by
      rw [hm, List.length_map, List.length_take, List.length_drop]; have := HS0.out.1; omega
    have hpos : 0 < (x / 4 + (1 + S.tag x + S.raw x)).toNat - (x / 4).toNat := by omega
    have hbd : c.tw.length + ((x / 4 + (1 + S.tag x + S.raw x)).toNat - (x / 4).toNat) ≤ 1048576 := by have := HS0.out.2.1; rw [hm]; omega
    have hcap2 : c.tw.length ≤ V2.cw := by have := hs8.right.row_bounds.1; simpa using this
    have hsW : sat w8.drew (own 28 1 (.slice (some ⟨V2.bw, 0, none⟩) c.tw.length V2.cw) c.tw.length (c.tw.map u64) * (blk V2.g (.cells #[i64 S.size, .slice (some ⟨V2.bw, 0, none⟩) c.tw.length V2.cw, .slice (some ⟨b7, 0, none⟩) ((headsOf c.tb).length + 1) c7, i64 ((S.times + 1 : Nat) : Int)] 109 (0, 0)) *
        (row 3 1 b7 c7 ((headsOf c.tb).map hVal ++ [.int .i64 (c.tw.length : Int)]) * (row 3 1 bt (headsOf S.bs).length (toOf S (c.put S (x / 4).toNat)) * (isRef V S * R))))) := by
      refine sat.shut_own (by simp) hcap2 ?_
      exact hs8.drew.perm (by ac_rfl)
    have HW := Lib.hid (And.intro hm (And.intro hnews (And.intro hnl (And.intro hpos (And.intro hbd hsW)))))
    clear hm hnews hnl hpos hbd hsW
    have s4 : IntKind.i64.wrap (x / 4) = x / 4 := hw4
    go_region_law
      ((refine step_append_sat rfl (.tmp 64) (.tmp 73) 33 rfl 28 i0 (.int .u64 0) 1 8 Try.underlying33 HI.out.1 HI.out.2.1 HI.out.2.2.1 HI.out.2.2.2 rfl _ c.tw.length (c.tw.map Go.Proofs.Ythkodbmijgehbaa.u64) (by rfl) _ HW.out.2.2.2.2.2 ⟨V.bw, (x / 4).toNat, none⟩ ((x / 4 + (1 + S.tag x + S.raw x)).toNat - (x / 4).toNat) (V.cw - (x / 4).toNat) (((S.ws.drop (x / 4).toNat).take (sizeAt S.ws (x / 4).toNat)).map Go.Proofs.Ythkodbmijgehbaa.u64) (by rfl) HW.out.2.2.1 HW.out.2.1 (fun u hu => by obtain ⟨y, _, rfl⟩ := List.mem_map.1 hu; rfl) (by have := HW.out.2.2.2.2.1; omega) (by have := HW.out.2.2.2.2.1; unfold maxLen; omega) HW.out.2.2.2.1 ?_; intro b9 c9 w9 hs9 hc9 hb9; have k2 : w9.cell? ⟨V2.g, 1, none⟩ = some (.slice (some ⟨V2.bw, 0, none⟩) c.tw.length V2.cw) := (hs9.right.left.cell 1).trans rfl; have k3 := hs9.right.left.frozen 1)))
  all_goals (
    have hs10 : sat (w9.setCell ⟨V2.g, 1, none⟩ (.slice (some ⟨b9, 0, none⟩) (c.tw.length + ((x / 4 + (1 + S.tag x + S.raw x)).toNat - (x / 4).toNat)) c9)) (blk V2.g (.cells #[i64 S.size, .slice (some ⟨b9, 0, none⟩) (c.tw.length + ((x / 4 + (1 + S.tag x + S.raw x)).toNat - (x / 4).toNat)) c9, .slice (some ⟨b7, 0, none⟩) ((headsOf c.tb).length + 1) c7, i64 ((S.times + 1 : Nat) : Int)] 109 (0, 0)) *
        (row 28 1 b9 c9 (c.tw.map Go.Proofs.Ythkodbmijgehbaa.u64 ++ ((S.ws.drop (x / 4).toNat).take (sizeAt S.ws (x / 4).toNat)).map Go.Proofs.Ythkodbmijgehbaa.u64) * (row 3 1 b7 c7 ((headsOf c.tb).map hVal ++ [.int .i64 (c.tw.length : Int)]) * (row 3 1 bt (headsOf S.bs).length (toOf S (c.put S (x / 4).toNat)) * (isRef V S * R))))) := by
      have h8 : sat w9 (blk V2.g (.cells #[i64 S.size, .slice (some ⟨V2.bw, 0, none⟩) c.tw.length V2.cw, .slice (some ⟨b7, 0, none⟩) ((headsOf c.tb).length + 1) c7, i64 ((S.times + 1 : Nat) : Int)] 109 (0, 0)) *
        (row 28 1 b9 c9 (c.tw.map Go.Proofs.Ythkodbmijgehbaa.u64 ++ ((S.ws.drop (x / 4).toNat).take (sizeAt S.ws (x / 4).toNat)).map Go.Proofs.Ythkodbmijgehbaa.u64) * (row 3 1 b7 c7 ((headsOf c.tb).map hVal ++ [.int .i64 (c.tw.length : Int)]) * (row 3 1 bt (headsOf S.bs).length (toOf S (c.put S (x / 4).toNat)) * (isRef V S * R))))) := hs9.perm (by ac_rfl)
      exact h8.setCell (off := 1) _
    have hb10 : Below 0 w (w9.setCell ⟨V2.g, 1, none⟩ (.slice (some ⟨b9, 0, none⟩) (c.tw.length + ((x / 4 + (1 + S.tag x + S.raw x)).toNat - (x / 4).toNat)) c9)) := ((hb8.trans (drewN_below0 w8 1)).trans hb9).setCell (Nat.zero_le _) _
    clear hs9 hb9 k2 k3 p1 p2 hv8 hs8 hb8
    generalize w9.setCell ⟨V2.g, 1, none⟩ (.slice (some ⟨b9, 0, none⟩) (c.tw.length + ((x / 4 + (1 + S.tag x + S.raw x)).toNat - (x / 4).toNat)) c9) = w10 at *
    rw [HW.out.1] at hs10 hc9
    have k1 : w10.cell? ⟨bt, r, none⟩ = some (.int .i64 (c.tw.length : Int)) := by
      have h10 : sat w10 (row 3 1 bt (headsOf S.bs).length (toOf S (c.put S (x / 4).toNat)) * (isRef V S * R)) := hs10.right.right.right
      refine h10.row_cell ?_
      rw [toOf_put hi.gone HB.out.1 HB.out.2, HR.out, List.getElem?_set_self (by unfold toOf; rw [List.length_map]; exact hrk)]
    have hbd := HW.out.2.2.2.2.1
    go_wp2_with fail
    go_ret
    unfold MovePost
    rw [HC.out]
    refine ⟨rret_u64 (by omega), hb10, ⟨V2.g, b9, c9, some b7, c7⟩, rfl, ?_, h.ok⟩
    exact newHeap_put hi.wf.len (by have := HS0.out.2.2.2; rw [← HS0.out.2.2.1] at this; unfold sizeAt; omega) hc7 hs10)

theorem RMem.move {P : Nat} (h : RMem w V V2 bt S c R) (hi : GcInv S c P) (x : Int) (x0 : 0 ≤ x) (x1 : x < 18446744073709551616) :
    Calls Try.prog 85 #[.pointer (some ⟨V.g, 0, none⟩), .pointer (some ⟨V2.g, 0, none⟩), .slice (some ⟨bt, 0, none⟩) (headsOf S.bs).length (headsOf S.bs).length, .int .u64 x] w (MovePost V V2 bt S c x R w) := by
  cases hx : S.is x with
  | false => exact h.move_out x x0 x1 hx
  | true =>
    by_cases hg : c.at_ (x / 4).toNat = 0
    · exact h.move_new hi x x0 x1 hx hg
    · exact h.move_old hi x x0 x1 hx hg

end
end Go.Proofs.Ythkodbmijgehbaa
