/- Collect's closure: a word, copied. -/
import Derived.Test.YtanjiecefioffaaGcPure
namespace Go.Proofs.Ytanjiecefioffaa
open Go.RowKit

/-- Where a collection keeps its things: the variables from, gone, to, h; gone's array; the new half's arrays. -/
structure GV where
  bf : Nat
  bg : Nat
  bt : Nat
  bh : Nat
  br : Nat
  bw : Nat
  cw : Nat
  bb : Nat
  cb : Nat

def gcMem (G : GV) (V : HV) (S : HS) (c : CS) : HP :=
  blk G.bf (.cells #[.pointer (some ⟨V.g, 1 + V.inn * 2, none⟩)] 94 (0, 0)) * (blk G.bg (.cells #[.slice (some ⟨G.br, 0, none⟩) S.ws.length S.ws.length] 35 (0, 0)) *
  (blk G.bt (.cells #[.slice (some ⟨G.bw, 0, none⟩) c.tw.length G.cw, .slice (some ⟨G.bb, 0, none⟩) c.tb.length G.cb] 93 (0, 0)) * (blk G.bh (.cells #[.pointer (some ⟨V.g, 0, none⟩)] 37 (0, 0)) *
  (row 22 1 G.br S.ws.length (c.gone.map u64) * (row 22 1 G.bw G.cw (c.tw.map u64) * row 4 1 G.bb G.cb (c.tb.map .bool))))))

structure GOk (S : HS) (c : CS) : Prop where
  len : c.tb.length = c.tw.length
  pos : 0 < c.tw.length
  gone : c.gone.length = S.ws.length

structure GMem (w : World) (G : GV) (V : HV) (S : HS) (c : CS) (R : HP) : Prop where
  s : sat w (gcMem G V S c * (isHeap V S * R))
  ok : HOk V S
  gok : GOk S c

theorem ret_u64 {a b : Int} (h : a = b) : Ending.returned (.int .u64 a) = .returned (.int .u64 b) := by rw [h]

section
variable {w : World} {G : GV} {V : HV} {S : HS} {c : CS} {R : HP}

theorem GMem.drewN (h : GMem w G V S c R) (n : Nat) : GMem (w.drewN n) G V S c R := ⟨h.s, h.ok, h.gok⟩
theorem GMem.v (h : GMem w G V S c R) : HeapV w V S := h.s.right.heapV h.ok
theorem GMem.from_ (h : GMem w G V S c R) : w.cell? ⟨G.bf, 0, none⟩ = some (.pointer (some ⟨V.g, 1 + V.inn * 2, none⟩)) := by
  have := h.s.left; unfold gcMem at this; exact (this.left.cell 0).trans rfl
theorem GMem.gonev (h : GMem w G V S c R) : w.cell? ⟨G.bg, 0, none⟩ = some (.slice (some ⟨G.br, 0, none⟩) S.ws.length S.ws.length) := by
  have := h.s.left; unfold gcMem at this; exact (this.right.left.cell 0).trans rfl
theorem GMem.hv (h : GMem w G V S c R) : w.cell? ⟨G.bh, 0, none⟩ = some (.pointer (some ⟨V.g, 0, none⟩)) := by
  have := h.s.left; unfold gcMem at this; exact (this.right.right.right.left.cell 0).trans rfl
theorem GMem.gone_sat (h : GMem w G V S c R) : sat w (row 22 1 G.br S.ws.length (c.gone.map u64)) := by
  have := h.s.left; unfold gcMem at this; exact this.right.right.right.right.left
theorem GMem.goneAt (h : GMem w G V S c R) {k : Nat} (hk : k < S.ws.length) : w.cell? ⟨G.br, k, none⟩ = some (.int .u64 (c.gone.getD k 0)) ∧ w.frozen? ⟨G.br, k, none⟩ = false := by
  have h1 : sat w (row 22 1 G.br S.ws.length (c.gone.map u64) * emp) := by rw [HP.mul_emp]; exact h.gone_sat
  exact ⟨h1.row_cell (by rw [List.getElem?_map, getD_get (by rw [h.gok.gone]; exact hk)]; rfl), h1.row_frozen k⟩

def CopyPost (G : GV) (V : HV) (S : HS) (c : CS) (x : Int) (R : HP) (w : World) (e : Ending) (w' : World) : Prop :=
  e = .returned (.int .u64 (copy1 S c x).2) ∧ Below 0 w w' ∧ ∃ bw cw bb cb, GMem w' { G with bw := bw, cw := cw, bb := bb, cb := cb } V S (copy1 S c x).1 R

/-- What the laying of a copy leaves: gone is not told yet. -/
def LaidGc (G : GV) (V : HV) (S : HS) (c : CS) (k : Nat) (R : HP) (w : World) (e : Ending) (w' : World) : Prop :=
  e = .returned (.int .u64 (4 * c.tw.length)) ∧ Below 0 w w' ∧ ∃ bw cw bb cb, GMem w' { G with bw := bw, cw := cw, bb := bb, cb := cb } V S { tw := c.tw ++ (S.ws.drop k).take (sizeAt S.ws k), tb := c.tb ++ laid (sizeAt S.ws k), gone := c.gone } R

theorem GMem.lay_gc (h : GMem w G V S c R) (k cap : Nat) (hfit : k + sizeAt S.ws k ≤ S.ws.length) (hroom : c.tw.length + sizeAt S.ws k ≤ 2097152) :
    Calls Try.prog 89 #[.pointer (some ⟨G.bt, 0, none⟩), .slice (some ⟨V.bw, k, none⟩) (sizeAt S.ws k) cap] w (LaidGc G V S c k R w) := by
  have hs : sat w (blk G.bt (.cells #[.slice (some ⟨G.bw, 0, none⟩) c.tw.length G.cw, .slice (some ⟨G.bb, 0, none⟩) c.tb.length G.cb] 93 (0, 0)) * (row 22 1 G.bw G.cw (c.tw.map u64) * (row 4 1 G.bb G.cb (c.tb.map .bool) *
    (blk G.bf (.cells #[.pointer (some ⟨V.g, 1 + V.inn * 2, none⟩)] 94 (0, 0)) * (blk G.bg (.cells #[.slice (some ⟨G.br, 0, none⟩) S.ws.length S.ws.length] 35 (0, 0)) * (blk G.bh (.cells #[.pointer (some ⟨V.g, 0, none⟩)] 37 (0, 0)) * (row 22 1 G.br S.ws.length (c.gone.map u64) * (isHeap V S * R)))))))) := h.s.perm (by unfold gcMem; ac_rfl)
  have hw1 := hs.right.row_bounds
  have hb1 := hs.right.right.row_bounds
  simp only [List.length_map, Nat.mul_one] at hw1 hb1
  have hxl : ((S.ws.drop k).take (sizeAt S.ws k)).length = sizeAt S.ws k := by simp; omega
  have hpos : 0 < sizeAt S.ws k := by unfold sizeAt; omega
  refine (lay_any G.bt 0 G.bw G.cw G.bb G.cb V.bw k (sizeAt S.ws k) cap _ 93 c.tw c.tb ((S.ws.drop k).take (sizeAt S.ws k)) hs rfl rfl hw1.1 hb1.1 h.gok.len h.gok.pos hxl hpos hroom ?_).mono ?_
  · intro j x hx
    refine h.v.hw _ _ ?_
    rw [List.getElem?_take] at hx
    split at hx
    · rw [List.getElem?_drop] at hx; exact hx
    · cases hx
  · rintro e w' ⟨he, hb, bw', cw', bb', cb', hcw, hcb, hs'⟩
    rw [hxl] at hs'
    refine ⟨he, hb, bw', cw', bb', cb', ?_, h.ok, ⟨?_, ?_, h.gok.gone⟩⟩
    · refine hs'.perm ?_
      unfold gcMem
      simp only [List.length_append, hxl, laid_len _ hpos, h.gok.len, List.setIfInBounds_toArray, List.set_cons_zero, List.set_cons_succ]
      ac_rfl
    · simp only [List.length_append, hxl, laid_len _ hpos, h.gok.len]
    · simp only [List.length_append]; have := h.gok.pos; omega

theorem GMem.setGone (h : GMem w G V S c R) (k : Nat) (v : Int) : GMem (w.setCell ⟨G.br, k, none⟩ (.int .u64 v)) G V S { c with gone := c.gone.set k v } R := by
  have hs : sat w (row 22 1 G.br S.ws.length (c.gone.map u64) * (blk G.bf (.cells #[.pointer (some ⟨V.g, 1 + V.inn * 2, none⟩)] 94 (0, 0)) * (blk G.bg (.cells #[.slice (some ⟨G.br, 0, none⟩) S.ws.length S.ws.length] 35 (0, 0)) *
  (blk G.bt (.cells #[.slice (some ⟨G.bw, 0, none⟩) c.tw.length G.cw, .slice (some ⟨G.bb, 0, none⟩) c.tb.length G.cb] 93 (0, 0)) * (blk G.bh (.cells #[.pointer (some ⟨V.g, 0, none⟩)] 37 (0, 0)) *
  (row 22 1 G.bw G.cw (c.tw.map u64) * (row 4 1 G.bb G.cb (c.tb.map .bool) * (isHeap V S * R)))))))) := h.s.perm (by unfold gcMem; ac_rfl)
  have h2 := hs.row_set k (.int .u64 v)
  rw [show (c.gone.map u64).set k (.int .u64 v) = (c.gone.set k v).map u64 by rw [List.map_set]] at h2
  exact ⟨h2.perm (by unfold gcMem; ac_rfl), h.ok, h.gok.len, h.gok.pos, by simpa using h.gok.gone⟩

set_option maxHeartbeats 400000 in
theorem GMem.copy_out (h : GMem w G V S c R) (x : Int) (x0 : 0 ≤ x) (x1 : x < 18446744073709551616) (hx : S.is x = false) :
    Calls Try.prog 87 #[.int .u64 x, .pointer (some ⟨G.bf, 0, none⟩), .pointer (some ⟨G.bg, 0, none⟩), .pointer (some ⟨G.bt, 0, none⟩), .pointer (some ⟨G.bh, 0, none⟩)] w (CopyPost G V S c x R w) := by
  have hf := h.from_
  have hc : copy1 S c x = (c, x) := by unfold copy1; rw [if_neg (by rw [hx]; simp)]
  have HC := Lib.hid hc
  have HX := Lib.hid hx
  clear hc hx
  go_enter Try.func87, Try.ntmps87
  go_wp2_with fail
  refine (is_any V.g (1 + V.inn * 2) V.bb S.bs.length V.cb S.bs x w h.v.cb rfl (by rw [h.ok.wf.len]; exact h.v.len) h.v.hb x0 x1).mono ?_
  rintro e w' ⟨rfl, n, rfl⟩
  rw [show isB S.bs x = false from HX.out]
  go_wp2_with fail
  go_ret
  unfold CopyPost
  rw [HC.out]
  exact ⟨rfl, drewN_below0 _ _, G.bw, G.cw, G.bb, G.cb, h.drewN n⟩

set_option maxHeartbeats 400000 in
theorem GMem.copy_old (h : GMem w G V S c R) (x : Int) (x0 : 0 ≤ x) (x1 : x < 18446744073709551616) (hx : S.is x = true) (hg : ¬ c.gone.getD (x / 4).toNat 0 = 0) :
    Calls Try.prog 87 #[.int .u64 x, .pointer (some ⟨G.bf, 0, none⟩), .pointer (some ⟨G.bg, 0, none⟩), .pointer (some ⟨G.bt, 0, none⟩), .pointer (some ⟨G.bh, 0, none⟩)] w (CopyPost G V S c x R w) := by
  have hf := h.from_
  have hgv := h.gonev
  obtain ⟨hlt, hj, hm, hb⟩ := h.v.word hx
  have hl := h.v.len
  have hlt2 : x / 4 < (S.ws.length : Int) := by omega
  have hga := (h.goneAt hlt).1
  have hc : copy1 S c x = (c, c.gone.getD (x / 4).toNat 0) := by unfold copy1; rw [if_pos hx, if_neg hg]
  generalize c.gone.getD (x / 4).toNat 0 = y at hc hg hga
  have hg2 : (y == 0) = false := by rw [beq_eq_false_iff_ne]; exact hg
  have HC := Lib.hid hc
  have HX := Lib.hid hx
  clear hc hx hj hm hg
  go_enter Try.func87, Try.ntmps87
  go_wp2_with fail
  refine (is_any V.g (1 + V.inn * 2) V.bb S.bs.length V.cb S.bs x w h.v.cb rfl (by rw [h.ok.wf.len]; exact h.v.len) h.v.hb x0 x1).mono ?_
  rintro e w' ⟨rfl, n, rfl⟩
  rw [show isB S.bs x = true from HX.out]
  go_wp2_with fail
  go_ret
  unfold CopyPost
  rw [HC.out]
  exact ⟨rfl, drewN_below0 _ _, G.bw, G.cw, G.bb, G.cb, h.drewN n⟩

set_option maxHeartbeats 400000 in
theorem GMem.copy_new (h : GMem w G V S c R) (x : Int) (x0 : 0 ≤ x) (x1 : x < 18446744073709551616) (hx : S.is x = true) (hg : c.gone.getD (x / 4).toNat 0 = 0) (hroom : c.tw.length + sizeAt S.ws (x / 4).toNat ≤ 2097152) :
    Calls Try.prog 87 #[.int .u64 x, .pointer (some ⟨G.bf, 0, none⟩), .pointer (some ⟨G.bg, 0, none⟩), .pointer (some ⟨G.bt, 0, none⟩), .pointer (some ⟨G.bh, 0, none⟩)] w (CopyPost G V S c x R w) := by
  have hf := h.from_
  have hgv := h.gonev
  have hhv := h.hv
  obtain ⟨hlt, hj, hm, hb⟩ := h.v.word hx
  have hl := h.v.len
  have hlt2 : x / 4 < (S.ws.length : Int) := by omega
  have hga := (h.goneAt hlt).1
  rw [hg] at hga
  have hc : copy1 S c x = (c.put S (x / 4).toNat, 4 * (c.tw.length : Int)) := by unfold copy1; rw [if_pos hx, if_pos hg]
  have hcw := h.v.cw
  have HC := Lib.hid hc
  have HX := Lib.hid hx
  clear hc hx hj hm hg
  go_enter Try.func87, Try.ntmps87
  go_wp2_with fail
  refine (is_any V.g (1 + V.inn * 2) V.bb S.bs.length V.cb S.bs x w h.v.cb rfl (by rw [h.ok.wf.len]; exact h.v.len) h.v.hb x0 x1).mono ?_
  rintro e w' ⟨rfl, n, rfl⟩
  rw [show isB S.bs x = true from HX.out]
  go_wp2_with fail
  have htb := tagH_bd (S.head x)
  have hrb := rawH_bd (S.head x)
  have ht0 : 0 ≤ S.tag x ∧ S.tag x < 16777216 := by unfold HS.tag; omega
  have hr0 : 0 ≤ S.raw x ∧ S.raw x < 16777216 := by unfold HS.raw; omega
  obtain ⟨hbk, hbh⟩ := h.v.begins HX.out
  have hfit := h.ok.wf.fits _ hbk
  rw [hbh] at hfit
  have hfit2 : x / 4 + 1 + S.tag x + S.raw x ≤ (S.ws.length : Int) := by unfold HS.tag HS.raw; omega
  have s1 : IntKind.i64.wrap (x / 4 + 1) = x / 4 + 1 := IntWalk.i64_in _ (by omega)
  have s2 : IntKind.i64.wrap (x / 4 + 1 + S.tag x) = x / 4 + 1 + S.tag x := IntWalk.i64_in _ (by omega)
  have s3 : IntKind.i64.wrap (x / 4 + 1 + S.tag x + S.raw x) = x / 4 + 1 + S.tag x + S.raw x := IntWalk.i64_in _ (by omega)
  have hwc := h.v.wc
  have b1 : 0 ≤ x / 4 := by omega
  have b2 : x / 4 ≤ x / 4 + 1 + S.tag x + S.raw x := by omega
  have b3 : x / 4 + 1 + S.tag x + S.raw x ≤ (V.cw : Int) := by omega
  have HFIT := Lib.hid (And.intro hbk (And.intro hbh hfit))
  clear htb hrb hbk hbh hfit
  have hne : ¬ V.cw = (x / 4).toNat := by omega
  have hlay : ∀ m, Calls Try.prog 89 #[.pointer (some ⟨G.bt, 0, none⟩), .slice (some ⟨V.bw, (x / 4).toNat, none⟩) ((x / 4 + 1 + S.tag x + S.raw x).toNat - (x / 4).toNat) (V.cw - (x / 4).toNat)] (w.drewN m) (LaidGc G V S c (x / 4).toNat R (w.drewN m)) := by
    intro m
    have hsz : (x / 4 + 1 + S.tag x + S.raw x).toNat - (x / 4).toNat = sizeAt S.ws (x / 4).toNat := by
      unfold sizeAt; rw [HFIT.out.2.1]; unfold HS.tag HS.raw at *; omega
    rw [hsz]
    exact (h.drewN m).lay_gc (x / 4).toNat _ (by have := HFIT.out.2.2; unfold sizeAt; rw [HFIT.out.2.1]; omega) hroom
  have HLAY := Lib.hid hlay
  clear hlay
  go_region_held3 (fun w' => w'.cell? ⟨G.bg, 0, none⟩ = some (.slice (some ⟨G.br, 0, none⟩) S.ws.length S.ws.length) ∧ w'.cell? ⟨G.bf, 0, none⟩ = some (.pointer (some ⟨V.g, 1 + V.inn * 2, none⟩)) ∧ w'.cell? ⟨V.g, 1 + V.inn * 2, none⟩ = some (.slice (some ⟨V.bw, 0, none⟩) S.ws.length V.cw) ∧ w'.cell? ⟨G.bh, 0, none⟩ = some (.pointer (some ⟨V.g, 0, none⟩)))
    (first | go_keep | exact ⟨k1, k2, k3, k4⟩ | exact ⟨(h3.setGone _ _).gonev, (h3.setGone _ _).from_, (h3.setGone _ _).v.cw, (h3.setGone _ _).hv⟩)
    (first
      | (go_at_call 41; refine ((h.v.drewN _).Tagged x x0 x1).mono ?_; rintro e w' ⟨rfl, m, rfl⟩)
      | (go_at_call 71; refine ((h.v.drewN _).Raws x x0 x1).mono ?_; rintro e w' ⟨rfl, m, rfl⟩)
      | (go_at_call 89; refine (HLAY.out _).mono ?_; rintro e w3 ⟨rfl, hb3, bw', cw', bb', cb', h3⟩; have k1 := h3.gonev; have k2 := h3.from_; have k3 := h3.v.cw; have k4 := h3.hv; have k5 := (h3.goneAt hlt).1; have k6 := (h3.goneAt hlt).2))
  have h4 := h3.setGone (x / 4).toNat (4 * c.tw.length)
  have q1 := h4.gonev
  have q2 := (h4.goneAt hlt).1
  clear k1 k2 k3 k4 k5 k6
  go_wp2_with fail
  go_ret
  unfold CopyPost
  rw [HC.out]
  refine ⟨ret_u64 ?_, ((drewN_below0 _ _).trans hb3).setCell (Nat.zero_le _) _, bw', cw', bb', cb', h4⟩
  rw [List.getElem?_set_self (by rw [h.gok.gone]; exact hlt)]; rfl

theorem GMem.copy (h : GMem w G V S c R) (x : Int) (x0 : 0 ≤ x) (x1 : x < 18446744073709551616) (hroom : S.is x = true → c.gone.getD (x / 4).toNat 0 = 0 → c.tw.length + sizeAt S.ws (x / 4).toNat ≤ 2097152) :
    Calls Try.prog 87 #[.int .u64 x, .pointer (some ⟨G.bf, 0, none⟩), .pointer (some ⟨G.bg, 0, none⟩), .pointer (some ⟨G.bt, 0, none⟩), .pointer (some ⟨G.bh, 0, none⟩)] w (CopyPost G V S c x R w) := by
  cases hx : S.is x with
  | false => exact h.copy_out x x0 x1 hx
  | true =>
    by_cases hg : c.gone.getD (x / 4).toNat 0 = 0
    · exact h.copy_new x x0 x1 hx hg (hroom hx hg)
    · exact h.copy_old x x0 x1 hx hg
end
end Go.Proofs.Ytanjiecefioffaa
