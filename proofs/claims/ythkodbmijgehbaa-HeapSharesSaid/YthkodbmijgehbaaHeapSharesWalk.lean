/- HeapShares' walk. -/
import Derived.Test.YthkodbmijgehbaaRingEnd
import Derived.Test.YthkodbmijgehbaaGcWalk
import Derived.Test.YthkodbmijgehbaaSep3
namespace Go.Proofs.Ythkodbmijgehbaa
open Go.RowKit

def psL (i : Nat) : List Int := (List.range i).map fun j => 4 * ((5 + 7 * j : Nat) : Int)
theorem psL_succ (i : Nat) : psL (i + 1) = psL i ++ [4 * ((5 + 7 * i : Nat) : Int)] := by unfold psL; rw [List.range_succ, List.map_append]; rfl
theorem psL_len (i : Nat) : (psL i).length = i := by simp [psL]
theorem psL_get {i j : Nat} (h : j < i) : (psL i)[j]? = some (4 * ((5 + 7 * j : Nat) : Int)) := by unfold psL; rw [List.getElem?_map, List.getElem?_range h]; rfl

def SRel1 (w : World) (g n : Nat) (o i : Value) (wr : World) : Prop :=
  ∃ (k : Nat) (V : HV) (S : HS), k ≤ n ∧ i = .int .i64 k ∧ V.g = g ∧ Ring n k 0 S ∧ HeapW wr V S (own 28 1 o k ((psL k).map u64) * whole w) ∧ Below 0 w wr
def SRel2 (w : World) (g n bp cp : Nat) (i : Value) (wr : World) : Prop :=
  ∃ (k : Nat) (V : HV) (S : HS), k ≤ n ∧ i = .int .i64 k ∧ V.g = g ∧ Ring n n k S ∧ HeapW wr V S (row 28 1 bp cp ((psL n).map u64) * whole w) ∧ Below 0 w wr
def SRel3 (w : World) (g n x bl : Nat) (l : List Int) (S : HS) (t : Nat → Int) (v i : Value) (wr : World) : Prop :=
  ∃ (k : Nat) (V : HV), k ≤ n ∧ i = .int .i64 k ∧ v = .int .u64 (t ((x + k) % n)) ∧ V.g = g ∧ HeapW wr V S (row 28 1 bl 3 (l.map u64) * whole w) ∧ Below 0 w wr

set_option maxHeartbeats 2000000 in
set_option maxRecDepth 100000 in
theorem heapShares_walk (a0 a1 a2 : Int) (w : World) :
    Calls Try.prog 5 #[.int .i64 a0, .int .i64 a1, .int .i64 a2] w fun e w' => e = .returned (.bool true) ∧ Below w.heap.size w w' := by
  obtain ⟨i0, hi, hz0, hz1, hz2⟩ := info_parts info_u64
  have H1 := Lib.hid (And.intro hi (And.intro hz0 (And.intro hz1 hz2)))
  clear hi hz0 hz1 hz2
  go_enter Try.func5, Try.ntmps5
  go_wp2_with fail
  refine (place_any a0 30 w (by decide) (by decide)).mono ?_
  rintro e w' ⟨rfl, rfl⟩
  have hp := place_bd a0 30 (by decide)
  go_wp2_with fail
  obtain ⟨n, hn⟩ : ∃ n : Nat, 1 + place a0 30 = n := ⟨(1 + place a0 30).toNat, by omega⟩
  rw [hn]
  have hn1 : 1 ≤ n := by omega
  have hn2 : n ≤ 30 := by omega
  clear hn hp
  refine (New_good 300 (sat_whole w) (by decide) (by decide)).mono ?_
  rintro e w1 ⟨V, rfl, h1, hb1⟩
  obtain ⟨g, hg⟩ : ∃ g, V.g = g := ⟨_, rfl⟩
  rw [hg]
  have HG := Lib.hid hg
  clear hg
  go_wp2_with fail
  go_loopw [10, 11] (SRel1 w g n) (fun _ i _ => n - (intOf i).toNat)
  case atStart => exact ⟨0, V, HS.new 300, Nat.zero_le _, rfl, HG.out, Ring.new n, ⟨(h1.s.nil_own (e := 28) (sz := 1)).perm (by unfold psL; simp only [List.range_zero, List.map_nil]; ac_rfl), h1.ok⟩, hb1⟩
  case round =>
    clear h1 hb1 HG
    obtain ⟨k, V, S, hk, rfl, rfl, hR, h2, hb2⟩ := hrel
    by_cases hlt : k < n
    · obtain ⟨r1, r2, r3, r4, r5⟩ := hR.more (by omega)
      have HR := Lib.hid (And.intro r1 (And.intro r2 (And.intro r3 (And.intro r4 r5))))
      clear r1 r2 r3 r4 r5
      go_wp2_with fail
      refine (h2.Alloc 5 1 2).mono ?_
      rintro e w3 ⟨rfl, hb3, V3, hg3, h3⟩
      rw [← hg3, HR.out.1]
      simp only [if_true]
      have HG3 := Lib.hid hg3
      clear hg3
      go_wp2_with fail
      refine (h3.Alloc 1 1 1).mono ?_
      rintro e w4 ⟨rfl, hb4, V4, hg4, h4⟩
      rw [← hg4, HR.out.2.1, HR.out.2.2.1]
      simp only [if_true]
      have hgg := Lib.hid (hg4.trans HG3.out)
      clear hg4
      have s1 : IntKind.i64.wrap ((k : Int) + 100) = (k : Int) + 100 := IntWalk.i64_in _ (by omega)
      have s2 : IntKind.u64.wrap ((k : Int) + 100) = (k : Int) + 100 := by rw [IntKind.wrap_u64]; omega
      go_wp2_with fail
      rw [show (4 * (5 + 7 * (k : Int))) = 4 * ((5 + 7 * k : Nat) : Int) by omega]
      have hsr := h4.SetRaw (4 * ((5 + 7 * k : Nat) : Int)) 0 ((k : Int) + 100) (by omega) (by omega) (by omega) (by omega)
      have hR5 := HR.out.2.2.2.2
      rw [HR.out.2.2.2.1] at hsr
      generalize ((S.alloc 5 1 2).alloc 1 1 1).setRaw (4 * ((5 + 7 * k : Nat) : Int)) 0 ((k : Int) + 100) = S5 at hsr hR5
      clear HR h4 h3
      generalize hpp : (4 * ((5 + 7 * k : Nat) : Int)) = p at hsr ⊢
      have HP := Lib.hid hpp
      have hp0 : 0 ≤ p ∧ p < 4000 := by omega
      clear hpp
      with_reducible refine hsr.mono ?_
      rintro e w5 ⟨rfl, h5, hb5⟩
      go_wp2_with (at_builtin; refine halt ?_)
      refine goon ?_
      have hs6 : sat (w5.alloc (.cells #[.int .u64 p] 28)) (own 28 1 u10 k ((psL k).map Go.Proofs.Ythkodbmijgehbaa.u64) * (blk w5.heap.size (.cells #[.int .u64 p] 28 (0, 0)) * (isHeap V4 S5 * whole w))) := (h5.s.alloc _).perm (by ac_rfl)
      have hb6 : Below 0 w (w5.alloc (.cells #[.int .u64 p] 28)) := (((hb2.trans hb3).trans hb4).trans hb5).trans (Below.zero_alloc _ _)
      have hnew : (w5.alloc (.cells #[.int .u64 p] 28)).cell? ⟨w5.heap.size, 0, none⟩ = some (.int .u64 p) := (hs6.right.left.cell 0).trans rfl
      generalize w5.alloc (.cells #[.int .u64 p] 28) = w6 at *
      obtain ⟨hi, hz0, hz1, hz2⟩ := H1.out
      refine wpList_append_one rfl (.tmp 58) (.tmp 60) 33 rfl 28 i0 (.int .u64 0) 8 Try.underlying33 hi hz0 hz1 hz2 rfl u10 k ((psL k).map Go.Proofs.Ythkodbmijgehbaa.u64) rfl _ w5.heap.size (.int .u64 p) rfl ?_ hs6 hnew rfl (by omega) (by unfold maxLen; omega)
      clear hi hz0 hz1 hz2 hnew hs6
      intro v' w9 hs9 hb9
      go_wp2_with fail
      rw [hgg.out]
      go_roundw
      case rel =>
        refine ⟨k + 1, V4, S5, by omega, by go_num, hgg.out, hR5, ⟨?_, h5.ok⟩, hb6.trans hb9⟩
        have h10 : sat w9 ((isHeap V4 S5 * (own 28 1 v' (k + 1) ((psL k).map Go.Proofs.Ythkodbmijgehbaa.u64 ++ [.int .u64 p]) * whole w)) * blk w5.heap.size (.cells #[.int .u64 p] 28 (0, 0))) := hs9.perm (by ac_rfl)
        rw [psL_succ, List.map_append]
        simp only [List.map_cons, List.map_nil, Go.Proofs.Ythkodbmijgehbaa.u64]
        rw [HP.out]
        exact h10.left
      case measure => simp [intOf]; omega
    · obtain rfl : k = n := by omega
      have hge : (k : Int) ≤ k := by omega
      have hsO : sat wr (own 28 1 u10 k ((psL k).map Go.Proofs.Ythkodbmijgehbaa.u64) * (isHeap V S * whole w)) := h2.s.perm (by ac_rfl)
      obtain ⟨bp, cp, rfl, hnc, _, hs3⟩ := hsO.own_some (by omega)
      have h3 : HeapW wr V S (row 28 1 bp cp ((psL k).map Go.Proofs.Ythkodbmijgehbaa.u64) * whole w) := ⟨hs3.perm (by ac_rfl), h2.ok⟩
      clear hsO hs3 h2
      go_wp2_with fail
      go_loopw [14] (SRel2 w V.g k bp cp) (fun i _ => k - (intOf i).toNat)
      case atStart => exact ⟨0, V, S, Nat.zero_le _, rfl, rfl, hR, h3, hb2⟩
      case round =>
        generalize V.g = g at *
        clear h3 hR hb2
        obtain ⟨m, V, S, hm, rfl, rfl, hR, h4, hb4⟩ := hrel
        by_cases hmk : m < k
        · obtain ⟨l1, l2⟩ := hR.link hmk
          have hrow : sat wr (row 28 1 bp cp ((psL k).map Go.Proofs.Ythkodbmijgehbaa.u64) * (isHeap V S * whole w)) := h4.s.perm (by ac_rfl)
          have hq : (m + 1) % k < k := Nat.mod_lt _ (by omega)
          have e1 : ((psL k).map Go.Proofs.Ythkodbmijgehbaa.u64)[m]? = some (.int .u64 (4 * ((5 + 7 * m : Nat) : Int))) := by rw [List.getElem?_map, psL_get hmk]; rfl
          have e2 : ((psL k).map Go.Proofs.Ythkodbmijgehbaa.u64)[(m + 1) % k]? = some (.int .u64 (4 * ((5 + 7 * ((m + 1) % k) : Nat) : Int))) := by rw [List.getElem?_map, psL_get hq]; rfl
          have q1 := hrow.row_cell e1
          have q2 := hrow.row_cell e2
          have s1 : IntKind.i64.wrap ((m : Int) + 1) = (m : Int) + 1 := IntWalk.i64_in _ (by omega)
          have s2 : ((m : Int) + 1).tmod (k : Int) = (((m + 1) % k : Nat) : Int) := by rw [Int.tmod_eq_emod_of_nonneg (by omega)]; norm_cast
          have hset := fun (j : Nat) => (h4.drewN j).Set (4 * ((5 + 7 * m : Nat) : Int)) 0 (4 * ((5 + 7 * ((m + 1) % k) : Nat) : Int)) (by omega) (by omega) (by omega) (by omega)
          rw [l1] at hset
          generalize S.set (4 * ((5 + 7 * m : Nat) : Int)) 0 (4 * ((5 + 7 * ((m + 1) % k) : Nat) : Int)) = S5 at hset l2
          generalize (4 * ((5 + 7 * ((m + 1) % k) : Nat) : Int)) = p2 at hset q2 e2
          generalize (4 * ((5 + 7 * m : Nat) : Int)) = p1 at hset q1 e1
          generalize (m + 1) % k = q at *
          have s3 : IntKind.i64.wrap (q : Int) = q := IntWalk.i64_in _ (by omega)
          have s4 : ((k : Int) == 0) = false := by rw [beq_eq_false_iff_ne]; omega
          have s5 : ¬ k = 0 := by omega
          have HS := Lib.hid hset
          have HE := Lib.hid (And.intro e1 e2)
          clear hset hrow l1 e1 e2
          go_wp2_with fail
          go_region_held3 (fun w' => w'.cell? ⟨bp, m, none⟩ = some (.int .u64 p1) ∧ w'.cell? ⟨bp, q, none⟩ = some (.int .u64 p2))
            (first | go_keep | exact ⟨k1, k2⟩)
            (first
              | (go_at_call 24; refine (HS.out 1).mono ?_; rintro e w5 ⟨rfl, h5, hb5⟩; have k1 := h5.s.right.row_cell HE.out.1; have k2 := h5.s.right.row_cell HE.out.2))
          go_wp2_with fail
          go_roundw
          case rel => exact ⟨m + 1, V, S5, by omega, by go_num, rfl, l2, h5, (hb4.trans (drewN_below0 _ 1)).trans hb5⟩
          case measure => simp [intOf]; omega
        · obtain rfl : m = k := by omega
          have hge2 : (m : Int) ≤ m := by omega
          clear hmk hm
          go_wp2_with fail
          refine (place_any a1 m _ (by omega) (by omega)).mono ?_
          rintro e w' ⟨rfl, rfl⟩
          obtain ⟨x, hx⟩ : ∃ x : Nat, place a1 m = x := ⟨(place a1 m).toNat, by have := place_bd a1 m (by omega); omega⟩
          have hxm : x < m := by have := place_bd a1 m (by omega); omega
          rw [hx]
          clear hx
          go_wp2_with fail
          refine (place_any a2 m _ (by omega) (by omega)).mono ?_
          rintro e w' ⟨rfl, rfl⟩
          obtain ⟨y, hy⟩ : ∃ y : Nat, place a2 m = y := ⟨(place a2 m).toNat, by have := place_bd a2 m (by omega); omega⟩
          have hym : y < m := by have := place_bd a2 m (by omega); omega
          rw [hy]
          clear hy
          have hend := hR.collected h4.ok.wf hn2 hxm hym
          have hrow : sat wr (row 28 1 bp cp ((psL m).map Go.Proofs.Ythkodbmijgehbaa.u64) * (isHeap V S * whole w)) := h4.s.perm (by ac_rfl)
          have e1 : ((psL m).map Go.Proofs.Ythkodbmijgehbaa.u64)[x]? = some (.int .u64 (4 * ((5 + 7 * x : Nat) : Int))) := by rw [List.getElem?_map, psL_get hxm]; rfl
          have e2 : ((psL m).map Go.Proofs.Ythkodbmijgehbaa.u64)[y]? = some (.int .u64 (4 * ((5 + 7 * y : Nat) : Int))) := by rw [List.getElem?_map, psL_get hym]; rfl
          have q1 := hrow.row_cell e1
          have q2 := hrow.row_cell e2
          have p0 : 0 ≤ (4 * ((5 + 7 * x : Nat) : Int)) ∧ (4 * ((5 + 7 * x : Nat) : Int)) < 18446744073709551616 := by omega
          have p1 : 0 ≤ (4 * ((5 + 7 * y : Nat) : Int)) ∧ (4 * ((5 + 7 * y : Nat) : Int)) < 18446744073709551616 := by omega
          generalize (4 * ((5 + 7 * x : Nat) : Int)) = px at hend q1 p0 e1
          generalize (4 * ((5 + 7 * y : Nat) : Int)) = py at hend q2 p1 e2
          generalize ringTo S [px, 9, py] = t at hend
          have hT := hR.times
          have HE := Lib.hid (And.intro e1 e2)
          clear hrow e1 e2
          -- the roots lie in a block of their own
          have hcol : Calls Try.prog 28 #[.pointer (some ⟨V.g, 0, none⟩), .slice (some ⟨wr.heap.size, 0, none⟩) 3 3] (wr.drew.alloc (.cells #[.int .u64 px, .int .u64 9, .int .u64 py] 28))
              (CollectPost V S [px, 9, py] (row 28 1 wr.heap.size 3 (([px, 9, py] : List Int).map Go.Proofs.Ythkodbmijgehbaa.u64) * (row 28 1 bp cp ((psL m).map Go.Proofs.Ythkodbmijgehbaa.u64) * whole w)) (wr.drew.alloc (.cells #[.int .u64 px, .int .u64 9, .int .u64 py] 28))) := by
            have h5 : HeapW (wr.drew.alloc (.cells #[.int .u64 px, .int .u64 9, .int .u64 py] 28)) V S (row 28 1 wr.heap.size 3 (([px, 9, py] : List Int).map Go.Proofs.Ythkodbmijgehbaa.u64) * (row 28 1 bp cp ((psL m).map Go.Proofs.Ythkodbmijgehbaa.u64) * whole w)) := by
              refine ⟨?_, h4.ok⟩
              have h6 := (h4.s.drew.alloc (.cells #[.int .u64 px, .int .u64 9, .int .u64 py] 28))
              have h7 : sat _ (blk wr.heap.size (.cells #[.int .u64 px, .int .u64 9, .int .u64 py] 28 (0, 0)) * ((isHeap V S * whole w) * row 28 1 bp cp ((psL m).map Go.Proofs.Ythkodbmijgehbaa.u64))) := h6.perm (by ac_rfl)
              have h8 : sat _ (row 28 1 wr.heap.size 3 (([px, 9, py] : List Int).map Go.Proofs.Ythkodbmijgehbaa.u64) * ((isHeap V S * whole w) * row 28 1 bp cp ((psL m).map Go.Proofs.Ythkodbmijgehbaa.u64))) := h7.shut_row (cap := 3) (sz := 1) rfl (by simp) (by unfold maxLen; omega) rfl
              exact h8.perm (by ac_rfl)
            refine h5.Collect (some ⟨wr.heap.size, 0, none⟩) 3 [px, 9, py] ?_ ?_ (by simp) (by omega)
            · intro w' hs' j z hz
              refine ⟨_, rfl, ?_⟩
              have hc := hs'.row_cell (j := j) (v := .int .u64 z) (by rw [List.getElem?_map, hz]; rfl)
              have ha : ((⟨wr.heap.size, 0, none⟩ : Addr).add j) = ⟨wr.heap.size, j, none⟩ := by unfold Addr.add; split <;> simp_all
              rw [ha]; exact hc
            · intro z hz
              simp only [List.mem_cons, List.not_mem_nil, or_false] at hz
              rcases hz with rfl | rfl | rfl <;> omega
          have HCOL := Lib.hid hcol
          clear hcol
          go_wp2_with fail
          go_region_held3 (fun w' => w'.cell? ⟨bp, x, none⟩ = some (.int .u64 px) ∧ w'.cell? ⟨bp, y, none⟩ = some (.int .u64 py))
            (first | go_keep | exact ⟨k1, k2⟩)
            (first
              | (go_at_call 28; refine (HCOL.out).mono ?_; rintro e w5 ⟨bl, V5, rfl, hg5, h5, hb5⟩; have k1 := h5.s.right.right.right.row_cell HE.out.1; have k2 := h5.s.right.right.right.row_cell HE.out.2))
          have hb6 : Below 0 w w5 := ((hb4.trans (drewN_below0 _ 1)).trans (Below.zero_alloc _ _)).trans hb5
          have h6 : HeapW w5 V5 (S.collect [px, 9, py]) (row 28 1 bl 3 ((S.moved [px, 9, py]).map Go.Proofs.Ythkodbmijgehbaa.u64) * whole w) := by
            refine ⟨?_, h5.ok⟩
            have h7 : sat w5 ((isHeap V5 (S.collect [px, 9, py]) * (row 28 1 bl 3 ((S.moved [px, 9, py]).map Go.Proofs.Ythkodbmijgehbaa.u64) * whole w)) * (row 28 1 wr.heap.size 3 (([px, 9, py] : List Int).map Go.Proofs.Ythkodbmijgehbaa.u64) * row 28 1 bp cp ((psL m).map Go.Proofs.Ythkodbmijgehbaa.u64))) := h5.s.perm (by simp only [List.length_cons, List.length_nil, Nat.zero_add]; ac_rfl)
            exact h7.left
          rename_i hHeld
          clear hHeld k1 k2 HCOL h5 hb5 h4 hb4 q1 q2 HE hR hT
          generalize S.collect [px, 9, py] = S' at *
          generalize S.moved [px, 9, py] = l at *
          have hout := hend.out
          subst hout
          have hrow : sat w5 (row 28 1 bl 3 (([t x, 9, t y] : List Int).map Go.Proofs.Ythkodbmijgehbaa.u64) * (isHeap V5 S' * whole w)) := h6.s.perm (by ac_rfl)
          have c0 : w5.cell? ⟨bl, 0, none⟩ = some (.int .u64 (t x)) := hrow.row_cell rfl
          have c1 : w5.cell? ⟨bl, 1, none⟩ = some (.int .u64 9) := hrow.row_cell rfl
          have c2 : w5.cell? ⟨bl, 2, none⟩ = some (.int .u64 (t y)) := hrow.row_cell rfl
          have e1 : (t x == t y) = decide (x = y) := by rw [Bool.eq_iff_iff, beq_iff_eq, decide_eq_true_eq]; exact hend.inj x y hxm hym
          have e2 : ((x : Int) == (y : Int)) = decide (x = y) := by rw [Bool.eq_iff_iff, beq_iff_eq, decide_eq_true_eq]; omega
          have s1 : IntKind.i64.wrap (3 * (m : Int)) = 3 * (m : Int) := IntWalk.i64_in _ (by omega)
          have s2 : IntKind.i64.wrap (1 + 3 * (m : Int)) = 1 + 3 * (m : Int) := IntWalk.i64_in _ (by omega)
          have hlen : (S'.ws.length : Int) = 1 + 3 * (m : Int) := by have := hend.len; omega
          have hus := h6.v.Used
          rw [hlen] at hus
          have HU := Lib.hid (fun j => ((h6.v.drewN j).Used))
          have HLEN := Lib.hid hlen
          have HEND := Lib.hid hend
          rw [← hg5]
          have HG5 := Lib.hid hg5
          clear hg5 hrow hlen hus hend
          generalize decide (x = y) = d at e1 e2
          go_wp2_with fail
          go_quiet ((go_at_call 21; have hU := HU.out; rw [HLEN.out] at hU; exact Calls.said (hU _)))
          have h7 := h6.drewN nq
          have hb7 : Below 0 w (w5.drewN nq) := hb6.trans (drewN_below0 _ _)
          generalize w5.drewN nq = w7 at *
          have hrow : sat w7 (row 28 1 bl 3 (([t x, 9, t y] : List Int).map Go.Proofs.Ythkodbmijgehbaa.u64) * (isHeap V5 S' * whole w)) := h7.s.perm (by ac_rfl)
          clear c0 c1 c2 e1 e2 s1 s2
          have c0 : w7.cell? ⟨bl, 0, none⟩ = some (.int .u64 (t x)) := hrow.row_cell rfl
          have hxx : (x + 0) % m = x := Nat.mod_eq_of_lt hxm
          go_wp2_with fail
          go_loopw [18, 19] (SRel3 w V5.g m x bl [t x, 9, t y] S' t) (fun _ i _ => m - (intOf i).toNat)
          case atStart => exact ⟨0, V5, Nat.zero_le _, rfl, by rw [hxx], rfl, h7, hb7⟩
          case round =>
            generalize V5.g = g at *
            clear h6 hb6 h7 hb7 hrow c0 HU HG5
            obtain ⟨k, V, hk, rfl, rfl, rfl, h4, hb4⟩ := hrel
            have hqm : (x + k) % m < m := Nat.mod_lt _ (by omega)
            have hrow : sat wr (row 28 1 bl 3 (([t x, 9, t y] : List Int).map Go.Proofs.Ythkodbmijgehbaa.u64) * (isHeap V S' * whole w)) := h4.s.perm (by ac_rfl)
            have c0 : wr.cell? ⟨bl, 0, none⟩ = some (.int .u64 (t x)) := hrow.row_cell rfl
            have c2 : wr.cell? ⟨bl, 2, none⟩ = some (.int .u64 (t y)) := hrow.row_cell rfl
            have e0 : ((x : Int) + (k : Int)).tmod (m : Int) = (((x + k) % m : Nat) : Int) := by rw [Int.tmod_eq_emod_of_nonneg (by omega)]; norm_cast
            by_cases hkm : k < m
            · have hbd := HEND.out.bd _ hqm
              have hraw := HEND.out.raw _ hqm
              have hget := HEND.out.get _ hqm
              have e1 : (t ((x + k) % m) == t y) = decide ((x + k) % m = y) := by rw [Bool.eq_iff_iff, beq_iff_eq, decide_eq_true_eq]; exact HEND.out.inj _ y hqm hym
              have e2 : ((((x + k) % m : Nat) : Int) == (y : Int)) = decide ((x + k) % m = y) := by rw [Bool.eq_iff_iff, beq_iff_eq, decide_eq_true_eq]; omega
              have hnx : ((x + k) % m + 1) % m = (x + (k + 1)) % m := by rw [Nat.mod_add_mod]; rfl
              rw [hnx] at hget
              generalize decide ((x + k) % m = y) = d at e1 e2
              generalize (x + k) % m = q at *
              have s1 : IntKind.i64.wrap ((x : Int) + (k : Int)) = (x : Int) + k := IntWalk.i64_in _ (by omega)
              have s2 : IntKind.i64.wrap ((q : Int) + 100) = (q : Int) + 100 := IntWalk.i64_in _ (by omega)
              have s3 : IntKind.u64.wrap ((q : Int) + 100) = (q : Int) + 100 := by rw [IntKind.wrap_u64]; omega
              have s4 : IntKind.i64.wrap (q : Int) = q := IntWalk.i64_in _ (by omega)
              have s5 : ((m : Int) == 0) = false := by rw [beq_eq_false_iff_ne]; omega
              have HX := Lib.hid (And.intro hget hnx)
              clear hget hnx
              generalize t q = tq at *
              go_wp2_with fail
              refine (h4.v.Raw tq 0 hbd.1 hbd.2).mono ?_
              rintro e w8 ⟨rfl, j1, rfl⟩
              rw [hraw]
              have c3 : (wr.drewN j1).cell? ⟨bl, 2, none⟩ = some (.int .u64 (t y)) := c2
              go_wp2_with fail
              have h5 := h4.drewN j1
              have hb5 : Below 0 w (wr.drewN j1) := hb4.trans (drewN_below0 _ _)
              clear c0 c2
              generalize wr.drewN j1 = w8 at *
              go_quiet (fail)
              have h6 := h5.drewN nq
              have hb6 : Below 0 w (w8.drewN nq) := hb5.trans (drewN_below0 _ _)
              clear c3
              generalize w8.drewN nq = w9 at *
              go_wp2_with fail
              refine (h6.v.Get tq 0 hbd.1 hbd.2).mono ?_
              rintro e w10 ⟨rfl, j2, rfl⟩
              rw [HX.out.1]
              go_wp2_with fail
              go_roundw
              case rel => exact ⟨k + 1, V, by omega, by go_num, rfl, rfl, h6.drewN j2, hb6.trans (drewN_below0 _ _)⟩
              case measure => simp [intOf]; omega
            · obtain rfl : k = m := by omega
              have hge3 : (k : Int) ≤ k := by omega
              have hxk : (x + k) % k = x := by rw [Nat.add_mod_right, Nat.mod_eq_of_lt hxm]
              rw [hxk]
              go_wp2_with fail
              refine (awake_any wr h4.s).mono ?_
              rintro e w8 ⟨rfl, h5, hb5⟩
              go_wp2_with fail
              go_ret
              exact ⟨rfl, below_of_whole' h5.right.right (hb4.trans hb5)⟩
end Go.Proofs.Ythkodbmijgehbaa
