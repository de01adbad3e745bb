/- HeapGraphs' walk. -/
import Derived.Test.YthkodbmijgehbaaHeapGraphsRel
namespace Go.Proofs.Ythkodbmijgehbaa
open Go.RowKit

set_option maxHeartbeats 4000000 in
set_option maxRecDepth 100000 in
theorem heapGraphs_walk (W : World) (n : Int) (ao : Option Addr) (len cap : Nat) (zs : List OpD) (ra : Option Addr) (rl rc : Nat) (rs : List Int) (hz : IsOps W ao len zs) (hr : IsRowB .i64 W ra rl rc rs) (hsm : rl ≤ 1048576) :
    Calls Try.prog 6 #[.int .i64 n, .slice ao len cap, .slice ra rl rc] W fun e w' => e = .returned (.bool true) ∧ Below W.heap.size W w' := by
  have hrl := hr.bd
  have hre := hr.eq
  subst hre
  have HRs := Lib.hid hr
  clear hr
  obtain ⟨i0, hi, hz0, hz1, hz2⟩ := info_parts info_u64
  have H1 := Lib.hid (And.intro hi (And.intro hz0 (And.intro hz1 hz2)))
  obtain ⟨j0, hj, hy0, hy1, hy2⟩ := info_parts info_pair
  have H2 := Lib.hid (And.intro hj (And.intro hy0 (And.intro hy1 hy2)))
  clear hi hz0 hz1 hz2 hj hy0 hy1 hy2
  go_enter Try.func6, Try.ntmps6
  go_wp2_with fail
  refine (grown_any W n ao len cap zs hz).mono ?_
  rintro e w1 ⟨O, V, V2, S, rfl, hO, ht, hb1⟩
  go_wp2_with fail
  go_loopw [8, 9] (LRel W O V V2 S rs) (fun _ i _ => rs.length - (intOf i).toNat)
  case atStart => exact ⟨0, Nat.zero_le _, rfl, hO.nil, hb1⟩
  case round =>
    clear hO hb1
    obtain ⟨k, hk, rfl, hO, hb⟩ := hrel
    by_cases hlt : k < rs.length
    · obtain ⟨x, ex⟩ : ∃ x, rs[k]? = some x := ⟨_, List.getElem?_eq_getElem hlt⟩
      obtain ⟨ad, rfl, hcx⟩ := HRs.out.get hO.p.fr.right ex
      have htk := take_roots (obj := O.obj) ex
      have HE := Lib.hid (And.intro ex htk)
      clear ex htk
      go_wp2_with fail
      refine (hO.pick x).mono ?_
      rintro e w' ⟨rfl, j1, rfl⟩
      go_wp2_with (at_builtin; refine halt ?_)
      refine goon ?_
      have hO2 := hO.drewN j1
      have hb2 := hb.trans (drewN_below0 _ j1)
      clear hO hb hcx
      generalize pickP O.obj x = px at *
      have hs7 : sat ((wr.drewN j1).alloc (.cells #[.int .u64 px] 28)) _ := (hO2.list.alloc (.cells #[.int .u64 px] 28)).right
      have hnew : ((wr.drewN j1).alloc (.cells #[.int .u64 px] 28)).cell? ⟨wr.heap.size, 0, none⟩ = some (.int .u64 px) := ((hO2.list.alloc (.cells #[.int .u64 px] 28)).left.cell 0).trans rfl
      have hb7 : Below 0 W ((wr.drewN j1).alloc (.cells #[.int .u64 px] 28)) := hb2.trans (Below.zero_alloc _ _)
      generalize (wr.drewN j1).alloc (.cells #[.int .u64 px] 28) = w7 at *
      generalize wr.heap.size = bn at *
      obtain ⟨hi, hz0, hz1, hz2⟩ := H1.out
      refine wpList_append_one rfl (.tmp 38) (.tmp 45) 33 rfl 28 i0 (.int .u64 0) 8 Try.underlying33 hi hz0 hz1 hz2 rfl u8 k (((rootsOf O.obj rs).take k).map Go.Proofs.Ythkodbmijgehbaa.u64) rfl _ bn (.int .u64 px) rfl ?_ hs7 hnew rfl (by omega) (by unfold maxLen; omega)
      clear hi hz0 hz1 hz2 hnew hs7
      intro v' w9 hs9 hb9
      have HQ := Lib.hid (And.intro (hO2.unlist hs9) (hb7.trans hb9))
      clear hs9 hb9 hO2 hb2 hb7
      go_wp2_with fail
      go_roundw
      case rel => exact ⟨k + 1, by omega, by go_num, by rw [HE.out.2, List.map_append]; exact HQ.out.1, HQ.out.2⟩
      case measure => simp [intOf]; omega
    · obtain rfl : k = rs.length := by omega
      have hge : (rs.length : Int) ≤ rs.length := by omega
      rw [rootsOf_all] at hO
      have hLl := rootsOf_len O.obj rs
      have hLu := rootsOf_u hO.u rs
      have hLi := rootsOf_is hO.o rs
      generalize rootsOf O.obj rs = L at *
      obtain ⟨la, lc, rfl⟩ := own_val hO.list
      have hp := hO.p.p
      have HP := Lib.hid (And.intro hp hLl)
      have c0 := hO.p.c.1
      clear hp
      have HS0 := Lib.hid (And.intro hO.p.ok.s (And.intro hLu hLi))
      go_wp2_with fail
      refine hO.p.hw.Words.mono ?_
      rintro e w2 ⟨v2, rfl, hs2, hb2⟩
      obtain ⟨bw, cw, rfl, hnw, _, hr2⟩ := hs2.own_some hO.p.ok.wf.pos
      have h2 : HeapW w2 V S (isOn O * (row 28 1 bw cw (S.ws.map Go.Proofs.Ythkodbmijgehbaa.u64) * (isRef V2 S * (own 28 1 (.slice la rs.length lc) rs.length (L.map Go.Proofs.Ythkodbmijgehbaa.u64) * whole W)))) := ⟨hr2.perm (by ac_rfl), hO.p.ok⟩
      have hb2' := hb.trans hb2
      have hpw := hO.p.p
      have c0 := on_cell h2.s hpw
      clear hs2 hr2 hO hb hb2 hnw
      have hc := h2.Collect la lc L (fun w hs => own_reads (n := rs.length) HP.out.2 rfl hs.right.right.right) hLu (by omega) (by omega)
      have HPw := Lib.hid hpw
      clear hpw
      rw [hLl] at hc
      go_wp2_with fail
      refine hc.mono ?_
      rintro e w3 ⟨bo, V5, rfl, hg5, h5, hb3⟩
      have hml := moved_len S L
      rw [hLl]
      rw [hLl] at h5 hml
      have hb3' := hb2'.trans hb3
      have c0 := on_cell2 h5.s HPw.out
      rw [← hg5] at c0
      clear hc hb3 hb2' h2 hg5
      have HML := Lib.hid (And.intro hLl hml)
      clear hLl hml
      go_wp2_with fail
      refine h5.Words.mono ?_
      rintro e w4 ⟨v4, rfl, hs4, hb4⟩
      obtain ⟨bn, cn, rfl, hnw, _, hr4⟩ := hs4.own_some h5.ok.wf.pos
      have hs5 : sat w4 ((row 28 1 bw cw (S.ws.map Go.Proofs.Ythkodbmijgehbaa.u64) * (row 28 1 bn cn ((S.collect L).ws.map Go.Proofs.Ythkodbmijgehbaa.u64) * (row 28 1 bo rs.length ((S.moved L).map Go.Proofs.Ythkodbmijgehbaa.u64) * (own 28 1 (.slice la rs.length lc) rs.length (L.map Go.Proofs.Ythkodbmijgehbaa.u64) * whole W)))) * (isHeap V5 (S.collect L) * (isOn O * isRef V2 S))) := hr4.perm (by ac_rfl)
      have hs6 := hs5.left
      have hb4' := hb3'.trans hb4
      have hwl : S.ws.length ≤ 1048576 := Nat.le_trans HS0.out.1.used HS0.out.1.hi
      have htl : (S.collect L).ws.length ≤ 1048576 := by have := (gc_ok HS0.out.1.wf HS0.out.1.ptr hwl hLu).2.2; omega
      have hwp : 0 < S.ws.length := HS0.out.1.wf.pos
      have htp : 0 < (S.collect L).ws.length := h5.ok.wf.pos
      clear hs4 hr4 hs5 h5 c0 hb3' hb4 hnw
      go_wp2_with (at_make; refine halt ?_)
      refine goon ?_
      obtain ⟨hi, hz0, hz1, hz2⟩ := H1.out
      refine wpList_make_sat rfl 33 (.tmp 70) (.tmp 70) rfl 28 i0 (.int .u64 0) 8 Try.underlying33 hi hz0 hz1 hz2 rfl .i64 .i64 ((S.ws.length : Int) + 1) _ rfl rfl ?_ hs6 (by omega) (by omega) (by omega)
      clear hi hz0 hz1 hz2
      intro bt w5 hs7 hb5
      rw [show ((S.ws.length : Int) + 1).toNat = S.ws.length + 1 by omega] at hs7 ⊢
      have hb5' := hb4'.trans hb5
      clear hs6 hb4' hb5
      go_wp2_with (at_make; refine halt ?_)
      refine goon ?_
      obtain ⟨hi, hz0, hz1, hz2⟩ := H1.out
      refine wpList_make_sat rfl 33 (.tmp 74) (.tmp 74) rfl 28 i0 (.int .u64 0) 8 Try.underlying33 hi hz0 hz1 hz2 rfl .i64 .i64 (((S.collect L).ws.length : Int) + 1) _ rfl rfl ?_ hs7 (by omega) (by omega) (by omega)
      clear hi hz0 hz1 hz2
      intro bf w6 hs8 hb6
      rw [show (((S.collect L).ws.length : Int) + 1).toNat = (S.collect L).ws.length + 1 by omega] at hs8 ⊢
      have hb6' := hb5'.trans hb6
      clear hs7 hb5' hb6
      go_wp2_with fail
      have hs9 : sat (w6.alloc (.cells #[] 50)) (own 50 2 (.slice (some ⟨w6.heap.size, 0, none⟩) 0 0) 0 (pairCells ((L.zip (S.moved L)).take 0)) * (gFrame ⟨bw, cw, bn, cn, bt, bf⟩ S (S.collect L) (List.replicate (S.ws.length + 1) 0) (List.replicate ((S.collect L).ws.length + 1) 0) (row 28 1 bo rs.length ((S.moved L).map Go.Proofs.Ythkodbmijgehbaa.u64) * (own 28 1 (.slice la rs.length lc) rs.length (L.map Go.Proofs.Ythkodbmijgehbaa.u64) * whole W)))) := by
        have hA : sat (w6.alloc (.cells #[] 50)) (row 50 2 w6.heap.size 0 [] * _) := (hs8.alloc (.cells #[] 50)).shut_row (xs := []) (cap := 0) (sz := 2) rfl (Nat.le_refl 0) (Nat.zero_le _) rfl
        refine sat.shut_own rfl (Nat.le_refl 0) (hA.perm ?_)
        rw [show pairCells ((L.zip (S.moved L)).take 0) = [] from rfl]
        unfold gFrame
        simp only [List.map_replicate, Go.Proofs.Ythkodbmijgehbaa.u64]
        ac_rfl
      have hb9 : Below 0 W (w6.alloc (.cells #[] 50)) := hb6'.trans (Below.zero_alloc _ _)
      have hst := GrOk.start HS0.out.1.wf hwl hLu HS0.out.2.2
      have hends : Ends S (S.collect L) (gcEnd S L) := ⟨rfl, rfl, (gc_end HS0.out.1.wf hwl hLu).inv, HS0.out.1.wf, HS0.out.1.ptr, hwl⟩
      have hend : ∀ tv fr met, GrOk S (gcEnd S L) L ⟨tv, fr, [], met⟩ → met + 1 = (S.collect L).ws.length := fun tv fr met g => GrOk.ended HS0.out.1.wf hwl hLu hends g
      have hst' : GrOk S (gcEnd S L) L ⟨List.replicate (S.ws.length + 1) 0, List.replicate ((S.collect L).ws.length + 1) 0, L.zip (S.moved L), 0⟩ := hst
      have HE := Lib.hid (And.intro hst' (And.intro hends hend))
      clear hst hst' hends hend hs8 hb6'
      generalize w6.alloc (.cells #[] 50) = w7 at *
      generalize w6.heap.size = bl at *
      generalize S.collect L = T at *
      generalize gcEnd S L = e at *
      generalize S.moved L = M at *
      go_loopw [15, 16] (PRel W ⟨bw, cw, bn, cn, bt, bf⟩ S T bo rs.length (.slice la rs.length lc) L M) (fun _ i _ => rs.length - (intOf i).toNat)
      case atStart => exact ⟨0, Nat.zero_le _, rfl, hs9, hb9⟩
      case round =>
        clear hs9 hb9
        obtain ⟨k, hk, rfl, hs, hb⟩ := hrel
        by_cases hlt : k < rs.length
        · obtain ⟨x, ex⟩ : ∃ x, L[k]? = some x := ⟨_, List.getElem?_eq_getElem (by rw [HML.out.1]; exact hlt)⟩
          obtain ⟨y, ey⟩ : ∃ y, M[k]? = some y := ⟨_, List.getElem?_eq_getElem (by rw [HML.out.2]; exact hlt)⟩
          have hzip : (L.zip M).take (k + 1) = (L.zip M).take k ++ [(x, y)] := by
            have hz2 : (L.zip M)[k]? = some (x, y) := List.getElem?_zip_eq_some.2 ⟨ex, ey⟩
            rw [List.take_add_one, hz2]; rfl
          obtain ⟨la2, rfl, hcx⟩ := own_reads (n := rs.length) HML.out.1 rfl (show sat wr (own 28 1 (.slice la rs.length lc) rs.length (L.map Go.Proofs.Ythkodbmijgehbaa.u64) * whole W) by unfold gFrame at hs; exact hs.right.right.right.right.right.right) k x ex
          have hcy : wr.cell? ⟨bo, k, none⟩ = some (.int .u64 y) := by
            unfold gFrame at hs
            exact hs.right.right.right.right.right.row_cell (by rw [List.getElem?_map, ey]; rfl)
          obtain ⟨oa, oc, rfl⟩ := own_val hs
          have HZ := Lib.hid (And.intro ex (And.intro ey hzip))
          clear ex ey hzip
          have hplen : (pairCells ((L.zip M).take k)).length = k * 2 := by rw [pairCells_len, List.length_take, List.length_zip, HML.out.1, HML.out.2]; omega
          have hsA : sat (wr.drew.alloc (.cells #[.int .u64 x, .int .u64 y] 50)) _ := (hs.drew.alloc (.cells #[.int .u64 x, .int .u64 y] 50)).right
          have hsC : ∀ j : Nat, (wr.drew.alloc (.cells #[.int .u64 x, .int .u64 y] 50)).cell? ⟨wr.heap.size, j, none⟩ = #[Value.int .u64 x, .int .u64 y][j]? := fun j => (hs.drew.alloc (.cells #[.int .u64 x, .int .u64 y] 50)).left.cell j
          have hsN2 : ∀ (j : Nat) u, [Value.int .u64 x, .int .u64 y][j]? = some u → (wr.drew.alloc (.cells #[.int .u64 x, .int .u64 y] 50)).cell? ((⟨wr.heap.size, 0, none⟩ : Addr).add j) = some u := by
            intro j u hj
            have hadd : (⟨wr.heap.size, 0, none⟩ : Addr).add j = ⟨wr.heap.size, j, none⟩ := by unfold Addr.add; split <;> simp_all
            rw [hadd, hsC j]
            match j, hj with
            | 0, hj => exact hj
            | 1, hj => exact hj
            | j + 2, hj => simp at hj
          have hsB : Below 0 W (wr.drew.alloc (.cells #[.int .u64 x, .int .u64 y] 50)) := (hb.trans (drewN_below0 _ 1)).trans (Below.zero_alloc _ _)
          have HA := Lib.hid (And.intro hsA (And.intro hsN2 (And.intro hsB hplen)))
          clear hsA hsC hsN2 hsB hs hb hplen
          go_wp2_with fail
          go_region_law
            ((refine step_append_sat rfl (.tmp 83) (.tmp 93) 49 rfl 50 j0 (.agg #[.int .u64 0, .int .u64 0]) 2 16 Try.underlying49 H2.out.1 H2.out.2.1 H2.out.2.2.1 H2.out.2.2.2 rfl _ k (pairCells ((L.zip M).take k)) (by rfl) _ HA.out.1 ⟨wr.heap.size, 0, none⟩ 1 1 [.int .u64 x, .int .u64 y] (by rfl) rfl HA.out.2.1 (fun u hu => by simp at hu; rcases hu with rfl | rfl <;> rfl) (by omega) (by unfold maxLen; omega) (by omega) ?_; intro b7 c7 w7 hs7 hc7 hb7))
          all_goals (
            have hs8 := hs7.shut_own (n := k + 1) (by rw [List.length_append, HA.out.2.2.2]; simp; omega) hc7
            have HF := Lib.hid (And.intro hs8 (HA.out.2.2.1.trans hb7))
            clear hs8 hs7 hb7 hcx hcy HA
            go_wp2_with fail
            go_roundw
            case rel => exact ⟨k + 1, by omega, by go_num, by rw [HZ.out.2.2, pairCells_app]; exact HF.out.1, HF.out.2⟩
            case measure => simp [intOf]; omega)
        · obtain rfl : k = rs.length := by omega
          have hge : (rs.length : Int) ≤ rs.length := by omega
          have hzl : (L.zip M).length = rs.length := by rw [List.length_zip, HML.out.1, HML.out.2]; omega
          have hs1 := gFrame_drop hs
          rw [← hzl, List.take_of_length_le (Nat.le_refl _)] at hs1
          clear hs
          have HS1 := Lib.hid (And.intro hs1 hb)
          have HLl := Lib.hid hzl
          clear hs1 hb hzl
          go_wp2_with fail
          clear hLu hLi hz hge hlt hk
          go_loopw [15, 17] (WRel W ⟨bw, cw, bn, cn, bt, bf⟩ S T e L) (fun o m _ => T.ws.length - (intOf m).toNat + lenV o)
          case atStart => exact ⟨_, _, _, 0, rfl, HE.out.1, HS1.out.1, HS1.out.2⟩
          case round =>
            clear HS1
            obtain ⟨tv, fr, left, met, rfl, hg, hs, hb⟩ := hrel
            have hml := hg.met_le HE.out.2.1
            have hll := hg.ll
            simp only at hll
            obtain ⟨oa, oc, rfl⟩ := own_val hs
            rcases List.eq_nil_or_concat left with rfl | ⟨ini, ⟨a, b⟩, hcc⟩
            · have hfin := HE.out.2.2 tv fr met hg
              have hpos : decide (0 < ([] : List (Int × Int)).length) = false := rfl
              have hW : sat wr (whole W) := by unfold gFrame at hs; exact hs.right.right.right.right.right
              have HW := Lib.hid (And.intro hW hb)
              clear hs hb hg
              simp only [List.length_nil]
              have hq : ((T.ws.length : Int) == (met : Int) + 1) = true := by rw [← hfin]; simp
              clear hfin
              go_wp2_with fail
              refine (awake_any _ HW.out.1).mono ?_
              rintro e w9 ⟨rfl, hs11, hb11⟩
              go_wp2_with fail
              go_ret
              exact ⟨rfl, below_of_whole' hs11 (HW.out.2.trans hb11)⟩
            · rw [List.concat_eq_append] at hcc
              subst hcc
              have hlen : (ini ++ [(a, b)]).length = ini.length + 1 := by simp
              rw [hlen] at hs hll ⊢
              clear hlen
              have hpl := pairCells_len ini
              rw [pairCells_app, pairCells_one] at hs
              obtain ⟨bl, lcap, hv, hlc, _, _⟩ := hs.own_some (by omega)
              simp only [Value.slice.injEq] at hv
              obtain ⟨rfl, _, rfl⟩ := hv
              obtain ⟨ca, cb⟩ := own_last hs hpl
              have hs2 := own_pop hs hpl
              have HP2 := Lib.hid (And.intro hs2 hb)
              clear hs hs2 hb hpl
              generalize hnn : ini.length = nn at *
              have HN := Lib.hid hnn
              clear hnn
              have hpos : decide (0 < nn + 1) = true := by simp
              have hnb : nn ≤ 4194304 := by have := HML.out.1; omega
              have HG := Lib.hid (And.intro hg (And.intro hml hll))
              clear hg hml hll
              clear HRs H1 HP HS0 HPw c0
              have s1 : wrap64 (nn : Int) = nn := by unfold wrap64; omega
              go_upto_region 27 with (fail)
              have hs8 : sat (wr.alloc (.cells #[.int .u64 a, .int .u64 b] 50)) _ := (HP2.out.1.alloc (.cells #[.int .u64 a, .int .u64 b] 50)).right
              have hb8 : Below 0 W (wr.alloc (.cells #[.int .u64 a, .int .u64 b] 50)) := HP2.out.2.trans (Below.zero_alloc _ _)
              have HW8 := Lib.hid (And.intro hs8 hb8)
              clear hs8 hb8 HP2 ca cb s1
              generalize wr.alloc (.cells #[.int .u64 a, .int .u64 b] 50) = w8 at HW8 ⊢
              generalize wr.heap.size = hx8
              have hpu := HG.out.1.pair (a, b) (by simp)
              obtain ⟨a0, a1⟩ := hpu.u1
              obtain ⟨b0, b1⟩ := hpu.u2
              simp only at a0 a1 b0 b1
              clear hpu
              by_cases ha : a % 4 = 0
              · by_cases ha0 : a = 0
                · subst ha0
                  obtain ⟨hba, hg'⟩ := HG.out.1.pop_word HE.out.2.1 (.inr rfl)
                  subst hba
                  have HG' := Lib.hid hg'
                  clear hg' ha
                  go_wp2_with fail
                  go_roundw
                  case rel => exact ⟨tv, fr, ini, met, rfl, HG'.out, by rw [HN.out]; exact HW8.out.1, HW8.out.2⟩
                  case measure => simp [intOf, lenV]
                · obtain ⟨k, j, ea, eb, hk0, hj0, hkl, hat, hcop, hjf, hkf⟩ := HG.out.1.pop_obj HE.out.2.1 ha ha0
                  have htl := HG.out.1.tl
                  have hfl := HG.out.1.fl
                  simp only at htl hfl
                  rw [← HE.out.2.1.ws] at hfl
                  have hsz : 1 ≤ sizeAt S.ws k := by unfold sizeAt; omega
                  have hjl : j < T.ws.length := by omega
                  have q1 : (a % 4 == 0) = true := by rw [beq_iff_eq]; exact ha
                  have q2 : (a == 0) = false := by rw [beq_eq_false_iff_ne]; exact ha0
                  have q3 : (b % 4 == 0) = true := by rw [beq_iff_eq]; omega
                  have q4 : (b == 0) = false := by rw [beq_eq_false_iff_ne]; omega
                  have q3' : b % 4 = 0 := by omega
                  have q4' : ¬ b = 0 := by omega
                  have q4'' : (b != 0) = true := by rw [bne_iff_ne]; exact q4'
                  have q5 : a / 4 = (k : Int) := by omega
                  have q6 : b / 4 = (j : Int) := by omega
                  have q7 : IntKind.u64.wrap (S.ws.length : Int) = S.ws.length := by rw [IntKind.wrap_u64]; omega
                  have q8 : IntKind.u64.wrap (T.ws.length : Int) = T.ws.length := by rw [IntKind.wrap_u64]; omega
                  have q9 : decide (S.ws.length ≤ k) = false := by simp; omega
                  have q10 : decide (T.ws.length ≤ j) = false := by simp; omega
                  have ht := gFrame_to HW8.out.1 (k := k) (by omega)
                  have hf := gFrame_fr HW8.out.1 (k := j) (by omega)
                  have HK := Lib.hid (And.intro ea (And.intro eb (And.intro hat (And.intro hcop (And.intro hk0 (And.intro hj0 hkl))))))
                  clear ea eb hat hcop hk0 hj0
                  by_cases hseen : tv.getD k 0 = 0
                  · have hfz := GrOk.fresh HE.out.2.1 HG.out.1 HK.out.2.2.1 HK.out.2.2.2.2.2.1 hseen
                    have hgq := HG.out.1
                    rw [HK.out.1, HK.out.2.1] at hgq
                    have hg' := hgq.pop_new HE.out.2.1 HK.out.2.2.2.2.1 HK.out.2.2.2.2.2.1 hkl HK.out.2.2.1 HK.out.2.2.2.1 hseen
                    rw [← HK.out.1, ← HK.out.2.1] at hg'
                    rw [hseen] at ht
                    rw [hfz] at hf
                    obtain ⟨ht1, ht2⟩ := ht
                    obtain ⟨hf1, hf2⟩ := hf
                    simp only at ht1 ht2 hf1 hf2
                    have hne := gFrame_ne HW8.out.1
                    simp only at hne
                    have hne1 : ¬ bt = bf := hne
                    have hne2 : ¬ bf = bt := fun e => hne e.symm
                    clear hne
                    have hh1 : T.ws.getD j 0 = S.ws.getD k 0 := by rw [HE.out.2.1.ws]; exact HK.out.2.2.2.1.head
                    have hh2 := HE.out.2.1.wf.u _ (List.mem_of_getElem? (getD_get hkl))
                    have HG' := Lib.hid (And.intro hg' (And.intro hseen hfz))
                    clear hgq hg' hseen hfz
                    go_upto_region 37 with (fail)
                    have hs9 := gFrame_set HW8.out.1 k j a b
                    have hb9 := (HW8.out.2.setCell (p := ⟨bt, k, none⟩) (Nat.zero_le _) (.int .u64 b)).setCell (p := ⟨bf, j, none⟩) (Nat.zero_le _) (.int .u64 a)
                    simp only at hs9
                    generalize (w8.setCell ⟨bt, k, none⟩ (.int .u64 b)).setCell ⟨bf, j, none⟩ (.int .u64 a) = w9 at hs9 hb9 ⊢
                    have cwas := gFrame_was hs9 (k := k) hkl
                    have cnow := gFrame_now hs9 (k := j) hjl
                    rw [hh1] at cnow
                    have HW9 := Lib.hid (And.intro hs9 hb9)
                    clear hs9 hb9 ht1 ht2 hf1 hf2 HW8 hne1 hne2
                    obtain ⟨hd0, hd1⟩ := hh2
                    generalize hhd : S.ws.getD k 0 = hd at *
                    have HD := Lib.hid (And.intro hhd hh1)
                    clear hhd hh1
                    go_upto_region 40 with (fail)
                    obtain ⟨t, et⟩ : ∃ t : Nat, hd / 256 % 16777216 = t := ⟨(hd / 256 % 16777216).toNat, by omega⟩
                    obtain ⟨r, er⟩ : ∃ r : Nat, hd / 4294967296 % 16777216 = r := ⟨(hd / 4294967296 % 16777216).toNat, by omega⟩
                    rw [et, er]
                    have htag : tagAt S.ws k = t := by unfold tagAt tagH; rw [HD.out.1, et]; rfl
                    have hraw : rawAt S.ws k = r := by unfold rawAt rawH; rw [HD.out.1, er]; rfl
                    have hsize : sizeAt S.ws k = 1 + t + r := by unfold sizeAt; rw [← htag, ← hraw]; rfl
                    have hjt : j + (1 + t + r) ≤ T.ws.length := by rw [← hsize]; exact hjf
                    have hkt : k + (1 + t + r) ≤ S.ws.length := by rw [← hsize]; exact hkf
                    have HSz := Lib.hid (And.intro htag (And.intro hraw hsize))
                    clear htag hraw hsize hjf hkf et er
                    have p1 : IntKind.i64.wrap (j : Int) = j := IntWalk.i64_in _ (by omega)
                    have p2 : IntKind.i64.wrap (k : Int) = k := IntWalk.i64_in _ (by omega)
                    have p3 : decide ((T.ws.length : Int) ≤ (j : Int) + t + r) = false := by simp; omega
                    have hmt := GrOk.met_le HE.out.2.1 HG'.out.1
                    have hmb : (met : Int) ≤ 1048576 := by omega
                    go_upto_region 43 with (fail)
                    clear p3 cwas cnow q1 q2 q3 q4 q4'' q7 q8 q9 q10 hpos
                    have HHg := Lib.hid (And.intro hmt hmb)
                    clear hmt hmb
                    go_wp2_with fail
                    simp only [q5, q6, ha, q3']
                    go_loopw [15, 24] (FRel W ⟨bw, cw, bn, cn, bt, bf⟩ S T k j t r (tv.set k b) (fr.set j a) ini) (fun _ i _ => t + r + 1 - (intOf i).toNat)
                    case atStart =>
                      refine ⟨0, Nat.zero_le _, by go_num, ?_, HW9.out.2⟩
                      rw [Nat.zero_min, HN.out]
                      show sat w9 (own _ 2 _ nn (pairCells (ini ++ [])) * _)
                      rw [List.append_nil]
                      exact HW9.out.1
                    case round =>
                      clear HW9
                      obtain ⟨q, hq, rfl, hs, hb⟩ := hrel
                      by_cases hlt : q < t + r
                      · have hlt2 : decide ((q : Int) + 1 ≤ (t : Int) + r) = true := by simp; omega
                        have s1 : IntKind.i64.wrap ((k : Int) + ((q : Int) + 1)) = (k : Int) + ((q : Int) + 1) := IntWalk.i64_in _ (by omega)
                        have s2 : IntKind.i64.wrap ((j : Int) + ((q : Int) + 1)) = (j : Int) + ((q : Int) + 1) := IntWalk.i64_in _ (by omega)
                        have s3 : ((k : Int) + ((q : Int) + 1)).toNat = k + 1 + q := by omega
                        have s4 : ((j : Int) + ((q : Int) + 1)).toNat = j + 1 + q := by omega
                        have s5 : decide ((k : Int) + ((q : Int) + 1) < (S.ws.length : Int)) = true := by simp; omega
                        have s6 : decide ((j : Int) + ((q : Int) + 1) < (T.ws.length : Int)) = true := by simp; omega
                        have c1 := gFrame_was hs (k := k + 1 + q) (by omega)
                        have c2 := gFrame_now hs (k := j + 1 + q) (by omega)
                        simp only at c1 c2
                        obtain ⟨v, ev⟩ : ∃ v, S.ws.getD (k + 1 + q) 0 = v := ⟨_, rfl⟩
                        obtain ⟨y, ey⟩ : ∃ y, T.ws.getD (j + 1 + q) 0 = y := ⟨_, rfl⟩
                        rw [ev] at c1
                        rw [ey] at c2
                        have HV := Lib.hid (And.intro ev ey)
                        clear ev ey
                        by_cases hqt : q < t
                        · have hqt2 : decide ((q : Int) + 1 ≤ (t : Int)) = true := by simp; omega
                          have hmin : min q t = q := by omega
                          rw [hmin] at hs
                          have HM := Lib.hid hmin
                          clear hmin
                          go_wp2_with (at_builtin; refine halt ?_)
                          refine goon ?_
                          have hs7 : sat (wr.alloc (.cells #[.int .u64 v, .int .u64 y] 50)) _ := (hs.alloc (.cells #[.int .u64 v, .int .u64 y] 50)).right
                          have hnew : ∀ (i : Nat) u, [Value.int .u64 v, .int .u64 y][i]? = some u → (wr.alloc (.cells #[.int .u64 v, .int .u64 y] 50)).cell? ((⟨wr.heap.size, 0, none⟩ : Addr).add i) = some u := by
                            intro i u hi
                            have hadd : (⟨wr.heap.size, 0, none⟩ : Addr).add i = ⟨wr.heap.size, i, none⟩ := by unfold Addr.add; split <;> simp_all
                            rw [hadd]
                            have h9 := (hs.alloc (.cells #[.int .u64 v, .int .u64 y] 50)).left.cell i
                            rw [h9]
                            match i, hi with
                            | 0, hi => exact hi
                            | 1, hi => exact hi
                            | i + 2, hi => simp at hi
                          have hb7 : Below 0 W (wr.alloc (.cells #[.int .u64 v, .int .u64 y] 50)) := hb.trans (Below.zero_alloc _ _)
                          obtain ⟨hj', hy0, hy1, hy2⟩ := H2.out
                          refine wpList_append_sat rfl (.tmp 246) (.tmp 250) 49 rfl 50 j0 (.agg #[.int .u64 0, .int .u64 0]) 2 16 Try.underlying49 hj' hy0 hy1 hy2 rfl u15 (ini.length + q) (pairCells (ini ++ fieldPairs S T k j q)) rfl _ ⟨wr.heap.size, 0, none⟩ 1 1 [.int .u64 v, .int .u64 y] rfl ?_ hs7 rfl hnew (fun u hu => by simp at hu; rcases hu with rfl | rfl <;> rfl) (by have := HN.out; omega) (by have := HN.out; unfold maxLen; omega)
                          clear hj' hy0 hy1 hy2 hnew hs7
                          intro v' w9' hs9 hb9
                          have HF := Lib.hid (And.intro hs9 (hb7.trans hb9))
                          clear hs9 hb9 hb7 hs hb c1 c2
                          go_wp2_with fail
                          go_roundw
                          case rel =>
                            have hR : FRel W ⟨bw, cw, bn, cn, bt, bf⟩ S T k j t r (tv.set k b) (fr.set j a) ini v' (.int .i64 ((q : Int) + 1 + 1)) w9' := by
                              refine ⟨q + 1, by omega, by go_num, ?_, HF.out.2⟩
                              have h3 := HF.out.1
                              rw [show min (q + 1) t = q + 1 by omega, fieldPairs_succ, HV.out.1, HV.out.2, ← List.append_assoc, pairCells_app (ini ++ fieldPairs S T k j q)]
                              exact h3
                            first | exact hR | ((repeat apply Exists.intro); exact ⟨hR, rfl⟩)
                          case measure => simp [intOf]; omega
                        · have hvy : y = v := by
                            rw [← HV.out.1, ← HV.out.2, HE.out.2.1.ws]
                            exact HK.out.2.2.2.1.raws q (by rw [HSz.out.1]; omega) (by rw [HSz.out.1, HSz.out.2.1]; omega)
                          subst hvy
                          have hqt2 : decide ((q : Int) + 1 ≤ (t : Int)) = false := by simp; omega
                          have HF := Lib.hid (And.intro hs hb)
                          clear hs hb
                          go_wp2_with fail
                          go_roundw
                          case rel =>
                            refine ⟨q + 1, by omega, by go_num, ?_, HF.out.2⟩
                            have h3 := HF.out.1
                            rw [show min q t = min (q + 1) t by omega] at h3
                            exact h3
                          case measure => simp [intOf]; omega
                      · obtain rfl : q = t + r := by omega
                        have hlt2 : decide (((t + r : Nat) : Int) + 1 ≤ (t : Int) + r) = false := by simp; omega
                        rw [show min (t + r) t = t by omega] at hs
                        obtain ⟨oa2, oc2, rfl⟩ := own_val hs
                        have HF := Lib.hid (And.intro hs hb)
                        clear hs hb
                        go_wp2_with fail
                        go_roundw
                        case rel =>
                          refine ⟨tv.set k b, fr.set j a, ini ++ fieldPairs S T k j t, met + (1 + t + r), by go_num, ?_, ?_, HF.out.2⟩
                          · have h3 := HG'.out.1
                            rw [HSz.out.1, HSz.out.2.2] at h3
                            exact h3
                          · rw [List.length_append, fieldPairs_len]; exact HF.out.1
                        case measure => have := HHg.out.1; have := HN.out; have := HSz.out.2.2; simp [intOf, lenV]; omega
                  · have hgq := HG.out.1
                    rw [HK.out.1, HK.out.2.1] at hgq
                    obtain ⟨e1, e2, hg'⟩ := hgq.pop_seen HK.out.2.2.1 hseen
                    rw [e1, ← HK.out.2.1] at ht
                    rw [e2, ← HK.out.1] at hf
                    have HG' := Lib.hid hg'
                    clear hgq hg' e1 e2 hseen
                    obtain ⟨ht1, ht2⟩ := ht
                    obtain ⟨hf1, hf2⟩ := hf
                    simp only at ht1 ht2 hf1 hf2
                    clear ht2 hf2 htl hfl hjf hkf
                    go_wp2_with fail
                    go_roundw
                    case rel => exact ⟨tv, fr, ini, met, rfl, HG'.out, by rw [HN.out]; exact HW8.out.1, HW8.out.2⟩
                    case measure => simp [intOf, lenV]
              · obtain ⟨hba, hg'⟩ := HG.out.1.pop_word HE.out.2.1 (.inl ha)
                have hab := hba.symm
                subst hab
                clear hba
                have HG' := Lib.hid hg'
                have hf : (a % 4 == 0) = false := by rw [beq_eq_false_iff_ne]; exact ha
                clear hg' ha
                go_wp2_with fail
                go_roundw
                case rel => exact ⟨tv, fr, ini, met, rfl, HG'.out, by rw [HN.out]; exact HW8.out.1, HW8.out.2⟩
                case measure => simp [intOf, lenV]
/-- In the shell's order. -/
theorem heapGraphs_told (W : World) (a0 : Int) (a1 : Option Addr) (len1 cap1 : Nat) (z1 : List OpD) (a2 : Option Addr) (len2 cap2 : Nat) (z2 : List Int) (_ : (Lit.int .i64 a0).wf = true) (w1 : IsOps W a1 len1 z1) (w2 : IsRowB .i64 W a2 len2 cap2 z2) (_ : len1 ≤ 1048576) (u2 : len2 ≤ 1048576) :
    Calls Try.prog 6 #[.int .i64 a0, .slice a1 len1 cap1, .slice a2 len2 cap2] W fun e w' => e = .returned (.bool true) ∧ Below W.heap.size W w' := heapGraphs_walk W a0 a1 len1 cap1 z1 a2 len2 cap2 z2 w1 w2 u2
end Go.Proofs.Ythkodbmijgehbaa
