/- HeapTwice's walk. -/
import Derived.Test.YthkodbmijgehbaaRowB
import Derived.Test.YthkodbmijgehbaaTwicePure
namespace Go.Proofs.Ythkodbmijgehbaa
open Go.RowKit

set_option maxHeartbeats 2000000 in
set_option maxRecDepth 100000 in
theorem heapTwice_walk (W : World) (n : Int) (ao : Option Addr) (len cap : Nat) (zs : List OpD) (ra : Option Addr) (rl rc : Nat) (rs : List Int) (hz : IsOps W ao len zs) (hr : IsRowB .i64 W ra rl rc rs) :
    Calls Try.prog 9 #[.int .i64 n, .slice ao len cap, .slice ra rl rc] W fun e w' => e = .returned (.bool true) ∧ Below W.heap.size W w' := by
  have hrl := hr.bd
  have hre := hr.eq
  subst hre
  have HRs := Lib.hid hr
  clear hr
  obtain ⟨i0, hi, hz0, hz1, hz2⟩ := info_parts info_u64
  have H1 := Lib.hid (And.intro hi (And.intro hz0 (And.intro hz1 hz2)))
  clear hi hz0 hz1 hz2
  go_enter Try.func9, Try.ntmps9
  go_wp2_with fail
  refine (grown_any W n ao len cap zs hz).mono ?_
  rintro e w1 ⟨O, V, V2, S, rfl, hO, ht, hb1⟩
  go_wp2_with fail
  go_loopw [8, 9] (LRel W O V V2 S rs) (fun _ i _ => rs.length - (intOf i).toNat)
  case atStart => exact ⟨0, Nat.zero_le _, rfl, hO.nil, hb1⟩
  case round =>
    clear hO hb1
    obtain ⟨k, hk, rfl, hO, hb⟩ := hrel
    by_cases hlt : k < rs.length
    · obtain ⟨x, ex⟩ : ∃ x, rs[k]? = some x := ⟨_, List.getElem?_eq_getElem hlt⟩
      obtain ⟨ad, rfl, hcx⟩ := HRs.out.get hO.p.fr.right ex
      have htk := take_roots (obj := O.obj) ex
      have HE := Lib.hid (And.intro ex htk)
      clear ex htk
      go_wp2_with fail
      refine (hO.pick x).mono ?_
      rintro e w' ⟨rfl, j1, rfl⟩
      go_wp2_with (at_builtin; refine halt ?_)
      refine goon ?_
      have hO2 := hO.drewN j1
      have hb2 := hb.trans (drewN_below0 _ j1)
      clear hO hb hcx
      generalize pickP O.obj x = px at *
      have hs7 : sat ((wr.drewN j1).alloc (.cells #[.int .u64 px] 28)) _ := (hO2.list.alloc (.cells #[.int .u64 px] 28)).right
      have hnew : ((wr.drewN j1).alloc (.cells #[.int .u64 px] 28)).cell? ⟨wr.heap.size, 0, none⟩ = some (.int .u64 px) := ((hO2.list.alloc (.cells #[.int .u64 px] 28)).left.cell 0).trans rfl
      have hb7 : Below 0 W ((wr.drewN j1).alloc (.cells #[.int .u64 px] 28)) := hb2.trans (Below.zero_alloc _ _)
      generalize (wr.drewN j1).alloc (.cells #[.int .u64 px] 28) = w7 at *
      generalize wr.heap.size = bn at *
      obtain ⟨hi, hz0, hz1, hz2⟩ := H1.out
      refine wpList_append_one rfl (.tmp 25) (.tmp 32) 33 rfl 28 i0 (.int .u64 0) 8 Try.underlying33 hi hz0 hz1 hz2 rfl u8 k (((rootsOf O.obj rs).take k).map Go.Proofs.Ythkodbmijgehbaa.u64) rfl _ bn (.int .u64 px) rfl ?_ hs7 hnew rfl (by omega) (by unfold maxLen; omega)
      clear hi hz0 hz1 hz2 hnew hs7
      intro v' w9 hs9 hb9
      have HQ := Lib.hid (And.intro (hO2.unlist hs9) (hb7.trans hb9))
      clear hs9 hb9 hO2 hb2 hb7
      go_wp2_with fail
      go_roundw
      case rel => exact ⟨k + 1, by omega, by go_num, by rw [HE.out.2, List.map_append]; exact HQ.out.1, HQ.out.2⟩
      case measure => simp [intOf]; omega
    · obtain rfl : k = rs.length := by omega
      have hge : (rs.length : Int) ≤ rs.length := by omega
      rw [rootsOf_all] at hO
      have hLl := rootsOf_len O.obj rs
      have hLu := rootsOf_u hO.u rs
      have hLi := rootsOf_is hO.o rs
      generalize rootsOf O.obj rs = L at *
      obtain ⟨la, lc, rfl⟩ := own_val hO.list
      have hp := hO.p.p
      have HP := Lib.hid (And.intro hp hLl)
      have c0 := hO.p.c.1
      clear hp
      go_wp2_with fail
      have hc := hO.p.hw.Collect la lc L (fun w hs => own_reads (n := rs.length) HP.out.2 rfl hs.right.right) hLu (by omega) (by omega)
      have htw := collect_twice hO.p.ok.wf hO.p.ok.ptr hO.ws hLu hLi
      have hmu := moved_u hO.p.ok.s hLu
      have hml := moved_len S L
      rw [hLl] at hc
      refine hc.mono ?_
      rintro e w2 ⟨bo, V5, rfl, hg5, h5, hb2⟩
      rw [hLl]
      rw [hLl] at h5 hml
      have hb2' := hb.trans hb2
      have ht1 : (S.collect L).times ≤ 1954687338212 := by show S.times + 1 ≤ _; omega
      have ht2 : ((S.collect L).collect (S.moved L)).times = (S.collect L).times + 1 := rfl
      clear hc hO hb hb2 c0 hLl
      generalize S.collect L = S1 at *
      generalize S.moved L = M at *
      have HT := Lib.hid (And.intro htw (And.intro hml ht2))
      clear htw hml ht2
      have c0 := on_cell2 h5.s HP.out.1
      rw [← hg5] at c0
      have HG := Lib.hid (hg5.symm ▸ HP.out.1 : O.p = V5.g)
      clear hg5
      go_wp2_with fail
      refine h5.Words.mono ?_
      rintro e w3 ⟨v3, rfl, hs3, hb3⟩
      obtain ⟨bw, cw, rfl, hnw, _, hr3⟩ := hs3.own_some h5.ok.wf.pos
      have h6 : HeapW w3 V5 S1 (isOn O * (row 28 1 bw cw (S1.ws.map Go.Proofs.Ythkodbmijgehbaa.u64) * (row 28 1 bo rs.length (M.map Go.Proofs.Ythkodbmijgehbaa.u64) * (isRef V2 S * (own 28 1 (.slice la rs.length lc) rs.length (L.map Go.Proofs.Ythkodbmijgehbaa.u64) * whole W))))) := ⟨hr3.perm (by ac_rfl), h5.ok⟩
      have hb3' := hb2'.trans hb3
      clear hs3 hr3 h5 hb3 hb2' hnw c0
      have c0 := on_cell h6.s HG.out
      go_wp2_with fail
      refine h6.v.Times.mono ?_
      rintro e w' ⟨rfl, j1, rfl⟩
      have h7 := h6.drewN j1
      have hb7 := hb3'.trans (drewN_below0 _ j1)
      have c0' : (w3.drewN j1).cell? ⟨O.g, 0, none⟩ = _ := c0
      clear h6 hb3' c0
      generalize w3.drewN j1 = w4 at *
      go_wp2_with fail
      have hml := HT.out.2.1
      have hCp : ∀ w', HeapW w' V5 S1 (isOn O * (row 28 1 bw cw (S1.ws.map Go.Proofs.Ythkodbmijgehbaa.u64) * (row 28 1 bo rs.length (M.map Go.Proofs.Ythkodbmijgehbaa.u64) * (isRef V2 S * (own 28 1 (.slice la rs.length lc) rs.length (L.map Go.Proofs.Ythkodbmijgehbaa.u64) * whole W))))) → _ :=
        fun w' h' => copy_words (some ⟨bo, 0, none⟩) rs.length M h'.s (reads_row h'.s.right.right.right) (by omega)
      have hCo : ∀ w' ca cc, HeapW w' V5 S1 (own 28 1 (.slice ca rs.length cc) rs.length (M.map Go.Proofs.Ythkodbmijgehbaa.u64) * (isOn O * (row 28 1 bw cw (S1.ws.map Go.Proofs.Ythkodbmijgehbaa.u64) * (row 28 1 bo rs.length (M.map Go.Proofs.Ythkodbmijgehbaa.u64) * (isRef V2 S * (own 28 1 (.slice la rs.length lc) rs.length (L.map Go.Proofs.Ythkodbmijgehbaa.u64) * whole W)))))) → _ :=
        fun w' ca cc h' => h'.Collect ca cc M (fun w hs => own_reads hml rfl hs) hmu (by omega) (by omega)
      rw [hml] at hCp hCo
      have HC := Lib.hid (And.intro hCp hCo)
      clear hCp hCo hml
      go_region_held3 (fun w' => w'.cell? ⟨O.g, 0, none⟩ = some (.pointer (some ⟨V5.g, 0, none⟩)))
        (first | go_keep | exact k0)
        (first
          | (go_at_call 35; (with_reducible refine (HC.out.1 _ ?_).mono ?_); exact ⟨h7.s, h7.ok⟩; rintro e w5 ⟨v5, rfl, hs5, hb5⟩; obtain ⟨ca, cc, rfl⟩ := own_val hs5; have k0 := on_cell2 hs5 HG.out)
          | (go_at_call 28; (with_reducible refine (HC.out.2 _ _ _ ?_).mono ?_); exact ⟨hs5.frame, h7.ok⟩; rintro e w6 ⟨b6, V6, rfl, hg6, h8, hb6⟩; have k0 := on_cell2 h8.s.right HG.out; have HG6 := Lib.hid hg6; clear hg6))
      rename_i hHeld
      clear hHeld c0'
      have hml := HT.out.2.1
      rw [hml]
      have hws := HT.out.1.1
      have htm := HT.out.2.2
      have hwl : S1.ws.length < 4611686018427387904 := by have := h7.ok.used; have := h7.ok.hi; omega
      rw [HT.out.1.2, hml] at h8
      have hbb := (hb7.trans (drewN_below0 _ 1)).trans (hb5.trans hb6)
      have hsa : Reads w6 (some ⟨bo, 0, none⟩) M := reads_row h8.s.right.right.right.right.right
      have hsb : Reads w6 (some ⟨b6, 0, none⟩) M := reads_row h8.s.right
      have hA : ∀ m : Nat, _ := fun m => same_words (w6.drewN m) (some ⟨bo, 0, none⟩) (some ⟨b6, 0, none⟩) rs.length rs.length M M hsa hsb (by omega) (by omega)
      rw [hml, decide_eq_true (rfl : M = M)] at hA
      generalize (S1.collect M) = S2 at *
      have HA := Lib.hid (And.intro hA (And.intro hws htm))
      have HH := Lib.hid h8
      have hrow : sat w6 (row 28 1 bw cw (S1.ws.map Go.Proofs.Ythkodbmijgehbaa.u64) * _) := h8.s.right.right.right.right
      have HR := Lib.hid hrow
      clear hA hws htm hsa hsb h7 hs5 hb5 hb6 hb7 hml h8 hrow
      go_wp2_with fail
      refine (HA.out.1 0).mono ?_
      rintro e w' ⟨rfl, j2, rfl⟩
      have k1 : (w6.drewN j2).cell? ⟨O.g, 0, none⟩ = _ := k0
      go_wp2_with fail
      rw [← HG6.out]
      refine (HH.out.drewN j2).Words.mono ?_
      rintro e w8 ⟨v8, rfl, hs8, hb8⟩
      rw [HA.out.2.1] at hs8
      have hpos : 0 < S1.ws.length := by rw [← HA.out.2.1]; exact HH.out.ok.wf.pos
      obtain ⟨b8, c8, rfl, _, _, hr8⟩ := hs8.own_some hpos
      have h9 : HeapW w8 V6 S2 _ := ⟨hr8.frame, HH.out.ok⟩
      clear hs8
      have k2 := on_cell2 h9.s.right.right HG.out
      rw [← HG6.out] at k2
      have hsw := same_words w8 (some ⟨bw, 0, none⟩) (some ⟨b8, 0, none⟩) cw c8 S1.ws S1.ws (reads_row h9.s.right.right.right.right.right) (reads_row hr8) hwl hwl
      rw [decide_eq_true (rfl : S1.ws = S1.ws)] at hsw
      have hbb9 := (hbb.trans (drewN_below0 _ j2)).trans hb8
      have h10 := h9.v.Times
      have HW := Lib.hid (And.intro h9.s.right.right.right.right.right.right.right.right.right hbb9)
      have HTm := Lib.hid (fun m : Nat => (h9.drewN m).v.Times)
      clear h9 hr8 k0 k1 hb8 hbb hbb9 h10
      have htq : ((S2.times : Int) == (S1.times : Int) + 1) = true := by rw [HA.out.2.2]; simp
      go_wp2_with fail
      refine hsw.mono ?_
      rintro e w' ⟨rfl, j3, rfl⟩
      have k3 : (w8.drewN j3).cell? ⟨O.g, 0, none⟩ = _ := k2
      go_wp2_with fail
      refine (HTm.out j3).mono ?_
      rintro e w' ⟨rfl, j4, rfl⟩
      go_wp2_with fail
      refine (awake_any _ (HW.out.1.drewN (j3 + j4))).mono ?_
      rintro e w9 ⟨rfl, hs11, hb11⟩
      go_wp2_with fail
      go_ret
      exact ⟨rfl, below_of_whole' hs11 ((HW.out.2.trans (drewN_below0 _ _)).trans hb11)⟩
/-- In the shell's order. -/
theorem heapTwice_told (W : World) (a0 : Int) (a1 : Option Addr) (len1 cap1 : Nat) (z1 : List OpD) (a2 : Option Addr) (len2 cap2 : Nat) (z2 : List Int) (_ : (Lit.int .i64 a0).wf = true) (w1 : IsOps W a1 len1 z1) (w2 : IsRowB .i64 W a2 len2 cap2 z2) :
    Calls Try.prog 9 #[.int .i64 a0, .slice a1 len1 cap1, .slice a2 len2 cap2] W fun e w' => e = .returned (.bool true) ∧ Below W.heap.size W w' := heapTwice_walk W a0 a1 len1 cap1 z1 a2 len2 cap2 z2 w1 w2
end Go.Proofs.Ythkodbmijgehbaa
