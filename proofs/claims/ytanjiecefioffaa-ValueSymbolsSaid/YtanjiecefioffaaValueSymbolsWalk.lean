/- ValueSymbols' walk. -/
import Derived.Test.YtanjiecefioffaaSymInv
import Derived.Test.YtanjiecefioffaaLstP
import Derived.Test.YtanjiecefioffaaLit
import Derived.Test.YtanjiecefioffaaRowsIn2
import Derived.Test.YtanjiecefioffaaAwake4
namespace Go.Proofs.Ytanjiecefioffaa
open Go.RowKit

def SymRel (W : World) (g0 : Nat) (names : List ByteArray) (l i : Value) (wr : World) : Prop :=
  ∃ (k : Nat) (X : StV) (V : HV) (S : HS) (Y : StS) (ls : List Int), k ≤ names.length ∧ i = .int .i64 k ∧ X.g = g0 ∧ StW wr X V S Y (lstP l k ls * whole W) ∧ SymInv names k k (1 + 48 * k) S Y ls ∧ Below 0 W wr
def SymRel2 (W : World) (X : StV) (V : HV) (S : HS) (Y : StS) (l : Value) (n : Nat) (ls : List Int) (i : Value) (wr : World) : Prop :=
  ∃ k : Nat, k ≤ n ∧ i = .int .i64 k ∧ StW wr X V S Y (lstP l n ls * whole W) ∧ Below 0 W wr
def SymRel3 (w : World) (n : Nat) (i : Value) (wr : World) : Prop := ∃ k j : Nat, k ≤ n ∧ i = .int .i64 k ∧ wr = w.drewN j
theorem str_inj {s t : ByteArray} (h : s.toList = t.toList) : s = t := by
  rw [ByteArray.toList_eq, ByteArray.toList_eq] at h
  cases s; cases t
  simp only [ByteArray.mk.injEq]
  exact Array.toList_inj.1 h
theorem SymInv.start (names : List ByteArray) : SymInv names 0 0 1 (HS.new 32768) ⟨[], [], 0⟩ [] :=
  ⟨rfl, Nat.le_refl _, rfl, Nat.le_refl _, rfl, fun j s hj => (by omega), fun s v h => (by cases h), fun s => (by simp [SM.get]), Nat.le_refl _⟩
theorem SymInv.mono {names : List ByteArray} {T T' k L L' : Nat} {S : HS} {Y : StS} {ls : List Int} (h : SymInv names T k L S Y ls) (hT : T ≤ T') (hL : L ≤ L') : SymInv names T' k L' S Y ls :=
  ⟨h.tm, Nat.le_trans h.tb hT, h.size, Nat.le_trans h.len hL, h.ll, h.got, h.sym, h.ord, h.ol⟩
theorem lst_in {v : Value} {n c : Nat} {xs : List Int} {ao : Option Addr} (R : HP) (hv : v = .slice ao n c) : WordsIn (lstP v n xs * R) ao xs := by
  intro w hs
  obtain ⟨_, ao', cap', hv', hr⟩ := hs.lst_reads
  rw [hv] at hv'
  simp only [Value.slice.injEq] at hv'
  rw [hv'.1]
  exact hr
def between : List Int := [98, 101, 116, 119, 101, 101, 110]
theorem between_u : Bytes between := by
  intro x hx
  unfold between at hx
  simp only [List.mem_cons, List.not_mem_nil, or_false] at hx
  omega

set_option maxHeartbeats 4000000 in
set_option maxRecDepth 100000 in
theorem valueSymbols_told (W : World) (a0 : Option Addr) (len0 cap0 : Nat) (z0 : List ByteArray) (a1 : Option Addr) (len1 cap1 : Nat) (z1 : List Bool) (hn : IsStrs W a0 len0 cap0 z0) (hk : IsBools W a1 len1 cap1 z1) :
    Calls Try.prog 6 #[.slice a0 len0 cap0, .slice a1 len1 cap1] W fun e w' => e = .returned (.bool true) ∧ Below W.heap.size W w' := by
  obtain ⟨i0, hi, hz0, hz1, hz2⟩ := info_parts info_u64
  have H1 := Lib.hid (And.intro hi (And.intro hz0 (And.intro hz1 hz2)))
  clear hi hz0 hz1 hz2
  have hlen0 := hn.bd
  have hlc0 := hn.lc
  have hlen1 := hk.bd
  have HK := Lib.hid hk
  clear hk
  go_enter Try.func6, Try.ntmps6
  go_wp2_with fail
  refine (StNew_good 32768 (sat_whole W) (by decide) (by decide)).mono ?_
  rintro e w2 ⟨X, V, rfl, h1, hb1⟩
  have HX := Lib.hid (And.intro h1 hb1)
  clear h1 hb1
  by_cases h60 : len0 ≤ 60
  · have b60 : decide ((len0 : Int) > 60) = false := by simp; omega
    obtain ⟨nm, hnm⟩ : ∃ nm, z0 = nm := ⟨_, rfl⟩
    have HN := Lib.hid (And.intro (show nm.length = len0 from hnm ▸ hn.eq) (fun (w : World) (hs : sat w (whole W)) (j : Nat) (x : ByteArray) (hj : nm[j]? = some x) => hn.get hs (hnm ▸ hj)))
    clear hn hnm b60
    go_wp2_with fail
    go_loopw [7, 8] (SymRel W X.g nm) (fun _ i _ => nm.length - (intOf i).toNat)
    case atStart => exact ⟨0, X, V, _, _, [], Nat.zero_le _, rfl, rfl, ⟨(show sat w2 (own 22 1 (.slice none 0 0) 0 [] * (isHeap V (HS.new 32768) * (isSt X V.g ⟨[], [], 0⟩ * whole W))) from HX.out.1.s.nil_own).lst_own (xs := []) |>.perm (by ac_rfl), HX.out.1.ok⟩, SymInv.start nm, HX.out.2⟩
    case round =>
      clear HX
      obtain ⟨k, X1, V1, S1, Y1, ls, hkn, rfl, hxg, h1, hI, hb1⟩ := hrel
      by_cases hlt : k < len0
      · obtain ⟨s, es⟩ : ∃ s, nm[k]? = some s := ⟨_, List.getElem?_eq_getElem (by have := HN.out.1; omega)⟩
        obtain ⟨a, ha', hcs⟩ := HN.out.2 wr h1.s.right.right.right k s es
        cases ha'
        by_cases hbig : 300 < s.size
        · have bb : decide ((s.size : Int) > 300) = true := by simp; omega
          have HG := Lib.hid (And.intro h1 hb1)
          clear h1 hb1 hI es
          go_wp2_with fail
          refine (awake_any _ HG.out.1.s.right.right.right).mono ?_
          rintro e w8 ⟨rfl, h8, hb8⟩
          go_wp2_with fail
          go_ret
          exact ⟨rfl, below_of_whole' h8 (HG.out.2.trans hb8)⟩
        · have bb : decide ((s.size : Int) > 300) = false := by simp; omega
          have hsl : s.size ≤ 300 := by omega
          have hwl := h1.hw.v.len
          have hI1 : Calls Try.prog 23 #[.pointer (some ⟨X.g, 0, none⟩), .string s] wr fun e w' => ∃ (p : Int) (X2 : StV) (V2 : HV) (S2 : HS) (Y2 : StS), e = .returned (.tuple #[.int .u64 p, .bool true]) ∧ X2.g = X.g ∧ StW w' X2 V2 S2 Y2 (lstP u7 k ls * whole W) ∧ SymInv nm k (k + 1) (1 + 48 * k + 43) S2 Y2 (ls ++ [p]) ∧ Below 0 W w' := by
            rw [← hxg]
            cases hg : Y1.syms.get s with
            | some v =>
              refine (h1.Intern_old hI.tm s v hg).mono ?_
              rintro e w' ⟨rfl, j, rfl⟩
              exact ⟨v, X1, V1, S1, Y1, rfl, rfl, h1.drewN j, hI.old es hg, hb1.trans (drewN_below0 _ _)⟩
            | none =>
              have hso : symOk S1 (bytesOf s) = true := by
                have hwl := wordsOf_len (bytesOf s)
                have h2 := hI.len
                have h3 := HN.out.1
                unfold symOk
                rw [hwl, bytesOf_len, hI.size]
                simp only [Bool.and_eq_true, decide_eq_true_eq]
                omega
              refine (h1.Intern_new hI.tm s hg (by omega) hso (by have := hI.ol; omega)).mono ?_
              rintro e w' ⟨rfl, hb3, X3, V3, hx3, hm3, hg3, h3⟩
              exact ⟨_, X3, V3, _, _, rfl, hx3, h3, hI.new h1.ok.wf es hsl hg, hb1.trans hb3⟩
          have HI := Lib.hid hI1
          have HC := Lib.hid (And.intro hcs es)
          clear hI1 h1 hI hb1 hxg
          go_wp2_with fail
          refine HI.out.mono ?_
          rintro e w3 ⟨p, X2, V2, S2, Y2, rfl, hx2, h2, hJ, hb2⟩
          have HJ := Lib.hid (And.intro hx2 (And.intro h2 (And.intro hJ hb2)))
          clear hx2 h2 hJ hb2 HI
          go_wp2_with (at_builtin; refine halt ?_)
          refine goon ?_
          obtain ⟨hi, hz0, hz1, hz2⟩ := H1.out
          have hs7 : sat (w3.alloc (.cells #[.int .u64 p] 22)) (lstP u7 k ls * (Go.Proofs.Ytanjiecefioffaa.blk w3.heap.size (.cells #[.int .u64 p] 22 (0, 0)) * (isHeap V2 S2 * (isSt X2 V2.g Y2 * whole W)))) := (HJ.out.2.1.s.alloc (.cells #[.int .u64 p] 22)).perm (by ac_rfl)
          have hnew : (w3.alloc (.cells #[.int .u64 p] 22)).cell? ⟨w3.heap.size, 0, none⟩ = some (.int .u64 p) := (hs7.right.left.cell 0).trans rfl
          have hb7 : Below 0 W (w3.alloc (.cells #[.int .u64 p] 22)) := HJ.out.2.2.2.trans (Below.zero_alloc _ _)
          generalize w3.alloc (.cells #[.int .u64 p] 22) = w7 at *
          generalize w3.heap.size = bn at *
          refine wpList_append_lst rfl (.tmp 54) (.tmp 56) rfl i0 (.int .u64 0) Try.underlying35 hi hz0 hz1 hz2 rfl u7 k ls rfl _ bn p rfl ?_ hs7 hnew (by have := HN.out.1; omega)
          clear hi hz0 hz1 hz2 hnew hs7
          intro v' w9 hs9 hb9
          have h9 : StW w9 X2 V2 S2 Y2 (lstP v' (k + 1) (ls ++ [p]) * whole W) := ⟨(show sat w9 (Go.Proofs.Ytanjiecefioffaa.blk bn (.cells #[.int .u64 p] 22 (0, 0)) * (isHeap V2 S2 * (isSt X2 V2.g Y2 * (lstP v' (k + 1) (ls ++ [p]) * whole W)))) from hs9.perm (by ac_rfl)).right, HJ.out.2.1.ok⟩
          have HQ := Lib.hid (And.intro h9 (hb7.trans hb9))
          clear hs9 hb9 hb7 h9
          have hcv := fun w => run_convert_lit (P := Try.prog) w 44 5 #[.int .u8 98, .int .u8 101, .int .u8 116, .int .u8 119, .int .u8 101, .int .u8 101, .int .u8 110] 7 7 Try.underlying44 Try.underlying5
          go_wp2_with fail
          have h5 := HQ.out.1.push (.cells #[.int .u8 98, .int .u8 101, .int .u8 116, .int .u8 119, .int .u8 101, .int .u8 101, .int .u8 110] 5 (7, 8))
          have hb5 := HQ.out.2.trans (Below.zero_alloc w9 (.cells #[.int .u8 98, .int .u8 101, .int .u8 116, .int .u8 119, .int .u8 101, .int .u8 101, .int .u8 110] 5 (7, 8)))
          have hto : textOk S2 between = true := by
            have h2 := HJ.out.2.2.1.len
            have h3 := HN.out.1
            unfold textOk HS.room
            rw [HJ.out.2.2.1.size, show between.length = 7 from rfl, show (wordsOf between).length = 2 from rfl]
            simp only [Bool.and_eq_true, decide_eq_true_eq]
            omega
          have hT := h5.Text_yes (some ⟨w9.heap.size, 0, none⟩) 7 between (bytes_in between _ rfl _ _ _) between_u (by decide) hto
          rw [show between.length = 7 from rfl, HJ.out.1] at hT
          with_reducible refine hT.mono ?_
          rintro e w5 ⟨rfl, hb6, V5, hg5, h6⟩
          have hJ5 := HJ.out.2.2.1.text HJ.out.2.1.ok.wf between rfl
          have h6' := h6.drop
          have hx2 := HJ.out.1
          generalize S2.text between = S5 at *
          have hcs5 := HN.out.2 w5 h6'.s.right.right.right k s es
          obtain ⟨ao7, c7, hv7, hr7⟩ := (show sat w5 (lstP v' (k + 1) (ls ++ [p]) * (isHeap V5 S5 * (isSt X2 V5.g Y2 * whole W))) from h6'.s.perm (by ac_rfl)).lst_reads.2
          subst hv7
          have hKp := h6'.Keep hJ5.tm ao7 c7 (ls ++ [p]) (lst_in _ rfl) (hJ5.lsu h6'.ok.wf h6'.hw.v.len (by have := HN.out.1; omega)) (by have := hJ5.ll; have := HN.out.1; omega) (fun s hs => by
            obtain ⟨v, hv⟩ := Option.isSome_iff_exists.1 ((hJ5.ord s).1 hs)
            exact ⟨v, hv, hJ5.u h6'.ok.wf h6'.hw.v.len hv⟩) (by have := hJ5.ol; have := HN.out.1; omega) (by have := hJ5.tb; have := HN.out.1; omega)
          rw [hJ5.ll, hx2] at hKp
          have hJk := hJ5.keep h6'.ok.wf h6'.ok.ptr h6'.hw.v.len (by have := HN.out.1; omega)
          have hmv : S5.moved (ls ++ [p] ++ Y2.words) = (ls ++ [p]).map (fwd S5 (gcEnd S5 (ls ++ [p] ++ Y2.words))) ++ Y2.words.map (fwd S5 (gcEnd S5 (ls ++ [p] ++ Y2.words))) := by
            rw [← List.map_append]
            refine (gc_end h6'.ok.wf h6'.hw.v.len ?_).out
            intro x hx
            rcases List.mem_append.1 hx with hx | hx
            · exact hJ5.lsu h6'.ok.wf h6'.hw.v.len (by have := HN.out.1; omega) x hx
            · unfold StS.words at hx
              obtain ⟨s, hs, rfl⟩ := List.mem_map.1 hx
              obtain ⟨v, hv⟩ := Option.isSome_iff_exists.1 ((hJ5.ord s).1 hs)
              rw [hv]
              exact hJ5.u h6'.ok.wf h6'.hw.v.len hv
          have hkb := fun j x (hj : z1[j]? = some x) => HK.out.get h6'.s.right.right.right hj
          have HM := Lib.hid (And.intro h6' (And.intro hJ5 (And.intro (hb5.trans hb6) (And.intro hKp (And.intro hJk (And.intro hmv hkb))))))
          have HX2 := Lib.hid hx2
          clear h5 hb5 hto hT hb6 hg5 h6 hJ5 h6' hKp hJk hmv hkb hx2 hcs5 hr7 HQ HJ hcv
          have b0 : ∀ b : Bool, k < len1 → z1[k]? = some b → ∃ c, a1 = some c ∧ w5.cell? (c.add k) = some (.bool b) := fun b _ h => HM.out.2.2.2.2.2.2 k b h
          have hz1 := HK.out.eq
          by_cases hkl : k < len1
          · obtain ⟨b, eb⟩ : ∃ b, z1[k]? = some b := ⟨_, List.getElem?_eq_getElem (by omega)⟩
            obtain ⟨c, rfl, hcb⟩ := b0 b hkl eb
            have b1 : decide ((k : Int) < (len1 : Int)) = true := by simp; omega
            clear b0 eb hz1
            cases b with
            | true =>
              go_wp2_with fail
              with_reducible refine HM.out.2.2.2.1.mono ?_
              rintro e w6 ⟨bo, V6, rfl, hg6, h6, hb6⟩
              have hll := HM.out.2.1.ll
              have h7 : StW w6 X2 V6 (S5.collect (ls ++ [p] ++ Y2.words)) (Y2.kept S5 (ls ++ [p])) (lstP (.slice (some ⟨bo, 0, none⟩) (k + 1) (k + 1)) (k + 1) ((ls ++ [p]).map (fwd S5 (gcEnd S5 (ls ++ [p] ++ Y2.words)))) * whole W) := by
                refine ⟨?_, h6.ok⟩
                have h8 := (show sat w6 (lstP (.slice ao7 (k + 1) c7) (k + 1) (ls ++ [p]) * (row 22 1 bo (ls ++ [p] ++ Y2.words).length ((S5.moved (ls ++ [p] ++ Y2.words)).map Go.Proofs.Ytanjiecefioffaa.u64) * (isHeap V6 (S5.collect (ls ++ [p] ++ Y2.words)) * (isSt X2 V6.g (Y2.kept S5 (ls ++ [p])) * whole W)))) from h6.s.perm (by ac_rfl)).right
                rw [HM.out.2.2.2.2.2.1] at h8
                refine (sat.lst_row (n := k + 1) (by rw [List.length_map]; exact hll) h8 ?_).perm (by ac_rfl)
                intro hf
                rw [List.length_append, hll] at hf
                rw [List.eq_nil_of_length_eq_zero (show Y2.words.length = 0 by omega)]
                rfl
              have HW := Lib.hid (And.intro h7 (HM.out.2.2.1.trans hb6))
              clear h6 hb6 hg6 h7
              rw [hll]
              go_wp2_with fail
              go_roundw
              case rel => exact ⟨k + 1, X2, V6, _, _, _, by have := HN.out.1; omega, by go_num, HX2.out, HW.out.1, HM.out.2.2.2.2.1.mono (by omega) (by omega), HW.out.2⟩
              case measure => simp [intOf]; have := HN.out.1; omega
            | false =>
              go_wp2_with fail
              go_roundw
              case rel => exact ⟨k + 1, X2, V5, S5, Y2, ls ++ [p], by have := HN.out.1; omega, by go_num, HX2.out, HM.out.1, HM.out.2.1.mono (by omega) (by omega), HM.out.2.2.1⟩
              case measure => simp [intOf]; have := HN.out.1; omega
          · have b1 : decide ((k : Int) < (len1 : Int)) = false := by simp; omega
            clear b0 hz1
            go_wp2_with fail
            go_roundw
            case rel => exact ⟨k + 1, X2, V5, S5, Y2, ls ++ [p], by have := HN.out.1; omega, by go_num, HX2.out, HM.out.1, HM.out.2.1.mono (by omega) (by omega), HM.out.2.2.1⟩
            case measure => simp [intOf]; have := HN.out.1; omega
      · have hkk : k = len0 := by have := HN.out.1; omega
        have hge : (len0 : Int) ≤ k := by omega
        obtain ⟨ao7, c7, rfl, hr7⟩ := (show sat wr (lstP u7 k ls * (isHeap V1 S1 * (isSt X1 V1.g Y1 * whole W))) from h1.s.perm (by ac_rfl)).lst_reads.2
        have hwf := h1.ok.wf
        have hlu := hI.lsu hwf h1.hw.v.len (by have := HN.out.1; omega)
        have HI := Lib.hid (And.intro h1 (And.intro hI (And.intro hb1 (And.intro hwf (And.intro hxg hlu)))))
        have bn : ((k : Int) != len0) = false := by simp [hkk]
        have HKK := Lib.hid hkk
        clear hkk
        clear h1 hI hb1 hr7 hwf hlu
        go_wp2_with fail
        go_loopw [11] (SymRel2 W X1 V1 S1 Y1 (.slice ao7 k c7) k ls) (fun i _ => k - (intOf i).toNat)
        case atStart => exact ⟨0, Nat.zero_le _, rfl, HI.out.1, HI.out.2.2.1⟩
        case round =>
          obtain ⟨i, hik, rfl, h1, hb1⟩ := hrel
          by_cases hlt2 : i < k
          · have hil : i < len0 := by have := HKK.out; omega
            obtain ⟨s, es⟩ : ∃ s, nm[i]? = some s := ⟨_, List.getElem?_eq_getElem (by have := HN.out.1; omega)⟩
            obtain ⟨x, ex⟩ : ∃ x, ls[i]? = some x := ⟨_, List.getElem?_eq_getElem (by have := HI.out.2.1.ll; omega)⟩
            obtain ⟨x0, x1⟩ := HI.out.2.2.2.2.2 x (List.mem_of_getElem? ex)
            obtain ⟨a7, rfl, hcx⟩ := lst_in _ rfl wr h1.fr i x ex
            have hN := h1.Name x x0 x1
            obtain ⟨n1, n2⟩ := HI.out.2.1.name HI.out.2.2.2.1 hlt2 es ex
            unfold NamePost at hN
            rw [n1, n2, hxg] at hN
            have HE := Lib.hid (And.intro es (And.intro ex hb1))
            clear es ex hb1 h1 n1 n2
            go_wp2_with fail
            with_reducible refine hN.mono ?_
            rintro e w3 ⟨rfl, h3, hb3⟩
            obtain ⟨a, ha', hcs⟩ := HN.out.2 w3 h3.s.right.right.right i s HE.out.1
            cases ha'
            have bss : (s != s) = false := by
              have := (Go.MapKept.bytes_beq s s).2 rfl
              simp [bne, this]
            have HB := Lib.hid (And.intro h3 (HE.out.2.2.trans hb3))
            clear h3 hb3 hN hcx
            go_wp2_with fail
            go_loopw [14] (SymRel3 w3 i) (fun k _ => i - (intOf k).toNat)
            case atStart => exact ⟨0, 0, Nat.zero_le _, rfl, rfl⟩
            case round =>
              obtain ⟨j, n3, hji, rfl, rfl⟩ := hrel
              by_cases hlt3 : j < i
              · have hjl : j < len0 := by omega
                obtain ⟨t, et⟩ : ∃ t, nm[j]? = some t := ⟨_, List.getElem?_eq_getElem (by have := HN.out.1; omega)⟩
                obtain ⟨y, ey⟩ : ∃ y, ls[j]? = some y := ⟨_, List.getElem?_eq_getElem (by have := HI.out.2.1.ll; omega)⟩
                have hone := HI.out.2.1.one HI.out.2.2.2.1 hlt2 (show j < k by omega) HE.out.1 et HE.out.2.1 ey
                obtain ⟨_, h', hcx⟩ := lst_in _ rfl (w3.drewN n3) (HB.out.1.drewN n3).fr i x HE.out.2.1
                cases h'
                obtain ⟨_, h', hcy⟩ := lst_in _ rfl (w3.drewN n3) (HB.out.1.drewN n3).fr j y ey
                cases h'
                obtain ⟨_, h', hcs⟩ := HN.out.2 (w3.drewN n3) (HB.out.1.drewN n3).s.right.right.right i s HE.out.1
                cases h'
                obtain ⟨_, h', hct⟩ := HN.out.2 (w3.drewN n3) (HB.out.1.drewN n3).s.right.right.right j t et
                cases h'
                have hb12 : ∃ b : Bool, (x == y) = b ∧ (s.toList == t.toList) = b := by
                  by_cases e : s = t
                  · exact ⟨true, by rw [beq_iff_eq]; exact hone.2 e, by rw [e]; simp⟩
                  · refine ⟨false, ?_, ?_⟩
                    · rw [beq_eq_false_iff_ne]; exact fun h => e (hone.1 h)
                    · rw [beq_eq_false_iff_ne]; exact fun h => e (str_inj h)
                obtain ⟨b, hb1, hb2⟩ := hb12
                have bbb : (!b == b) = false := by cases b <;> rfl
                have HH3 := Lib.hid (rfl : w3.drewN n3 = w3.drewN n3)
                generalize hw9 : w3.drewN n3 = w9 at *
                have HW9 := Lib.hid hw9
                clear hone et ey hw9 HH3
                go_wp2_with fail
                go_quiet (fail)
                go_wp2_with fail
                go_roundw
                case rel => exact ⟨j + 1, n3 + nq, by omega, by go_num, by rw [← HW9.out, World.drewN_drewN]⟩
                case measure => simp [intOf]; omega
              · obtain rfl : j = i := by omega
                have hge : (j : Int) ≤ j := by omega
                go_wp2_with fail
                go_roundw
                case rel => exact ⟨j + 1, by omega, by go_num, HB.out.1.drewN n3, HB.out.2.trans (drewN_below0 _ _)⟩
                case measure => simp [intOf]; omega
          · obtain rfl : i = k := by omega
            have hge : (i : Int) ≤ i := by omega
            have HF := Lib.hid (And.intro h1 hb1)
            clear h1 hb1
            go_wp2_with fail
            refine (awake_any _ HF.out.1.s.right.right.right).mono ?_
            rintro e w8 ⟨rfl, h8, hb8⟩
            go_wp2_with fail
            go_ret
            exact ⟨rfl, below_of_whole' h8 (HF.out.2.trans hb8)⟩
  · have b60 : decide ((len0 : Int) > 60) = true := by simp; omega
    obtain ⟨x0, ex0⟩ : ∃ x, z0[0]? = some x := ⟨_, List.getElem?_eq_getElem (by have := hn.eq; omega)⟩
    obtain ⟨_, a, rfl, _⟩ := hn.each 0 x0 ex0
    obtain ⟨nm, hnm⟩ : ∃ nm, z0.take 60 = nm := ⟨_, rfl⟩
    have HN := Lib.hid (And.intro (show nm.length = 60 from by rw [← hnm, List.length_take]; have := hn.eq; omega) (fun (w : World) (hs : sat w (whole W)) (j : Nat) (x : ByteArray) (hj : nm[j]? = some x) => hn.get (j := j) (x := x) hs (by
      rw [← hnm, List.getElem?_take] at hj
      split at hj
      · exact hj
      · cases hj)))
    have hc60 : 60 ≤ cap0 := by omega
    clear hn hnm ex0
    go_wp2_with fail
    go_loopw [7, 8] (SymRel W X.g nm) (fun _ i _ => nm.length - (intOf i).toNat)
    case atStart => exact ⟨0, X, V, _, _, [], Nat.zero_le _, rfl, rfl, ⟨(show sat w2 (own 22 1 (.slice none 0 0) 0 [] * (isHeap V (HS.new 32768) * (isSt X V.g ⟨[], [], 0⟩ * whole W))) from HX.out.1.s.nil_own).lst_own (xs := []) |>.perm (by ac_rfl), HX.out.1.ok⟩, SymInv.start nm, HX.out.2⟩
    case round =>
      clear HX
      obtain ⟨k, X1, V1, S1, Y1, ls, hkn, rfl, hxg, h1, hI, hb1⟩ := hrel
      by_cases hlt : k < 60
      · obtain ⟨s, es⟩ : ∃ s, nm[k]? = some s := ⟨_, List.getElem?_eq_getElem (by have := HN.out.1; omega)⟩
        obtain ⟨a, ha', hcs⟩ := HN.out.2 wr h1.s.right.right.right k s es
        cases ha'
        by_cases hbig : 300 < s.size
        · have bb : decide ((s.size : Int) > 300) = true := by simp; omega
          have HG := Lib.hid (And.intro h1 hb1)
          clear h1 hb1 hI es
          go_wp2_with fail
          refine (awake_any _ HG.out.1.s.right.right.right).mono ?_
          rintro e w8 ⟨rfl, h8, hb8⟩
          go_wp2_with fail
          go_ret
          exact ⟨rfl, below_of_whole' h8 (HG.out.2.trans hb8)⟩
        · have bb : decide ((s.size : Int) > 300) = false := by simp; omega
          have hsl : s.size ≤ 300 := by omega
          have hwl := h1.hw.v.len
          have hI1 : Calls Try.prog 23 #[.pointer (some ⟨X.g, 0, none⟩), .string s] wr fun e w' => ∃ (p : Int) (X2 : StV) (V2 : HV) (S2 : HS) (Y2 : StS), e = .returned (.tuple #[.int .u64 p, .bool true]) ∧ X2.g = X.g ∧ StW w' X2 V2 S2 Y2 (lstP u7 k ls * whole W) ∧ SymInv nm k (k + 1) (1 + 48 * k + 43) S2 Y2 (ls ++ [p]) ∧ Below 0 W w' := by
            rw [← hxg]
            cases hg : Y1.syms.get s with
            | some v =>
              refine (h1.Intern_old hI.tm s v hg).mono ?_
              rintro e w' ⟨rfl, j, rfl⟩
              exact ⟨v, X1, V1, S1, Y1, rfl, rfl, h1.drewN j, hI.old es hg, hb1.trans (drewN_below0 _ _)⟩
            | none =>
              have hso : symOk S1 (bytesOf s) = true := by
                have hwl := wordsOf_len (bytesOf s)
                have h2 := hI.len
                have h3 := HN.out.1
                unfold symOk
                rw [hwl, bytesOf_len, hI.size]
                simp only [Bool.and_eq_true, decide_eq_true_eq]
                omega
              refine (h1.Intern_new hI.tm s hg (by omega) hso (by have := hI.ol; omega)).mono ?_
              rintro e w' ⟨rfl, hb3, X3, V3, hx3, hm3, hg3, h3⟩
              exact ⟨_, X3, V3, _, _, rfl, hx3, h3, hI.new h1.ok.wf es hsl hg, hb1.trans hb3⟩
          have HI := Lib.hid hI1
          have HC := Lib.hid (And.intro hcs es)
          clear hI1 h1 hI hb1 hxg
          go_wp2_with fail
          refine HI.out.mono ?_
          rintro e w3 ⟨p, X2, V2, S2, Y2, rfl, hx2, h2, hJ, hb2⟩
          have HJ := Lib.hid (And.intro hx2 (And.intro h2 (And.intro hJ hb2)))
          clear hx2 h2 hJ hb2 HI
          go_wp2_with (at_builtin; refine halt ?_)
          refine goon ?_
          obtain ⟨hi, hz0, hz1, hz2⟩ := H1.out
          have hs7 : sat (w3.alloc (.cells #[.int .u64 p] 22)) (lstP u7 k ls * (Go.Proofs.Ytanjiecefioffaa.blk w3.heap.size (.cells #[.int .u64 p] 22 (0, 0)) * (isHeap V2 S2 * (isSt X2 V2.g Y2 * whole W)))) := (HJ.out.2.1.s.alloc (.cells #[.int .u64 p] 22)).perm (by ac_rfl)
          have hnew : (w3.alloc (.cells #[.int .u64 p] 22)).cell? ⟨w3.heap.size, 0, none⟩ = some (.int .u64 p) := (hs7.right.left.cell 0).trans rfl
          have hb7 : Below 0 W (w3.alloc (.cells #[.int .u64 p] 22)) := HJ.out.2.2.2.trans (Below.zero_alloc _ _)
          generalize w3.alloc (.cells #[.int .u64 p] 22) = w7 at *
          generalize w3.heap.size = bn at *
          refine wpList_append_lst rfl (.tmp 54) (.tmp 56) rfl i0 (.int .u64 0) Try.underlying35 hi hz0 hz1 hz2 rfl u7 k ls rfl _ bn p rfl ?_ hs7 hnew (by have := HN.out.1; omega)
          clear hi hz0 hz1 hz2 hnew hs7
          intro v' w9 hs9 hb9
          have h9 : StW w9 X2 V2 S2 Y2 (lstP v' (k + 1) (ls ++ [p]) * whole W) := ⟨(show sat w9 (Go.Proofs.Ytanjiecefioffaa.blk bn (.cells #[.int .u64 p] 22 (0, 0)) * (isHeap V2 S2 * (isSt X2 V2.g Y2 * (lstP v' (k + 1) (ls ++ [p]) * whole W)))) from hs9.perm (by ac_rfl)).right, HJ.out.2.1.ok⟩
          have HQ := Lib.hid (And.intro h9 (hb7.trans hb9))
          clear hs9 hb9 hb7 h9
          have hcv := fun w => run_convert_lit (P := Try.prog) w 44 5 #[.int .u8 98, .int .u8 101, .int .u8 116, .int .u8 119, .int .u8 101, .int .u8 101, .int .u8 110] 7 7 Try.underlying44 Try.underlying5
          go_wp2_with fail
          have h5 := HQ.out.1.push (.cells #[.int .u8 98, .int .u8 101, .int .u8 116, .int .u8 119, .int .u8 101, .int .u8 101, .int .u8 110] 5 (7, 8))
          have hb5 := HQ.out.2.trans (Below.zero_alloc w9 (.cells #[.int .u8 98, .int .u8 101, .int .u8 116, .int .u8 119, .int .u8 101, .int .u8 101, .int .u8 110] 5 (7, 8)))
          have hto : textOk S2 between = true := by
            have h2 := HJ.out.2.2.1.len
            have h3 := HN.out.1
            unfold textOk HS.room
            rw [HJ.out.2.2.1.size, show between.length = 7 from rfl, show (wordsOf between).length = 2 from rfl]
            simp only [Bool.and_eq_true, decide_eq_true_eq]
            omega
          have hT := h5.Text_yes (some ⟨w9.heap.size, 0, none⟩) 7 between (bytes_in between _ rfl _ _ _) between_u (by decide) hto
          rw [show between.length = 7 from rfl, HJ.out.1] at hT
          with_reducible refine hT.mono ?_
          rintro e w5 ⟨rfl, hb6, V5, hg5, h6⟩
          have hJ5 := HJ.out.2.2.1.text HJ.out.2.1.ok.wf between rfl
          have h6' := h6.drop
          have hx2 := HJ.out.1
          generalize S2.text between = S5 at *
          have hcs5 := HN.out.2 w5 h6'.s.right.right.right k s es
          obtain ⟨ao7, c7, hv7, hr7⟩ := (show sat w5 (lstP v' (k + 1) (ls ++ [p]) * (isHeap V5 S5 * (isSt X2 V5.g Y2 * whole W))) from h6'.s.perm (by ac_rfl)).lst_reads.2
          subst hv7
          have hKp := h6'.Keep hJ5.tm ao7 c7 (ls ++ [p]) (lst_in _ rfl) (hJ5.lsu h6'.ok.wf h6'.hw.v.len (by have := HN.out.1; omega)) (by have := hJ5.ll; have := HN.out.1; omega) (fun s hs => by
            obtain ⟨v, hv⟩ := Option.isSome_iff_exists.1 ((hJ5.ord s).1 hs)
            exact ⟨v, hv, hJ5.u h6'.ok.wf h6'.hw.v.len hv⟩) (by have := hJ5.ol; have := HN.out.1; omega) (by have := hJ5.tb; have := HN.out.1; omega)
          rw [hJ5.ll, hx2] at hKp
          have hJk := hJ5.keep h6'.ok.wf h6'.ok.ptr h6'.hw.v.len (by have := HN.out.1; omega)
          have hmv : S5.moved (ls ++ [p] ++ Y2.words) = (ls ++ [p]).map (fwd S5 (gcEnd S5 (ls ++ [p] ++ Y2.words))) ++ Y2.words.map (fwd S5 (gcEnd S5 (ls ++ [p] ++ Y2.words))) := by
            rw [← List.map_append]
            refine (gc_end h6'.ok.wf h6'.hw.v.len ?_).out
            intro x hx
            rcases List.mem_append.1 hx with hx | hx
            · exact hJ5.lsu h6'.ok.wf h6'.hw.v.len (by have := HN.out.1; omega) x hx
            · unfold StS.words at hx
              obtain ⟨s, hs, rfl⟩ := List.mem_map.1 hx
              obtain ⟨v, hv⟩ := Option.isSome_iff_exists.1 ((hJ5.ord s).1 hs)
              rw [hv]
              exact hJ5.u h6'.ok.wf h6'.hw.v.len hv
          have hkb := fun j x (hj : z1[j]? = some x) => HK.out.get h6'.s.right.right.right hj
          have HM := Lib.hid (And.intro h6' (And.intro hJ5 (And.intro (hb5.trans hb6) (And.intro hKp (And.intro hJk (And.intro hmv hkb))))))
          have HX2 := Lib.hid hx2
          clear h5 hb5 hto hT hb6 hg5 h6 hJ5 h6' hKp hJk hmv hkb hx2 hcs5 hr7 HQ HJ hcv
          have b0 : ∀ b : Bool, k < len1 → z1[k]? = some b → ∃ c, a1 = some c ∧ w5.cell? (c.add k) = some (.bool b) := fun b _ h => HM.out.2.2.2.2.2.2 k b h
          have hz1 := HK.out.eq
          by_cases hkl : k < len1
          · obtain ⟨b, eb⟩ : ∃ b, z1[k]? = some b := ⟨_, List.getElem?_eq_getElem (by omega)⟩
            obtain ⟨c, rfl, hcb⟩ := b0 b hkl eb
            have b1 : decide ((k : Int) < (len1 : Int)) = true := by simp; omega
            clear b0 eb hz1
            cases b with
            | true =>
              go_wp2_with fail
              with_reducible refine HM.out.2.2.2.1.mono ?_
              rintro e w6 ⟨bo, V6, rfl, hg6, h6, hb6⟩
              have hll := HM.out.2.1.ll
              have h7 : StW w6 X2 V6 (S5.collect (ls ++ [p] ++ Y2.words)) (Y2.kept S5 (ls ++ [p])) (lstP (.slice (some ⟨bo, 0, none⟩) (k + 1) (k + 1)) (k + 1) ((ls ++ [p]).map (fwd S5 (gcEnd S5 (ls ++ [p] ++ Y2.words)))) * whole W) := by
                refine ⟨?_, h6.ok⟩
                have h8 := (show sat w6 (lstP (.slice ao7 (k + 1) c7) (k + 1) (ls ++ [p]) * (row 22 1 bo (ls ++ [p] ++ Y2.words).length ((S5.moved (ls ++ [p] ++ Y2.words)).map Go.Proofs.Ytanjiecefioffaa.u64) * (isHeap V6 (S5.collect (ls ++ [p] ++ Y2.words)) * (isSt X2 V6.g (Y2.kept S5 (ls ++ [p])) * whole W)))) from h6.s.perm (by ac_rfl)).right
                rw [HM.out.2.2.2.2.2.1] at h8
                refine (sat.lst_row (n := k + 1) (by rw [List.length_map]; exact hll) h8 ?_).perm (by ac_rfl)
                intro hf
                rw [List.length_append, hll] at hf
                rw [List.eq_nil_of_length_eq_zero (show Y2.words.length = 0 by omega)]
                rfl
              have HW := Lib.hid (And.intro h7 (HM.out.2.2.1.trans hb6))
              clear h6 hb6 hg6 h7
              rw [hll]
              go_wp2_with fail
              go_roundw
              case rel => exact ⟨k + 1, X2, V6, _, _, _, by have := HN.out.1; omega, by go_num, HX2.out, HW.out.1, HM.out.2.2.2.2.1.mono (by omega) (by omega), HW.out.2⟩
              case measure => simp [intOf]; have := HN.out.1; omega
            | false =>
              go_wp2_with fail
              go_roundw
              case rel => exact ⟨k + 1, X2, V5, S5, Y2, ls ++ [p], by have := HN.out.1; omega, by go_num, HX2.out, HM.out.1, HM.out.2.1.mono (by omega) (by omega), HM.out.2.2.1⟩
              case measure => simp [intOf]; have := HN.out.1; omega
          · have b1 : decide ((k : Int) < (len1 : Int)) = false := by simp; omega
            clear b0 hz1
            go_wp2_with fail
            go_roundw
            case rel => exact ⟨k + 1, X2, V5, S5, Y2, ls ++ [p], by have := HN.out.1; omega, by go_num, HX2.out, HM.out.1, HM.out.2.1.mono (by omega) (by omega), HM.out.2.2.1⟩
            case measure => simp [intOf]; have := HN.out.1; omega
      · have hkk : k = 60 := by have := HN.out.1; omega
        have hge : (60 : Int) ≤ k := by omega
        obtain ⟨ao7, c7, rfl, hr7⟩ := (show sat wr (lstP u7 k ls * (isHeap V1 S1 * (isSt X1 V1.g Y1 * whole W))) from h1.s.perm (by ac_rfl)).lst_reads.2
        have hwf := h1.ok.wf
        have hlu := hI.lsu hwf h1.hw.v.len (by have := HN.out.1; omega)
        have HI := Lib.hid (And.intro h1 (And.intro hI (And.intro hb1 (And.intro hwf (And.intro hxg hlu)))))
        have bn : ((k : Int) != 60) = false := by simp [hkk]
        have HKK := Lib.hid hkk
        clear hkk
        clear h1 hI hb1 hr7 hwf hlu
        go_wp2_with fail
        go_loopw [11] (SymRel2 W X1 V1 S1 Y1 (.slice ao7 k c7) k ls) (fun i _ => k - (intOf i).toNat)
        case atStart => exact ⟨0, Nat.zero_le _, rfl, HI.out.1, HI.out.2.2.1⟩
        case round =>
          obtain ⟨i, hik, rfl, h1, hb1⟩ := hrel
          by_cases hlt2 : i < k
          · have hil : i < 60 := by have := HKK.out; omega
            obtain ⟨s, es⟩ : ∃ s, nm[i]? = some s := ⟨_, List.getElem?_eq_getElem (by have := HN.out.1; omega)⟩
            obtain ⟨x, ex⟩ : ∃ x, ls[i]? = some x := ⟨_, List.getElem?_eq_getElem (by have := HI.out.2.1.ll; omega)⟩
            obtain ⟨x0, x1⟩ := HI.out.2.2.2.2.2 x (List.mem_of_getElem? ex)
            obtain ⟨a7, rfl, hcx⟩ := lst_in _ rfl wr h1.fr i x ex
            have hN := h1.Name x x0 x1
            obtain ⟨n1, n2⟩ := HI.out.2.1.name HI.out.2.2.2.1 hlt2 es ex
            unfold NamePost at hN
            rw [n1, n2, hxg] at hN
            have HE := Lib.hid (And.intro es (And.intro ex hb1))
            clear es ex hb1 h1 n1 n2
            go_wp2_with fail
            with_reducible refine hN.mono ?_
            rintro e w3 ⟨rfl, h3, hb3⟩
            obtain ⟨a, ha', hcs⟩ := HN.out.2 w3 h3.s.right.right.right i s HE.out.1
            cases ha'
            have bss : (s != s) = false := by
              have := (Go.MapKept.bytes_beq s s).2 rfl
              simp [bne, this]
            have HB := Lib.hid (And.intro h3 (HE.out.2.2.trans hb3))
            clear h3 hb3 hN hcx
            go_wp2_with fail
            go_loopw [14] (SymRel3 w3 i) (fun k _ => i - (intOf k).toNat)
            case atStart => exact ⟨0, 0, Nat.zero_le _, rfl, rfl⟩
            case round =>
              obtain ⟨j, n3, hji, rfl, rfl⟩ := hrel
              by_cases hlt3 : j < i
              · have hjl : j < 60 := by omega
                obtain ⟨t, et⟩ : ∃ t, nm[j]? = some t := ⟨_, List.getElem?_eq_getElem (by have := HN.out.1; omega)⟩
                obtain ⟨y, ey⟩ : ∃ y, ls[j]? = some y := ⟨_, List.getElem?_eq_getElem (by have := HI.out.2.1.ll; omega)⟩
                have hone := HI.out.2.1.one HI.out.2.2.2.1 hlt2 (show j < k by omega) HE.out.1 et HE.out.2.1 ey
                obtain ⟨_, h', hcx⟩ := lst_in _ rfl (w3.drewN n3) (HB.out.1.drewN n3).fr i x HE.out.2.1
                cases h'
                obtain ⟨_, h', hcy⟩ := lst_in _ rfl (w3.drewN n3) (HB.out.1.drewN n3).fr j y ey
                cases h'
                obtain ⟨_, h', hcs⟩ := HN.out.2 (w3.drewN n3) (HB.out.1.drewN n3).s.right.right.right i s HE.out.1
                cases h'
                obtain ⟨_, h', hct⟩ := HN.out.2 (w3.drewN n3) (HB.out.1.drewN n3).s.right.right.right j t et
                cases h'
                have hb12 : ∃ b : Bool, (x == y) = b ∧ (s.toList == t.toList) = b := by
                  by_cases e : s = t
                  · exact ⟨true, by rw [beq_iff_eq]; exact hone.2 e, by rw [e]; simp⟩
                  · refine ⟨false, ?_, ?_⟩
                    · rw [beq_eq_false_iff_ne]; exact fun h => e (hone.1 h)
                    · rw [beq_eq_false_iff_ne]; exact fun h => e (str_inj h)
                obtain ⟨b, hb1, hb2⟩ := hb12
                have bbb : (!b == b) = false := by cases b <;> rfl
                have HH3 := Lib.hid (rfl : w3.drewN n3 = w3.drewN n3)
                generalize hw9 : w3.drewN n3 = w9 at *
                have HW9 := Lib.hid hw9
                clear hone et ey hw9 HH3
                go_wp2_with fail
                go_quiet (fail)
                go_wp2_with fail
                go_roundw
                case rel => exact ⟨j + 1, n3 + nq, by omega, by go_num, by rw [← HW9.out, World.drewN_drewN]⟩
                case measure => simp [intOf]; omega
              · obtain rfl : j = i := by omega
                have hge : (j : Int) ≤ j := by omega
                go_wp2_with fail
                go_roundw
                case rel => exact ⟨j + 1, by omega, by go_num, HB.out.1.drewN n3, HB.out.2.trans (drewN_below0 _ _)⟩
                case measure => simp [intOf]; omega
          · obtain rfl : i = k := by omega
            have hge : (i : Int) ≤ i := by omega
            have HF := Lib.hid (And.intro h1 hb1)
            clear h1 hb1
            go_wp2_with fail
            refine (awake_any _ HF.out.1.s.right.right.right).mono ?_
            rintro e w8 ⟨rfl, h8, hb8⟩
            go_wp2_with fail
            go_ret
            exact ⟨rfl, below_of_whole' h8 (HF.out.2.trans hb8)⟩
end Go.Proofs.Ytanjiecefioffaa
