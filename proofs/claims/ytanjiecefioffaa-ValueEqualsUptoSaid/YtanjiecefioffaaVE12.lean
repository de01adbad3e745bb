/- value.Store.all. -/
import Derived.Test.YtanjiecefioffaaVE11
import Derived.Test.YtanjiecefioffaaVE10
import Derived.Test.YtanjiecefioffaaVE9
namespace Go.Proofs.Ytanjiecefioffaa
open Go.RowKit

/-- What all leaves. -/
def AllPost (X : StV) (V : HV) (S : HS) (Y : StS) (R : HP) (l : List Dm) (w : World) (e : Ending) (w' : World) : Prop :=
  ∃ (X' : StV) (V' : HV) (S' : HS) (Y' : StS) (v : Value) (xs : List Int) (ok : Bool), e = .returned (.tuple #[v, .bool ok]) ∧ (X'.g = X.g ∧ V'.g = V.g) ∧ StW w' X' V' S' Y' (own 22 1 v xs.length (xs.map Go.Proofs.Ytanjiecefioffaa.u64) * R) ∧ SyOk S' Y' ∧ (Ext S S' ∧ S'.size = S.size ∧ S'.times = S.times) ∧
    (∀ s v, Y.syms.get s = some v → Y'.syms.get s = some v) ∧ ((∀ x ∈ xs, 0 ≤ x ∧ x < 18446744073709551616) ∧ (ok = true → xs.length = l.length ∧ ∀ (i : Nat) d x, l[i]? = some d → xs[i]? = some x → HIn S' (plainP d) x)) ∧ Below 0 w w'
def AllRel (W : World) (X : StV) (V : HV) (S : HS) (Y : StS) (R : HP) (l : List Dm) (u8 i : Value) (wr : World) : Prop :=
  ∃ (k : Nat) (X' : StV) (V' : HV) (S' : HS) (Y' : StS) (xs : List Int), k ≤ l.length ∧ i = .int .i64 k ∧ (X'.g = X.g ∧ V'.g = V.g) ∧ StW wr X' V' S' Y' (own 22 1 u8 k (xs.map Go.Proofs.Ytanjiecefioffaa.u64) * R) ∧ SyOk S' Y' ∧ (Ext S S' ∧ S'.size = S.size ∧ S'.times = S.times) ∧
    (∀ s v, Y.syms.get s = some v → Y'.syms.get s = some v) ∧ ((∀ x ∈ xs, 0 ≤ x ∧ x < 18446744073709551616) ∧ xs.length = k ∧ ∀ (i : Nat) d x, (l.take k)[i]? = some d → xs[i]? = some x → HIn S' (plainP d) x) ∧ Below 0 W wr
/-- put, of one datum and so deep. -/
def PutsAt (d : Dm) (deep : Int) : Prop := ∀ (w : World) (X : StV) (V : HV) (S : HS) (Y : StS) (R : HP) (cs : List Value), StW w X V S Y R → SyOk S Y → DK R d cs →
  Calls Try.prog 58 #[.pointer (some ⟨X.g, 0, none⟩), .agg cs.toArray, .int .i64 deep] w (PutPost X V S Y R (PutQ S.ws.length d) w)
section
variable {w : World} {X : StV} {V : HV} {S : HS} {Y : StS} {R : HP}
set_option maxRecDepth 100000 in
set_option maxHeartbeats 4000000 in
theorem StW.all (h : StW w X V S Y R) (hy : SyOk S Y) (l : List Dm) (hl : l.length ≤ 1048576) (deep : Int) (hdp : 0 < deep ∧ deep ≤ 100) (hP : ∀ d ∈ l, PutsAt d (deep - 1)) (ao : Option Addr) (cap : Nat) (hd : DKs R l ao 0) :
    Calls Try.prog 84 #[.pointer (some ⟨X.g, 0, none⟩), .slice ao l.length cap, .int .i64 deep] w (AllPost X V S Y R l w) := by
  obtain ⟨i0, hi, hz0, hz1, hz2⟩ := info_parts info_u64
  have H1 := Lib.hid (And.intro hi (And.intro hz0 (And.intro hz1 hz2)))
  clear hi hz0 hz1 hz2
  have g1 : IntKind.i64.wrap (deep - 1) = deep - 1 := IntWalk.i64_in _ (by omega)
  have HX := Lib.hid (And.intro hP (And.intro hd (And.intro h hy)))
  clear hP hd h hy
  go_enter Try.func84, Try.ntmps84
  go_wp2_with fail
  go_loopw [8, 15] (AllRel w X V S Y R l) (fun _ i _ => l.length - (intOf i).toNat)
  case atStart => exact ⟨0, X, V, S, Y, [], Nat.zero_le _, rfl, ⟨rfl, rfl⟩, ⟨HX.out.2.2.1.s.nil_own.perm (show own _ _ _ _ [] * _ = isHeap V S * (isSt X V.g Y * (own _ _ _ _ [] * R)) by ac_rfl), HX.out.2.2.1.ok⟩, HX.out.2.2.2, ⟨Ext.refl _, rfl, rfl⟩, fun _ _ h => h, ⟨fun x hx => by simp at hx, rfl, fun i d x h _ => by simp at h⟩, Below.refl _ _⟩
  case round =>
    obtain ⟨k, X1, V1, S1, Y1, xs, hk, rfl, hg1, h1, hy1, he1, hm1, ⟨hxb, hxl, hxi⟩, hb1⟩ := hrel
    by_cases hlt : k < l.length
    · obtain ⟨d, ex⟩ : ∃ d, l[k]? = some d := ⟨_, List.getElem?_eq_getElem hlt⟩
      obtain ⟨b, off, ds, rfl, hcell, hdd⟩ := HX.out.2.1.get k d ex
      have hcw := hcell wr h1.fr.right
      rw [Nat.zero_add] at hcw
      have htk : l.take (k + 1) = l.take k ++ [d] := by rw [List.take_add_one, ex]; rfl
      cases d with
      | mk kind n neg mag text items rest =>
      obtain ⟨am, cm, ai, ci, ar, cr, rfl, hr1, hit, hre⟩ := hdd.open
      clear hr1 hit hre
      have i0' := hcw 0 _ rfl
      have i1 := hcw 1 _ rfl
      have i2 := hcw 2 _ rfl
      have i3 := hcw 3 _ rfl
      have i4 := hcw 4 _ rfl
      have i5 := hcw 5 _ rfl
      have i6 := hcw 6 _ rfl
      rw [Nat.add_zero] at i0'
      have h2 := h1.push (dmO [.int .i64 kind, .int .i64 n, .bool neg, .slice am mag.length cm, .string text, .slice ai items.length ci, .slice ar rest.length cr])
      obtain ⟨gb, hgb⟩ : ∃ gb, wr.heap.size = gb := ⟨_, rfl⟩
      rw [hgb] at h2
      have hC := HX.out.1 _ (List.mem_of_getElem? ex) _ X1 V1 S1 Y1 _ _ h2 hy1 (hdd.mono (fun w h => h.right.right) _)
      rw [hg1.1] at hC
      have HK := Lib.hid (And.intro hg1 (And.intro h1.ok (And.intro he1 (And.intro hm1 (And.intro hxb (And.intro hxl (And.intro hxi (And.intro (hb1.trans (Below.zero_alloc wr (dmO [.int .i64 kind, .int .i64 n, .bool neg, .slice am mag.length cm, .string text, .slice ai items.length ci, .slice ar rest.length cr]))) htk))))))))
      clear hcw hcell hdd h1 h2 hg1 he1 hm1 hxb hxl hxi hb1 hy1 ex htk
      go_wp2_with fail
      refine hC.mono ?_
      clear hC i0' i1 i2 i3 i4 i5 i6
      rintro e w3 ⟨X2, V2, S2, Y2, x, ok, rfl, hg2, h3, hy2, he2, hm2, ⟨hbx, hq⟩, hb3⟩
      have hk2 : k + 1 ≤ 1048576 := by omega
      cases ok
      case' false =>
        have hs3 : sat w3 (Go.Proofs.Ytanjiecefioffaa.blk gb (dmO [.int .i64 kind, .int .i64 n, .bool neg, .slice am mag.length cm, .string text, .slice ai items.length ci, .slice ar rest.length cr]) * (own 22 1 u8 k (xs.map Go.Proofs.Ytanjiecefioffaa.u64) * (isHeap V2 S2 * (isSt X2 V2.g Y2 * (own 22 1 (.slice none 0 0) 0 [] * R))))) := (h3.s.nil_own (e := 22) (sz := 1)).perm (by ac_rfl)
        have hpost : AllPost X V S Y R l w (.returned (.tuple #[.slice none 0 0, .bool false])) w3 := ⟨X2, V2, S2, Y2, .slice none 0 0, [], false, rfl, ⟨hg2.1.trans HK.out.1.1, hg2.2.trans HK.out.1.2⟩, ⟨hs3.right.right.perm (by ac_rfl), h3.ok⟩, hy2, ⟨HK.out.2.2.1.1.trans he2.1, he2.2.1.trans HK.out.2.2.1.2.1, he2.2.2.trans HK.out.2.2.1.2.2⟩, fun s v h => hm2 s v (HK.out.2.2.2.1 s v h), ⟨fun x hx => by simp at hx, fun h => by cases h⟩, HK.out.2.2.2.2.2.2.2.1.trans hb3⟩
        have HP := Lib.hid hpost
        clear hpost hs3 h3 hg2 hy2 he2 hm2 hq hb3 HK HX
        go_wp2_with fail
        go_ret2
        exact HP.out
      case' true =>
        have hq' := (hq rfl).1
        have H3 := Lib.hid (And.intro hg2 (And.intro h3 (And.intro hy2 (And.intro he2 (And.intro hm2 (And.intro hbx (And.intro hq' hb3)))))))
        clear hg2 h3 hy2 he2 hm2 hbx hq hq' hb3
        go_wp2_with (at_builtin; refine halt ?_)
        refine goon ?_
        have hs7 : sat (w3.alloc (.cells #[.int .u64 x] 22)) (own 22 1 u8 k (xs.map Go.Proofs.Ytanjiecefioffaa.u64) * (Go.Proofs.Ytanjiecefioffaa.blk w3.heap.size (.cells #[.int .u64 x] 22 (0, 0)) * (isHeap V2 S2 * (isSt X2 V2.g Y2 * (Go.Proofs.Ytanjiecefioffaa.blk gb (dmO [.int .i64 kind, .int .i64 n, .bool neg, .slice am mag.length cm, .string text, .slice ai items.length ci, .slice ar rest.length cr]) * R))))) := (H3.out.2.1.s.alloc (.cells #[.int .u64 x] 22)).perm (by ac_rfl)
        have hnew : (w3.alloc (.cells #[.int .u64 x] 22)).cell? ⟨w3.heap.size, 0, none⟩ = some (.int .u64 x) := (hs7.right.left.cell 0).trans rfl
        have hb7 : Below 0 w (w3.alloc (.cells #[.int .u64 x] 22)) := (HK.out.2.2.2.2.2.2.2.1.trans H3.out.2.2.2.2.2.2.2).trans (Below.zero_alloc _ _)
        generalize w3.alloc (.cells #[.int .u64 x] 22) = w7 at *
        generalize w3.heap.size = bn at *
        obtain ⟨hi, hz0, hz1, hz2⟩ := H1.out
        have hlx : (xs.map Go.Proofs.Ytanjiecefioffaa.u64).length = k := by rw [List.length_map]; exact HK.out.2.2.2.2.2.1
        refine wpList_append_one rfl (.tmp 29) (.tmp 31) 35 rfl 22 i0 (.int .u64 0) 8 Try.underlying35 hi hz0 hz1 hz2 rfl u8 k (xs.map Go.Proofs.Ytanjiecefioffaa.u64) rfl _ bn (.int .u64 x) rfl ?_ hs7 hnew rfl (by omega) (by unfold maxLen; omega)
        clear hi hz0 hz1 hz2 hnew hs7
        intro v' w9 hs9 hb9
        have HQ := Lib.hid (And.intro hs9 (hb7.trans hb9))
        clear hs9 hb9 hb7
        go_wp2_with fail
        go_roundw
        case rel =>
          have hxl := HK.out.2.2.2.2.2.1
          refine ⟨k + 1, X2, V2, S2, Y2, xs ++ [x], by omega, by go_num, ⟨H3.out.1.1.trans HK.out.1.1, H3.out.1.2.trans HK.out.1.2⟩, ⟨?_, H3.out.2.1.ok⟩, H3.out.2.2.1, ⟨HK.out.2.2.1.1.trans H3.out.2.2.2.1.1, H3.out.2.2.2.1.2.1.trans HK.out.2.2.1.2.1, H3.out.2.2.2.1.2.2.trans HK.out.2.2.1.2.2⟩, fun s v h => H3.out.2.2.2.2.1 s v (HK.out.2.2.2.1 s v h), ⟨?_, by simp [hxl], ?_⟩, HQ.out.2⟩
          · rw [List.map_append, List.map_cons, List.map_nil]
            have h12 : sat w9 (Go.Proofs.Ytanjiecefioffaa.blk bn (.cells #[.int .u64 x] 22 (0, 0)) * (Go.Proofs.Ytanjiecefioffaa.blk gb (dmO [.int .i64 kind, .int .i64 n, .bool neg, .slice am mag.length cm, .string text, .slice ai items.length ci, .slice ar rest.length cr]) * (isHeap V2 S2 * (isSt X2 V2.g Y2 * (own 22 1 v' (k + 1) (xs.map Go.Proofs.Ytanjiecefioffaa.u64 ++ [.int .u64 x]) * R))))) := HQ.out.1.perm (by ac_rfl)
            exact h12.right.right
          · intro y hy
            rcases List.mem_append.1 hy with hy | hy
            · exact HK.out.2.2.2.2.1 y hy
            · rw [List.mem_singleton.1 hy]; exact H3.out.2.2.2.2.2.1
          · intro i d' x' hd hx
            rw [HK.out.2.2.2.2.2.2.2.2] at hd
            have htl : (l.take k).length = k := by rw [List.length_take]; omega
            by_cases hi : i < k
            · rw [List.getElem?_append_left (by omega)] at hd
              rw [List.getElem?_append_left (by omega)] at hx
              exact (HK.out.2.2.2.2.2.2.1 i d' x' hd hx).ext H3.out.2.2.2.1.1 HK.out.2.1.wf
            · rw [List.getElem?_append_right (by omega), htl] at hd
              rw [List.getElem?_append_right (by omega), hxl] at hx
              cases List.mem_singleton.1 (List.mem_of_getElem? hd)
              cases List.mem_singleton.1 (List.mem_of_getElem? hx)
              exact H3.out.2.2.2.2.2.2.1
        case measure => simp [intOf]; omega
    · obtain rfl : k = l.length := by omega
      have hge : decide ((l.length : Int) < (l.length : Int)) = false := by simp
      rw [List.take_of_length_le (Nat.le_refl _)] at hxi
      have hpost : AllPost X V S Y R l w (.returned (.tuple #[u8, .bool true])) wr := ⟨X1, V1, S1, Y1, u8, xs, true, rfl, hg1, by rw [hxl]; exact h1, hy1, he1, hm1, ⟨hxb, fun _ => ⟨hxl, hxi⟩⟩, hb1⟩
      have HP := Lib.hid hpost
      clear hpost h1 hg1 hy1 he1 hm1 hxb hxl hxi hb1
      go_wp2_with fail
      go_ret2
      exact HP.out
end
end Go.Proofs.Ytanjiecefioffaa

/- value.Store: take and Take of a text. -/
namespace Go.Proofs.Ytanjiecefioffaa
open Go.RowKit

/-- The cells of a datum that is a text. -/
def textD (s : ByteArray) : Value := .agg #[.int .i64 4, .int .i64 0, .bool false, .slice none 0 0, .string s, .slice none 0 0, .slice none 0 0]
section
variable {w : World} {X : StV} {V : HV} {S : HS} {Y : StS} {R : HP}
set_option maxRecDepth 100000 in
set_option maxHeartbeats 2000000 in
theorem StW.take_text (gl : Nat) (n deep : Int) (h : StW w X V S Y (Go.Proofs.Ytanjiecefioffaa.blk gl (.cells #[.int .i64 n] 3 (0, 0)) * R)) (hn : 0 < n ∧ n ≤ 20000) (hd : 0 < deep ∧ deep ≤ 100) (x : Int) (x0 : 0 ≤ x) (x1 : x < 18446744073709551616)
    (hnum : S.num x = none) (hb : S.bytesOk x = true) :
    Calls Try.prog 60 #[.pointer (some ⟨X.g, 0, none⟩), .int .u64 x, .pointer (some ⟨gl, 0, none⟩), .int .i64 deep] w fun e w' => e = .returned (.tuple #[textD (strOfNums (S.bytes x)), .bool true]) ∧
      StW w' X V S Y (Go.Proofs.Ytanjiecefioffaa.blk gl (.cells #[.int .i64 (n - 1)] 3 (0, 0)) * R) ∧ Below 0 w w' := by
  have hs : sat w (Go.Proofs.Ytanjiecefioffaa.blk gl (.cells #[.int .i64 n] 3 (0, 0)) * (isHeap V S * (isSt X V.g Y * R))) := h.s.perm (by ac_rfl)
  have c1 : w.cell? ⟨gl, 0, none⟩ = some (.int .i64 n) := (hs.left.cell 0).trans rfl
  have f1 := hs.left.frozen 0
  have cA : ∀ o, (w.alloc o).cell? ⟨gl, 0, none⟩ = some (.int .i64 n) := fun o => ((hs.alloc o).right.left.cell 0).trans rfl
  have fA : ∀ o, (w.alloc o).frozen? ⟨gl, 0, none⟩ = false := fun o => (hs.alloc o).right.left.frozen 0
  obtain ⟨Z, hZ⟩ : ∃ Z : Obj, Z = .cells #[.int .i64 0, .int .i64 0, .bool false, .slice none 0 0, .string ⟨#[]⟩, .slice none 0 0, .slice none 0 0] 54 := ⟨_, rfl⟩
  have hs2 : sat ((w.alloc Z).setCell ⟨gl, 0, none⟩ (.int .i64 (n - 1))) (Go.Proofs.Ytanjiecefioffaa.blk gl (.cells #[.int .i64 (n - 1)] 3 (0, 0)) * (Go.Proofs.Ytanjiecefioffaa.blk w.heap.size Z * (isHeap V S * (isSt X V.g Y * R)))) :=
    (show sat (w.alloc Z) (Go.Proofs.Ytanjiecefioffaa.blk gl (.cells #[.int .i64 n] 3 (0, 0)) * (Go.Proofs.Ytanjiecefioffaa.blk w.heap.size Z * (isHeap V S * (isSt X V.g Y * R)))) from (hs.alloc Z).perm (by ac_rfl)).setCell (off := 0) (.int .i64 (n - 1))
  have h2 : StW ((w.alloc Z).setCell ⟨gl, 0, none⟩ (.int .i64 (n - 1))) X V S Y (Go.Proofs.Ytanjiecefioffaa.blk w.heap.size Z * (Go.Proofs.Ytanjiecefioffaa.blk gl (.cells #[.int .i64 (n - 1)] 3 (0, 0)) * R)) := ⟨hs2.perm (by ac_rfl), h.ok⟩
  have hb2 : Below 0 w ((w.alloc Z).setCell ⟨gl, 0, none⟩ (.int .i64 (n - 1))) := (Below.zero_alloc w Z).setCell (p := ⟨gl, 0, none⟩) (Nat.zero_le _) _
  clear hs2
  rw [hZ] at h2 hb2
  clear hZ
  have g1 : IntKind.i64.wrap (n - 1) = n - 1 := IntWalk.i64_in _ (by omega)
  have g2 : decide (n ≤ 0) = false := by simp; omega
  have g3 : (deep == 0) = false := by simp; omega
  have HX := Lib.hid (And.intro h2 (And.intro hb2 (And.intro hnum hb)))
  clear h h2 hs hb2 hnum hb
  go_enter Try.func60, Try.ntmps60
  go_wp2_with fail
  have hN := HX.out.1.Num x x0 x1
  rw [HX.out.2.2.1] at hN
  clear c1 f1 cA fA
  generalize hw2 : (w.alloc (.cells #[.int .i64 0, .int .i64 0, .bool false, .slice none 0 0, .string ⟨#[]⟩, .slice none 0 0, .slice none 0 0] 54)).setCell ⟨gl, 0, none⟩ (.int .i64 (n - 1)) = w2 at *
  with_reducible refine hN.mono ?_
  rintro e w3 ⟨ao, ac, rfl, hac, h3, hb3⟩
  simp only [Option.getD_none, Option.isSome_none] at h3 ⊢
  obtain ⟨P, hP⟩ : ∃ P, decide ((0 : Int) < 0) = P := ⟨_, rfl⟩
  rw [hP]
  generalize (limbsOf (0 : Int).natAbs).length = nl at *
  have hp := h3.push (.cells #[.bool P, .slice ao nl ac] 51)
  have hB := hp.Bytes x x0 x1
  unfold BytesPost at hB
  rw [HX.out.2.2.2] at hB
  have HB := Lib.hid (And.intro h3 (And.intro hb3 hp))
  clear hN h3 hb3 hp hac
  go_wp2_with fail
  with_reducible refine hB.mono ?_
  rintro e w4 ⟨v, rfl, h4, hb4⟩
  have hso : sat w4 (Go.Proofs.Ytanjiecefioffaa.blk w.heap.size (.cells #[.int .i64 0, .int .i64 0, .bool false, .slice none 0 0, .string ⟨#[]⟩, .slice none 0 0, .slice none 0 0] 54 (0, 0)) * (own 5 1 v (S.bytes x).length ((S.bytes x).map u8v) * (isHeap V S * (isSt X V.g Y * (Go.Proofs.Ytanjiecefioffaa.blk gl (.cells #[.int .i64 (n - 1)] 3 (0, 0)) * R))))) :=
    (h4.s.perm (show _ = (Go.Proofs.Ytanjiecefioffaa.blk w3.heap.size (.cells #[.bool P, .slice ao nl ac] 51 (0, 0)) * own 70 1 (.slice ao nl ac) nl ((limbsOf (0 : Int).natAbs).map u32v)) * (Go.Proofs.Ytanjiecefioffaa.blk w.heap.size (.cells #[.int .i64 0, .int .i64 0, .bool false, .slice none 0 0, .string ⟨#[]⟩, .slice none 0 0, .slice none 0 0] 54 (0, 0)) * (own 5 1 v (S.bytes x).length ((S.bytes x).map u8v) * (isHeap V S * (isSt X V.g Y * (Go.Proofs.Ytanjiecefioffaa.blk gl (.cells #[.int .i64 (n - 1)] 3 (0, 0)) * R))))) by ac_rfl)).right
  have hcv := run_own_string (P := Try.prog) 44 9 5 Try.underlying44 Try.underlying5 Try.underlying9 (bs := S.bytes x) rfl (hso.perm (show _ = own 5 1 v (S.bytes x).length ((S.bytes x).map u8v) * (Go.Proofs.Ytanjiecefioffaa.blk w.heap.size (.cells #[.int .i64 0, .int .i64 0, .bool false, .slice none 0 0, .string ⟨#[]⟩, .slice none 0 0, .slice none 0 0] 54 (0, 0)) * (isHeap V S * (isSt X V.g Y * (Go.Proofs.Ytanjiecefioffaa.blk gl (.cells #[.int .i64 (n - 1)] 3 (0, 0)) * R)))) by ac_rfl))
  have c0 := (hso.left.cell 0).trans rfl
  have c1 := (hso.left.cell 1).trans rfl
  have c2 := (hso.left.cell 2).trans rfl
  have c3 := (hso.left.cell 3).trans rfl
  have c4 := (hso.left.cell 4).trans rfl
  have c5 := (hso.left.cell 5).trans rfl
  have c6 := (hso.left.cell 6).trans rfl
  have f0 := hso.left.frozen 0
  have f1 := hso.left.frozen 1
  have f2 := hso.left.frozen 2
  have f3 := hso.left.frozen 3
  have f4 := hso.left.frozen 4
  have f5 := hso.left.frozen 5
  have f6 := hso.left.frozen 6
  have hb5 := (HX.out.2.1.trans HB.out.2.1).trans ((Below.zero_alloc w3 (.cells #[.bool P, .slice ao nl ac] 51)).trans hb4)
  have HF := Lib.hid (And.intro hso (And.intro h4.ok hb5))
  clear hso h4 hb4 hb5 hB
  obtain ⟨sx, hsx⟩ : ∃ sx, strOfNums (S.bytes x) = sx := ⟨_, rfl⟩
  rw [hsx] at hcv
  have HSX := Lib.hid hsx
  clear hsx
  go_wp2_with fail
  have hs7 := ((((((HF.out.1.setCell (off := 0) (.int .i64 4)).setCell (off := 1) (.int .i64 0)).setCell (off := 2) (.bool false)).setCell (off := 3) (.slice none 0 0)).setCell (off := 4) (.string sx)).setCell (off := 5) (.slice none 0 0)).setCell (off := 6) (.slice none 0 0)
  have hb7 := ((((((HF.out.2.2.setCell (p := ⟨w.heap.size, 0, none⟩) (Nat.zero_le _) (.int .i64 4)).setCell (p := ⟨w.heap.size, 1, none⟩) (Nat.zero_le _) (.int .i64 0)).setCell (p := ⟨w.heap.size, 2, none⟩) (Nat.zero_le _) (.bool false)).setCell (p := ⟨w.heap.size, 3, none⟩) (Nat.zero_le _) (.slice none 0 0)).setCell (p := ⟨w.heap.size, 4, none⟩) (Nat.zero_le _) (.string sx)).setCell (p := ⟨w.heap.size, 5, none⟩) (Nat.zero_le _) (.slice none 0 0)).setCell (p := ⟨w.heap.size, 6, none⟩) (Nat.zero_le _) (.slice none 0 0)
  clear c0 c1 c2 c3 c4 c5 c6 f0 f1 f2 f3 f4 f5 f6 hcv
  generalize ((((((w4.setCell ⟨w.heap.size, 0, none⟩ (.int .i64 4)).setCell ⟨w.heap.size, 1, none⟩ (.int .i64 0)).setCell ⟨w.heap.size, 2, none⟩ (.bool false)).setCell ⟨w.heap.size, 3, none⟩ (.slice none 0 0)).setCell ⟨w.heap.size, 4, none⟩ (.string sx)).setCell ⟨w.heap.size, 5, none⟩ (.slice none 0 0)).setCell ⟨w.heap.size, 6, none⟩ (.slice none 0 0) = w7 at *
  have r0 : w7.cell? ⟨w.heap.size, 0, none⟩ = some (.int .i64 4) := (hs7.left.cell 0).trans rfl
  have r1 : w7.cell? ⟨w.heap.size, 1, none⟩ = some (.int .i64 0) := (hs7.left.cell 1).trans rfl
  have r2 : w7.cell? ⟨w.heap.size, 2, none⟩ = some (.bool false) := (hs7.left.cell 2).trans rfl
  have r3 : w7.cell? ⟨w.heap.size, 3, none⟩ = some (.slice none 0 0) := (hs7.left.cell 3).trans rfl
  have r4 : w7.cell? ⟨w.heap.size, 4, none⟩ = some (.string sx) := (hs7.left.cell 4).trans rfl
  have r5 : w7.cell? ⟨w.heap.size, 5, none⟩ = some (.slice none 0 0) := (hs7.left.cell 5).trans rfl
  have r6 : w7.cell? ⟨w.heap.size, 6, none⟩ = some (.slice none 0 0) := (hs7.left.cell 6).trans rfl
  refine bodyPost_ret (v := .tuple #[textD sx, .bool true]) (by simp [results, Try.results60, go_sem, r0, r1, r2, r3, r4, r5, r6, textD]) rfl ⟨by rw [HSX.out], ⟨?_, HF.out.2.1⟩, hb7⟩
  exact hs7.right.right.perm (by ac_rfl)
set_option maxRecDepth 100000 in
set_option maxHeartbeats 2000000 in
theorem StW.Take_text (h : StW w X V S Y R) (most : Int) (hm : 0 < most ∧ most ≤ 20000) (x : Int) (x0 : 0 ≤ x) (x1 : x < 18446744073709551616)
    (hnum : S.num x = none) (hb : S.bytesOk x = true) :
    Calls Try.prog 28 #[.pointer (some ⟨X.g, 0, none⟩), .int .u64 x, .int .i64 most] w (StKeeps X V S Y R (.tuple #[textD (strOfNums (S.bytes x)), .bool true]) w) := by
  have g1 : decide (most ≤ 20000) = true := by simp; omega
  have HH := Lib.hid h
  clear h
  go_enter Try.func28, Try.ntmps28
  go_wp2_with fail
  have hp0 := (HH.out.push (.cells #[.int .i64 0, .int .i64 0, .bool false, .slice none 0 0, .string ⟨#[]⟩, .slice none 0 0, .slice none 0 0] 54)).push (.cells #[.int .i64 most] 3)
  rw [World.size_alloc] at hp0
  have hbp : Below 0 w ((w.alloc (.cells #[.int .i64 0, .int .i64 0, .bool false, .slice none 0 0, .string ⟨#[]⟩, .slice none 0 0, .slice none 0 0] 54)).alloc (.cells #[.int .i64 most] 3)) := (Below.zero_alloc _ _).trans (Below.zero_alloc _ _)
  have hT := StW.take_text (w.heap.size + 1) most 100 hp0 hm (by omega) x x0 x1 hnum hb
  obtain ⟨sx, hsx⟩ : ∃ sx, strOfNums (S.bytes x) = sx := ⟨_, rfl⟩
  rw [hsx] at hT
  have HB := Lib.hid (And.intro hbp hsx)
  clear hp0 hbp hsx
  with_reducible refine hT.mono ?_
  rintro e w3 ⟨rfl, h3, hb3⟩
  unfold textD
  have h4 := h3.push (.cells #[.int .i64 4, .int .i64 0, .bool false, .slice none 0 0, .string sx, .slice none 0 0, .slice none 0 0] 54)
  have h5 : sat (w3.alloc (.cells #[.int .i64 4, .int .i64 0, .bool false, .slice none 0 0, .string sx, .slice none 0 0, .slice none 0 0] 54)) (Go.Proofs.Ytanjiecefioffaa.blk w.heap.size (.cells #[.int .i64 0, .int .i64 0, .bool false, .slice none 0 0, .string ⟨#[]⟩, .slice none 0 0, .slice none 0 0] 54 (0, 0)) * ((Go.Proofs.Ytanjiecefioffaa.blk w3.heap.size (.cells #[.int .i64 4, .int .i64 0, .bool false, .slice none 0 0, .string sx, .slice none 0 0, .slice none 0 0] 54 (0, 0)) * Go.Proofs.Ytanjiecefioffaa.blk (w.heap.size + 1) (.cells #[.int .i64 (most - 1)] 3 (0, 0))) * (isHeap V S * (isSt X V.g Y * R)))) := h4.s.perm (by ac_rfl)
  have hb5 := (HB.out.1.trans hb3).trans (Below.zero_alloc w3 (.cells #[.int .i64 4, .int .i64 0, .bool false, .slice none 0 0, .string sx, .slice none 0 0, .slice none 0 0] 54))
  have HG := Lib.hid h4.ok
  clear h3 hb3 h4 hT
  have c0 := (h5.left.cell 0).trans rfl
  have f0 := h5.left.frozen 0
  have c1 := (h5.left.cell 1).trans rfl
  have f1 := h5.left.frozen 1
  have c2 := (h5.left.cell 2).trans rfl
  have f2 := h5.left.frozen 2
  have c3 := (h5.left.cell 3).trans rfl
  have f3 := h5.left.frozen 3
  have c4 := (h5.left.cell 4).trans rfl
  have f4 := h5.left.frozen 4
  have c5 := (h5.left.cell 5).trans rfl
  have f5 := h5.left.frozen 5
  have c6 := (h5.left.cell 6).trans rfl
  have f6 := h5.left.frozen 6
  have hs7 := (((((((h5.setCell (off := 0) (.int .i64 4)).setCell (off := 1) (.int .i64 0)).setCell (off := 2) (.bool false)).setCell (off := 3) (.slice none 0 0)).setCell (off := 4) (.string sx)).setCell (off := 5) (.slice none 0 0)).setCell (off := 6) (.slice none 0 0))
  have hb7 := (((((((hb5.setCell (p := ⟨w.heap.size, 0, none⟩) (Nat.zero_le _) (.int .i64 4)).setCell (p := ⟨w.heap.size, 1, none⟩) (Nat.zero_le _) (.int .i64 0)).setCell (p := ⟨w.heap.size, 2, none⟩) (Nat.zero_le _) (.bool false)).setCell (p := ⟨w.heap.size, 3, none⟩) (Nat.zero_le _) (.slice none 0 0)).setCell (p := ⟨w.heap.size, 4, none⟩) (Nat.zero_le _) (.string sx)).setCell (p := ⟨w.heap.size, 5, none⟩) (Nat.zero_le _) (.slice none 0 0)).setCell (p := ⟨w.heap.size, 6, none⟩) (Nat.zero_le _) (.slice none 0 0))
  have HS7 := Lib.hid (And.intro hs7 hb7)
  clear hs7 hb7 h5 hb5
  go_wp2_with fail
  clear c0 f0 c1 f1 c2 f2 c3 f3 c4 f4 c5 f5 c6 f6
  obtain ⟨hs7, hb7⟩ := HS7.out
  clear HS7
  generalize ((((((((w3.alloc (.cells #[.int .i64 4, .int .i64 0, .bool false, .slice none 0 0, .string sx, .slice none 0 0, .slice none 0 0] 54)).setCell ⟨w.heap.size, 0, none⟩ (.int .i64 4)).setCell ⟨w.heap.size, 1, none⟩ (.int .i64 0)).setCell ⟨w.heap.size, 2, none⟩ (.bool false)).setCell ⟨w.heap.size, 3, none⟩ (.slice none 0 0)).setCell ⟨w.heap.size, 4, none⟩ (.string sx)).setCell ⟨w.heap.size, 5, none⟩ (.slice none 0 0)).setCell ⟨w.heap.size, 6, none⟩ (.slice none 0 0)) = w7 at *
  have r0 : w7.cell? ⟨w.heap.size, 0, none⟩ = some (.int .i64 4) := (hs7.left.cell 0).trans rfl
  have r1 : w7.cell? ⟨w.heap.size, 1, none⟩ = some (.int .i64 0) := (hs7.left.cell 1).trans rfl
  have r2 : w7.cell? ⟨w.heap.size, 2, none⟩ = some (.bool false) := (hs7.left.cell 2).trans rfl
  have r3 : w7.cell? ⟨w.heap.size, 3, none⟩ = some (.slice none 0 0) := (hs7.left.cell 3).trans rfl
  have r4 : w7.cell? ⟨w.heap.size, 4, none⟩ = some (.string sx) := (hs7.left.cell 4).trans rfl
  have r5 : w7.cell? ⟨w.heap.size, 5, none⟩ = some (.slice none 0 0) := (hs7.left.cell 5).trans rfl
  have r6 : w7.cell? ⟨w.heap.size, 6, none⟩ = some (.slice none 0 0) := (hs7.left.cell 6).trans rfl
  refine bodyPost_ret (v := .tuple #[textD sx, .bool true]) (by simp [results, Try.results28, go_sem, r0, r1, r2, r3, r4, r5, r6, textD]) rfl ⟨by rw [HB.out.2], ⟨?_, HG.out⟩, hb7⟩
  exact hs7.right.right
end
end Go.Proofs.Ytanjiecefioffaa

/- value.Store: take of a number; take where no step is left. -/
namespace Go.Proofs.Ytanjiecefioffaa
open Go.RowKit

/-- The cells of a datum that is a number. -/
def numD (P : Bool) (ao : Option Addr) (nl ac : Nat) : Value := .agg #[.int .i64 1, .int .i64 0, .bool P, .slice ao nl ac, .string ⟨#[]⟩, .slice none 0 0, .slice none 0 0]
def zeroD : Value := .agg #[.int .i64 0, .int .i64 0, .bool false, .slice none 0 0, .string ⟨#[]⟩, .slice none 0 0, .slice none 0 0]
section
variable {w : World} {X : StV} {V : HV} {S : HS} {Y : StS} {R : HP}
set_option maxRecDepth 100000 in
set_option maxHeartbeats 2000000 in
theorem StW.take_num (gl : Nat) (n deep : Int) (h : StW w X V S Y (Go.Proofs.Ytanjiecefioffaa.blk gl (.cells #[.int .i64 n] 3 (0, 0)) * R)) (hn : 0 < n ∧ n ≤ 20000) (hd : 0 < deep ∧ deep ≤ 100) (x : Int) (x0 : 0 ≤ x) (x1 : x < 18446744073709551616)
    (v : Int) (hnum : S.num x = some v) :
    Calls Try.prog 60 #[.pointer (some ⟨X.g, 0, none⟩), .int .u64 x, .pointer (some ⟨gl, 0, none⟩), .int .i64 deep] w fun e w' => ∃ ao cap, e = .returned (.tuple #[numD (decide (v < 0)) ao (limbsOf v.natAbs).length cap, .bool true]) ∧
      (limbsOf v.natAbs).length ≤ cap ∧ StW w' X V S Y (Go.Proofs.Ytanjiecefioffaa.blk gl (.cells #[.int .i64 (n - 1)] 3 (0, 0)) * (own 70 1 (.slice ao (limbsOf v.natAbs).length cap) (limbsOf v.natAbs).length ((limbsOf v.natAbs).map u32v) * R)) ∧ Below 0 w w' := by
  have hs : sat w (Go.Proofs.Ytanjiecefioffaa.blk gl (.cells #[.int .i64 n] 3 (0, 0)) * (isHeap V S * (isSt X V.g Y * R))) := h.s.perm (by ac_rfl)
  have cA : ∀ o, (w.alloc o).cell? ⟨gl, 0, none⟩ = some (.int .i64 n) := fun o => ((hs.alloc o).right.left.cell 0).trans rfl
  have fA : ∀ o, (w.alloc o).frozen? ⟨gl, 0, none⟩ = false := fun o => (hs.alloc o).right.left.frozen 0
  obtain ⟨Z, hZ⟩ : ∃ Z : Obj, Z = .cells #[.int .i64 0, .int .i64 0, .bool false, .slice none 0 0, .string ⟨#[]⟩, .slice none 0 0, .slice none 0 0] 54 := ⟨_, rfl⟩
  have hs2 : sat ((w.alloc Z).setCell ⟨gl, 0, none⟩ (.int .i64 (n - 1))) (Go.Proofs.Ytanjiecefioffaa.blk gl (.cells #[.int .i64 (n - 1)] 3 (0, 0)) * (Go.Proofs.Ytanjiecefioffaa.blk w.heap.size Z * (isHeap V S * (isSt X V.g Y * R)))) :=
    (show sat (w.alloc Z) (Go.Proofs.Ytanjiecefioffaa.blk gl (.cells #[.int .i64 n] 3 (0, 0)) * (Go.Proofs.Ytanjiecefioffaa.blk w.heap.size Z * (isHeap V S * (isSt X V.g Y * R)))) from (hs.alloc Z).perm (by ac_rfl)).setCell (off := 0) (.int .i64 (n - 1))
  have h2 : StW ((w.alloc Z).setCell ⟨gl, 0, none⟩ (.int .i64 (n - 1))) X V S Y (Go.Proofs.Ytanjiecefioffaa.blk w.heap.size Z * (Go.Proofs.Ytanjiecefioffaa.blk gl (.cells #[.int .i64 (n - 1)] 3 (0, 0)) * R)) := ⟨hs2.perm (by ac_rfl), h.ok⟩
  have hb2 : Below 0 w ((w.alloc Z).setCell ⟨gl, 0, none⟩ (.int .i64 (n - 1))) := (Below.zero_alloc w Z).setCell (p := ⟨gl, 0, none⟩) (Nat.zero_le _) _
  clear hs2
  rw [hZ] at h2 hb2
  clear hZ
  have g1 : IntKind.i64.wrap (n - 1) = n - 1 := IntWalk.i64_in _ (by omega)
  have g2 : decide (n ≤ 0) = false := by simp; omega
  have g3 : (deep == 0) = false := by simp; omega
  have HX := Lib.hid (And.intro h2 (And.intro hb2 hnum))
  clear h h2 hs hb2 hnum
  go_enter Try.func60, Try.ntmps60
  go_wp2_with fail
  have hN := HX.out.1.Num x x0 x1
  rw [HX.out.2.2] at hN
  clear cA fA
  generalize hw2 : (w.alloc (.cells #[.int .i64 0, .int .i64 0, .bool false, .slice none 0 0, .string ⟨#[]⟩, .slice none 0 0, .slice none 0 0] 54)).setCell ⟨gl, 0, none⟩ (.int .i64 (n - 1)) = w2 at *
  with_reducible refine hN.mono ?_
  rintro e w3 ⟨ao, ac, rfl, hac, h3, hb3⟩
  simp only [Option.getD_some, Option.isSome_some] at h3 hac ⊢
  obtain ⟨P, hP⟩ : ∃ P, decide (v < 0) = P := ⟨_, rfl⟩
  obtain ⟨nl, hnl⟩ : ∃ nl, (limbsOf v.natAbs).length = nl := ⟨_, rfl⟩
  rw [hP, hnl]
  rw [hnl] at h3 hac
  have hp := h3.push (.cells #[.bool P, .slice ao nl ac] 51)
  have hso : sat (w3.alloc (.cells #[.bool P, .slice ao nl ac] 51)) (Go.Proofs.Ytanjiecefioffaa.blk w.heap.size (.cells #[.int .i64 0, .int .i64 0, .bool false, .slice none 0 0, .string ⟨#[]⟩, .slice none 0 0, .slice none 0 0] 54 (0, 0)) * (Go.Proofs.Ytanjiecefioffaa.blk w3.heap.size (.cells #[.bool P, .slice ao nl ac] 51 (0, 0)) * (isHeap V S * (isSt X V.g Y * (Go.Proofs.Ytanjiecefioffaa.blk gl (.cells #[.int .i64 (n - 1)] 3 (0, 0)) * (own 70 1 (.slice ao nl ac) nl ((limbsOf v.natAbs).map u32v) * R)))))) := hp.s.perm (by ac_rfl)
  have hb5 := (HX.out.2.1.trans hb3).trans (Below.zero_alloc w3 (.cells #[.bool P, .slice ao nl ac] 51))
  have c0 := (hso.left.cell 0).trans rfl
  have f0 := hso.left.frozen 0
  have c1 := (hso.left.cell 1).trans rfl
  have f1 := hso.left.frozen 1
  have c2 := (hso.left.cell 2).trans rfl
  have f2 := hso.left.frozen 2
  have c3 := (hso.left.cell 3).trans rfl
  have f3 := hso.left.frozen 3
  have c4 := (hso.left.cell 4).trans rfl
  have f4 := hso.left.frozen 4
  have c5 := (hso.left.cell 5).trans rfl
  have f5 := hso.left.frozen 5
  have c6 := (hso.left.cell 6).trans rfl
  have f6 := hso.left.frozen 6
  have HF := Lib.hid (And.intro hso (And.intro h3.ok (And.intro hb5 (And.intro hP (And.intro hnl hac)))))
  clear hso h3 hb3 hb5 hN hp hac hP hnl
  go_wp2_with fail
  have hs7 := (((((((HF.out.1.setCell (off := 0) (.int .i64 1)).setCell (off := 1) (.int .i64 0)).setCell (off := 2) (.bool P)).setCell (off := 3) (.slice ao nl ac)).setCell (off := 4) (.string ⟨#[]⟩)).setCell (off := 5) (.slice none 0 0)).setCell (off := 6) (.slice none 0 0))
  have hb7 := (((((((HF.out.2.2.1.setCell (p := ⟨w.heap.size, 0, none⟩) (Nat.zero_le _) (.int .i64 1)).setCell (p := ⟨w.heap.size, 1, none⟩) (Nat.zero_le _) (.int .i64 0)).setCell (p := ⟨w.heap.size, 2, none⟩) (Nat.zero_le _) (.bool P)).setCell (p := ⟨w.heap.size, 3, none⟩) (Nat.zero_le _) (.slice ao nl ac)).setCell (p := ⟨w.heap.size, 4, none⟩) (Nat.zero_le _) (.string ⟨#[]⟩)).setCell (p := ⟨w.heap.size, 5, none⟩) (Nat.zero_le _) (.slice none 0 0)).setCell (p := ⟨w.heap.size, 6, none⟩) (Nat.zero_le _) (.slice none 0 0))
  clear c0 f0 c1 f1 c2 f2 c3 f3 c4 f4 c5 f5 c6 f6
  generalize ((((((((w3.alloc (.cells #[.bool P, .slice ao nl ac] 51)).setCell ⟨w.heap.size, 0, none⟩ (.int .i64 1)).setCell ⟨w.heap.size, 1, none⟩ (.int .i64 0)).setCell ⟨w.heap.size, 2, none⟩ (.bool P)).setCell ⟨w.heap.size, 3, none⟩ (.slice ao nl ac)).setCell ⟨w.heap.size, 4, none⟩ (.string ⟨#[]⟩)).setCell ⟨w.heap.size, 5, none⟩ (.slice none 0 0)).setCell ⟨w.heap.size, 6, none⟩ (.slice none 0 0)) = w7 at *
  have r0 : w7.cell? ⟨w.heap.size, 0, none⟩ = some (.int .i64 1) := (hs7.left.cell 0).trans rfl
  have r1 : w7.cell? ⟨w.heap.size, 1, none⟩ = some (.int .i64 0) := (hs7.left.cell 1).trans rfl
  have r2 : w7.cell? ⟨w.heap.size, 2, none⟩ = some (.bool P) := (hs7.left.cell 2).trans rfl
  have r3 : w7.cell? ⟨w.heap.size, 3, none⟩ = some (.slice ao nl ac) := (hs7.left.cell 3).trans rfl
  have r4 : w7.cell? ⟨w.heap.size, 4, none⟩ = some (.string ⟨#[]⟩) := (hs7.left.cell 4).trans rfl
  have r5 : w7.cell? ⟨w.heap.size, 5, none⟩ = some (.slice none 0 0) := (hs7.left.cell 5).trans rfl
  have r6 : w7.cell? ⟨w.heap.size, 6, none⟩ = some (.slice none 0 0) := (hs7.left.cell 6).trans rfl
  refine bodyPost_ret (v := .tuple #[numD P ao nl ac, .bool true]) (by simp [results, Try.results60, go_sem, r0, r1, r2, r3, r4, r5, r6, numD]) rfl ⟨ao, ac, by rw [HF.out.2.2.2.1, HF.out.2.2.2.2.1], by rw [HF.out.2.2.2.2.1]; exact HF.out.2.2.2.2.2, ⟨?_, HF.out.2.1⟩, hb7⟩
  rw [HF.out.2.2.2.2.1]
  exact hs7.right.right
set_option maxRecDepth 100000 in
theorem StW.take_out (gl : Nat) (deep : Int) (h : StW w X V S Y (Go.Proofs.Ytanjiecefioffaa.blk gl (.cells #[.int .i64 0] 3 (0, 0)) * R)) (x : Int) :
    Calls Try.prog 60 #[.pointer (some ⟨X.g, 0, none⟩), .int .u64 x, .pointer (some ⟨gl, 0, none⟩), .int .i64 deep] w fun e w' => e = .returned (.tuple #[zeroD, .bool false]) ∧
      StW w' X V S Y (Go.Proofs.Ytanjiecefioffaa.blk gl (.cells #[.int .i64 0] 3 (0, 0)) * R) ∧ Below 0 w w' := by
  have hs : sat w (Go.Proofs.Ytanjiecefioffaa.blk gl (.cells #[.int .i64 0] 3 (0, 0)) * (isHeap V S * (isSt X V.g Y * R))) := h.s.perm (by ac_rfl)
  have cA : ∀ o, (w.alloc o).cell? ⟨gl, 0, none⟩ = some (.int .i64 0) := fun o => ((hs.alloc o).right.left.cell 0).trans rfl
  have hp := h.push (.cells #[.int .i64 0, .int .i64 0, .bool false, .slice none 0 0, .string ⟨#[]⟩, .slice none 0 0, .slice none 0 0] 54)
  have hb := Below.zero_alloc w (.cells #[.int .i64 0, .int .i64 0, .bool false, .slice none 0 0, .string ⟨#[]⟩, .slice none 0 0, .slice none 0 0] 54)
  have hl := (hp.s.perm (show _ = Go.Proofs.Ytanjiecefioffaa.blk w.heap.size (.cells #[.int .i64 0, .int .i64 0, .bool false, .slice none 0 0, .string ⟨#[]⟩, .slice none 0 0, .slice none 0 0] 54 (0, 0)) * (isHeap V S * (isSt X V.g Y * (Go.Proofs.Ytanjiecefioffaa.blk gl (.cells #[.int .i64 0] 3 (0, 0)) * R))) by ac_rfl))
  have HH := Lib.hid (And.intro hp (And.intro hb hl))
  clear h hs hp hb hl
  go_enter Try.func60, Try.ntmps60
  go_wp2_with fail
  clear cA
  generalize w.alloc (.cells #[.int .i64 0, .int .i64 0, .bool false, .slice none 0 0, .string ⟨#[]⟩, .slice none 0 0, .slice none 0 0] 54) = w7 at *
  have r0 : w7.cell? ⟨w.heap.size, 0, none⟩ = some (.int .i64 0) := (HH.out.2.2.left.cell 0).trans rfl
  have r1 : w7.cell? ⟨w.heap.size, 1, none⟩ = some (.int .i64 0) := (HH.out.2.2.left.cell 1).trans rfl
  have r2 : w7.cell? ⟨w.heap.size, 2, none⟩ = some (.bool false) := (HH.out.2.2.left.cell 2).trans rfl
  have r3 : w7.cell? ⟨w.heap.size, 3, none⟩ = some (.slice none 0 0) := (HH.out.2.2.left.cell 3).trans rfl
  have r4 : w7.cell? ⟨w.heap.size, 4, none⟩ = some (.string ⟨#[]⟩) := (HH.out.2.2.left.cell 4).trans rfl
  have r5 : w7.cell? ⟨w.heap.size, 5, none⟩ = some (.slice none 0 0) := (HH.out.2.2.left.cell 5).trans rfl
  have r6 : w7.cell? ⟨w.heap.size, 6, none⟩ = some (.slice none 0 0) := (HH.out.2.2.left.cell 6).trans rfl
  refine bodyPost_ret (v := .tuple #[zeroD, .bool false]) (by simp [results, Try.results60, go_sem, r0, r1, r2, r3, r4, r5, r6, zeroD]) rfl ⟨rfl, ⟨HH.out.2.2.right.perm (by ac_rfl), HH.out.1.ok⟩, HH.out.2.1⟩
end
end Go.Proofs.Ytanjiecefioffaa

/- value.Store: takeList of a chain of numbers. -/
namespace Go.Proofs.Ytanjiecefioffaa
open Go.RowKit

theorem info_datum : (Try.prog.info? 54).map (fun i => (i.zero, i.size, i.bytes)) = some (some zeroD, 7, 112) := by kernel_rfl
abbrev Item := Int × Option Addr × Nat
def itemC (t : Item) : List Value := [.int .i64 1, .int .i64 0, .bool (decide (t.1 < 0)), .slice t.2.1 (limbsOf t.1.natAbs).length t.2.2, .string ⟨#[]⟩, .slice none 0 0, .slice none 0 0]
def itemsC (l : List Item) : List Value := l.flatMap itemC
def magP (t : Item) : HP := own 70 1 (.slice t.2.1 (limbsOf t.1.natAbs).length t.2.2) (limbsOf t.1.natAbs).length ((limbsOf t.1.natAbs).map u32v)
def magsP : List Item → HP
  | [] => emp
  | t :: l => magP t * magsP l
theorem itemsC_len (l : List Item) : (itemsC l).length = l.length * 7 := by
  unfold itemsC
  induction l with
  | nil => rfl
  | cons t l ih => rw [List.flatMap_cons, List.length_append, ih, List.length_cons]; show 7 + _ = _; omega
theorem itemsC_app (l m : List Item) : itemsC (l ++ m) = itemsC l ++ itemsC m := by unfold itemsC; simp
theorem itemsC_one (l : List Item) : ∀ u ∈ itemsC l, u.oneCell' = true := by
  intro u hu
  unfold itemsC at hu
  obtain ⟨p, _, hp⟩ := List.mem_flatMap.1 hu
  unfold itemC at hp
  simp at hp
  rcases hp with rfl | rfl | rfl | rfl | rfl | rfl | rfl <;> rfl
theorem magsP_app (l m : List Item) : magsP (l ++ m) = magsP l * magsP m := by
  induction l with
  | nil => show magsP m = emp * magsP m; rw [HP.emp_mul]
  | cons t l ih => show magP t * magsP (l ++ m) = (magP t * magsP l) * magsP m; rw [ih]; ac_rfl
/-- A chain of numbers, as far as it is looked at. -/
structure Chain (S : HS) (p : Nat → Int) (cs : Nat → Int) (N : Nat) : Prop where
  bd : ∀ k, k ≤ N → 0 ≤ p k ∧ p k < 18446744073709551616
  pair : ∀ k, k < N → S.shape (p k) 1 2 0 = true
  car : ∀ k, k < N → S.num (S.getAt (p k) 0) = some (cs k)
  cdr : ∀ k, k < N → S.getAt (p k) 1 = p (k + 1)
/-- A list's datum, before its end. -/
def listB (v : Value) : Obj := .cells #[.int .i64 6, .int .i64 0, .bool false, .slice none 0 0, .string ⟨#[]⟩, v, .slice none 0 0] 54 (0, 0)
def TcRel (W : World) (X : StV) (V : HV) (S : HS) (Y : StS) (R : HP) (gl g8 g10 : Nat) (p cs : Nat → Int) (N L : Nat) (t1 : Value) (wr : World) : Prop :=
  ∃ (k : Nat) (items : List Item) (v : Value), t1 = .int .u64 (p k) ∧ k ≤ N ∧ k ≤ L ∧ items.map (·.1) = (List.range k).map cs ∧
    StW wr X V S Y (Go.Proofs.Ytanjiecefioffaa.blk g8 (.cells #[.int .i64 0, .int .i64 0, .bool false, .slice none 0 0, .string ⟨#[]⟩, .slice none 0 0, .slice none 0 0] 54 (0, 0)) * (Go.Proofs.Ytanjiecefioffaa.blk g10 (listB v) * (own 54 7 v k (itemsC items) * (Go.Proofs.Ytanjiecefioffaa.blk gl (.cells #[.int .i64 ((L : Int) - k)] 3 (0, 0)) * (magsP items * R))))) ∧ Below 0 W wr
section
variable {w : World} {X : StV} {V : HV} {S : HS} {Y : StS} {R : HP}
/-- What takeList tells: all of it, if it ends in time. -/
def TakePost (X : StV) (V : HV) (S : HS) (Y : StS) (R : HP) (gl : Nat) (cs : Nat → Int) (N L : Nat) (w : World) (e : Ending) (w' : World) : Prop :=
  if N ≤ L then ∃ (items : List Item) (v : Value), e = .returned (.tuple #[.agg #[.int .i64 6, .int .i64 0, .bool false, .slice none 0 0, .string ⟨#[]⟩, v, .slice none 0 0], .bool true]) ∧ items.map (·.1) = (List.range N).map cs ∧
    StW w' X V S Y (own 54 7 v N (itemsC items) * (Go.Proofs.Ytanjiecefioffaa.blk gl (.cells #[.int .i64 ((L : Int) - N)] 3 (0, 0)) * (magsP items * R))) ∧ Below 0 w w'
  else e = .returned (.tuple #[zeroD, .bool false]) ∧ StW w' X V S Y R ∧ Below 0 w w'
set_option maxRecDepth 100000 in
set_option maxHeartbeats 4000000 in
theorem StW.takeList_chain (gl : Nat) (N L : Nat) (p cs : Nat → Int) (deep : Int) (hL : L ≤ 20000) (h : StW w X V S Y (Go.Proofs.Ytanjiecefioffaa.blk gl (.cells #[.int .i64 L] 3 (0, 0)) * R)) (hd : 1 < deep ∧ deep ≤ 100)
    (hc : Chain S p cs N) (hend : N ≤ L → p N = 10) (h10 : S.shape 10 1 2 0 = false) :
    Calls Try.prog 85 #[.pointer (some ⟨X.g, 0, none⟩), .int .u64 (p 0), .pointer (some ⟨gl, 0, none⟩), .int .i64 deep] w (TakePost X V S Y R gl cs N L w) := by
  obtain ⟨i0, hi, hz0, hz1, hz2⟩ := info_parts info_datum
  have H1 := Lib.hid (And.intro hi (And.intro hz0 (And.intro hz1 hz2)))
  clear hi hz0 hz1 hz2
  have h2 := (h.push (.cells #[.int .i64 0, .int .i64 0, .bool false, .slice none 0 0, .string ⟨#[]⟩, .slice none 0 0, .slice none 0 0] 54)).push (.cells #[.int .i64 6, .int .i64 0, .bool false, .slice none 0 0, .string ⟨#[]⟩, .slice none 0 0, .slice none 0 0] 54)
  rw [World.size_alloc] at h2
  have hb2 : Below 0 w ((w.alloc (.cells #[.int .i64 0, .int .i64 0, .bool false, .slice none 0 0, .string ⟨#[]⟩, .slice none 0 0, .slice none 0 0] 54)).alloc (.cells #[.int .i64 6, .int .i64 0, .bool false, .slice none 0 0, .string ⟨#[]⟩, .slice none 0 0, .slice none 0 0] 54)) := (Below.zero_alloc _ _).trans (Below.zero_alloc _ _)
  have HX := Lib.hid (And.intro h2 hb2)
  have HC := Lib.hid (And.intro hc (And.intro hend h10))
  clear h h2 hb2 hc hend h10
  go_enter Try.func85, Try.ntmps85
  go_wp2_with fail
  go_loopw [1] (TcRel w X V S Y R gl w.heap.size (w.heap.size + 1) p cs N L) (fun _ wr => (intOf ((wr.cell? ⟨gl, 0, none⟩).getD (.int .i64 0))).toNat)
  case atStart =>
    refine ⟨0, [], .slice none 0 0, rfl, Nat.zero_le _, Nat.zero_le _, rfl, ⟨?_, HX.out.1.ok⟩, HX.out.2⟩
    have := HX.out.1.s.nil_own (e := 54) (sz := 7)
    refine this.perm ?_
    show own _ _ _ _ [] * _ = isHeap V S * (isSt X V.g Y * (_ * (_ * (own _ _ _ _ [] * (Go.Proofs.Ytanjiecefioffaa.blk gl (.cells #[.int .i64 ((L : Int) - (0 : Nat))] 3 (0, 0)) * (emp * R))))))
    rw [HP.emp_mul, show ((L : Int) - (0 : Nat)) = L by omega]
    unfold listB
    ac_rfl
  case round =>
    clear HX
    obtain ⟨k, items, v, rfl, hkN, hkL, hit, hs, hb⟩ := hrel
    have bk := HC.out.1.bd k hkN
    have c0 := hs.c0
    by_cases hk : k < N
    · have hsh := hs.shape (p k) 1 2 0 bk.1 bk.2
      rw [HC.out.1.pair k hk] at hsh
      have hG0 := fun j : Nat => (hs.drewN j).Get (p k) 0 bk.1 bk.2
      have bc := hs.hw.v.get_bd (p k) 0 bk.1
      have hnum := HC.out.1.car k hk
      generalize S.getAt (p k) 0 = x at *
      generalize decide ((0 : Int) ≤ 0 ∧ 0 < S.tag (p k)) = q0 at *
      have HF := Lib.hid (And.intro hs (And.intro hb (And.intro hit hnum)))
      clear hs hb hit hnum
      go_wp2_with fail
      with_reducible refine hsh.mono ?_
      rintro e w' ⟨rfl, j1, rfl⟩
      go_wp2_with fail
      refine (hG0 j1).mono ?_
      rintro e w' ⟨rfl, j2, rfl⟩
      have h3 := (HF.out.1.drewN j1).drewN j2
      have hb3 := (HF.out.2.1.trans (drewN_below0 wr j1)).trans (drewN_below0 _ j2)
      generalize (wr.drewN j1).drewN j2 = w3 at *
      clear hsh hG0 c0
      have g1 : IntKind.i64.wrap (deep - 1) = deep - 1 := IntWalk.i64_in _ (by omega)
      by_cases hl : k < L
      · have h4 : StW w3 X V S Y (Go.Proofs.Ytanjiecefioffaa.blk gl (.cells #[.int .i64 ((L : Int) - k)] 3 (0, 0)) * (Go.Proofs.Ytanjiecefioffaa.blk w.heap.size (.cells #[.int .i64 0, .int .i64 0, .bool false, .slice none 0 0, .string ⟨#[]⟩, .slice none 0 0, .slice none 0 0] 54 (0, 0)) * (Go.Proofs.Ytanjiecefioffaa.blk (w.heap.size + 1) (listB v) * (own 54 7 v k (itemsC items) * (magsP items * R))))) := ⟨h3.s.perm (by ac_rfl), h3.ok⟩
        have hT := StW.take_num gl ((L : Int) - k) (deep - 1) h4 (by omega) (by omega) x bc.1 bc.2 (cs k) HF.out.2.2.2
        have HB := Lib.hid hb3
        clear h3 h4 hb3
        go_wp2_with fail
        with_reducible refine hT.mono ?_
        rintro e w4 ⟨ao, ac, rfl, hac, h5, hb5⟩
        unfold numD
        obtain ⟨P, hP⟩ : ∃ P, decide (cs k < 0) = P := ⟨_, rfl⟩
        obtain ⟨nl, hnl⟩ : ∃ nl, (limbsOf (cs k).natAbs).length = nl := ⟨_, rfl⟩
        rw [hP, hnl]
        have h6 := h5.push (.cells #[.int .i64 1, .int .i64 0, .bool P, .slice ao nl ac, .string ⟨#[]⟩, .slice none 0 0, .slice none 0 0] 54)
        have hso : sat (w4.alloc (.cells #[.int .i64 1, .int .i64 0, .bool P, .slice ao nl ac, .string ⟨#[]⟩, .slice none 0 0, .slice none 0 0] 54)) (Go.Proofs.Ytanjiecefioffaa.blk (w.heap.size + 1) (listB v) * (own 54 7 v k (itemsC items) * (Go.Proofs.Ytanjiecefioffaa.blk w4.heap.size (.cells #[.int .i64 1, .int .i64 0, .bool P, .slice ao nl ac, .string ⟨#[]⟩, .slice none 0 0, .slice none 0 0] 54 (0, 0)) * (isHeap V S * (isSt X V.g Y * (Go.Proofs.Ytanjiecefioffaa.blk w.heap.size (.cells #[.int .i64 0, .int .i64 0, .bool false, .slice none 0 0, .string ⟨#[]⟩, .slice none 0 0, .slice none 0 0] 54 (0, 0)) * (Go.Proofs.Ytanjiecefioffaa.blk gl (.cells #[.int .i64 ((L : Int) - k - 1)] 3 (0, 0)) * (magP (cs k, ao, ac) * (magsP items * R))))))))) := h6.s.perm (by unfold magP; ac_rfl)
        have hb6 := (HB.out.trans hb5).trans (Below.zero_alloc w4 (.cells #[.int .i64 1, .int .i64 0, .bool P, .slice ao nl ac, .string ⟨#[]⟩, .slice none 0 0, .slice none 0 0] 54))
        obtain ⟨av, cv, rfl⟩ := own_val hso.right
        have c5 := (hso.left.cell 5).trans (show _ = some (Value.slice av k cv) from rfl)
        have c5b : ∀ o, ((w4.alloc (.cells #[.int .i64 1, .int .i64 0, .bool P, .slice ao nl ac, .string ⟨#[]⟩, .slice none 0 0, .slice none 0 0] 54)).alloc o).cell? ⟨w.heap.size + 1, 5, none⟩ = some (.slice av k cv) := fun o => ((hso.alloc o).right.left.cell 5).trans rfl
        have hs7 := hso.alloc (.cells #[.int .i64 1, .int .i64 0, .bool P, .slice ao nl ac, .string ⟨#[]⟩, .slice none 0 0, .slice none 0 0] 54)
        rw [World.size_alloc] at hs7
        have hs8 : sat ((w4.alloc (.cells #[.int .i64 1, .int .i64 0, .bool P, .slice ao nl ac, .string ⟨#[]⟩, .slice none 0 0, .slice none 0 0] 54)).alloc (.cells #[.int .i64 1, .int .i64 0, .bool P, .slice ao nl ac, .string ⟨#[]⟩, .slice none 0 0, .slice none 0 0] 54)) (own 54 7 (.slice av k cv) k (itemsC items) * (Go.Proofs.Ytanjiecefioffaa.blk (w4.heap.size + 1) (.cells #[.int .i64 1, .int .i64 0, .bool P, .slice ao nl ac, .string ⟨#[]⟩, .slice none 0 0, .slice none 0 0] 54 (0, 0)) * (Go.Proofs.Ytanjiecefioffaa.blk (w.heap.size + 1) (listB (.slice av k cv)) * (isHeap V S * (isSt X V.g Y * (Go.Proofs.Ytanjiecefioffaa.blk w.heap.size (.cells #[.int .i64 0, .int .i64 0, .bool false, .slice none 0 0, .string ⟨#[]⟩, .slice none 0 0, .slice none 0 0] 54 (0, 0)) * (Go.Proofs.Ytanjiecefioffaa.blk gl (.cells #[.int .i64 ((L : Int) - k - 1)] 3 (0, 0)) * (magP (cs k, ao, ac) * (magsP items * R))))))))) := (hs7.perm (show _ = Go.Proofs.Ytanjiecefioffaa.blk w4.heap.size (.cells #[.int .i64 1, .int .i64 0, .bool P, .slice ao nl ac, .string ⟨#[]⟩, .slice none 0 0, .slice none 0 0] 54 (0, 0)) * (own 54 7 (.slice av k cv) k (itemsC items) * (Go.Proofs.Ytanjiecefioffaa.blk (w4.heap.size + 1) (.cells #[.int .i64 1, .int .i64 0, .bool P, .slice ao nl ac, .string ⟨#[]⟩, .slice none 0 0, .slice none 0 0] 54 (0, 0)) * (Go.Proofs.Ytanjiecefioffaa.blk (w.heap.size + 1) (listB (.slice av k cv)) * (isHeap V S * (isSt X V.g Y * (Go.Proofs.Ytanjiecefioffaa.blk w.heap.size (.cells #[.int .i64 0, .int .i64 0, .bool false, .slice none 0 0, .string ⟨#[]⟩, .slice none 0 0, .slice none 0 0] 54 (0, 0)) * (Go.Proofs.Ytanjiecefioffaa.blk gl (.cells #[.int .i64 ((L : Int) - k - 1)] 3 (0, 0)) * (magP (cs k, ao, ac) * (magsP items * R)))))))))  by ac_rfl)).right
        have hcl : CellsAt ((w4.alloc (.cells #[.int .i64 1, .int .i64 0, .bool P, .slice ao nl ac, .string ⟨#[]⟩, .slice none 0 0, .slice none 0 0] 54)).alloc (.cells #[.int .i64 1, .int .i64 0, .bool P, .slice ao nl ac, .string ⟨#[]⟩, .slice none 0 0, .slice none 0 0] 54)) (some ⟨w4.heap.size + 1, 0, none⟩) (itemC (cs k, ao, ac)) := by
          intro j u hj
          have ha : ((⟨w4.heap.size + 1, 0, none⟩ : Addr).add j) = ⟨w4.heap.size + 1, j, none⟩ := by unfold Addr.add; split <;> simp_all
          refine ⟨_, rfl, ?_⟩
          rw [ha, hs8.right.left.cell j]
          unfold itemC at hj
          simp only [hP, hnl] at hj
          rw [← hj]
          simp
        have HS := Lib.hid (And.intro hs8 (And.intro h6.ok (And.intro (hb6.trans (Below.zero_alloc _ (.cells #[.int .i64 1, .int .i64 0, .bool P, .slice ao nl ac, .string ⟨#[]⟩, .slice none 0 0, .slice none 0 0] 54))) (And.intro hP (And.intro hnl (And.intro hac hcl))))))
        clear hT h5 h6 hb5 hb6 hso hP hnl hac hs7 hs8 hcl
        go_wp2_with (at_builtin; refine halt ?_)
        refine goon ?_
        obtain ⟨hi, hz0, hz1, hz2⟩ := H1.out
        refine wpList_append_opt rfl (.tmp 43) (.tmp 45) 52 rfl 54 i0 zeroD 7 112 Try.underlying52 hi hz0 hz1 hz2 rfl (by decide) (.slice av k cv) k (itemsC items) rfl _ (some ⟨w4.heap.size + 1, 0, none⟩) 1 1 (itemC (cs k, ao, ac)) rfl ?_ HS.out.1 rfl HS.out.2.2.2.2.2.2 (fun u hu => itemsC_one [(cs k, ao, ac)] u (by unfold itemsC; simpa using hu)) (by omega) (by unfold maxLen; omega)
        clear hi hz0 hz1 hz2 c5 c5b
        intro v0 w9 hs9 hb9
        obtain ⟨av2, cv2, rfl⟩ := own_val hs9
        obtain ⟨v', hv'⟩ : ∃ v', Value.slice av2 (k + 1) cv2 = v' := ⟨_, rfl⟩
        rw [hv'] at hs9
        have hs10 := (show sat w9 (Go.Proofs.Ytanjiecefioffaa.blk (w.heap.size + 1) (listB (.slice av k cv)) * (own 54 7 v' (k + 1) (itemsC items ++ itemC (cs k, ao, ac)) * (isHeap V S * (isSt X V.g Y * (Go.Proofs.Ytanjiecefioffaa.blk w.heap.size (.cells #[.int .i64 0, .int .i64 0, .bool false, .slice none 0 0, .string ⟨#[]⟩, .slice none 0 0, .slice none 0 0] 54 (0, 0)) * (Go.Proofs.Ytanjiecefioffaa.blk gl (.cells #[.int .i64 ((L : Int) - k - 1)] 3 (0, 0)) * (magP (cs k, ao, ac) * (magsP items * R)))))))) from (hs9.perm (show _ = Go.Proofs.Ytanjiecefioffaa.blk (w4.heap.size + 1) (.cells #[.int .i64 1, .int .i64 0, .bool P, .slice ao nl ac, .string ⟨#[]⟩, .slice none 0 0, .slice none 0 0] 54 (0, 0)) * (Go.Proofs.Ytanjiecefioffaa.blk (w.heap.size + 1) (listB (.slice av k cv)) * (own 54 7 v' (k + 1) (itemsC items ++ itemC (cs k, ao, ac)) * (isHeap V S * (isSt X V.g Y * (Go.Proofs.Ytanjiecefioffaa.blk w.heap.size (.cells #[.int .i64 0, .int .i64 0, .bool false, .slice none 0 0, .string ⟨#[]⟩, .slice none 0 0, .slice none 0 0] 54 (0, 0)) * (Go.Proofs.Ytanjiecefioffaa.blk gl (.cells #[.int .i64 ((L : Int) - k - 1)] 3 (0, 0)) * (magP (cs k, ao, ac) * (magsP items * R)))))))) by ac_rfl)).right)
        have c5 := (hs10.left.cell 5).trans (show _ = some (Value.slice av k cv) from rfl)
        have f5 := hs10.left.frozen 5
        have hs11 : sat (w9.setCell ⟨w.heap.size + 1, 5, none⟩ v') (Go.Proofs.Ytanjiecefioffaa.blk (w.heap.size + 1) (listB v') * (own 54 7 v' (k + 1) (itemsC items ++ itemC (cs k, ao, ac)) * (isHeap V S * (isSt X V.g Y * (Go.Proofs.Ytanjiecefioffaa.blk w.heap.size (.cells #[.int .i64 0, .int .i64 0, .bool false, .slice none 0 0, .string ⟨#[]⟩, .slice none 0 0, .slice none 0 0] 54 (0, 0)) * (Go.Proofs.Ytanjiecefioffaa.blk gl (.cells #[.int .i64 ((L : Int) - k - 1)] 3 (0, 0)) * (magP (cs k, ao, ac) * (magsP items * R)))))))) := hs10.setCell (off := 5) v'
        have hb11 := ((HS.out.2.2.1.trans hb9)).setCell (p := ⟨w.heap.size + 1, 5, none⟩) (Nat.zero_le _) v'
        have HQ := Lib.hid (And.intro hs11 (And.intro hb11 (HS.out.2.1)))
        clear hs9 hb9 hs10 hs11 hb11
        subst hv'
        go_upto_region 8 with fail
        obtain ⟨hs11, hb11, hok11⟩ := HQ.out
        clear HQ c5 f5
        generalize w9.setCell ⟨w.heap.size + 1, 5, none⟩ (.slice av2 (k + 1) cv2) = w10 at *
        have h12 : StW w10 X V S Y (Go.Proofs.Ytanjiecefioffaa.blk w.heap.size (.cells #[.int .i64 0, .int .i64 0, .bool false, .slice none 0 0, .string ⟨#[]⟩, .slice none 0 0, .slice none 0 0] 54 (0, 0)) * (Go.Proofs.Ytanjiecefioffaa.blk (w.heap.size + 1) (listB (.slice av2 (k + 1) cv2)) * (own 54 7 (.slice av2 (k + 1) cv2) (k + 1) (itemsC items ++ itemC (cs k, ao, ac)) * (Go.Proofs.Ytanjiecefioffaa.blk gl (.cells #[.int .i64 ((L : Int) - k - 1)] 3 (0, 0)) * (magP (cs k, ao, ac) * (magsP items * R)))))) := ⟨hs11.perm (by ac_rfl), hok11⟩
        have c0 := h12.c0
        have hG := h12.Get (p k) 1 bk.1 bk.2
        rw [HC.out.1.cdr k hk] at hG
        have HW := Lib.hid (And.intro h12 hb11)
        clear hs11 hb11 h12 hok11
        go_wp2_with fail
        refine hG.mono ?_
        rintro e w' ⟨rfl, j3, rfl⟩
        go_wp2_with fail
        go_roundw
        case rel =>
          refine ⟨k + 1, items ++ [(cs k, ao, ac)], .slice av2 (k + 1) cv2, rfl, by omega, by omega, ?_, ⟨?_, HW.out.1.ok⟩, HW.out.2.trans (drewN_below0 _ _)⟩
          · rw [List.map_append, HF.out.2.2.1, List.range_succ, List.map_append]; rfl
          · rw [itemsC_app, magsP_app]
            have e1 : itemsC [(cs k, ao, ac)] = itemC (cs k, ao, ac) := by unfold itemsC; simp
            have e2 : magsP [(cs k, ao, ac)] = magP (cs k, ao, ac) := by show magP _ * emp = _; rw [HP.mul_emp]
            have e3 : (L : Int) - ((k + 1 : Nat) : Int) = (L : Int) - k - 1 := by omega
            rw [e1, e2, e3]
            exact (HW.out.1.drewN j3).s.perm (by ac_rfl)
        case measure =>
          have m1 : (w10.drewN j3).cell? ⟨gl, 0, none⟩ = some (.int .i64 ((L : Int) - k - 1)) := by
            have := ((HW.out.1.drewN j3).s.perm (show _ = Go.Proofs.Ytanjiecefioffaa.blk gl (.cells #[.int .i64 ((L : Int) - k - 1)] 3 (0, 0)) * (isHeap V S * (isSt X V.g Y * (Go.Proofs.Ytanjiecefioffaa.blk w.heap.size (.cells #[.int .i64 0, .int .i64 0, .bool false, .slice none 0 0, .string ⟨#[]⟩, .slice none 0 0, .slice none 0 0] 54 (0, 0)) * (Go.Proofs.Ytanjiecefioffaa.blk (w.heap.size + 1) (listB (.slice av2 (k + 1) cv2)) * (own 54 7 (.slice av2 (k + 1) cv2) (k + 1) (itemsC items ++ itemC (cs k, ao, ac)) * (magP (cs k, ao, ac) * (magsP items * R))))))) by ac_rfl)).left.cell 0
            exact this.trans rfl
          have m2 : wr.cell? ⟨gl, 0, none⟩ = some (.int .i64 ((L : Int) - k)) := by
            have := (HF.out.1.s.perm (show _ = Go.Proofs.Ytanjiecefioffaa.blk gl (.cells #[.int .i64 ((L : Int) - k)] 3 (0, 0)) * (isHeap V S * (isSt X V.g Y * (Go.Proofs.Ytanjiecefioffaa.blk w.heap.size (.cells #[.int .i64 0, .int .i64 0, .bool false, .slice none 0 0, .string ⟨#[]⟩, .slice none 0 0, .slice none 0 0] 54 (0, 0)) * (Go.Proofs.Ytanjiecefioffaa.blk (w.heap.size + 1) (listB (.slice av k cv)) * (own 54 7 (.slice av k cv) k (itemsC items) * (magsP items * R)))))) by ac_rfl)).left.cell 0
            exact this.trans rfl
          rw [m1, m2]
          simp [intOf]; omega
      · obtain rfl : k = L := by omega
        have hpost : TakePost X V S Y R gl cs N k w = fun e w' => e = .returned (.tuple #[zeroD, .bool false]) ∧ StW w' X V S Y R ∧ Below 0 w w' := by
          funext e w'
          unfold TakePost
          rw [if_neg (by omega)]
        have h4 : StW w3 X V S Y (Go.Proofs.Ytanjiecefioffaa.blk gl (.cells #[.int .i64 0] 3 (0, 0)) * (Go.Proofs.Ytanjiecefioffaa.blk w.heap.size (.cells #[.int .i64 0, .int .i64 0, .bool false, .slice none 0 0, .string ⟨#[]⟩, .slice none 0 0, .slice none 0 0] 54 (0, 0)) * (Go.Proofs.Ytanjiecefioffaa.blk (w.heap.size + 1) (listB v) * (own 54 7 v k (itemsC items) * (magsP items * R))))) := by
          have e0 : (k : Int) - k = 0 := by omega
          rw [e0] at h3
          exact ⟨h3.s.perm (by ac_rfl), h3.ok⟩
        have hT := StW.take_out gl (deep - 1) h4 x
        have HB := Lib.hid (And.intro hb3 hpost)
        clear h3 h4 hb3 hpost
        go_wp2_with fail
        with_reducible refine hT.mono ?_
        rintro e w4 ⟨rfl, h5, hb5⟩
        unfold zeroD
        have h6 := h5.push (.cells #[.int .i64 0, .int .i64 0, .bool false, .slice none 0 0, .string ⟨#[]⟩, .slice none 0 0, .slice none 0 0] 54)
        have hso : sat (w4.alloc (.cells #[.int .i64 0, .int .i64 0, .bool false, .slice none 0 0, .string ⟨#[]⟩, .slice none 0 0, .slice none 0 0] 54)) (Go.Proofs.Ytanjiecefioffaa.blk w.heap.size (.cells #[.int .i64 0, .int .i64 0, .bool false, .slice none 0 0, .string ⟨#[]⟩, .slice none 0 0, .slice none 0 0] 54 (0, 0)) * (isHeap V S * (isSt X V.g Y * R))) := (h6.s.perm (show _ = (Go.Proofs.Ytanjiecefioffaa.blk w4.heap.size (.cells #[.int .i64 0, .int .i64 0, .bool false, .slice none 0 0, .string ⟨#[]⟩, .slice none 0 0, .slice none 0 0] 54 (0, 0)) * (Go.Proofs.Ytanjiecefioffaa.blk (w.heap.size + 1) (listB v) * (own 54 7 v k (itemsC items) * (magsP items * Go.Proofs.Ytanjiecefioffaa.blk gl (.cells #[.int .i64 0] 3 (0, 0)))))) * (Go.Proofs.Ytanjiecefioffaa.blk w.heap.size (.cells #[.int .i64 0, .int .i64 0, .bool false, .slice none 0 0, .string ⟨#[]⟩, .slice none 0 0, .slice none 0 0] 54 (0, 0)) * (isHeap V S * (isSt X V.g Y * R))) by ac_rfl)).right
        have hb6 := (HB.out.1.trans hb5).trans (Below.zero_alloc w4 (.cells #[.int .i64 0, .int .i64 0, .bool false, .slice none 0 0, .string ⟨#[]⟩, .slice none 0 0, .slice none 0 0] 54))
        have c0 := (hso.left.cell 0).trans rfl
        have f0 := hso.left.frozen 0
        have c1 := (hso.left.cell 1).trans rfl
        have f1 := hso.left.frozen 1
        have c2 := (hso.left.cell 2).trans rfl
        have f2 := hso.left.frozen 2
        have c3 := (hso.left.cell 3).trans rfl
        have f3 := hso.left.frozen 3
        have c4 := (hso.left.cell 4).trans rfl
        have f4 := hso.left.frozen 4
        have c5 := (hso.left.cell 5).trans rfl
        have f5 := hso.left.frozen 5
        have c6 := (hso.left.cell 6).trans rfl
        have f6 := hso.left.frozen 6
        have HS := Lib.hid (And.intro hso (And.intro h6.ok hb6))
        clear hT h5 h6 hb5 hb6 hso
        go_wp2_with fail
        have hs7 := (((((((HS.out.1.setCell (off := 0) (.int .i64 0)).setCell (off := 1) (.int .i64 0)).setCell (off := 2) (.bool false)).setCell (off := 3) (.slice none 0 0)).setCell (off := 4) (.string ⟨#[]⟩)).setCell (off := 5) (.slice none 0 0)).setCell (off := 6) (.slice none 0 0))
        have hb7 := (((((((HS.out.2.2.setCell (p := ⟨w.heap.size, 0, none⟩) (Nat.zero_le _) (.int .i64 0)).setCell (p := ⟨w.heap.size, 1, none⟩) (Nat.zero_le _) (.int .i64 0)).setCell (p := ⟨w.heap.size, 2, none⟩) (Nat.zero_le _) (.bool false)).setCell (p := ⟨w.heap.size, 3, none⟩) (Nat.zero_le _) (.slice none 0 0)).setCell (p := ⟨w.heap.size, 4, none⟩) (Nat.zero_le _) (.string ⟨#[]⟩)).setCell (p := ⟨w.heap.size, 5, none⟩) (Nat.zero_le _) (.slice none 0 0)).setCell (p := ⟨w.heap.size, 6, none⟩) (Nat.zero_le _) (.slice none 0 0))
        clear c0 f0 c1 f1 c2 f2 c3 f3 c4 f4 c5 f5 c6 f6
        generalize ((((((((w4.alloc (.cells #[.int .i64 0, .int .i64 0, .bool false, .slice none 0 0, .string ⟨#[]⟩, .slice none 0 0, .slice none 0 0] 54)).setCell ⟨w.heap.size, 0, none⟩ (.int .i64 0)).setCell ⟨w.heap.size, 1, none⟩ (.int .i64 0)).setCell ⟨w.heap.size, 2, none⟩ (.bool false)).setCell ⟨w.heap.size, 3, none⟩ (.slice none 0 0)).setCell ⟨w.heap.size, 4, none⟩ (.string ⟨#[]⟩)).setCell ⟨w.heap.size, 5, none⟩ (.slice none 0 0)).setCell ⟨w.heap.size, 6, none⟩ (.slice none 0 0)) = w7 at *
        have r0 : w7.cell? ⟨w.heap.size, 0, none⟩ = some (.int .i64 0) := (hs7.left.cell 0).trans rfl
        have r1 : w7.cell? ⟨w.heap.size, 1, none⟩ = some (.int .i64 0) := (hs7.left.cell 1).trans rfl
        have r2 : w7.cell? ⟨w.heap.size, 2, none⟩ = some (.bool false) := (hs7.left.cell 2).trans rfl
        have r3 : w7.cell? ⟨w.heap.size, 3, none⟩ = some (.slice none 0 0) := (hs7.left.cell 3).trans rfl
        have r4 : w7.cell? ⟨w.heap.size, 4, none⟩ = some (.string ⟨#[]⟩) := (hs7.left.cell 4).trans rfl
        have r5 : w7.cell? ⟨w.heap.size, 5, none⟩ = some (.slice none 0 0) := (hs7.left.cell 5).trans rfl
        have r6 : w7.cell? ⟨w.heap.size, 6, none⟩ = some (.slice none 0 0) := (hs7.left.cell 6).trans rfl
        refine bodyPost_ret (v := .tuple #[zeroD, .bool false]) (by simp [results, Try.results85, go_sem, r0, r1, r2, r3, r4, r5, r6, zeroD]) rfl ?_
        rw [HB.out.2]
        exact ⟨rfl, ⟨hs7.right, HS.out.2.1⟩, hb7⟩
    · obtain rfl : k = N := by omega
      have h10 := HC.out.2.1 hkL
      have hsh := hs.shape (p k) 1 2 0 bk.1 bk.2
      rw [h10, HC.out.2.2] at hsh
      have hso0 : sat wr (own 54 7 v k (itemsC items) * (Go.Proofs.Ytanjiecefioffaa.blk w.heap.size (.cells #[.int .i64 0, .int .i64 0, .bool false, .slice none 0 0, .string ⟨#[]⟩, .slice none 0 0, .slice none 0 0] 54 (0, 0)) * (Go.Proofs.Ytanjiecefioffaa.blk (w.heap.size + 1) (listB v) * (isHeap V S * (isSt X V.g Y * (Go.Proofs.Ytanjiecefioffaa.blk gl (.cells #[.int .i64 ((L : Int) - k)] 3 (0, 0)) * (magsP items * R))))))) := hs.s.perm (by ac_rfl)
      obtain ⟨av, cv, rfl⟩ := own_val hso0
      have hso : sat wr (Go.Proofs.Ytanjiecefioffaa.blk w.heap.size (.cells #[.int .i64 0, .int .i64 0, .bool false, .slice none 0 0, .string ⟨#[]⟩, .slice none 0 0, .slice none 0 0] 54 (0, 0)) * (Go.Proofs.Ytanjiecefioffaa.blk (w.heap.size + 1) (listB (.slice av k cv)) * (isHeap V S * (isSt X V.g Y * (own 54 7 (.slice av k cv) k (itemsC items) * (Go.Proofs.Ytanjiecefioffaa.blk gl (.cells #[.int .i64 ((L : Int) - k)] 3 (0, 0)) * (magsP items * R))))))) := hso0.perm (by ac_rfl)
      have HF := Lib.hid (And.intro hs.ok (And.intro hb hit))
      rw [h10]
      clear hs hb hit hso0
      go_wp2_with fail
      with_reducible refine hsh.mono ?_
      rintro e w' ⟨rfl, j1, rfl⟩
      have hsd := hso.drewN j1
      have hbd := HF.out.2.1.trans (drewN_below0 wr j1)
      generalize wr.drewN j1 = w3 at *
      clear hsh c0 hso
      have c0 := (hsd.left.cell 0).trans rfl
      have f0 := hsd.left.frozen 0
      have c1 := (hsd.left.cell 1).trans rfl
      have f1 := hsd.left.frozen 1
      have c2 := (hsd.left.cell 2).trans rfl
      have f2 := hsd.left.frozen 2
      have c3 := (hsd.left.cell 3).trans rfl
      have f3 := hsd.left.frozen 3
      have c4 := (hsd.left.cell 4).trans rfl
      have f4 := hsd.left.frozen 4
      have c5 := (hsd.left.cell 5).trans rfl
      have f5 := hsd.left.frozen 5
      have c6 := (hsd.left.cell 6).trans rfl
      have f6 := hsd.left.frozen 6
      have d0 : w3.cell? ⟨w.heap.size + 1, 0, none⟩ = some (.int .i64 6) := (hsd.right.left.cell 0).trans rfl
      have d1 : w3.cell? ⟨w.heap.size + 1, 1, none⟩ = some (.int .i64 0) := (hsd.right.left.cell 1).trans rfl
      have d2 : w3.cell? ⟨w.heap.size + 1, 2, none⟩ = some (.bool false) := (hsd.right.left.cell 2).trans rfl
      have d3 : w3.cell? ⟨w.heap.size + 1, 3, none⟩ = some (.slice none 0 0) := (hsd.right.left.cell 3).trans rfl
      have d4 : w3.cell? ⟨w.heap.size + 1, 4, none⟩ = some (.string ⟨#[]⟩) := (hsd.right.left.cell 4).trans rfl
      have d5 : w3.cell? ⟨w.heap.size + 1, 5, none⟩ = some (.slice av k cv) := (hsd.right.left.cell 5).trans rfl
      have d6 : w3.cell? ⟨w.heap.size + 1, 6, none⟩ = some (.slice none 0 0) := (hsd.right.left.cell 6).trans rfl
      have HS := Lib.hid (And.intro hsd hbd)
      clear hsd hbd
      go_wp2_with fail
      have hs7 := (((((((HS.out.1.setCell (off := 0) (.int .i64 6)).setCell (off := 1) (.int .i64 0)).setCell (off := 2) (.bool false)).setCell (off := 3) (.slice none 0 0)).setCell (off := 4) (.string ⟨#[]⟩)).setCell (off := 5) (.slice av k cv)).setCell (off := 6) (.slice none 0 0))
      have hb7 := (((((((HS.out.2.setCell (p := ⟨w.heap.size, 0, none⟩) (Nat.zero_le _) (.int .i64 6)).setCell (p := ⟨w.heap.size, 1, none⟩) (Nat.zero_le _) (.int .i64 0)).setCell (p := ⟨w.heap.size, 2, none⟩) (Nat.zero_le _) (.bool false)).setCell (p := ⟨w.heap.size, 3, none⟩) (Nat.zero_le _) (.slice none 0 0)).setCell (p := ⟨w.heap.size, 4, none⟩) (Nat.zero_le _) (.string ⟨#[]⟩)).setCell (p := ⟨w.heap.size, 5, none⟩) (Nat.zero_le _) (.slice av k cv)).setCell (p := ⟨w.heap.size, 6, none⟩) (Nat.zero_le _) (.slice none 0 0))
      clear c0 f0 c1 f1 c2 f2 c3 f3 c4 f4 c5 f5 c6 f6 d0 d1 d2 d3 d4 d5 d6
      generalize (((((((w3.setCell ⟨w.heap.size, 0, none⟩ (.int .i64 6)).setCell ⟨w.heap.size, 1, none⟩ (.int .i64 0)).setCell ⟨w.heap.size, 2, none⟩ (.bool false)).setCell ⟨w.heap.size, 3, none⟩ (.slice none 0 0)).setCell ⟨w.heap.size, 4, none⟩ (.string ⟨#[]⟩)).setCell ⟨w.heap.size, 5, none⟩ (.slice av k cv)).setCell ⟨w.heap.size, 6, none⟩ (.slice none 0 0)) = w7 at *
      have r0 : w7.cell? ⟨w.heap.size, 0, none⟩ = some (.int .i64 6) := (hs7.left.cell 0).trans rfl
      have r1 : w7.cell? ⟨w.heap.size, 1, none⟩ = some (.int .i64 0) := (hs7.left.cell 1).trans rfl
      have r2 : w7.cell? ⟨w.heap.size, 2, none⟩ = some (.bool false) := (hs7.left.cell 2).trans rfl
      have r3 : w7.cell? ⟨w.heap.size, 3, none⟩ = some (.slice none 0 0) := (hs7.left.cell 3).trans rfl
      have r4 : w7.cell? ⟨w.heap.size, 4, none⟩ = some (.string ⟨#[]⟩) := (hs7.left.cell 4).trans rfl
      have r5 : w7.cell? ⟨w.heap.size, 5, none⟩ = some (.slice av k cv) := (hs7.left.cell 5).trans rfl
      have r6 : w7.cell? ⟨w.heap.size, 6, none⟩ = some (.slice none 0 0) := (hs7.left.cell 6).trans rfl
      refine bodyPost_ret (v := .tuple #[.agg #[.int .i64 6, .int .i64 0, .bool false, .slice none 0 0, .string ⟨#[]⟩, .slice av k cv, .slice none 0 0], .bool true]) (by simp [results, Try.results85, go_sem, r0, r1, r2, r3, r4, r5, r6]) rfl ?_
      unfold TakePost
      rw [if_pos hkL]
      refine ⟨items, .slice av k cv, rfl, HF.out.2.2, ⟨?_, HF.out.1⟩, hb7⟩
      exact hs7.right.right.perm (by ac_rfl)
end
end Go.Proofs.Ytanjiecefioffaa

/- value.Store: take of a pair. -/
namespace Go.Proofs.Ytanjiecefioffaa
open Go.RowKit

theorem kind_is {S : HS} {x k : Int} (hk : S.kind x = k) (h0 : k ≠ 0) : x % 4 = 0 := by
  unfold HS.kind HS.head headOf at hk
  split at hk
  · rename_i h
    exact (is_iff.1 (show S.is x = true from h)).1
  · exact absurd hk.symm (by rw [show kindH 0 = 0 from rfl]; exact h0)
theorem pair_word {S : HS} {x : Int} (h : S.shape x 1 2 0 = true) : S.num x = none ∧ S.bytesOk x = false ∧ S.nameOk x = false ∧ x % 4 = 0 ∧ S.shape x 6 (-1) 1 = false := by
  unfold HS.shape at h
  rw [Bool.and_eq_true, decide_eq_true_eq] at h
  have hk := h.1
  have h4 := kind_is hk (by decide)
  refine ⟨?_, ?_, ?_, h4, ?_⟩
  · unfold HS.num HS.numOk HS.numFit HS.shape
    rw [if_neg (by omega), hk]; rfl
  · unfold HS.bytesOk HS.bytesFit HS.shape
    rw [hk]; rfl
  · unfold HS.nameOk HS.shape
    rw [hk]; rfl
  · unfold HS.shape
    rw [hk]; rfl
section
variable {w : World} {X : StV} {V : HV} {S : HS} {Y : StS} {R : HP}
set_option maxRecDepth 100000 in
set_option maxHeartbeats 4000000 in
theorem StW.take_pair (gl : Nat) (N L : Nat) (p cs : Nat → Int) (deep : Int) (hL : L < 20000) (h : StW w X V S Y (Go.Proofs.Ytanjiecefioffaa.blk gl (.cells #[.int .i64 ((L : Int) + 1)] 3 (0, 0)) * R)) (hd : 1 < deep ∧ deep ≤ 100)
    (hN : 0 < N) (hc : Chain S p cs N) (hend : N ≤ L → p N = 10) (h10 : S.shape 10 1 2 0 = false) :
    Calls Try.prog 60 #[.pointer (some ⟨X.g, 0, none⟩), .int .u64 (p 0), .pointer (some ⟨gl, 0, none⟩), .int .i64 deep] w (TakePost X V S Y R gl cs N L w) := by
  obtain ⟨nx, ox, mx, x4, sx⟩ := pair_word (hc.pair 0 hN)
  have bx := hc.bd 0 (Nat.zero_le _)
  have hs : sat w (Go.Proofs.Ytanjiecefioffaa.blk gl (.cells #[.int .i64 ((L : Int) + 1)] 3 (0, 0)) * (isHeap V S * (isSt X V.g Y * R))) := h.s.perm (by ac_rfl)
  have cA : ∀ o, (w.alloc o).cell? ⟨gl, 0, none⟩ = some (.int .i64 ((L : Int) + 1)) := fun o => ((hs.alloc o).right.left.cell 0).trans rfl
  have fA : ∀ o, (w.alloc o).frozen? ⟨gl, 0, none⟩ = false := fun o => (hs.alloc o).right.left.frozen 0
  obtain ⟨Z, hZ⟩ : ∃ Z : Obj, Z = .cells #[.int .i64 0, .int .i64 0, .bool false, .slice none 0 0, .string ⟨#[]⟩, .slice none 0 0, .slice none 0 0] 54 := ⟨_, rfl⟩
  have hs2 : sat ((w.alloc Z).setCell ⟨gl, 0, none⟩ (.int .i64 L)) (Go.Proofs.Ytanjiecefioffaa.blk gl (.cells #[.int .i64 L] 3 (0, 0)) * (Go.Proofs.Ytanjiecefioffaa.blk w.heap.size Z * (isHeap V S * (isSt X V.g Y * R)))) :=
    (show sat (w.alloc Z) (Go.Proofs.Ytanjiecefioffaa.blk gl (.cells #[.int .i64 ((L : Int) + 1)] 3 (0, 0)) * (Go.Proofs.Ytanjiecefioffaa.blk w.heap.size Z * (isHeap V S * (isSt X V.g Y * R)))) from (hs.alloc Z).perm (by ac_rfl)).setCell (off := 0) (.int .i64 L)
  have h2 : StW ((w.alloc Z).setCell ⟨gl, 0, none⟩ (.int .i64 L)) X V S Y (Go.Proofs.Ytanjiecefioffaa.blk w.heap.size Z * (Go.Proofs.Ytanjiecefioffaa.blk gl (.cells #[.int .i64 L] 3 (0, 0)) * R)) := ⟨hs2.perm (by ac_rfl), h.ok⟩
  have hb2 : Below 0 w ((w.alloc Z).setCell ⟨gl, 0, none⟩ (.int .i64 L)) := (Below.zero_alloc w Z).setCell (p := ⟨gl, 0, none⟩) (Nat.zero_le _) _
  clear hs2
  rw [hZ] at h2 hb2
  clear hZ
  have g0 : ((L : Int) + 1 - 1) = (L : Int) := by omega
  have g1b : IntKind.i64.wrap (L : Int) = (L : Int) := IntWalk.i64_in _ (by omega)
  have g2 : decide ((L : Int) + 1 ≤ 0) = false := by rw [decide_eq_false_iff_not]; omega
  have g3 : (deep == 0) = false := by simp; omega
  have HX := Lib.hid (And.intro h2 (And.intro hb2 (And.intro nx (And.intro ox (And.intro mx sx)))))
  have HC := Lib.hid (And.intro hc (And.intro hend (And.intro h10 hN)))
  have m1 : bits .and .u64 (p 0) 255 = p 0 % 256 := u64_mask 8 (p 0) bx.1 bx.2 (by decide)
  have q1 : (p 0 == 2) = false := by rw [beq_eq_false_iff_ne]; omega
  have q2 : (p 0 == 6) = false := by rw [beq_eq_false_iff_ne]; omega
  have q3 : (p 0 == 10) = false := by rw [beq_eq_false_iff_ne]; omega
  have q4 : (p 0 % 256 == 22) = false := by rw [beq_eq_false_iff_ne]; omega
  have q5 : (p 0 % 256 == 26) = false := by rw [beq_eq_false_iff_ne]; omega
  have q6 : ¬ (p 0 = 2) := by omega
  have q7 : ¬ (p 0 = 6) := by omega
  have q8 : ¬ (p 0 = 10) := by omega
  clear h h2 hs hb2 nx ox mx sx hc hend h10 hN x4
  go_enter Try.func60, Try.ntmps60
  go_wp2_with fail
  have hN := HX.out.1.Num (p 0) bx.1 bx.2
  rw [HX.out.2.2.1] at hN
  clear cA fA
  generalize hw2 : (w.alloc (.cells #[.int .i64 0, .int .i64 0, .bool false, .slice none 0 0, .string ⟨#[]⟩, .slice none 0 0, .slice none 0 0] 54)).setCell ⟨gl, 0, none⟩ (.int .i64 L) = w2 at *
  with_reducible refine hN.mono ?_
  rintro e w3 ⟨ao, ac, rfl, hac, h3, hb3⟩
  simp only [Option.getD_none, Option.isSome_none] at h3 ⊢
  obtain ⟨P, hP⟩ : ∃ P, decide ((0 : Int) < 0) = P := ⟨_, rfl⟩
  rw [hP]
  generalize (limbsOf (0 : Int).natAbs).length = nl at *
  have hp := (h3.push (.cells #[.bool P, .slice ao nl ac] 51))
  have hpp : StW (w3.alloc (.cells #[.bool P, .slice ao nl ac] 51)) X V S Y (Go.Proofs.Ytanjiecefioffaa.blk w.heap.size (.cells #[.int .i64 0, .int .i64 0, .bool false, .slice none 0 0, .string ⟨#[]⟩, .slice none 0 0, .slice none 0 0] 54 (0, 0)) * (Go.Proofs.Ytanjiecefioffaa.blk gl (.cells #[.int .i64 L] 3 (0, 0)) * R)) := hp.drop.drop
  have hB := hpp.Bytes (p 0) bx.1 bx.2
  unfold BytesPost at hB
  rw [HX.out.2.2.2.1] at hB
  have HB := Lib.hid ((HX.out.2.1.trans hb3).trans (Below.zero_alloc w3 (.cells #[.bool P, .slice ao nl ac] 51)))
  clear hN h3 hb3 hp hac hpp
  go_wp2_with fail
  with_reducible refine hB.mono ?_
  rintro e w4 ⟨v, rfl, h4, hb4⟩
  have h4d := h4.drop
  have hNm := h4d.Name (p 0) bx.1 bx.2
  unfold NamePost at hNm
  rw [HX.out.2.2.2.2.1] at hNm
  have HB4 := Lib.hid (HB.out.trans hb4)
  clear hB h4 h4d hb4
  go_wp2_with fail
  with_reducible refine hNm.mono ?_
  rintro e w5 ⟨rfl, h5, hb5⟩
  generalize S.name (p 0) = nm at *
  have hS1 := h5.shape (p 0) 6 (-1) 1 bx.1 bx.2
  have hS2 := fun j : Nat => (h5.drewN j).shape (p 0) 1 2 0 bx.1 bx.2
  rw [HX.out.2.2.2.2.2] at hS1
  rw [HC.out.1.pair 0 HC.out.2.2.2] at hS2
  have HX5 := Lib.hid (And.intro h5 (HB4.out.trans hb5))
  clear hNm h5 hb5
  go_wp2_with fail
  with_reducible refine hS1.mono ?_
  rintro e w' ⟨rfl, j1, rfl⟩
  go_wp2_with fail
  with_reducible refine (hS2 j1).mono ?_
  rintro e w' ⟨rfl, j2, rfl⟩
  have h6 := (HX5.out.1.drewN j1).drewN j2
  have hb6 := (HX5.out.2.trans (drewN_below0 w5 j1)).trans (drewN_below0 _ j2)
  generalize (w5.drewN j1).drewN j2 = w6 at *
  have h7 : StW w6 X V S Y (Go.Proofs.Ytanjiecefioffaa.blk gl (.cells #[.int .i64 L] 3 (0, 0)) * (Go.Proofs.Ytanjiecefioffaa.blk w.heap.size (.cells #[.int .i64 0, .int .i64 0, .bool false, .slice none 0 0, .string ⟨#[]⟩, .slice none 0 0, .slice none 0 0] 54 (0, 0)) * R)) := ⟨h6.s.perm (by ac_rfl), h6.ok⟩
  have hT := StW.takeList_chain gl N L p cs deep (by omega) h7 hd HC.out.1 HC.out.2.1 HC.out.2.2.1
  unfold TakePost at hT
  have HX6 := Lib.hid hb6
  clear hS1 hS2 h6 hb6 h7
  by_cases hNL : N ≤ L
  · simp only [if_pos hNL] at hT
    go_wp2_with fail
    refine hT.mono ?_
    rintro e w8 ⟨items, v8, rfl, hit, h8, hb8⟩
    have hso0 : sat w8 (own 54 7 v8 N (itemsC items) * (Go.Proofs.Ytanjiecefioffaa.blk w.heap.size (.cells #[.int .i64 0, .int .i64 0, .bool false, .slice none 0 0, .string ⟨#[]⟩, .slice none 0 0, .slice none 0 0] 54 (0, 0)) * (isHeap V S * (isSt X V.g Y * (Go.Proofs.Ytanjiecefioffaa.blk gl (.cells #[.int .i64 ((L : Int) - N)] 3 (0, 0)) * (magsP items * R)))))) := h8.s.perm (by ac_rfl)
    obtain ⟨av, cv, rfl⟩ := own_val hso0
    have hso : sat w8 (Go.Proofs.Ytanjiecefioffaa.blk w.heap.size (.cells #[.int .i64 0, .int .i64 0, .bool false, .slice none 0 0, .string ⟨#[]⟩, .slice none 0 0, .slice none 0 0] 54 (0, 0)) * (isHeap V S * (isSt X V.g Y * (own 54 7 (.slice av N cv) N (itemsC items) * (Go.Proofs.Ytanjiecefioffaa.blk gl (.cells #[.int .i64 ((L : Int) - N)] 3 (0, 0)) * (magsP items * R)))))) := hso0.perm (by ac_rfl)
    have c0 := (hso.left.cell 0).trans rfl
    have f0 := hso.left.frozen 0
    have c1 := (hso.left.cell 1).trans rfl
    have f1 := hso.left.frozen 1
    have c2 := (hso.left.cell 2).trans rfl
    have f2 := hso.left.frozen 2
    have c3 := (hso.left.cell 3).trans rfl
    have f3 := hso.left.frozen 3
    have c4 := (hso.left.cell 4).trans rfl
    have f4 := hso.left.frozen 4
    have c5 := (hso.left.cell 5).trans rfl
    have f5 := hso.left.frozen 5
    have c6 := (hso.left.cell 6).trans rfl
    have f6 := hso.left.frozen 6
    have HS := Lib.hid (And.intro hso (And.intro h8.ok (And.intro (HX6.out.trans hb8) hit)))
    clear hT h8 hb8 hso hso0 hit
    go_wp2_with fail
    have hs9 := (((((((HS.out.1.setCell (off := 0) (.int .i64 6)).setCell (off := 1) (.int .i64 0)).setCell (off := 2) (.bool false)).setCell (off := 3) (.slice none 0 0)).setCell (off := 4) (.string ⟨#[]⟩)).setCell (off := 5) (.slice av N cv)).setCell (off := 6) (.slice none 0 0))
    have hb9 := (((((((HS.out.2.2.1.setCell (p := ⟨w.heap.size, 0, none⟩) (Nat.zero_le _) (.int .i64 6)).setCell (p := ⟨w.heap.size, 1, none⟩) (Nat.zero_le _) (.int .i64 0)).setCell (p := ⟨w.heap.size, 2, none⟩) (Nat.zero_le _) (.bool false)).setCell (p := ⟨w.heap.size, 3, none⟩) (Nat.zero_le _) (.slice none 0 0)).setCell (p := ⟨w.heap.size, 4, none⟩) (Nat.zero_le _) (.string ⟨#[]⟩)).setCell (p := ⟨w.heap.size, 5, none⟩) (Nat.zero_le _) (.slice av N cv)).setCell (p := ⟨w.heap.size, 6, none⟩) (Nat.zero_le _) (.slice none 0 0))
    clear c0 f0 c1 f1 c2 f2 c3 f3 c4 f4 c5 f5 c6 f6
    generalize (((((((w8.setCell ⟨w.heap.size, 0, none⟩ (.int .i64 6)).setCell ⟨w.heap.size, 1, none⟩ (.int .i64 0)).setCell ⟨w.heap.size, 2, none⟩ (.bool false)).setCell ⟨w.heap.size, 3, none⟩ (.slice none 0 0)).setCell ⟨w.heap.size, 4, none⟩ (.string ⟨#[]⟩)).setCell ⟨w.heap.size, 5, none⟩ (.slice av N cv)).setCell ⟨w.heap.size, 6, none⟩ (.slice none 0 0)) = w9 at *
    have r0 : w9.cell? ⟨w.heap.size, 0, none⟩ = some (.int .i64 6) := (hs9.left.cell 0).trans rfl
    have r1 : w9.cell? ⟨w.heap.size, 1, none⟩ = some (.int .i64 0) := (hs9.left.cell 1).trans rfl
    have r2 : w9.cell? ⟨w.heap.size, 2, none⟩ = some (.bool false) := (hs9.left.cell 2).trans rfl
    have r3 : w9.cell? ⟨w.heap.size, 3, none⟩ = some (.slice none 0 0) := (hs9.left.cell 3).trans rfl
    have r4 : w9.cell? ⟨w.heap.size, 4, none⟩ = some (.string ⟨#[]⟩) := (hs9.left.cell 4).trans rfl
    have r5 : w9.cell? ⟨w.heap.size, 5, none⟩ = some (.slice av N cv) := (hs9.left.cell 5).trans rfl
    have r6 : w9.cell? ⟨w.heap.size, 6, none⟩ = some (.slice none 0 0) := (hs9.left.cell 6).trans rfl
    refine bodyPost_ret (v := .tuple #[.agg #[.int .i64 6, .int .i64 0, .bool false, .slice none 0 0, .string ⟨#[]⟩, .slice av N cv, .slice none 0 0], .bool true]) (by simp [results, Try.results60, go_sem, r0, r1, r2, r3, r4, r5, r6]) rfl ?_
    unfold TakePost
    rw [if_pos hNL]
    exact ⟨items, .slice av N cv, rfl, HS.out.2.2.2, ⟨hs9.right, HS.out.2.1⟩, hb9⟩
  · simp only [if_neg hNL] at hT
    go_wp2_with fail
    refine hT.mono ?_
    rintro e w8 ⟨rfl, h8, hb8⟩
    have hso : sat w8 (Go.Proofs.Ytanjiecefioffaa.blk w.heap.size (.cells #[.int .i64 0, .int .i64 0, .bool false, .slice none 0 0, .string ⟨#[]⟩, .slice none 0 0, .slice none 0 0] 54 (0, 0)) * (isHeap V S * (isSt X V.g Y * R))) := h8.s.perm (by ac_rfl)
    have c0 := (hso.left.cell 0).trans rfl
    have f0 := hso.left.frozen 0
    have c1 := (hso.left.cell 1).trans rfl
    have f1 := hso.left.frozen 1
    have c2 := (hso.left.cell 2).trans rfl
    have f2 := hso.left.frozen 2
    have c3 := (hso.left.cell 3).trans rfl
    have f3 := hso.left.frozen 3
    have c4 := (hso.left.cell 4).trans rfl
    have f4 := hso.left.frozen 4
    have c5 := (hso.left.cell 5).trans rfl
    have f5 := hso.left.frozen 5
    have c6 := (hso.left.cell 6).trans rfl
    have f6 := hso.left.frozen 6
    have HS := Lib.hid (And.intro hso (And.intro h8.ok (HX6.out.trans hb8)))
    clear hT h8 hb8 hso
    unfold zeroD
    go_wp2_with fail
    have hs9 := (((((((HS.out.1.setCell (off := 0) (.int .i64 0)).setCell (off := 1) (.int .i64 0)).setCell (off := 2) (.bool false)).setCell (off := 3) (.slice none 0 0)).setCell (off := 4) (.string ⟨#[]⟩)).setCell (off := 5) (.slice none 0 0)).setCell (off := 6) (.slice none 0 0))
    have hb9 := (((((((HS.out.2.2.setCell (p := ⟨w.heap.size, 0, none⟩) (Nat.zero_le _) (.int .i64 0)).setCell (p := ⟨w.heap.size, 1, none⟩) (Nat.zero_le _) (.int .i64 0)).setCell (p := ⟨w.heap.size, 2, none⟩) (Nat.zero_le _) (.bool false)).setCell (p := ⟨w.heap.size, 3, none⟩) (Nat.zero_le _) (.slice none 0 0)).setCell (p := ⟨w.heap.size, 4, none⟩) (Nat.zero_le _) (.string ⟨#[]⟩)).setCell (p := ⟨w.heap.size, 5, none⟩) (Nat.zero_le _) (.slice none 0 0)).setCell (p := ⟨w.heap.size, 6, none⟩) (Nat.zero_le _) (.slice none 0 0))
    clear c0 f0 c1 f1 c2 f2 c3 f3 c4 f4 c5 f5 c6 f6
    generalize (((((((w8.setCell ⟨w.heap.size, 0, none⟩ (.int .i64 0)).setCell ⟨w.heap.size, 1, none⟩ (.int .i64 0)).setCell ⟨w.heap.size, 2, none⟩ (.bool false)).setCell ⟨w.heap.size, 3, none⟩ (.slice none 0 0)).setCell ⟨w.heap.size, 4, none⟩ (.string ⟨#[]⟩)).setCell ⟨w.heap.size, 5, none⟩ (.slice none 0 0)).setCell ⟨w.heap.size, 6, none⟩ (.slice none 0 0)) = w9 at *
    have r0 : w9.cell? ⟨w.heap.size, 0, none⟩ = some (.int .i64 0) := (hs9.left.cell 0).trans rfl
    have r1 : w9.cell? ⟨w.heap.size, 1, none⟩ = some (.int .i64 0) := (hs9.left.cell 1).trans rfl
    have r2 : w9.cell? ⟨w.heap.size, 2, none⟩ = some (.bool false) := (hs9.left.cell 2).trans rfl
    have r3 : w9.cell? ⟨w.heap.size, 3, none⟩ = some (.slice none 0 0) := (hs9.left.cell 3).trans rfl
    have r4 : w9.cell? ⟨w.heap.size, 4, none⟩ = some (.string ⟨#[]⟩) := (hs9.left.cell 4).trans rfl
    have r5 : w9.cell? ⟨w.heap.size, 5, none⟩ = some (.slice none 0 0) := (hs9.left.cell 5).trans rfl
    have r6 : w9.cell? ⟨w.heap.size, 6, none⟩ = some (.slice none 0 0) := (hs9.left.cell 6).trans rfl
    refine bodyPost_ret (v := .tuple #[zeroD, .bool false]) (by simp [results, Try.results60, go_sem, r0, r1, r2, r3, r4, r5, r6, zeroD]) rfl ?_
    unfold TakePost
    rw [if_neg hNL]
    exact ⟨rfl, ⟨hs9.right, HS.out.2.1⟩, hb9⟩
end
end Go.Proofs.Ytanjiecefioffaa
