/- Bytes that came in; string(b), CopyBytes, SameBytes of any bytes. Texts, plainly: no numbers, told equal by their bytes. -/
import Derived.Test.YtanjiecefioffaaTakeText
import Derived.Test.YtanjiecefioffaaStoreEqual
import Derived.Test.YtanjiecefioffaaRowsIn2
import Derived.Test.YtanjiecefioffaaSymPure
/- Bytes that came in; string(b), CopyBytes, SameBytes of any bytes. -/
namespace Go.Proofs.Ytanjiecefioffaa
open Go.RowKit Go.ChangeShapes Go.WideShapes

structure IsBytesR (w : World) (ao : Option Addr) (len cap : Nat) (zs : List Int) : Prop where
  bd : len ≤ 140737488351232
  lc : len ≤ cap
  eq : zs.length = len
  u : Bytes zs
  each : ∀ (j : Nat) x, zs[j]? = some x → ∃ a, ao = some a ∧ w.cell? (a.add j) = some (.int .u8 x)
section
variable {H : Type} {enc : TypeId × Value → H} {W : World} {base : Nat} {spare : Nat → Bool} {held : Bool} {fuel : Nat}
theorem open_bytesR {t e : TypeId} (ht : Try.prog.underlying t = some (.slice e)) (he : Try.prog.underlying e = some (.int .u8)) (hc : Try.prog.cellsOf e = 1) (hb : Try.prog.bytesOf e = 1)
    {ao : Option Addr} {len cap : Nat} {d : DataW H} {p : List MemPlace} (h : DataW.trod enc Try.prog W base spare held fuel t [.slice ao len cap] = some (d, p)) (hw : ∀ n ∈ d.weights Try.prog t, n ≤ reachBytes) :
    ∃ zs : List Int, IsBytesR W ao len cap zs := by
  rcases open_ints ht he hc h with ⟨e0, _⟩ | ⟨a, len', cap', zs, e0, _, hlc, _, hzl, hy, hcell, hwf⟩
  · simp at e0
    obtain ⟨rfl, rfl, rfl⟩ := e0
    exact ⟨[], by decide, Nat.le_refl _, rfl, fun x hx => by simp at hx, fun j x hx => by simp at hx⟩
  · simp at e0
    obtain ⟨rfl, rfl, rfl⟩ := e0
    have hlz : len ≤ zs.length := by rw [hzl]; split <;> omega
    have hwt : (((zs.take len).length + (zs.drop len).length) * 1) ≤ reachBytes := by
      refine hw _ ?_
      simp only [Prod.mk.injEq] at hy
      rw [hy.1]
      simp [DataW.weights, ht, hb, lits]
    refine ⟨zs.take len, ?_, hlc, by simp; omega, ?_, ?_⟩
    · rw [List.length_take, List.length_drop] at hwt
      unfold reachBytes at hwt
      omega
    · intro x hx
      have := hwf x (List.mem_of_mem_take hx)
      unfold Lit.wf at this
      simp only [Bool.and_eq_true, decide_eq_true_eq] at this
      have e1 : IntKind.u8.min = 0 := rfl
      have e2 : IntKind.u8.max = 255 := rfl
      rw [e1, e2] at this
      omega
    · intro j x hx
      rw [List.getElem?_take] at hx
      split at hx
      · refine ⟨a, rfl, ?_⟩
        rw [hcell j (by omega), List.getD_eq_getElem?_getD, hx]; rfl
      · cases hx
end
theorem IsBytesR.ins {W : World} {ao : Option Addr} {len cap : Nat} {zs : List Int} (h : IsBytesR W ao len cap zs) : BytesIn (whole W) ao zs := by
  intro w hs j x hj
  obtain ⟨a, ha, hc⟩ := h.each j x hj
  have hb : (a.add j).block < W.heap.size := World.block_lt_of_cell? W _ hc
  exact ⟨a, ha, (World.cell?_of_block (hs.whole_get _ hb)).trans hc⟩

section
variable {w : World} {R : HP}
theorem BytesIn.cells {ao : Option Addr} {b : List Int} (h : BytesIn R ao b) (hs : sat w R) : CellsAt w ao (b.map u8v) := by
  intro j u hj
  rw [List.getElem?_map] at hj
  cases hx : b[j]? with
  | none => rw [hx] at hj; cases hj
  | some y => rw [hx] at hj; cases hj; exact h w hs j y hx
theorem own_bytes_in {ao : Option Addr} {n cap : Nat} {b : List Int} : BytesIn (own 5 1 (.slice ao n cap) n (b.map u8v) * R) ao b := by
  intro w hs j x hj
  exact own_cells hs rfl j (u8v x) (by rw [List.getElem?_map, hj]; rfl)
theorem run_bytes_any {P : Program} (src dst e : TypeId) (hs : P.underlying src = some (.slice e)) (he : P.underlying e = some (.int .u8)) (hd : P.underlying dst = some .string)
    {ao : Option Addr} {n cap : Nat} {b : List Int} (hl : b.length = n) (h : CellsAt w ao (b.map u8v)) : (convert src dst (.slice ao n cap)).run P w = .ok (.string (strOfNums b)) w := by
  cases ao with
  | none =>
    have : b = [] := by
      cases b with
      | nil => rfl
      | cons x l => obtain ⟨a, h, _⟩ := h 0 (u8v x) rfl; cases h
    subst this
    exact run_convert_bytes_nil w src e hs he n cap dst hd
  | some a =>
    have hl2 : (loadCells a n).run P w = .ok (b.map (Value.int .u8)).toArray w := by
      have := run_loadCells_list (P := P) w a (b.map (Value.int .u8)) (fun j v hj => by
        obtain ⟨a', ha, hc⟩ := h j v hj
        cases ha; exact hc)
      simpa [hl] using this
    rw [run_convert_bytes_string w src dst e _ n cap hs he hd, run_bytesToString w a n cap b hl2, foldl_push_bytes]
    simp [strOfNums, ByteArray.empty, ByteArray.emptyWithCapacity]
    rfl
set_option maxRecDepth 100000 in
theorem copy_bytes (hs : sat w R) (ao : Option Addr) (n cap : Nat) (b : List Int) (hx : BytesIn R ao b) (hl : b.length = n) (hn : n ≤ 140737488351232) :
    Calls Try.prog 45 #[.slice ao n cap] w fun e w' => ∃ v, e = .returned v ∧ sat w' (own 5 1 v n (b.map u8v) * R) ∧ Below 0 w w' := by
  obtain ⟨i0, hi, hz0, hz1, hz2⟩ := info_parts info_u8
  have hc := hx.cells hs
  have h0 := hs.nil_own (e := 5) (sz := 1)
  go_enter Try.func45, Try.ntmps45
  go_wp2_with (at_builtin; refine halt ?_)
  refine goon ?_
  refine wpList_append_opt rfl (.const (.slice none 0 0)) (.tmp 3) 44 rfl 5 i0 (.int .u8 0) 1 1 Try.underlying44 hi hz0 hz1 hz2 rfl (by decide) (.slice none 0 0) 0 [] rfl R ao n cap (b.map u8v) rfl ?_ h0 (by simp [hl]) hc (fun u hu => by obtain ⟨x, _, rfl⟩ := List.mem_map.1 hu; rfl) (by omega) (by unfold maxLen; omega)
  intro v' w9 hs9 hb9
  rw [Nat.zero_add, List.nil_append] at hs9
  have HQ := Lib.hid (And.intro hs9 hb9)
  clear hs9 hb9 hc h0 hi hz0 hz1 hz2
  go_wp2_with fail
  go_ret
  exact ⟨_, rfl, HQ.out.1, HQ.out.2⟩
set_option maxRecDepth 100000 in
theorem same_bytes (ao bo : Option Addr) (n m ca cb : Nat) (a b : List Int) (ha : CellsAt w ao (a.map u8v)) (hb : CellsAt w bo (b.map u8v)) (hn : a.length = n) (hm : b.length = m) (ua : Bytes a) (ub : Bytes b) :
    Calls Try.prog 47 #[.slice ao n ca, .slice bo m cb] w fun e w' => e = .returned (.bool (decide (a = b))) ∧ w' = w := by
  have hcv1 := run_bytes_any (P := Try.prog) (cap := ca) 44 9 5 Try.underlying44 Try.underlying5 Try.underlying9 hn ha
  have hcv2 := run_bytes_any (P := Try.prog) (cap := cb) 44 9 5 Try.underlying44 Try.underlying5 Try.underlying9 hm hb
  have hq := str_eq ua ub
  generalize strOfNums a = sa at *
  generalize strOfNums b = sb at *
  obtain ⟨bb, hbbv⟩ : ∃ bb, decide (a = b) = bb := ⟨_, rfl⟩
  rw [hbbv] at hq ⊢
  clear hbbv ha hb ua ub hn hm
  go_enter Try.func47, Try.ntmps47
  go_wp2_with fail
  go_ret
  exact ⟨rfl, rfl⟩
end
end Go.Proofs.Ytanjiecefioffaa

/- Texts, plainly: no numbers, told equal by their bytes. -/
namespace Go.Proofs.Ytanjiecefioffaa
open Go.RowKit

theorem TextIn.nonum {S : HS} {b : List Int} {t : Int} (h : TextIn S b t) (hl : b.length ≤ 8388600) : S.num t = none := by
  have hwl := wordsOf_len b
  obtain ⟨_, _, g3⟩ := text_head (wordsOf b).length (by omega)
  have e3 : S.kind t = 3 := by unfold HS.kind; rw [h.head]; exact g3
  have h4 := (is_iff.1 h.is).1
  unfold HS.num HS.numOk HS.numFit HS.shape
  rw [if_neg (by omega), e3]
  rfl
theorem equal_bytes {S : HS} {x y : Int} (hx : S.bytesOk x = true) (hy : S.bytesOk y = true) (hb : S.bytes x = S.bytes y) : S.equal x y = (true, true) := by
  have hp : S.parts x y = some [] := by
    unfold HS.parts
    split
    · rfl
    · rw [if_pos (by rw [hx, hy]; rfl)]
  have h1 : S.eqRun 19999 [] = (true, true) := by unfold HS.eqRun; rw [dif_pos rfl]
  unfold HS.equal
  rw [show (20000 : Nat) = 19999 + 1 from rfl]
  unfold HS.eqRun
  rw [dif_neg (by simp)]
  simp only [List.getLast_singleton, hp, List.dropLast_singleton, List.append_nil]
  exact h1
theorem eqv_nonum {S : HS} {x y : Int} (h : x ≠ y) (hx : S.num x = none) : S.eqv x y = false := by
  unfold HS.eqv
  rw [hx, decide_eq_false h]; rfl
end Go.Proofs.Ytanjiecefioffaa
