/- tandemlaw00: Place, CopyBytes, SameBytes; string(b); the bytes of a program are bytes. -/
import Derived.Test.YtkjfplldfjmbaaaPackProto
import Derived.Laws.BytesArg
namespace Go.Proofs.Ytkjfplldfjmbaaa
open Go.RowKit
def Bytes (l : List Int) : Prop := ∀ x ∈ l, 0 ≤ x ∧ x < 256
theorem strOf_inj {l m : List Int} (hl : Bytes l) (hm : Bytes m) (h : (strOfNums l).toList = (strOfNums m).toList) : l = m := by
  have key : ∀ l : List Int, Bytes l → ((strOfNums l).data.toList.map fun b : UInt8 => (b.toNat : Int)) = l := by
    intro l h
    rw [strOfNums_data, List.map_map]
    have : ∀ x ∈ l, ((fun b : UInt8 => (b.toNat : Int)) ∘ fun n : Int => UInt8.ofNat n.toNat) x = x := by
      intro x hx
      have := h x hx
      simp only [Function.comp, UInt8.toNat_ofNat']
      omega
    rw [List.map_congr_left this]
    simp
  rw [ByteArray.toList_eq, ByteArray.toList_eq] at h
  rw [← key l hl, ← key m hm, h]
theorem str_eq {l m : List Int} (hl : Bytes l) (hm : Bytes m) : ((strOfNums l).toList == (strOfNums m).toList) = decide (l = m) := by
  by_cases e : l = m
  · rw [e]; simp
  · rw [decide_eq_false e, beq_eq_false_iff_ne]
    exact fun h => e (strOf_inj hl hm h)
theorem run_bytes_any {P : Program} {w : World} (src dst e : TypeId) (hs : P.underlying src = some (.slice e)) (he : P.underlying e = some (.int .u8)) (hd : P.underlying dst = some .string)
    {ao : Option Addr} {n cap : Nat} {b : List Int} (hl : b.length = n) (h : CellsAt w ao (b.map bv)) : (convert src dst (.slice ao n cap)).run P w = .ok (.string (strOfNums b)) w := by
  cases ao with
  | none =>
    have : b = [] := by
      cases b with
      | nil => rfl
      | cons x l => obtain ⟨a, h, _⟩ := h 0 (bv x) rfl; cases h
    subst this
    exact run_convert_bytes_nil w src e hs he n cap dst hd
  | some a =>
    have hl2 : (loadCells a n).run P w = .ok (b.map (Value.int .u8)).toArray w := by
      have := run_loadCells_list (P := P) w a (b.map (Value.int .u8)) (fun j v hj => by
        obtain ⟨a', ha, hc⟩ := h j v hj
        cases ha; exact hc)
      simpa [hl] using this
    rw [run_convert_bytes_string w src dst e _ n cap hs he hd, run_bytesToString w a n cap b hl2, foldl_push_bytes]
    simp [strOfNums, ByteArray.empty, ByteArray.emptyWithCapacity]
    rfl
theorem own_cellsAt {w : World} {R : HP} {e sz n cap : Nat} {ao : Option Addr} {v : Value} {xs : List Value} (h : sat w (own e sz v n xs * R)) (hv : v = .slice ao n cap) : CellsAt w ao xs := by
  intro j u hj
  have hjl := (List.getElem?_eq_some_iff.1 hj).1
  rcases h.open_own.2 with ⟨e1, e2, hx, _⟩ | ⟨b, cap', hb, _, hr⟩
  · rw [hx] at hj; simp at hj
  · rw [hv] at hb
    cases hb
    refine ⟨_, rfl, ?_⟩
    rw [show (⟨b, 0, none⟩ : Addr).add j = ⟨b, j, none⟩ by unfold Addr.add; split <;> simp_all]
    exact hr.row_cell hj
set_option maxRecDepth 100000 in
theorem same_bytes (w : World) (ao bo : Option Addr) (n m ca cb : Nat) (a b : List Int) (ha : CellsAt w ao (a.map bv)) (hb : CellsAt w bo (b.map bv)) (hn : a.length = n) (hm : b.length = m) (ua : Bytes a) (ub : Bytes b) :
    Calls Try.prog 11 #[.slice ao n ca, .slice bo m cb] w fun e w' => e = .returned (.bool (decide (a = b))) ∧ w' = w := by
  have hcv1 := run_bytes_any (P := Try.prog) (cap := ca) 23 9 5 Try.underlying23 Try.underlying5 Try.underlying9 hn ha
  have hcv2 := run_bytes_any (P := Try.prog) (cap := cb) 23 9 5 Try.underlying23 Try.underlying5 Try.underlying9 hm hb
  have hq := str_eq ua ub
  generalize strOfNums a = sa at *
  generalize strOfNums b = sb at *
  obtain ⟨bb, hbbv⟩ : ∃ bb, decide (a = b) = bb := ⟨_, rfl⟩
  rw [hbbv] at hq ⊢
  clear hbbv ha hb ua ub hn hm
  go_enter Try.func11, Try.ntmps11
  go_wp2_with fail
  go_ret
  exact ⟨rfl, rfl⟩
def place (v n : Int) : Int := if v.tmod n < 0 then v.tmod n + n else v.tmod n
theorem place_bd (v n : Int) (h : 0 < n) : 0 ≤ place v n ∧ place v n < n := by
  have h1 := Int.tmod_lt_of_pos v h
  have h2 := Int.lt_tmod_of_pos v h
  unfold place; split <;> omega
set_option maxHeartbeats 400000 in
theorem place_any (v n : Int) (w : World) (h0 : 0 < n) (h1 : n ≤ 9223372036854775807) :
    Calls Try.prog 13 #[.int .i64 v, .int .i64 n] w fun e w' => e = .returned (.int .i64 (place v n)) ∧ w = w' := by
  have hn : (n == 0) = false := by rw [beq_eq_false_iff_ne]; omega
  have h2 := Int.tmod_lt_of_pos v h0
  have h3 := Int.lt_tmod_of_pos v h0
  by_cases hneg : v.tmod n < 0
  · have e : place v n = v.tmod n + n := by unfold place; rw [if_pos hneg]
    rw [e]
    clear e
    have hs : IntKind.i64.wrap (v.tmod n + n) = v.tmod n + n := IntWalk.i64_in _ (by omega)
    go_enter Try.func13, Try.ntmps13
    go_wp2
    go_ret
    exact ⟨rfl, rfl⟩
  · have e : place v n = v.tmod n := by unfold place; rw [if_neg hneg]
    have hge : 0 ≤ v.tmod n := by omega
    rw [e]
    clear e hneg
    go_enter Try.func13, Try.ntmps13
    go_wp2
    go_ret
    exact ⟨rfl, rfl⟩
theorem Bytes.app {l m : List Int} (h1 : Bytes l) (h2 : Bytes m) : Bytes (l ++ m) := by
  intro x hx
  rcases List.mem_append.1 hx with h | h
  · exact h1 x h
  · exact h2 x h
theorem Bytes.nil : Bytes [] := fun x h => by simp at h
theorem Bytes.flat {α : Type} {f : α → List Int} {l : List α} (h : ∀ x, Bytes (f x)) : Bytes (l.flatMap f) := by
  intro x hx
  obtain ⟨a, _, h2⟩ := List.mem_flatMap.1 hx
  exact h a x h2
theorem numB_u (n : Nat) : Bytes (numB n) := numB_byte n
theorem zigB_u (n : Int) : Bytes (zigB n) := numB_byte _
theorem textB_u (s : ByteArray) : Bytes (textB s) := (numB_u _).app (bytesO_u s)
theorem bitB_u (b : Bool) : Bytes (bitB b) := by intro x hx; cases b <;> simp [bitB] at hx <;> omega
theorem limbsB_u (l : List Int) : Bytes (limbsB l) := Bytes.flat fun _ => numB_u _
mutual
theorem constB_u : ∀ d : Dm, Bytes (constB d)
  | .mk k n neg mag text items rest => by
    have h1 := constBs_u items
    have h2 := constBs_u rest
    unfold constB
    refine (numB_u _).app ?_
    split
    · exact ((bitB_u _).app (numB_u _)).app (limbsB_u _)
    · split
      · exact zigB_u _
      · split
        · exact textB_u _
        · split
          · exact (textB_u _).app (zigB_u _)
          · split
            · exact (((numB_u _).app h1).app (numB_u _)).app h2
            · split
              · exact ((numB_u _).app h1).app h2
              · exact Bytes.nil
theorem constBs_u : ∀ l : List Dm, Bytes (constBs l)
  | [] => by unfold constBs; exact Bytes.nil
  | d :: l => by unfold constBs; exact (constB_u d).app (constBs_u l)
end
theorem codeB_u (l : List (Int × Int × Int)) : Bytes (codeB l) := Bytes.flat fun _ => ((numB_u _).app (zigB_u _)).app (zigB_u _)
theorem protoB_u (p : Pr) : Bytes (protoB p) :=
  (((((((((textB_u _).app (numB_u _)).app (bitB_u _)).app (numB_u _)).app (numB_u _)).app (codeB_u _)).app (numB_u _)).app (constBs_u _)).app (numB_u _)).app (Bytes.flat fun s => textB_u s)
theorem writeB_u (l : List Pr) : Bytes (writeB l) := ((show Bytes [84, 65, 78, 68] from fun x hx => by simp at hx; omega).app (numB_u _)).app (Bytes.flat fun p => protoB_u p)
end Go.Proofs.Ytkjfplldfjmbaaa
