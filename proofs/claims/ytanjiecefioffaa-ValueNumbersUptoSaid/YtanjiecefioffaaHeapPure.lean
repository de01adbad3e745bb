/- The heap as plain data: what each of its functions answers. No program in sight. -/
import Derived.Test.YtanjiecefioffaaSep
namespace Go.Proofs.Ytanjiecefioffaa
open Go.RowKit

abbrev u64 (x : Int) : Value := .int .u64 x
abbrev i64 (x : Int) : Value := .int .i64 x

/-- A heap: its size, the words in use, where objects begin, how often it was collected. -/
structure HS where
  size : Nat
  ws : List Int
  bs : List Bool
  times : Nat

def isB (bs : List Bool) (p : Int) : Bool := decide (p % 4 = 0) && bs.getD (p / 4).toNat false
def HS.is (S : HS) (p : Int) : Bool := isB S.bs p
def headOf (ws : List Int) (bs : List Bool) (p : Int) : Int := if isB bs p = true then ws.getD (p / 4).toNat 0 else 0
def HS.head (S : HS) (p : Int) : Int := headOf S.ws S.bs p
def kindH (h : Int) : Int := h / 4 % 64
def tagH (h : Int) : Int := h / 256 % 16777216
def rawH (h : Int) : Int := h / 4294967296 % 16777216
def HS.kind (S : HS) (p : Int) : Int := kindH (S.head p)
def HS.tag (S : HS) (p : Int) : Int := tagH (S.head p)
def HS.raw (S : HS) (p : Int) : Int := rawH (S.head p)

theorem kindH_bd (h : Int) : 0 ≤ kindH h ∧ kindH h < 64 := by unfold kindH; omega
theorem tagH_bd (h : Int) : 0 ≤ tagH h ∧ tagH h < 16777216 := by unfold tagH; omega
theorem rawH_bd (h : Int) : 0 ≤ rawH h ∧ rawH h < 16777216 := by unfold rawH; omega

/-- The words are words, and each object lies whole. -/
structure WfH (ws : List Int) (bs : List Bool) : Prop where
  len : bs.length = ws.length
  pos : 0 < ws.length
  u : ∀ x ∈ ws, 0 ≤ x ∧ x < 18446744073709551616
  fits : ∀ k, bs[k]? = some true → k + 1 + (tagH (ws.getD k 0)).toNat + (rawH (ws.getD k 0)).toNat ≤ ws.length
  zero : bs[0]? = some false ∧ ws[0]? = some 0
  first : ws.length = 1 ∨ bs[1]? = some true
  next : ∀ k, bs[k]? = some true → k + 1 + (tagH (ws.getD k 0)).toNat + (rawH (ws.getD k 0)).toNat = ws.length ∨ bs[k + 1 + (tagH (ws.getD k 0)).toNat + (rawH (ws.getD k 0)).toNat]? = some true
  hdr : ∀ k, bs[k]? = some true → ws.getD k 0 % 4 = 3 ∧ 1 ≤ kindH (ws.getD k 0) ∧ ws.getD k 0 < 72057594037927936
  apart : ∀ k j, bs[k]? = some true → bs[j]? = some true → k < j → k + 1 + (tagH (ws.getD k 0)).toNat + (rawH (ws.getD k 0)).toNat ≤ j

/-- May a word be a tagged field? -/
def mayB (bs : List Bool) (x : Int) : Bool := decide (x % 4 = 1) || decide (x % 4 = 2) || isB bs x
/-- No tagged field holds a header, or leads to what is no object. -/
def PtrOk (ws : List Int) (bs : List Bool) : Prop := ∀ k i, bs[k]? = some true → i < (tagH (ws.getD k 0)).toNat → mayB bs (ws.getD (k + 1 + i) 0) = true

/-- Where a heap lies: its block, which half is in use, that half's arrays, the other half's values. -/
structure HV where
  g : Nat
  inn : Nat
  bw : Nat
  cw : Nat
  bb : Nat
  cb : Nat
  o1 : Value
  o2 : Value

def HV.vw (V : HV) (S : HS) : Value := .slice (some ⟨V.bw, 0, none⟩) S.ws.length V.cw
def HV.vb (V : HV) (S : HS) : Value := .slice (some ⟨V.bb, 0, none⟩) S.bs.length V.cb
def heapCells (V : HV) (S : HS) : Array Value :=
  if V.inn = 0 then #[i64 S.size, V.vw S, V.vb S, V.o1, V.o2, i64 0, i64 S.times] else #[i64 S.size, V.o1, V.o2, V.vw S, V.vb S, i64 1, i64 S.times]

/-- A heap's memory (T: its type's number; tu, tb: those of uint64 and bool). -/
def isHeap (V : HV) (S : HS) : HP := blk V.g (.cells (heapCells V S) 125 (0, 0)) * (row 22 1 V.bw V.cw (S.ws.map u64) * row 4 1 V.bb V.cb (S.bs.map .bool))

/-- A heap that is as it should be. -/
structure HOk (V : HV) (S : HS) : Prop where
  inn : V.inn < 2
  lo : 2 ≤ S.size
  hi : S.size ≤ 1048576
  used : S.ws.length ≤ S.size
  wf : WfH S.ws S.bs
  times : S.times < 4611686018427387904
  ptr : PtrOk S.ws S.bs

/-- What a reader sees. -/
structure HeapV (w : World) (V : HV) (S : HS) : Prop where
  ok : HOk V S
  c0 : w.cell? ⟨V.g, 0, none⟩ = some (.int .i64 S.size)
  c5 : w.cell? ⟨V.g, 5, none⟩ = some (.int .i64 V.inn)
  c6 : w.cell? ⟨V.g, 6, none⟩ = some (.int .i64 S.times)
  cw : w.cell? ⟨V.g, 1 + V.inn * 2, none⟩ = some (.slice (some ⟨V.bw, 0, none⟩) S.ws.length V.cw)
  cb : w.cell? ⟨V.g, 1 + V.inn * 2 + 1, none⟩ = some (.slice (some ⟨V.bb, 0, none⟩) S.bs.length V.cb)
  hw : ∀ j x, S.ws[j]? = some x → w.cell? ⟨V.bw, j, none⟩ = some (.int .u64 x)
  hb : ∀ j x, S.bs[j]? = some x → w.cell? ⟨V.bb, j, none⟩ = some (.bool x)
  wc : S.ws.length ≤ V.cw
  bc : S.bs.length ≤ V.cb

theorem HeapV.drewN {w : World} {V : HV} {S : HS} (h : HeapV w V S) (n : Nat) : HeapV (w.drewN n) V S := ⟨h.ok, h.c0, h.c5, h.c6, h.cw, h.cb, h.hw, h.hb, h.wc, h.bc⟩
theorem HeapV.of_drewN {w : World} {V : HV} {S : HS} {n : Nat} (h : HeapV (w.drewN n) V S) : HeapV w V S := ⟨h.ok, h.c0, h.c5, h.c6, h.cw, h.cb, h.hw, h.hb, h.wc, h.bc⟩

theorem sat.heapV {w : World} {V : HV} {S : HS} {R : HP} (h : sat w (isHeap V S * R)) (ok : HOk V S) : HeapV w V S := by
  unfold isHeap at h
  have hblk : sat w (blk V.g (.cells (heapCells V S) 125 (0, 0))) := h.left.left
  have hrw : sat w (row 22 1 V.bw V.cw (S.ws.map u64) * (row 4 1 V.bb V.cb (S.bs.map .bool))) := h.left.right
  have hrb : sat w (row 4 1 V.bb V.cb (S.bs.map .bool) * row 22 1 V.bw V.cw (S.ws.map u64)) := hrw.perm (HP.comm _ _)
  have bw := hrw.row_bounds
  have bb := hrb.row_bounds
  simp only [List.length_map, Nat.mul_one] at bw bb
  have hi := ok.inn
  have hc := hblk.cell
  refine ⟨ok, ?_, ?_, ?_, ?_, ?_, ?_, ?_, bw.1, bb.1⟩
  · rw [hc]; unfold heapCells; split <;> rfl
  · rw [hc]; unfold heapCells; split
    · rename_i e; rw [e]; rfl
    · have e : V.inn = 1 := by omega
      rw [e]; rfl
  · rw [hc]; unfold heapCells; split <;> rfl
  · rw [hc]; unfold heapCells; split
    · rename_i e; rw [e]; rfl
    · have e : V.inn = 1 := by omega
      rw [e]; rfl
  · rw [hc]; unfold heapCells; split
    · rename_i e; rw [e]; rfl
    · have e : V.inn = 1 := by omega
      rw [e]; rfl
  · intro j x hx
    exact hrw.row_cell (by rw [List.getElem?_map, hx]; rfl)
  · intro j x hx
    exact hrb.row_cell (by rw [List.getElem?_map, hx]; rfl)
end Go.Proofs.Ytanjiecefioffaa
