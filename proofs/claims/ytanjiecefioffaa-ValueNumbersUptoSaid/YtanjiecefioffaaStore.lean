/- value.Store: where it lies; New, room, known. -/
import Derived.Test.YtanjiecefioffaaRowWords
import Derived.Test.YtanjiecefioffaaSepMap
namespace Go.Proofs.Ytanjiecefioffaa
open Go.RowKit

/-- Where a store lies: its block, its map's block, the slice of names. -/
structure StV where
  g : Nat
  mb : Nat
  ov : Value
/-- What a store holds beside its heap: symbols, names in order, the heap's times when these were right. -/
structure StS where
  syms : SM
  ord : List ByteArray
  tm : Nat
def isSt (X : StV) (hg : Nat) (Y : StS) : HP :=
  blk X.g (.cells #[.pointer (some ⟨hg, 0, none⟩), .map (some X.mb), X.ov, i64 Y.tm] 41 (0, 0)) * (mapS X.mb Y.syms * own 9 1 X.ov Y.ord.length (Y.ord.map .string))

structure StW (w : World) (X : StV) (V : HV) (S : HS) (Y : StS) (R : HP) : Prop where
  s : sat w (isHeap V S * (isSt X V.g Y * R))
  ok : HOk V S

section
variable {w : World} {X : StV} {V : HV} {S : HS} {Y : StS} {R : HP}
theorem StW.hw (h : StW w X V S Y R) : HeapW w V S (isSt X V.g Y * R) := ⟨h.s, h.ok⟩
theorem StW.drewN (h : StW w X V S Y R) (n : Nat) : StW (w.drewN n) X V S Y R := ⟨h.s, h.ok⟩
theorem StW.blk (h : StW w X V S Y R) : sat w (Go.Proofs.Ytanjiecefioffaa.blk X.g (.cells #[.pointer (some ⟨V.g, 0, none⟩), .map (some X.mb), X.ov, i64 Y.tm] 41 (0, 0))) := by
  have h1 := h.s.right.left
  unfold isSt at h1
  exact h1.left
theorem StW.c0 (h : StW w X V S Y R) : w.cell? ⟨X.g, 0, none⟩ = some (.pointer (some ⟨V.g, 0, none⟩)) := (h.blk.cell 0).trans rfl
theorem StW.c1 (h : StW w X V S Y R) : w.cell? ⟨X.g, 1, none⟩ = some (.map (some X.mb)) := (h.blk.cell 1).trans rfl
theorem StW.c2 (h : StW w X V S Y R) : w.cell? ⟨X.g, 2, none⟩ = some X.ov := (h.blk.cell 2).trans rfl
theorem StW.c3 (h : StW w X V S Y R) : w.cell? ⟨X.g, 3, none⟩ = some (.int .i64 Y.tm) := (h.blk.cell 3).trans rfl
/-- The heap turns; the rest stays. -/
theorem StW.turn {w' : World} {V' : HV} {S' : HS} (h : HeapW w' V' S' (isSt X V.g Y * R)) (hg : V'.g = V.g) : StW w' X V' S' Y R := ⟨by rw [hg]; exact h.s, h.ok⟩

set_option maxHeartbeats 400000 in
theorem StNew_good (n : Nat) (hs : sat w R) (h1 : 2 ≤ n) (h2 : n ≤ 1048576) :
    Calls Try.prog 18 #[.int .i64 n] w fun e w' => ∃ (X : StV) (V : HV), e = .returned (.tuple #[.pointer (some ⟨X.g, 0, none⟩), .int .i64 0]) ∧ StW w' X V (HS.new n) ⟨[], [], 0⟩ R ∧ Below 0 w w' := by
  have hmm := @run_makeMap Try.prog
  go_enter Try.func18, Try.ntmps18
  go_wp2_with fail
  refine (New_good n hs h1 h2).mono ?_
  rintro e w1 ⟨V, rfl, hw1, hb1⟩
  go_wp2_with fail
  go_ret2
  have h3 := (hw1.s.nil_own (e := 9) (sz := 1)).new_map
  have h4 := h3.alloc (.cells #[.pointer (some ⟨V.g, 0, none⟩), .map (some w1.heap.size), .slice none 0 0, .int .i64 0] 41)
  refine ⟨⟨(w1.alloc (.map #[] 0)).heap.size, w1.heap.size, .slice none 0 0⟩, V, ?_, ⟨?_, hw1.ok⟩, (hb1.trans (Below.zero_alloc _ _)).trans (Below.zero_alloc _ _)⟩
  · simp [World.size_alloc]
  · unfold isSt
    exact h4.perm (by ac_rfl)

set_option maxHeartbeats 400000 in
theorem StW.room (h : StW w X V S Y R) (n : Int) :
    Calls Try.prog 57 #[.pointer (some ⟨X.g, 0, none⟩), .int .i64 n] w (Says (.bool (decide (n ≤ (S.size : Int) - S.ws.length))) w) := by
  have c0 := h.c0
  have hsz := h.ok.hi
  have hul := h.ok.used
  have hw : IntKind.i64.wrap ((S.size : Int) - S.ws.length) = (S.size : Int) - S.ws.length := IntWalk.i64_in _ (by omega)
  go_enter Try.func57, Try.ntmps57
  go_wp2_with fail
  go_quiet ((first
    | (go_at_call 53; exact Calls.said ((h.hw.v.drewN _).Size))
    | (go_at_call 25; exact Calls.said ((h.hw.v.drewN _).Used))))
  go_wp2_with fail
  go_ret
  exact says_ret rfl
end
end Go.Proofs.Ytanjiecefioffaa
