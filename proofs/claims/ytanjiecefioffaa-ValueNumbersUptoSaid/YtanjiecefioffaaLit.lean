/- '[]byte("..")' of a constant. -/
import Derived.Test.YtanjiecefioffaaStoreName
namespace Go.Proofs.Ytanjiecefioffaa
open Go.RowKit

theorem run_convert_lit {P : Program} (w : World) (t e : TypeId) (C : Array Value) (n c : Nat) (ht : P.underlying t = some (.slice e)) (he : P.underlying e = some (.int .u8)) :
    (convert t t (.slice (some ⟨w.heap.size, 0, none⟩) n c)).run P (w.alloc (.cells C e)) = .ok (.slice (some ⟨w.heap.size, 0, none⟩) n c) (w.alloc (.cells C e (C.size, C.size + 1))) := by
  have hsh : (w.alloc (.cells C e)).shape? w.heap.size = some (e, C.size) := by
    have : (w.alloc (.cells C e)).heap[w.heap.size]? = some (.cells C e) := by
      show (w.heap.push (.cells C e))[w.heap.size]? = _
      simp
    unfold World.shape?
    rw [this]
  have hfr : (w.alloc (.cells C e)).freeze ⟨w.heap.size, C.size, none⟩ 1 = w.alloc (.cells C e (C.size, C.size + 1)) := by
    have hm : ∀ (a : Array Obj) (x : Obj) (f : Obj → Obj), (a.push x).modify a.size f = a.push (f x) := by
      intro a x f
      apply Array.ext
      · simp
      · intro i h1 h2
        simp only [Array.getElem_modify, Array.getElem_push]
        by_cases h : a.size = i
        · subst h
          simp
        · have hi : i < a.size := by simp at h1; omega
          simp [h, hi]
    unfold World.freeze
    rw [if_neg (by decide)]
    show ({ w.alloc (.cells C e) with heap := (w.heap.push (.cells C e)).modify w.heap.size _ } : World) = _
    rw [hm]
    rfl
  simp [convert, run_underlying ht, run_underlying he, markStringish, hsh]
  exact hfr
theorem StW.push {w : World} {X : StV} {V : HV} {S : HS} {Y : StS} {R : HP} (h : StW w X V S Y R) (o : Obj) : StW (w.alloc o) X V S Y (Go.Proofs.Ytanjiecefioffaa.blk w.heap.size o * R) := ⟨(h.s.alloc o).perm (by ac_rfl), h.ok⟩
theorem bytes_in {R : HP} (b : List Int) (C : Array Value) (hC : C.toList = b.map u8v) (bo e : Nat) (fr : Nat × Nat) : BytesIn (blk bo (.cells C e fr) * R) (some ⟨bo, 0, none⟩) b := by
  intro w hs j x hj
  refine ⟨⟨bo, 0, none⟩, rfl, ?_⟩
  have ha : ((⟨bo, 0, none⟩ : Addr).add j) = ⟨bo, j, none⟩ := by unfold Addr.add; split <;> simp_all
  rw [ha, hs.left.cell j, ← Array.getElem?_toList, hC, List.getElem?_map, hj]
  rfl
end Go.Proofs.Ytanjiecefioffaa
