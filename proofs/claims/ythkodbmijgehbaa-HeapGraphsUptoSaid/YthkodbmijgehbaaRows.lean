/-
  No cell of these rows narrows 'for every input' (looked for: loops, veiled, ifaces, maps, wideKeys, modest, calm, conditions, laid).
  DERIVED. THE GIVEN ROWS OF THIS SEAT. 12 by the template 'for every input the law returns true; each argument reads behind the call as it read before'; 0 by the template 'total and deterministic' (their statements: YthkodbmijgehbaaTotals.lean).
  GIVEN WITH THE SEED: the statements are not yours to turn. If you find one false, say at which input.
  Laid BY PROGRAM, IN A SANDBOX (cutbox-rows.mjs): the forced cells as the released guide's own fill.sh prints them over the translation 1e5756a44f5661fd… (all of the seat's roots in one cut). By AI agents, Wed Nov 11 2026. No macro, syntax, notation, axiom, sorry.
-/
import Derived.Test.YthkodbmijgehbaaChecked
import GoSem.Claim
import GoSem.ClaimJoined
import GoSem.ClaimMapViews
import Derived.JoinedTies
import Derived.KernelRfl
namespace Go.Proofs.Ythkodbmijgehbaa
/- THE CELL 'sum', in the pinned program and in every row, IS THE sha256 OF THE DUMP (.gsa) THAT YthkodbmijgehbaaProg.lean LOADS. Nothing in Lean hashes anything: it is a label: what it is worth is what the hold of that sum in a sandbox is worth. -/
noncomputable def Try.pinned : Pinned := { name := "ythkodbmijgehbaa", sum := "1e5756a44f5661fdfff915abe111fd0a8edfa4e4cf25ca114e2889fc3035d666", checked := Try.checked }
namespace Rows
def none {H : Type} : Left H := { results := [], args := [] }

/-- 'tandemlaw03.HeapRoom': WHATEVER THE INPUT: true; the input reads as it did. -/
def heapRoomSpec : ChangeSpec := { name := "heapRoom", fn := fun _ => fun
  | [d1, d2] => { results := [.lit (.bool true)], args := [d1, d2] }
  | _ => none }
def heapRoomRow : OpenClaim := { program := "ythkodbmijgehbaa", sum := "1e5756a44f5661fdfff915abe111fd0a8edfa4e4cf25ca114e2889fc3035d666", func := "tandem/tandemlaw03.HeapRoom", spec := "heapRoom", apart := false }
def HeapRoomSaid : Prop := heapRoomRow.holds Try.pinned (OpenSpec.ofChange heapRoomSpec)

/-- ITS FALSE NEIGHBOUR: 'it returns false'. Refute it at one input. -/
def heapRoomWrong : ChangeSpec := { name := "heapRoom", fn := fun _ => fun
  | [d1, d2] => { results := [.lit (.bool false)], args := [d1, d2] }
  | _ => none }
def HeapRoomWrongFalsely : Prop := heapRoomRow.holds Try.pinned (OpenSpec.ofChange heapRoomWrong)

/-- 'tandemlaw03.HeapFields': WHATEVER THE INPUT: true; the input reads as it did. -/
def heapFieldsSpec : ChangeSpec := { name := "heapFields", fn := fun _ => fun
  | [d1, d2, d3, d4] => { results := [.lit (.bool true)], args := [d1, d2, d3, d4] }
  | _ => none }
def heapFieldsRow : OpenClaim := { program := "ythkodbmijgehbaa", sum := "1e5756a44f5661fdfff915abe111fd0a8edfa4e4cf25ca114e2889fc3035d666", func := "tandem/tandemlaw03.HeapFields", spec := "heapFields", apart := false }
def HeapFieldsSaid : Prop := heapFieldsRow.holds Try.pinned (OpenSpec.ofChange heapFieldsSpec)

/-- ITS FALSE NEIGHBOUR: 'it returns false'. Refute it at one input. -/
def heapFieldsWrong : ChangeSpec := { name := "heapFields", fn := fun _ => fun
  | [d1, d2, d3, d4] => { results := [.lit (.bool false)], args := [d1, d2, d3, d4] }
  | _ => none }
def HeapFieldsWrongFalsely : Prop := heapFieldsRow.holds Try.pinned (OpenSpec.ofChange heapFieldsWrong)

/-- 'tandemlaw03.HeapShares': WHATEVER THE INPUT: true; the input reads as it did. -/
def heapSharesSpec : ChangeSpec := { name := "heapShares", fn := fun _ => fun
  | [d1, d2, d3] => { results := [.lit (.bool true)], args := [d1, d2, d3] }
  | _ => none }
def heapSharesRow : OpenClaim := { program := "ythkodbmijgehbaa", sum := "1e5756a44f5661fdfff915abe111fd0a8edfa4e4cf25ca114e2889fc3035d666", func := "tandem/tandemlaw03.HeapShares", spec := "heapShares", unfollowed := true, recurses := true, apart := false }
def HeapSharesSaid : Prop := heapSharesRow.holds Try.pinned (OpenSpec.ofChange heapSharesSpec)

/-- ITS FALSE NEIGHBOUR: 'it returns false'. Refute it at one input. -/
def heapSharesWrong : ChangeSpec := { name := "heapShares", fn := fun _ => fun
  | [d1, d2, d3] => { results := [.lit (.bool false)], args := [d1, d2, d3] }
  | _ => none }
def HeapSharesWrongFalsely : Prop := heapSharesRow.holds Try.pinned (OpenSpec.ofChange heapSharesWrong)

/-- 'tandemlaw03.HeapGraphs': WHATEVER THE INPUT: true; the input reads as it did. -/
def heapGraphsSpec : ChangeSpec := { name := "heapGraphs", fn := fun _ => fun
  | [d1, d2, d3] => { results := [.lit (.bool true)], args := [d1, d2, d3] }
  | _ => none }
def heapGraphsRow : OpenClaim := { program := "ythkodbmijgehbaa", sum := "1e5756a44f5661fdfff915abe111fd0a8edfa4e4cf25ca114e2889fc3035d666", func := "tandem/tandemlaw03.HeapGraphs", spec := "heapGraphs", unfollowed := true, recurses := true, apart := false }
def HeapGraphsSaid : Prop := heapGraphsRow.holds Try.pinned (OpenSpec.ofChange heapGraphsSpec)

/-- ITS FALSE NEIGHBOUR: 'it returns false'. Refute it at one input. -/
def heapGraphsWrong : ChangeSpec := { name := "heapGraphs", fn := fun _ => fun
  | [d1, d2, d3] => { results := [.lit (.bool false)], args := [d1, d2, d3] }
  | _ => none }
def HeapGraphsWrongFalsely : Prop := heapGraphsRow.holds Try.pinned (OpenSpec.ofChange heapGraphsWrong)

/-- 'tandemlaw03.HeapRefuses': WHATEVER THE INPUT: true; the input reads as it did. -/
def heapRefusesSpec : ChangeSpec := { name := "heapRefuses", fn := fun _ => fun
  | [d1, d2, d3, d4] => { results := [.lit (.bool true)], args := [d1, d2, d3, d4] }
  | _ => none }
def heapRefusesRow : OpenClaim := { program := "ythkodbmijgehbaa", sum := "1e5756a44f5661fdfff915abe111fd0a8edfa4e4cf25ca114e2889fc3035d666", func := "tandem/tandemlaw03.HeapRefuses", spec := "heapRefuses", unfollowed := true, recurses := true, apart := false }
def HeapRefusesSaid : Prop := heapRefusesRow.holds Try.pinned (OpenSpec.ofChange heapRefusesSpec)

/-- ITS FALSE NEIGHBOUR: 'it returns false'. Refute it at one input. -/
def heapRefusesWrong : ChangeSpec := { name := "heapRefuses", fn := fun _ => fun
  | [d1, d2, d3, d4] => { results := [.lit (.bool false)], args := [d1, d2, d3, d4] }
  | _ => none }
def HeapRefusesWrongFalsely : Prop := heapRefusesRow.holds Try.pinned (OpenSpec.ofChange heapRefusesWrong)

/-- 'tandemlaw03.HeapDrops': WHATEVER THE INPUT: true; the input reads as it did. -/
def heapDropsSpec : ChangeSpec := { name := "heapDrops", fn := fun _ => fun
  | [d1, d2, d3] => { results := [.lit (.bool true)], args := [d1, d2, d3] }
  | _ => none }
def heapDropsRow : OpenClaim := { program := "ythkodbmijgehbaa", sum := "1e5756a44f5661fdfff915abe111fd0a8edfa4e4cf25ca114e2889fc3035d666", func := "tandem/tandemlaw03.HeapDrops", spec := "heapDrops", unfollowed := true, recurses := true, apart := false }
def HeapDropsSaid : Prop := heapDropsRow.holds Try.pinned (OpenSpec.ofChange heapDropsSpec)

/-- ITS FALSE NEIGHBOUR: 'it returns false'. Refute it at one input. -/
def heapDropsWrong : ChangeSpec := { name := "heapDrops", fn := fun _ => fun
  | [d1, d2, d3] => { results := [.lit (.bool false)], args := [d1, d2, d3] }
  | _ => none }
def HeapDropsWrongFalsely : Prop := heapDropsRow.holds Try.pinned (OpenSpec.ofChange heapDropsWrong)

/-- 'tandemlaw03.HeapTwice': WHATEVER THE INPUT: true; the input reads as it did. -/
def heapTwiceSpec : ChangeSpec := { name := "heapTwice", fn := fun _ => fun
  | [d1, d2, d3] => { results := [.lit (.bool true)], args := [d1, d2, d3] }
  | _ => none }
def heapTwiceRow : OpenClaim := { program := "ythkodbmijgehbaa", sum := "1e5756a44f5661fdfff915abe111fd0a8edfa4e4cf25ca114e2889fc3035d666", func := "tandem/tandemlaw03.HeapTwice", spec := "heapTwice", unfollowed := true, recurses := true, apart := false }
def HeapTwiceSaid : Prop := heapTwiceRow.holds Try.pinned (OpenSpec.ofChange heapTwiceSpec)

/-- ITS FALSE NEIGHBOUR: 'it returns false'. Refute it at one input. -/
def heapTwiceWrong : ChangeSpec := { name := "heapTwice", fn := fun _ => fun
  | [d1, d2, d3] => { results := [.lit (.bool false)], args := [d1, d2, d3] }
  | _ => none }
def HeapTwiceWrongFalsely : Prop := heapTwiceRow.holds Try.pinned (OpenSpec.ofChange heapTwiceWrong)

/-- 'tandemlaw03.HeapPlays': WHATEVER THE INPUT: true; the input reads as it did. -/
def heapPlaysSpec : ChangeSpec := { name := "heapPlays", fn := fun _ => fun
  | [d1, d2] => { results := [.lit (.bool true)], args := [d1, d2] }
  | _ => none }
def heapPlaysRow : OpenClaim := { program := "ythkodbmijgehbaa", sum := "1e5756a44f5661fdfff915abe111fd0a8edfa4e4cf25ca114e2889fc3035d666", func := "tandem/tandemlaw03.HeapPlays", spec := "heapPlays", unfollowed := true, recurses := true, apart := false }
def HeapPlaysSaid : Prop := heapPlaysRow.holds Try.pinned (OpenSpec.ofChange heapPlaysSpec)

/-- ITS FALSE NEIGHBOUR: 'it returns false'. Refute it at one input. -/
def heapPlaysWrong : ChangeSpec := { name := "heapPlays", fn := fun _ => fun
  | [d1, d2] => { results := [.lit (.bool false)], args := [d1, d2] }
  | _ => none }
def HeapPlaysWrongFalsely : Prop := heapPlaysRow.holds Try.pinned (OpenSpec.ofChange heapPlaysWrong)

/-- 'tandemlaw23.CensusWords': WHATEVER THE INPUT: true; the input reads as it did. -/
def censusWordsSpec : ChangeSpec := { name := "censusWords", fn := fun _ => fun
  | [d1, d2] => { results := [.lit (.bool true)], args := [d1, d2] }
  | _ => none }
def censusWordsRow : OpenClaim := { program := "ythkodbmijgehbaa", sum := "1e5756a44f5661fdfff915abe111fd0a8edfa4e4cf25ca114e2889fc3035d666", func := "tandem/tandemlaw23.CensusWords", spec := "censusWords", unfollowed := true, recurses := true, apart := false }
def CensusWordsSaid : Prop := censusWordsRow.holds Try.pinned (OpenSpec.ofChange censusWordsSpec)

/-- ITS FALSE NEIGHBOUR: 'it returns false'. Refute it at one input. -/
def censusWordsWrong : ChangeSpec := { name := "censusWords", fn := fun _ => fun
  | [d1, d2] => { results := [.lit (.bool false)], args := [d1, d2] }
  | _ => none }
def CensusWordsWrongFalsely : Prop := censusWordsRow.holds Try.pinned (OpenSpec.ofChange censusWordsWrong)

/-- 'tandemlaw23.CensusSpoils': WHATEVER THE INPUT: true; the input reads as it did. -/
def censusSpoilsSpec : ChangeSpec := { name := "censusSpoils", fn := fun _ => fun
  | [d1, d2, d3] => { results := [.lit (.bool true)], args := [d1, d2, d3] }
  | _ => none }
def censusSpoilsRow : OpenClaim := { program := "ythkodbmijgehbaa", sum := "1e5756a44f5661fdfff915abe111fd0a8edfa4e4cf25ca114e2889fc3035d666", func := "tandem/tandemlaw23.CensusSpoils", spec := "censusSpoils", unfollowed := true, recurses := true, apart := false }
def CensusSpoilsSaid : Prop := censusSpoilsRow.holds Try.pinned (OpenSpec.ofChange censusSpoilsSpec)

/-- ITS FALSE NEIGHBOUR: 'it returns false'. Refute it at one input. -/
def censusSpoilsWrong : ChangeSpec := { name := "censusSpoils", fn := fun _ => fun
  | [d1, d2, d3] => { results := [.lit (.bool false)], args := [d1, d2, d3] }
  | _ => none }
def CensusSpoilsWrongFalsely : Prop := censusSpoilsRow.holds Try.pinned (OpenSpec.ofChange censusSpoilsWrong)

/-- 'tandemlaw23.CensusHeaps': WHATEVER THE INPUT: true; the input reads as it did. -/
def censusHeapsSpec : ChangeSpec := { name := "censusHeaps", fn := fun _ => fun
  | [d1, d2] => { results := [.lit (.bool true)], args := [d1, d2] }
  | _ => none }
def censusHeapsRow : OpenClaim := { program := "ythkodbmijgehbaa", sum := "1e5756a44f5661fdfff915abe111fd0a8edfa4e4cf25ca114e2889fc3035d666", func := "tandem/tandemlaw23.CensusHeaps", spec := "censusHeaps", unfollowed := true, recurses := true, apart := false }
def CensusHeapsSaid : Prop := censusHeapsRow.holds Try.pinned (OpenSpec.ofChange censusHeapsSpec)

/-- ITS FALSE NEIGHBOUR: 'it returns false'. Refute it at one input. -/
def censusHeapsWrong : ChangeSpec := { name := "censusHeaps", fn := fun _ => fun
  | [d1, d2] => { results := [.lit (.bool false)], args := [d1, d2] }
  | _ => none }
def CensusHeapsWrongFalsely : Prop := censusHeapsRow.holds Try.pinned (OpenSpec.ofChange censusHeapsWrong)

/-- 'tandemlaw23.CensusValues': WHATEVER THE INPUT: true; the input reads as it did. -/
def censusValuesSpec : ChangeSpec := { name := "censusValues", fn := fun _ => fun
  | [d] => { results := [.lit (.bool true)], args := [d] }
  | _ => none }
def censusValuesRow : OpenClaim := { program := "ythkodbmijgehbaa", sum := "1e5756a44f5661fdfff915abe111fd0a8edfa4e4cf25ca114e2889fc3035d666", func := "tandem/tandemlaw23.CensusValues", spec := "censusValues", unfollowed := true, recurses := true, apart := false }
def CensusValuesSaid : Prop := censusValuesRow.holds Try.pinned (OpenSpec.ofChange censusValuesSpec)

/-- ITS FALSE NEIGHBOUR: 'it returns false'. Refute it at one input. -/
def censusValuesWrong : ChangeSpec := { name := "censusValues", fn := fun _ => fun
  | [d] => { results := [.lit (.bool false)], args := [d] }
  | _ => none }
def CensusValuesWrongFalsely : Prop := censusValuesRow.holds Try.pinned (OpenSpec.ofChange censusValuesWrong)

/- THE SECOND FORM. 'bulk': how many values and letters a reading holds, each counted each time it is reached (what is shared counts as often as it is met; a slice's spare places count too). A statement '..UptoSaid' is the law's where the arguments, and the package variables that the reading takes, are together of bulk at most 1048576: NARROWER than '..Said'. Prove '..Said' where nothing that the law and all that it calls make is longer than what came in: it says more and counts as full. Else prove '..UptoSaid'. A law counts once. -/
mutual
def uptoBulk {H : Type} : DataW H → Nat
  | .lit (.string bytes) => bytes.length + 1
  | .lit _ => 1
  | .nil => 1
  | .ptr d => uptoBulk d + 1
  | .slice elems spare => uptoBulkAll elems + uptoBulkAll spare + 1
  | .agg parts => uptoBulkAll parts + 1
  | .iface _ d => uptoBulk d + 1
  | .map entries => uptoBulkEntries entries + 1
  | .held _ => 1
def uptoBulkAll {H : Type} : List (DataW H) → Nat
  | [] => 0
  | d :: r => uptoBulk d + uptoBulkAll r
def uptoBulkEntries {H : Type} : List (Lit × DataW H) → Nat
  | [] => 0
  | x :: r => uptoBulkEntry x + uptoBulkEntries r
def uptoBulkEntry {H : Type} : Lit × DataW H → Nat
  | (.string bytes, d) => bytes.length + uptoBulk d + 1
  | (_, d) => uptoBulk d + 1
 end
def uptoSmall : (H : Type) → List (DataW H) → Bool := fun _ ds => decide (uptoBulkAll ds ≤ 1048576)
def OpenSpec.upto (s : _root_.Go.ChangeSpec) : _root_.Go.OpenSpec := { _root_.Go.OpenSpec.ofChange s with cond := some uptoSmall }

/-- 'tandemlaw03.HeapRoom', WHERE WHAT IT READS IS OF BULK AT MOST 1048576: true; the input reads as it did. -/
def heapRoomUptoRow : OpenClaim := { program := "ythkodbmijgehbaa", sum := "1e5756a44f5661fdfff915abe111fd0a8edfa4e4cf25ca114e2889fc3035d666", func := "tandem/tandemlaw03.HeapRoom", spec := "heapRoom", apart := false, narrowed := true }
def HeapRoomUptoSaid : Prop := heapRoomUptoRow.holds Try.pinned (OpenSpec.upto heapRoomSpec)

/-- 'tandemlaw03.HeapFields', WHERE WHAT IT READS IS OF BULK AT MOST 1048576: true; the input reads as it did. -/
def heapFieldsUptoRow : OpenClaim := { program := "ythkodbmijgehbaa", sum := "1e5756a44f5661fdfff915abe111fd0a8edfa4e4cf25ca114e2889fc3035d666", func := "tandem/tandemlaw03.HeapFields", spec := "heapFields", apart := false, narrowed := true }
def HeapFieldsUptoSaid : Prop := heapFieldsUptoRow.holds Try.pinned (OpenSpec.upto heapFieldsSpec)

/-- 'tandemlaw03.HeapShares', WHERE WHAT IT READS IS OF BULK AT MOST 1048576: true; the input reads as it did. -/
def heapSharesUptoRow : OpenClaim := { program := "ythkodbmijgehbaa", sum := "1e5756a44f5661fdfff915abe111fd0a8edfa4e4cf25ca114e2889fc3035d666", func := "tandem/tandemlaw03.HeapShares", spec := "heapShares", unfollowed := true, recurses := true, apart := false, narrowed := true }
def HeapSharesUptoSaid : Prop := heapSharesUptoRow.holds Try.pinned (OpenSpec.upto heapSharesSpec)

/-- 'tandemlaw03.HeapGraphs', WHERE WHAT IT READS IS OF BULK AT MOST 1048576: true; the input reads as it did. -/
def heapGraphsUptoRow : OpenClaim := { program := "ythkodbmijgehbaa", sum := "1e5756a44f5661fdfff915abe111fd0a8edfa4e4cf25ca114e2889fc3035d666", func := "tandem/tandemlaw03.HeapGraphs", spec := "heapGraphs", unfollowed := true, recurses := true, apart := false, narrowed := true }
def HeapGraphsUptoSaid : Prop := heapGraphsUptoRow.holds Try.pinned (OpenSpec.upto heapGraphsSpec)

/-- 'tandemlaw03.HeapRefuses', WHERE WHAT IT READS IS OF BULK AT MOST 1048576: true; the input reads as it did. -/
def heapRefusesUptoRow : OpenClaim := { program := "ythkodbmijgehbaa", sum := "1e5756a44f5661fdfff915abe111fd0a8edfa4e4cf25ca114e2889fc3035d666", func := "tandem/tandemlaw03.HeapRefuses", spec := "heapRefuses", unfollowed := true, recurses := true, apart := false, narrowed := true }
def HeapRefusesUptoSaid : Prop := heapRefusesUptoRow.holds Try.pinned (OpenSpec.upto heapRefusesSpec)

/-- 'tandemlaw03.HeapDrops', WHERE WHAT IT READS IS OF BULK AT MOST 1048576: true; the input reads as it did. -/
def heapDropsUptoRow : OpenClaim := { program := "ythkodbmijgehbaa", sum := "1e5756a44f5661fdfff915abe111fd0a8edfa4e4cf25ca114e2889fc3035d666", func := "tandem/tandemlaw03.HeapDrops", spec := "heapDrops", unfollowed := true, recurses := true, apart := false, narrowed := true }
def HeapDropsUptoSaid : Prop := heapDropsUptoRow.holds Try.pinned (OpenSpec.upto heapDropsSpec)

/-- 'tandemlaw03.HeapTwice', WHERE WHAT IT READS IS OF BULK AT MOST 1048576: true; the input reads as it did. -/
def heapTwiceUptoRow : OpenClaim := { program := "ythkodbmijgehbaa", sum := "1e5756a44f5661fdfff915abe111fd0a8edfa4e4cf25ca114e2889fc3035d666", func := "tandem/tandemlaw03.HeapTwice", spec := "heapTwice", unfollowed := true, recurses := true, apart := false, narrowed := true }
def HeapTwiceUptoSaid : Prop := heapTwiceUptoRow.holds Try.pinned (OpenSpec.upto heapTwiceSpec)

/-- 'tandemlaw03.HeapPlays', WHERE WHAT IT READS IS OF BULK AT MOST 1048576: true; the input reads as it did. -/
def heapPlaysUptoRow : OpenClaim := { program := "ythkodbmijgehbaa", sum := "1e5756a44f5661fdfff915abe111fd0a8edfa4e4cf25ca114e2889fc3035d666", func := "tandem/tandemlaw03.HeapPlays", spec := "heapPlays", unfollowed := true, recurses := true, apart := false, narrowed := true }
def HeapPlaysUptoSaid : Prop := heapPlaysUptoRow.holds Try.pinned (OpenSpec.upto heapPlaysSpec)

/-- 'tandemlaw23.CensusWords', WHERE WHAT IT READS IS OF BULK AT MOST 1048576: true; the input reads as it did. -/
def censusWordsUptoRow : OpenClaim := { program := "ythkodbmijgehbaa", sum := "1e5756a44f5661fdfff915abe111fd0a8edfa4e4cf25ca114e2889fc3035d666", func := "tandem/tandemlaw23.CensusWords", spec := "censusWords", unfollowed := true, recurses := true, apart := false, narrowed := true }
def CensusWordsUptoSaid : Prop := censusWordsUptoRow.holds Try.pinned (OpenSpec.upto censusWordsSpec)

/-- 'tandemlaw23.CensusSpoils', WHERE WHAT IT READS IS OF BULK AT MOST 1048576: true; the input reads as it did. -/
def censusSpoilsUptoRow : OpenClaim := { program := "ythkodbmijgehbaa", sum := "1e5756a44f5661fdfff915abe111fd0a8edfa4e4cf25ca114e2889fc3035d666", func := "tandem/tandemlaw23.CensusSpoils", spec := "censusSpoils", unfollowed := true, recurses := true, apart := false, narrowed := true }
def CensusSpoilsUptoSaid : Prop := censusSpoilsUptoRow.holds Try.pinned (OpenSpec.upto censusSpoilsSpec)

/-- 'tandemlaw23.CensusHeaps', WHERE WHAT IT READS IS OF BULK AT MOST 1048576: true; the input reads as it did. -/
def censusHeapsUptoRow : OpenClaim := { program := "ythkodbmijgehbaa", sum := "1e5756a44f5661fdfff915abe111fd0a8edfa4e4cf25ca114e2889fc3035d666", func := "tandem/tandemlaw23.CensusHeaps", spec := "censusHeaps", unfollowed := true, recurses := true, apart := false, narrowed := true }
def CensusHeapsUptoSaid : Prop := censusHeapsUptoRow.holds Try.pinned (OpenSpec.upto censusHeapsSpec)

/-- 'tandemlaw23.CensusValues', WHERE WHAT IT READS IS OF BULK AT MOST 1048576: true; the input reads as it did. -/
def censusValuesUptoRow : OpenClaim := { program := "ythkodbmijgehbaa", sum := "1e5756a44f5661fdfff915abe111fd0a8edfa4e4cf25ca114e2889fc3035d666", func := "tandem/tandemlaw23.CensusValues", spec := "censusValues", unfollowed := true, recurses := true, apart := false, narrowed := true }
def CensusValuesUptoSaid : Prop := censusValuesUptoRow.holds Try.pinned (OpenSpec.upto censusValuesSpec)

end Rows
end Go.Proofs.Ythkodbmijgehbaa
