/-
  NARROWER THAN 'FOR EVERY INPUT', by the rows' own cells (each row's printed sentence says how): ValueBack: loops · ValueEquals: loops.
  DERIVED. THE GIVEN ROWS OF THIS SEAT. 9 by the template 'for every input the law returns true; each argument reads behind the call as it read before'; 0 by the template 'total and deterministic' (their statements: YtanjiecefioffaaTotals.lean).
  GIVEN WITH THE SEED: the statements are not yours to turn. If you find one false, say at which input.
  Laid BY PROGRAM, IN A SANDBOX (cutbox-rows.mjs): the forced cells as the released guide's own fill.sh prints them over the translation 29107be0cd8946d3… (all of the seat's roots in one cut). By AI agents, Wed Nov 11 2026. No macro, syntax, notation, axiom, sorry.
-/
import Derived.Test.YtanjiecefioffaaChecked
import GoSem.Claim
import GoSem.ClaimJoined
import GoSem.ClaimMapViews
import Derived.JoinedTies
import Derived.KernelRfl
namespace Go.Proofs.Ytanjiecefioffaa
/- THE CELL 'sum', in the pinned program and in every row, IS THE sha256 OF THE DUMP (.gsa) THAT YtanjiecefioffaaProg.lean LOADS. Nothing in Lean hashes anything: it is a label: what it is worth is what the hold of that sum in a sandbox is worth. -/
noncomputable def Try.pinned : Pinned := { name := "ytanjiecefioffaa", sum := "29107be0cd8946d3e6d6b579ffd20496bfd36c4306b42109754a909ce7a231a9", checked := Try.checked }
namespace Rows
def none {H : Type} : Left H := { results := [], args := [] }

/-- 'tandemlaw04.ValueFixes': WHATEVER THE INPUT: true; the input reads as it did. -/
def valueFixesSpec : ChangeSpec := { name := "valueFixes", fn := fun _ => fun
  | [d1, d2] => { results := [.lit (.bool true)], args := [d1, d2] }
  | _ => none }
def valueFixesRow : OpenClaim := { program := "ytanjiecefioffaa", sum := "29107be0cd8946d3e6d6b579ffd20496bfd36c4306b42109754a909ce7a231a9", func := "tandem/tandemlaw04.ValueFixes", spec := "valueFixes", apart := false }
def ValueFixesSaid : Prop := valueFixesRow.holds Try.pinned (OpenSpec.ofChange valueFixesSpec)

/-- ITS FALSE NEIGHBOUR: 'it returns false'. Refute it at one input. -/
def valueFixesWrong : ChangeSpec := { name := "valueFixes", fn := fun _ => fun
  | [d1, d2] => { results := [.lit (.bool false)], args := [d1, d2] }
  | _ => none }
def ValueFixesWrongFalsely : Prop := valueFixesRow.holds Try.pinned (OpenSpec.ofChange valueFixesWrong)

/-- 'tandemlaw04.ValueRoom': WHATEVER THE INPUT: true; the input reads as it did. -/
def valueRoomSpec : ChangeSpec := { name := "valueRoom", fn := fun _ => fun
  | [d1, d2, d3, d4] => { results := [.lit (.bool true)], args := [d1, d2, d3, d4] }
  | _ => none }
def valueRoomRow : OpenClaim := { program := "ytanjiecefioffaa", sum := "29107be0cd8946d3e6d6b579ffd20496bfd36c4306b42109754a909ce7a231a9", func := "tandem/tandemlaw04.ValueRoom", spec := "valueRoom", apart := false }
def ValueRoomSaid : Prop := valueRoomRow.holds Try.pinned (OpenSpec.ofChange valueRoomSpec)

/-- ITS FALSE NEIGHBOUR: 'it returns false'. Refute it at one input. -/
def valueRoomWrong : ChangeSpec := { name := "valueRoom", fn := fun _ => fun
  | [d1, d2, d3, d4] => { results := [.lit (.bool false)], args := [d1, d2, d3, d4] }
  | _ => none }
def ValueRoomWrongFalsely : Prop := valueRoomRow.holds Try.pinned (OpenSpec.ofChange valueRoomWrong)

/-- 'tandemlaw04.ValueBack': WHATEVER THE INPUT: true; the input reads as it did. -/
def valueBackSpec : ChangeSpec := { name := "valueBack", fn := fun _ => fun
  | [d] => { results := [.lit (.bool true)], args := [d] }
  | _ => none }
def valueBackRow : OpenClaim := { program := "ytanjiecefioffaa", sum := "29107be0cd8946d3e6d6b579ffd20496bfd36c4306b42109754a909ce7a231a9", func := "tandem/tandemlaw04.ValueBack", spec := "valueBack", unfollowed := true, recurses := true, loops := true, apart := false }
def ValueBackSaid : Prop := valueBackRow.holds Try.pinned (OpenSpec.ofChange valueBackSpec)

/-- ITS FALSE NEIGHBOUR: 'it returns false'. Refute it at one input. -/
def valueBackWrong : ChangeSpec := { name := "valueBack", fn := fun _ => fun
  | [d] => { results := [.lit (.bool false)], args := [d] }
  | _ => none }
def ValueBackWrongFalsely : Prop := valueBackRow.holds Try.pinned (OpenSpec.ofChange valueBackWrong)

/-- 'tandemlaw04.ValueSymbols': WHATEVER THE INPUT: true; the input reads as it did. -/
def valueSymbolsSpec : ChangeSpec := { name := "valueSymbols", fn := fun _ => fun
  | [d1, d2] => { results := [.lit (.bool true)], args := [d1, d2] }
  | _ => none }
def valueSymbolsRow : OpenClaim := { program := "ytanjiecefioffaa", sum := "29107be0cd8946d3e6d6b579ffd20496bfd36c4306b42109754a909ce7a231a9", func := "tandem/tandemlaw04.ValueSymbols", spec := "valueSymbols", unfollowed := true, recurses := true, apart := false }
def ValueSymbolsSaid : Prop := valueSymbolsRow.holds Try.pinned (OpenSpec.ofChange valueSymbolsSpec)

/-- ITS FALSE NEIGHBOUR: 'it returns false'. Refute it at one input. -/
def valueSymbolsWrong : ChangeSpec := { name := "valueSymbols", fn := fun _ => fun
  | [d1, d2] => { results := [.lit (.bool false)], args := [d1, d2] }
  | _ => none }
def ValueSymbolsWrongFalsely : Prop := valueSymbolsRow.holds Try.pinned (OpenSpec.ofChange valueSymbolsWrong)

/-- 'tandemlaw04.ValueNumbers': WHATEVER THE INPUT: true; the input reads as it did. -/
def valueNumbersSpec : ChangeSpec := { name := "valueNumbers", fn := fun _ => fun
  | [d1, d2] => { results := [.lit (.bool true)], args := [d1, d2] }
  | _ => none }
def valueNumbersRow : OpenClaim := { program := "ytanjiecefioffaa", sum := "29107be0cd8946d3e6d6b579ffd20496bfd36c4306b42109754a909ce7a231a9", func := "tandem/tandemlaw04.ValueNumbers", spec := "valueNumbers", apart := false }
def ValueNumbersSaid : Prop := valueNumbersRow.holds Try.pinned (OpenSpec.ofChange valueNumbersSpec)

/-- ITS FALSE NEIGHBOUR: 'it returns false'. Refute it at one input. -/
def valueNumbersWrong : ChangeSpec := { name := "valueNumbers", fn := fun _ => fun
  | [d1, d2] => { results := [.lit (.bool false)], args := [d1, d2] }
  | _ => none }
def ValueNumbersWrongFalsely : Prop := valueNumbersRow.holds Try.pinned (OpenSpec.ofChange valueNumbersWrong)

/-- 'tandemlaw04.ValueLists': WHATEVER THE INPUT: true; the input reads as it did. -/
def valueListsSpec : ChangeSpec := { name := "valueLists", fn := fun _ => fun
  | [d] => { results := [.lit (.bool true)], args := [d] }
  | _ => none }
def valueListsRow : OpenClaim := { program := "ytanjiecefioffaa", sum := "29107be0cd8946d3e6d6b579ffd20496bfd36c4306b42109754a909ce7a231a9", func := "tandem/tandemlaw04.ValueLists", spec := "valueLists", recurses := true, apart := false }
def ValueListsSaid : Prop := valueListsRow.holds Try.pinned (OpenSpec.ofChange valueListsSpec)

/-- ITS FALSE NEIGHBOUR: 'it returns false'. Refute it at one input. -/
def valueListsWrong : ChangeSpec := { name := "valueLists", fn := fun _ => fun
  | [d] => { results := [.lit (.bool false)], args := [d] }
  | _ => none }
def ValueListsWrongFalsely : Prop := valueListsRow.holds Try.pinned (OpenSpec.ofChange valueListsWrong)

/-- 'tandemlaw04.ValueEquals': WHATEVER THE INPUT: true; the input reads as it did. -/
def valueEqualsSpec : ChangeSpec := { name := "valueEquals", fn := fun _ => fun
  | [d1, d2] => { results := [.lit (.bool true)], args := [d1, d2] }
  | _ => none }
def valueEqualsRow : OpenClaim := { program := "ytanjiecefioffaa", sum := "29107be0cd8946d3e6d6b579ffd20496bfd36c4306b42109754a909ce7a231a9", func := "tandem/tandemlaw04.ValueEquals", spec := "valueEquals", recurses := true, loops := true, apart := false }
def ValueEqualsSaid : Prop := valueEqualsRow.holds Try.pinned (OpenSpec.ofChange valueEqualsSpec)

/-- ITS FALSE NEIGHBOUR: 'it returns false'. Refute it at one input. -/
def valueEqualsWrong : ChangeSpec := { name := "valueEquals", fn := fun _ => fun
  | [d1, d2] => { results := [.lit (.bool false)], args := [d1, d2] }
  | _ => none }
def ValueEqualsWrongFalsely : Prop := valueEqualsRow.holds Try.pinned (OpenSpec.ofChange valueEqualsWrong)

/-- 'tandemlaw04.ValueTexts': WHATEVER THE INPUT: true; the input reads as it did. -/
def valueTextsSpec : ChangeSpec := { name := "valueTexts", fn := fun _ => fun
  | [d] => { results := [.lit (.bool true)], args := [d] }
  | _ => none }
def valueTextsRow : OpenClaim := { program := "ytanjiecefioffaa", sum := "29107be0cd8946d3e6d6b579ffd20496bfd36c4306b42109754a909ce7a231a9", func := "tandem/tandemlaw04.ValueTexts", spec := "valueTexts", recurses := true, apart := false }
def ValueTextsSaid : Prop := valueTextsRow.holds Try.pinned (OpenSpec.ofChange valueTextsSpec)

/-- ITS FALSE NEIGHBOUR: 'it returns false'. Refute it at one input. -/
def valueTextsWrong : ChangeSpec := { name := "valueTexts", fn := fun _ => fun
  | [d] => { results := [.lit (.bool false)], args := [d] }
  | _ => none }
def ValueTextsWrongFalsely : Prop := valueTextsRow.holds Try.pinned (OpenSpec.ofChange valueTextsWrong)

/-- 'tandemlaw04.ValueRounds': WHATEVER THE INPUT: true; the input reads as it did. -/
def valueRoundsSpec : ChangeSpec := { name := "valueRounds", fn := fun _ => fun
  | [d1, d2] => { results := [.lit (.bool true)], args := [d1, d2] }
  | _ => none }
def valueRoundsRow : OpenClaim := { program := "ytanjiecefioffaa", sum := "29107be0cd8946d3e6d6b579ffd20496bfd36c4306b42109754a909ce7a231a9", func := "tandem/tandemlaw04.ValueRounds", spec := "valueRounds", recurses := true, apart := false }
def ValueRoundsSaid : Prop := valueRoundsRow.holds Try.pinned (OpenSpec.ofChange valueRoundsSpec)

/-- ITS FALSE NEIGHBOUR: 'it returns false'. Refute it at one input. -/
def valueRoundsWrong : ChangeSpec := { name := "valueRounds", fn := fun _ => fun
  | [d1, d2] => { results := [.lit (.bool false)], args := [d1, d2] }
  | _ => none }
def ValueRoundsWrongFalsely : Prop := valueRoundsRow.holds Try.pinned (OpenSpec.ofChange valueRoundsWrong)

/- THE SECOND FORM. 'bulk': how many values and letters a reading holds, each counted each time it is reached (what is shared counts as often as it is met; a slice's spare places count too). A statement '..UptoSaid' is the law's where the arguments, and the package variables that the reading takes, are together of bulk at most 1048576: NARROWER than '..Said'. Prove '..Said' where nothing that the law and all that it calls make is longer than what came in: it says more and counts as full. Else prove '..UptoSaid'. A law counts once. -/
mutual
def uptoBulk {H : Type} : DataW H → Nat
  | .lit (.string bytes) => bytes.length + 1
  | .lit _ => 1
  | .nil => 1
  | .ptr d => uptoBulk d + 1
  | .slice elems spare => uptoBulkAll elems + uptoBulkAll spare + 1
  | .agg parts => uptoBulkAll parts + 1
  | .iface _ d => uptoBulk d + 1
  | .map entries => uptoBulkEntries entries + 1
  | .held _ => 1
def uptoBulkAll {H : Type} : List (DataW H) → Nat
  | [] => 0
  | d :: r => uptoBulk d + uptoBulkAll r
def uptoBulkEntries {H : Type} : List (Lit × DataW H) → Nat
  | [] => 0
  | x :: r => uptoBulkEntry x + uptoBulkEntries r
def uptoBulkEntry {H : Type} : Lit × DataW H → Nat
  | (.string bytes, d) => bytes.length + uptoBulk d + 1
  | (_, d) => uptoBulk d + 1
 end
def uptoSmall : (H : Type) → List (DataW H) → Bool := fun _ ds => decide (uptoBulkAll ds ≤ 1048576)
def OpenSpec.upto (s : _root_.Go.ChangeSpec) : _root_.Go.OpenSpec := { _root_.Go.OpenSpec.ofChange s with cond := some uptoSmall }

/-- 'tandemlaw04.ValueFixes', WHERE WHAT IT READS IS OF BULK AT MOST 1048576: true; the input reads as it did. -/
def valueFixesUptoRow : OpenClaim := { program := "ytanjiecefioffaa", sum := "29107be0cd8946d3e6d6b579ffd20496bfd36c4306b42109754a909ce7a231a9", func := "tandem/tandemlaw04.ValueFixes", spec := "valueFixes", apart := false, narrowed := true }
def ValueFixesUptoSaid : Prop := valueFixesUptoRow.holds Try.pinned (OpenSpec.upto valueFixesSpec)

/-- 'tandemlaw04.ValueRoom', WHERE WHAT IT READS IS OF BULK AT MOST 1048576: true; the input reads as it did. -/
def valueRoomUptoRow : OpenClaim := { program := "ytanjiecefioffaa", sum := "29107be0cd8946d3e6d6b579ffd20496bfd36c4306b42109754a909ce7a231a9", func := "tandem/tandemlaw04.ValueRoom", spec := "valueRoom", apart := false, narrowed := true }
def ValueRoomUptoSaid : Prop := valueRoomUptoRow.holds Try.pinned (OpenSpec.upto valueRoomSpec)

/-- 'tandemlaw04.ValueBack', WHERE WHAT IT READS IS OF BULK AT MOST 1048576: true; the input reads as it did. -/
def valueBackUptoRow : OpenClaim := { program := "ytanjiecefioffaa", sum := "29107be0cd8946d3e6d6b579ffd20496bfd36c4306b42109754a909ce7a231a9", func := "tandem/tandemlaw04.ValueBack", spec := "valueBack", unfollowed := true, recurses := true, loops := true, apart := false, narrowed := true }
def ValueBackUptoSaid : Prop := valueBackUptoRow.holds Try.pinned (OpenSpec.upto valueBackSpec)

/-- 'tandemlaw04.ValueSymbols', WHERE WHAT IT READS IS OF BULK AT MOST 1048576: true; the input reads as it did. -/
def valueSymbolsUptoRow : OpenClaim := { program := "ytanjiecefioffaa", sum := "29107be0cd8946d3e6d6b579ffd20496bfd36c4306b42109754a909ce7a231a9", func := "tandem/tandemlaw04.ValueSymbols", spec := "valueSymbols", unfollowed := true, recurses := true, apart := false, narrowed := true }
def ValueSymbolsUptoSaid : Prop := valueSymbolsUptoRow.holds Try.pinned (OpenSpec.upto valueSymbolsSpec)

/-- 'tandemlaw04.ValueNumbers', WHERE WHAT IT READS IS OF BULK AT MOST 1048576: true; the input reads as it did. -/
def valueNumbersUptoRow : OpenClaim := { program := "ytanjiecefioffaa", sum := "29107be0cd8946d3e6d6b579ffd20496bfd36c4306b42109754a909ce7a231a9", func := "tandem/tandemlaw04.ValueNumbers", spec := "valueNumbers", apart := false, narrowed := true }
def ValueNumbersUptoSaid : Prop := valueNumbersUptoRow.holds Try.pinned (OpenSpec.upto valueNumbersSpec)

/-- 'tandemlaw04.ValueLists', WHERE WHAT IT READS IS OF BULK AT MOST 1048576: true; the input reads as it did. -/
def valueListsUptoRow : OpenClaim := { program := "ytanjiecefioffaa", sum := "29107be0cd8946d3e6d6b579ffd20496bfd36c4306b42109754a909ce7a231a9", func := "tandem/tandemlaw04.ValueLists", spec := "valueLists", recurses := true, apart := false, narrowed := true }
def ValueListsUptoSaid : Prop := valueListsUptoRow.holds Try.pinned (OpenSpec.upto valueListsSpec)

/-- 'tandemlaw04.ValueEquals', WHERE WHAT IT READS IS OF BULK AT MOST 1048576: true; the input reads as it did. -/
def valueEqualsUptoRow : OpenClaim := { program := "ytanjiecefioffaa", sum := "29107be0cd8946d3e6d6b579ffd20496bfd36c4306b42109754a909ce7a231a9", func := "tandem/tandemlaw04.ValueEquals", spec := "valueEquals", recurses := true, loops := true, apart := false, narrowed := true }
def ValueEqualsUptoSaid : Prop := valueEqualsUptoRow.holds Try.pinned (OpenSpec.upto valueEqualsSpec)

/-- 'tandemlaw04.ValueTexts', WHERE WHAT IT READS IS OF BULK AT MOST 1048576: true; the input reads as it did. -/
def valueTextsUptoRow : OpenClaim := { program := "ytanjiecefioffaa", sum := "29107be0cd8946d3e6d6b579ffd20496bfd36c4306b42109754a909ce7a231a9", func := "tandem/tandemlaw04.ValueTexts", spec := "valueTexts", recurses := true, apart := false, narrowed := true }
def ValueTextsUptoSaid : Prop := valueTextsUptoRow.holds Try.pinned (OpenSpec.upto valueTextsSpec)

/-- 'tandemlaw04.ValueRounds', WHERE WHAT IT READS IS OF BULK AT MOST 1048576: true; the input reads as it did. -/
def valueRoundsUptoRow : OpenClaim := { program := "ytanjiecefioffaa", sum := "29107be0cd8946d3e6d6b579ffd20496bfd36c4306b42109754a909ce7a231a9", func := "tandem/tandemlaw04.ValueRounds", spec := "valueRounds", recurses := true, apart := false, narrowed := true }
def ValueRoundsUptoSaid : Prop := valueRoundsUptoRow.holds Try.pinned (OpenSpec.upto valueRoundsSpec)

end Rows
end Go.Proofs.Ytanjiecefioffaa
