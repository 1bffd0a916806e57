/-
  No cell of these rows narrows 'for every input' (looked for: loops, veiled, ifaces, maps, wideKeys, modest, calm, conditions, laid).
  DERIVED. THE GIVEN ROWS OF THIS SEAT. 9 by the template 'for every input the law returns true; each argument reads behind the call as it read before'; 0 by the template 'total and deterministic' (their statements: YtdmilmmfibmofaaTotals.lean).
  GIVEN WITH THE SEED: the statements are not yours to turn. If you find one false, say at which input.
  Laid BY PROGRAM, IN A SANDBOX (cutbox-rows.mjs): the forced cells as the released guide's own fill.sh prints them over the translation 93a9ca0aa8c82ae3… (all of the seat's roots in one cut). By AI agents, Wed Nov 11 2026. No macro, syntax, notation, axiom, sorry.
-/
import Derived.Test.YtdmilmmfibmofaaChecked
import GoSem.Claim
import GoSem.ClaimJoined
import GoSem.ClaimMapViews
import Derived.JoinedTies
import Derived.KernelRfl
namespace Go.Proofs.Ytdmilmmfibmofaa
/- THE CELL 'sum', in the pinned program and in every row, IS THE sha256 OF THE DUMP (.gsa) THAT YtdmilmmfibmofaaProg.lean LOADS. Nothing in Lean hashes anything: it is a label: what it is worth is what the hold of that sum in a sandbox is worth. -/
noncomputable def Try.pinned : Pinned := { name := "ytdmilmmfibmofaa", sum := "93a9ca0aa8c82ae3965d1455dfb8e5ab7869e763aa6ef3c930cba689d2f2a51a", checked := Try.checked }
namespace Rows
def none {H : Type} : Left H := { results := [], args := [] }

/-- 'lexiphanelaw16.MeanTells': WHATEVER THE INPUT: true; the input reads as it did. -/
def meanTellsSpec : ChangeSpec := { name := "meanTells", fn := fun _ => fun
  | [d1, d2, d3, d4] => { results := [.lit (.bool true)], args := [d1, d2, d3, d4] }
  | _ => none }
def meanTellsRow : OpenClaim := { program := "ytdmilmmfibmofaa", sum := "93a9ca0aa8c82ae3965d1455dfb8e5ab7869e763aa6ef3c930cba689d2f2a51a", func := "lexiphane/lexiphanelaw16.MeanTells", spec := "meanTells", apart := false }
def MeanTellsSaid : Prop := meanTellsRow.holds Try.pinned (OpenSpec.ofChange meanTellsSpec)

/-- ITS FALSE NEIGHBOUR: 'it returns false'. Refute it at one input. -/
def meanTellsWrong : ChangeSpec := { name := "meanTells", fn := fun _ => fun
  | [d1, d2, d3, d4] => { results := [.lit (.bool false)], args := [d1, d2, d3, d4] }
  | _ => none }
def MeanTellsWrongFalsely : Prop := meanTellsRow.holds Try.pinned (OpenSpec.ofChange meanTellsWrong)

/-- 'lexiphanelaw16.MeanJoins': WHATEVER THE INPUT: true; the input reads as it did. -/
def meanJoinsSpec : ChangeSpec := { name := "meanJoins", fn := fun _ => fun
  | [d1, d2, d3] => { results := [.lit (.bool true)], args := [d1, d2, d3] }
  | _ => none }
def meanJoinsRow : OpenClaim := { program := "ytdmilmmfibmofaa", sum := "93a9ca0aa8c82ae3965d1455dfb8e5ab7869e763aa6ef3c930cba689d2f2a51a", func := "lexiphane/lexiphanelaw16.MeanJoins", spec := "meanJoins", apart := false }
def MeanJoinsSaid : Prop := meanJoinsRow.holds Try.pinned (OpenSpec.ofChange meanJoinsSpec)

/-- ITS FALSE NEIGHBOUR: 'it returns false'. Refute it at one input. -/
def meanJoinsWrong : ChangeSpec := { name := "meanJoins", fn := fun _ => fun
  | [d1, d2, d3] => { results := [.lit (.bool false)], args := [d1, d2, d3] }
  | _ => none }
def MeanJoinsWrongFalsely : Prop := meanJoinsRow.holds Try.pinned (OpenSpec.ofChange meanJoinsWrong)

/-- 'lexiphanelaw16.MeanBytes': WHATEVER THE INPUT: true; the input reads as it did. -/
def meanBytesSpec : ChangeSpec := { name := "meanBytes", fn := fun _ => fun
  | [d1, d2, d3] => { results := [.lit (.bool true)], args := [d1, d2, d3] }
  | _ => none }
def meanBytesRow : OpenClaim := { program := "ytdmilmmfibmofaa", sum := "93a9ca0aa8c82ae3965d1455dfb8e5ab7869e763aa6ef3c930cba689d2f2a51a", func := "lexiphane/lexiphanelaw16.MeanBytes", spec := "meanBytes", apart := false }
def MeanBytesSaid : Prop := meanBytesRow.holds Try.pinned (OpenSpec.ofChange meanBytesSpec)

/-- ITS FALSE NEIGHBOUR: 'it returns false'. Refute it at one input. -/
def meanBytesWrong : ChangeSpec := { name := "meanBytes", fn := fun _ => fun
  | [d1, d2, d3] => { results := [.lit (.bool false)], args := [d1, d2, d3] }
  | _ => none }
def MeanBytesWrongFalsely : Prop := meanBytesRow.holds Try.pinned (OpenSpec.ofChange meanBytesWrong)

/-- 'lexiphanelaw16.MeanFirst': WHATEVER THE INPUT: true; the input reads as it did. -/
def meanFirstSpec : ChangeSpec := { name := "meanFirst", fn := fun _ => fun
  | [d1, d2, d3] => { results := [.lit (.bool true)], args := [d1, d2, d3] }
  | _ => none }
def meanFirstRow : OpenClaim := { program := "ytdmilmmfibmofaa", sum := "93a9ca0aa8c82ae3965d1455dfb8e5ab7869e763aa6ef3c930cba689d2f2a51a", func := "lexiphane/lexiphanelaw16.MeanFirst", spec := "meanFirst", apart := false }
def MeanFirstSaid : Prop := meanFirstRow.holds Try.pinned (OpenSpec.ofChange meanFirstSpec)

/-- ITS FALSE NEIGHBOUR: 'it returns false'. Refute it at one input. -/
def meanFirstWrong : ChangeSpec := { name := "meanFirst", fn := fun _ => fun
  | [d1, d2, d3] => { results := [.lit (.bool false)], args := [d1, d2, d3] }
  | _ => none }
def MeanFirstWrongFalsely : Prop := meanFirstRow.holds Try.pinned (OpenSpec.ofChange meanFirstWrong)

/-- 'lexiphanelaw16.MeanBound': WHATEVER THE INPUT: true; the input reads as it did. -/
def meanBoundSpec : ChangeSpec := { name := "meanBound", fn := fun _ => fun
  | [d1, d2, d3] => { results := [.lit (.bool true)], args := [d1, d2, d3] }
  | _ => none }
def meanBoundRow : OpenClaim := { program := "ytdmilmmfibmofaa", sum := "93a9ca0aa8c82ae3965d1455dfb8e5ab7869e763aa6ef3c930cba689d2f2a51a", func := "lexiphane/lexiphanelaw16.MeanBound", spec := "meanBound", apart := false }
def MeanBoundSaid : Prop := meanBoundRow.holds Try.pinned (OpenSpec.ofChange meanBoundSpec)

/-- ITS FALSE NEIGHBOUR: 'it returns false'. Refute it at one input. -/
def meanBoundWrong : ChangeSpec := { name := "meanBound", fn := fun _ => fun
  | [d1, d2, d3] => { results := [.lit (.bool false)], args := [d1, d2, d3] }
  | _ => none }
def MeanBoundWrongFalsely : Prop := meanBoundRow.holds Try.pinned (OpenSpec.ofChange meanBoundWrong)

/-- 'lexiphanelaw13.GreedyTells': WHATEVER THE INPUT: true; the input reads as it did. -/
def greedyTellsSpec : ChangeSpec := { name := "greedyTells", fn := fun _ => fun
  | [d1, d2, d3] => { results := [.lit (.bool true)], args := [d1, d2, d3] }
  | _ => none }
def greedyTellsRow : OpenClaim := { program := "ytdmilmmfibmofaa", sum := "93a9ca0aa8c82ae3965d1455dfb8e5ab7869e763aa6ef3c930cba689d2f2a51a", func := "lexiphane/lexiphanelaw13.GreedyTells", spec := "greedyTells", apart := false }
def GreedyTellsSaid : Prop := greedyTellsRow.holds Try.pinned (OpenSpec.ofChange greedyTellsSpec)

/-- ITS FALSE NEIGHBOUR: 'it returns false'. Refute it at one input. -/
def greedyTellsWrong : ChangeSpec := { name := "greedyTells", fn := fun _ => fun
  | [d1, d2, d3] => { results := [.lit (.bool false)], args := [d1, d2, d3] }
  | _ => none }
def GreedyTellsWrongFalsely : Prop := greedyTellsRow.holds Try.pinned (OpenSpec.ofChange greedyTellsWrong)

/-- 'lexiphanelaw13.GreedyWhole': WHATEVER THE INPUT: true; the input reads as it did. -/
def greedyWholeSpec : ChangeSpec := { name := "greedyWhole", fn := fun _ => fun
  | [d] => { results := [.lit (.bool true)], args := [d] }
  | _ => none }
def greedyWholeRow : OpenClaim := { program := "ytdmilmmfibmofaa", sum := "93a9ca0aa8c82ae3965d1455dfb8e5ab7869e763aa6ef3c930cba689d2f2a51a", func := "lexiphane/lexiphanelaw13.GreedyWhole", spec := "greedyWhole", apart := false }
def GreedyWholeSaid : Prop := greedyWholeRow.holds Try.pinned (OpenSpec.ofChange greedyWholeSpec)

/-- ITS FALSE NEIGHBOUR: 'it returns false'. Refute it at one input. -/
def greedyWholeWrong : ChangeSpec := { name := "greedyWhole", fn := fun _ => fun
  | [d] => { results := [.lit (.bool false)], args := [d] }
  | _ => none }
def GreedyWholeWrongFalsely : Prop := greedyWholeRow.holds Try.pinned (OpenSpec.ofChange greedyWholeWrong)

/-- 'lexiphanelaw13.GreedyAhead': WHATEVER THE INPUT: true; the input reads as it did. -/
def greedyAheadSpec : ChangeSpec := { name := "greedyAhead", fn := fun _ => fun
  | [d1, d2, d3] => { results := [.lit (.bool true)], args := [d1, d2, d3] }
  | _ => none }
def greedyAheadRow : OpenClaim := { program := "ytdmilmmfibmofaa", sum := "93a9ca0aa8c82ae3965d1455dfb8e5ab7869e763aa6ef3c930cba689d2f2a51a", func := "lexiphane/lexiphanelaw13.GreedyAhead", spec := "greedyAhead", apart := false }
def GreedyAheadSaid : Prop := greedyAheadRow.holds Try.pinned (OpenSpec.ofChange greedyAheadSpec)

/-- ITS FALSE NEIGHBOUR: 'it returns false'. Refute it at one input. -/
def greedyAheadWrong : ChangeSpec := { name := "greedyAhead", fn := fun _ => fun
  | [d1, d2, d3] => { results := [.lit (.bool false)], args := [d1, d2, d3] }
  | _ => none }
def GreedyAheadWrongFalsely : Prop := greedyAheadRow.holds Try.pinned (OpenSpec.ofChange greedyAheadWrong)

/-- 'lexiphanelaw13.GreedyCounts': WHATEVER THE INPUT: true; the input reads as it did. -/
def greedyCountsSpec : ChangeSpec := { name := "greedyCounts", fn := fun _ => fun
  | [d1, d2] => { results := [.lit (.bool true)], args := [d1, d2] }
  | _ => none }
def greedyCountsRow : OpenClaim := { program := "ytdmilmmfibmofaa", sum := "93a9ca0aa8c82ae3965d1455dfb8e5ab7869e763aa6ef3c930cba689d2f2a51a", func := "lexiphane/lexiphanelaw13.GreedyCounts", spec := "greedyCounts", apart := false }
def GreedyCountsSaid : Prop := greedyCountsRow.holds Try.pinned (OpenSpec.ofChange greedyCountsSpec)

/-- ITS FALSE NEIGHBOUR: 'it returns false'. Refute it at one input. -/
def greedyCountsWrong : ChangeSpec := { name := "greedyCounts", fn := fun _ => fun
  | [d1, d2] => { results := [.lit (.bool false)], args := [d1, d2] }
  | _ => none }
def GreedyCountsWrongFalsely : Prop := greedyCountsRow.holds Try.pinned (OpenSpec.ofChange greedyCountsWrong)

/- THE SECOND FORM. 'bulk': how many values and letters a reading holds, each counted each time it is reached (what is shared counts as often as it is met; a slice's spare places count too). A statement '..UptoSaid' is the law's where the arguments, and the package variables that the reading takes, are together of bulk at most 1048576: NARROWER than '..Said'. Prove '..Said' where nothing that the law and all that it calls make is longer than what came in: it says more and counts as full. Else prove '..UptoSaid'. A law counts once. -/
mutual
def uptoBulk {H : Type} : DataW H → Nat
  | .lit (.string bytes) => bytes.length + 1
  | .lit _ => 1
  | .nil => 1
  | .ptr d => uptoBulk d + 1
  | .slice elems spare => uptoBulkAll elems + uptoBulkAll spare + 1
  | .agg parts => uptoBulkAll parts + 1
  | .iface _ d => uptoBulk d + 1
  | .map entries => uptoBulkEntries entries + 1
  | .held _ => 1
def uptoBulkAll {H : Type} : List (DataW H) → Nat
  | [] => 0
  | d :: r => uptoBulk d + uptoBulkAll r
def uptoBulkEntries {H : Type} : List (Lit × DataW H) → Nat
  | [] => 0
  | x :: r => uptoBulkEntry x + uptoBulkEntries r
def uptoBulkEntry {H : Type} : Lit × DataW H → Nat
  | (.string bytes, d) => bytes.length + uptoBulk d + 1
  | (_, d) => uptoBulk d + 1
 end
def uptoSmall : (H : Type) → List (DataW H) → Bool := fun _ ds => decide (uptoBulkAll ds ≤ 1048576)
def OpenSpec.upto (s : _root_.Go.ChangeSpec) : _root_.Go.OpenSpec := { _root_.Go.OpenSpec.ofChange s with cond := some uptoSmall }

/-- 'lexiphanelaw16.MeanTells', WHERE WHAT IT READS IS OF BULK AT MOST 1048576: true; the input reads as it did. -/
def meanTellsUptoRow : OpenClaim := { program := "ytdmilmmfibmofaa", sum := "93a9ca0aa8c82ae3965d1455dfb8e5ab7869e763aa6ef3c930cba689d2f2a51a", func := "lexiphane/lexiphanelaw16.MeanTells", spec := "meanTells", apart := false, narrowed := true }
def MeanTellsUptoSaid : Prop := meanTellsUptoRow.holds Try.pinned (OpenSpec.upto meanTellsSpec)

/-- 'lexiphanelaw16.MeanJoins', WHERE WHAT IT READS IS OF BULK AT MOST 1048576: true; the input reads as it did. -/
def meanJoinsUptoRow : OpenClaim := { program := "ytdmilmmfibmofaa", sum := "93a9ca0aa8c82ae3965d1455dfb8e5ab7869e763aa6ef3c930cba689d2f2a51a", func := "lexiphane/lexiphanelaw16.MeanJoins", spec := "meanJoins", apart := false, narrowed := true }
def MeanJoinsUptoSaid : Prop := meanJoinsUptoRow.holds Try.pinned (OpenSpec.upto meanJoinsSpec)

/-- 'lexiphanelaw16.MeanBytes', WHERE WHAT IT READS IS OF BULK AT MOST 1048576: true; the input reads as it did. -/
def meanBytesUptoRow : OpenClaim := { program := "ytdmilmmfibmofaa", sum := "93a9ca0aa8c82ae3965d1455dfb8e5ab7869e763aa6ef3c930cba689d2f2a51a", func := "lexiphane/lexiphanelaw16.MeanBytes", spec := "meanBytes", apart := false, narrowed := true }
def MeanBytesUptoSaid : Prop := meanBytesUptoRow.holds Try.pinned (OpenSpec.upto meanBytesSpec)

/-- 'lexiphanelaw16.MeanFirst', WHERE WHAT IT READS IS OF BULK AT MOST 1048576: true; the input reads as it did. -/
def meanFirstUptoRow : OpenClaim := { program := "ytdmilmmfibmofaa", sum := "93a9ca0aa8c82ae3965d1455dfb8e5ab7869e763aa6ef3c930cba689d2f2a51a", func := "lexiphane/lexiphanelaw16.MeanFirst", spec := "meanFirst", apart := false, narrowed := true }
def MeanFirstUptoSaid : Prop := meanFirstUptoRow.holds Try.pinned (OpenSpec.upto meanFirstSpec)

/-- 'lexiphanelaw16.MeanBound', WHERE WHAT IT READS IS OF BULK AT MOST 1048576: true; the input reads as it did. -/
def meanBoundUptoRow : OpenClaim := { program := "ytdmilmmfibmofaa", sum := "93a9ca0aa8c82ae3965d1455dfb8e5ab7869e763aa6ef3c930cba689d2f2a51a", func := "lexiphane/lexiphanelaw16.MeanBound", spec := "meanBound", apart := false, narrowed := true }
def MeanBoundUptoSaid : Prop := meanBoundUptoRow.holds Try.pinned (OpenSpec.upto meanBoundSpec)

/-- 'lexiphanelaw13.GreedyTells', WHERE WHAT IT READS IS OF BULK AT MOST 1048576: true; the input reads as it did. -/
def greedyTellsUptoRow : OpenClaim := { program := "ytdmilmmfibmofaa", sum := "93a9ca0aa8c82ae3965d1455dfb8e5ab7869e763aa6ef3c930cba689d2f2a51a", func := "lexiphane/lexiphanelaw13.GreedyTells", spec := "greedyTells", apart := false, narrowed := true }
def GreedyTellsUptoSaid : Prop := greedyTellsUptoRow.holds Try.pinned (OpenSpec.upto greedyTellsSpec)

/-- 'lexiphanelaw13.GreedyWhole', WHERE WHAT IT READS IS OF BULK AT MOST 1048576: true; the input reads as it did. -/
def greedyWholeUptoRow : OpenClaim := { program := "ytdmilmmfibmofaa", sum := "93a9ca0aa8c82ae3965d1455dfb8e5ab7869e763aa6ef3c930cba689d2f2a51a", func := "lexiphane/lexiphanelaw13.GreedyWhole", spec := "greedyWhole", apart := false, narrowed := true }
def GreedyWholeUptoSaid : Prop := greedyWholeUptoRow.holds Try.pinned (OpenSpec.upto greedyWholeSpec)

/-- 'lexiphanelaw13.GreedyAhead', WHERE WHAT IT READS IS OF BULK AT MOST 1048576: true; the input reads as it did. -/
def greedyAheadUptoRow : OpenClaim := { program := "ytdmilmmfibmofaa", sum := "93a9ca0aa8c82ae3965d1455dfb8e5ab7869e763aa6ef3c930cba689d2f2a51a", func := "lexiphane/lexiphanelaw13.GreedyAhead", spec := "greedyAhead", apart := false, narrowed := true }
def GreedyAheadUptoSaid : Prop := greedyAheadUptoRow.holds Try.pinned (OpenSpec.upto greedyAheadSpec)

/-- 'lexiphanelaw13.GreedyCounts', WHERE WHAT IT READS IS OF BULK AT MOST 1048576: true; the input reads as it did. -/
def greedyCountsUptoRow : OpenClaim := { program := "ytdmilmmfibmofaa", sum := "93a9ca0aa8c82ae3965d1455dfb8e5ab7869e763aa6ef3c930cba689d2f2a51a", func := "lexiphane/lexiphanelaw13.GreedyCounts", spec := "greedyCounts", apart := false, narrowed := true }
def GreedyCountsUptoSaid : Prop := greedyCountsUptoRow.holds Try.pinned (OpenSpec.upto greedyCountsSpec)

end Rows
end Go.Proofs.Ytdmilmmfibmofaa
