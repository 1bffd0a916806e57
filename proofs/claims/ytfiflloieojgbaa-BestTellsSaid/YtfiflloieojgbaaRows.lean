/-
  No cell of these rows narrows 'for every input' (looked for: loops, veiled, ifaces, maps, wideKeys, modest, calm, conditions, laid).
  DERIVED. THE GIVEN ROWS OF THIS SEAT. 8 by the template 'for every input the law returns true; each argument reads behind the call as it read before'; 0 by the template 'total and deterministic' (their statements: YtfiflloieojgbaaTotals.lean).
  GIVEN WITH THE SEED: the statements are not yours to turn. If you find one false, say at which input.
  Laid BY PROGRAM, IN A SANDBOX (cutbox-rows.mjs): the forced cells as the released guide's own fill.sh prints them over the translation ea5609ba33412e92… (all of the seat's roots in one cut). By AI agents, Wed Nov 11 2026. No macro, syntax, notation, axiom, sorry.
-/
import Derived.Test.YtfiflloieojgbaaChecked
import GoSem.Claim
import GoSem.ClaimJoined
import GoSem.ClaimMapViews
import Derived.JoinedTies
import Derived.KernelRfl
namespace Go.Proofs.Ytfiflloieojgbaa
/- THE CELL 'sum', in the pinned program and in every row, IS THE sha256 OF THE DUMP (.gsa) THAT YtfiflloieojgbaaProg.lean LOADS. Nothing in Lean hashes anything: it is a label: what it is worth is what the hold of that sum in a sandbox is worth. -/
noncomputable def Try.pinned : Pinned := { name := "ytfiflloieojgbaa", sum := "ea5609ba33412e92c953eef0b9fe4643afc37b57e16b0e974ad7635fbe374362", checked := Try.checked }
namespace Rows
def none {H : Type} : Left H := { results := [], args := [] }

/-- 'lexiphanelaw15.BestMore': WHATEVER THE INPUT: true; the input reads as it did. -/
def bestMoreSpec : ChangeSpec := { name := "bestMore", fn := fun _ => fun
  | [d1, d2, d3] => { results := [.lit (.bool true)], args := [d1, d2, d3] }
  | _ => none }
def bestMoreRow : OpenClaim := { program := "ytfiflloieojgbaa", sum := "ea5609ba33412e92c953eef0b9fe4643afc37b57e16b0e974ad7635fbe374362", func := "lexiphane/lexiphanelaw15.BestMore", spec := "bestMore", apart := false }
def BestMoreSaid : Prop := bestMoreRow.holds Try.pinned (OpenSpec.ofChange bestMoreSpec)

/-- ITS FALSE NEIGHBOUR: 'it returns false'. Refute it at one input. -/
def bestMoreWrong : ChangeSpec := { name := "bestMore", fn := fun _ => fun
  | [d1, d2, d3] => { results := [.lit (.bool false)], args := [d1, d2, d3] }
  | _ => none }
def BestMoreWrongFalsely : Prop := bestMoreRow.holds Try.pinned (OpenSpec.ofChange bestMoreWrong)

/-- 'lexiphanelaw15.BestWhole': WHATEVER THE INPUT: true; the input reads as it did. -/
def bestWholeSpec : ChangeSpec := { name := "bestWhole", fn := fun _ => fun
  | [d] => { results := [.lit (.bool true)], args := [d] }
  | _ => none }
def bestWholeRow : OpenClaim := { program := "ytfiflloieojgbaa", sum := "ea5609ba33412e92c953eef0b9fe4643afc37b57e16b0e974ad7635fbe374362", func := "lexiphane/lexiphanelaw15.BestWhole", spec := "bestWhole", apart := false }
def BestWholeSaid : Prop := bestWholeRow.holds Try.pinned (OpenSpec.ofChange bestWholeSpec)

/-- ITS FALSE NEIGHBOUR: 'it returns false'. Refute it at one input. -/
def bestWholeWrong : ChangeSpec := { name := "bestWhole", fn := fun _ => fun
  | [d] => { results := [.lit (.bool false)], args := [d] }
  | _ => none }
def BestWholeWrongFalsely : Prop := bestWholeRow.holds Try.pinned (OpenSpec.ofChange bestWholeWrong)

/-- 'lexiphanelaw15.BestTells': WHATEVER THE INPUT: true; the input reads as it did. -/
def bestTellsSpec : ChangeSpec := { name := "bestTells", fn := fun _ => fun
  | [d1, d2, d3] => { results := [.lit (.bool true)], args := [d1, d2, d3] }
  | _ => none }
def bestTellsRow : OpenClaim := { program := "ytfiflloieojgbaa", sum := "ea5609ba33412e92c953eef0b9fe4643afc37b57e16b0e974ad7635fbe374362", func := "lexiphane/lexiphanelaw15.BestTells", spec := "bestTells", apart := false }
def BestTellsSaid : Prop := bestTellsRow.holds Try.pinned (OpenSpec.ofChange bestTellsSpec)

/-- ITS FALSE NEIGHBOUR: 'it returns false'. Refute it at one input. -/
def bestTellsWrong : ChangeSpec := { name := "bestTells", fn := fun _ => fun
  | [d1, d2, d3] => { results := [.lit (.bool false)], args := [d1, d2, d3] }
  | _ => none }
def BestTellsWrongFalsely : Prop := bestTellsRow.holds Try.pinned (OpenSpec.ofChange bestTellsWrong)

/-- 'lexiphanelaw15.BestCosts': WHATEVER THE INPUT: true; the input reads as it did. -/
def bestCostsSpec : ChangeSpec := { name := "bestCosts", fn := fun _ => fun
  | [d1, d2] => { results := [.lit (.bool true)], args := [d1, d2] }
  | _ => none }
def bestCostsRow : OpenClaim := { program := "ytfiflloieojgbaa", sum := "ea5609ba33412e92c953eef0b9fe4643afc37b57e16b0e974ad7635fbe374362", func := "lexiphane/lexiphanelaw15.BestCosts", spec := "bestCosts", apart := false }
def BestCostsSaid : Prop := bestCostsRow.holds Try.pinned (OpenSpec.ofChange bestCostsSpec)

/-- ITS FALSE NEIGHBOUR: 'it returns false'. Refute it at one input. -/
def bestCostsWrong : ChangeSpec := { name := "bestCosts", fn := fun _ => fun
  | [d1, d2] => { results := [.lit (.bool false)], args := [d1, d2] }
  | _ => none }
def BestCostsWrongFalsely : Prop := bestCostsRow.holds Try.pinned (OpenSpec.ofChange bestCostsWrong)

/-- 'lexiphanelaw15.BestWindows': WHATEVER THE INPUT: true; the input reads as it did. -/
def bestWindowsSpec : ChangeSpec := { name := "bestWindows", fn := fun _ => fun
  | [d1, d2, d3, d4] => { results := [.lit (.bool true)], args := [d1, d2, d3, d4] }
  | _ => none }
def bestWindowsRow : OpenClaim := { program := "ytfiflloieojgbaa", sum := "ea5609ba33412e92c953eef0b9fe4643afc37b57e16b0e974ad7635fbe374362", func := "lexiphane/lexiphanelaw15.BestWindows", spec := "bestWindows", apart := false }
def BestWindowsSaid : Prop := bestWindowsRow.holds Try.pinned (OpenSpec.ofChange bestWindowsSpec)

/-- ITS FALSE NEIGHBOUR: 'it returns false'. Refute it at one input. -/
def bestWindowsWrong : ChangeSpec := { name := "bestWindows", fn := fun _ => fun
  | [d1, d2, d3, d4] => { results := [.lit (.bool false)], args := [d1, d2, d3, d4] }
  | _ => none }
def BestWindowsWrongFalsely : Prop := bestWindowsRow.holds Try.pinned (OpenSpec.ofChange bestWindowsWrong)

/-- 'lexiphanelaw15.BestAgain': WHATEVER THE INPUT: true; the input reads as it did. -/
def bestAgainSpec : ChangeSpec := { name := "bestAgain", fn := fun _ => fun
  | [d1, d2] => { results := [.lit (.bool true)], args := [d1, d2] }
  | _ => none }
def bestAgainRow : OpenClaim := { program := "ytfiflloieojgbaa", sum := "ea5609ba33412e92c953eef0b9fe4643afc37b57e16b0e974ad7635fbe374362", func := "lexiphane/lexiphanelaw15.BestAgain", spec := "bestAgain", apart := false }
def BestAgainSaid : Prop := bestAgainRow.holds Try.pinned (OpenSpec.ofChange bestAgainSpec)

/-- ITS FALSE NEIGHBOUR: 'it returns false'. Refute it at one input. -/
def bestAgainWrong : ChangeSpec := { name := "bestAgain", fn := fun _ => fun
  | [d1, d2] => { results := [.lit (.bool false)], args := [d1, d2] }
  | _ => none }
def BestAgainWrongFalsely : Prop := bestAgainRow.holds Try.pinned (OpenSpec.ofChange bestAgainWrong)

/-- 'lexiphanelaw15.BestEnds': WHATEVER THE INPUT: true; the input reads as it did. -/
def bestEndsSpec : ChangeSpec := { name := "bestEnds", fn := fun _ => fun
  | [d1, d2, d3] => { results := [.lit (.bool true)], args := [d1, d2, d3] }
  | _ => none }
def bestEndsRow : OpenClaim := { program := "ytfiflloieojgbaa", sum := "ea5609ba33412e92c953eef0b9fe4643afc37b57e16b0e974ad7635fbe374362", func := "lexiphane/lexiphanelaw15.BestEnds", spec := "bestEnds", apart := false }
def BestEndsSaid : Prop := bestEndsRow.holds Try.pinned (OpenSpec.ofChange bestEndsSpec)

/-- ITS FALSE NEIGHBOUR: 'it returns false'. Refute it at one input. -/
def bestEndsWrong : ChangeSpec := { name := "bestEnds", fn := fun _ => fun
  | [d1, d2, d3] => { results := [.lit (.bool false)], args := [d1, d2, d3] }
  | _ => none }
def BestEndsWrongFalsely : Prop := bestEndsRow.holds Try.pinned (OpenSpec.ofChange bestEndsWrong)

/-- 'lexiphanelaw15.BestLeast': WHATEVER THE INPUT: true; the input reads as it did. -/
def bestLeastSpec : ChangeSpec := { name := "bestLeast", fn := fun _ => fun
  | [d1, d2, d3, d4] => { results := [.lit (.bool true)], args := [d1, d2, d3, d4] }
  | _ => none }
def bestLeastRow : OpenClaim := { program := "ytfiflloieojgbaa", sum := "ea5609ba33412e92c953eef0b9fe4643afc37b57e16b0e974ad7635fbe374362", func := "lexiphane/lexiphanelaw15.BestLeast", spec := "bestLeast", apart := false }
def BestLeastSaid : Prop := bestLeastRow.holds Try.pinned (OpenSpec.ofChange bestLeastSpec)

/-- ITS FALSE NEIGHBOUR: 'it returns false'. Refute it at one input. -/
def bestLeastWrong : ChangeSpec := { name := "bestLeast", fn := fun _ => fun
  | [d1, d2, d3, d4] => { results := [.lit (.bool false)], args := [d1, d2, d3, d4] }
  | _ => none }
def BestLeastWrongFalsely : Prop := bestLeastRow.holds Try.pinned (OpenSpec.ofChange bestLeastWrong)

/- THE SECOND FORM. 'bulk': how many values and letters a reading holds, each counted each time it is reached (what is shared counts as often as it is met; a slice's spare places count too). A statement '..UptoSaid' is the law's where the arguments, and the package variables that the reading takes, are together of bulk at most 1048576: NARROWER than '..Said'. Prove '..Said' where nothing that the law and all that it calls make is longer than what came in: it says more and counts as full. Else prove '..UptoSaid'. A law counts once. -/
mutual
def uptoBulk {H : Type} : DataW H → Nat
  | .lit (.string bytes) => bytes.length + 1
  | .lit _ => 1
  | .nil => 1
  | .ptr d => uptoBulk d + 1
  | .slice elems spare => uptoBulkAll elems + uptoBulkAll spare + 1
  | .agg parts => uptoBulkAll parts + 1
  | .iface _ d => uptoBulk d + 1
  | .map entries => uptoBulkEntries entries + 1
  | .held _ => 1
def uptoBulkAll {H : Type} : List (DataW H) → Nat
  | [] => 0
  | d :: r => uptoBulk d + uptoBulkAll r
def uptoBulkEntries {H : Type} : List (Lit × DataW H) → Nat
  | [] => 0
  | x :: r => uptoBulkEntry x + uptoBulkEntries r
def uptoBulkEntry {H : Type} : Lit × DataW H → Nat
  | (.string bytes, d) => bytes.length + uptoBulk d + 1
  | (_, d) => uptoBulk d + 1
 end
def uptoSmall : (H : Type) → List (DataW H) → Bool := fun _ ds => decide (uptoBulkAll ds ≤ 1048576)
def OpenSpec.upto (s : _root_.Go.ChangeSpec) : _root_.Go.OpenSpec := { _root_.Go.OpenSpec.ofChange s with cond := some uptoSmall }

/-- 'lexiphanelaw15.BestMore', WHERE WHAT IT READS IS OF BULK AT MOST 1048576: true; the input reads as it did. -/
def bestMoreUptoRow : OpenClaim := { program := "ytfiflloieojgbaa", sum := "ea5609ba33412e92c953eef0b9fe4643afc37b57e16b0e974ad7635fbe374362", func := "lexiphane/lexiphanelaw15.BestMore", spec := "bestMore", apart := false, narrowed := true }
def BestMoreUptoSaid : Prop := bestMoreUptoRow.holds Try.pinned (OpenSpec.upto bestMoreSpec)

/-- 'lexiphanelaw15.BestWhole', WHERE WHAT IT READS IS OF BULK AT MOST 1048576: true; the input reads as it did. -/
def bestWholeUptoRow : OpenClaim := { program := "ytfiflloieojgbaa", sum := "ea5609ba33412e92c953eef0b9fe4643afc37b57e16b0e974ad7635fbe374362", func := "lexiphane/lexiphanelaw15.BestWhole", spec := "bestWhole", apart := false, narrowed := true }
def BestWholeUptoSaid : Prop := bestWholeUptoRow.holds Try.pinned (OpenSpec.upto bestWholeSpec)

/-- 'lexiphanelaw15.BestTells', WHERE WHAT IT READS IS OF BULK AT MOST 1048576: true; the input reads as it did. -/
def bestTellsUptoRow : OpenClaim := { program := "ytfiflloieojgbaa", sum := "ea5609ba33412e92c953eef0b9fe4643afc37b57e16b0e974ad7635fbe374362", func := "lexiphane/lexiphanelaw15.BestTells", spec := "bestTells", apart := false, narrowed := true }
def BestTellsUptoSaid : Prop := bestTellsUptoRow.holds Try.pinned (OpenSpec.upto bestTellsSpec)

/-- 'lexiphanelaw15.BestCosts', WHERE WHAT IT READS IS OF BULK AT MOST 1048576: true; the input reads as it did. -/
def bestCostsUptoRow : OpenClaim := { program := "ytfiflloieojgbaa", sum := "ea5609ba33412e92c953eef0b9fe4643afc37b57e16b0e974ad7635fbe374362", func := "lexiphane/lexiphanelaw15.BestCosts", spec := "bestCosts", apart := false, narrowed := true }
def BestCostsUptoSaid : Prop := bestCostsUptoRow.holds Try.pinned (OpenSpec.upto bestCostsSpec)

/-- 'lexiphanelaw15.BestWindows', WHERE WHAT IT READS IS OF BULK AT MOST 1048576: true; the input reads as it did. -/
def bestWindowsUptoRow : OpenClaim := { program := "ytfiflloieojgbaa", sum := "ea5609ba33412e92c953eef0b9fe4643afc37b57e16b0e974ad7635fbe374362", func := "lexiphane/lexiphanelaw15.BestWindows", spec := "bestWindows", apart := false, narrowed := true }
def BestWindowsUptoSaid : Prop := bestWindowsUptoRow.holds Try.pinned (OpenSpec.upto bestWindowsSpec)

/-- 'lexiphanelaw15.BestAgain', WHERE WHAT IT READS IS OF BULK AT MOST 1048576: true; the input reads as it did. -/
def bestAgainUptoRow : OpenClaim := { program := "ytfiflloieojgbaa", sum := "ea5609ba33412e92c953eef0b9fe4643afc37b57e16b0e974ad7635fbe374362", func := "lexiphane/lexiphanelaw15.BestAgain", spec := "bestAgain", apart := false, narrowed := true }
def BestAgainUptoSaid : Prop := bestAgainUptoRow.holds Try.pinned (OpenSpec.upto bestAgainSpec)

/-- 'lexiphanelaw15.BestEnds', WHERE WHAT IT READS IS OF BULK AT MOST 1048576: true; the input reads as it did. -/
def bestEndsUptoRow : OpenClaim := { program := "ytfiflloieojgbaa", sum := "ea5609ba33412e92c953eef0b9fe4643afc37b57e16b0e974ad7635fbe374362", func := "lexiphane/lexiphanelaw15.BestEnds", spec := "bestEnds", apart := false, narrowed := true }
def BestEndsUptoSaid : Prop := bestEndsUptoRow.holds Try.pinned (OpenSpec.upto bestEndsSpec)

/-- 'lexiphanelaw15.BestLeast', WHERE WHAT IT READS IS OF BULK AT MOST 1048576: true; the input reads as it did. -/
def bestLeastUptoRow : OpenClaim := { program := "ytfiflloieojgbaa", sum := "ea5609ba33412e92c953eef0b9fe4643afc37b57e16b0e974ad7635fbe374362", func := "lexiphane/lexiphanelaw15.BestLeast", spec := "bestLeast", apart := false, narrowed := true }
def BestLeastUptoSaid : Prop := bestLeastUptoRow.holds Try.pinned (OpenSpec.upto bestLeastSpec)

end Rows
end Go.Proofs.Ytfiflloieojgbaa
