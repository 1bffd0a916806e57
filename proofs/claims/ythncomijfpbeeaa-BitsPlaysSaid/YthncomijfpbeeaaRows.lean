/-
  No cell of these rows narrows 'for every input' (looked for: loops, veiled, ifaces, maps, wideKeys, modest, calm, conditions, laid).
  DERIVED. THE GIVEN ROWS OF THIS SEAT. 10 by the template 'for every input the law returns true; each argument reads behind the call as it read before'; 0 by the template 'total and deterministic' (their statements: YthncomijfpbeeaaTotals.lean).
  GIVEN WITH THE SEED: the statements are not yours to turn. If you find one false, say at which input.
  Laid BY PROGRAM, IN A SANDBOX (cutbox-rows.mjs): the forced cells as the released guide's own fill.sh prints them over the translation 636516a983d45af5… (all of the seat's roots in one cut). By AI agents, Wed Nov 11 2026. No macro, syntax, notation, axiom, sorry.
-/
import Derived.Test.YthncomijfpbeeaaChecked
import GoSem.Claim
import GoSem.ClaimJoined
import GoSem.ClaimMapViews
import Derived.JoinedTies
import Derived.KernelRfl
namespace Go.Proofs.Ythncomijfpbeeaa
/- THE CELL 'sum', in the pinned program and in every row, IS THE sha256 OF THE DUMP (.gsa) THAT YthncomijfpbeeaaProg.lean LOADS. Nothing in Lean hashes anything: it is a label: what it is worth is what the hold of that sum in a sandbox is worth. -/
noncomputable def Try.pinned : Pinned := { name := "ythncomijfpbeeaa", sum := "636516a983d45af5408947290fbcb8f751b6a9c353da2dcee077d0ad4c707eb5", checked := Try.checked }
namespace Rows
def none {H : Type} : Left H := { results := [], args := [] }

/-- 'lexiphanelaw17.HistTells': WHATEVER THE INPUT: true; the input reads as it did. -/
def histTellsSpec : ChangeSpec := { name := "histTells", fn := fun _ => fun
  | [d1, d2, d3] => { results := [.lit (.bool true)], args := [d1, d2, d3] }
  | _ => none }
def histTellsRow : OpenClaim := { program := "ythncomijfpbeeaa", sum := "636516a983d45af5408947290fbcb8f751b6a9c353da2dcee077d0ad4c707eb5", func := "lexiphane/lexiphanelaw17.HistTells", spec := "histTells", apart := false }
def HistTellsSaid : Prop := histTellsRow.holds Try.pinned (OpenSpec.ofChange histTellsSpec)

/-- ITS FALSE NEIGHBOUR: 'it returns false'. Refute it at one input. -/
def histTellsWrong : ChangeSpec := { name := "histTells", fn := fun _ => fun
  | [d1, d2, d3] => { results := [.lit (.bool false)], args := [d1, d2, d3] }
  | _ => none }
def HistTellsWrongFalsely : Prop := histTellsRow.holds Try.pinned (OpenSpec.ofChange histTellsWrong)

/-- 'lexiphanelaw17.HistOrder': WHATEVER THE INPUT: true; the input reads as it did. -/
def histOrderSpec : ChangeSpec := { name := "histOrder", fn := fun _ => fun
  | [d1, d2] => { results := [.lit (.bool true)], args := [d1, d2] }
  | _ => none }
def histOrderRow : OpenClaim := { program := "ythncomijfpbeeaa", sum := "636516a983d45af5408947290fbcb8f751b6a9c353da2dcee077d0ad4c707eb5", func := "lexiphane/lexiphanelaw17.HistOrder", spec := "histOrder", apart := false }
def HistOrderSaid : Prop := histOrderRow.holds Try.pinned (OpenSpec.ofChange histOrderSpec)

/-- ITS FALSE NEIGHBOUR: 'it returns false'. Refute it at one input. -/
def histOrderWrong : ChangeSpec := { name := "histOrder", fn := fun _ => fun
  | [d1, d2] => { results := [.lit (.bool false)], args := [d1, d2] }
  | _ => none }
def HistOrderWrongFalsely : Prop := histOrderRow.holds Try.pinned (OpenSpec.ofChange histOrderWrong)

/-- 'lexiphanelaw17.HistBounds': WHATEVER THE INPUT: true; the input reads as it did. -/
def histBoundsSpec : ChangeSpec := { name := "histBounds", fn := fun _ => fun
  | [d1, d2] => { results := [.lit (.bool true)], args := [d1, d2] }
  | _ => none }
def histBoundsRow : OpenClaim := { program := "ythncomijfpbeeaa", sum := "636516a983d45af5408947290fbcb8f751b6a9c353da2dcee077d0ad4c707eb5", func := "lexiphane/lexiphanelaw17.HistBounds", spec := "histBounds", apart := false }
def HistBoundsSaid : Prop := histBoundsRow.holds Try.pinned (OpenSpec.ofChange histBoundsSpec)

/-- ITS FALSE NEIGHBOUR: 'it returns false'. Refute it at one input. -/
def histBoundsWrong : ChangeSpec := { name := "histBounds", fn := fun _ => fun
  | [d1, d2] => { results := [.lit (.bool false)], args := [d1, d2] }
  | _ => none }
def HistBoundsWrongFalsely : Prop := histBoundsRow.holds Try.pinned (OpenSpec.ofChange histBoundsWrong)

/-- 'lexiphanelaw2.BitsPlays': WHATEVER THE INPUT: true; the input reads as it did. -/
def bitsPlaysSpec : ChangeSpec := { name := "bitsPlays", fn := fun _ => fun
  | [d1, d2] => { results := [.lit (.bool true)], args := [d1, d2] }
  | _ => none }
def bitsPlaysRow : OpenClaim := { program := "ythncomijfpbeeaa", sum := "636516a983d45af5408947290fbcb8f751b6a9c353da2dcee077d0ad4c707eb5", func := "lexiphane/lexiphanelaw2.BitsPlays", spec := "bitsPlays", apart := false }
def BitsPlaysSaid : Prop := bitsPlaysRow.holds Try.pinned (OpenSpec.ofChange bitsPlaysSpec)

/-- ITS FALSE NEIGHBOUR: 'it returns false'. Refute it at one input. -/
def bitsPlaysWrong : ChangeSpec := { name := "bitsPlays", fn := fun _ => fun
  | [d1, d2] => { results := [.lit (.bool false)], args := [d1, d2] }
  | _ => none }
def BitsPlaysWrongFalsely : Prop := bitsPlaysRow.holds Try.pinned (OpenSpec.ofChange bitsPlaysWrong)

/-- 'lexiphanelaw2.BitsBack': WHATEVER THE INPUT: true; the input reads as it did. -/
def bitsBackSpec : ChangeSpec := { name := "bitsBack", fn := fun _ => fun
  | [d] => { results := [.lit (.bool true)], args := [d] }
  | _ => none }
def bitsBackRow : OpenClaim := { program := "ythncomijfpbeeaa", sum := "636516a983d45af5408947290fbcb8f751b6a9c353da2dcee077d0ad4c707eb5", func := "lexiphane/lexiphanelaw2.BitsBack", spec := "bitsBack", apart := false }
def BitsBackSaid : Prop := bitsBackRow.holds Try.pinned (OpenSpec.ofChange bitsBackSpec)

/-- ITS FALSE NEIGHBOUR: 'it returns false'. Refute it at one input. -/
def bitsBackWrong : ChangeSpec := { name := "bitsBack", fn := fun _ => fun
  | [d] => { results := [.lit (.bool false)], args := [d] }
  | _ => none }
def BitsBackWrongFalsely : Prop := bitsBackRow.holds Try.pinned (OpenSpec.ofChange bitsBackWrong)

/-- 'lexiphanelaw2.BitsSingles': WHATEVER THE INPUT: true; the input reads as it did. -/
def bitsSinglesSpec : ChangeSpec := { name := "bitsSingles", fn := fun _ => fun
  | [d] => { results := [.lit (.bool true)], args := [d] }
  | _ => none }
def bitsSinglesRow : OpenClaim := { program := "ythncomijfpbeeaa", sum := "636516a983d45af5408947290fbcb8f751b6a9c353da2dcee077d0ad4c707eb5", func := "lexiphane/lexiphanelaw2.BitsSingles", spec := "bitsSingles", apart := false }
def BitsSinglesSaid : Prop := bitsSinglesRow.holds Try.pinned (OpenSpec.ofChange bitsSinglesSpec)

/-- ITS FALSE NEIGHBOUR: 'it returns false'. Refute it at one input. -/
def bitsSinglesWrong : ChangeSpec := { name := "bitsSingles", fn := fun _ => fun
  | [d] => { results := [.lit (.bool false)], args := [d] }
  | _ => none }
def BitsSinglesWrongFalsely : Prop := bitsSinglesRow.holds Try.pinned (OpenSpec.ofChange bitsSinglesWrong)

/-- 'lexiphanelaw2.BitsRest': WHATEVER THE INPUT: true; the input reads as it did. -/
def bitsRestSpec : ChangeSpec := { name := "bitsRest", fn := fun _ => fun
  | [d1, d2] => { results := [.lit (.bool true)], args := [d1, d2] }
  | _ => none }
def bitsRestRow : OpenClaim := { program := "ythncomijfpbeeaa", sum := "636516a983d45af5408947290fbcb8f751b6a9c353da2dcee077d0ad4c707eb5", func := "lexiphane/lexiphanelaw2.BitsRest", spec := "bitsRest", apart := false }
def BitsRestSaid : Prop := bitsRestRow.holds Try.pinned (OpenSpec.ofChange bitsRestSpec)

/-- ITS FALSE NEIGHBOUR: 'it returns false'. Refute it at one input. -/
def bitsRestWrong : ChangeSpec := { name := "bitsRest", fn := fun _ => fun
  | [d1, d2] => { results := [.lit (.bool false)], args := [d1, d2] }
  | _ => none }
def BitsRestWrongFalsely : Prop := bitsRestRow.holds Try.pinned (OpenSpec.ofChange bitsRestWrong)

/-- 'lexiphanelaw2.BitsRefuse': WHATEVER THE INPUT: true; the input reads as it did. -/
def bitsRefuseSpec : ChangeSpec := { name := "bitsRefuse", fn := fun _ => fun
  | [d1, d2] => { results := [.lit (.bool true)], args := [d1, d2] }
  | _ => none }
def bitsRefuseRow : OpenClaim := { program := "ythncomijfpbeeaa", sum := "636516a983d45af5408947290fbcb8f751b6a9c353da2dcee077d0ad4c707eb5", func := "lexiphane/lexiphanelaw2.BitsRefuse", spec := "bitsRefuse", apart := false }
def BitsRefuseSaid : Prop := bitsRefuseRow.holds Try.pinned (OpenSpec.ofChange bitsRefuseSpec)

/-- ITS FALSE NEIGHBOUR: 'it returns false'. Refute it at one input. -/
def bitsRefuseWrong : ChangeSpec := { name := "bitsRefuse", fn := fun _ => fun
  | [d1, d2] => { results := [.lit (.bool false)], args := [d1, d2] }
  | _ => none }
def BitsRefuseWrongFalsely : Prop := bitsRefuseRow.holds Try.pinned (OpenSpec.ofChange bitsRefuseWrong)

/-- 'lexiphanelaw2.BitsPeeks': WHATEVER THE INPUT: true; the input reads as it did. -/
def bitsPeeksSpec : ChangeSpec := { name := "bitsPeeks", fn := fun _ => fun
  | [d1, d2, d3] => { results := [.lit (.bool true)], args := [d1, d2, d3] }
  | _ => none }
def bitsPeeksRow : OpenClaim := { program := "ythncomijfpbeeaa", sum := "636516a983d45af5408947290fbcb8f751b6a9c353da2dcee077d0ad4c707eb5", func := "lexiphane/lexiphanelaw2.BitsPeeks", spec := "bitsPeeks", apart := false }
def BitsPeeksSaid : Prop := bitsPeeksRow.holds Try.pinned (OpenSpec.ofChange bitsPeeksSpec)

/-- ITS FALSE NEIGHBOUR: 'it returns false'. Refute it at one input. -/
def bitsPeeksWrong : ChangeSpec := { name := "bitsPeeks", fn := fun _ => fun
  | [d1, d2, d3] => { results := [.lit (.bool false)], args := [d1, d2, d3] }
  | _ => none }
def BitsPeeksWrongFalsely : Prop := bitsPeeksRow.holds Try.pinned (OpenSpec.ofChange bitsPeeksWrong)

/-- 'lexiphanelaw2.BitsWhole': WHATEVER THE INPUT: true; the input reads as it did. -/
def bitsWholeSpec : ChangeSpec := { name := "bitsWhole", fn := fun _ => fun
  | [d1, d2] => { results := [.lit (.bool true)], args := [d1, d2] }
  | _ => none }
def bitsWholeRow : OpenClaim := { program := "ythncomijfpbeeaa", sum := "636516a983d45af5408947290fbcb8f751b6a9c353da2dcee077d0ad4c707eb5", func := "lexiphane/lexiphanelaw2.BitsWhole", spec := "bitsWhole", apart := false }
def BitsWholeSaid : Prop := bitsWholeRow.holds Try.pinned (OpenSpec.ofChange bitsWholeSpec)

/-- ITS FALSE NEIGHBOUR: 'it returns false'. Refute it at one input. -/
def bitsWholeWrong : ChangeSpec := { name := "bitsWhole", fn := fun _ => fun
  | [d1, d2] => { results := [.lit (.bool false)], args := [d1, d2] }
  | _ => none }
def BitsWholeWrongFalsely : Prop := bitsWholeRow.holds Try.pinned (OpenSpec.ofChange bitsWholeWrong)

/- THE SECOND FORM. 'bulk': how many values and letters a reading holds, each counted each time it is reached (what is shared counts as often as it is met; a slice's spare places count too). A statement '..UptoSaid' is the law's where the arguments, and the package variables that the reading takes, are together of bulk at most 1048576: NARROWER than '..Said'. Prove '..Said' where nothing that the law and all that it calls make is longer than what came in: it says more and counts as full. Else prove '..UptoSaid'. A law counts once. -/
mutual
def uptoBulk {H : Type} : DataW H → Nat
  | .lit (.string bytes) => bytes.length + 1
  | .lit _ => 1
  | .nil => 1
  | .ptr d => uptoBulk d + 1
  | .slice elems spare => uptoBulkAll elems + uptoBulkAll spare + 1
  | .agg parts => uptoBulkAll parts + 1
  | .iface _ d => uptoBulk d + 1
  | .map entries => uptoBulkEntries entries + 1
  | .held _ => 1
def uptoBulkAll {H : Type} : List (DataW H) → Nat
  | [] => 0
  | d :: r => uptoBulk d + uptoBulkAll r
def uptoBulkEntries {H : Type} : List (Lit × DataW H) → Nat
  | [] => 0
  | x :: r => uptoBulkEntry x + uptoBulkEntries r
def uptoBulkEntry {H : Type} : Lit × DataW H → Nat
  | (.string bytes, d) => bytes.length + uptoBulk d + 1
  | (_, d) => uptoBulk d + 1
 end
def uptoSmall : (H : Type) → List (DataW H) → Bool := fun _ ds => decide (uptoBulkAll ds ≤ 1048576)
def OpenSpec.upto (s : _root_.Go.ChangeSpec) : _root_.Go.OpenSpec := { _root_.Go.OpenSpec.ofChange s with cond := some uptoSmall }

/-- 'lexiphanelaw17.HistTells', WHERE WHAT IT READS IS OF BULK AT MOST 1048576: true; the input reads as it did. -/
def histTellsUptoRow : OpenClaim := { program := "ythncomijfpbeeaa", sum := "636516a983d45af5408947290fbcb8f751b6a9c353da2dcee077d0ad4c707eb5", func := "lexiphane/lexiphanelaw17.HistTells", spec := "histTells", apart := false, narrowed := true }
def HistTellsUptoSaid : Prop := histTellsUptoRow.holds Try.pinned (OpenSpec.upto histTellsSpec)

/-- 'lexiphanelaw17.HistOrder', WHERE WHAT IT READS IS OF BULK AT MOST 1048576: true; the input reads as it did. -/
def histOrderUptoRow : OpenClaim := { program := "ythncomijfpbeeaa", sum := "636516a983d45af5408947290fbcb8f751b6a9c353da2dcee077d0ad4c707eb5", func := "lexiphane/lexiphanelaw17.HistOrder", spec := "histOrder", apart := false, narrowed := true }
def HistOrderUptoSaid : Prop := histOrderUptoRow.holds Try.pinned (OpenSpec.upto histOrderSpec)

/-- 'lexiphanelaw17.HistBounds', WHERE WHAT IT READS IS OF BULK AT MOST 1048576: true; the input reads as it did. -/
def histBoundsUptoRow : OpenClaim := { program := "ythncomijfpbeeaa", sum := "636516a983d45af5408947290fbcb8f751b6a9c353da2dcee077d0ad4c707eb5", func := "lexiphane/lexiphanelaw17.HistBounds", spec := "histBounds", apart := false, narrowed := true }
def HistBoundsUptoSaid : Prop := histBoundsUptoRow.holds Try.pinned (OpenSpec.upto histBoundsSpec)

/-- 'lexiphanelaw2.BitsPlays', WHERE WHAT IT READS IS OF BULK AT MOST 1048576: true; the input reads as it did. -/
def bitsPlaysUptoRow : OpenClaim := { program := "ythncomijfpbeeaa", sum := "636516a983d45af5408947290fbcb8f751b6a9c353da2dcee077d0ad4c707eb5", func := "lexiphane/lexiphanelaw2.BitsPlays", spec := "bitsPlays", apart := false, narrowed := true }
def BitsPlaysUptoSaid : Prop := bitsPlaysUptoRow.holds Try.pinned (OpenSpec.upto bitsPlaysSpec)

/-- 'lexiphanelaw2.BitsBack', WHERE WHAT IT READS IS OF BULK AT MOST 1048576: true; the input reads as it did. -/
def bitsBackUptoRow : OpenClaim := { program := "ythncomijfpbeeaa", sum := "636516a983d45af5408947290fbcb8f751b6a9c353da2dcee077d0ad4c707eb5", func := "lexiphane/lexiphanelaw2.BitsBack", spec := "bitsBack", apart := false, narrowed := true }
def BitsBackUptoSaid : Prop := bitsBackUptoRow.holds Try.pinned (OpenSpec.upto bitsBackSpec)

/-- 'lexiphanelaw2.BitsSingles', WHERE WHAT IT READS IS OF BULK AT MOST 1048576: true; the input reads as it did. -/
def bitsSinglesUptoRow : OpenClaim := { program := "ythncomijfpbeeaa", sum := "636516a983d45af5408947290fbcb8f751b6a9c353da2dcee077d0ad4c707eb5", func := "lexiphane/lexiphanelaw2.BitsSingles", spec := "bitsSingles", apart := false, narrowed := true }
def BitsSinglesUptoSaid : Prop := bitsSinglesUptoRow.holds Try.pinned (OpenSpec.upto bitsSinglesSpec)

/-- 'lexiphanelaw2.BitsRest', WHERE WHAT IT READS IS OF BULK AT MOST 1048576: true; the input reads as it did. -/
def bitsRestUptoRow : OpenClaim := { program := "ythncomijfpbeeaa", sum := "636516a983d45af5408947290fbcb8f751b6a9c353da2dcee077d0ad4c707eb5", func := "lexiphane/lexiphanelaw2.BitsRest", spec := "bitsRest", apart := false, narrowed := true }
def BitsRestUptoSaid : Prop := bitsRestUptoRow.holds Try.pinned (OpenSpec.upto bitsRestSpec)

/-- 'lexiphanelaw2.BitsRefuse', WHERE WHAT IT READS IS OF BULK AT MOST 1048576: true; the input reads as it did. -/
def bitsRefuseUptoRow : OpenClaim := { program := "ythncomijfpbeeaa", sum := "636516a983d45af5408947290fbcb8f751b6a9c353da2dcee077d0ad4c707eb5", func := "lexiphane/lexiphanelaw2.BitsRefuse", spec := "bitsRefuse", apart := false, narrowed := true }
def BitsRefuseUptoSaid : Prop := bitsRefuseUptoRow.holds Try.pinned (OpenSpec.upto bitsRefuseSpec)

/-- 'lexiphanelaw2.BitsPeeks', WHERE WHAT IT READS IS OF BULK AT MOST 1048576: true; the input reads as it did. -/
def bitsPeeksUptoRow : OpenClaim := { program := "ythncomijfpbeeaa", sum := "636516a983d45af5408947290fbcb8f751b6a9c353da2dcee077d0ad4c707eb5", func := "lexiphane/lexiphanelaw2.BitsPeeks", spec := "bitsPeeks", apart := false, narrowed := true }
def BitsPeeksUptoSaid : Prop := bitsPeeksUptoRow.holds Try.pinned (OpenSpec.upto bitsPeeksSpec)

/-- 'lexiphanelaw2.BitsWhole', WHERE WHAT IT READS IS OF BULK AT MOST 1048576: true; the input reads as it did. -/
def bitsWholeUptoRow : OpenClaim := { program := "ythncomijfpbeeaa", sum := "636516a983d45af5408947290fbcb8f751b6a9c353da2dcee077d0ad4c707eb5", func := "lexiphane/lexiphanelaw2.BitsWhole", spec := "bitsWhole", apart := false, narrowed := true }
def BitsWholeUptoSaid : Prop := bitsWholeUptoRow.holds Try.pinned (OpenSpec.upto bitsWholeSpec)

end Rows
end Go.Proofs.Ythncomijfpbeeaa
