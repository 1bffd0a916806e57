/-
  No cell of these rows narrows 'for every input' (looked for: loops, veiled, ifaces, maps, wideKeys, modest, calm, conditions, laid).
  DERIVED. THE GIVEN ROWS OF THIS SEAT. 6 by the template 'for every input the law returns true; each argument reads behind the call as it read before'; 0 by the template 'total and deterministic' (their statements: YtadijdcdonommaaTotals.lean).
  GIVEN WITH THE SEED: the statements are not yours to turn. If you find one false, say at which input.
  Laid BY PROGRAM, IN A SANDBOX (cutbox-rows.mjs): the forced cells as the released guide's own fill.sh prints them over the translation ef6c499faf24d0f4… (all of the seat's roots in one cut). By AI agents, Wed Nov 11 2026. No macro, syntax, notation, axiom, sorry.
-/
import Derived.Test.YtadijdcdonommaaChecked
import GoSem.Claim
import GoSem.ClaimJoined
import GoSem.ClaimMapViews
import Derived.JoinedTies
import Derived.KernelRfl
namespace Go.Proofs.Ytadijdcdonommaa
/- THE CELL 'sum', in the pinned program and in every row, IS THE sha256 OF THE DUMP (.gsa) THAT YtadijdcdonommaaProg.lean LOADS. Nothing in Lean hashes anything: it is a label: what it is worth is what the hold of that sum in a sandbox is worth. -/
noncomputable def Try.pinned : Pinned := { name := "ytadijdcdonommaa", sum := "ef6c499faf24d0f43de956210906de1570998af4bb97b63e18a0a1fc1c50407c", checked := Try.checked }
namespace Rows
def none {H : Type} : Left H := { results := [], args := [] }

/-- 'lexiphanelaw21.ReadTells': WHATEVER THE INPUT: true; the input reads as it did. -/
def readTellsSpec : ChangeSpec := { name := "readTells", fn := fun _ => fun
  | [d1, d2] => { results := [.lit (.bool true)], args := [d1, d2] }
  | _ => none }
def readTellsRow : OpenClaim := { program := "ytadijdcdonommaa", sum := "ef6c499faf24d0f43de956210906de1570998af4bb97b63e18a0a1fc1c50407c", func := "lexiphane/lexiphanelaw21.ReadTells", spec := "readTells", unfollowed := true, recurses := true, apart := false }
def ReadTellsSaid : Prop := readTellsRow.holds Try.pinned (OpenSpec.ofChange readTellsSpec)

/-- ITS FALSE NEIGHBOUR: 'it returns false'. Refute it at one input. -/
def readTellsWrong : ChangeSpec := { name := "readTells", fn := fun _ => fun
  | [d1, d2] => { results := [.lit (.bool false)], args := [d1, d2] }
  | _ => none }
def ReadTellsWrongFalsely : Prop := readTellsRow.holds Try.pinned (OpenSpec.ofChange readTellsWrong)

/-- 'lexiphanelaw21.ReadOne': WHATEVER THE INPUT: true; the input reads as it did. -/
def readOneSpec : ChangeSpec := { name := "readOne", fn := fun _ => fun
  | [d1, d2, d3] => { results := [.lit (.bool true)], args := [d1, d2, d3] }
  | _ => none }
def readOneRow : OpenClaim := { program := "ytadijdcdonommaa", sum := "ef6c499faf24d0f43de956210906de1570998af4bb97b63e18a0a1fc1c50407c", func := "lexiphane/lexiphanelaw21.ReadOne", spec := "readOne", unfollowed := true, recurses := true, apart := false }
def ReadOneSaid : Prop := readOneRow.holds Try.pinned (OpenSpec.ofChange readOneSpec)

/-- ITS FALSE NEIGHBOUR: 'it returns false'. Refute it at one input. -/
def readOneWrong : ChangeSpec := { name := "readOne", fn := fun _ => fun
  | [d1, d2, d3] => { results := [.lit (.bool false)], args := [d1, d2, d3] }
  | _ => none }
def ReadOneWrongFalsely : Prop := readOneRow.holds Try.pinned (OpenSpec.ofChange readOneWrong)

/-- 'lexiphanelaw21.ReadLens': WHATEVER THE INPUT: true; the input reads as it did. -/
def readLensSpec : ChangeSpec := { name := "readLens", fn := fun _ => fun
  | [d] => { results := [.lit (.bool true)], args := [d] }
  | _ => none }
def readLensRow : OpenClaim := { program := "ytadijdcdonommaa", sum := "ef6c499faf24d0f43de956210906de1570998af4bb97b63e18a0a1fc1c50407c", func := "lexiphane/lexiphanelaw21.ReadLens", spec := "readLens", unfollowed := true, recurses := true, apart := false }
def ReadLensSaid : Prop := readLensRow.holds Try.pinned (OpenSpec.ofChange readLensSpec)

/-- ITS FALSE NEIGHBOUR: 'it returns false'. Refute it at one input. -/
def readLensWrong : ChangeSpec := { name := "readLens", fn := fun _ => fun
  | [d] => { results := [.lit (.bool false)], args := [d] }
  | _ => none }
def ReadLensWrongFalsely : Prop := readLensRow.holds Try.pinned (OpenSpec.ofChange readLensWrong)

/-- 'lexiphanelaw21.ReadZeros': WHATEVER THE INPUT: true; the input reads as it did. -/
def readZerosSpec : ChangeSpec := { name := "readZeros", fn := fun _ => fun
  | [d1, d2] => { results := [.lit (.bool true)], args := [d1, d2] }
  | _ => none }
def readZerosRow : OpenClaim := { program := "ytadijdcdonommaa", sum := "ef6c499faf24d0f43de956210906de1570998af4bb97b63e18a0a1fc1c50407c", func := "lexiphane/lexiphanelaw21.ReadZeros", spec := "readZeros", unfollowed := true, recurses := true, apart := false }
def ReadZerosSaid : Prop := readZerosRow.holds Try.pinned (OpenSpec.ofChange readZerosSpec)

/-- ITS FALSE NEIGHBOUR: 'it returns false'. Refute it at one input. -/
def readZerosWrong : ChangeSpec := { name := "readZeros", fn := fun _ => fun
  | [d1, d2] => { results := [.lit (.bool false)], args := [d1, d2] }
  | _ => none }
def ReadZerosWrongFalsely : Prop := readZerosRow.holds Try.pinned (OpenSpec.ofChange readZerosWrong)

/-- 'lexiphanelaw21.ReadEnds': WHATEVER THE INPUT: true; the input reads as it did. -/
def readEndsSpec : ChangeSpec := { name := "readEnds", fn := fun _ => fun
  | [d1, d2, d3] => { results := [.lit (.bool true)], args := [d1, d2, d3] }
  | _ => none }
def readEndsRow : OpenClaim := { program := "ytadijdcdonommaa", sum := "ef6c499faf24d0f43de956210906de1570998af4bb97b63e18a0a1fc1c50407c", func := "lexiphane/lexiphanelaw21.ReadEnds", spec := "readEnds", unfollowed := true, recurses := true, apart := false }
def ReadEndsSaid : Prop := readEndsRow.holds Try.pinned (OpenSpec.ofChange readEndsSpec)

/-- ITS FALSE NEIGHBOUR: 'it returns false'. Refute it at one input. -/
def readEndsWrong : ChangeSpec := { name := "readEnds", fn := fun _ => fun
  | [d1, d2, d3] => { results := [.lit (.bool false)], args := [d1, d2, d3] }
  | _ => none }
def ReadEndsWrongFalsely : Prop := readEndsRow.holds Try.pinned (OpenSpec.ofChange readEndsWrong)

/-- 'lexiphanelaw21.ReadBack': WHATEVER THE INPUT: true; the input reads as it did. -/
def readBackSpec : ChangeSpec := { name := "readBack", fn := fun _ => fun
  | [d1, d2] => { results := [.lit (.bool true)], args := [d1, d2] }
  | _ => none }
def readBackRow : OpenClaim := { program := "ytadijdcdonommaa", sum := "ef6c499faf24d0f43de956210906de1570998af4bb97b63e18a0a1fc1c50407c", func := "lexiphane/lexiphanelaw21.ReadBack", spec := "readBack", unfollowed := true, recurses := true, apart := false }
def ReadBackSaid : Prop := readBackRow.holds Try.pinned (OpenSpec.ofChange readBackSpec)

/-- ITS FALSE NEIGHBOUR: 'it returns false'. Refute it at one input. -/
def readBackWrong : ChangeSpec := { name := "readBack", fn := fun _ => fun
  | [d1, d2] => { results := [.lit (.bool false)], args := [d1, d2] }
  | _ => none }
def ReadBackWrongFalsely : Prop := readBackRow.holds Try.pinned (OpenSpec.ofChange readBackWrong)

/- THE SECOND FORM. 'bulk': how many values and letters a reading holds, each counted each time it is reached (what is shared counts as often as it is met; a slice's spare places count too). A statement '..UptoSaid' is the law's where the arguments, and the package variables that the reading takes, are together of bulk at most 1048576: NARROWER than '..Said'. Prove '..Said' where nothing that the law and all that it calls make is longer than what came in: it says more and counts as full. Else prove '..UptoSaid'. A law counts once. -/
mutual
def uptoBulk {H : Type} : DataW H → Nat
  | .lit (.string bytes) => bytes.length + 1
  | .lit _ => 1
  | .nil => 1
  | .ptr d => uptoBulk d + 1
  | .slice elems spare => uptoBulkAll elems + uptoBulkAll spare + 1
  | .agg parts => uptoBulkAll parts + 1
  | .iface _ d => uptoBulk d + 1
  | .map entries => uptoBulkEntries entries + 1
  | .held _ => 1
def uptoBulkAll {H : Type} : List (DataW H) → Nat
  | [] => 0
  | d :: r => uptoBulk d + uptoBulkAll r
def uptoBulkEntries {H : Type} : List (Lit × DataW H) → Nat
  | [] => 0
  | x :: r => uptoBulkEntry x + uptoBulkEntries r
def uptoBulkEntry {H : Type} : Lit × DataW H → Nat
  | (.string bytes, d) => bytes.length + uptoBulk d + 1
  | (_, d) => uptoBulk d + 1
 end
def uptoSmall : (H : Type) → List (DataW H) → Bool := fun _ ds => decide (uptoBulkAll ds ≤ 1048576)
def OpenSpec.upto (s : _root_.Go.ChangeSpec) : _root_.Go.OpenSpec := { _root_.Go.OpenSpec.ofChange s with cond := some uptoSmall }

/-- 'lexiphanelaw21.ReadTells', WHERE WHAT IT READS IS OF BULK AT MOST 1048576: true; the input reads as it did. -/
def readTellsUptoRow : OpenClaim := { program := "ytadijdcdonommaa", sum := "ef6c499faf24d0f43de956210906de1570998af4bb97b63e18a0a1fc1c50407c", func := "lexiphane/lexiphanelaw21.ReadTells", spec := "readTells", unfollowed := true, recurses := true, apart := false, narrowed := true }
def ReadTellsUptoSaid : Prop := readTellsUptoRow.holds Try.pinned (OpenSpec.upto readTellsSpec)

/-- 'lexiphanelaw21.ReadOne', WHERE WHAT IT READS IS OF BULK AT MOST 1048576: true; the input reads as it did. -/
def readOneUptoRow : OpenClaim := { program := "ytadijdcdonommaa", sum := "ef6c499faf24d0f43de956210906de1570998af4bb97b63e18a0a1fc1c50407c", func := "lexiphane/lexiphanelaw21.ReadOne", spec := "readOne", unfollowed := true, recurses := true, apart := false, narrowed := true }
def ReadOneUptoSaid : Prop := readOneUptoRow.holds Try.pinned (OpenSpec.upto readOneSpec)

/-- 'lexiphanelaw21.ReadLens', WHERE WHAT IT READS IS OF BULK AT MOST 1048576: true; the input reads as it did. -/
def readLensUptoRow : OpenClaim := { program := "ytadijdcdonommaa", sum := "ef6c499faf24d0f43de956210906de1570998af4bb97b63e18a0a1fc1c50407c", func := "lexiphane/lexiphanelaw21.ReadLens", spec := "readLens", unfollowed := true, recurses := true, apart := false, narrowed := true }
def ReadLensUptoSaid : Prop := readLensUptoRow.holds Try.pinned (OpenSpec.upto readLensSpec)

/-- 'lexiphanelaw21.ReadZeros', WHERE WHAT IT READS IS OF BULK AT MOST 1048576: true; the input reads as it did. -/
def readZerosUptoRow : OpenClaim := { program := "ytadijdcdonommaa", sum := "ef6c499faf24d0f43de956210906de1570998af4bb97b63e18a0a1fc1c50407c", func := "lexiphane/lexiphanelaw21.ReadZeros", spec := "readZeros", unfollowed := true, recurses := true, apart := false, narrowed := true }
def ReadZerosUptoSaid : Prop := readZerosUptoRow.holds Try.pinned (OpenSpec.upto readZerosSpec)

/-- 'lexiphanelaw21.ReadEnds', WHERE WHAT IT READS IS OF BULK AT MOST 1048576: true; the input reads as it did. -/
def readEndsUptoRow : OpenClaim := { program := "ytadijdcdonommaa", sum := "ef6c499faf24d0f43de956210906de1570998af4bb97b63e18a0a1fc1c50407c", func := "lexiphane/lexiphanelaw21.ReadEnds", spec := "readEnds", unfollowed := true, recurses := true, apart := false, narrowed := true }
def ReadEndsUptoSaid : Prop := readEndsUptoRow.holds Try.pinned (OpenSpec.upto readEndsSpec)

/-- 'lexiphanelaw21.ReadBack', WHERE WHAT IT READS IS OF BULK AT MOST 1048576: true; the input reads as it did. -/
def readBackUptoRow : OpenClaim := { program := "ytadijdcdonommaa", sum := "ef6c499faf24d0f43de956210906de1570998af4bb97b63e18a0a1fc1c50407c", func := "lexiphane/lexiphanelaw21.ReadBack", spec := "readBack", unfollowed := true, recurses := true, apart := false, narrowed := true }
def ReadBackUptoSaid : Prop := readBackUptoRow.holds Try.pinned (OpenSpec.upto readBackSpec)

end Rows
end Go.Proofs.Ytadijdcdonommaa
