/-
  No cell of these rows narrows 'for every input' (looked for: loops, veiled, ifaces, maps, wideKeys, modest, calm, conditions, laid).
  DERIVED. THE GIVEN ROWS OF THIS SEAT. 7 by the template 'for every input the law returns true; each argument reads behind the call as it read before'; 0 by the template 'total and deterministic' (their statements: YtfdpgngdccdmpaaTotals.lean).
  GIVEN WITH THE SEED: the statements are not yours to turn. If you find one false, say at which input.
  Laid BY PROGRAM, IN A SANDBOX (cutbox-rows.mjs): the forced cells as the released guide's own fill.sh prints them over the translation 51b24b521ae77d8d… (all of the seat's roots in one cut). By AI agents, Wed Nov 11 2026. No macro, syntax, notation, axiom, sorry.
-/
import Derived.Test.YtfdpgngdccdmpaaChecked
import GoSem.Claim
import GoSem.ClaimJoined
import GoSem.ClaimMapViews
import Derived.JoinedTies
import Derived.KernelRfl
namespace Go.Proofs.Ytfdpgngdccdmpaa
/- THE CELL 'sum', in the pinned program and in every row, IS THE sha256 OF THE DUMP (.gsa) THAT YtfdpgngdccdmpaaProg.lean LOADS. Nothing in Lean hashes anything: it is a label: what it is worth is what the hold of that sum in a sandbox is worth. -/
noncomputable def Try.pinned : Pinned := { name := "ytfdpgngdccdmpaa", sum := "51b24b521ae77d8dfb84ec9c6ec35607078001d13ca8db342eef59191f7ee5cc", checked := Try.checked }
namespace Rows
def none {H : Type} : Left H := { results := [], args := [] }

/-- 'lexiphanelaw19.CodeTells': WHATEVER THE INPUT: true; the input reads as it did. -/
def codeTellsSpec : ChangeSpec := { name := "codeTells", fn := fun _ => fun
  | [d] => { results := [.lit (.bool true)], args := [d] }
  | _ => none }
def codeTellsRow : OpenClaim := { program := "ytfdpgngdccdmpaa", sum := "51b24b521ae77d8dfb84ec9c6ec35607078001d13ca8db342eef59191f7ee5cc", func := "lexiphane/lexiphanelaw19.CodeTells", spec := "codeTells", unfollowed := true, recurses := true, apart := false }
def CodeTellsSaid : Prop := codeTellsRow.holds Try.pinned (OpenSpec.ofChange codeTellsSpec)

/-- ITS FALSE NEIGHBOUR: 'it returns false'. Refute it at one input. -/
def codeTellsWrong : ChangeSpec := { name := "codeTells", fn := fun _ => fun
  | [d] => { results := [.lit (.bool false)], args := [d] }
  | _ => none }
def CodeTellsWrongFalsely : Prop := codeTellsRow.holds Try.pinned (OpenSpec.ofChange codeTellsWrong)

/-- 'lexiphanelaw19.CodeFree': WHATEVER THE INPUT: true; the input reads as it did. -/
def codeFreeSpec : ChangeSpec := { name := "codeFree", fn := fun _ => fun
  | [d] => { results := [.lit (.bool true)], args := [d] }
  | _ => none }
def codeFreeRow : OpenClaim := { program := "ytfdpgngdccdmpaa", sum := "51b24b521ae77d8dfb84ec9c6ec35607078001d13ca8db342eef59191f7ee5cc", func := "lexiphane/lexiphanelaw19.CodeFree", spec := "codeFree", unfollowed := true, recurses := true, apart := false }
def CodeFreeSaid : Prop := codeFreeRow.holds Try.pinned (OpenSpec.ofChange codeFreeSpec)

/-- ITS FALSE NEIGHBOUR: 'it returns false'. Refute it at one input. -/
def codeFreeWrong : ChangeSpec := { name := "codeFree", fn := fun _ => fun
  | [d] => { results := [.lit (.bool false)], args := [d] }
  | _ => none }
def CodeFreeWrongFalsely : Prop := codeFreeRow.holds Try.pinned (OpenSpec.ofChange codeFreeWrong)

/-- 'lexiphanelaw19.CodeRises': WHATEVER THE INPUT: true; the input reads as it did. -/
def codeRisesSpec : ChangeSpec := { name := "codeRises", fn := fun _ => fun
  | [d] => { results := [.lit (.bool true)], args := [d] }
  | _ => none }
def codeRisesRow : OpenClaim := { program := "ytfdpgngdccdmpaa", sum := "51b24b521ae77d8dfb84ec9c6ec35607078001d13ca8db342eef59191f7ee5cc", func := "lexiphane/lexiphanelaw19.CodeRises", spec := "codeRises", unfollowed := true, recurses := true, apart := false }
def CodeRisesSaid : Prop := codeRisesRow.holds Try.pinned (OpenSpec.ofChange codeRisesSpec)

/-- ITS FALSE NEIGHBOUR: 'it returns false'. Refute it at one input. -/
def codeRisesWrong : ChangeSpec := { name := "codeRises", fn := fun _ => fun
  | [d] => { results := [.lit (.bool false)], args := [d] }
  | _ => none }
def CodeRisesWrongFalsely : Prop := codeRisesRow.holds Try.pinned (OpenSpec.ofChange codeRisesWrong)

/-- 'lexiphanelaw19.CodeKraft': WHATEVER THE INPUT: true; the input reads as it did. -/
def codeKraftSpec : ChangeSpec := { name := "codeKraft", fn := fun _ => fun
  | [d1, d2, d3] => { results := [.lit (.bool true)], args := [d1, d2, d3] }
  | _ => none }
def codeKraftRow : OpenClaim := { program := "ytfdpgngdccdmpaa", sum := "51b24b521ae77d8dfb84ec9c6ec35607078001d13ca8db342eef59191f7ee5cc", func := "lexiphane/lexiphanelaw19.CodeKraft", spec := "codeKraft", unfollowed := true, recurses := true, apart := false }
def CodeKraftSaid : Prop := codeKraftRow.holds Try.pinned (OpenSpec.ofChange codeKraftSpec)

/-- ITS FALSE NEIGHBOUR: 'it returns false'. Refute it at one input. -/
def codeKraftWrong : ChangeSpec := { name := "codeKraft", fn := fun _ => fun
  | [d1, d2, d3] => { results := [.lit (.bool false)], args := [d1, d2, d3] }
  | _ => none }
def CodeKraftWrongFalsely : Prop := codeKraftRow.holds Try.pinned (OpenSpec.ofChange codeKraftWrong)

/-- 'lexiphanelaw19.CodeFills': WHATEVER THE INPUT: true; the input reads as it did. -/
def codeFillsSpec : ChangeSpec := { name := "codeFills", fn := fun _ => fun
  | [d1, d2] => { results := [.lit (.bool true)], args := [d1, d2] }
  | _ => none }
def codeFillsRow : OpenClaim := { program := "ytfdpgngdccdmpaa", sum := "51b24b521ae77d8dfb84ec9c6ec35607078001d13ca8db342eef59191f7ee5cc", func := "lexiphane/lexiphanelaw19.CodeFills", spec := "codeFills", unfollowed := true, recurses := true, apart := false }
def CodeFillsSaid : Prop := codeFillsRow.holds Try.pinned (OpenSpec.ofChange codeFillsSpec)

/-- ITS FALSE NEIGHBOUR: 'it returns false'. Refute it at one input. -/
def codeFillsWrong : ChangeSpec := { name := "codeFills", fn := fun _ => fun
  | [d1, d2] => { results := [.lit (.bool false)], args := [d1, d2] }
  | _ => none }
def CodeFillsWrongFalsely : Prop := codeFillsRow.holds Try.pinned (OpenSpec.ofChange codeFillsWrong)

/-- 'lexiphanelaw19.CodePuts': WHATEVER THE INPUT: true; the input reads as it did. -/
def codePutsSpec : ChangeSpec := { name := "codePuts", fn := fun _ => fun
  | [d1, d2, d3] => { results := [.lit (.bool true)], args := [d1, d2, d3] }
  | _ => none }
def codePutsRow : OpenClaim := { program := "ytfdpgngdccdmpaa", sum := "51b24b521ae77d8dfb84ec9c6ec35607078001d13ca8db342eef59191f7ee5cc", func := "lexiphane/lexiphanelaw19.CodePuts", spec := "codePuts", unfollowed := true, recurses := true, apart := false }
def CodePutsSaid : Prop := codePutsRow.holds Try.pinned (OpenSpec.ofChange codePutsSpec)

/-- ITS FALSE NEIGHBOUR: 'it returns false'. Refute it at one input. -/
def codePutsWrong : ChangeSpec := { name := "codePuts", fn := fun _ => fun
  | [d1, d2, d3] => { results := [.lit (.bool false)], args := [d1, d2, d3] }
  | _ => none }
def CodePutsWrongFalsely : Prop := codePutsRow.holds Try.pinned (OpenSpec.ofChange codePutsWrong)

/-- 'lexiphanelaw19.CodeBits': WHATEVER THE INPUT: true; the input reads as it did. -/
def codeBitsSpec : ChangeSpec := { name := "codeBits", fn := fun _ => fun
  | [d1, d2] => { results := [.lit (.bool true)], args := [d1, d2] }
  | _ => none }
def codeBitsRow : OpenClaim := { program := "ytfdpgngdccdmpaa", sum := "51b24b521ae77d8dfb84ec9c6ec35607078001d13ca8db342eef59191f7ee5cc", func := "lexiphane/lexiphanelaw19.CodeBits", spec := "codeBits", unfollowed := true, recurses := true, apart := false }
def CodeBitsSaid : Prop := codeBitsRow.holds Try.pinned (OpenSpec.ofChange codeBitsSpec)

/-- ITS FALSE NEIGHBOUR: 'it returns false'. Refute it at one input. -/
def codeBitsWrong : ChangeSpec := { name := "codeBits", fn := fun _ => fun
  | [d1, d2] => { results := [.lit (.bool false)], args := [d1, d2] }
  | _ => none }
def CodeBitsWrongFalsely : Prop := codeBitsRow.holds Try.pinned (OpenSpec.ofChange codeBitsWrong)

/- THE SECOND FORM. 'bulk': how many values and letters a reading holds, each counted each time it is reached (what is shared counts as often as it is met; a slice's spare places count too). A statement '..UptoSaid' is the law's where the arguments, and the package variables that the reading takes, are together of bulk at most 1048576: NARROWER than '..Said'. Prove '..Said' where nothing that the law and all that it calls make is longer than what came in: it says more and counts as full. Else prove '..UptoSaid'. A law counts once. -/
mutual
def uptoBulk {H : Type} : DataW H → Nat
  | .lit (.string bytes) => bytes.length + 1
  | .lit _ => 1
  | .nil => 1
  | .ptr d => uptoBulk d + 1
  | .slice elems spare => uptoBulkAll elems + uptoBulkAll spare + 1
  | .agg parts => uptoBulkAll parts + 1
  | .iface _ d => uptoBulk d + 1
  | .map entries => uptoBulkEntries entries + 1
  | .held _ => 1
def uptoBulkAll {H : Type} : List (DataW H) → Nat
  | [] => 0
  | d :: r => uptoBulk d + uptoBulkAll r
def uptoBulkEntries {H : Type} : List (Lit × DataW H) → Nat
  | [] => 0
  | x :: r => uptoBulkEntry x + uptoBulkEntries r
def uptoBulkEntry {H : Type} : Lit × DataW H → Nat
  | (.string bytes, d) => bytes.length + uptoBulk d + 1
  | (_, d) => uptoBulk d + 1
 end
def uptoSmall : (H : Type) → List (DataW H) → Bool := fun _ ds => decide (uptoBulkAll ds ≤ 1048576)
def OpenSpec.upto (s : _root_.Go.ChangeSpec) : _root_.Go.OpenSpec := { _root_.Go.OpenSpec.ofChange s with cond := some uptoSmall }

/-- 'lexiphanelaw19.CodeTells', WHERE WHAT IT READS IS OF BULK AT MOST 1048576: true; the input reads as it did. -/
def codeTellsUptoRow : OpenClaim := { program := "ytfdpgngdccdmpaa", sum := "51b24b521ae77d8dfb84ec9c6ec35607078001d13ca8db342eef59191f7ee5cc", func := "lexiphane/lexiphanelaw19.CodeTells", spec := "codeTells", unfollowed := true, recurses := true, apart := false, narrowed := true }
def CodeTellsUptoSaid : Prop := codeTellsUptoRow.holds Try.pinned (OpenSpec.upto codeTellsSpec)

/-- 'lexiphanelaw19.CodeFree', WHERE WHAT IT READS IS OF BULK AT MOST 1048576: true; the input reads as it did. -/
def codeFreeUptoRow : OpenClaim := { program := "ytfdpgngdccdmpaa", sum := "51b24b521ae77d8dfb84ec9c6ec35607078001d13ca8db342eef59191f7ee5cc", func := "lexiphane/lexiphanelaw19.CodeFree", spec := "codeFree", unfollowed := true, recurses := true, apart := false, narrowed := true }
def CodeFreeUptoSaid : Prop := codeFreeUptoRow.holds Try.pinned (OpenSpec.upto codeFreeSpec)

/-- 'lexiphanelaw19.CodeRises', WHERE WHAT IT READS IS OF BULK AT MOST 1048576: true; the input reads as it did. -/
def codeRisesUptoRow : OpenClaim := { program := "ytfdpgngdccdmpaa", sum := "51b24b521ae77d8dfb84ec9c6ec35607078001d13ca8db342eef59191f7ee5cc", func := "lexiphane/lexiphanelaw19.CodeRises", spec := "codeRises", unfollowed := true, recurses := true, apart := false, narrowed := true }
def CodeRisesUptoSaid : Prop := codeRisesUptoRow.holds Try.pinned (OpenSpec.upto codeRisesSpec)

/-- 'lexiphanelaw19.CodeKraft', WHERE WHAT IT READS IS OF BULK AT MOST 1048576: true; the input reads as it did. -/
def codeKraftUptoRow : OpenClaim := { program := "ytfdpgngdccdmpaa", sum := "51b24b521ae77d8dfb84ec9c6ec35607078001d13ca8db342eef59191f7ee5cc", func := "lexiphane/lexiphanelaw19.CodeKraft", spec := "codeKraft", unfollowed := true, recurses := true, apart := false, narrowed := true }
def CodeKraftUptoSaid : Prop := codeKraftUptoRow.holds Try.pinned (OpenSpec.upto codeKraftSpec)

/-- 'lexiphanelaw19.CodeFills', WHERE WHAT IT READS IS OF BULK AT MOST 1048576: true; the input reads as it did. -/
def codeFillsUptoRow : OpenClaim := { program := "ytfdpgngdccdmpaa", sum := "51b24b521ae77d8dfb84ec9c6ec35607078001d13ca8db342eef59191f7ee5cc", func := "lexiphane/lexiphanelaw19.CodeFills", spec := "codeFills", unfollowed := true, recurses := true, apart := false, narrowed := true }
def CodeFillsUptoSaid : Prop := codeFillsUptoRow.holds Try.pinned (OpenSpec.upto codeFillsSpec)

/-- 'lexiphanelaw19.CodePuts', WHERE WHAT IT READS IS OF BULK AT MOST 1048576: true; the input reads as it did. -/
def codePutsUptoRow : OpenClaim := { program := "ytfdpgngdccdmpaa", sum := "51b24b521ae77d8dfb84ec9c6ec35607078001d13ca8db342eef59191f7ee5cc", func := "lexiphane/lexiphanelaw19.CodePuts", spec := "codePuts", unfollowed := true, recurses := true, apart := false, narrowed := true }
def CodePutsUptoSaid : Prop := codePutsUptoRow.holds Try.pinned (OpenSpec.upto codePutsSpec)

/-- 'lexiphanelaw19.CodeBits', WHERE WHAT IT READS IS OF BULK AT MOST 1048576: true; the input reads as it did. -/
def codeBitsUptoRow : OpenClaim := { program := "ytfdpgngdccdmpaa", sum := "51b24b521ae77d8dfb84ec9c6ec35607078001d13ca8db342eef59191f7ee5cc", func := "lexiphane/lexiphanelaw19.CodeBits", spec := "codeBits", unfollowed := true, recurses := true, apart := false, narrowed := true }
def CodeBitsUptoSaid : Prop := codeBitsUptoRow.holds Try.pinned (OpenSpec.upto codeBitsSpec)

end Rows
end Go.Proofs.Ytfdpgngdccdmpaa
