/-
  No cell of these rows narrows 'for every input' (looked for: loops, veiled, ifaces, maps, wideKeys, modest, calm, conditions, laid).
  DERIVED. THE GIVEN ROWS OF THIS SEAT. 5 by the template 'for every input the law returns true; each argument reads behind the call as it read before'; 0 by the template 'total and deterministic' (their statements: YtnjenkjoeilhhaaTotals.lean).
  GIVEN WITH THE SEED: the statements are not yours to turn. If you find one false, say at which input.
  Laid BY PROGRAM, IN A SANDBOX (cutbox-rows.mjs): the forced cells as the released guide's own fill.sh prints them over the translation 2957c595de0a15a2… (all of the seat's roots in one cut). By AI agents, Wed Nov 11 2026. No macro, syntax, notation, axiom, sorry.
-/
import Derived.Test.YtnjenkjoeilhhaaChecked
import GoSem.Claim
import GoSem.ClaimJoined
import GoSem.ClaimMapViews
import Derived.JoinedTies
import Derived.KernelRfl
namespace Go.Proofs.Ytnjenkjoeilhhaa
/- THE CELL 'sum', in the pinned program and in every row, IS THE sha256 OF THE DUMP (.gsa) THAT YtnjenkjoeilhhaaProg.lean LOADS. Nothing in Lean hashes anything: it is a label: what it is worth is what the hold of that sum in a sandbox is worth. -/
noncomputable def Try.pinned : Pinned := { name := "ytnjenkjoeilhhaa", sum := "2957c595de0a15a2d05573adecae2cd42f62a54602dbc263a4f06bfc68b706a9", checked := Try.checked }
namespace Rows
def none {H : Type} : Left H := { results := [], args := [] }

/-- 'lexiphanelaw14.FlexTells': WHATEVER THE INPUT: true; the input reads as it did. -/
def flexTellsSpec : ChangeSpec := { name := "flexTells", fn := fun _ => fun
  | [d1, d2, d3, d4] => { results := [.lit (.bool true)], args := [d1, d2, d3, d4] }
  | _ => none }
def flexTellsRow : OpenClaim := { program := "ytnjenkjoeilhhaa", sum := "2957c595de0a15a2d05573adecae2cd42f62a54602dbc263a4f06bfc68b706a9", func := "lexiphane/lexiphanelaw14.FlexTells", spec := "flexTells", apart := false }
def FlexTellsSaid : Prop := flexTellsRow.holds Try.pinned (OpenSpec.ofChange flexTellsSpec)

/-- ITS FALSE NEIGHBOUR: 'it returns false'. Refute it at one input. -/
def flexTellsWrong : ChangeSpec := { name := "flexTells", fn := fun _ => fun
  | [d1, d2, d3, d4] => { results := [.lit (.bool false)], args := [d1, d2, d3, d4] }
  | _ => none }
def FlexTellsWrongFalsely : Prop := flexTellsRow.holds Try.pinned (OpenSpec.ofChange flexTellsWrong)

/-- 'lexiphanelaw14.FlexReach': WHATEVER THE INPUT: true; the input reads as it did. -/
def flexReachSpec : ChangeSpec := { name := "flexReach", fn := fun _ => fun
  | [d1, d2] => { results := [.lit (.bool true)], args := [d1, d2] }
  | _ => none }
def flexReachRow : OpenClaim := { program := "ytnjenkjoeilhhaa", sum := "2957c595de0a15a2d05573adecae2cd42f62a54602dbc263a4f06bfc68b706a9", func := "lexiphane/lexiphanelaw14.FlexReach", spec := "flexReach", apart := false }
def FlexReachSaid : Prop := flexReachRow.holds Try.pinned (OpenSpec.ofChange flexReachSpec)

/-- ITS FALSE NEIGHBOUR: 'it returns false'. Refute it at one input. -/
def flexReachWrong : ChangeSpec := { name := "flexReach", fn := fun _ => fun
  | [d1, d2] => { results := [.lit (.bool false)], args := [d1, d2] }
  | _ => none }
def FlexReachWrongFalsely : Prop := flexReachRow.holds Try.pinned (OpenSpec.ofChange flexReachWrong)

/-- 'lexiphanelaw14.FlexWhole': WHATEVER THE INPUT: true; the input reads as it did. -/
def flexWholeSpec : ChangeSpec := { name := "flexWhole", fn := fun _ => fun
  | [d] => { results := [.lit (.bool true)], args := [d] }
  | _ => none }
def flexWholeRow : OpenClaim := { program := "ytnjenkjoeilhhaa", sum := "2957c595de0a15a2d05573adecae2cd42f62a54602dbc263a4f06bfc68b706a9", func := "lexiphane/lexiphanelaw14.FlexWhole", spec := "flexWhole", apart := false }
def FlexWholeSaid : Prop := flexWholeRow.holds Try.pinned (OpenSpec.ofChange flexWholeSpec)

/-- ITS FALSE NEIGHBOUR: 'it returns false'. Refute it at one input. -/
def flexWholeWrong : ChangeSpec := { name := "flexWhole", fn := fun _ => fun
  | [d] => { results := [.lit (.bool false)], args := [d] }
  | _ => none }
def FlexWholeWrongFalsely : Prop := flexWholeRow.holds Try.pinned (OpenSpec.ofChange flexWholeWrong)

/-- 'lexiphanelaw14.FlexSteps': WHATEVER THE INPUT: true; the input reads as it did. -/
def flexStepsSpec : ChangeSpec := { name := "flexSteps", fn := fun _ => fun
  | [d1, d2] => { results := [.lit (.bool true)], args := [d1, d2] }
  | _ => none }
def flexStepsRow : OpenClaim := { program := "ytnjenkjoeilhhaa", sum := "2957c595de0a15a2d05573adecae2cd42f62a54602dbc263a4f06bfc68b706a9", func := "lexiphane/lexiphanelaw14.FlexSteps", spec := "flexSteps", apart := false }
def FlexStepsSaid : Prop := flexStepsRow.holds Try.pinned (OpenSpec.ofChange flexStepsSpec)

/-- ITS FALSE NEIGHBOUR: 'it returns false'. Refute it at one input. -/
def flexStepsWrong : ChangeSpec := { name := "flexSteps", fn := fun _ => fun
  | [d1, d2] => { results := [.lit (.bool false)], args := [d1, d2] }
  | _ => none }
def FlexStepsWrongFalsely : Prop := flexStepsRow.holds Try.pinned (OpenSpec.ofChange flexStepsWrong)

/-- 'lexiphanelaw14.FlexFar': WHATEVER THE INPUT: true; the input reads as it did. -/
def flexFarSpec : ChangeSpec := { name := "flexFar", fn := fun _ => fun
  | [d1, d2] => { results := [.lit (.bool true)], args := [d1, d2] }
  | _ => none }
def flexFarRow : OpenClaim := { program := "ytnjenkjoeilhhaa", sum := "2957c595de0a15a2d05573adecae2cd42f62a54602dbc263a4f06bfc68b706a9", func := "lexiphane/lexiphanelaw14.FlexFar", spec := "flexFar", apart := false }
def FlexFarSaid : Prop := flexFarRow.holds Try.pinned (OpenSpec.ofChange flexFarSpec)

/-- ITS FALSE NEIGHBOUR: 'it returns false'. Refute it at one input. -/
def flexFarWrong : ChangeSpec := { name := "flexFar", fn := fun _ => fun
  | [d1, d2] => { results := [.lit (.bool false)], args := [d1, d2] }
  | _ => none }
def FlexFarWrongFalsely : Prop := flexFarRow.holds Try.pinned (OpenSpec.ofChange flexFarWrong)

/- THE SECOND FORM. 'bulk': how many values and letters a reading holds, each counted each time it is reached (what is shared counts as often as it is met; a slice's spare places count too). A statement '..UptoSaid' is the law's where the arguments, and the package variables that the reading takes, are together of bulk at most 1048576: NARROWER than '..Said'. Prove '..Said' where nothing that the law and all that it calls make is longer than what came in: it says more and counts as full. Else prove '..UptoSaid'. A law counts once. -/
mutual
def uptoBulk {H : Type} : DataW H → Nat
  | .lit (.string bytes) => bytes.length + 1
  | .lit _ => 1
  | .nil => 1
  | .ptr d => uptoBulk d + 1
  | .slice elems spare => uptoBulkAll elems + uptoBulkAll spare + 1
  | .agg parts => uptoBulkAll parts + 1
  | .iface _ d => uptoBulk d + 1
  | .map entries => uptoBulkEntries entries + 1
  | .held _ => 1
def uptoBulkAll {H : Type} : List (DataW H) → Nat
  | [] => 0
  | d :: r => uptoBulk d + uptoBulkAll r
def uptoBulkEntries {H : Type} : List (Lit × DataW H) → Nat
  | [] => 0
  | x :: r => uptoBulkEntry x + uptoBulkEntries r
def uptoBulkEntry {H : Type} : Lit × DataW H → Nat
  | (.string bytes, d) => bytes.length + uptoBulk d + 1
  | (_, d) => uptoBulk d + 1
 end
def uptoSmall : (H : Type) → List (DataW H) → Bool := fun _ ds => decide (uptoBulkAll ds ≤ 1048576)
def OpenSpec.upto (s : _root_.Go.ChangeSpec) : _root_.Go.OpenSpec := { _root_.Go.OpenSpec.ofChange s with cond := some uptoSmall }

/-- 'lexiphanelaw14.FlexTells', WHERE WHAT IT READS IS OF BULK AT MOST 1048576: true; the input reads as it did. -/
def flexTellsUptoRow : OpenClaim := { program := "ytnjenkjoeilhhaa", sum := "2957c595de0a15a2d05573adecae2cd42f62a54602dbc263a4f06bfc68b706a9", func := "lexiphane/lexiphanelaw14.FlexTells", spec := "flexTells", apart := false, narrowed := true }
def FlexTellsUptoSaid : Prop := flexTellsUptoRow.holds Try.pinned (OpenSpec.upto flexTellsSpec)

/-- 'lexiphanelaw14.FlexReach', WHERE WHAT IT READS IS OF BULK AT MOST 1048576: true; the input reads as it did. -/
def flexReachUptoRow : OpenClaim := { program := "ytnjenkjoeilhhaa", sum := "2957c595de0a15a2d05573adecae2cd42f62a54602dbc263a4f06bfc68b706a9", func := "lexiphane/lexiphanelaw14.FlexReach", spec := "flexReach", apart := false, narrowed := true }
def FlexReachUptoSaid : Prop := flexReachUptoRow.holds Try.pinned (OpenSpec.upto flexReachSpec)

/-- 'lexiphanelaw14.FlexWhole', WHERE WHAT IT READS IS OF BULK AT MOST 1048576: true; the input reads as it did. -/
def flexWholeUptoRow : OpenClaim := { program := "ytnjenkjoeilhhaa", sum := "2957c595de0a15a2d05573adecae2cd42f62a54602dbc263a4f06bfc68b706a9", func := "lexiphane/lexiphanelaw14.FlexWhole", spec := "flexWhole", apart := false, narrowed := true }
def FlexWholeUptoSaid : Prop := flexWholeUptoRow.holds Try.pinned (OpenSpec.upto flexWholeSpec)

/-- 'lexiphanelaw14.FlexSteps', WHERE WHAT IT READS IS OF BULK AT MOST 1048576: true; the input reads as it did. -/
def flexStepsUptoRow : OpenClaim := { program := "ytnjenkjoeilhhaa", sum := "2957c595de0a15a2d05573adecae2cd42f62a54602dbc263a4f06bfc68b706a9", func := "lexiphane/lexiphanelaw14.FlexSteps", spec := "flexSteps", apart := false, narrowed := true }
def FlexStepsUptoSaid : Prop := flexStepsUptoRow.holds Try.pinned (OpenSpec.upto flexStepsSpec)

/-- 'lexiphanelaw14.FlexFar', WHERE WHAT IT READS IS OF BULK AT MOST 1048576: true; the input reads as it did. -/
def flexFarUptoRow : OpenClaim := { program := "ytnjenkjoeilhhaa", sum := "2957c595de0a15a2d05573adecae2cd42f62a54602dbc263a4f06bfc68b706a9", func := "lexiphane/lexiphanelaw14.FlexFar", spec := "flexFar", apart := false, narrowed := true }
def FlexFarUptoSaid : Prop := flexFarUptoRow.holds Try.pinned (OpenSpec.upto flexFarSpec)

end Rows
end Go.Proofs.Ytnjenkjoeilhhaa
