/-
  No cell of these rows narrows 'for every input' (looked for: loops, veiled, ifaces, maps, wideKeys, modest, calm, conditions, laid).
  DERIVED. THE GIVEN ROWS OF THIS SEAT. 10 by the template 'for every input the law returns true; each argument reads behind the call as it read before'; 0 by the template 'total and deterministic' (their statements: YticfnecibfofjaaTotals.lean).
  GIVEN WITH THE SEED: the statements are not yours to turn. If you find one false, say at which input.
  Laid BY PROGRAM, IN A SANDBOX (cutbox-rows.mjs): the forced cells as the released guide's own fill.sh prints them over the translation 27f492477f92a97e… (all of the seat's roots in one cut). By AI agents, Wed Nov 11 2026. No macro, syntax, notation, axiom, sorry.
-/
import Derived.Test.YticfnecibfofjaaChecked
import GoSem.Claim
import GoSem.ClaimJoined
import GoSem.ClaimMapViews
import Derived.JoinedTies
import Derived.KernelRfl
namespace Go.Proofs.Yticfnecibfofjaa
/- THE CELL 'sum', in the pinned program and in every row, IS THE sha256 OF THE DUMP (.gsa) THAT YticfnecibfofjaaProg.lean LOADS. Nothing in Lean hashes anything: it is a label: what it is worth is what the hold of that sum in a sandbox is worth. -/
noncomputable def Try.pinned : Pinned := { name := "yticfnecibfofjaa", sum := "27f492477f92a97e52b275ceb597b0c172a0b2fed2a693b5c34be23981f86b46", checked := Try.checked }
namespace Rows
def none {H : Type} : Left H := { results := [], args := [] }

/-- 'lexiphanelaw3.VariTells': WHATEVER THE INPUT: true; the input reads as it did. -/
def variTellsSpec : ChangeSpec := { name := "variTells", fn := fun _ => fun
  | [d1, d2] => { results := [.lit (.bool true)], args := [d1, d2] }
  | _ => none }
def variTellsRow : OpenClaim := { program := "yticfnecibfofjaa", sum := "27f492477f92a97e52b275ceb597b0c172a0b2fed2a693b5c34be23981f86b46", func := "lexiphane/lexiphanelaw3.VariTells", spec := "variTells", apart := false }
def VariTellsSaid : Prop := variTellsRow.holds Try.pinned (OpenSpec.ofChange variTellsSpec)

/-- ITS FALSE NEIGHBOUR: 'it returns false'. Refute it at one input. -/
def variTellsWrong : ChangeSpec := { name := "variTells", fn := fun _ => fun
  | [d1, d2] => { results := [.lit (.bool false)], args := [d1, d2] }
  | _ => none }
def VariTellsWrongFalsely : Prop := variTellsRow.holds Try.pinned (OpenSpec.ofChange variTellsWrong)

/-- 'lexiphanelaw3.VariOnce': WHATEVER THE INPUT: true; the input reads as it did. -/
def variOnceSpec : ChangeSpec := { name := "variOnce", fn := fun _ => fun
  | [d1, d2] => { results := [.lit (.bool true)], args := [d1, d2] }
  | _ => none }
def variOnceRow : OpenClaim := { program := "yticfnecibfofjaa", sum := "27f492477f92a97e52b275ceb597b0c172a0b2fed2a693b5c34be23981f86b46", func := "lexiphane/lexiphanelaw3.VariOnce", spec := "variOnce", apart := false }
def VariOnceSaid : Prop := variOnceRow.holds Try.pinned (OpenSpec.ofChange variOnceSpec)

/-- ITS FALSE NEIGHBOUR: 'it returns false'. Refute it at one input. -/
def variOnceWrong : ChangeSpec := { name := "variOnce", fn := fun _ => fun
  | [d1, d2] => { results := [.lit (.bool false)], args := [d1, d2] }
  | _ => none }
def VariOnceWrongFalsely : Prop := variOnceRow.holds Try.pinned (OpenSpec.ofChange variOnceWrong)

/-- 'lexiphanelaw3.VariLens': WHATEVER THE INPUT: true; the input reads as it did. -/
def variLensSpec : ChangeSpec := { name := "variLens", fn := fun _ => fun
  | [d1, d2] => { results := [.lit (.bool true)], args := [d1, d2] }
  | _ => none }
def variLensRow : OpenClaim := { program := "yticfnecibfofjaa", sum := "27f492477f92a97e52b275ceb597b0c172a0b2fed2a693b5c34be23981f86b46", func := "lexiphane/lexiphanelaw3.VariLens", spec := "variLens", apart := false }
def VariLensSaid : Prop := variLensRow.holds Try.pinned (OpenSpec.ofChange variLensSpec)

/-- ITS FALSE NEIGHBOUR: 'it returns false'. Refute it at one input. -/
def variLensWrong : ChangeSpec := { name := "variLens", fn := fun _ => fun
  | [d1, d2] => { results := [.lit (.bool false)], args := [d1, d2] }
  | _ => none }
def VariLensWrongFalsely : Prop := variLensRow.holds Try.pinned (OpenSpec.ofChange variLensWrong)

/-- 'lexiphanelaw3.VariLong': WHATEVER THE INPUT: true; the input reads as it did. -/
def variLongSpec : ChangeSpec := { name := "variLong", fn := fun _ => fun
  | [d1, d2] => { results := [.lit (.bool true)], args := [d1, d2] }
  | _ => none }
def variLongRow : OpenClaim := { program := "yticfnecibfofjaa", sum := "27f492477f92a97e52b275ceb597b0c172a0b2fed2a693b5c34be23981f86b46", func := "lexiphane/lexiphanelaw3.VariLong", spec := "variLong", apart := false }
def VariLongSaid : Prop := variLongRow.holds Try.pinned (OpenSpec.ofChange variLongSpec)

/-- ITS FALSE NEIGHBOUR: 'it returns false'. Refute it at one input. -/
def variLongWrong : ChangeSpec := { name := "variLong", fn := fun _ => fun
  | [d1, d2] => { results := [.lit (.bool false)], args := [d1, d2] }
  | _ => none }
def VariLongWrongFalsely : Prop := variLongRow.holds Try.pinned (OpenSpec.ofChange variLongWrong)

/-- 'lexiphanelaw3.VariJoins': WHATEVER THE INPUT: true; the input reads as it did. -/
def variJoinsSpec : ChangeSpec := { name := "variJoins", fn := fun _ => fun
  | [d] => { results := [.lit (.bool true)], args := [d] }
  | _ => none }
def variJoinsRow : OpenClaim := { program := "yticfnecibfofjaa", sum := "27f492477f92a97e52b275ceb597b0c172a0b2fed2a693b5c34be23981f86b46", func := "lexiphane/lexiphanelaw3.VariJoins", spec := "variJoins", apart := false }
def VariJoinsSaid : Prop := variJoinsRow.holds Try.pinned (OpenSpec.ofChange variJoinsSpec)

/-- ITS FALSE NEIGHBOUR: 'it returns false'. Refute it at one input. -/
def variJoinsWrong : ChangeSpec := { name := "variJoins", fn := fun _ => fun
  | [d] => { results := [.lit (.bool false)], args := [d] }
  | _ => none }
def VariJoinsWrongFalsely : Prop := variJoinsRow.holds Try.pinned (OpenSpec.ofChange variJoinsWrong)

/-- 'lexiphanelaw12.CostTells': WHATEVER THE INPUT: true; the input reads as it did. -/
def costTellsSpec : ChangeSpec := { name := "costTells", fn := fun _ => fun
  | [d1, d2] => { results := [.lit (.bool true)], args := [d1, d2] }
  | _ => none }
def costTellsRow : OpenClaim := { program := "yticfnecibfofjaa", sum := "27f492477f92a97e52b275ceb597b0c172a0b2fed2a693b5c34be23981f86b46", func := "lexiphane/lexiphanelaw12.CostTells", spec := "costTells", unfollowed := true, recurses := true, apart := false }
def CostTellsSaid : Prop := costTellsRow.holds Try.pinned (OpenSpec.ofChange costTellsSpec)

/-- ITS FALSE NEIGHBOUR: 'it returns false'. Refute it at one input. -/
def costTellsWrong : ChangeSpec := { name := "costTells", fn := fun _ => fun
  | [d1, d2] => { results := [.lit (.bool false)], args := [d1, d2] }
  | _ => none }
def CostTellsWrongFalsely : Prop := costTellsRow.holds Try.pinned (OpenSpec.ofChange costTellsWrong)

/-- 'lexiphanelaw12.CostOrders': WHATEVER THE INPUT: true; the input reads as it did. -/
def costOrdersSpec : ChangeSpec := { name := "costOrders", fn := fun _ => fun
  | [d1, d2, d3, d4, d5, d6] => { results := [.lit (.bool true)], args := [d1, d2, d3, d4, d5, d6] }
  | _ => none }
def costOrdersRow : OpenClaim := { program := "yticfnecibfofjaa", sum := "27f492477f92a97e52b275ceb597b0c172a0b2fed2a693b5c34be23981f86b46", func := "lexiphane/lexiphanelaw12.CostOrders", spec := "costOrders", unfollowed := true, recurses := true, apart := false }
def CostOrdersSaid : Prop := costOrdersRow.holds Try.pinned (OpenSpec.ofChange costOrdersSpec)

/-- ITS FALSE NEIGHBOUR: 'it returns false'. Refute it at one input. -/
def costOrdersWrong : ChangeSpec := { name := "costOrders", fn := fun _ => fun
  | [d1, d2, d3, d4, d5, d6] => { results := [.lit (.bool false)], args := [d1, d2, d3, d4, d5, d6] }
  | _ => none }
def CostOrdersWrongFalsely : Prop := costOrdersRow.holds Try.pinned (OpenSpec.ofChange costOrdersWrong)

/-- 'lexiphanelaw12.CostAdds': WHATEVER THE INPUT: true; the input reads as it did. -/
def costAddsSpec : ChangeSpec := { name := "costAdds", fn := fun _ => fun
  | [d1, d2] => { results := [.lit (.bool true)], args := [d1, d2] }
  | _ => none }
def costAddsRow : OpenClaim := { program := "yticfnecibfofjaa", sum := "27f492477f92a97e52b275ceb597b0c172a0b2fed2a693b5c34be23981f86b46", func := "lexiphane/lexiphanelaw12.CostAdds", spec := "costAdds", apart := false }
def CostAddsSaid : Prop := costAddsRow.holds Try.pinned (OpenSpec.ofChange costAddsSpec)

/-- ITS FALSE NEIGHBOUR: 'it returns false'. Refute it at one input. -/
def costAddsWrong : ChangeSpec := { name := "costAdds", fn := fun _ => fun
  | [d1, d2] => { results := [.lit (.bool false)], args := [d1, d2] }
  | _ => none }
def CostAddsWrongFalsely : Prop := costAddsRow.holds Try.pinned (OpenSpec.ofChange costAddsWrong)

/-- 'lexiphanelaw12.CostBytes': WHATEVER THE INPUT: true; the input reads as it did. -/
def costBytesSpec : ChangeSpec := { name := "costBytes", fn := fun _ => fun
  | [d] => { results := [.lit (.bool true)], args := [d] }
  | _ => none }
def costBytesRow : OpenClaim := { program := "yticfnecibfofjaa", sum := "27f492477f92a97e52b275ceb597b0c172a0b2fed2a693b5c34be23981f86b46", func := "lexiphane/lexiphanelaw12.CostBytes", spec := "costBytes", apart := false }
def CostBytesSaid : Prop := costBytesRow.holds Try.pinned (OpenSpec.ofChange costBytesSpec)

/-- ITS FALSE NEIGHBOUR: 'it returns false'. Refute it at one input. -/
def costBytesWrong : ChangeSpec := { name := "costBytes", fn := fun _ => fun
  | [d] => { results := [.lit (.bool false)], args := [d] }
  | _ => none }
def CostBytesWrongFalsely : Prop := costBytesRow.holds Try.pinned (OpenSpec.ofChange costBytesWrong)

/-- 'lexiphanelaw12.CostMost': WHATEVER THE INPUT: true; the input reads as it did. -/
def costMostSpec : ChangeSpec := { name := "costMost", fn := fun _ => fun
  | [d1, d2] => { results := [.lit (.bool true)], args := [d1, d2] }
  | _ => none }
def costMostRow : OpenClaim := { program := "yticfnecibfofjaa", sum := "27f492477f92a97e52b275ceb597b0c172a0b2fed2a693b5c34be23981f86b46", func := "lexiphane/lexiphanelaw12.CostMost", spec := "costMost", apart := false }
def CostMostSaid : Prop := costMostRow.holds Try.pinned (OpenSpec.ofChange costMostSpec)

/-- ITS FALSE NEIGHBOUR: 'it returns false'. Refute it at one input. -/
def costMostWrong : ChangeSpec := { name := "costMost", fn := fun _ => fun
  | [d1, d2] => { results := [.lit (.bool false)], args := [d1, d2] }
  | _ => none }
def CostMostWrongFalsely : Prop := costMostRow.holds Try.pinned (OpenSpec.ofChange costMostWrong)

/- THE SECOND FORM. 'bulk': how many values and letters a reading holds, each counted each time it is reached (what is shared counts as often as it is met; a slice's spare places count too). A statement '..UptoSaid' is the law's where the arguments, and the package variables that the reading takes, are together of bulk at most 1048576: NARROWER than '..Said'. Prove '..Said' where nothing that the law and all that it calls make is longer than what came in: it says more and counts as full. Else prove '..UptoSaid'. A law counts once. -/
mutual
def uptoBulk {H : Type} : DataW H → Nat
  | .lit (.string bytes) => bytes.length + 1
  | .lit _ => 1
  | .nil => 1
  | .ptr d => uptoBulk d + 1
  | .slice elems spare => uptoBulkAll elems + uptoBulkAll spare + 1
  | .agg parts => uptoBulkAll parts + 1
  | .iface _ d => uptoBulk d + 1
  | .map entries => uptoBulkEntries entries + 1
  | .held _ => 1
def uptoBulkAll {H : Type} : List (DataW H) → Nat
  | [] => 0
  | d :: r => uptoBulk d + uptoBulkAll r
def uptoBulkEntries {H : Type} : List (Lit × DataW H) → Nat
  | [] => 0
  | x :: r => uptoBulkEntry x + uptoBulkEntries r
def uptoBulkEntry {H : Type} : Lit × DataW H → Nat
  | (.string bytes, d) => bytes.length + uptoBulk d + 1
  | (_, d) => uptoBulk d + 1
 end
def uptoSmall : (H : Type) → List (DataW H) → Bool := fun _ ds => decide (uptoBulkAll ds ≤ 1048576)
def OpenSpec.upto (s : _root_.Go.ChangeSpec) : _root_.Go.OpenSpec := { _root_.Go.OpenSpec.ofChange s with cond := some uptoSmall }

/-- 'lexiphanelaw3.VariTells', WHERE WHAT IT READS IS OF BULK AT MOST 1048576: true; the input reads as it did. -/
def variTellsUptoRow : OpenClaim := { program := "yticfnecibfofjaa", sum := "27f492477f92a97e52b275ceb597b0c172a0b2fed2a693b5c34be23981f86b46", func := "lexiphane/lexiphanelaw3.VariTells", spec := "variTells", apart := false, narrowed := true }
def VariTellsUptoSaid : Prop := variTellsUptoRow.holds Try.pinned (OpenSpec.upto variTellsSpec)

/-- 'lexiphanelaw3.VariOnce', WHERE WHAT IT READS IS OF BULK AT MOST 1048576: true; the input reads as it did. -/
def variOnceUptoRow : OpenClaim := { program := "yticfnecibfofjaa", sum := "27f492477f92a97e52b275ceb597b0c172a0b2fed2a693b5c34be23981f86b46", func := "lexiphane/lexiphanelaw3.VariOnce", spec := "variOnce", apart := false, narrowed := true }
def VariOnceUptoSaid : Prop := variOnceUptoRow.holds Try.pinned (OpenSpec.upto variOnceSpec)

/-- 'lexiphanelaw3.VariLens', WHERE WHAT IT READS IS OF BULK AT MOST 1048576: true; the input reads as it did. -/
def variLensUptoRow : OpenClaim := { program := "yticfnecibfofjaa", sum := "27f492477f92a97e52b275ceb597b0c172a0b2fed2a693b5c34be23981f86b46", func := "lexiphane/lexiphanelaw3.VariLens", spec := "variLens", apart := false, narrowed := true }
def VariLensUptoSaid : Prop := variLensUptoRow.holds Try.pinned (OpenSpec.upto variLensSpec)

/-- 'lexiphanelaw3.VariLong', WHERE WHAT IT READS IS OF BULK AT MOST 1048576: true; the input reads as it did. -/
def variLongUptoRow : OpenClaim := { program := "yticfnecibfofjaa", sum := "27f492477f92a97e52b275ceb597b0c172a0b2fed2a693b5c34be23981f86b46", func := "lexiphane/lexiphanelaw3.VariLong", spec := "variLong", apart := false, narrowed := true }
def VariLongUptoSaid : Prop := variLongUptoRow.holds Try.pinned (OpenSpec.upto variLongSpec)

/-- 'lexiphanelaw3.VariJoins', WHERE WHAT IT READS IS OF BULK AT MOST 1048576: true; the input reads as it did. -/
def variJoinsUptoRow : OpenClaim := { program := "yticfnecibfofjaa", sum := "27f492477f92a97e52b275ceb597b0c172a0b2fed2a693b5c34be23981f86b46", func := "lexiphane/lexiphanelaw3.VariJoins", spec := "variJoins", apart := false, narrowed := true }
def VariJoinsUptoSaid : Prop := variJoinsUptoRow.holds Try.pinned (OpenSpec.upto variJoinsSpec)

/-- 'lexiphanelaw12.CostTells', WHERE WHAT IT READS IS OF BULK AT MOST 1048576: true; the input reads as it did. -/
def costTellsUptoRow : OpenClaim := { program := "yticfnecibfofjaa", sum := "27f492477f92a97e52b275ceb597b0c172a0b2fed2a693b5c34be23981f86b46", func := "lexiphane/lexiphanelaw12.CostTells", spec := "costTells", unfollowed := true, recurses := true, apart := false, narrowed := true }
def CostTellsUptoSaid : Prop := costTellsUptoRow.holds Try.pinned (OpenSpec.upto costTellsSpec)

/-- 'lexiphanelaw12.CostOrders', WHERE WHAT IT READS IS OF BULK AT MOST 1048576: true; the input reads as it did. -/
def costOrdersUptoRow : OpenClaim := { program := "yticfnecibfofjaa", sum := "27f492477f92a97e52b275ceb597b0c172a0b2fed2a693b5c34be23981f86b46", func := "lexiphane/lexiphanelaw12.CostOrders", spec := "costOrders", unfollowed := true, recurses := true, apart := false, narrowed := true }
def CostOrdersUptoSaid : Prop := costOrdersUptoRow.holds Try.pinned (OpenSpec.upto costOrdersSpec)

/-- 'lexiphanelaw12.CostAdds', WHERE WHAT IT READS IS OF BULK AT MOST 1048576: true; the input reads as it did. -/
def costAddsUptoRow : OpenClaim := { program := "yticfnecibfofjaa", sum := "27f492477f92a97e52b275ceb597b0c172a0b2fed2a693b5c34be23981f86b46", func := "lexiphane/lexiphanelaw12.CostAdds", spec := "costAdds", apart := false, narrowed := true }
def CostAddsUptoSaid : Prop := costAddsUptoRow.holds Try.pinned (OpenSpec.upto costAddsSpec)

/-- 'lexiphanelaw12.CostBytes', WHERE WHAT IT READS IS OF BULK AT MOST 1048576: true; the input reads as it did. -/
def costBytesUptoRow : OpenClaim := { program := "yticfnecibfofjaa", sum := "27f492477f92a97e52b275ceb597b0c172a0b2fed2a693b5c34be23981f86b46", func := "lexiphane/lexiphanelaw12.CostBytes", spec := "costBytes", apart := false, narrowed := true }
def CostBytesUptoSaid : Prop := costBytesUptoRow.holds Try.pinned (OpenSpec.upto costBytesSpec)

/-- 'lexiphanelaw12.CostMost', WHERE WHAT IT READS IS OF BULK AT MOST 1048576: true; the input reads as it did. -/
def costMostUptoRow : OpenClaim := { program := "yticfnecibfofjaa", sum := "27f492477f92a97e52b275ceb597b0c172a0b2fed2a693b5c34be23981f86b46", func := "lexiphane/lexiphanelaw12.CostMost", spec := "costMost", apart := false, narrowed := true }
def CostMostUptoSaid : Prop := costMostUptoRow.holds Try.pinned (OpenSpec.upto costMostSpec)

end Rows
end Go.Proofs.Yticfnecibfofjaa
