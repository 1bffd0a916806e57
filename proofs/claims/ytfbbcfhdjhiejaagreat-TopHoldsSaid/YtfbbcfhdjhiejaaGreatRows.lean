/-
  No cell of these rows narrows 'for every input' (looked for: loops, veiled, ifaces, maps, wideKeys, modest, calm, conditions, laid).
  DERIVED. THE GIVEN ROWS OF THIS SEAT. 10 by the template 'for every input the law returns true; each argument reads behind the call as it read before'; 0 by the template 'total and deterministic' (their statements: YtfbbcfhdjhiejaaGreatTotals.lean).
  GIVEN WITH THE SEED: the statements are not yours to turn. If you find one false, say at which input.
  Laid BY PROGRAM, IN A SANDBOX (cutbox-rows.mjs): the forced cells as the released guide's own fill.sh prints them over the translation 9b336c61365a8ac4… (all of the seat's roots in one cut). By AI agents, Wed Nov 11 2026. No macro, syntax, notation, axiom, sorry.
-/
import Derived.Test.YtfbbcfhdjhiejaaGreatChecked
import GoSem.Claim
import GoSem.ClaimJoined
import GoSem.ClaimMapViews
import Derived.JoinedTies
import Derived.KernelRfl
namespace Go.Proofs.YtfbbcfhdjhiejaaGreat
/- THE CELL 'sum', in the pinned program and in every row, IS THE sha256 OF THE DUMP (.gsa) THAT YtfbbcfhdjhiejaaGreatProg.lean LOADS. Nothing in Lean hashes anything: it is a label: what it is worth is what the hold of that sum in a sandbox is worth. -/
noncomputable def Tryz.pinned : Pinned := { name := "ytfbbcfhdjhiejaagreat", sum := "9b336c61365a8ac41e8787ff298989bf214e08a70c7bfd6a62cd7935c6ee1c4c", checked := Tryz.checked }
namespace Rows
def none {H : Type} : Left H := { results := [], args := [] }

/-- 'lexiphanetop.TopBack': WHATEVER THE INPUT: true; the input reads as it did. -/
def topBackSpec : ChangeSpec := { name := "topBack", fn := fun _ => fun
  | [d1, d2, d3, d4] => { results := [.lit (.bool true)], args := [d1, d2, d3, d4] }
  | _ => none }
def topBackRow : OpenClaim := { program := "ytfbbcfhdjhiejaagreat", sum := "9b336c61365a8ac41e8787ff298989bf214e08a70c7bfd6a62cd7935c6ee1c4c", func := "lexiphane/lexiphanetop.TopBack", spec := "topBack", unfollowed := true, recurses := true, apart := false }
def TopBackSaid : Prop := topBackRow.holds Tryz.pinned (OpenSpec.ofChange topBackSpec)

/-- ITS FALSE NEIGHBOUR: 'it returns false'. Refute it at one input. -/
def topBackWrong : ChangeSpec := { name := "topBack", fn := fun _ => fun
  | [d1, d2, d3, d4] => { results := [.lit (.bool false)], args := [d1, d2, d3, d4] }
  | _ => none }
def TopBackWrongFalsely : Prop := topBackRow.holds Tryz.pinned (OpenSpec.ofChange topBackWrong)

/-- 'lexiphanetop.TopOnly': WHATEVER THE INPUT: true; the input reads as it did. -/
def topOnlySpec : ChangeSpec := { name := "topOnly", fn := fun _ => fun
  | [d1, d2, d3, d4] => { results := [.lit (.bool true)], args := [d1, d2, d3, d4] }
  | _ => none }
def topOnlyRow : OpenClaim := { program := "ytfbbcfhdjhiejaagreat", sum := "9b336c61365a8ac41e8787ff298989bf214e08a70c7bfd6a62cd7935c6ee1c4c", func := "lexiphane/lexiphanetop.TopOnly", spec := "topOnly", unfollowed := true, recurses := true, apart := false }
def TopOnlySaid : Prop := topOnlyRow.holds Tryz.pinned (OpenSpec.ofChange topOnlySpec)

/-- ITS FALSE NEIGHBOUR: 'it returns false'. Refute it at one input. -/
def topOnlyWrong : ChangeSpec := { name := "topOnly", fn := fun _ => fun
  | [d1, d2, d3, d4] => { results := [.lit (.bool false)], args := [d1, d2, d3, d4] }
  | _ => none }
def TopOnlyWrongFalsely : Prop := topOnlyRow.holds Tryz.pinned (OpenSpec.ofChange topOnlyWrong)

/-- 'lexiphanetop.TopTurned': WHATEVER THE INPUT: true; the input reads as it did. -/
def topTurnedSpec : ChangeSpec := { name := "topTurned", fn := fun _ => fun
  | [d1, d2, d3, d4, d5, d6] => { results := [.lit (.bool true)], args := [d1, d2, d3, d4, d5, d6] }
  | _ => none }
def topTurnedRow : OpenClaim := { program := "ytfbbcfhdjhiejaagreat", sum := "9b336c61365a8ac41e8787ff298989bf214e08a70c7bfd6a62cd7935c6ee1c4c", func := "lexiphane/lexiphanetop.TopTurned", spec := "topTurned", unfollowed := true, recurses := true, apart := false }
def TopTurnedSaid : Prop := topTurnedRow.holds Tryz.pinned (OpenSpec.ofChange topTurnedSpec)

/-- ITS FALSE NEIGHBOUR: 'it returns false'. Refute it at one input. -/
def topTurnedWrong : ChangeSpec := { name := "topTurned", fn := fun _ => fun
  | [d1, d2, d3, d4, d5, d6] => { results := [.lit (.bool false)], args := [d1, d2, d3, d4, d5, d6] }
  | _ => none }
def TopTurnedWrongFalsely : Prop := topTurnedRow.holds Tryz.pinned (OpenSpec.ofChange topTurnedWrong)

/-- 'lexiphanetop.TopBest': WHATEVER THE INPUT: true; the input reads as it did. -/
def topBestSpec : ChangeSpec := { name := "topBest", fn := fun _ => fun
  | [d1, d2, d3] => { results := [.lit (.bool true)], args := [d1, d2, d3] }
  | _ => none }
def topBestRow : OpenClaim := { program := "ytfbbcfhdjhiejaagreat", sum := "9b336c61365a8ac41e8787ff298989bf214e08a70c7bfd6a62cd7935c6ee1c4c", func := "lexiphane/lexiphanetop.TopBest", spec := "topBest", unfollowed := true, recurses := true, apart := false }
def TopBestSaid : Prop := topBestRow.holds Tryz.pinned (OpenSpec.ofChange topBestSpec)

/-- ITS FALSE NEIGHBOUR: 'it returns false'. Refute it at one input. -/
def topBestWrong : ChangeSpec := { name := "topBest", fn := fun _ => fun
  | [d1, d2, d3] => { results := [.lit (.bool false)], args := [d1, d2, d3] }
  | _ => none }
def TopBestWrongFalsely : Prop := topBestRow.holds Tryz.pinned (OpenSpec.ofChange topBestWrong)

/-- 'lexiphanetop.TopSame': WHATEVER THE INPUT: true; the input reads as it did. -/
def topSameSpec : ChangeSpec := { name := "topSame", fn := fun _ => fun
  | [d1, d2, d3, d4, d5, d6] => { results := [.lit (.bool true)], args := [d1, d2, d3, d4, d5, d6] }
  | _ => none }
def topSameRow : OpenClaim := { program := "ytfbbcfhdjhiejaagreat", sum := "9b336c61365a8ac41e8787ff298989bf214e08a70c7bfd6a62cd7935c6ee1c4c", func := "lexiphane/lexiphanetop.TopSame", spec := "topSame", unfollowed := true, recurses := true, apart := false }
def TopSameSaid : Prop := topSameRow.holds Tryz.pinned (OpenSpec.ofChange topSameSpec)

/-- ITS FALSE NEIGHBOUR: 'it returns false'. Refute it at one input. -/
def topSameWrong : ChangeSpec := { name := "topSame", fn := fun _ => fun
  | [d1, d2, d3, d4, d5, d6] => { results := [.lit (.bool false)], args := [d1, d2, d3, d4, d5, d6] }
  | _ => none }
def TopSameWrongFalsely : Prop := topSameRow.holds Tryz.pinned (OpenSpec.ofChange topSameWrong)

/-- 'lexiphanetop.TopShort': WHATEVER THE INPUT: true; the input reads as it did. -/
def topShortSpec : ChangeSpec := { name := "topShort", fn := fun _ => fun
  | [d1, d2, d3] => { results := [.lit (.bool true)], args := [d1, d2, d3] }
  | _ => none }
def topShortRow : OpenClaim := { program := "ytfbbcfhdjhiejaagreat", sum := "9b336c61365a8ac41e8787ff298989bf214e08a70c7bfd6a62cd7935c6ee1c4c", func := "lexiphane/lexiphanetop.TopShort", spec := "topShort", unfollowed := true, recurses := true, apart := false }
def TopShortSaid : Prop := topShortRow.holds Tryz.pinned (OpenSpec.ofChange topShortSpec)

/-- ITS FALSE NEIGHBOUR: 'it returns false'. Refute it at one input. -/
def topShortWrong : ChangeSpec := { name := "topShort", fn := fun _ => fun
  | [d1, d2, d3] => { results := [.lit (.bool false)], args := [d1, d2, d3] }
  | _ => none }
def TopShortWrongFalsely : Prop := topShortRow.holds Tryz.pinned (OpenSpec.ofChange topShortWrong)

/-- 'lexiphanetop.TopWrong': WHATEVER THE INPUT: true; the input reads as it did. -/
def topWrongSpec : ChangeSpec := { name := "topWrong", fn := fun _ => fun
  | [d1, d2, d3, d4, d5] => { results := [.lit (.bool true)], args := [d1, d2, d3, d4, d5] }
  | _ => none }
def topWrongRow : OpenClaim := { program := "ytfbbcfhdjhiejaagreat", sum := "9b336c61365a8ac41e8787ff298989bf214e08a70c7bfd6a62cd7935c6ee1c4c", func := "lexiphane/lexiphanetop.TopWrong", spec := "topWrong", unfollowed := true, recurses := true, apart := false }
def TopWrongSaid : Prop := topWrongRow.holds Tryz.pinned (OpenSpec.ofChange topWrongSpec)

/-- ITS FALSE NEIGHBOUR: 'it returns false'. Refute it at one input. -/
def topWrongWrong : ChangeSpec := { name := "topWrong", fn := fun _ => fun
  | [d1, d2, d3, d4, d5] => { results := [.lit (.bool false)], args := [d1, d2, d3, d4, d5] }
  | _ => none }
def TopWrongWrongFalsely : Prop := topWrongRow.holds Tryz.pinned (OpenSpec.ofChange topWrongWrong)

/-- 'lexiphanetop.TopHolds': WHATEVER THE INPUT: true; the input reads as it did. -/
def topHoldsSpec : ChangeSpec := { name := "topHolds", fn := fun _ => fun
  | [d1, d2, d3, d4] => { results := [.lit (.bool true)], args := [d1, d2, d3, d4] }
  | _ => none }
def topHoldsRow : OpenClaim := { program := "ytfbbcfhdjhiejaagreat", sum := "9b336c61365a8ac41e8787ff298989bf214e08a70c7bfd6a62cd7935c6ee1c4c", func := "lexiphane/lexiphanetop.TopHolds", spec := "topHolds", unfollowed := true, recurses := true, apart := false }
def TopHoldsSaid : Prop := topHoldsRow.holds Tryz.pinned (OpenSpec.ofChange topHoldsSpec)

/-- ITS FALSE NEIGHBOUR: 'it returns false'. Refute it at one input. -/
def topHoldsWrong : ChangeSpec := { name := "topHolds", fn := fun _ => fun
  | [d1, d2, d3, d4] => { results := [.lit (.bool false)], args := [d1, d2, d3, d4] }
  | _ => none }
def TopHoldsWrongFalsely : Prop := topHoldsRow.holds Tryz.pinned (OpenSpec.ofChange topHoldsWrong)

/-- 'lexiphanetop.TopCodes': WHATEVER THE INPUT: true; the input reads as it did. -/
def topCodesSpec : ChangeSpec := { name := "topCodes", fn := fun _ => fun
  | [d1, d2, d3] => { results := [.lit (.bool true)], args := [d1, d2, d3] }
  | _ => none }
def topCodesRow : OpenClaim := { program := "ytfbbcfhdjhiejaagreat", sum := "9b336c61365a8ac41e8787ff298989bf214e08a70c7bfd6a62cd7935c6ee1c4c", func := "lexiphane/lexiphanetop.TopCodes", spec := "topCodes", unfollowed := true, recurses := true, apart := false }
def TopCodesSaid : Prop := topCodesRow.holds Tryz.pinned (OpenSpec.ofChange topCodesSpec)

/-- ITS FALSE NEIGHBOUR: 'it returns false'. Refute it at one input. -/
def topCodesWrong : ChangeSpec := { name := "topCodes", fn := fun _ => fun
  | [d1, d2, d3] => { results := [.lit (.bool false)], args := [d1, d2, d3] }
  | _ => none }
def TopCodesWrongFalsely : Prop := topCodesRow.holds Tryz.pinned (OpenSpec.ofChange topCodesWrong)

/-- 'lexiphanetop.TopTwins': WHATEVER THE INPUT: true; the input reads as it did. -/
def topTwinsSpec : ChangeSpec := { name := "topTwins", fn := fun _ => fun
  | [d1, d2, d3] => { results := [.lit (.bool true)], args := [d1, d2, d3] }
  | _ => none }
def topTwinsRow : OpenClaim := { program := "ytfbbcfhdjhiejaagreat", sum := "9b336c61365a8ac41e8787ff298989bf214e08a70c7bfd6a62cd7935c6ee1c4c", func := "lexiphane/lexiphanetop.TopTwins", spec := "topTwins", unfollowed := true, recurses := true, apart := false }
def TopTwinsSaid : Prop := topTwinsRow.holds Tryz.pinned (OpenSpec.ofChange topTwinsSpec)

/-- ITS FALSE NEIGHBOUR: 'it returns false'. Refute it at one input. -/
def topTwinsWrong : ChangeSpec := { name := "topTwins", fn := fun _ => fun
  | [d1, d2, d3] => { results := [.lit (.bool false)], args := [d1, d2, d3] }
  | _ => none }
def TopTwinsWrongFalsely : Prop := topTwinsRow.holds Tryz.pinned (OpenSpec.ofChange topTwinsWrong)

/- THE SECOND FORM. 'bulk': how many values and letters a reading holds, each counted each time it is reached (what is shared counts as often as it is met; a slice's spare places count too). A statement '..UptoSaid' is the law's where the arguments, and the package variables that the reading takes, are together of bulk at most 1048576: NARROWER than '..Said'. Prove '..Said' where nothing that the law and all that it calls make is longer than what came in: it says more and counts as full. Else prove '..UptoSaid'. A law counts once. -/
mutual
def uptoBulk {H : Type} : DataW H → Nat
  | .lit (.string bytes) => bytes.length + 1
  | .lit _ => 1
  | .nil => 1
  | .ptr d => uptoBulk d + 1
  | .slice elems spare => uptoBulkAll elems + uptoBulkAll spare + 1
  | .agg parts => uptoBulkAll parts + 1
  | .iface _ d => uptoBulk d + 1
  | .map entries => uptoBulkEntries entries + 1
  | .held _ => 1
def uptoBulkAll {H : Type} : List (DataW H) → Nat
  | [] => 0
  | d :: r => uptoBulk d + uptoBulkAll r
def uptoBulkEntries {H : Type} : List (Lit × DataW H) → Nat
  | [] => 0
  | x :: r => uptoBulkEntry x + uptoBulkEntries r
def uptoBulkEntry {H : Type} : Lit × DataW H → Nat
  | (.string bytes, d) => bytes.length + uptoBulk d + 1
  | (_, d) => uptoBulk d + 1
 end
def uptoSmall : (H : Type) → List (DataW H) → Bool := fun _ ds => decide (uptoBulkAll ds ≤ 1048576)
def OpenSpec.upto (s : _root_.Go.ChangeSpec) : _root_.Go.OpenSpec := { _root_.Go.OpenSpec.ofChange s with cond := some uptoSmall }

/-- 'lexiphanetop.TopBack', WHERE WHAT IT READS IS OF BULK AT MOST 1048576: true; the input reads as it did. -/
def topBackUptoRow : OpenClaim := { program := "ytfbbcfhdjhiejaagreat", sum := "9b336c61365a8ac41e8787ff298989bf214e08a70c7bfd6a62cd7935c6ee1c4c", func := "lexiphane/lexiphanetop.TopBack", spec := "topBack", unfollowed := true, recurses := true, apart := false, narrowed := true }
def TopBackUptoSaid : Prop := topBackUptoRow.holds Tryz.pinned (OpenSpec.upto topBackSpec)

/-- 'lexiphanetop.TopOnly', WHERE WHAT IT READS IS OF BULK AT MOST 1048576: true; the input reads as it did. -/
def topOnlyUptoRow : OpenClaim := { program := "ytfbbcfhdjhiejaagreat", sum := "9b336c61365a8ac41e8787ff298989bf214e08a70c7bfd6a62cd7935c6ee1c4c", func := "lexiphane/lexiphanetop.TopOnly", spec := "topOnly", unfollowed := true, recurses := true, apart := false, narrowed := true }
def TopOnlyUptoSaid : Prop := topOnlyUptoRow.holds Tryz.pinned (OpenSpec.upto topOnlySpec)

/-- 'lexiphanetop.TopTurned', WHERE WHAT IT READS IS OF BULK AT MOST 1048576: true; the input reads as it did. -/
def topTurnedUptoRow : OpenClaim := { program := "ytfbbcfhdjhiejaagreat", sum := "9b336c61365a8ac41e8787ff298989bf214e08a70c7bfd6a62cd7935c6ee1c4c", func := "lexiphane/lexiphanetop.TopTurned", spec := "topTurned", unfollowed := true, recurses := true, apart := false, narrowed := true }
def TopTurnedUptoSaid : Prop := topTurnedUptoRow.holds Tryz.pinned (OpenSpec.upto topTurnedSpec)

/-- 'lexiphanetop.TopBest', WHERE WHAT IT READS IS OF BULK AT MOST 1048576: true; the input reads as it did. -/
def topBestUptoRow : OpenClaim := { program := "ytfbbcfhdjhiejaagreat", sum := "9b336c61365a8ac41e8787ff298989bf214e08a70c7bfd6a62cd7935c6ee1c4c", func := "lexiphane/lexiphanetop.TopBest", spec := "topBest", unfollowed := true, recurses := true, apart := false, narrowed := true }
def TopBestUptoSaid : Prop := topBestUptoRow.holds Tryz.pinned (OpenSpec.upto topBestSpec)

/-- 'lexiphanetop.TopSame', WHERE WHAT IT READS IS OF BULK AT MOST 1048576: true; the input reads as it did. -/
def topSameUptoRow : OpenClaim := { program := "ytfbbcfhdjhiejaagreat", sum := "9b336c61365a8ac41e8787ff298989bf214e08a70c7bfd6a62cd7935c6ee1c4c", func := "lexiphane/lexiphanetop.TopSame", spec := "topSame", unfollowed := true, recurses := true, apart := false, narrowed := true }
def TopSameUptoSaid : Prop := topSameUptoRow.holds Tryz.pinned (OpenSpec.upto topSameSpec)

/-- 'lexiphanetop.TopShort', WHERE WHAT IT READS IS OF BULK AT MOST 1048576: true; the input reads as it did. -/
def topShortUptoRow : OpenClaim := { program := "ytfbbcfhdjhiejaagreat", sum := "9b336c61365a8ac41e8787ff298989bf214e08a70c7bfd6a62cd7935c6ee1c4c", func := "lexiphane/lexiphanetop.TopShort", spec := "topShort", unfollowed := true, recurses := true, apart := false, narrowed := true }
def TopShortUptoSaid : Prop := topShortUptoRow.holds Tryz.pinned (OpenSpec.upto topShortSpec)

/-- 'lexiphanetop.TopWrong', WHERE WHAT IT READS IS OF BULK AT MOST 1048576: true; the input reads as it did. -/
def topWrongUptoRow : OpenClaim := { program := "ytfbbcfhdjhiejaagreat", sum := "9b336c61365a8ac41e8787ff298989bf214e08a70c7bfd6a62cd7935c6ee1c4c", func := "lexiphane/lexiphanetop.TopWrong", spec := "topWrong", unfollowed := true, recurses := true, apart := false, narrowed := true }
def TopWrongUptoSaid : Prop := topWrongUptoRow.holds Tryz.pinned (OpenSpec.upto topWrongSpec)

/-- 'lexiphanetop.TopHolds', WHERE WHAT IT READS IS OF BULK AT MOST 1048576: true; the input reads as it did. -/
def topHoldsUptoRow : OpenClaim := { program := "ytfbbcfhdjhiejaagreat", sum := "9b336c61365a8ac41e8787ff298989bf214e08a70c7bfd6a62cd7935c6ee1c4c", func := "lexiphane/lexiphanetop.TopHolds", spec := "topHolds", unfollowed := true, recurses := true, apart := false, narrowed := true }
def TopHoldsUptoSaid : Prop := topHoldsUptoRow.holds Tryz.pinned (OpenSpec.upto topHoldsSpec)

/-- 'lexiphanetop.TopCodes', WHERE WHAT IT READS IS OF BULK AT MOST 1048576: true; the input reads as it did. -/
def topCodesUptoRow : OpenClaim := { program := "ytfbbcfhdjhiejaagreat", sum := "9b336c61365a8ac41e8787ff298989bf214e08a70c7bfd6a62cd7935c6ee1c4c", func := "lexiphane/lexiphanetop.TopCodes", spec := "topCodes", unfollowed := true, recurses := true, apart := false, narrowed := true }
def TopCodesUptoSaid : Prop := topCodesUptoRow.holds Tryz.pinned (OpenSpec.upto topCodesSpec)

/-- 'lexiphanetop.TopTwins', WHERE WHAT IT READS IS OF BULK AT MOST 1048576: true; the input reads as it did. -/
def topTwinsUptoRow : OpenClaim := { program := "ytfbbcfhdjhiejaagreat", sum := "9b336c61365a8ac41e8787ff298989bf214e08a70c7bfd6a62cd7935c6ee1c4c", func := "lexiphane/lexiphanetop.TopTwins", spec := "topTwins", unfollowed := true, recurses := true, apart := false, narrowed := true }
def TopTwinsUptoSaid : Prop := topTwinsUptoRow.holds Tryz.pinned (OpenSpec.upto topTwinsSpec)

end Rows
end Go.Proofs.YtfbbcfhdjhiejaaGreat
