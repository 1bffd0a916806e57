/- Lists of whole numbers: the library's copy, the book's comparison. -/
import Derived.Test.YticfnecibfofjaaProg
import Derived.Test.YticfnecibfofjaaLib
import Derived.Deep.DeepFit
import Derived.Outline
import Derived.BigRegion
import Derived.Lib.SliceRun
import Derived.Deep.AppendLies
namespace Go.Proofs.Yticfnecibfofjaa.Ints
set_option linter.unusedVariables false
set_option linter.unusedSimpArgs false
open Go.RowKit Go.Proofs.YticfnecibfofjaaW.PrintWords Go.Proofs.YticfnecibfofjaaW.PrintMore Go.Proofs.Yticfnecibfofjaa.L

abbrev KI : Kd Int := Kd.int .i64
theorem infoInt : (Try.prog.info? 3).map (fun i => (i.zero, i.size, i.bytes)) = some (some (.int .i64 0), 1, 8) := by kernel_rfl
theorem ints_at {w : World} {A : Option Addr} {n : Nat} {xs : List Int} (h : KI.C w A n xs) (i : Nat) (hi : i < n) :
    ∃ ad, A = some ad ∧ w.cell? (ad.add i) = some (.int .i64 (xs.getD i 0)) := by
  obtain ⟨ad, e, hc⟩ := Kd.at_int h (i : Int) (by omega) (by omega)
  rw [Int.toNat_natCast] at hc
  exact ⟨ad, e, by simpa [rd] using hc⟩
theorem ki_len {w : World} {A : Option Addr} {n : Nat} {xs : List Int} (h : KI.C w A n xs) : n = xs.length := (Kd.C_len h).symm
theorem take_succ_getD (l : List Int) (k : Nat) (h : k < l.length) : l.take (k + 1) = l.take k ++ [l.getD k 0] := by
  rw [List.take_succ_eq_append_getElem h]
  simp [List.getD_eq_getElem?_getD, List.getElem?_eq_getElem h]
theorem ki_drewN {w : World} {A : Option Addr} {n : Nat} {xs : List Int} (h : KI.C w A n xs) (q : Nat) : KI.C (w.drewN q) A n xs := Kd.C_drewN h q

/-- A row that was just laid out. -/
theorem lit_ints (w : World) (e : Nat) (l : List Int) (hm : l.length ≤ 9223372036854775807) : KI.C (w.alloc (.cells (l.map (Value.int .i64)).toArray e (0, 0))) (some ⟨w.heap.size, 0, none⟩) l.length l := by
  refine Kd.C_of_reads (d := (0 : Int)) (h1 := fun _ => rfl) ⟨rfl, hm, fun _ => ⟨_, rfl, fun j hj => ?_⟩⟩
  refine World.news_of_block (heap_alloc_self w _) j _ ?_
  simp [List.getD_eq_getElem?_getD, List.getElem?_eq_getElem hj]
theorem bel_trans {B : Nat} {w w1 w2 : World} (h : Below B w w1) (hB : B ≤ w1.heap.size) (h2 : Below w1.heap.size w1 w2) : Below B w w2 :=
  h.trans ⟨h2.os, h2.tape, h2.output, h2.size, fun k hk => h2.block k (by omega)⟩

/-! ### slices.Clone -/

/-! ### SameInts -/
end Go.Proofs.Yticfnecibfofjaa.Ints
