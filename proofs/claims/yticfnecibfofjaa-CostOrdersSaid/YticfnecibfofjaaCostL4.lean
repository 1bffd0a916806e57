/- Chapter 12: costs are in an order: of two unlike ones one is less, and what is less than less is less. -/
import Derived.Test.YticfnecibfofjaaCostL3
namespace Go.Proofs.Yticfnecibfofjaa.Cost
set_option linter.unusedVariables false
set_option linter.unusedSimpArgs false
open Go.RowKit Go.Proofs.YticfnecibfofjaaW.PrintWords Go.Proofs.YticfnecibfofjaaW.PrintMore Go.Proofs.YticfnecibfofjaaW.PrintLast Go.Proofs.Yticfnecibfofjaa.L Go.Proofs.Yticfnecibfofjaa.Ints Go.Proofs.Yticfnecibfofjaa.Fl Go.Proofs.Yticfnecibfofjaa.VariSpec Go.Proofs.Yticfnecibfofjaa.PCostBytes

set_option maxRecDepth 100000 in
set_option maxHeartbeats 4000000 in
theorem CostOrders_walk (a b c d e f : Int) (w : World) (_ : (Lit.int .i64 a).wf = true) (_ : (Lit.int .i64 b).wf = true) (_ : (Lit.int .i64 c).wf = true) (_ : (Lit.int .i64 d).wf = true) (_ : (Lit.int .i64 e).wf = true) (_ : (Lit.int .i64 f).wf = true) :
    Calls Try.prog 9 #[.int .i64 a, .int .i64 b, .int .i64 c, .int .i64 d, .int .i64 e, .int .i64 f] w fun e w' => e = .returned (.bool true) ∧ Below w.heap.size w w' := by
  rename_i x1 x2 x3 x4 x5 x6
  clear x1 x2 x3 x4 x5 x6
  cases ha : inB a
  case false =>
    go_enter Try.func9, Try.ntmps9
    go_wp2_with (first | (go_at_call 28; refine (in_any _ _).mono ?_; rintro e w' ⟨rfl, rfl⟩) | (go_at_call 19; refine (alive_any _).mono ?_; rintro e w' ⟨rfl, hb⟩))
    go_ret
    exact ⟨rfl, hb⟩
  cases hb : inB b
  case false =>
    go_enter Try.func9, Try.ntmps9
    go_wp2_with (first | (go_at_call 28; refine (in_any _ _).mono ?_; rintro e w' ⟨rfl, rfl⟩) | (go_at_call 19; refine (alive_any _).mono ?_; rintro e w' ⟨rfl, hb⟩))
    go_ret
    exact ⟨rfl, hb⟩
  cases hc : inB c
  case false =>
    go_enter Try.func9, Try.ntmps9
    go_wp2_with (first | (go_at_call 28; refine (in_any _ _).mono ?_; rintro e w' ⟨rfl, rfl⟩) | (go_at_call 19; refine (alive_any _).mono ?_; rintro e w' ⟨rfl, hb⟩))
    go_ret
    exact ⟨rfl, hb⟩
  cases hd : inB d
  case false =>
    go_enter Try.func9, Try.ntmps9
    go_wp2_with (first | (go_at_call 28; refine (in_any _ _).mono ?_; rintro e w' ⟨rfl, rfl⟩) | (go_at_call 19; refine (alive_any _).mono ?_; rintro e w' ⟨rfl, hb⟩))
    go_ret
    exact ⟨rfl, hb⟩
  cases he : inB e
  case false =>
    go_enter Try.func9, Try.ntmps9
    go_wp2_with (first | (go_at_call 28; refine (in_any _ _).mono ?_; rintro e w' ⟨rfl, rfl⟩) | (go_at_call 19; refine (alive_any _).mono ?_; rintro e w' ⟨rfl, hb⟩))
    go_ret
    exact ⟨rfl, hb⟩
  cases hf : inB f
  case false =>
    go_enter Try.func9, Try.ntmps9
    go_wp2_with (first | (go_at_call 28; refine (in_any _ _).mono ?_; rintro e w' ⟨rfl, rfl⟩) | (go_at_call 19; refine (alive_any _).mono ?_; rintro e w' ⟨rfl, hb⟩))
    go_ret
    exact ⟨rfl, hb⟩
  exact CostOrders_in a b c d e f w ha hb hc hd he hf
end Go.Proofs.Yticfnecibfofjaa.Cost
