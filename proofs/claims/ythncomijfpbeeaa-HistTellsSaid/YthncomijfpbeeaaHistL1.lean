/- Chapter 17: the first call, and what is refused. -/
import Derived.Test.YthncomijfpbeeaaHist
namespace Go.Proofs.Ythncomijfpbeeaa.Hist
set_option linter.unusedVariables false
set_option linter.unusedSimpArgs false
open Go.RowKit Go.Proofs.YthncomijfpbeeaaW.PrintWords Go.Proofs.YthncomijfpbeeaaW.PrintMore Go.Proofs.Ythncomijfpbeeaa.L Go.Proofs.Ythncomijfpbeeaa.Ints

set_option maxRecDepth 100000 in
set_option maxHeartbeats 1000000 in
theorem alive_any (w : World) : Calls Try.prog 13 #[] w fun e w' => e = .returned (.bool true) ∧ Below w.heap.size w w' := by
  have e1 := Lib.hid (show counted (List.replicate (3 : Int).toNat 0) [1, 1, 2] = [0, 2, 1] by decide +kernel)
  have e2 := Lib.hid (show good (3 : Int).toNat [1, 1, 2] by decide +kernel)
  have e3 := Lib.hid (show total [0, 2, 1] = 3 by decide +kernel)
  have e4 := Lib.hid (show used [0, 2, 1] = 2 by decide +kernel)
  go_enter Try.func13, Try.ntmps13
  go_wp2_with (fail)
  have hb0 := (Below.refl w.heap.size w).alloc (Nat.le_refl _) (.cells #[.int .i64 1, .int .i64 1, .int .i64 2] 3 (0, 0))
  refine (of_any _ _ _ _ [1, 1, 2] _ (lit_ints w 3 [1, 1, 2] (by decide)) (by decide) (by decide) (by decide)).mono ?_
  rintro e w1 ⟨hb1, ⟨_, v, rfl, hr⟩ | ⟨hg, _⟩⟩
  · rw [e1.out] at hr
    obtain ⟨A1, c1, rfl⟩ := Kd.R_slice hr
    obtain ⟨_, _, hc⟩ := Kd.R_reads' hr
    have HC := Lib.hid hc
    have HB := Lib.hid (bel_trans hb0 (by simp) hb1)
    clear hr hc hb0 hb1
    go_wp2_with (fail)
    refine (same_ints _ _ _ _ _ _ _ [0, 2, 1] _ (Kd.C_alloc HC.out _) (lit_ints w1 3 [0, 2, 1] (by decide))).mono ?_
    rintro e w2 ⟨rfl, q, hw2⟩
    rw [show (decide (([0, 2, 1] : List Int) = [0, 2, 1])) = true from by decide]
    have HC2 := Lib.hid (show KI.C w2 A1 3 [0, 2, 1] by rw [hw2]; exact Kd.C_drewN (Kd.C_alloc HC.out _) q)
    have HB2 := Lib.hid (show Below w.heap.size w w2 by rw [hw2]; exact below_drewN (HB.out.alloc HB.out.size _) q)
    clear hw2
    go_wp2_with (fail)
    refine (total_any _ _ _ _ _ HC2.out (by decide +kernel)).mono ?_
    rintro e w3 ⟨rfl, rfl⟩
    rw [e3.out]
    go_wp2_with (fail)
    refine (used_any _ _ _ _ _ HC2.out).mono ?_
    rintro e w3 ⟨rfl, rfl⟩
    rw [e4.out]
    go_wp2_with (fail)
    go_ret
    exact ⟨rfl, HB2.out⟩
  · exact absurd e2.out hg
end Go.Proofs.Ythncomijfpbeeaa.Hist
