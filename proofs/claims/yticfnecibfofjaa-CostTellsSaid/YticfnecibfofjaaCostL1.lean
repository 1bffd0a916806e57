/- Chapter 12: a token's bits are eight for each byte of its number. -/
import Derived.Test.YticfnecibfofjaaCost
namespace Go.Proofs.Yticfnecibfofjaa.Cost
set_option linter.unusedVariables false
set_option linter.unusedSimpArgs false
open Go.RowKit Go.Proofs.YticfnecibfofjaaW.PrintWords Go.Proofs.YticfnecibfofjaaW.PrintMore Go.Proofs.YticfnecibfofjaaW.PrintLast Go.Proofs.Yticfnecibfofjaa.L Go.Proofs.Yticfnecibfofjaa.Ints Go.Proofs.Yticfnecibfofjaa.Fl Go.Proofs.Yticfnecibfofjaa.VariSpec Go.Proofs.Yticfnecibfofjaa.PCostBytes

theorem lit_fl : cx 1 16 = .complex .f64 4607182418800017408 4625196817309499392 ∧ cx 2 24 = .complex .f64 4611686018427387904 4627448617123184640 ∧ cx 2 8 = .complex .f64 4611686018427387904 4620693217682128896 := by
  have h1 : fl 1 = 4607182418800017408 := by decide +kernel
  have h2 : fl 2 = 4611686018427387904 := by decide +kernel
  have h8 : fl 8 = 4620693217682128896 := by decide +kernel
  have h16 : fl 16 = 4625196817309499392 := by decide +kernel
  have h24 : fl 24 = 4627448617123184640 := by decide +kernel
  unfold cx
  rw [h1, h2, h8, h16, h24]
  exact ⟨rfl, rfl, rfl⟩
theorem eqc {T B U C : Nat} (h1 : T < big) (h2 : B < big) (h3 : U < big) (h4 : C < big) : ((FloatKind.f64.format.order (fl T) (fl U) == some Ordering.eq) && (FloatKind.f64.format.order (fl B) (fl C) == some Ordering.eq)) = decide (T = U ∧ B = C) := by
  have e1 : (FloatKind.f64.format.order (fl T) (fl U) == some Ordering.eq) = decide (T = U) := eq_fl h1 h3
  have e2 : (FloatKind.f64.format.order (fl B) (fl C) == some Ordering.eq) = decide (B = C) := eq_fl h2 h4
  rw [e1, e2]
  simp
set_option maxRecDepth 100000 in
set_option maxHeartbeats 1000000 in
theorem alive_any (w : World) : Calls Try.prog 19 #[] w fun e w' => e = .returned (.bool true) ∧ Below w.heap.size w w' := by
  obtain ⟨l1, l2, l3⟩ := lit_fl
  go_enter Try.func19, Try.ntmps19
  go_wp2_with (fail)
  refine (of_any 300 _).mono ?_
  rintro e w1 ⟨rfl, hb1⟩
  have v300 : cT 300 = 1 ∧ 8 * vlen 300 = 16 := by decide +kernel
  have s300 : sumT [97, 300] = 2 ∧ sumB [97, 300] = 24 := by decide +kernel
  rw [v300.1, v300.2, l1]
  have HB1 := Lib.hid hb1
  clear hb1
  go_wp2_with (fail)
  refine (sum_any _ _ [97, 300] _ (lit_ints w1 3 [97, 300] (by decide)) (by decide)).mono ?_
  rintro e w2 ⟨rfl, hb2⟩
  rw [s300.1, s300.2, l2]
  have HB2 := Lib.hid (Ints.bel_trans ((HB1.out).alloc HB1.out.size _) (HB1.out.alloc HB1.out.size _).size hb2)
  clear hb2 HB1
  have m := most_any
  have b1 : (1 : Nat) < big := by decide
  have b2 : (2 : Nat) < big := by decide
  have b8 : (8 : Nat) < big := by decide
  have b16 : (16 : Nat) < big := by decide
  have b24 : (24 : Nat) < big := by decide
  go_wp2_with (fail)
  have hl := less_any 1 16 2 8 w2 b1 b16 b2 b8
  rw [l1, l3] at hl
  refine hl.mono ?_
  rintro e w3 ⟨rfl, rfl⟩
  rw [show lessB 1 16 2 8 = true from rfl]
  clear hl
  go_wp2_with (fail)
  have hl := tokens_any 2 24 w3 b2
  rw [l2] at hl
  refine hl.mono ?_
  rintro e w4 ⟨rfl, rfl⟩
  clear hl
  go_wp2_with (fail)
  have hl := bits_any 2 24 w4 b24
  rw [l2] at hl
  refine hl.mono ?_
  rintro e w5 ⟨rfl, rfl⟩
  clear hl
  go_wp2_with (fail)
  refine (most_any _).mono ?_
  rintro e w6 ⟨rfl, rfl⟩
  unfold cx
  rw [fl_most]
  go_wp2_with (fail)
  go_ret
  exact ⟨rfl, HB2.out⟩
set_option maxRecDepth 100000 in
set_option maxHeartbeats 1000000 in
theorem CostBytes_walk (t : Int) (w : World) (ht : (Lit.int .i64 t).wf = true) : Calls Try.prog 11 #[.int .i64 t] w fun e w' => e = .returned (.bool true) ∧ Below w.heap.size w w' := by
  have hv5 := vlen_le t
  obtain ⟨v, hv⟩ : ∃ v, vlen t = v := ⟨_, rfl⟩
  obtain ⟨T, hT⟩ : ∃ T, cT t = T := ⟨_, rfl⟩
  have hT1 : T = if v = 0 then 0 else 1 := by rw [← hT, ← hv]; rfl
  rw [hv] at hv5
  have HV := Lib.hid hv
  have HT := Lib.hid hT
  have b1 : T < big := by rw [hT1]; split <;> decide
  have hbg : big = 9007199254740992 := rfl
  have b2 : 8 * v < big := by omega
  have q1 := fun W => conv_fl b1 W
  have q2 := fun W => conv_fl b2 W
  have e1 : ((T : Int) == 1) = decide (0 < (v : Int)) := by
    by_cases h : v = 0
    · subst h; rw [hT1]; rfl
    · have h2 : (0 : Int) < (v : Int) := by omega
      rw [hT1, if_neg h, decide_eq_true h2]; rfl
  have n1 : floatOfInt .f64 (T : Int) = fl T := near_fl T
  have n2 : floatOfInt .f64 (8 * (v : Int)) = fl (8 * v) := near_fl (8 * v)
  have f1 : (FloatKind.f64.format.order (fl T) (fl T) == some Ordering.eq) = true := by
    have : (FloatKind.f64.format.order (fl T) (fl T) == some Ordering.eq) = decide (T = T) := eq_fl b1 b1
    rw [this]; simp
  have f2 : (FloatKind.f64.format.order (fl (8 * v)) (fl (8 * v)) == some Ordering.eq) = true := by
    have : (FloatKind.f64.format.order (fl (8 * v)) (fl (8 * v)) == some Ordering.eq) = decide (8 * v = 8 * v) := eq_fl b2 b2
    rw [this]; simp
  clear hv hT hT1 hbg
  go_enter Try.func11, Try.ntmps11
  go_wp2_with (fail)
  refine (alive_any _).mono ?_
  rintro e w1 ⟨rfl, hb1⟩
  have HB1 := Lib.hid hb1
  clear hb1
  go_wp2_with (fail)
  refine (of_any t _).mono ?_
  rintro e w2 ⟨rfl, hb2⟩
  rw [HV.out, HT.out]
  unfold cx
  have HB2 := Lib.hid (Ints.bel_trans HB1.out HB1.out.size hb2)
  clear hb2 HB1
  go_wp2_with (fail)
  refine (bits_any T (8 * v) _ b2).mono ?_
  rintro e w3 ⟨rfl, rfl⟩
  go_wp2_with (fail)
  refine (len_any t _).mono ?_
  rintro e w4 ⟨rfl, hb4⟩
  rw [HV.out]
  have HB4 := Lib.hid (Ints.bel_trans HB2.out HB2.out.size hb4)
  clear hb4 HB2
  go_wp2_with (fail)
  refine (tokens_any T (8 * v) _ b1).mono ?_
  rintro e w5 ⟨rfl, rfl⟩
  go_wp2_with (fail)
  refine (len_any t _).mono ?_
  rintro e w6 ⟨rfl, hb6⟩
  rw [HV.out]
  have HB6 := Lib.hid (Ints.bel_trans HB4.out HB4.out.size hb6)
  clear hb6 HB4
  go_wp2_with (fail)
  refine (tokens_any T (8 * v) _ b1).mono ?_
  rintro e w7 ⟨rfl, rfl⟩
  go_wp2_with (fail)
  refine (bits_any T (8 * v) _ b2).mono ?_
  rintro e w8 ⟨rfl, rfl⟩
  go_wp2_with (fail)
  go_ret
  exact ⟨rfl, HB6.out⟩
end Go.Proofs.Yticfnecibfofjaa.Cost
