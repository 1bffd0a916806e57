/- Chapter 12: costs are added part by part; one token more always costs more. -/
import Derived.Test.YticfnecibfofjaaCostL1
namespace Go.Proofs.Yticfnecibfofjaa.Cost
set_option linter.unusedVariables false
set_option linter.unusedSimpArgs false
open Go.RowKit Go.Proofs.YticfnecibfofjaaW.PrintWords Go.Proofs.YticfnecibfofjaaW.PrintMore Go.Proofs.YticfnecibfofjaaW.PrintLast Go.Proofs.Yticfnecibfofjaa.L Go.Proofs.Yticfnecibfofjaa.Ints Go.Proofs.Yticfnecibfofjaa.Fl Go.Proofs.Yticfnecibfofjaa.VariSpec Go.Proofs.Yticfnecibfofjaa.PCostBytes

theorem eq_self {a : Nat} (h : a < big) : (FloatKind.f64.format.order (fl a) (fl a) == some Ordering.eq) = true := by
  have : (FloatKind.f64.format.order (fl a) (fl a) == some Ordering.eq) = decide (a = a) := eq_fl h h
  rw [this]; simp
theorem eq_zero {a : Nat} (h : a < big) : (FloatKind.f64.format.order (fl a) 0 == some Ordering.eq) = decide (a = 0) := by
  have : (FloatKind.f64.format.order (fl a) (fl 0) == some Ordering.eq) = decide (a = 0) := eq_fl h (by decide)
  rw [fl_zero] at this
  exact this
set_option maxRecDepth 100000 in
set_option maxHeartbeats 4000000 in
theorem CostAdds_walk (A : Option Addr) (l : List Int) (c : Nat) (t : Int) (w : World) (hl : KI.C w A l.length l) (hlc : l.length ≤ c) (h8 : l.length * 8 ≤ 140737488351232) (hlw : ∀ x ∈ l, (Lit.int .i64 x).wf = true) (htw : (Lit.int .i64 t).wf = true) :
    Calls Try.prog 10 #[.slice A l.length c, .int .i64 t] w fun e w' => e = .returned (.bool true) ∧ Below w.heap.size w w' := by
  have HL := Lib.hid hl
  clear hl hlw htw
  by_cases h1000 : l.length ≤ 1000
  · have h1i : (l.length : Int) ≤ 1000 := by omega
    have hv5 := vlen_le t
    have hvp := vlen_pos t
    obtain ⟨v, hv⟩ : ∃ v, vlen t = v := ⟨_, rfl⟩
    obtain ⟨T, hT⟩ : ∃ T, cT t = T := ⟨_, rfl⟩
    have hT1 : T = if v = 0 then 0 else 1 := by rw [← hT, ← hv]; rfl
    have sT := sumT_snoc l t
    have sB := sumB_snoc l t
    have lT := sumT_le l
    have lB := sumB_le l
    rw [hv] at hv5 hvp sB
    rw [hT] at sT
    obtain ⟨P, hP⟩ : ∃ P, sumT l = P := ⟨_, rfl⟩
    obtain ⟨Q, hQ⟩ : ∃ Q, sumB l = Q := ⟨_, rfl⟩
    rw [hP] at sT lT
    rw [hQ] at sB lB
    have hT2 : T ≤ 1 := by rw [hT1]; split <;> omega
    have hbg : big = 9007199254740992 := rfl
    have bT : T < big := by omega
    have bV : 8 * v < big := by omega
    have bP : P < big := by omega
    have bQ : Q < big := by omega
    have bPT : P + T < big := by omega
    have bQV : Q + 8 * v < big := by omega
    have cP : (P : Int) ≤ 1000 := by omega
    have cQ : (Q : Int) ≤ 40000 := by omega
    have cT : (T : Int) ≤ 1 := by omega
    obtain ⟨V, hV8⟩ : ∃ V, 8 * v = V := ⟨_, rfl⟩
    have cV : (V : Int) ≤ 40 := by omega
    obtain ⟨X, hX⟩ : ∃ X, P + T = X := ⟨_, rfl⟩
    obtain ⟨Y, hY⟩ : ∃ Y, Q + V = Y := ⟨_, rfl⟩
    have ad := fun W => addc_fl bPT bQV W
    rw [hV8] at bV bQV sB ad
    rw [hX] at bPT sT ad
    rw [hY] at bQV sB ad
    have AD := Lib.hid ad
    have HV8 := Lib.hid hV8
    have HX := Lib.hid hX
    have HY := Lib.hid hY
    clear ad hV8 hX hY
    have HV := Lib.hid hv
    have HT := Lib.hid hT
    have HP := Lib.hid hP
    have HQ := Lib.hid hQ
    have ST := Lib.hid sT
    have SB := Lib.hid sB
    have HT1 := Lib.hid hT1
    have HVP := Lib.hid hvp
    clear hv hT hP hQ sT sB hT1 hvp hbg lT lB
    go_enter Try.func10, Try.ntmps10
    go_wp2_with (fail)
    refine (alive_any _).mono ?_
    rintro e w1 ⟨rfl, hb1⟩
    have HB1 := Lib.hid hb1
    have HL1 := Lib.hid (Kd.C_below HL.out hb1)
    clear hb1
    go_wp2_with (fail)
    refine (sum_any _ _ l _ HL1.out (by omega)).mono ?_
    rintro e w2 ⟨rfl, hb2⟩
    rw [HP.out, HQ.out]
    have HB2 := Lib.hid (Ints.bel_trans HB1.out HB1.out.size hb2)
    have HL2 := Lib.hid (Kd.C_below HL1.out hb2)
    clear hb2 HB1 HL1
    go_wp2_with (fail)
    refine (of_any t _).mono ?_
    rintro e w3 ⟨rfl, hb3⟩
    rw [HV.out, HT.out, HV8.out]
    have HB3 := Lib.hid (Ints.bel_trans HB2.out HB2.out.size hb3)
    have HL3 := Lib.hid (Kd.C_below HL2.out hb3)
    clear hb3 HB2 HL2
    unfold cx
    go_wp2_with (((with_reducible refine gate_builtin (b := .append) (xs := #[.const (.slice none 0 0), .tmp 21]) rfl ?_); at_builtin; apply stopper))
    unfold Stopper
    refine Kd.R_append_row (Value.int .i64) 0 (h1 := fun _ => rfl) (w0 := w3) w3.heap.size rfl (.const (.slice none 0 0)) (.tmp 21) 34 3 (.int .i64 0) 8 rfl Try.underlying34 infoInt rfl (by decide) (.slice none 0 0) [] l A l.length c (fun _ => True) rfl rfl (fun _ _ => trivial) (Kd.R_nil _ _ _ _ _) HL3.out (Below.refl _ _) (Nat.le_refl _) (by simp; omega) ?_
    intro v4 w4 hr4 hb4 hg4 hat4
    rw [List.nil_append] at hr4
    have HR4 := Lib.hid hr4
    have HB4 := Lib.hid hb4
    clear hr4 hb4 hg4 hat4
    go_wp2_with (((with_reducible refine gate_builtin (b := .append) (xs := #[.tmp 22, .tmp 24]) rfl ?_); at_builtin; apply stopper))
    unfold Stopper
    refine Kd.R_append KI (w0 := w3) w3.heap.size rfl (.tmp 22) (.tmp 24) 34 3 (.int .i64 0) 8 rfl Try.underlying34 infoInt rfl (by decide) (by omega) v4 l t [.int .i64 t] (fun _ => True) (fun _ => False) rfl rfl ?aP (fun _ hk => hk.elim) (fun _ _ => trivial) HR4.out HB4.out HB4.out.size (by omega) ?_
    case aP => exact rfl
    intro v5 w5 hr5 hb5 hg5 hat5
    have hlen : (l ++ [t]).length ≤ 1000000 := by rw [List.length_append, List.length_singleton]; omega
    have st := ST.out
    have sb := SB.out
    generalize l ++ [t] = M at hr5 hlen st sb
    obtain ⟨A5, c5, rfl⟩ := Kd.R_slice hr5
    have SM := Lib.hid st
    have BM := Lib.hid sb
    have HC5 := Lib.hid (Kd.R_reads' hr5).2.2
    have HB5 := Lib.hid (Ints.bel_trans HB3.out HB3.out.size hb5)
    clear hr5 hb5 hg5 hat5 HR4 HB4 HB3 HL3 st sb ST SB
    go_wp2_with (fail)
    refine (sum_any _ _ M _ HC5.out hlen).mono ?_
    rintro e w6 ⟨rfl, hb6⟩
    rw [SM.out, BM.out]
    have HB6 := Lib.hid (Ints.bel_trans HB5.out HB5.out.size hb6)
    clear hb6 HB5 HC5
    unfold cx
    have ad := AD.out
    have f1 := eq_self bPT
    have f2 := eq_self bQV
    have z1 := eq_zero bT
    have z2 := eq_zero bV
    have g1 : ((X : Int) == (P : Int) + (T : Int)) = true := by
      rw [show (X : Int) = (P : Int) + (T : Int) by have := HX.out; omega]
      simp
    have g2 : ((Y : Int) == (Q : Int) + (V : Int)) = true := by
      rw [show (Y : Int) = (Q : Int) + (V : Int) by have := HY.out; omega]
      simp
    have hx := HX.out
    have hy := HY.out
    have hv8 := HV8.out
    by_cases hm : 0 ≤ t ∧ t ≤ 4294967295
    case' pos =>
      obtain ⟨m0, m1⟩ := hm
      have hvpos := HVP.out.2 ⟨m0, m1⟩
      have ht1 : T = 1 := by rw [HT1.out, if_neg (by omega)]
      rw [decide_eq_false (show ¬ T = 0 by omega)] at z1
      have L1 := Lib.hid (show lessB P Q X Y = true by unfold lessB; rw [if_neg (by omega)]; exact decide_eq_true (by omega))
      have L2 := Lib.hid (show lessB X Y P Q = false by unfold lessB; rw [if_neg (by omega)]; exact decide_eq_false (by omega))
      clear ht1 hvpos hx hy hv8
    case' neg =>
      have hv0 : v = 0 := by
        rcases Nat.eq_zero_or_pos v with h | h
        · exact h
        · exact absurd (HVP.out.1 h) hm
      have ht0 : T = 0 := by rw [HT1.out, if_pos hv0]
      rw [decide_eq_true ht0] at z1
      rw [decide_eq_true (show V = 0 by omega)] at z2
      have L1 := Lib.hid (show lessB P Q X Y = false by unfold lessB; rw [if_pos (by omega)]; exact decide_eq_false (by omega))
      have L2 := Lib.hid (show lessB X Y P Q = false by unfold lessB; rw [if_pos (by omega)]; exact decide_eq_false (by omega))
      clear ht0 hv0 hx hy hv8
      by_cases m0 : t < 0
      case' pos => clear hm
      case' neg =>
        have m1 : 4294967295 < t := by omega
        have m2 : 0 ≤ t := by omega
        have m3 : decide (t ≤ 4294967295) = false := decide_eq_false (by omega)
        clear hm m0
    all_goals
      go_wp2_with (fail)
      refine (tokens_any X Y _ bPT).mono ?_
      rintro e wa ⟨rfl, rfl⟩
      go_wp2_with (fail)
      refine (tokens_any P Q _ bP).mono ?_
      rintro e wb ⟨rfl, rfl⟩
      go_wp2_with (fail)
      refine (tokens_any T V _ bT).mono ?_
      rintro e wc ⟨rfl, rfl⟩
      go_wp2_with (fail)
      refine (bits_any X Y _ bQV).mono ?_
      rintro e wa ⟨rfl, rfl⟩
      go_wp2_with (fail)
      refine (bits_any P Q _ bQ).mono ?_
      rintro e wb ⟨rfl, rfl⟩
      go_wp2_with (fail)
      refine (bits_any T V _ bV).mono ?_
      rintro e wc ⟨rfl, rfl⟩
      go_wp2_with (fail)
      refine (less_any P Q X Y _ bP bQ bPT bQV).mono ?_
      rintro e wd ⟨rfl, rfl⟩
      rw [L1.out]
      go_wp2_with (fail)
      refine (less_any X Y P Q _ bPT bQV bP bQ).mono ?_
      rintro e we ⟨rfl, rfl⟩
      rw [L2.out]
      go_wp2_with (fail)
      go_ret
      exact ⟨rfl, HB6.out⟩
  · have h1i : (1000 : Int) < (l.length : Int) := by omega
    go_enter Try.func10, Try.ntmps10
    go_wp2_with (go_at_call 19; refine (alive_any _).mono ?_; rintro e w' ⟨rfl, hb⟩)
    go_ret
    exact ⟨rfl, hb⟩
end Go.Proofs.Yticfnecibfofjaa.Cost
