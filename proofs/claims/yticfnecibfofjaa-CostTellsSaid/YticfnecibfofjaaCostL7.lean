/- Chapter 12: every token's cost; of all together; of two the lesser one. -/
import Derived.Test.YticfnecibfofjaaCostL6
import Derived.BigGuard
namespace Go.Proofs.Yticfnecibfofjaa.Cost
set_option linter.unusedVariables false
set_option linter.unusedSimpArgs false
open Go.RowKit Go.Proofs.YticfnecibfofjaaW.PrintWords Go.Proofs.YticfnecibfofjaaW.PrintMore Go.Proofs.YticfnecibfofjaaW.PrintLast Go.Proofs.Yticfnecibfofjaa.L Go.Proofs.Yticfnecibfofjaa.Ints Go.Proofs.Yticfnecibfofjaa.Fl

theorem eq_self' {a : Nat} (h : a < big) : (FloatKind.f64.format.order (fl a) (fl a) == some Ordering.eq) = true := by
  have : (FloatKind.f64.format.order (fl a) (fl a) == some Ordering.eq) = decide (a = a) := eq_fl h h
  rw [this]; simp
theorem less_lit' (T B U C : Nat) (w : World) (h1 : T < big) (h2 : B < big) (h3 : U < big) (h4 : C < big) : Calls Try.prog 26 #[.complex .f64 (fl T) (fl B), .complex .f64 (fl U) (fl C)] w fun e w' => e = .returned (.bool (lessB T B U C)) ∧ w' = w := less_any T B U C w h1 h2 h3 h4
/-- One step of a list of operations, guarded or not. -/
theorem list_of_step {P : Program} {ops : Array Oper} {o : Oper} {a : Act} {W : World} {Q : Exit → Act → World → Prop} {rest : List Oper} (hw : Region.wanted o (yielded ops a.tmps) = true)
    (h : if Region.wanted o (yielded ops a.tmps) = true then Oper.wp P o a W (wpList P ops Q rest) Q else wpList P ops Q rest (a.put o.dst undef) W) : wpList P ops Q (o :: rest) a W := by
  unfold wpList
  rw [if_pos hw] at h ⊢
  exact .inl h
set_option maxRecDepth 100000 in
set_option maxHeartbeats 4000000 in
theorem CostTells_walk (A : Option Addr) (l : List Int) (c : Nat) (B : Option Addr) (m : List Int) (d : Nat) (w : World) (hl : KI.C w A l.length l) (hlc : l.length ≤ c) (h8 : l.length * 8 ≤ 140737488351232) (hlw : ∀ x ∈ l, (Lit.int .i64 x).wf = true)
    (hm : KI.C w B m.length m) (hmd : m.length ≤ d) (m8 : m.length * 8 ≤ 140737488351232) (hmw : ∀ x ∈ m, (Lit.int .i64 x).wf = true) :
    Calls Try.prog 8 #[.slice A l.length c, .slice B m.length d] w fun e w' => e = .returned (.bool true) ∧ Below w.heap.size w w' := by
  have HL := Lib.hid hl
  have HM := Lib.hid hm
  clear hl hm hlc hlw hmd hmw
  by_cases h1000 : l.length ≤ 1000
  · by_cases m1000 : m.length ≤ 1000
    · have h1i : (l.length : Int) ≤ 1000 := by omega
      have m1i : (m.length : Int) ≤ 1000 := by omega
      have lT := sumT_le l
      have lB := sumB_le l
      have mT := sumT_le m
      have mB := sumB_le m
      have aT := sumT_append l m
      have aB := sumB_append l m
      obtain ⟨P, hP⟩ : ∃ P, sumT l = P := ⟨_, rfl⟩
      obtain ⟨Q, hQ⟩ : ∃ Q, sumB l = Q := ⟨_, rfl⟩
      obtain ⟨U, hU⟩ : ∃ U, sumT m = U := ⟨_, rfl⟩
      obtain ⟨C, hC⟩ : ∃ C, sumB m = C := ⟨_, rfl⟩
      rw [hP] at lT aT
      rw [hQ] at lB aB
      rw [hU] at mT aT
      rw [hC] at mB aB
      have hbg : big = 9007199254740992 := rfl
      have bP : P < big := by omega
      have bQ : Q < big := by omega
      have bU : U < big := by omega
      have bC : C < big := by omega
      have bPU : P + U < big := by omega
      have bQC : Q + C < big := by omega
      have bM : 1099511627776 < big := by omega
      have cP : (P : Int) ≤ 1000 := by omega
      have cQ : (Q : Int) ≤ 40000 := by omega
      have cU : (U : Int) ≤ 1000 := by omega
      have cC : (C : Int) ≤ 40000 := by omega
      have HP := Lib.hid hP
      have HQ := Lib.hid hQ
      have HU := Lib.hid hU
      have HC := Lib.hid hC
      have HAT := Lib.hid aT
      have HAB := Lib.hid aB
      have AD := Lib.hid (fun W => addc_fl bPU bQC W)
      have M1 := Lib.hid (show lessB P Q 1099511627776 1099511627776 = true by unfold lessB; rw [if_neg (by omega)]; exact decide_eq_true (by omega))
      have M2 := Lib.hid (show lessB 1099511627776 1099511627776 U C = false by unfold lessB; rw [if_neg (by omega)]; exact decide_eq_false (by omega))
      clear hP hQ hU hC aT aB lT lB mT mB hbg
      go_enter Try.func8, Try.ntmps8
      go_wp2_with (fail)
      refine (alive_any _).mono ?_
      rintro e w1 ⟨rfl, hb1⟩
      have HB1 := Lib.hid hb1
      clear hb1
      go_wp2_with (fail)
      refine (sums_any _ _ l _ (Kd.C_below HL.out HB1.out) (by omega)).mono ?_
      rintro e w2 ⟨rfl, hb2⟩
      rw [HP.out, HQ.out]
      have HB2 := Lib.hid (Ints.bel_trans HB1.out HB1.out.size hb2)
      clear hb2 HB1
      go_wp2_with (fail)
      refine (sums_any _ _ m _ (Kd.C_below HM.out HB2.out) (by omega)).mono ?_
      rintro e w3 ⟨rfl, hb3⟩
      rw [HU.out, HC.out]
      have HB3 := Lib.hid (Ints.bel_trans HB2.out HB2.out.size hb3)
      clear hb3 HB2
      go_wp2_with (fail)
      refine (sum_any _ _ l _ (Kd.C_below HL.out HB3.out) (by omega)).mono ?_
      rintro e w4 ⟨rfl, hb4⟩
      rw [HP.out, HQ.out]
      have HB4 := Lib.hid (Ints.bel_trans HB3.out HB3.out.size hb4)
      clear hb4 HB3
      go_wp2_with (fail)
      refine (sum_any _ _ m _ (Kd.C_below HM.out HB4.out) (by omega)).mono ?_
      rintro e w5 ⟨rfl, hb5⟩
      rw [HU.out, HC.out]
      have HB5 := Lib.hid (Ints.bel_trans HB4.out HB4.out.size hb5)
      clear hb5 HB4
      unfold cx
      go_wp2_with (fail)
      go_loopg [47] l.length (fun j i wr => ∃ k : Nat, k + j = l.length ∧ i = .int .i64 k ∧ Hid (Below w.heap.size w wr))
      case atStart => exact ⟨0, by omega, rfl, HB5.out⟩
      case round =>
        obtain ⟨k, hk, rfl, HI⟩ := hrel
        have hb := HI.out
        by_cases hlt : k < l.length
        · obtain ⟨ad, rfl, x0⟩ := ints_at (Kd.C_below HL.out hb) k hlt
          obtain ⟨x, hx⟩ : ∃ x, l.getD k 0 = x := ⟨_, rfl⟩
          rw [hx] at x0
          have hv5 := vlen_le x
          obtain ⟨v, hv⟩ : ∃ v, vlen x = v := ⟨_, rfl⟩
          have hc : cT x = if v = 0 then 0 else 1 := by rw [← hv]; rfl
          rw [hv] at hv5
          have i0 : (0 : Int) ≤ k := by omega
          have i1 : (k : Int) < (l.length : Int) := by omega
          have i2 : ((k : Int)).toNat = k := by omega
          have HB := Lib.hid hb
          have HK := Lib.hid hk
          by_cases h0 : v = 0
          · subst h0
            have HV := Lib.hid (show 8 * vlen x = 0 by omega)
            have HX := Lib.hid (show cx (cT x) (8 * vlen x) = .complex .f64 0 0 by unfold cx; rw [hc, if_pos rfl, hv]; rfl)
            clear hx hv5 hv hc hb HI hk
            go_wp2_with (fail)
            refine (ref_bits x _).mono ?_
            rintro e w6 ⟨rfl, hb6⟩
            rw [HV.out]
            have HB6 := Lib.hid (Ints.bel_trans HB.out HB.out.size hb6)
            clear hb6 HB
            go_wp2_with (fail)
            refine (of_any x _).mono ?_
            rintro e w7 ⟨rfl, hb7⟩
            rw [HX.out]
            have HB7 := Lib.hid (Ints.bel_trans HB6.out HB6.out.size hb7)
            clear hb7 HB6
            go_wp2_with (fail)
            go_roundg (l.length - (k + 1))
            case measure => have := HK.out; omega
            case rel => exact ⟨k + 1, by have := HK.out; omega, by go_num, HB7.out⟩
          · obtain ⟨V, hV⟩ : ∃ V, 8 * v = V := ⟨_, rfl⟩
            have hbg : big = 9007199254740992 := rfl
            have bV : V < big := by omega
            have v0 : (0 : Int) < (V : Int) := by omega
            have cV : (V : Int) ≤ 40 := by omega
            have HV := Lib.hid (show 8 * vlen x = V by rw [hv, hV])
            have HX := Lib.hid (show cx (cT x) (8 * vlen x) = .complex .f64 4607182418800017408 (fl V) by unfold cx; rw [hc, if_neg h0, hv, hV, fl_one])
            have nV : floatOfInt .f64 (V : Int) = fl V := near_fl V
            have fV := eq_self' bV
            clear hx hv5 hv hc hb HI hk h0 hV hbg
            go_wp2_with (fail)
            refine (ref_bits x _).mono ?_
            rintro e w6 ⟨rfl, hb6⟩
            rw [HV.out]
            have HB6 := Lib.hid (Ints.bel_trans HB.out HB.out.size hb6)
            clear hb6 HB
            go_wp2_with (fail)
            refine (of_any x _).mono ?_
            rintro e w7 ⟨rfl, hb7⟩
            rw [HX.out]
            have HB7 := Lib.hid (Ints.bel_trans HB6.out HB6.out.size hb7)
            clear hb7 HB6
            go_wp2_with (fail)
            go_roundg (l.length - (k + 1))
            case measure => have := HK.out; omega
            case rel => exact ⟨k + 1, by have := HK.out; omega, by go_num, HB7.out⟩
        · obtain rfl : k = l.length := by omega
          have HB6 := Lib.hid hb
          obtain ⟨w6, rfl⟩ : ∃ x : World, x = wr := ⟨_, rfl⟩
          have nP : floatOfInt .f64 (P : Int) = fl P := near_fl P
          have nQ : floatOfInt .f64 (Q : Int) = fl Q := near_fl Q
          have fP := eq_self' bP
          have fQ := eq_self' bQ
          have e1 : ((P : Int) == (P : Int)) = true := by simp
          have e2 : ((Q : Int) == (Q : Int)) = true := by simp
          clear hb HI hk HB5
          go_upto_region 17 with (fail)
          simp only [List.append_eq, List.cons_append, List.nil_append]
          go_wp2_with (fail)
          refine (tokens_any P Q _ bP).mono ?_
          rintro e w7 ⟨rfl, rfl⟩
          go_wp2_with (fail)
          refine (bits_any P Q _ bQ).mono ?_
          rintro e w8 ⟨rfl, rfl⟩
          go_wp2_with (fail)
          refine (less_lit' P Q U C _ bP bQ bU bC).mono ?_
          rintro e w9 ⟨rfl, rfl⟩
          have hcase : P < U ∨ U < P ∨ P = U := by omega
          rcases hcase with h1 | h1 | h1
          · have p1 : lessB P Q U C = true := by unfold lessB; rw [if_neg (by omega)]; exact decide_eq_true h1
            have p2 : lessB U C P Q = false := by unfold lessB; rw [if_neg (by omega)]; exact decide_eq_false (by omega)
            have P2 := Lib.hid p2
            have d1 : decide (P < U) = true := decide_eq_true h1
            have d2 : decide (U < P) = false := decide_eq_false (by omega)
            have d4 : ((U : Int) == (P : Int)) = false := beq_eq_false_iff_ne.2 (by omega)
            rw [p1]
            clear p1 p2 h1
            go_wp2_with (fail)
            refine (less_lit' U C P Q _ bU bC bP bQ).mono ?_
            rintro e w10 ⟨rfl, rfl⟩
            rw [P2.out]
            go_wp2_with (fail)
            refine (most_any _).mono ?_
            rintro e w10 ⟨rfl, rfl⟩
            unfold cx
            go_wp2_with (fail)
            refine (less_lit' P Q 1099511627776 1099511627776 _ bP bQ bM bM).mono ?_
            rintro e w10 ⟨rfl, rfl⟩
            rw [M1.out]
            go_wp2_with (fail)
            refine (most_any _).mono ?_
            rintro e w10 ⟨rfl, rfl⟩
            unfold cx
            go_wp2_with (fail)
            refine (less_lit' 1099511627776 1099511627776 U C _ bM bM bU bC).mono ?_
            rintro e w10 ⟨rfl, rfl⟩
            rw [M2.out]
            go_wp2_with (((with_reducible refine gate_builtin (b := .append) (xs := #[.const (.slice none 0 0), .tmp 132]) rfl ?_); apply stopper))
            unfold Stopper
            refine list_of_step (by rfl) (Kd.R_append_rows_step KI (Rr := KI.K w10) (w0 := w10) w10.heap.size (by rfl) (.const (.slice none 0 0)) (.tmp 132) 34 3 (.int .i64 0) 8 (by rfl) Try.underlying34 infoInt rfl (by decide) (by omega) (.slice none 0 0) [] l A l.length c (fun _ => True) (fun _ => True) (by rfl) (by rfl) (Kd.R_nil _ _ _ _ _) (Kd.C_below HL.out HB6.out) (fun _ _ h => h) (fun k _ => ⟨trivial, by simp [Value.ownBlock]⟩) (fun _ _ => trivial) (Below.refl _ _) (Nat.le_refl _) (by simp; omega) ?_)
            intro v11 w11 ho11 hb11 hg11 hat11
            rw [List.nil_append] at ho11
            have HO11 := Lib.hid ho11
            have HB11 := Lib.hid hb11
            clear ho11 hb11 hg11 hat11
            go_wp2_with (((with_reducible refine gate_builtin (b := .append) (xs := #[.tmp 133, .tmp 134]) rfl ?_); apply stopper))
            unfold Stopper
            refine list_of_step (by rfl) (Kd.R_append_rows_step KI (Rr := KI.K w11) (w0 := w10) w10.heap.size (by rfl) (.tmp 133) (.tmp 134) 34 3 (.int .i64 0) 8 (by rfl) Try.underlying34 infoInt rfl (by decide) (by omega) v11 l m B m.length d (fun _ => True) (fun k => some k ≠ v11.ownBlock) (by rfl) (by rfl) HO11.out (Kd.C_below (Kd.C_below HM.out HB6.out) HB11.out) (fun _ _ h => h) (fun k hk => ⟨trivial, hk⟩) (fun _ _ => trivial) HB11.out HB11.out.size (by omega) ?_)
            intro v12 w12 ho12 hb12 hg12 hat12
            obtain ⟨A12, c12, rfl⟩ := Kd.R_slice ho12
            have HC12 := Lib.hid (Kd.R_reads' ho12).2.2
            have HB12 := Lib.hid (Ints.bel_trans HB6.out HB6.out.size hb12)
            clear ho12 hb12 hg12 hat12 HO11 HB11
            go_wp2_with (fail)
            have hsum := sum_any A12 c12 (l ++ m) w12 HC12.out (by rw [List.length_append]; omega)
            rw [List.length_append, HAT.out, HAB.out] at hsum
            refine hsum.mono ?_
            rintro e w13 ⟨rfl, hb13⟩
            have HB13 := Lib.hid (Ints.bel_trans HB12.out HB12.out.size hb13)
            have ad := AD.out
            have f1 := eq_self' bPU
            have f2 := eq_self' bQC
            clear hsum hb13 HB12
            unfold cx
            go_wp2_with (fail)
            go_ret
            exact ⟨rfl, HB13.out⟩
          · have p1 : lessB P Q U C = false := by unfold lessB; rw [if_neg (by omega)]; exact decide_eq_false (by omega)
            have p2 : lessB U C P Q = true := by unfold lessB; rw [if_neg (by omega)]; exact decide_eq_true h1
            have P2 := Lib.hid p2
            have d1 : decide (P < U) = false := decide_eq_false (by omega)
            have d2 : decide (U < P) = true := decide_eq_true h1
            have d4 : ((P : Int) == (U : Int)) = false := beq_eq_false_iff_ne.2 (by omega)
            rw [p1]
            clear p1 p2 h1
            go_wp2_with (fail)
            refine (less_lit' U C P Q _ bU bC bP bQ).mono ?_
            rintro e w10 ⟨rfl, rfl⟩
            rw [P2.out]
            go_wp2_with (fail)
            refine (most_any _).mono ?_
            rintro e w10 ⟨rfl, rfl⟩
            unfold cx
            go_wp2_with (fail)
            refine (less_lit' P Q 1099511627776 1099511627776 _ bP bQ bM bM).mono ?_
            rintro e w10 ⟨rfl, rfl⟩
            rw [M1.out]
            go_wp2_with (fail)
            refine (most_any _).mono ?_
            rintro e w10 ⟨rfl, rfl⟩
            unfold cx
            go_wp2_with (fail)
            refine (less_lit' 1099511627776 1099511627776 U C _ bM bM bU bC).mono ?_
            rintro e w10 ⟨rfl, rfl⟩
            rw [M2.out]
            go_wp2_with (((with_reducible refine gate_builtin (b := .append) (xs := #[.const (.slice none 0 0), .tmp 132]) rfl ?_); apply stopper))
            unfold Stopper
            refine list_of_step (by rfl) (Kd.R_append_rows_step KI (Rr := KI.K w10) (w0 := w10) w10.heap.size (by rfl) (.const (.slice none 0 0)) (.tmp 132) 34 3 (.int .i64 0) 8 (by rfl) Try.underlying34 infoInt rfl (by decide) (by omega) (.slice none 0 0) [] l A l.length c (fun _ => True) (fun _ => True) (by rfl) (by rfl) (Kd.R_nil _ _ _ _ _) (Kd.C_below HL.out HB6.out) (fun _ _ h => h) (fun k _ => ⟨trivial, by simp [Value.ownBlock]⟩) (fun _ _ => trivial) (Below.refl _ _) (Nat.le_refl _) (by simp; omega) ?_)
            intro v11 w11 ho11 hb11 hg11 hat11
            rw [List.nil_append] at ho11
            have HO11 := Lib.hid ho11
            have HB11 := Lib.hid hb11
            clear ho11 hb11 hg11 hat11
            go_wp2_with (((with_reducible refine gate_builtin (b := .append) (xs := #[.tmp 133, .tmp 134]) rfl ?_); apply stopper))
            unfold Stopper
            refine list_of_step (by rfl) (Kd.R_append_rows_step KI (Rr := KI.K w11) (w0 := w10) w10.heap.size (by rfl) (.tmp 133) (.tmp 134) 34 3 (.int .i64 0) 8 (by rfl) Try.underlying34 infoInt rfl (by decide) (by omega) v11 l m B m.length d (fun _ => True) (fun k => some k ≠ v11.ownBlock) (by rfl) (by rfl) HO11.out (Kd.C_below (Kd.C_below HM.out HB6.out) HB11.out) (fun _ _ h => h) (fun k hk => ⟨trivial, hk⟩) (fun _ _ => trivial) HB11.out HB11.out.size (by omega) ?_)
            intro v12 w12 ho12 hb12 hg12 hat12
            obtain ⟨A12, c12, rfl⟩ := Kd.R_slice ho12
            have HC12 := Lib.hid (Kd.R_reads' ho12).2.2
            have HB12 := Lib.hid (Ints.bel_trans HB6.out HB6.out.size hb12)
            clear ho12 hb12 hg12 hat12 HO11 HB11
            go_wp2_with (fail)
            have hsum := sum_any A12 c12 (l ++ m) w12 HC12.out (by rw [List.length_append]; omega)
            rw [List.length_append, HAT.out, HAB.out] at hsum
            refine hsum.mono ?_
            rintro e w13 ⟨rfl, hb13⟩
            have HB13 := Lib.hid (Ints.bel_trans HB12.out HB12.out.size hb13)
            have ad := AD.out
            have f1 := eq_self' bPU
            have f2 := eq_self' bQC
            clear hsum hb13 HB12
            unfold cx
            go_wp2_with (fail)
            go_ret
            exact ⟨rfl, HB13.out⟩
          · subst h1
            obtain ⟨X, hX⟩ : ∃ X, decide (Q < C) = X := ⟨_, rfl⟩
            obtain ⟨Y, hY⟩ : ∃ Y, decide (C < Q) = Y := ⟨_, rfl⟩
            have p1 : lessB P Q P C = X := by unfold lessB; rw [if_pos rfl]; exact hX
            have p2 : lessB P C P Q = Y := by unfold lessB; rw [if_pos rfl]; exact hY
            have P2 := Lib.hid p2
            have d5 : (X == X) = true := by simp
            have d6 : (Y == Y) = true := by simp
            rw [p1]
            clear p1 p2
            go_wp2_with (fail)
            refine (less_lit' P C P Q _ bP bC bP bQ).mono ?_
            rintro e w10 ⟨rfl, rfl⟩
            rw [P2.out]
            go_wp2_with (fail)
            refine (most_any _).mono ?_
            rintro e w10 ⟨rfl, rfl⟩
            unfold cx
            go_wp2_with (fail)
            refine (less_lit' P Q 1099511627776 1099511627776 _ bP bQ bM bM).mono ?_
            rintro e w10 ⟨rfl, rfl⟩
            rw [M1.out]
            go_wp2_with (fail)
            refine (most_any _).mono ?_
            rintro e w10 ⟨rfl, rfl⟩
            unfold cx
            go_wp2_with (fail)
            refine (less_lit' 1099511627776 1099511627776 P C _ bM bM bP bC).mono ?_
            rintro e w10 ⟨rfl, rfl⟩
            rw [M2.out]
            go_wp2_with (((with_reducible refine gate_builtin (b := .append) (xs := #[.const (.slice none 0 0), .tmp 132]) rfl ?_); apply stopper))
            unfold Stopper
            refine list_of_step (by rfl) (Kd.R_append_rows_step KI (Rr := KI.K w10) (w0 := w10) w10.heap.size (by rfl) (.const (.slice none 0 0)) (.tmp 132) 34 3 (.int .i64 0) 8 (by rfl) Try.underlying34 infoInt rfl (by decide) (by omega) (.slice none 0 0) [] l A l.length c (fun _ => True) (fun _ => True) (by rfl) (by rfl) (Kd.R_nil _ _ _ _ _) (Kd.C_below HL.out HB6.out) (fun _ _ h => h) (fun k _ => ⟨trivial, by simp [Value.ownBlock]⟩) (fun _ _ => trivial) (Below.refl _ _) (Nat.le_refl _) (by simp; omega) ?_)
            intro v11 w11 ho11 hb11 hg11 hat11
            rw [List.nil_append] at ho11
            have HO11 := Lib.hid ho11
            have HB11 := Lib.hid hb11
            clear ho11 hb11 hg11 hat11
            go_wp2_with (((with_reducible refine gate_builtin (b := .append) (xs := #[.tmp 133, .tmp 134]) rfl ?_); apply stopper))
            unfold Stopper
            refine list_of_step (by rfl) (Kd.R_append_rows_step KI (Rr := KI.K w11) (w0 := w10) w10.heap.size (by rfl) (.tmp 133) (.tmp 134) 34 3 (.int .i64 0) 8 (by rfl) Try.underlying34 infoInt rfl (by decide) (by omega) v11 l m B m.length d (fun _ => True) (fun k => some k ≠ v11.ownBlock) (by rfl) (by rfl) HO11.out (Kd.C_below (Kd.C_below HM.out HB6.out) HB11.out) (fun _ _ h => h) (fun k hk => ⟨trivial, hk⟩) (fun _ _ => trivial) HB11.out HB11.out.size (by omega) ?_)
            intro v12 w12 ho12 hb12 hg12 hat12
            obtain ⟨A12, c12, rfl⟩ := Kd.R_slice ho12
            have HC12 := Lib.hid (Kd.R_reads' ho12).2.2
            have HB12 := Lib.hid (Ints.bel_trans HB6.out HB6.out.size hb12)
            clear ho12 hb12 hg12 hat12 HO11 HB11
            go_wp2_with (fail)
            have hsum := sum_any A12 c12 (l ++ m) w12 HC12.out (by rw [List.length_append]; omega)
            rw [List.length_append, HAT.out, HAB.out] at hsum
            refine hsum.mono ?_
            rintro e w13 ⟨rfl, hb13⟩
            have HB13 := Lib.hid (Ints.bel_trans HB12.out HB12.out.size hb13)
            have ad := AD.out
            have f1 := eq_self' bPU
            have f2 := eq_self' bQC
            clear hsum hb13 HB12
            unfold cx
            go_wp2_with (fail)
            go_ret
            exact ⟨rfl, HB13.out⟩
    · have m1i : (1000 : Int) < (m.length : Int) := by omega
      have h1i : (l.length : Int) ≤ 1000 := by omega
      go_enter Try.func8, Try.ntmps8
      go_wp2_with (go_at_call 19; refine (alive_any _).mono ?_; rintro e w' ⟨rfl, hb⟩)
      go_ret
      exact ⟨rfl, hb⟩
  · have h1i : (1000 : Int) < (l.length : Int) := by omega
    go_enter Try.func8, Try.ntmps8
    go_wp2_with (go_at_call 19; refine (alive_any _).mono ?_; rintro e w' ⟨rfl, hb⟩)
    go_ret
    exact ⟨rfl, hb⟩
end Go.Proofs.Yticfnecibfofjaa.Cost
