-- PRINTED BY print.sh 35421559b90ae4d0a3588c463048766b98c2df88dd9212a6774a882060cdf62d: not written by this session
import Derived.Test.YticfnecibfofjaaPVariOncex0
import Derived.Test.YticfnecibfofjaaPVariOncex1
namespace Go.Proofs.Yticfnecibfofjaa.PVariOnce
open Go.RowKit Go.Proofs.YticfnecibfofjaaW.PrintWords Go.Proofs.YticfnecibfofjaaW.PrintLast Go.Proofs.YticfnecibfofjaaW.PrintMore
attribute [local go_sem] max2_int min2_int max_two min_two max_three min_three max_four min_four   -- for this text's walks alone
set_option linter.unusedVariables false
set_option linter.unusedSimpArgs false

/-! ### lexiphanelaw3_VariOnce: function 4 -/
def lexiphanelaw3_VariOnce.j0 : Nat → ByteArray → Int → Bool → Option (Bool)
  | 0, _, _, _ => none
  | k + 1, x0, x1, x19 => if x19 = true then ((lexiphanelaw3_alive.f k).bind fun t116 => (some t116)) else ((vari_Get.f k x0).bind fun bt117 => (if bt117.2.2 = 0 then ((vari_Put.f k bt117.1).bind fun bt120 => (if bt120.2 = true then (if bt117.2.1 < 1 then (some false) else (if bt117.2.1 > 5 then (some false) else (if bt117.2.1 > (x0.size : Int) then (some false) else (if 0 ≤ bt117.2.1 then (if bt117.2.1 ≤ (x0.size : Int) then (if bt120.1.toList = (x0.extract 0 (bt117.2.1 : Int).toNat).toList then ((vari_Len.f k bt117.1).bind fun t122 => (if t122 = bt117.2.1 then (if bt117.2.1 = 0 then (none) else (if 0 ≤ (Int.tmod (wrap64 ((Int.tmod x1 bt117.2.1) + bt117.2.1)) bt117.2.1) then (if (Int.tmod (wrap64 ((Int.tmod x1 bt117.2.1) + bt117.2.1)) bt117.2.1) ≤ (x0.size : Int) then ((vari_Get.f k (x0.extract 0 ((Int.tmod (wrap64 ((Int.tmod x1 bt117.2.1) + bt117.2.1)) bt117.2.1) : Int).toNat)).bind fun bt123 => (some (bt123.2.2 == 2))) else (none)) else (none))) else (some false))) else (some false)) else (none)) else (none))))) else (some false))) else (if bt117.1 = 0 then (some (bt117.2.1 == 0)) else (some false))))
def lexiphanelaw3_VariOnce.f (k : Nat) (a0 : ByteArray) (a1 : Int) : Option (Bool) := if (a0.size : Int) > 60 then (lexiphanelaw3_VariOnce.j0 k a0 a1 true) else ((lexiphanelaw3_alive.f k).bind fun t115 => (lexiphanelaw3_VariOnce.j0 k a0 a1 (!t115)))
theorem lexiphanelaw3_VariOnce.mono_l : ∀ k, (∀ y0 y1 y2, LeO (lexiphanelaw3_VariOnce.j0 k y0 y1 y2) (lexiphanelaw3_VariOnce.j0 (k + 1) y0 y1 y2))
  | 0 => fun _ _ _ r h => by simp [lexiphanelaw3_VariOnce.j0] at h
  | k + 1 => by
    have ih0 := lexiphanelaw3_VariOnce.mono_l k
    · intro y0 y1 y2
      unfold lexiphanelaw3_VariOnce.j0
      repeat' first
      | (with_reducible exact ih0 _ _ _)
      | (with_reducible exact lexiphanelaw3_alive.mono _)
      | (with_reducible exact vari_Get.mono _ _)
      | (with_reducible exact vari_Len.mono _ _)
      | (with_reducible exact vari_Put.mono _ _)
      | (with_reducible exact LeO.refl _)
      | (with_reducible exact LeO.none _)
      | (with_reducible refine LeO.ite ?_ ?_)
      | (with_reducible refine LeO.bind ?_ (fun _ => ?_))
      | exact ih0 _ _ _
      | exact lexiphanelaw3_alive.mono _
      | exact vari_Get.mono _ _
      | exact vari_Len.mono _ _
      | exact vari_Put.mono _ _
      | exact LeO.none _
      | refine LeO.ite ?_ ?_
      | refine LeO.bind ?_ (fun _ => ?_)
theorem lexiphanelaw3_VariOnce.mono : ∀ a0 a1 k, LeO (lexiphanelaw3_VariOnce.f k a0 a1) (lexiphanelaw3_VariOnce.f (k + 1) a0 a1) := by
  intro a0 a1 k
  have ih0 := lexiphanelaw3_VariOnce.mono_l k
  unfold lexiphanelaw3_VariOnce.f
  repeat' first
      | (with_reducible exact ih0 _ _ _)
      | (with_reducible exact lexiphanelaw3_alive.mono _)
      | (with_reducible exact vari_Get.mono _ _)
      | (with_reducible exact vari_Len.mono _ _)
      | (with_reducible exact vari_Put.mono _ _)
      | (with_reducible exact LeO.refl _)
      | (with_reducible exact LeO.none _)
      | (with_reducible refine LeO.ite ?_ ?_)
      | (with_reducible refine LeO.bind ?_ (fun _ => ?_))
      | exact ih0 _ _ _
      | exact lexiphanelaw3_alive.mono _
      | exact vari_Get.mono _ _
      | exact vari_Len.mono _ _
      | exact vari_Put.mono _ _
      | exact LeO.none _
      | refine LeO.ite ?_ ?_
      | refine LeO.bind ?_ (fun _ => ?_)
set_option maxHeartbeats 8000000 in
set_option maxRecDepth 100000 in
theorem lexiphanelaw3_VariOnce.calls (k : Nat) (a0 : ByteArray) (a1 : Int) (r : Bool) (w : World) (h : lexiphanelaw3_VariOnce.f k a0 a1 = some r) :
    Calls Try.prog 4 #[.string a0, .int .i64 a1] w fun e w' => e = .returned (.bool r) ∧ Below w.heap.size w w' := by
  have HB := Aside0.mk (Below.refl w.heap.size w)
  have H : (if (a0.size : Int) > 60 then (lexiphanelaw3_VariOnce.j0 k a0 a1 true) else ((lexiphanelaw3_alive.f k).bind fun t115 => (lexiphanelaw3_VariOnce.j0 k a0 a1 (!t115)))) = some r := h
  clear h
  have HC3 := Aside0.mk H
  clear H
  go_enter Try.func4, Try.ntmps4
  go_upto_region 1 with (fail)
  go_cut [19] (fun v19 wc => ∃ (kq : Nat) (x19_2 : Bool), v19 = .bool x19_2 ∧ Aside0 (lexiphanelaw3_VariOnce.j0 kq a0 a1 x19_2 = some r) ∧ Aside0 (kq ≤ k) ∧ Aside0 (Below w.heap.size w wc))
  case first =>
    have H := HC3.out
    clear HC3
    by_cases c4 : (a0.size : Int) > 60
    · rw [if_pos c4] at H
      have c4b0 : decide (60 < (a0.size : Int)) = true := decide_eq_true c4
      have c4b1 : decide (60 < a0.size) = true := decide_eq_true (by omega)
      clear c4
      (first | rw [c4b0] | (simp only [i64_w, i32_w]; rw [c4b0]) | skip)
      have H' := Aside0.mk H
      clear H
      go_wp2
      go_meet
      case rel => exact ⟨_, (true), (by first | rfl | (simp; done) | (simp [*]; done)), H', ⟨by first | omega | exact Nat.le_refl _⟩, ⟨by repeat (first | (with_reducible first | exact HB.out | apply below_alloc | apply pw_below_drewN | apply below_drew1) | exact HB.out)⟩⟩
    · rw [if_neg c4] at H
      have c4b0 : decide (60 < (a0.size : Int)) = false := decide_eq_false c4
      have c4b1 : decide (60 < a0.size) = false := decide_eq_false (by omega)
      clear c4
      (first | rw [c4b0] | (simp only [i64_w, i32_w]; rw [c4b0]) | skip)
      replace H := Option.bind_eq_some_iff.mp H
      obtain ⟨t115, A50, H⟩ := H
      replace H : (lexiphanelaw3_VariOnce.j0 k a0 a1 (!t115)) = some r := H
      have A5 := Aside0.mk A50
      clear A50
      have H' := Aside0.mk H
      clear H
      go_wp2_with (first | (go_at_call 13; (with_reducible refine (lexiphanelaw3_alive.calls k  t115 _ A5.out).mono ?_); rintro e w6 ⟨rfl, hb⟩; have n0_ := Aside0.mk (below_step (by repeat (first | (with_reducible first | exact HB.out | apply below_alloc | apply pw_below_drewN | apply below_drew1) | exact HB.out)) hb); clear HB; have HB := n0_; clear n0_; (try clear hb); (try clear hb2); (try clear hk); (try clear hi)))
      go_meet
      case rel => exact ⟨_, (!t115), (by first | rfl | (simp; done) | (simp [*]; done)), H', ⟨by first | omega | exact Nat.le_refl _⟩, ⟨by repeat (first | (with_reducible first | exact HB.out | apply below_alloc | apply pw_below_drewN | apply below_drew1) | exact HB.out)⟩⟩
  case rest =>
    clear HC3
    try clear p2
    try clear c4
    try clear c4b0
    try clear c4b1
    obtain ⟨kq, x19_2, rfl, HA, HJ2, HB⟩ := hcut
    cases kq with
    | zero => exact absurd HA.out (by simp [lexiphanelaw3_VariOnce.j0])
    | succ kj2 =>
      have H := HA.out
      clear HA
      simp only [lexiphanelaw3_VariOnce.j0] at H
      by_cases c7 : x19_2 = true
      · subst c7
        have H1 : ((lexiphanelaw3_alive.f kj2).bind fun t116 => (some t116)) = some r := by rw [if_pos rfl] at H; exact H
        clear H
        have H := H1
        clear H1
        replace H := Option.bind_eq_some_iff.mp H
        obtain ⟨t116, A80, H⟩ := H
        replace H : (some t116) = some r := H
        have A8 := Aside0.mk A80
        clear A80
        obtain rfl := Option.some.inj H
        go_wp2_with (first | ((with_reducible refine gate_callee (f := 13) rfl ?_); refine goesL_ (some 20) rfl rfl Try.func13 (by kernel_rfl) rfl #[] rfl (by (try simp only [List.map_toArray, List.map_cons, List.map_nil]); first | done | rfl | (simp only [List.length_drop, List.length_take]; rfl)) ?_; (with_reducible refine (lexiphanelaw3_alive.calls kj2  t116 _ A8.out).mono ?_); rintro e w9 ⟨rfl, hb⟩; refine ⟨_, rfl, ?_⟩; have n0_ := Aside0.mk (below_step (by repeat (first | (with_reducible first | exact HB.out | apply below_alloc | apply pw_below_drewN | apply below_drew1) | exact HB.out)) hb); clear HB; have HB := n0_; clear n0_; (try clear hb); (try clear hb2); (try clear hk); (try clear hi)))
        go_ret
        exact ⟨by first | rfl | (simp [errW_none, errW_some] <;> rfl) | (simp [*, errW_none, errW_some] <;> rfl), by repeat (first | (with_reducible first | exact HB.out | apply below_alloc | apply pw_below_drewN | apply below_drew1) | exact HB.out)⟩
      · replace c7 := Bool.eq_false_iff.mpr c7
        subst c7
        have H1 : ((vari_Get.f kj2 a0).bind fun bt117 => (if bt117.2.2 = 0 then ((vari_Put.f kj2 bt117.1).bind fun bt120 => (if bt120.2 = true then (if bt117.2.1 < 1 then (some false) else (if bt117.2.1 > 5 then (some false) else (if bt117.2.1 > (a0.size : Int) then (some false) else (if 0 ≤ bt117.2.1 then (if bt117.2.1 ≤ (a0.size : Int) then (if bt120.1.toList = (a0.extract 0 (bt117.2.1 : Int).toNat).toList then ((vari_Len.f kj2 bt117.1).bind fun t122 => (if t122 = bt117.2.1 then (if bt117.2.1 = 0 then (none) else (if 0 ≤ (Int.tmod (wrap64 ((Int.tmod a1 bt117.2.1) + bt117.2.1)) bt117.2.1) then (if (Int.tmod (wrap64 ((Int.tmod a1 bt117.2.1) + bt117.2.1)) bt117.2.1) ≤ (a0.size : Int) then ((vari_Get.f kj2 (a0.extract 0 ((Int.tmod (wrap64 ((Int.tmod a1 bt117.2.1) + bt117.2.1)) bt117.2.1) : Int).toNat)).bind fun bt123 => (some (bt123.2.2 == 2))) else (none)) else (none))) else (some false))) else (some false)) else (none)) else (none))))) else (some false))) else (if bt117.1 = 0 then (some (bt117.2.1 == 0)) else (some false)))) = some r := by rw [if_neg (show ¬ (false = true) by decide)] at H; exact H
        clear H
        have H := H1
        clear H1
        replace H := Option.bind_eq_some_iff.mp H
        obtain ⟨⟨t117, t118, t119⟩, A100, H⟩ := H
        replace H : (if t119 = 0 then ((vari_Put.f kj2 t117).bind fun bt120 => (if bt120.2 = true then (if t118 < 1 then (some false) else (if t118 > 5 then (some false) else (if t118 > (a0.size : Int) then (some false) else (if 0 ≤ t118 then (if t118 ≤ (a0.size : Int) then (if bt120.1.toList = (a0.extract 0 (t118 : Int).toNat).toList then ((vari_Len.f kj2 t117).bind fun t122 => (if t122 = t118 then (if t118 = 0 then (none) else (if 0 ≤ (Int.tmod (wrap64 ((Int.tmod a1 t118) + t118)) t118) then (if (Int.tmod (wrap64 ((Int.tmod a1 t118) + t118)) t118) ≤ (a0.size : Int) then ((vari_Get.f kj2 (a0.extract 0 ((Int.tmod (wrap64 ((Int.tmod a1 t118) + t118)) t118) : Int).toNat)).bind fun bt123 => (some (bt123.2.2 == 2))) else (none)) else (none))) else (some false))) else (some false)) else (none)) else (none))))) else (some false))) else (if t117 = 0 then (some (t118 == 0)) else (some false))) = some r := H
        have A10 := Aside0.mk A100
        clear A100
        by_cases c11 : t119 = 0
        · rw [if_pos c11] at H
          have c11b0 : (t119 == 0) = true := beq_iff_eq.mpr c11
          have c11b1 : (t119 != 0) = false := bne_eq_false_iff_eq.mpr c11
          clear c11
          replace H := Option.bind_eq_some_iff.mp H
          obtain ⟨⟨t120, t121⟩, A120, H⟩ := H
          replace H : (if t121 = true then (if t118 < 1 then (some false) else (if t118 > 5 then (some false) else (if t118 > (a0.size : Int) then (some false) else (if 0 ≤ t118 then (if t118 ≤ (a0.size : Int) then (if t120.toList = (a0.extract 0 (t118 : Int).toNat).toList then ((vari_Len.f kj2 t117).bind fun t122 => (if t122 = t118 then (if t118 = 0 then (none) else (if 0 ≤ (Int.tmod (wrap64 ((Int.tmod a1 t118) + t118)) t118) then (if (Int.tmod (wrap64 ((Int.tmod a1 t118) + t118)) t118) ≤ (a0.size : Int) then ((vari_Get.f kj2 (a0.extract 0 ((Int.tmod (wrap64 ((Int.tmod a1 t118) + t118)) t118) : Int).toNat)).bind fun bt123 => (some (bt123.2.2 == 2))) else (none)) else (none))) else (some false))) else (some false)) else (none)) else (none))))) else (some false)) = some r := H
          have A12 := Aside0.mk A120
          clear A120
          by_cases c13 : t121 = true
          · subst c13
            have H1 : (if t118 < 1 then (some false) else (if t118 > 5 then (some false) else (if t118 > (a0.size : Int) then (some false) else (if 0 ≤ t118 then (if t118 ≤ (a0.size : Int) then (if t120.toList = (a0.extract 0 (t118 : Int).toNat).toList then ((vari_Len.f kj2 t117).bind fun t122 => (if t122 = t118 then (if t118 = 0 then (none) else (if 0 ≤ (Int.tmod (wrap64 ((Int.tmod a1 t118) + t118)) t118) then (if (Int.tmod (wrap64 ((Int.tmod a1 t118) + t118)) t118) ≤ (a0.size : Int) then ((vari_Get.f kj2 (a0.extract 0 ((Int.tmod (wrap64 ((Int.tmod a1 t118) + t118)) t118) : Int).toNat)).bind fun bt123 => (some (bt123.2.2 == 2))) else (none)) else (none))) else (some false))) else (some false)) else (none)) else (none))))) = some r := by rw [if_pos rfl] at H; exact H
            clear H
            have H := H1
            clear H1
            by_cases c14 : t118 < 1
            · rw [if_pos c14] at H
              have c14b0 : decide (t118 < 1) = true := decide_eq_true c14
              clear c14
              obtain rfl := Option.some.inj H
              go_wp2_with (first | ((with_reducible refine gate_callee (f := 16) rfl ?_); refine goesL_ (some 23) rfl rfl Try.func16 (by kernel_rfl) rfl #[.string a0] rfl (by (try simp only [List.map_toArray, List.map_cons, List.map_nil]); first | done | rfl | (simp only [List.length_drop, List.length_take]; rfl)) ?_; (with_reducible refine (vari_Get.calls kj2 a0 t117 t118 t119 _ A10.out).mono ?_); rintro e w' ⟨rfl, ⟨nd, rfl⟩⟩; refine ⟨_, rfl, ?_⟩) | ((with_reducible refine gate_callee (f := 14) rfl ?_); refine goesL_ (some 37) rfl rfl Try.func14 (by kernel_rfl) rfl #[.int .i64 t117] rfl (by (try simp only [List.map_toArray, List.map_cons, List.map_nil]); first | done | rfl | (simp only [List.length_drop, List.length_take]; rfl)) ?_; (with_reducible refine (vari_Put.calls kj2 t117 t120 true _ A12.out).mono ?_); rintro e w15 ⟨rfl, hb⟩; refine ⟨_, rfl, ?_⟩; have n0_ := Aside0.mk (below_step (by repeat (first | (with_reducible first | exact HB.out | apply below_alloc | apply pw_below_drewN | apply below_drew1) | exact HB.out)) hb); clear HB; have HB := n0_; clear n0_; (try clear hb); (try clear hb2); (try clear hk); (try clear hi)))
              go_ret
              exact ⟨by first | rfl | (simp [errW_none, errW_some] <;> rfl) | (simp [*, errW_none, errW_some] <;> rfl), by repeat (first | (with_reducible first | exact HB.out | apply below_alloc | apply pw_below_drewN | apply below_drew1) | exact HB.out)⟩
            · rw [if_neg c14] at H
              have c14b0 : decide (t118 < 1) = false := decide_eq_false c14
              clear c14
              by_cases c16 : t118 > 5
              · rw [if_pos c16] at H
                have c16b0 : decide (5 < t118) = true := decide_eq_true c16
                clear c16
                obtain rfl := Option.some.inj H
                go_wp2_with (first | ((with_reducible refine gate_callee (f := 16) rfl ?_); refine goesL_ (some 23) rfl rfl Try.func16 (by kernel_rfl) rfl #[.string a0] rfl (by (try simp only [List.map_toArray, List.map_cons, List.map_nil]); first | done | rfl | (simp only [List.length_drop, List.length_take]; rfl)) ?_; (with_reducible refine (vari_Get.calls kj2 a0 t117 t118 t119 _ A10.out).mono ?_); rintro e w' ⟨rfl, ⟨nd, rfl⟩⟩; refine ⟨_, rfl, ?_⟩) | ((with_reducible refine gate_callee (f := 14) rfl ?_); refine goesL_ (some 37) rfl rfl Try.func14 (by kernel_rfl) rfl #[.int .i64 t117] rfl (by (try simp only [List.map_toArray, List.map_cons, List.map_nil]); first | done | rfl | (simp only [List.length_drop, List.length_take]; rfl)) ?_; (with_reducible refine (vari_Put.calls kj2 t117 t120 true _ A12.out).mono ?_); rintro e w17 ⟨rfl, hb⟩; refine ⟨_, rfl, ?_⟩; have n0_ := Aside0.mk (below_step (by repeat (first | (with_reducible first | exact HB.out | apply below_alloc | apply pw_below_drewN | apply below_drew1) | exact HB.out)) hb); clear HB; have HB := n0_; clear n0_; (try clear hb); (try clear hb2); (try clear hk); (try clear hi)))
                go_ret
                exact ⟨by first | rfl | (simp [errW_none, errW_some] <;> rfl) | (simp [*, errW_none, errW_some] <;> rfl), by repeat (first | (with_reducible first | exact HB.out | apply below_alloc | apply pw_below_drewN | apply below_drew1) | exact HB.out)⟩
              · rw [if_neg c16] at H
                have c16b0 : decide (5 < t118) = false := decide_eq_false c16
                clear c16
                by_cases c18 : t118 > (a0.size : Int)
                · rw [if_pos c18] at H
                  have c18b0 : decide ((a0.size : Int) < t118) = true := decide_eq_true c18
                  clear c18
                  obtain rfl := Option.some.inj H
                  go_wp2_with (first | ((with_reducible refine gate_callee (f := 16) rfl ?_); refine goesL_ (some 23) rfl rfl Try.func16 (by kernel_rfl) rfl #[.string a0] rfl (by (try simp only [List.map_toArray, List.map_cons, List.map_nil]); first | done | rfl | (simp only [List.length_drop, List.length_take]; rfl)) ?_; (with_reducible refine (vari_Get.calls kj2 a0 t117 t118 t119 _ A10.out).mono ?_); rintro e w' ⟨rfl, ⟨nd, rfl⟩⟩; refine ⟨_, rfl, ?_⟩) | ((with_reducible refine gate_callee (f := 14) rfl ?_); refine goesL_ (some 37) rfl rfl Try.func14 (by kernel_rfl) rfl #[.int .i64 t117] rfl (by (try simp only [List.map_toArray, List.map_cons, List.map_nil]); first | done | rfl | (simp only [List.length_drop, List.length_take]; rfl)) ?_; (with_reducible refine (vari_Put.calls kj2 t117 t120 true _ A12.out).mono ?_); rintro e w19 ⟨rfl, hb⟩; refine ⟨_, rfl, ?_⟩; have n0_ := Aside0.mk (below_step (by repeat (first | (with_reducible first | exact HB.out | apply below_alloc | apply pw_below_drewN | apply below_drew1) | exact HB.out)) hb); clear HB; have HB := n0_; clear n0_; (try clear hb); (try clear hb2); (try clear hk); (try clear hi)))
                  go_ret
                  exact ⟨by first | rfl | (simp [errW_none, errW_some] <;> rfl) | (simp [*, errW_none, errW_some] <;> rfl), by repeat (first | (with_reducible first | exact HB.out | apply below_alloc | apply pw_below_drewN | apply below_drew1) | exact HB.out)⟩
                · rw [if_neg c18] at H
                  have c18b0 : decide ((a0.size : Int) < t118) = false := decide_eq_false c18
                  clear c18
                  by_cases c20 : 0 ≤ t118
                  · rw [if_pos c20] at H
                    have c20b0 := eq_true c20
                    have c20b1 : decide (0 ≤ t118) = true := decide_eq_true c20
                    clear c20
                    by_cases c21 : t118 ≤ (a0.size : Int)
                    · rw [if_pos c21] at H
                      have c21b0 := eq_true c21
                      have c21b1 : decide (t118 ≤ (a0.size : Int)) = true := decide_eq_true c21
                      clear c21
                      by_cases c22 : t120.toList = (a0.extract 0 (t118 : Int).toNat).toList
                      · rw [if_pos c22] at H
                        have c22b0 : (t120.toList == (a0.extract 0 (t118 : Int).toNat).toList) = true := beq_iff_eq.mpr c22
                        have c22b1 : (t120.toList != (a0.extract 0 (t118 : Int).toNat).toList) = false := bne_eq_false_iff_eq.mpr c22
                        clear c22
                        replace H := Option.bind_eq_some_iff.mp H
                        obtain ⟨t122, A230, H⟩ := H
                        replace H : (if t122 = t118 then (if t118 = 0 then (none) else (if 0 ≤ (Int.tmod (wrap64 ((Int.tmod a1 t118) + t118)) t118) then (if (Int.tmod (wrap64 ((Int.tmod a1 t118) + t118)) t118) ≤ (a0.size : Int) then ((vari_Get.f kj2 (a0.extract 0 ((Int.tmod (wrap64 ((Int.tmod a1 t118) + t118)) t118) : Int).toNat)).bind fun bt123 => (some (bt123.2.2 == 2))) else (none)) else (none))) else (some false)) = some r := H
                        have A23 := Aside0.mk A230
                        clear A230
                        by_cases c24 : t122 = t118
                        · rw [if_pos c24] at H
                          have c24b0 : (t122 == t118) = true := beq_iff_eq.mpr c24
                          have c24b1 : (t122 != t118) = false := bne_eq_false_iff_eq.mpr c24
                          clear c24
                          by_cases c25 : t118 = 0
                          · rw [if_pos c25] at H
                            exact absurd H (by simp)
                          · rw [if_neg c25] at H
                            have c25b0 : (t118 == 0) = false := beq_eq_false_iff_ne.mpr c25
                            have c25b1 : (t118 != 0) = true := bne_iff_ne.mpr c25
                            obtain ⟨ji26, hji26⟩ : ∃ j_ : Int, (Int.tmod (wrap64 ((Int.tmod a1 t118) + t118)) t118) = j_ := ⟨_, rfl⟩
                            replace H : (if 0 ≤ (ji26) then (if (ji26) ≤ (a0.size : Int) then ((vari_Get.f kj2 (a0.extract 0 ((ji26) : Int).toNat)).bind fun bt123 => (some (bt123.2.2 == 2))) else (none)) else (none)) = some r := by first | (rw [hji26] at H; exact H) | (simp only [hji26] at H ⊢; exact H)
                            (try rw [hji26] at A10)
                            (try rw [hji26] at A12)
                            (try rw [hji26] at A23)
                            by_cases c27 : 0 ≤ (ji26)
                            · rw [if_pos c27] at H
                              have c27b0 := eq_true c27
                              have c27b1 : decide (0 ≤ (ji26)) = true := decide_eq_true c27
                              clear c27
                              by_cases c28 : (ji26) ≤ (a0.size : Int)
                              · rw [if_pos c28] at H
                                have c28b0 := eq_true c28
                                have c28b1 : decide ((ji26) ≤ (a0.size : Int)) = true := decide_eq_true c28
                                clear c28
                                replace H := Option.bind_eq_some_iff.mp H
                                obtain ⟨⟨t123, t124, t125⟩, A290, H⟩ := H
                                replace H : (some (t125 == 2)) = some r := H
                                have A29 := Aside0.mk A290
                                clear A290
                                obtain rfl := Option.some.inj H
                                go_wp2_with (first | ((with_reducible refine gate_callee (f := 16) rfl ?_); refine goesL_ (some 23) rfl rfl Try.func16 (by kernel_rfl) rfl #[.string a0] rfl (by (try simp only [List.map_toArray, List.map_cons, List.map_nil]); first | done | rfl | (simp only [List.length_drop, List.length_take]; rfl)) ?_; (with_reducible refine (vari_Get.calls kj2 a0 t117 t118 t119 _ A10.out).mono ?_); rintro e w' ⟨rfl, ⟨nd, rfl⟩⟩; refine ⟨_, rfl, ?_⟩) | ((with_reducible refine gate_callee (f := 14) rfl ?_); refine goesL_ (some 37) rfl rfl Try.func14 (by kernel_rfl) rfl #[.int .i64 t117] rfl (by (try simp only [List.map_toArray, List.map_cons, List.map_nil]); first | done | rfl | (simp only [List.length_drop, List.length_take]; rfl)) ?_; (with_reducible refine (vari_Put.calls kj2 t117 t120 true _ A12.out).mono ?_); rintro e w30 ⟨rfl, hb⟩; refine ⟨_, rfl, ?_⟩; have n0_ := Aside0.mk (below_step (by repeat (first | (with_reducible first | exact HB.out | apply below_alloc | apply pw_below_drewN | apply below_drew1) | exact HB.out)) hb); clear HB; have HB := n0_; clear n0_; (try clear hb); (try clear hb2); (try clear hk); (try clear hi)) | (go_at_call 18; (with_reducible refine (vari_Len.calls kj2 t117 t122 _ A23.out).mono ?_); rintro e w31 ⟨rfl, hb⟩; have n0_ := Aside0.mk (below_step (by repeat (first | (with_reducible first | exact HB.out | apply below_alloc | apply pw_below_drewN | apply below_drew1) | exact HB.out)) hb); clear HB; have HB := n0_; clear n0_; (try clear hb); (try clear hb2); (try clear hk); (try clear hi)) | ((with_reducible refine gate_callee (f := 16) rfl ?_); refine goesL_ (some 79) rfl rfl Try.func16 (by kernel_rfl) rfl #[.string (a0.extract 0 ((ji26) : Int).toNat)] rfl (by (try simp only [List.map_toArray, List.map_cons, List.map_nil]); first | done | (simp only [hji26]; rfl) | rfl | (simp only [List.length_drop, List.length_take]; rfl)) ?_; (with_reducible refine (vari_Get.calls kj2 (a0.extract 0 ((ji26) : Int).toNat) t123 t124 t125 _ A29.out).mono ?_); rintro e w' ⟨rfl, ⟨nd, rfl⟩⟩; refine ⟨_, rfl, ?_⟩))
                                go_ret
                                exact ⟨by first | rfl | (simp [errW_none, errW_some] <;> rfl) | (simp only [← hji26]; first | rfl | (simp [errW_none, errW_some] <;> rfl)) | (simp [*, errW_none, errW_some] <;> rfl), by repeat (first | (with_reducible first | exact HB.out | apply below_alloc | apply pw_below_drewN | apply below_drew1) | exact HB.out)⟩
                              · rw [if_neg c28] at H
                                exact absurd H (by simp)
                            · rw [if_neg c27] at H
                              exact absurd H (by simp)
                        · rw [if_neg c24] at H
                          have c24b0 : (t122 == t118) = false := beq_eq_false_iff_ne.mpr c24
                          have c24b1 : (t122 != t118) = true := bne_iff_ne.mpr c24
                          obtain rfl := Option.some.inj H
                          go_wp2_with (first | ((with_reducible refine gate_callee (f := 16) rfl ?_); refine goesL_ (some 23) rfl rfl Try.func16 (by kernel_rfl) rfl #[.string a0] rfl (by (try simp only [List.map_toArray, List.map_cons, List.map_nil]); first | done | rfl | (simp only [List.length_drop, List.length_take]; rfl)) ?_; (with_reducible refine (vari_Get.calls kj2 a0 t117 t118 t119 _ A10.out).mono ?_); rintro e w' ⟨rfl, ⟨nd, rfl⟩⟩; refine ⟨_, rfl, ?_⟩) | ((with_reducible refine gate_callee (f := 14) rfl ?_); refine goesL_ (some 37) rfl rfl Try.func14 (by kernel_rfl) rfl #[.int .i64 t117] rfl (by (try simp only [List.map_toArray, List.map_cons, List.map_nil]); first | done | rfl | (simp only [List.length_drop, List.length_take]; rfl)) ?_; (with_reducible refine (vari_Put.calls kj2 t117 t120 true _ A12.out).mono ?_); rintro e w32 ⟨rfl, hb⟩; refine ⟨_, rfl, ?_⟩; have n0_ := Aside0.mk (below_step (by repeat (first | (with_reducible first | exact HB.out | apply below_alloc | apply pw_below_drewN | apply below_drew1) | exact HB.out)) hb); clear HB; have HB := n0_; clear n0_; (try clear hb); (try clear hb2); (try clear hk); (try clear hi)) | (go_at_call 18; (with_reducible refine (vari_Len.calls kj2 t117 t122 _ A23.out).mono ?_); rintro e w33 ⟨rfl, hb⟩; have n0_ := Aside0.mk (below_step (by repeat (first | (with_reducible first | exact HB.out | apply below_alloc | apply pw_below_drewN | apply below_drew1) | exact HB.out)) hb); clear HB; have HB := n0_; clear n0_; (try clear hb); (try clear hb2); (try clear hk); (try clear hi)))
                          go_ret
                          exact ⟨by first | rfl | (simp [errW_none, errW_some] <;> rfl) | (simp [*, errW_none, errW_some] <;> rfl), by repeat (first | (with_reducible first | exact HB.out | apply below_alloc | apply pw_below_drewN | apply below_drew1) | exact HB.out)⟩
                      · rw [if_neg c22] at H
                        have c22b0 : (t120.toList == (a0.extract 0 (t118 : Int).toNat).toList) = false := beq_eq_false_iff_ne.mpr c22
                        have c22b1 : (t120.toList != (a0.extract 0 (t118 : Int).toNat).toList) = true := bne_iff_ne.mpr c22
                        obtain rfl := Option.some.inj H
                        go_wp2_with (first | ((with_reducible refine gate_callee (f := 16) rfl ?_); refine goesL_ (some 23) rfl rfl Try.func16 (by kernel_rfl) rfl #[.string a0] rfl (by (try simp only [List.map_toArray, List.map_cons, List.map_nil]); first | done | rfl | (simp only [List.length_drop, List.length_take]; rfl)) ?_; (with_reducible refine (vari_Get.calls kj2 a0 t117 t118 t119 _ A10.out).mono ?_); rintro e w' ⟨rfl, ⟨nd, rfl⟩⟩; refine ⟨_, rfl, ?_⟩) | ((with_reducible refine gate_callee (f := 14) rfl ?_); refine goesL_ (some 37) rfl rfl Try.func14 (by kernel_rfl) rfl #[.int .i64 t117] rfl (by (try simp only [List.map_toArray, List.map_cons, List.map_nil]); first | done | rfl | (simp only [List.length_drop, List.length_take]; rfl)) ?_; (with_reducible refine (vari_Put.calls kj2 t117 t120 true _ A12.out).mono ?_); rintro e w34 ⟨rfl, hb⟩; refine ⟨_, rfl, ?_⟩; have n0_ := Aside0.mk (below_step (by repeat (first | (with_reducible first | exact HB.out | apply below_alloc | apply pw_below_drewN | apply below_drew1) | exact HB.out)) hb); clear HB; have HB := n0_; clear n0_; (try clear hb); (try clear hb2); (try clear hk); (try clear hi)))
                        go_ret
                        exact ⟨by first | rfl | (simp [errW_none, errW_some] <;> rfl) | (simp [*, errW_none, errW_some] <;> rfl), by repeat (first | (with_reducible first | exact HB.out | apply below_alloc | apply pw_below_drewN | apply below_drew1) | exact HB.out)⟩
                    · rw [if_neg c21] at H
                      exact absurd H (by simp)
                  · rw [if_neg c20] at H
                    exact absurd H (by simp)
          · replace c13 := Bool.eq_false_iff.mpr c13
            subst c13
            have H1 : (some false) = some r := by rw [if_neg (show ¬ (false = true) by decide)] at H; exact H
            clear H
            have H := H1
            clear H1
            obtain rfl := Option.some.inj H
            go_wp2_with (first | ((with_reducible refine gate_callee (f := 16) rfl ?_); refine goesL_ (some 23) rfl rfl Try.func16 (by kernel_rfl) rfl #[.string a0] rfl (by (try simp only [List.map_toArray, List.map_cons, List.map_nil]); first | done | rfl | (simp only [List.length_drop, List.length_take]; rfl)) ?_; (with_reducible refine (vari_Get.calls kj2 a0 t117 t118 t119 _ A10.out).mono ?_); rintro e w' ⟨rfl, ⟨nd, rfl⟩⟩; refine ⟨_, rfl, ?_⟩) | ((with_reducible refine gate_callee (f := 14) rfl ?_); refine goesL_ (some 37) rfl rfl Try.func14 (by kernel_rfl) rfl #[.int .i64 t117] rfl (by (try simp only [List.map_toArray, List.map_cons, List.map_nil]); first | done | rfl | (simp only [List.length_drop, List.length_take]; rfl)) ?_; (with_reducible refine (vari_Put.calls kj2 t117 t120 false _ A12.out).mono ?_); rintro e w35 ⟨rfl, hb⟩; refine ⟨_, rfl, ?_⟩; have n0_ := Aside0.mk (below_step (by repeat (first | (with_reducible first | exact HB.out | apply below_alloc | apply pw_below_drewN | apply below_drew1) | exact HB.out)) hb); clear HB; have HB := n0_; clear n0_; (try clear hb); (try clear hb2); (try clear hk); (try clear hi)))
            go_ret
            exact ⟨by first | rfl | (simp [errW_none, errW_some] <;> rfl) | (simp [*, errW_none, errW_some] <;> rfl), by repeat (first | (with_reducible first | exact HB.out | apply below_alloc | apply pw_below_drewN | apply below_drew1) | exact HB.out)⟩
        · rw [if_neg c11] at H
          have c11b0 : (t119 == 0) = false := beq_eq_false_iff_ne.mpr c11
          have c11b1 : (t119 != 0) = true := bne_iff_ne.mpr c11
          by_cases c36 : t117 = 0
          · rw [if_pos c36] at H
            have c36b0 : (t117 == 0) = true := beq_iff_eq.mpr c36
            have c36b1 : (t117 != 0) = false := bne_eq_false_iff_eq.mpr c36
            clear c36
            obtain rfl := Option.some.inj H
            go_wp2_with (first | ((with_reducible refine gate_callee (f := 16) rfl ?_); refine goesL_ (some 23) rfl rfl Try.func16 (by kernel_rfl) rfl #[.string a0] rfl (by (try simp only [List.map_toArray, List.map_cons, List.map_nil]); first | done | rfl | (simp only [List.length_drop, List.length_take]; rfl)) ?_; (with_reducible refine (vari_Get.calls kj2 a0 t117 t118 t119 _ A10.out).mono ?_); rintro e w' ⟨rfl, ⟨nd, rfl⟩⟩; refine ⟨_, rfl, ?_⟩))
            go_ret
            exact ⟨by first | rfl | (simp [errW_none, errW_some] <;> rfl) | (simp [*, errW_none, errW_some] <;> rfl), by repeat (first | (with_reducible first | exact HB.out | apply below_alloc | apply pw_below_drewN | apply below_drew1) | exact HB.out)⟩
          · rw [if_neg c36] at H
            have c36b0 : (t117 == 0) = false := beq_eq_false_iff_ne.mpr c36
            have c36b1 : (t117 != 0) = true := bne_iff_ne.mpr c36
            obtain rfl := Option.some.inj H
            go_wp2_with (first | ((with_reducible refine gate_callee (f := 16) rfl ?_); refine goesL_ (some 23) rfl rfl Try.func16 (by kernel_rfl) rfl #[.string a0] rfl (by (try simp only [List.map_toArray, List.map_cons, List.map_nil]); first | done | rfl | (simp only [List.length_drop, List.length_take]; rfl)) ?_; (with_reducible refine (vari_Get.calls kj2 a0 t117 t118 t119 _ A10.out).mono ?_); rintro e w' ⟨rfl, ⟨nd, rfl⟩⟩; refine ⟨_, rfl, ?_⟩))
            go_ret
            exact ⟨by first | rfl | (simp [errW_none, errW_some] <;> rfl) | (simp [*, errW_none, errW_some] <;> rfl), by repeat (first | (with_reducible first | exact HB.out | apply below_alloc | apply pw_below_drewN | apply below_drew1) | exact HB.out)⟩

/-- THE ONE PURE STATEMENT of lexiphanelaw3_VariOnce: yours. -/
def lexiphanelaw3_VariOnce.Pure : Prop := ∀ (a0 : ByteArray) (a1 : Int), a0.size ≤ 140737488351232 → (Lit.int .i64 a1).wf = true → ∃ k, lexiphanelaw3_VariOnce.f k a0 a1 = some true
theorem lexiphanelaw3_VariOnce.walk (P : lexiphanelaw3_VariOnce.Pure) (a0 : ByteArray) (a1 : Int) (w : World) (w0 : a0.size ≤ 140737488351232) (w1 : (Lit.int .i64 a1).wf = true) :
    Calls Try.prog 4 #[.string a0, .int .i64 a1] w fun e w' => e = .returned (.bool true) ∧ Below w.heap.size w w' := by
  obtain ⟨k, h⟩ := P a0 a1 w0 w1
  refine (lexiphanelaw3_VariOnce.calls k a0 a1 true w h).mono ?_
  rintro e w' ⟨rfl, hd⟩
  exact ⟨rfl, hd⟩

end Go.Proofs.Yticfnecibfofjaa.PVariOnce
