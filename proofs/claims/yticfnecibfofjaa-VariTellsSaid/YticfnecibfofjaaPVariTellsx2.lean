-- PRINTED BY print.sh 35421559b90ae4d0a3588c463048766b98c2df88dd9212a6774a882060cdf62d: not written by this session
import Derived.Test.YticfnecibfofjaaPVariTellsx0
import Derived.Test.YticfnecibfofjaaPVariTellsx1
namespace Go.Proofs.Yticfnecibfofjaa.PVariTells
open Go.RowKit Go.Proofs.YticfnecibfofjaaW.PrintWords Go.Proofs.YticfnecibfofjaaW.PrintLast Go.Proofs.YticfnecibfofjaaW.PrintMore
attribute [local go_sem] max2_int min2_int max_two min_two max_three min_three max_four min_four   -- for this text's walks alone
set_option linter.unusedVariables false
set_option linter.unusedSimpArgs false

/-! ### lexiphaneref1_Unnumber: function 17 -/
mutual
def lexiphaneref1_Unnumber.l0 : Nat → ByteArray → Int → Int → Int → Option (Int × Int × Int)
  | 0, _, _, _, _ => none
  | k + 1, x0, x5, x6, x7 => if x7 = (x0.size : Int) then (some (0, 0, 2)) else (if 0 ≤ x7 then (if x7 < (x0.size : Int) then (if x7 = 4 then (lexiphaneref1_Unnumber.j1 k x0 x5 x6 x7 (wrap64 (bt x0 x7)) (decide ((wrap64 (bt x0 x7)) > 15))) else (lexiphaneref1_Unnumber.j1 k x0 x5 x6 x7 (wrap64 (bt x0 x7)) false)) else (none)) else (none))
def lexiphaneref1_Unnumber.j1 : Nat → ByteArray → Int → Int → Int → Int → Bool → Option (Int × Int × Int)
  | 0, _, _, _, _, _, _ => none
  | k + 1, x0, x5, x6, x7, x8, x24 => if x24 = true then (some (0, 0, 4)) else (if x8 < 128 then (if x8 = 0 then (if x7 > 0 then (some (0, 0, 3)) else (some (wrap64 (x5 + (wrap64 ((Int.tmod x8 128) * x6))), wrap64 (x7 + 1), 0))) else (some (wrap64 (x5 + (wrap64 ((Int.tmod x8 128) * x6))), wrap64 (x7 + 1), 0))) else (lexiphaneref1_Unnumber.l0 k x0 (wrap64 (x5 + (wrap64 ((Int.tmod x8 128) * x6)))) (wrap64 (x6 * 128)) (wrap64 (x7 + 1))))
end
def lexiphaneref1_Unnumber.f (k : Nat) (a0 : ByteArray) : Option (Int × Int × Int) := lexiphaneref1_Unnumber.l0 k a0 0 1 0
theorem lexiphaneref1_Unnumber.mono_l : ∀ k, (∀ y0 y1 y2 y3, LeO (lexiphaneref1_Unnumber.l0 k y0 y1 y2 y3) (lexiphaneref1_Unnumber.l0 (k + 1) y0 y1 y2 y3)) ∧ (∀ y0 y1 y2 y3 y4 y5, LeO (lexiphaneref1_Unnumber.j1 k y0 y1 y2 y3 y4 y5) (lexiphaneref1_Unnumber.j1 (k + 1) y0 y1 y2 y3 y4 y5))
  | 0 => ⟨fun _ _ _ _ r h => by simp [lexiphaneref1_Unnumber.l0] at h, fun _ _ _ _ _ _ r h => by simp [lexiphaneref1_Unnumber.j1] at h⟩
  | k + 1 => by
    obtain ⟨ih0, ih1⟩ := lexiphaneref1_Unnumber.mono_l k
    refine ⟨?_, ?_⟩
    · intro y0 y1 y2 y3
      unfold lexiphaneref1_Unnumber.l0
      repeat' first
      | (with_reducible exact ih0 _ _ _ _)
      | (with_reducible exact ih1 _ _ _ _ _ _)
      | (with_reducible exact LeO.refl _)
      | (with_reducible exact LeO.none _)
      | (with_reducible refine LeO.ite ?_ ?_)
      | (with_reducible refine LeO.bind ?_ (fun _ => ?_))
      | exact ih0 _ _ _ _
      | exact ih1 _ _ _ _ _ _
      | exact LeO.none _
      | refine LeO.ite ?_ ?_
      | refine LeO.bind ?_ (fun _ => ?_)
    · intro y0 y1 y2 y3 y4 y5
      unfold lexiphaneref1_Unnumber.j1
      repeat' first
      | (with_reducible exact ih0 _ _ _ _)
      | (with_reducible exact ih1 _ _ _ _ _ _)
      | (with_reducible exact LeO.refl _)
      | (with_reducible exact LeO.none _)
      | (with_reducible refine LeO.ite ?_ ?_)
      | (with_reducible refine LeO.bind ?_ (fun _ => ?_))
      | exact ih0 _ _ _ _
      | exact ih1 _ _ _ _ _ _
      | exact LeO.none _
      | refine LeO.ite ?_ ?_
      | refine LeO.bind ?_ (fun _ => ?_)
theorem lexiphaneref1_Unnumber.mono : ∀ a0 k, LeO (lexiphaneref1_Unnumber.f k a0) (lexiphaneref1_Unnumber.f (k + 1) a0) := by
  intro a0 k
  obtain ⟨ih0, ih1⟩ := lexiphaneref1_Unnumber.mono_l k
  unfold lexiphaneref1_Unnumber.f
  repeat' first
      | (with_reducible exact ih0 _ _ _ _)
      | (with_reducible exact ih1 _ _ _ _ _ _)
      | (with_reducible exact LeO.refl _)
      | (with_reducible exact LeO.none _)
      | (with_reducible refine LeO.ite ?_ ?_)
      | (with_reducible refine LeO.bind ?_ (fun _ => ?_))
      | exact ih0 _ _ _ _
      | exact ih1 _ _ _ _ _ _
      | exact LeO.none _
      | refine LeO.ite ?_ ?_
      | refine LeO.bind ?_ (fun _ => ?_)
set_option maxHeartbeats 8000000 in
set_option maxRecDepth 100000 in
theorem lexiphaneref1_Unnumber.calls (k : Nat) (a0 : ByteArray) (r1 : Int) (r2 : Int) (r3 : Int) (w : World) (h : lexiphaneref1_Unnumber.f k a0 = some (r1, r2, r3)) :
    Calls Try.prog 17 #[.string a0] w fun e w' => e = .returned (.tuple #[.int .i64 r1, .int .i64 r2, .int .i64 r3]) ∧ Drawn0 w w' := by
  have H : (lexiphaneref1_Unnumber.l0 k a0 0 1 0) = some (r1, r2, r3) := h
  clear h
  have H' := Aside0.mk H
  clear H
  go_enter Try.func17, Try.ntmps17
  go_wp2
  go_loopg [5, 6, 7] k (fun kq v5 v6 v7 w' => ∃ (x5_1 : Int) (x6_1 : Int) (x7_1 : Int), v5 = .int .i64 x5_1 ∧ v6 = .int .i64 x6_1 ∧ v7 = .int .i64 x7_1 ∧ Aside0 (lexiphaneref1_Unnumber.l0 kq a0 x5_1 x6_1 x7_1 = some (r1, r2, r3)) ∧ Aside0 (kq ≤ k) ∧ Drawn0 w w')
  case atStart => exact ⟨(0), (1), (0), (by first | rfl | (simp; done) | (simp [*]; done)), (by first | rfl | (simp; done) | (simp [*]; done)), (by first | rfl | (simp; done) | (simp [*]; done)), H', ⟨Nat.le_refl _⟩, by repeat (first | exact Drawn0.refl _ | apply Drawn0.step)⟩
  case round =>
    clear H'
    try clear c1
    obtain ⟨x5_1, x6_1, x7_1, rfl, rfl, rfl, HA, HK1, ⟨m1, rfl⟩⟩ := hrel
    cases gk with
    | zero => exact absurd HA.out (by simp [lexiphaneref1_Unnumber.l0])
    | succ k1 =>
      have H := HA.out
      clear HA
      simp only [lexiphaneref1_Unnumber.l0] at H
      by_cases c2 : x7_1 = (a0.size : Int)
      · rw [if_pos c2] at H
        have c2b0 : (x7_1 == (a0.size : Int)) = true := beq_iff_eq.mpr c2
        have c2b1 : (x7_1 != (a0.size : Int)) = false := bne_eq_false_iff_eq.mpr c2
        clear c2
        simp only [Option.some.injEq, Prod.mk.injEq] at H
        obtain ⟨rfl, rfl, rfl⟩ := H
        go_wp2
        go_ret3
        exact ⟨by first | rfl | (simp; done) | (simp [*]; done), by repeat (first | exact Drawn0.refl _ | apply Drawn0.step)⟩
      · rw [if_neg c2] at H
        have c2b0 : (x7_1 == (a0.size : Int)) = false := beq_eq_false_iff_ne.mpr c2
        have c2b1 : (x7_1 != (a0.size : Int)) = true := bne_iff_ne.mpr c2
        by_cases c3 : 0 ≤ x7_1
        · rw [if_pos c3] at H
          have c3b0 : decide (0 ≤ x7_1) = true := decide_eq_true c3
          clear c3
          by_cases c4 : x7_1 < (a0.size : Int)
          · rw [if_pos c4] at H
            have c4b0 : decide (x7_1 < (a0.size : Int)) = true := decide_eq_true c4
            clear c4
            have HC6 := Aside0.mk H
            clear H
            have p5 : 0 ≤ (x7_1 : Int) := of_decide_eq_true (by first | (with_reducible assumption) | assumption)
            have q5 : x7_1 < (a0.size : Int) := of_decide_eq_true (by first | (with_reducible assumption) | assumption)
            have hx5 := bt_at a0 x7_1
            replace p5 := eq_true p5
            replace q5 := eq_true q5
            go_upto_region 7 with (fail)
            go_cut [24] (fun v24 wc => ∃ (kq : Nat) (x24_5 : Bool), v24 = .bool x24_5 ∧ Aside0 (lexiphaneref1_Unnumber.j1 kq a0 x5_1 x6_1 x7_1 (wrap64 (bt a0 x7_1)) x24_5 = some (r1, r2, r3)) ∧ Aside0 (kq ≤ k1) ∧ Drawn0 w wc)
            case first =>
              have H := HC6.out
              clear HC6
              by_cases c7 : x7_1 = 4
              · rw [if_pos c7] at H
                have c7b0 : (x7_1 == 4) = true := beq_iff_eq.mpr c7
                have c7b1 : (x7_1 != 4) = false := bne_eq_false_iff_eq.mpr c7
                clear c7
                (first | rw [c7b0] | (simp only [i64_w, i32_w]; rw [c7b0]) | skip)
                have H' := Aside0.mk H
                clear H
                go_wp2
                go_meet
                case rel => exact ⟨_, (decide ((wrap64 (bt a0 x7_1)) > 15)), (by first | rfl | (simp; done) | (simp [*]; done)), H', ⟨by have := HK1.out; first | omega | exact Nat.le_refl _⟩, by repeat (first | exact Drawn0.refl _ | apply Drawn0.step)⟩
              · rw [if_neg c7] at H
                have c7b0 : (x7_1 == 4) = false := beq_eq_false_iff_ne.mpr c7
                have c7b1 : (x7_1 != 4) = true := bne_iff_ne.mpr c7
                (first | rw [c7b0] | (simp only [i64_w, i32_w]; rw [c7b0]) | skip)
                have H' := Aside0.mk H
                clear H
                go_wp2
                go_meet
                case rel => exact ⟨_, (false), (by first | rfl | (simp; done) | (simp [*]; done)), H', ⟨by have := HK1.out; first | omega | exact Nat.le_refl _⟩, by repeat (first | exact Drawn0.refl _ | apply Drawn0.step)⟩
            case rest =>
              clear HC6
              try clear c1
              try clear c2
              try clear c2b0
              try clear c2b1
              try clear p2
              try clear c3
              try clear c3b0
              try clear c4
              try clear c4b0
              try clear p5
              try clear q5
              try clear hx5
              try clear p6
              try clear c7
              try clear c7b0
              try clear c7b1
              try clear p5
              try clear q5
              obtain ⟨kq, x24_5, rfl, HA, HJ5, ⟨mc5, rfl⟩⟩ := hcut
              cases kq with
              | zero => exact absurd HA.out (by simp [lexiphaneref1_Unnumber.j1])
              | succ kj5 =>
                have H := HA.out
                clear HA
                simp only [lexiphaneref1_Unnumber.j1] at H
                by_cases c8 : x24_5 = true
                · subst c8
                  have H1 : (some (0, 0, 4)) = some (r1, r2, r3) := by rw [if_pos rfl] at H; exact H
                  clear H
                  have H := H1
                  clear H1
                  simp only [Option.some.injEq, Prod.mk.injEq] at H
                  obtain ⟨rfl, rfl, rfl⟩ := H
                  go_wp2
                  go_ret3
                  exact ⟨by first | rfl | (simp; done) | (simp [*]; done), by repeat (first | exact Drawn0.refl _ | apply Drawn0.step)⟩
                · replace c8 := Bool.eq_false_iff.mpr c8
                  subst c8
                  have H1 : (if (wrap64 (bt a0 x7_1)) < 128 then (if (wrap64 (bt a0 x7_1)) = 0 then (if x7_1 > 0 then (some (0, 0, 3)) else (some (wrap64 (x5_1 + (wrap64 ((Int.tmod (wrap64 (bt a0 x7_1)) 128) * x6_1))), wrap64 (x7_1 + 1), 0))) else (some (wrap64 (x5_1 + (wrap64 ((Int.tmod (wrap64 (bt a0 x7_1)) 128) * x6_1))), wrap64 (x7_1 + 1), 0))) else (lexiphaneref1_Unnumber.l0 kj5 a0 (wrap64 (x5_1 + (wrap64 ((Int.tmod (wrap64 (bt a0 x7_1)) 128) * x6_1)))) (wrap64 (x6_1 * 128)) (wrap64 (x7_1 + 1)))) = some (r1, r2, r3) := by rw [if_neg (show ¬ (false = true) by decide)] at H; exact H
                  clear H
                  have H := H1
                  clear H1
                  by_cases c9 : (wrap64 (bt a0 x7_1)) < 128
                  · rw [if_pos c9] at H
                    have c9b0 : decide ((wrap64 (bt a0 x7_1)) < 128) = true := decide_eq_true c9
                    clear c9
                    by_cases c10 : (wrap64 (bt a0 x7_1)) = 0
                    · rw [if_pos c10] at H
                      have c10b0 : ((wrap64 (bt a0 x7_1)) == 0) = true := beq_iff_eq.mpr c10
                      have c10b1 : ((wrap64 (bt a0 x7_1)) != 0) = false := bne_eq_false_iff_eq.mpr c10
                      clear c10
                      by_cases c11 : x7_1 > 0
                      · rw [if_pos c11] at H
                        have c11b0 : decide (0 < x7_1) = true := decide_eq_true c11
                        clear c11
                        simp only [Option.some.injEq, Prod.mk.injEq] at H
                        obtain ⟨rfl, rfl, rfl⟩ := H
                        go_wp2
                        go_ret3
                        exact ⟨by first | rfl | (simp; done) | (simp [*]; done), by repeat (first | exact Drawn0.refl _ | apply Drawn0.step)⟩
                      · rw [if_neg c11] at H
                        have c11b0 : decide (0 < x7_1) = false := decide_eq_false c11
                        clear c11
                        simp only [Option.some.injEq, Prod.mk.injEq] at H
                        obtain ⟨rfl, rfl, rfl⟩ := H
                        go_wp2
                        go_ret3
                        exact ⟨by first | rfl | (simp; done) | (simp [*]; done), by repeat (first | exact Drawn0.refl _ | apply Drawn0.step)⟩
                    · rw [if_neg c10] at H
                      have c10b0 : ((wrap64 (bt a0 x7_1)) == 0) = false := beq_eq_false_iff_ne.mpr c10
                      have c10b1 : ((wrap64 (bt a0 x7_1)) != 0) = true := bne_iff_ne.mpr c10
                      simp only [Option.some.injEq, Prod.mk.injEq] at H
                      obtain ⟨rfl, rfl, rfl⟩ := H
                      go_wp2
                      go_ret3
                      exact ⟨by first | rfl | (simp; done) | (simp [*]; done), by repeat (first | exact Drawn0.refl _ | apply Drawn0.step)⟩
                  · rw [if_neg c9] at H
                    have c9b0 : decide ((wrap64 (bt a0 x7_1)) < 128) = false := decide_eq_false c9
                    clear c9
                    have H' := Aside0.mk H
                    clear H
                    go_wp2
                    go_roundg kj5
                    case measure => have := HK1.out; have := HJ5.out; omega
                    case rel => exact ⟨(wrap64 (x5_1 + (wrap64 ((Int.tmod (wrap64 (bt a0 x7_1)) 128) * x6_1)))), (wrap64 (x6_1 * 128)), (wrap64 (x7_1 + 1)), (by first | rfl | (simp; done) | (simp [*]; done)), (by first | rfl | (simp; done) | (simp [*]; done)), (by first | rfl | (simp; done) | (simp [*]; done)), H', ⟨by have := HK1.out; have := HJ5.out; omega⟩, by repeat (first | exact Drawn0.refl _ | apply Drawn0.step)⟩
          · rw [if_neg c4] at H
            exact absurd H (by simp)
        · rw [if_neg c3] at H
          exact absurd H (by simp)

/-! ### lexiphanelaw3_VariTells: function 3 -/
mutual
def lexiphanelaw3_VariTells.j0 : Nat → Int → ByteArray → Bool → Option (Bool)
  | 0, _, _, _ => none
  | k + 1, x0, x1, x24 => if x24 = true then ((lexiphanelaw3_alive.f k).bind fun t122 => (some t122)) else ((vari_Put.f k x0).bind fun bt123 => ((lexiphaneref1_Number.f k x0).bind fun bt125 => ((vari_Get.f k x1).bind fun bt127 => ((lexiphaneref1_Unnumber.f k x1).bind fun bt130 => (if bt123.1.toList = bt125.1.toList then (if (bt123.2 != bt125.2) = true then (lexiphanelaw3_VariTells.j1 k x0 x1 bt123.1 bt123.2 true) else ((vari_Len.f k x0).bind fun t133 => (if t133 = (bt125.1.size : Int) then (if bt127.1 = bt130.1 then (if bt127.2.1 = bt130.2.1 then (lexiphanelaw3_VariTells.j1 k x0 x1 bt123.1 bt123.2 (bt127.2.2 != bt130.2.2)) else (lexiphanelaw3_VariTells.j1 k x0 x1 bt123.1 bt123.2 true)) else (lexiphanelaw3_VariTells.j1 k x0 x1 bt123.1 bt123.2 true)) else (lexiphanelaw3_VariTells.j1 k x0 x1 bt123.1 bt123.2 true)))) else (lexiphanelaw3_VariTells.j1 k x0 x1 bt123.1 bt123.2 true))))))
def lexiphanelaw3_VariTells.j1 : Nat → Int → ByteArray → ByteArray → Bool → Bool → Option (Bool)
  | 0, _, _, _, _, _ => none
  | k + 1, x0, x1, x5, x6, x77 => if x77 = true then (some false) else (if x6 = true then (if x5.size + x1.size ≤ 9223372036854775807 then ((vari_Get.f k (x5 ++ x1)).bind fun bt134 => (if bt134.1 = x0 then (if bt134.2.1 = (x5.size : Int) then (some (bt134.2.2 == 0)) else (some false)) else (some false))) else (none)) else (some true))
end
def lexiphanelaw3_VariTells.f (k : Nat) (a0 : Int) (a1 : ByteArray) : Option (Bool) := if (a1.size : Int) > 60 then (lexiphanelaw3_VariTells.j0 k a0 a1 true) else ((lexiphanelaw3_alive.f k).bind fun t121 => (lexiphanelaw3_VariTells.j0 k a0 a1 (!t121)))
theorem lexiphanelaw3_VariTells.mono_l : ∀ k, (∀ y0 y1 y2, LeO (lexiphanelaw3_VariTells.j0 k y0 y1 y2) (lexiphanelaw3_VariTells.j0 (k + 1) y0 y1 y2)) ∧ (∀ y0 y1 y2 y3 y4, LeO (lexiphanelaw3_VariTells.j1 k y0 y1 y2 y3 y4) (lexiphanelaw3_VariTells.j1 (k + 1) y0 y1 y2 y3 y4))
  | 0 => ⟨fun _ _ _ r h => by simp [lexiphanelaw3_VariTells.j0] at h, fun _ _ _ _ _ r h => by simp [lexiphanelaw3_VariTells.j1] at h⟩
  | k + 1 => by
    obtain ⟨ih0, ih1⟩ := lexiphanelaw3_VariTells.mono_l k
    refine ⟨?_, ?_⟩
    · intro y0 y1 y2
      unfold lexiphanelaw3_VariTells.j0
      repeat' first
      | (with_reducible exact ih0 _ _ _)
      | (with_reducible exact ih1 _ _ _ _ _)
      | (with_reducible exact lexiphanelaw3_alive.mono _)
      | (with_reducible exact lexiphaneref1_Number.mono _ _)
      | (with_reducible exact lexiphaneref1_Unnumber.mono _ _)
      | (with_reducible exact vari_Get.mono _ _)
      | (with_reducible exact vari_Len.mono _ _)
      | (with_reducible exact vari_Put.mono _ _)
      | (with_reducible exact LeO.refl _)
      | (with_reducible exact LeO.none _)
      | (with_reducible refine LeO.ite ?_ ?_)
      | (with_reducible refine LeO.bind ?_ (fun _ => ?_))
      | exact ih0 _ _ _
      | exact ih1 _ _ _ _ _
      | exact lexiphanelaw3_alive.mono _
      | exact lexiphaneref1_Number.mono _ _
      | exact lexiphaneref1_Unnumber.mono _ _
      | exact vari_Get.mono _ _
      | exact vari_Len.mono _ _
      | exact vari_Put.mono _ _
      | exact LeO.none _
      | refine LeO.ite ?_ ?_
      | refine LeO.bind ?_ (fun _ => ?_)
    · intro y0 y1 y2 y3 y4
      unfold lexiphanelaw3_VariTells.j1
      repeat' first
      | (with_reducible exact ih0 _ _ _)
      | (with_reducible exact ih1 _ _ _ _ _)
      | (with_reducible exact lexiphanelaw3_alive.mono _)
      | (with_reducible exact lexiphaneref1_Number.mono _ _)
      | (with_reducible exact lexiphaneref1_Unnumber.mono _ _)
      | (with_reducible exact vari_Get.mono _ _)
      | (with_reducible exact vari_Len.mono _ _)
      | (with_reducible exact vari_Put.mono _ _)
      | (with_reducible exact LeO.refl _)
      | (with_reducible exact LeO.none _)
      | (with_reducible refine LeO.ite ?_ ?_)
      | (with_reducible refine LeO.bind ?_ (fun _ => ?_))
      | exact ih0 _ _ _
      | exact ih1 _ _ _ _ _
      | exact lexiphanelaw3_alive.mono _
      | exact lexiphaneref1_Number.mono _ _
      | exact lexiphaneref1_Unnumber.mono _ _
      | exact vari_Get.mono _ _
      | exact vari_Len.mono _ _
      | exact vari_Put.mono _ _
      | exact LeO.none _
      | refine LeO.ite ?_ ?_
      | refine LeO.bind ?_ (fun _ => ?_)
theorem lexiphanelaw3_VariTells.mono : ∀ a0 a1 k, LeO (lexiphanelaw3_VariTells.f k a0 a1) (lexiphanelaw3_VariTells.f (k + 1) a0 a1) := by
  intro a0 a1 k
  obtain ⟨ih0, ih1⟩ := lexiphanelaw3_VariTells.mono_l k
  unfold lexiphanelaw3_VariTells.f
  repeat' first
      | (with_reducible exact ih0 _ _ _)
      | (with_reducible exact ih1 _ _ _ _ _)
      | (with_reducible exact lexiphanelaw3_alive.mono _)
      | (with_reducible exact lexiphaneref1_Number.mono _ _)
      | (with_reducible exact lexiphaneref1_Unnumber.mono _ _)
      | (with_reducible exact vari_Get.mono _ _)
      | (with_reducible exact vari_Len.mono _ _)
      | (with_reducible exact vari_Put.mono _ _)
      | (with_reducible exact LeO.refl _)
      | (with_reducible exact LeO.none _)
      | (with_reducible refine LeO.ite ?_ ?_)
      | (with_reducible refine LeO.bind ?_ (fun _ => ?_))
      | exact ih0 _ _ _
      | exact ih1 _ _ _ _ _
      | exact lexiphanelaw3_alive.mono _
      | exact lexiphaneref1_Number.mono _ _
      | exact lexiphaneref1_Unnumber.mono _ _
      | exact vari_Get.mono _ _
      | exact vari_Len.mono _ _
      | exact vari_Put.mono _ _
      | exact LeO.none _
      | refine LeO.ite ?_ ?_
      | refine LeO.bind ?_ (fun _ => ?_)
set_option maxHeartbeats 8000000 in
set_option maxRecDepth 100000 in
theorem lexiphanelaw3_VariTells.calls (k : Nat) (a0 : Int) (a1 : ByteArray) (r : Bool) (w : World) (h : lexiphanelaw3_VariTells.f k a0 a1 = some r) :
    Calls Try.prog 3 #[.int .i64 a0, .string a1] w fun e w' => e = .returned (.bool r) ∧ Below w.heap.size w w' := by
  have HB := Aside0.mk (Below.refl w.heap.size w)
  have H : (if (a1.size : Int) > 60 then (lexiphanelaw3_VariTells.j0 k a0 a1 true) else ((lexiphanelaw3_alive.f k).bind fun t121 => (lexiphanelaw3_VariTells.j0 k a0 a1 (!t121)))) = some r := h
  clear h
  have HC3 := Aside0.mk H
  clear H
  go_enter Try.func3, Try.ntmps3
  go_upto_region 1 with (fail)
  go_cut [24] (fun v24 wc => ∃ (kq : Nat) (x24_2 : Bool), v24 = .bool x24_2 ∧ Aside0 (lexiphanelaw3_VariTells.j0 kq a0 a1 x24_2 = some r) ∧ Aside0 (kq ≤ k) ∧ Aside0 (Below w.heap.size w wc))
  case first =>
    have H := HC3.out
    clear HC3
    by_cases c4 : (a1.size : Int) > 60
    · rw [if_pos c4] at H
      have c4b0 : decide (60 < (a1.size : Int)) = true := decide_eq_true c4
      have c4b1 : decide (60 < a1.size) = true := decide_eq_true (by omega)
      clear c4
      (first | rw [c4b0] | (simp only [i64_w, i32_w]; rw [c4b0]) | skip)
      have H' := Aside0.mk H
      clear H
      go_wp2
      go_meet
      case rel => exact ⟨_, (true), (by first | rfl | (simp; done) | (simp [*]; done)), H', ⟨by first | omega | exact Nat.le_refl _⟩, ⟨by repeat (first | (with_reducible first | exact HB.out | apply below_alloc | apply pw_below_drewN | apply below_drew1) | exact HB.out)⟩⟩
    · rw [if_neg c4] at H
      have c4b0 : decide (60 < (a1.size : Int)) = false := decide_eq_false c4
      have c4b1 : decide (60 < a1.size) = false := decide_eq_false (by omega)
      clear c4
      (first | rw [c4b0] | (simp only [i64_w, i32_w]; rw [c4b0]) | skip)
      replace H := Option.bind_eq_some_iff.mp H
      obtain ⟨t121, A50, H⟩ := H
      replace H : (lexiphanelaw3_VariTells.j0 k a0 a1 (!t121)) = some r := H
      have A5 := Aside0.mk A50
      clear A50
      have H' := Aside0.mk H
      clear H
      go_wp2_with (first | (go_at_call 13; (with_reducible refine (lexiphanelaw3_alive.calls k  t121 _ A5.out).mono ?_); rintro e w6 ⟨rfl, hb⟩; have n0_ := Aside0.mk (below_step (by repeat (first | (with_reducible first | exact HB.out | apply below_alloc | apply pw_below_drewN | apply below_drew1) | exact HB.out)) hb); clear HB; have HB := n0_; clear n0_; (try clear hb); (try clear hb2); (try clear hk); (try clear hi)))
      go_meet
      case rel => exact ⟨_, (!t121), (by first | rfl | (simp; done) | (simp [*]; done)), H', ⟨by first | omega | exact Nat.le_refl _⟩, ⟨by repeat (first | (with_reducible first | exact HB.out | apply below_alloc | apply pw_below_drewN | apply below_drew1) | exact HB.out)⟩⟩
  case rest =>
    clear HC3
    try clear p2
    try clear c3
    try clear c4
    try clear c4b0
    try clear c4b1
    obtain ⟨kq, x24_2, rfl, HA, HJ2, HB⟩ := hcut
    cases kq with
    | zero => exact absurd HA.out (by simp [lexiphanelaw3_VariTells.j0])
    | succ kj2 =>
      have H := HA.out
      clear HA
      simp only [lexiphanelaw3_VariTells.j0] at H
      by_cases c7 : x24_2 = true
      · subst c7
        have H1 : ((lexiphanelaw3_alive.f kj2).bind fun t122 => (some t122)) = some r := by rw [if_pos rfl] at H; exact H
        clear H
        have H := H1
        clear H1
        replace H := Option.bind_eq_some_iff.mp H
        obtain ⟨t122, A80, H⟩ := H
        replace H : (some t122) = some r := H
        have A8 := Aside0.mk A80
        clear A80
        obtain rfl := Option.some.inj H
        go_wp2_with (first | ((with_reducible refine gate_callee (f := 13) rfl ?_); refine goesL_ (some 25) rfl rfl Try.func13 (by kernel_rfl) rfl #[] rfl (by (try simp only [List.map_toArray, List.map_cons, List.map_nil]); first | done | rfl | (simp only [List.length_drop, List.length_take]; rfl)) ?_; (with_reducible refine (lexiphanelaw3_alive.calls kj2  t122 _ A8.out).mono ?_); rintro e w9 ⟨rfl, hb⟩; refine ⟨_, rfl, ?_⟩; have n0_ := Aside0.mk (below_step (by repeat (first | (with_reducible first | exact HB.out | apply below_alloc | apply pw_below_drewN | apply below_drew1) | exact HB.out)) hb); clear HB; have HB := n0_; clear n0_; (try clear hb); (try clear hb2); (try clear hk); (try clear hi)))
        go_ret
        exact ⟨by first | rfl | (simp [errW_none, errW_some] <;> rfl) | (simp [*, errW_none, errW_some] <;> rfl), by repeat (first | (with_reducible first | exact HB.out | apply below_alloc | apply pw_below_drewN | apply below_drew1) | exact HB.out)⟩
      · replace c7 := Bool.eq_false_iff.mpr c7
        subst c7
        have H1 : ((vari_Put.f kj2 a0).bind fun bt123 => ((lexiphaneref1_Number.f kj2 a0).bind fun bt125 => ((vari_Get.f kj2 a1).bind fun bt127 => ((lexiphaneref1_Unnumber.f kj2 a1).bind fun bt130 => (if bt123.1.toList = bt125.1.toList then (if (bt123.2 != bt125.2) = true then (lexiphanelaw3_VariTells.j1 kj2 a0 a1 bt123.1 bt123.2 true) else ((vari_Len.f kj2 a0).bind fun t133 => (if t133 = (bt125.1.size : Int) then (if bt127.1 = bt130.1 then (if bt127.2.1 = bt130.2.1 then (lexiphanelaw3_VariTells.j1 kj2 a0 a1 bt123.1 bt123.2 (bt127.2.2 != bt130.2.2)) else (lexiphanelaw3_VariTells.j1 kj2 a0 a1 bt123.1 bt123.2 true)) else (lexiphanelaw3_VariTells.j1 kj2 a0 a1 bt123.1 bt123.2 true)) else (lexiphanelaw3_VariTells.j1 kj2 a0 a1 bt123.1 bt123.2 true)))) else (lexiphanelaw3_VariTells.j1 kj2 a0 a1 bt123.1 bt123.2 true)))))) = some r := by rw [if_neg (show ¬ (false = true) by decide)] at H; exact H
        clear H
        have H := H1
        clear H1
        replace H := Option.bind_eq_some_iff.mp H
        obtain ⟨⟨t123, t124⟩, A100, H⟩ := H
        replace H : ((lexiphaneref1_Number.f kj2 a0).bind fun bt125 => ((vari_Get.f kj2 a1).bind fun bt127 => ((lexiphaneref1_Unnumber.f kj2 a1).bind fun bt130 => (if t123.toList = bt125.1.toList then (if (t124 != bt125.2) = true then (lexiphanelaw3_VariTells.j1 kj2 a0 a1 t123 t124 true) else ((vari_Len.f kj2 a0).bind fun t133 => (if t133 = (bt125.1.size : Int) then (if bt127.1 = bt130.1 then (if bt127.2.1 = bt130.2.1 then (lexiphanelaw3_VariTells.j1 kj2 a0 a1 t123 t124 (bt127.2.2 != bt130.2.2)) else (lexiphanelaw3_VariTells.j1 kj2 a0 a1 t123 t124 true)) else (lexiphanelaw3_VariTells.j1 kj2 a0 a1 t123 t124 true)) else (lexiphanelaw3_VariTells.j1 kj2 a0 a1 t123 t124 true)))) else (lexiphanelaw3_VariTells.j1 kj2 a0 a1 t123 t124 true))))) = some r := H
        have A10 := Aside0.mk A100
        clear A100
        replace H := Option.bind_eq_some_iff.mp H
        obtain ⟨⟨t125, t126⟩, A110, H⟩ := H
        replace H : ((vari_Get.f kj2 a1).bind fun bt127 => ((lexiphaneref1_Unnumber.f kj2 a1).bind fun bt130 => (if t123.toList = t125.toList then (if (t124 != t126) = true then (lexiphanelaw3_VariTells.j1 kj2 a0 a1 t123 t124 true) else ((vari_Len.f kj2 a0).bind fun t133 => (if t133 = (t125.size : Int) then (if bt127.1 = bt130.1 then (if bt127.2.1 = bt130.2.1 then (lexiphanelaw3_VariTells.j1 kj2 a0 a1 t123 t124 (bt127.2.2 != bt130.2.2)) else (lexiphanelaw3_VariTells.j1 kj2 a0 a1 t123 t124 true)) else (lexiphanelaw3_VariTells.j1 kj2 a0 a1 t123 t124 true)) else (lexiphanelaw3_VariTells.j1 kj2 a0 a1 t123 t124 true)))) else (lexiphanelaw3_VariTells.j1 kj2 a0 a1 t123 t124 true)))) = some r := H
        have A11 := Aside0.mk A110
        clear A110
        replace H := Option.bind_eq_some_iff.mp H
        obtain ⟨⟨t127, t128, t129⟩, A120, H⟩ := H
        replace H : ((lexiphaneref1_Unnumber.f kj2 a1).bind fun bt130 => (if t123.toList = t125.toList then (if (t124 != t126) = true then (lexiphanelaw3_VariTells.j1 kj2 a0 a1 t123 t124 true) else ((vari_Len.f kj2 a0).bind fun t133 => (if t133 = (t125.size : Int) then (if t127 = bt130.1 then (if t128 = bt130.2.1 then (lexiphanelaw3_VariTells.j1 kj2 a0 a1 t123 t124 (t129 != bt130.2.2)) else (lexiphanelaw3_VariTells.j1 kj2 a0 a1 t123 t124 true)) else (lexiphanelaw3_VariTells.j1 kj2 a0 a1 t123 t124 true)) else (lexiphanelaw3_VariTells.j1 kj2 a0 a1 t123 t124 true)))) else (lexiphanelaw3_VariTells.j1 kj2 a0 a1 t123 t124 true))) = some r := H
        have A12 := Aside0.mk A120
        clear A120
        replace H := Option.bind_eq_some_iff.mp H
        obtain ⟨⟨t130, t131, t132⟩, A130, H⟩ := H
        replace H : (if t123.toList = t125.toList then (if (t124 != t126) = true then (lexiphanelaw3_VariTells.j1 kj2 a0 a1 t123 t124 true) else ((vari_Len.f kj2 a0).bind fun t133 => (if t133 = (t125.size : Int) then (if t127 = t130 then (if t128 = t131 then (lexiphanelaw3_VariTells.j1 kj2 a0 a1 t123 t124 (t129 != t132)) else (lexiphanelaw3_VariTells.j1 kj2 a0 a1 t123 t124 true)) else (lexiphanelaw3_VariTells.j1 kj2 a0 a1 t123 t124 true)) else (lexiphanelaw3_VariTells.j1 kj2 a0 a1 t123 t124 true)))) else (lexiphanelaw3_VariTells.j1 kj2 a0 a1 t123 t124 true)) = some r := H
        have A13 := Aside0.mk A130
        clear A130
        have HC14 := Aside0.mk H
        clear H
        go_upto_region 7 with (first | ((with_reducible refine gate_callee (f := 14) rfl ?_); refine goesL_ (some 28) rfl rfl Try.func14 (by kernel_rfl) rfl #[.int .i64 a0] rfl (by (try simp only [List.map_toArray, List.map_cons, List.map_nil]); first | done | rfl | (simp only [List.length_drop, List.length_take]; rfl)) ?_; (with_reducible refine (vari_Put.calls kj2 a0 t123 t124 _ A10.out).mono ?_); rintro e w15 ⟨rfl, hb⟩; refine ⟨_, rfl, ?_⟩; have n0_ := Aside0.mk (below_step (by repeat (first | (with_reducible first | exact HB.out | apply below_alloc | apply pw_below_drewN | apply below_drew1) | exact HB.out)) hb); clear HB; have HB := n0_; clear n0_; (try clear hb); (try clear hb2); (try clear hk); (try clear hi)) | ((with_reducible refine gate_callee (f := 15) rfl ?_); refine goesL_ (some 33) rfl rfl Try.func15 (by kernel_rfl) rfl #[.int .i64 a0] rfl (by (try simp only [List.map_toArray, List.map_cons, List.map_nil]); first | done | rfl | (simp only [List.length_drop, List.length_take]; rfl)) ?_; (with_reducible refine (lexiphaneref1_Number.calls kj2 a0 t125 t126 _ A11.out).mono ?_); rintro e w16 ⟨rfl, hb⟩; refine ⟨_, rfl, ?_⟩; have n0_ := Aside0.mk (below_step (by repeat (first | (with_reducible first | exact HB.out | apply below_alloc | apply pw_below_drewN | apply below_drew1) | exact HB.out)) hb); clear HB; have HB := n0_; clear n0_; (try clear hb); (try clear hb2); (try clear hk); (try clear hi)) | ((with_reducible refine gate_callee (f := 16) rfl ?_); refine goesL_ (some 38) rfl rfl Try.func16 (by kernel_rfl) rfl #[.string a1] rfl (by (try simp only [List.map_toArray, List.map_cons, List.map_nil]); first | done | rfl | (simp only [List.length_drop, List.length_take]; rfl)) ?_; (with_reducible refine (vari_Get.calls kj2 a1 t127 t128 t129 _ A12.out).mono ?_); rintro e w' ⟨rfl, ⟨nd, rfl⟩⟩; refine ⟨_, rfl, ?_⟩) | ((with_reducible refine gate_callee (f := 17) rfl ?_); refine goesL_ (some 44) rfl rfl Try.func17 (by kernel_rfl) rfl #[.string a1] rfl (by (try simp only [List.map_toArray, List.map_cons, List.map_nil]); first | done | rfl | (simp only [List.length_drop, List.length_take]; rfl)) ?_; (with_reducible refine (lexiphaneref1_Unnumber.calls kj2 a1 t130 t131 t132 _ A13.out).mono ?_); rintro e w' ⟨rfl, ⟨nd, rfl⟩⟩; refine ⟨_, rfl, ?_⟩))
        (try simp only [Act.put, List.setIfInBounds_toArray, List.set_cons_zero, List.set_cons_succ])
        go_cut [77] (fun v77 wc => ∃ (kq : Nat) (x77_13 : Bool), v77 = .bool x77_13 ∧ Aside0 (lexiphanelaw3_VariTells.j1 kq a0 a1 t123 t124 x77_13 = some r) ∧ Aside0 (kq ≤ kj2) ∧ Aside0 (Below w.heap.size w wc))
        case first =>
          have H := HC14.out
          clear HC14
          by_cases c17 : t123.toList = t125.toList
          · rw [if_pos c17] at H
            have c17b0 : (t123.toList == t125.toList) = true := beq_iff_eq.mpr c17
            have c17b1 : (t123.toList != t125.toList) = false := bne_eq_false_iff_eq.mpr c17
            clear c17
            (first | rw [c17b0] | (simp only [i64_w, i32_w]; rw [c17b0]) | skip)
            by_cases c18 : (t124 != t126) = true
            · rw [if_pos c18] at H
              have c18b0 : (t124 != t126) = true := c18
              (try (have c18b1 : decide (t124 = t126) = false := by simpa using c18))
              (try (have c18b2 : (t124 == t126) = false := by simpa using c18))
              (try (have c18b3 : ¬ (t124 = t126) := by simpa using c18))
              clear c18
              have H' := Aside0.mk H
              clear H
              go_wp2
              go_meet
              case rel => exact ⟨_, (true), (by first | rfl | (simp; done) | (simp [*]; done)), H', ⟨by have := HJ2.out; first | omega | exact Nat.le_refl _⟩, ⟨by repeat (first | (with_reducible first | exact HB.out | apply below_alloc | apply pw_below_drewN | apply below_drew1) | exact HB.out)⟩⟩
            · rw [if_neg c18] at H
              have c18b0 : (t124 != t126) = false := by simpa using c18
              (try (have c18b1 : decide (t124 = t126) = true := by simpa using c18))
              (try (have c18b2 : (t124 == t126) = true := by simpa using c18))
              clear c18
              replace H := Option.bind_eq_some_iff.mp H
              obtain ⟨t133, A190, H⟩ := H
              replace H : (if t133 = (t125.size : Int) then (if t127 = t130 then (if t128 = t131 then (lexiphanelaw3_VariTells.j1 kj2 a0 a1 t123 t124 (t129 != t132)) else (lexiphanelaw3_VariTells.j1 kj2 a0 a1 t123 t124 true)) else (lexiphanelaw3_VariTells.j1 kj2 a0 a1 t123 t124 true)) else (lexiphanelaw3_VariTells.j1 kj2 a0 a1 t123 t124 true)) = some r := H
              have A19 := Aside0.mk A190
              clear A190
              by_cases c20 : t133 = (t125.size : Int)
              · rw [if_pos c20] at H
                have c20b0 : (t133 == (t125.size : Int)) = true := beq_iff_eq.mpr c20
                have c20b1 : (t133 != (t125.size : Int)) = false := bne_eq_false_iff_eq.mpr c20
                clear c20
                by_cases c21 : t127 = t130
                · rw [if_pos c21] at H
                  have c21b0 : (t127 == t130) = true := beq_iff_eq.mpr c21
                  have c21b1 : (t127 != t130) = false := bne_eq_false_iff_eq.mpr c21
                  clear c21
                  by_cases c22 : t128 = t131
                  · rw [if_pos c22] at H
                    have c22b0 : (t128 == t131) = true := beq_iff_eq.mpr c22
                    have c22b1 : (t128 != t131) = false := bne_eq_false_iff_eq.mpr c22
                    clear c22
                    have H' := Aside0.mk H
                    clear H
                    go_wp2_with (first | (go_at_call 18; (with_reducible refine (vari_Len.calls kj2 a0 t133 _ A19.out).mono ?_); rintro e w23 ⟨rfl, hb⟩; have n0_ := Aside0.mk (below_step (by repeat (first | (with_reducible first | exact HB.out | apply below_alloc | apply pw_below_drewN | apply below_drew1) | exact HB.out)) hb); clear HB; have HB := n0_; clear n0_; (try clear hb); (try clear hb2); (try clear hk); (try clear hi)))
                    go_meet
                    case rel => exact ⟨_, ((t129 != t132)), (by first | rfl | (simp; done) | (simp [*]; done)), H', ⟨by have := HJ2.out; first | omega | exact Nat.le_refl _⟩, ⟨by repeat (first | (with_reducible first | exact HB.out | apply below_alloc | apply pw_below_drewN | apply below_drew1) | exact HB.out)⟩⟩
                  · rw [if_neg c22] at H
                    have c22b0 : (t128 == t131) = false := beq_eq_false_iff_ne.mpr c22
                    have c22b1 : (t128 != t131) = true := bne_iff_ne.mpr c22
                    have H' := Aside0.mk H
                    clear H
                    go_wp2_with (first | (go_at_call 18; (with_reducible refine (vari_Len.calls kj2 a0 t133 _ A19.out).mono ?_); rintro e w24 ⟨rfl, hb⟩; have n0_ := Aside0.mk (below_step (by repeat (first | (with_reducible first | exact HB.out | apply below_alloc | apply pw_below_drewN | apply below_drew1) | exact HB.out)) hb); clear HB; have HB := n0_; clear n0_; (try clear hb); (try clear hb2); (try clear hk); (try clear hi)))
                    go_meet
                    case rel => exact ⟨_, (true), (by first | rfl | (simp; done) | (simp [*]; done)), H', ⟨by have := HJ2.out; first | omega | exact Nat.le_refl _⟩, ⟨by repeat (first | (with_reducible first | exact HB.out | apply below_alloc | apply pw_below_drewN | apply below_drew1) | exact HB.out)⟩⟩
                · rw [if_neg c21] at H
                  have c21b0 : (t127 == t130) = false := beq_eq_false_iff_ne.mpr c21
                  have c21b1 : (t127 != t130) = true := bne_iff_ne.mpr c21
                  have H' := Aside0.mk H
                  clear H
                  go_wp2_with (first | (go_at_call 18; (with_reducible refine (vari_Len.calls kj2 a0 t133 _ A19.out).mono ?_); rintro e w25 ⟨rfl, hb⟩; have n0_ := Aside0.mk (below_step (by repeat (first | (with_reducible first | exact HB.out | apply below_alloc | apply pw_below_drewN | apply below_drew1) | exact HB.out)) hb); clear HB; have HB := n0_; clear n0_; (try clear hb); (try clear hb2); (try clear hk); (try clear hi)))
                  go_meet
                  case rel => exact ⟨_, (true), (by first | rfl | (simp; done) | (simp [*]; done)), H', ⟨by have := HJ2.out; first | omega | exact Nat.le_refl _⟩, ⟨by repeat (first | (with_reducible first | exact HB.out | apply below_alloc | apply pw_below_drewN | apply below_drew1) | exact HB.out)⟩⟩
              · rw [if_neg c20] at H
                have c20b0 : (t133 == (t125.size : Int)) = false := beq_eq_false_iff_ne.mpr c20
                have c20b1 : (t133 != (t125.size : Int)) = true := bne_iff_ne.mpr c20
                have H' := Aside0.mk H
                clear H
                go_wp2_with (first | (go_at_call 18; (with_reducible refine (vari_Len.calls kj2 a0 t133 _ A19.out).mono ?_); rintro e w26 ⟨rfl, hb⟩; have n0_ := Aside0.mk (below_step (by repeat (first | (with_reducible first | exact HB.out | apply below_alloc | apply pw_below_drewN | apply below_drew1) | exact HB.out)) hb); clear HB; have HB := n0_; clear n0_; (try clear hb); (try clear hb2); (try clear hk); (try clear hi)))
                go_meet
                case rel => exact ⟨_, (true), (by first | rfl | (simp; done) | (simp [*]; done)), H', ⟨by have := HJ2.out; first | omega | exact Nat.le_refl _⟩, ⟨by repeat (first | (with_reducible first | exact HB.out | apply below_alloc | apply pw_below_drewN | apply below_drew1) | exact HB.out)⟩⟩
          · rw [if_neg c17] at H
            have c17b0 : (t123.toList == t125.toList) = false := beq_eq_false_iff_ne.mpr c17
            have c17b1 : (t123.toList != t125.toList) = true := bne_iff_ne.mpr c17
            (first | rw [c17b0] | (simp only [i64_w, i32_w]; rw [c17b0]) | skip)
            have H' := Aside0.mk H
            clear H
            go_wp2
            go_meet
            case rel => exact ⟨_, (true), (by first | rfl | (simp; done) | (simp [*]; done)), H', ⟨by have := HJ2.out; first | omega | exact Nat.le_refl _⟩, ⟨by repeat (first | (with_reducible first | exact HB.out | apply below_alloc | apply pw_below_drewN | apply below_drew1) | exact HB.out)⟩⟩
        case rest =>
          clear HC14
          try clear c1
          try clear c2
          try clear p2
          try clear c3
          try clear c4
          try clear c4b0
          try clear c4b1
          try clear c7
          try clear c13
          try clear c14
          try clear c15
          try clear c16
          try clear c17
          try clear c17b0
          try clear c17b1
          try clear c18
          try clear c18b0
          try clear c18b1
          try clear c18b2
          try clear c20
          try clear c20b0
          try clear c20b1
          try clear c21
          try clear c21b0
          try clear c21b1
          try clear c22
          try clear c22b0
          try clear c22b1
          try clear p2
          obtain ⟨kq, x77_13, rfl, HA, HJ13, HB⟩ := hcut
          cases kq with
          | zero => exact absurd HA.out (by simp [lexiphanelaw3_VariTells.j1])
          | succ kj13 =>
            have H := HA.out
            clear HA
            simp only [lexiphanelaw3_VariTells.j1] at H
            by_cases c27 : x77_13 = true
            · subst c27
              have H1 : (some false) = some r := by rw [if_pos rfl] at H; exact H
              clear H
              have H := H1
              clear H1
              obtain rfl := Option.some.inj H
              go_wp2
              go_ret
              exact ⟨by first | rfl | (simp [errW_none, errW_some] <;> rfl) | (simp [*, errW_none, errW_some] <;> rfl), by repeat (first | (with_reducible first | exact HB.out | apply below_alloc | apply pw_below_drewN | apply below_drew1) | exact HB.out)⟩
            · replace c27 := Bool.eq_false_iff.mpr c27
              subst c27
              have H1 : (if t124 = true then (if t123.size + a1.size ≤ 9223372036854775807 then ((vari_Get.f kj13 (t123 ++ a1)).bind fun bt134 => (if bt134.1 = a0 then (if bt134.2.1 = (t123.size : Int) then (some (bt134.2.2 == 0)) else (some false)) else (some false))) else (none)) else (some true)) = some r := by rw [if_neg (show ¬ (false = true) by decide)] at H; exact H
              clear H
              have H := H1
              clear H1
              by_cases c28 : t124 = true
              · subst c28
                have H1 : (if t123.size + a1.size ≤ 9223372036854775807 then ((vari_Get.f kj13 (t123 ++ a1)).bind fun bt134 => (if bt134.1 = a0 then (if bt134.2.1 = (t123.size : Int) then (some (bt134.2.2 == 0)) else (some false)) else (some false))) else (none)) = some r := by rw [if_pos rfl] at H; exact H
                clear H
                have H := H1
                clear H1
                by_cases c29 : t123.size + a1.size ≤ 9223372036854775807
                · rw [if_pos c29] at H
                  have c29b0 := eq_true c29
                  have c29b1 : decide (t123.size + a1.size ≤ 9223372036854775807) = true := decide_eq_true c29
                  try have c29b2 : (9223372036854775807 < t123.size + a1.size) = False := eq_false (Nat.not_lt.2 c29)
                  replace H := Option.bind_eq_some_iff.mp H
                  obtain ⟨⟨t134, t135, t136⟩, A300, H⟩ := H
                  replace H : (if t134 = a0 then (if t135 = (t123.size : Int) then (some (t136 == 0)) else (some false)) else (some false)) = some r := H
                  have A30 := Aside0.mk A300
                  clear A300
                  by_cases c31 : t134 = a0
                  · rw [if_pos c31] at H
                    have c31b0 : (t134 == a0) = true := beq_iff_eq.mpr c31
                    have c31b1 : (t134 != a0) = false := bne_eq_false_iff_eq.mpr c31
                    clear c31
                    by_cases c32 : t135 = (t123.size : Int)
                    · rw [if_pos c32] at H
                      have c32b0 : (t135 == (t123.size : Int)) = true := beq_iff_eq.mpr c32
                      have c32b1 : (t135 != (t123.size : Int)) = false := bne_eq_false_iff_eq.mpr c32
                      clear c32
                      obtain rfl := Option.some.inj H
                      go_wp2_with (first | ((with_reducible refine gate_callee (f := 16) rfl ?_); refine goesL_ (some 84) rfl rfl Try.func16 (by kernel_rfl) rfl #[.string (t123 ++ a1)] rfl (by (try simp only [List.map_toArray, List.map_cons, List.map_nil]); first | done | rfl | (simp only [List.length_drop, List.length_take]; rfl)) ?_; (with_reducible refine (vari_Get.calls kj13 (t123 ++ a1) t134 t135 t136 _ A30.out).mono ?_); rintro e w' ⟨rfl, ⟨nd, rfl⟩⟩; refine ⟨_, rfl, ?_⟩))
                      go_ret
                      exact ⟨by first | rfl | (simp [errW_none, errW_some] <;> rfl) | (simp [*, errW_none, errW_some] <;> rfl), by repeat (first | (with_reducible first | exact HB.out | apply below_alloc | apply pw_below_drewN | apply below_drew1) | exact HB.out)⟩
                    · rw [if_neg c32] at H
                      have c32b0 : (t135 == (t123.size : Int)) = false := beq_eq_false_iff_ne.mpr c32
                      have c32b1 : (t135 != (t123.size : Int)) = true := bne_iff_ne.mpr c32
                      obtain rfl := Option.some.inj H
                      go_wp2_with (first | ((with_reducible refine gate_callee (f := 16) rfl ?_); refine goesL_ (some 84) rfl rfl Try.func16 (by kernel_rfl) rfl #[.string (t123 ++ a1)] rfl (by (try simp only [List.map_toArray, List.map_cons, List.map_nil]); first | done | rfl | (simp only [List.length_drop, List.length_take]; rfl)) ?_; (with_reducible refine (vari_Get.calls kj13 (t123 ++ a1) t134 t135 t136 _ A30.out).mono ?_); rintro e w' ⟨rfl, ⟨nd, rfl⟩⟩; refine ⟨_, rfl, ?_⟩))
                      go_ret
                      exact ⟨by first | rfl | (simp [errW_none, errW_some] <;> rfl) | (simp [*, errW_none, errW_some] <;> rfl), by repeat (first | (with_reducible first | exact HB.out | apply below_alloc | apply pw_below_drewN | apply below_drew1) | exact HB.out)⟩
                  · rw [if_neg c31] at H
                    have c31b0 : (t134 == a0) = false := beq_eq_false_iff_ne.mpr c31
                    have c31b1 : (t134 != a0) = true := bne_iff_ne.mpr c31
                    obtain rfl := Option.some.inj H
                    go_wp2_with (first | ((with_reducible refine gate_callee (f := 16) rfl ?_); refine goesL_ (some 84) rfl rfl Try.func16 (by kernel_rfl) rfl #[.string (t123 ++ a1)] rfl (by (try simp only [List.map_toArray, List.map_cons, List.map_nil]); first | done | rfl | (simp only [List.length_drop, List.length_take]; rfl)) ?_; (with_reducible refine (vari_Get.calls kj13 (t123 ++ a1) t134 t135 t136 _ A30.out).mono ?_); rintro e w' ⟨rfl, ⟨nd, rfl⟩⟩; refine ⟨_, rfl, ?_⟩))
                    go_ret
                    exact ⟨by first | rfl | (simp [errW_none, errW_some] <;> rfl) | (simp [*, errW_none, errW_some] <;> rfl), by repeat (first | (with_reducible first | exact HB.out | apply below_alloc | apply pw_below_drewN | apply below_drew1) | exact HB.out)⟩
                · rw [if_neg c29] at H
                  exact absurd H (by simp)
              · replace c28 := Bool.eq_false_iff.mpr c28
                subst c28
                have H1 : (some true) = some r := by rw [if_neg (show ¬ (false = true) by decide)] at H; exact H
                clear H
                have H := H1
                clear H1
                obtain rfl := Option.some.inj H
                go_wp2
                go_ret
                exact ⟨by first | rfl | (simp [errW_none, errW_some] <;> rfl) | (simp [*, errW_none, errW_some] <;> rfl), by repeat (first | (with_reducible first | exact HB.out | apply below_alloc | apply pw_below_drewN | apply below_drew1) | exact HB.out)⟩

/-- THE ONE PURE STATEMENT of lexiphanelaw3_VariTells: yours. -/
def lexiphanelaw3_VariTells.Pure : Prop := ∀ (a0 : Int) (a1 : ByteArray), (Lit.int .i64 a0).wf = true → a1.size ≤ 140737488351232 → ∃ k, lexiphanelaw3_VariTells.f k a0 a1 = some true
theorem lexiphanelaw3_VariTells.walk (P : lexiphanelaw3_VariTells.Pure) (a0 : Int) (a1 : ByteArray) (w : World) (w0 : (Lit.int .i64 a0).wf = true) (w1 : a1.size ≤ 140737488351232) :
    Calls Try.prog 3 #[.int .i64 a0, .string a1] w fun e w' => e = .returned (.bool true) ∧ Below w.heap.size w w' := by
  obtain ⟨k, h⟩ := P a0 a1 w0 w1
  refine (lexiphanelaw3_VariTells.calls k a0 a1 true w h).mono ?_
  rintro e w' ⟨rfl, hd⟩
  exact ⟨rfl, hd⟩

end Go.Proofs.Yticfnecibfofjaa.PVariTells
