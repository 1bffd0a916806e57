-- PRINTED BY print.sh 35421559b90ae4d0a3588c463048766b98c2df88dd9212a6774a882060cdf62d: not written by this session
import Derived.Test.YticfnecibfofjaaPVariJoinsx0
import Derived.Test.YticfnecibfofjaaPVariJoinsx1
namespace Go.Proofs.Yticfnecibfofjaa.PVariJoins
open Go.RowKit Go.Proofs.YticfnecibfofjaaW.PrintWords Go.Proofs.YticfnecibfofjaaW.PrintLast Go.Proofs.YticfnecibfofjaaW.PrintMore
attribute [local go_sem] max2_int min2_int max_two min_two max_three min_three max_four min_four   -- for this text's walks alone
set_option linter.unusedVariables false
set_option linter.unusedSimpArgs false

/-! ### lexiphanelaw3_VariJoins: function 7 -/
mutual
def lexiphanelaw3_VariJoins.j0 : Nat → List Int → Bool → Option (Bool)
  | 0, _, _ => none
  | k + 1, x0, x20 => if x20 = true then ((lexiphanelaw3_alive.f k).bind fun t116 => (some t116)) else (lexiphanelaw3_VariJoins.l0 k (⟨#[]⟩ : ByteArray) ([] : List Int) x0 (x0.length : Int) 0)
def lexiphanelaw3_VariJoins.l0 : Nat → ByteArray → List Int → List Int → Int → Int → Option (Bool)
  | 0, _, _, _, _, _ => none
  | k + 1, x3, x4, x22, x23, x24 => if x24 < x23 then (if 0 ≤ x24 then (if x24 < (x22.length : Int) then ((vari_Put.f k (rd x22 x24)).bind fun bt118 => (if bt118.2 = true then (if x3.size + bt118.1.size ≤ 9223372036854775807 then (if x4.length < 17592186044416 then (lexiphanelaw3_VariJoins.l0 k (x3 ++ bt118.1) (x4 ++ [rd x22 x24]) x22 x23 (wrap64 (x24 + 1))) else (none)) else (none)) else (lexiphanelaw3_VariJoins.l0 k x3 x4 x22 x23 (wrap64 (x24 + 1))))) else (none)) else (none)) else (lexiphanelaw3_VariJoins.l1 k x3 x4 (x4.length : Int) 0)
def lexiphanelaw3_VariJoins.l1 : Nat → ByteArray → List Int → Int → Int → Option (Bool)
  | 0, _, _, _, _ => none
  | k + 1, x3, x42, x43, x44 => if x44 < x43 then (if 0 ≤ x44 then (if x44 < (x42.length : Int) then ((vari_Get.f k x3).bind fun bt124 => (if bt124.2.2 = 0 then (if bt124.1 = (rd x42 x44) then ((vari_Len.f k (rd x42 x44)).bind fun t127 => (if bt124.2.1 = t127 then (if bt124.2.1 > (x3.size : Int) then (some false) else (if 0 ≤ bt124.2.1 then (if bt124.2.1 ≤ (x3.size : Int) then (lexiphanelaw3_VariJoins.l1 k (x3.extract (bt124.2.1 : Int).toNat x3.size) x42 x43 (wrap64 (x44 + 1))) else (none)) else (none))) else (some false))) else (some false)) else (some false))) else (none)) else (none)) else (some (x3.toList == ([] : List UInt8)))
end
def lexiphanelaw3_VariJoins.f (k : Nat) (l0 : List Int) : Option (Bool) := if (l0.length : Int) > 60 then (lexiphanelaw3_VariJoins.j0 k l0 true) else ((lexiphanelaw3_alive.f k).bind fun t115 => (lexiphanelaw3_VariJoins.j0 k l0 (!t115)))
theorem lexiphanelaw3_VariJoins.mono_l : ∀ k, (∀ y0 y1, LeO (lexiphanelaw3_VariJoins.j0 k y0 y1) (lexiphanelaw3_VariJoins.j0 (k + 1) y0 y1)) ∧ (∀ y0 y1 y2 y3 y4, LeO (lexiphanelaw3_VariJoins.l0 k y0 y1 y2 y3 y4) (lexiphanelaw3_VariJoins.l0 (k + 1) y0 y1 y2 y3 y4)) ∧ (∀ y0 y1 y2 y3, LeO (lexiphanelaw3_VariJoins.l1 k y0 y1 y2 y3) (lexiphanelaw3_VariJoins.l1 (k + 1) y0 y1 y2 y3))
  | 0 => ⟨fun _ _ r h => by simp [lexiphanelaw3_VariJoins.j0] at h, fun _ _ _ _ _ r h => by simp [lexiphanelaw3_VariJoins.l0] at h, fun _ _ _ _ r h => by simp [lexiphanelaw3_VariJoins.l1] at h⟩
  | k + 1 => by
    obtain ⟨ih0, ih1, ih2⟩ := lexiphanelaw3_VariJoins.mono_l k
    refine ⟨?_, ?_, ?_⟩
    · intro y0 y1
      unfold lexiphanelaw3_VariJoins.j0
      repeat' first
      | (with_reducible exact ih0 _ _)
      | (with_reducible exact ih1 _ _ _ _ _)
      | (with_reducible exact ih2 _ _ _ _)
      | (with_reducible exact lexiphanelaw3_alive.mono _)
      | (with_reducible exact vari_Get.mono _ _)
      | (with_reducible exact vari_Len.mono _ _)
      | (with_reducible exact vari_Put.mono _ _)
      | (with_reducible exact LeO.refl _)
      | (with_reducible exact LeO.none _)
      | (with_reducible refine LeO.ite ?_ ?_)
      | (with_reducible refine LeO.bind ?_ (fun _ => ?_))
      | exact ih0 _ _
      | exact ih1 _ _ _ _ _
      | exact ih2 _ _ _ _
      | exact lexiphanelaw3_alive.mono _
      | exact vari_Get.mono _ _
      | exact vari_Len.mono _ _
      | exact vari_Put.mono _ _
      | exact LeO.none _
      | refine LeO.ite ?_ ?_
      | refine LeO.bind ?_ (fun _ => ?_)
    · intro y0 y1 y2 y3 y4
      unfold lexiphanelaw3_VariJoins.l0
      repeat' first
      | (with_reducible exact ih0 _ _)
      | (with_reducible exact ih1 _ _ _ _ _)
      | (with_reducible exact ih2 _ _ _ _)
      | (with_reducible exact lexiphanelaw3_alive.mono _)
      | (with_reducible exact vari_Get.mono _ _)
      | (with_reducible exact vari_Len.mono _ _)
      | (with_reducible exact vari_Put.mono _ _)
      | (with_reducible exact LeO.refl _)
      | (with_reducible exact LeO.none _)
      | (with_reducible refine LeO.ite ?_ ?_)
      | (with_reducible refine LeO.bind ?_ (fun _ => ?_))
      | exact ih0 _ _
      | exact ih1 _ _ _ _ _
      | exact ih2 _ _ _ _
      | exact lexiphanelaw3_alive.mono _
      | exact vari_Get.mono _ _
      | exact vari_Len.mono _ _
      | exact vari_Put.mono _ _
      | exact LeO.none _
      | refine LeO.ite ?_ ?_
      | refine LeO.bind ?_ (fun _ => ?_)
    · intro y0 y1 y2 y3
      unfold lexiphanelaw3_VariJoins.l1
      repeat' first
      | (with_reducible exact ih0 _ _)
      | (with_reducible exact ih1 _ _ _ _ _)
      | (with_reducible exact ih2 _ _ _ _)
      | (with_reducible exact lexiphanelaw3_alive.mono _)
      | (with_reducible exact vari_Get.mono _ _)
      | (with_reducible exact vari_Len.mono _ _)
      | (with_reducible exact vari_Put.mono _ _)
      | (with_reducible exact LeO.refl _)
      | (with_reducible exact LeO.none _)
      | (with_reducible refine LeO.ite ?_ ?_)
      | (with_reducible refine LeO.bind ?_ (fun _ => ?_))
      | exact ih0 _ _
      | exact ih1 _ _ _ _ _
      | exact ih2 _ _ _ _
      | exact lexiphanelaw3_alive.mono _
      | exact vari_Get.mono _ _
      | exact vari_Len.mono _ _
      | exact vari_Put.mono _ _
      | exact LeO.none _
      | refine LeO.ite ?_ ?_
      | refine LeO.bind ?_ (fun _ => ?_)
theorem lexiphanelaw3_VariJoins.mono : ∀ a0 k, LeO (lexiphanelaw3_VariJoins.f k a0) (lexiphanelaw3_VariJoins.f (k + 1) a0) := by
  intro a0 k
  obtain ⟨ih0, ih1, ih2⟩ := lexiphanelaw3_VariJoins.mono_l k
  unfold lexiphanelaw3_VariJoins.f
  repeat' first
      | (with_reducible exact ih0 _ _)
      | (with_reducible exact ih1 _ _ _ _ _)
      | (with_reducible exact ih2 _ _ _ _)
      | (with_reducible exact lexiphanelaw3_alive.mono _)
      | (with_reducible exact vari_Get.mono _ _)
      | (with_reducible exact vari_Len.mono _ _)
      | (with_reducible exact vari_Put.mono _ _)
      | (with_reducible exact LeO.refl _)
      | (with_reducible exact LeO.none _)
      | (with_reducible refine LeO.ite ?_ ?_)
      | (with_reducible refine LeO.bind ?_ (fun _ => ?_))
      | exact ih0 _ _
      | exact ih1 _ _ _ _ _
      | exact ih2 _ _ _ _
      | exact lexiphanelaw3_alive.mono _
      | exact vari_Get.mono _ _
      | exact vari_Len.mono _ _
      | exact vari_Put.mono _ _
      | exact LeO.none _
      | refine LeO.ite ?_ ?_
      | refine LeO.bind ?_ (fun _ => ?_)
set_option maxHeartbeats 8000000 in
set_option maxRecDepth 100000 in
theorem lexiphanelaw3_VariJoins.calls (k : Nat) (A0 : Option Addr) (c0 : Nat) (l0 : List Int) (r : Bool) (w : World) (hr0 : Kd.C (Kd.int .i64) w A0 l0.length l0) (hc0 : l0.length ≤ c0) (h : lexiphanelaw3_VariJoins.f k l0 = some r) :
    Calls Try.prog 7 #[.slice A0 l0.length c0] w fun e w' => e = .returned (.bool r) ∧ Below w.heap.size w w' := by
  have HR0 := Aside0.mk hr0
  have HC0 := Aside0.mk hc0
  clear hr0 hc0
  have HB := Aside0.mk (Below.refl w.heap.size w)
  have H : (if (l0.length : Int) > 60 then (lexiphanelaw3_VariJoins.j0 k l0 true) else ((lexiphanelaw3_alive.f k).bind fun t115 => (lexiphanelaw3_VariJoins.j0 k l0 (!t115)))) = some r := h
  clear h
  have HC2 := Aside0.mk H
  clear H
  go_enter Try.func7, Try.ntmps7
  go_upto_region 1 with (fail)
  go_cut [20] (fun v20 wc => ∃ (kq : Nat) (x20_1 : Bool), v20 = .bool x20_1 ∧ Aside0 (lexiphanelaw3_VariJoins.j0 kq l0 x20_1 = some r) ∧ Aside0 (kq ≤ k) ∧ Aside0 (Below w.heap.size w wc))
  case first =>
    have H := HC2.out
    clear HC2
    by_cases c3 : (l0.length : Int) > 60
    · rw [if_pos c3] at H
      have c3b0 : decide (60 < (l0.length : Int)) = true := decide_eq_true c3
      have c3b1 : decide (60 < l0.length) = true := decide_eq_true (by omega)
      clear c3
      (first | rw [c3b0] | (simp only [i64_w, i32_w]; rw [c3b0]) | skip)
      have H' := Aside0.mk H
      clear H
      go_wp2
      go_meet
      case rel => exact ⟨_, (true), (by first | rfl | (simp; done) | (simp [*]; done)), H', ⟨by first | omega | exact Nat.le_refl _⟩, ⟨by repeat (first | (with_reducible first | exact HB.out | apply below_alloc | apply pw_below_drewN | apply below_drew1) | exact HB.out)⟩⟩
    · rw [if_neg c3] at H
      have c3b0 : decide (60 < (l0.length : Int)) = false := decide_eq_false c3
      have c3b1 : decide (60 < l0.length) = false := decide_eq_false (by omega)
      clear c3
      (first | rw [c3b0] | (simp only [i64_w, i32_w]; rw [c3b0]) | skip)
      replace H := Option.bind_eq_some_iff.mp H
      obtain ⟨t115, A40, H⟩ := H
      replace H : (lexiphanelaw3_VariJoins.j0 k l0 (!t115)) = some r := H
      have A4 := Aside0.mk A40
      clear A40
      have H' := Aside0.mk H
      clear H
      go_wp2_with (first | (go_at_call 13; (with_reducible refine (lexiphanelaw3_alive.calls k  t115 _ A4.out).mono ?_); rintro e w5 ⟨rfl, hb⟩; have n0_ := Aside0.mk (below_step (by repeat (first | (with_reducible first | exact HB.out | apply below_alloc | apply pw_below_drewN | apply below_drew1) | exact HB.out)) hb); clear HB; have HB := n0_; clear n0_; (try clear hb); (try clear hb2); (try clear hk); (try clear hi)))
      go_meet
      case rel => exact ⟨_, (!t115), (by first | rfl | (simp; done) | (simp [*]; done)), H', ⟨by first | omega | exact Nat.le_refl _⟩, ⟨by repeat (first | (with_reducible first | exact HB.out | apply below_alloc | apply pw_below_drewN | apply below_drew1) | exact HB.out)⟩⟩
  case rest =>
    clear HC2
    try clear p2
    try clear c3
    try clear c3b0
    try clear c3b1
    obtain ⟨kq, x20_1, rfl, HA, HJ1, HB⟩ := hcut
    cases kq with
    | zero => exact absurd HA.out (by simp [lexiphanelaw3_VariJoins.j0])
    | succ kj1 =>
      have H := HA.out
      clear HA
      simp only [lexiphanelaw3_VariJoins.j0] at H
      by_cases c6 : x20_1 = true
      · subst c6
        have H1 : ((lexiphanelaw3_alive.f kj1).bind fun t116 => (some t116)) = some r := by rw [if_pos rfl] at H; exact H
        clear H
        have H := H1
        clear H1
        replace H := Option.bind_eq_some_iff.mp H
        obtain ⟨t116, A70, H⟩ := H
        replace H : (some t116) = some r := H
        have A7 := Aside0.mk A70
        clear A70
        obtain rfl := Option.some.inj H
        go_wp2_with (first | ((with_reducible refine gate_callee (f := 13) rfl ?_); refine goesL_ (some 21) rfl rfl Try.func13 (by kernel_rfl) rfl #[] rfl (by (try simp only [List.map_toArray, List.map_cons, List.map_nil]); first | done | rfl | (simp only [List.length_drop, List.length_take]; rfl)) ?_; (with_reducible refine (lexiphanelaw3_alive.calls kj1  t116 _ A7.out).mono ?_); rintro e w8 ⟨rfl, hb⟩; refine ⟨_, rfl, ?_⟩; have n0_ := Aside0.mk (below_step (by repeat (first | (with_reducible first | exact HB.out | apply below_alloc | apply pw_below_drewN | apply below_drew1) | exact HB.out)) hb); clear HB; have HB := n0_; clear n0_; (try clear hb); (try clear hb2); (try clear hk); (try clear hi)))
        go_ret
        exact ⟨by first | rfl | (simp [errW_none, errW_some] <;> rfl) | (simp [*, errW_none, errW_some] <;> rfl), by repeat (first | (with_reducible first | exact HB.out | apply below_alloc | apply pw_below_drewN | apply below_drew1) | exact HB.out)⟩
      · replace c6 := Bool.eq_false_iff.mpr c6
        subst c6
        have H1 : (lexiphanelaw3_VariJoins.l0 kj1 (⟨#[]⟩ : ByteArray) ([] : List Int) l0 (l0.length : Int) 0) = some r := by rw [if_neg (show ¬ (false = true) by decide)] at H; exact H
        clear H
        have H := H1
        clear H1
        have H' := Aside0.mk H
        clear H
        go_wp2
        go_loopg [3, 4, 24] kj1 (fun kq v3 v4 v24 w' => ∃ (x3_2 : ByteArray) (x4_2 : List Int) (x24_2 : Int), v3 = .string x3_2 ∧ v24 = .int .i64 x24_2 ∧ Aside0 (lexiphanelaw3_VariJoins.l0 kq x3_2 x4_2 l0 (l0.length : Int) x24_2 = some r) ∧ Aside0 (kq ≤ kj1) ∧ Aside0 (Kd.R (Kd.int .i64) 3 w' w.heap.size (fun _ => True) v4 x4_2) ∧ Aside0 (Below w.heap.size w w'))
        case atStart => exact ⟨((⟨#[]⟩ : ByteArray)), (([] : List Int)), (0), (by first | rfl | (simp; done) | (simp [*]; done)), (by first | rfl | (simp; done) | (simp [*]; done)), H', ⟨Nat.le_refl _⟩, ⟨by first | exact Kd.R_nil _ _ _ _ _ | exact Kd.N_nil _ _ _ _ _ | exact Kd.V_nil _ _ _ _ _ | exact Kd.Q_nil _ _ _ _ _ | exact Kd.S_nil _ _ _ _ _⟩, ⟨by repeat (first | (with_reducible first | exact HB.out | apply below_alloc | apply pw_below_drewN | apply below_drew1) | exact HB.out)⟩⟩
        case round =>
          clear H'
          try clear c1
          try clear p2
          try clear c3
          try clear c3b0
          try clear c3b1
          try clear c6
          try clear c7
          try clear p2
          obtain ⟨x3_2, x4_2, x24_2, rfl, rfl, HA, HK2, HO_4, HB⟩ := hrel
          cases gk with
          | zero => exact absurd HA.out (by simp [lexiphanelaw3_VariJoins.l0])
          | succ k2 =>
            have H := HA.out
            clear HA
            simp only [lexiphanelaw3_VariJoins.l0] at H
            by_cases c9 : x24_2 < (l0.length : Int)
            · rw [if_pos c9] at H
              have c9b0 : decide (x24_2 < (l0.length : Int)) = true := decide_eq_true c9
              clear c9
              by_cases c10 : 0 ≤ x24_2
              · rw [if_pos c10] at H
                have c10b0 : decide (0 ≤ x24_2) = true := decide_eq_true c10
                clear c10
                by_cases c11 : x24_2 < (l0.length : Int)
                · rw [if_pos c11] at H
                  have c11b0 : decide (x24_2 < (l0.length : Int)) = true := decide_eq_true c11
                  clear c11
                  replace H := Option.bind_eq_some_iff.mp H
                  obtain ⟨⟨t118, t119⟩, A120, H⟩ := H
                  replace H : (if t119 = true then (if x3_2.size + t118.size ≤ 9223372036854775807 then (if x4_2.length < 17592186044416 then (lexiphanelaw3_VariJoins.l0 k2 (x3_2 ++ t118) (x4_2 ++ [rd l0 x24_2]) l0 (l0.length : Int) (wrap64 (x24_2 + 1))) else (none)) else (none)) else (lexiphanelaw3_VariJoins.l0 k2 x3_2 x4_2 l0 (l0.length : Int) (wrap64 (x24_2 + 1)))) = some r := H
                  have A12 := Aside0.mk A120
                  clear A120
                  by_cases c13 : t119 = true
                  · subst c13
                    have H1 : (if x3_2.size + t118.size ≤ 9223372036854775807 then (if x4_2.length < 17592186044416 then (lexiphanelaw3_VariJoins.l0 k2 (x3_2 ++ t118) (x4_2 ++ [rd l0 x24_2]) l0 (l0.length : Int) (wrap64 (x24_2 + 1))) else (none)) else (none)) = some r := by rw [if_pos rfl] at H; exact H
                    clear H
                    have H := H1
                    clear H1
                    by_cases c14 : x3_2.size + t118.size ≤ 9223372036854775807
                    · rw [if_pos c14] at H
                      have c14b0 := eq_true c14
                      have c14b1 : decide (x3_2.size + t118.size ≤ 9223372036854775807) = true := decide_eq_true c14
                      try have c14b2 : (9223372036854775807 < x3_2.size + t118.size) = False := eq_false (Nat.not_lt.2 c14)
                      by_cases c15 : x4_2.length < 17592186044416
                      · rw [if_pos c15] at H
                        have LMc15 := Aside0.mk c15
                        clear c15
                        obtain ⟨y120, hy120⟩ : ∃ y_ : List Int, y_ = (x4_2 ++ [rd l0 x24_2]) := ⟨_, rfl⟩
                        replace H : (lexiphanelaw3_VariJoins.l0 k2 (x3_2 ++ t118) y120 l0 (l0.length : Int) (wrap64 (x24_2 + 1))) = some r := by first | (rw [hy120]; with_reducible exact H) | (have H2_ := (Option.bind_some _ _).symm.trans H; rw [hy120]; with_reducible exact H2_) | (have H2_ := (Option.bind_some _ _).symm.trans H; with_reducible exact H2_) | with_reducible exact H | (rw [hy120]; exact H) | exact H
                        have Ny120 := Aside0.mk hy120
                        clear hy120
                        have H' := Aside0.mk H
                        clear H
                        have p117 : 0 ≤ (x24_2 : Int) := of_decide_eq_true (by first | (with_reducible assumption) | assumption)
                        have q117 : x24_2 < (l0.length : Int) := of_decide_eq_true (by first | (with_reducible assumption) | assumption)
                        obtain ⟨ad117, e117, hx117_0⟩ := Kd.at_int HR0.out x24_2 p117 q117
                        cases e117
                        replace hx117_0 := (HB.out.cell (World.block_lt_of_cell? w _ hx117_0)).trans hx117_0
                        replace p117 := eq_true p117
                        replace q117 := eq_true q117
                        go_wp2_with (first | ((with_reducible refine gate_callee (f := 14) rfl ?_); refine goesL_ (some 30) rfl rfl Try.func14 (by kernel_rfl) rfl #[.int .i64 (rd l0 x24_2)] rfl (by (try simp only [List.map_toArray, List.map_cons, List.map_nil]); first | done | rfl | (simp only [List.length_drop, List.length_take]; rfl)) ?_; (with_reducible refine (vari_Put.calls k2 (rd l0 x24_2) t118 true _ A12.out).mono ?_); rintro e w16 ⟨rfl, hb⟩; refine ⟨_, rfl, ?_⟩; have n0_ := Aside0.mk (Kd.R_below (by (with_reducible repeat (first | apply Kd.R_alloc | apply Kd.R_drewN | apply Kd.R_drew)); exact HO_4.out) hb); have n1_ := Aside0.mk (below_step (by repeat (first | (with_reducible first | exact HB.out | apply below_alloc | apply pw_below_drewN | apply below_drew1) | exact HB.out)) hb); clear HO_4; clear HB; have HO_4 := n0_; have HB := n1_; clear n0_ n1_; (try clear hb); (try clear hb2); (try clear hk); (try clear hi)) | ((with_reducible refine gate_builtin (b := .append) (xs := #[.tmp 37, .tmp 39]) rfl ?_); (try (refine gate_guard (by rfl) ?_; dsimp only)); at_builtin; refine Kd.R_append (Kd.int .i64) (w0 := w) w.heap.size rfl (.tmp 37) (.tmp 39) 34 3 (.int .i64 0) 8 rfl Try.underlying34 info3 rfl (by decide) (by omega) u4 x4_2 (rd l0 x24_2) [.int .i64 (rd l0 x24_2)] (fun _ => True) (fun _ => False) rfl rfl ?aP (fun _ hk => hk.elim) ?aF ?aO ?aB ?aS ?aL ?_; (case aP => exact rfl); (case aB => exact (by repeat (first | (with_reducible first | exact HB.out | apply below_alloc | apply pw_below_drewN | apply below_drew1) | exact HB.out))); (case aF => exact (fun _ _ => trivial)); (case aO => exact (by (with_reducible repeat (first | apply Kd.R_alloc | apply Kd.R_drewN | apply Kd.R_drew)); exact HO_4.out)); (case aS => exact (below_size (by repeat (first | (with_reducible first | exact HB.out | apply below_alloc | apply pw_below_drewN | apply below_drew1) | exact HB.out)))); (case aL => have := LMc15.out; omega); intro v121 w17 ho hb hg hat; rw [← Ny120.out] at ho; have n0_ := Aside0.mk (hb); have n1_ := Aside0.mk (ho); clear HB; clear HO_4; have HB := n0_; have HO122 := n1_; clear n0_ n1_; clear ho hb hg hat))
                        go_roundg k2
                        case measure => have := HJ1.out; have := HK2.out; omega
                        case rel => exact ⟨(x3_2 ++ t118), (y120), (wrap64 (x24_2 + 1)), (by first | rfl | (simp; done) | (simp [*]; done)), (by first | rfl | (simp; done) | (simp [*]; done)), H', ⟨by have := HJ1.out; have := HK2.out; omega⟩, ⟨by (with_reducible repeat (first | apply Kd.R_alloc | apply Kd.R_drewN | apply Kd.R_drew)); exact HO122.out⟩, ⟨by repeat (first | (with_reducible first | exact HB.out | apply below_alloc | apply pw_below_drewN | apply below_drew1) | exact HB.out)⟩⟩
                      · rw [if_neg c15] at H
                        exact absurd H (by simp)
                    · rw [if_neg c14] at H
                      exact absurd H (by simp)
                  · replace c13 := Bool.eq_false_iff.mpr c13
                    subst c13
                    have H1 : (lexiphanelaw3_VariJoins.l0 k2 x3_2 x4_2 l0 (l0.length : Int) (wrap64 (x24_2 + 1))) = some r := by rw [if_neg (show ¬ (false = true) by decide)] at H; exact H
                    clear H
                    have H := H1
                    clear H1
                    have H' := Aside0.mk H
                    clear H
                    have p117 : 0 ≤ (x24_2 : Int) := of_decide_eq_true (by first | (with_reducible assumption) | assumption)
                    have q117 : x24_2 < (l0.length : Int) := of_decide_eq_true (by first | (with_reducible assumption) | assumption)
                    obtain ⟨ad117, e117, hx117_0⟩ := Kd.at_int HR0.out x24_2 p117 q117
                    cases e117
                    replace hx117_0 := (HB.out.cell (World.block_lt_of_cell? w _ hx117_0)).trans hx117_0
                    replace p117 := eq_true p117
                    replace q117 := eq_true q117
                    go_wp2_with (first | ((with_reducible refine gate_callee (f := 14) rfl ?_); refine goesL_ (some 30) rfl rfl Try.func14 (by kernel_rfl) rfl #[.int .i64 (rd l0 x24_2)] rfl (by (try simp only [List.map_toArray, List.map_cons, List.map_nil]); first | done | rfl | (simp only [List.length_drop, List.length_take]; rfl)) ?_; (with_reducible refine (vari_Put.calls k2 (rd l0 x24_2) t118 false _ A12.out).mono ?_); rintro e w18 ⟨rfl, hb⟩; refine ⟨_, rfl, ?_⟩; have n0_ := Aside0.mk (Kd.R_below (by (with_reducible repeat (first | apply Kd.R_alloc | apply Kd.R_drewN | apply Kd.R_drew)); exact HO_4.out) hb); have n1_ := Aside0.mk (below_step (by repeat (first | (with_reducible first | exact HB.out | apply below_alloc | apply pw_below_drewN | apply below_drew1) | exact HB.out)) hb); clear HO_4; clear HB; have HO_4 := n0_; have HB := n1_; clear n0_ n1_; (try clear hb); (try clear hb2); (try clear hk); (try clear hi)))
                    go_roundg k2
                    case measure => have := HJ1.out; have := HK2.out; omega
                    case rel => exact ⟨(x3_2), (x4_2), (wrap64 (x24_2 + 1)), (by first | rfl | (simp; done) | (simp [*]; done)), (by first | rfl | (simp; done) | (simp [*]; done)), H', ⟨by have := HJ1.out; have := HK2.out; omega⟩, ⟨by (with_reducible repeat (first | apply Kd.R_alloc | apply Kd.R_drewN | apply Kd.R_drew)); exact HO_4.out⟩, ⟨by repeat (first | (with_reducible first | exact HB.out | apply below_alloc | apply pw_below_drewN | apply below_drew1) | exact HB.out)⟩⟩
                · rw [if_neg c11] at H
                  exact absurd H (by simp)
              · rw [if_neg c10] at H
                exact absurd H (by simp)
            · rw [if_neg c9] at H
              have c9b0 : decide (x24_2 < (l0.length : Int)) = false := decide_eq_false c9
              clear c9
              have H' := Aside0.mk H
              clear H
              obtain ⟨Ao19, co19, eo19⟩ := Kd.R_slice HO_4.out
              subst eo19
              go_wp2
              go_loopg [3, 44] k2 (fun kq v3 v44 w' => ∃ (x3_3 : ByteArray) (x44_3 : Int), v3 = .string x3_3 ∧ v44 = .int .i64 x44_3 ∧ Aside0 (lexiphanelaw3_VariJoins.l1 kq x3_3 x4_2 (x4_2.length : Int) x44_3 = some r) ∧ Aside0 (kq ≤ k2) ∧ Aside0 (Kd.R (Kd.int .i64) 3 w' w.heap.size (fun _ => True) (.slice Ao19 x4_2.length co19) x4_2) ∧ Aside0 (Below w.heap.size w w'))
              case atStart => exact ⟨(x3_2), (0), (by first | rfl | (simp; done) | (simp [*]; done)), (by first | rfl | (simp; done) | (simp [*]; done)), H', ⟨Nat.le_refl _⟩, ⟨by (with_reducible repeat (first | apply Kd.R_alloc | apply Kd.R_drewN | apply Kd.R_drew)); exact HO_4.out⟩, ⟨by repeat (first | (with_reducible first | exact HB.out | apply below_alloc | apply pw_below_drewN | apply below_drew1) | exact HB.out)⟩⟩
              case round =>
                clear H'
                try clear c1
                try clear p1
                try clear q1
                try clear hx1
                try clear p2
                try clear c3
                try clear c3b0
                try clear c3b1
                try clear c6
                try clear p6
                try clear c7
                try clear c9
                try clear c9b0
                try clear c10
                try clear c10b0
                try clear c11
                try clear c11b0
                try clear p11
                try clear q11
                try clear hx11
                try clear c13
                try clear c14
                try clear c14b0
                try clear c14b1
                try clear c14b2
                try clear c15
                try clear hx117_0
                try clear p117
                try clear p2
                try clear q117
                obtain ⟨x3_3, x44_3, rfl, rfl, HA, HK3, HO_42, HB⟩ := hrel
                cases gk with
                | zero => exact absurd HA.out (by simp [lexiphanelaw3_VariJoins.l1])
                | succ k3 =>
                  have H := HA.out
                  clear HA
                  simp only [lexiphanelaw3_VariJoins.l1] at H
                  by_cases c20 : x44_3 < (x4_2.length : Int)
                  · rw [if_pos c20] at H
                    have c20b0 : decide (x44_3 < (x4_2.length : Int)) = true := decide_eq_true c20
                    clear c20
                    by_cases c21 : 0 ≤ x44_3
                    · rw [if_pos c21] at H
                      have c21b0 : decide (0 ≤ x44_3) = true := decide_eq_true c21
                      clear c21
                      by_cases c22 : x44_3 < (x4_2.length : Int)
                      · rw [if_pos c22] at H
                        have c22b0 : decide (x44_3 < (x4_2.length : Int)) = true := decide_eq_true c22
                        clear c22
                        replace H := Option.bind_eq_some_iff.mp H
                        obtain ⟨⟨t124, t125, t126⟩, A230, H⟩ := H
                        replace H : (if t126 = 0 then (if t124 = (rd x4_2 x44_3) then ((vari_Len.f k3 (rd x4_2 x44_3)).bind fun t127 => (if t125 = t127 then (if t125 > (x3_3.size : Int) then (some false) else (if 0 ≤ t125 then (if t125 ≤ (x3_3.size : Int) then (lexiphanelaw3_VariJoins.l1 k3 (x3_3.extract (t125 : Int).toNat x3_3.size) x4_2 (x4_2.length : Int) (wrap64 (x44_3 + 1))) else (none)) else (none))) else (some false))) else (some false)) else (some false)) = some r := H
                        have A23 := Aside0.mk A230
                        clear A230
                        by_cases c24 : t126 = 0
                        · rw [if_pos c24] at H
                          have c24b0 : (t126 == 0) = true := beq_iff_eq.mpr c24
                          have c24b1 : (t126 != 0) = false := bne_eq_false_iff_eq.mpr c24
                          clear c24
                          by_cases c25 : t124 = (rd x4_2 x44_3)
                          · rw [if_pos c25] at H
                            have c25b0 : (t124 == (rd x4_2 x44_3)) = true := beq_iff_eq.mpr c25
                            have c25b1 : (t124 != (rd x4_2 x44_3)) = false := bne_eq_false_iff_eq.mpr c25
                            clear c25
                            replace H := Option.bind_eq_some_iff.mp H
                            obtain ⟨t127, A260, H⟩ := H
                            replace H : (if t125 = t127 then (if t125 > (x3_3.size : Int) then (some false) else (if 0 ≤ t125 then (if t125 ≤ (x3_3.size : Int) then (lexiphanelaw3_VariJoins.l1 k3 (x3_3.extract (t125 : Int).toNat x3_3.size) x4_2 (x4_2.length : Int) (wrap64 (x44_3 + 1))) else (none)) else (none))) else (some false)) = some r := H
                            have A26 := Aside0.mk A260
                            clear A260
                            by_cases c27 : t125 = t127
                            · rw [if_pos c27] at H
                              have c27b0 : (t125 == t127) = true := beq_iff_eq.mpr c27
                              have c27b1 : (t125 != t127) = false := bne_eq_false_iff_eq.mpr c27
                              clear c27
                              by_cases c28 : t125 > (x3_3.size : Int)
                              · rw [if_pos c28] at H
                                have c28b0 : decide ((x3_3.size : Int) < t125) = true := decide_eq_true c28
                                clear c28
                                obtain rfl := Option.some.inj H
                                have p123 : 0 ≤ (x44_3 : Int) := of_decide_eq_true (by first | (with_reducible assumption) | assumption)
                                have q123 : x44_3 < (x4_2.length : Int) := of_decide_eq_true (by first | (with_reducible assumption) | assumption)
                                obtain ⟨ad123, e123, hx123_0⟩ := Kd.at_int (Kd.R_reads' HO_42.out).2.2 x44_3 p123 q123
                                cases e123
                                replace p123 := eq_true p123
                                replace q123 := eq_true q123
                                go_wp2_with (first | ((with_reducible refine gate_callee (f := 16) rfl ?_); refine goesL_ (some 50) rfl rfl Try.func16 (by kernel_rfl) rfl #[.string x3_3] rfl (by (try simp only [List.map_toArray, List.map_cons, List.map_nil]); first | done | rfl | (simp only [List.length_drop, List.length_take]; rfl)) ?_; (with_reducible refine (vari_Get.calls k3 x3_3 t124 t125 t126 _ A23.out).mono ?_); rintro e w' ⟨rfl, ⟨nd, rfl⟩⟩; refine ⟨_, rfl, ?_⟩) | (go_at_call 18; (with_reducible refine (vari_Len.calls k3 (rd x4_2 x44_3) t127 _ A26.out).mono ?_); rintro e w29 ⟨rfl, hb⟩; have n0_ := Aside0.mk (Kd.R_below (by (with_reducible repeat (first | apply Kd.R_alloc | apply Kd.R_drewN | apply Kd.R_drew)); exact HO_42.out) hb); have n1_ := Aside0.mk (below_step (by repeat (first | (with_reducible first | exact HB.out | apply below_alloc | apply pw_below_drewN | apply below_drew1) | exact HB.out)) hb); clear HO_42; clear HB; have HO_42 := n0_; have HB := n1_; clear n0_ n1_; (try clear hb); (try clear hb2); (try clear hk); (try clear hi)))
                                go_ret
                                exact ⟨by first | rfl | (simp [errW_none, errW_some] <;> rfl) | (simp [*, errW_none, errW_some] <;> rfl), by repeat (first | (with_reducible first | exact HB.out | apply below_alloc | apply pw_below_drewN | apply below_drew1) | exact HB.out)⟩
                              · rw [if_neg c28] at H
                                have c28b0 : decide ((x3_3.size : Int) < t125) = false := decide_eq_false c28
                                clear c28
                                by_cases c30 : 0 ≤ t125
                                · rw [if_pos c30] at H
                                  have c30b0 := eq_true c30
                                  have c30b1 : decide (0 ≤ t125) = true := decide_eq_true c30
                                  clear c30
                                  by_cases c31 : t125 ≤ (x3_3.size : Int)
                                  · rw [if_pos c31] at H
                                    have c31b0 := eq_true c31
                                    have c31b1 : decide (t125 ≤ (x3_3.size : Int)) = true := decide_eq_true c31
                                    clear c31
                                    have H' := Aside0.mk H
                                    clear H
                                    have p123 : 0 ≤ (x44_3 : Int) := of_decide_eq_true (by first | (with_reducible assumption) | assumption)
                                    have q123 : x44_3 < (x4_2.length : Int) := of_decide_eq_true (by first | (with_reducible assumption) | assumption)
                                    obtain ⟨ad123, e123, hx123_0⟩ := Kd.at_int (Kd.R_reads' HO_42.out).2.2 x44_3 p123 q123
                                    cases e123
                                    replace p123 := eq_true p123
                                    replace q123 := eq_true q123
                                    go_wp2_with (first | ((with_reducible refine gate_callee (f := 16) rfl ?_); refine goesL_ (some 50) rfl rfl Try.func16 (by kernel_rfl) rfl #[.string x3_3] rfl (by (try simp only [List.map_toArray, List.map_cons, List.map_nil]); first | done | rfl | (simp only [List.length_drop, List.length_take]; rfl)) ?_; (with_reducible refine (vari_Get.calls k3 x3_3 t124 t125 t126 _ A23.out).mono ?_); rintro e w' ⟨rfl, ⟨nd, rfl⟩⟩; refine ⟨_, rfl, ?_⟩) | (go_at_call 18; (with_reducible refine (vari_Len.calls k3 (rd x4_2 x44_3) t127 _ A26.out).mono ?_); rintro e w32 ⟨rfl, hb⟩; have n0_ := Aside0.mk (Kd.R_below (by (with_reducible repeat (first | apply Kd.R_alloc | apply Kd.R_drewN | apply Kd.R_drew)); exact HO_42.out) hb); have n1_ := Aside0.mk (below_step (by repeat (first | (with_reducible first | exact HB.out | apply below_alloc | apply pw_below_drewN | apply below_drew1) | exact HB.out)) hb); clear HO_42; clear HB; have HO_42 := n0_; have HB := n1_; clear n0_ n1_; (try clear hb); (try clear hb2); (try clear hk); (try clear hi)))
                                    go_roundg k3
                                    case measure => have := HJ1.out; have := HK2.out; have := HK3.out; omega
                                    case rel => exact ⟨(x3_3.extract (t125 : Int).toNat x3_3.size), (wrap64 (x44_3 + 1)), (by first | rfl | (simp; done) | (simp [*]; done)), (by first | rfl | (simp; done) | (simp [*]; done)), H', ⟨by have := HJ1.out; have := HK2.out; have := HK3.out; omega⟩, ⟨by (with_reducible repeat (first | apply Kd.R_alloc | apply Kd.R_drewN | apply Kd.R_drew)); exact HO_42.out⟩, ⟨by repeat (first | (with_reducible first | exact HB.out | apply below_alloc | apply pw_below_drewN | apply below_drew1) | exact HB.out)⟩⟩
                                  · rw [if_neg c31] at H
                                    exact absurd H (by simp)
                                · rw [if_neg c30] at H
                                  exact absurd H (by simp)
                            · rw [if_neg c27] at H
                              have c27b0 : (t125 == t127) = false := beq_eq_false_iff_ne.mpr c27
                              have c27b1 : (t125 != t127) = true := bne_iff_ne.mpr c27
                              obtain rfl := Option.some.inj H
                              have p123 : 0 ≤ (x44_3 : Int) := of_decide_eq_true (by first | (with_reducible assumption) | assumption)
                              have q123 : x44_3 < (x4_2.length : Int) := of_decide_eq_true (by first | (with_reducible assumption) | assumption)
                              obtain ⟨ad123, e123, hx123_0⟩ := Kd.at_int (Kd.R_reads' HO_42.out).2.2 x44_3 p123 q123
                              cases e123
                              replace p123 := eq_true p123
                              replace q123 := eq_true q123
                              go_wp2_with (first | ((with_reducible refine gate_callee (f := 16) rfl ?_); refine goesL_ (some 50) rfl rfl Try.func16 (by kernel_rfl) rfl #[.string x3_3] rfl (by (try simp only [List.map_toArray, List.map_cons, List.map_nil]); first | done | rfl | (simp only [List.length_drop, List.length_take]; rfl)) ?_; (with_reducible refine (vari_Get.calls k3 x3_3 t124 t125 t126 _ A23.out).mono ?_); rintro e w' ⟨rfl, ⟨nd, rfl⟩⟩; refine ⟨_, rfl, ?_⟩) | (go_at_call 18; (with_reducible refine (vari_Len.calls k3 (rd x4_2 x44_3) t127 _ A26.out).mono ?_); rintro e w33 ⟨rfl, hb⟩; have n0_ := Aside0.mk (Kd.R_below (by (with_reducible repeat (first | apply Kd.R_alloc | apply Kd.R_drewN | apply Kd.R_drew)); exact HO_42.out) hb); have n1_ := Aside0.mk (below_step (by repeat (first | (with_reducible first | exact HB.out | apply below_alloc | apply pw_below_drewN | apply below_drew1) | exact HB.out)) hb); clear HO_42; clear HB; have HO_42 := n0_; have HB := n1_; clear n0_ n1_; (try clear hb); (try clear hb2); (try clear hk); (try clear hi)))
                              go_ret
                              exact ⟨by first | rfl | (simp [errW_none, errW_some] <;> rfl) | (simp [*, errW_none, errW_some] <;> rfl), by repeat (first | (with_reducible first | exact HB.out | apply below_alloc | apply pw_below_drewN | apply below_drew1) | exact HB.out)⟩
                          · rw [if_neg c25] at H
                            have c25b0 : (t124 == (rd x4_2 x44_3)) = false := beq_eq_false_iff_ne.mpr c25
                            have c25b1 : (t124 != (rd x4_2 x44_3)) = true := bne_iff_ne.mpr c25
                            obtain rfl := Option.some.inj H
                            have p123 : 0 ≤ (x44_3 : Int) := of_decide_eq_true (by first | (with_reducible assumption) | assumption)
                            have q123 : x44_3 < (x4_2.length : Int) := of_decide_eq_true (by first | (with_reducible assumption) | assumption)
                            obtain ⟨ad123, e123, hx123_0⟩ := Kd.at_int (Kd.R_reads' HO_42.out).2.2 x44_3 p123 q123
                            cases e123
                            replace p123 := eq_true p123
                            replace q123 := eq_true q123
                            go_wp2_with (first | ((with_reducible refine gate_callee (f := 16) rfl ?_); refine goesL_ (some 50) rfl rfl Try.func16 (by kernel_rfl) rfl #[.string x3_3] rfl (by (try simp only [List.map_toArray, List.map_cons, List.map_nil]); first | done | rfl | (simp only [List.length_drop, List.length_take]; rfl)) ?_; (with_reducible refine (vari_Get.calls k3 x3_3 t124 t125 t126 _ A23.out).mono ?_); rintro e w' ⟨rfl, ⟨nd, rfl⟩⟩; refine ⟨_, rfl, ?_⟩))
                            go_ret
                            exact ⟨by first | rfl | (simp [errW_none, errW_some] <;> rfl) | (simp [*, errW_none, errW_some] <;> rfl), by repeat (first | (with_reducible first | exact HB.out | apply below_alloc | apply pw_below_drewN | apply below_drew1) | exact HB.out)⟩
                        · rw [if_neg c24] at H
                          have c24b0 : (t126 == 0) = false := beq_eq_false_iff_ne.mpr c24
                          have c24b1 : (t126 != 0) = true := bne_iff_ne.mpr c24
                          obtain rfl := Option.some.inj H
                          have p123 : 0 ≤ (x44_3 : Int) := of_decide_eq_true (by first | (with_reducible assumption) | assumption)
                          have q123 : x44_3 < (x4_2.length : Int) := of_decide_eq_true (by first | (with_reducible assumption) | assumption)
                          obtain ⟨ad123, e123, hx123_0⟩ := Kd.at_int (Kd.R_reads' HO_42.out).2.2 x44_3 p123 q123
                          cases e123
                          replace p123 := eq_true p123
                          replace q123 := eq_true q123
                          go_wp2_with (first | ((with_reducible refine gate_callee (f := 16) rfl ?_); refine goesL_ (some 50) rfl rfl Try.func16 (by kernel_rfl) rfl #[.string x3_3] rfl (by (try simp only [List.map_toArray, List.map_cons, List.map_nil]); first | done | rfl | (simp only [List.length_drop, List.length_take]; rfl)) ?_; (with_reducible refine (vari_Get.calls k3 x3_3 t124 t125 t126 _ A23.out).mono ?_); rintro e w' ⟨rfl, ⟨nd, rfl⟩⟩; refine ⟨_, rfl, ?_⟩))
                          go_ret
                          exact ⟨by first | rfl | (simp [errW_none, errW_some] <;> rfl) | (simp [*, errW_none, errW_some] <;> rfl), by repeat (first | (with_reducible first | exact HB.out | apply below_alloc | apply pw_below_drewN | apply below_drew1) | exact HB.out)⟩
                      · rw [if_neg c22] at H
                        exact absurd H (by simp)
                    · rw [if_neg c21] at H
                      exact absurd H (by simp)
                  · rw [if_neg c20] at H
                    have c20b0 : decide (x44_3 < (x4_2.length : Int)) = false := decide_eq_false c20
                    clear c20
                    obtain rfl := Option.some.inj H
                    go_wp2
                    go_ret
                    exact ⟨by first | rfl | (simp [errW_none, errW_some] <;> rfl) | (simp [*, errW_none, errW_some] <;> rfl), by repeat (first | (with_reducible first | exact HB.out | apply below_alloc | apply pw_below_drewN | apply below_drew1) | exact HB.out)⟩

/-- THE ONE PURE STATEMENT of lexiphanelaw3_VariJoins: yours. -/
def lexiphanelaw3_VariJoins.Pure : Prop := ∀ (l0 : List Int), l0.length ≤ maxLen → l0.length * 8 ≤ 140737488351232 → (∀ x ∈ l0, (Lit.int .i64 x).wf = true) → ∃ k, lexiphanelaw3_VariJoins.f k l0 = some true
theorem lexiphanelaw3_VariJoins.walk (P : lexiphanelaw3_VariJoins.Pure) (a0 : Option Addr) (len0 cap0 : Nat) (z0 : List Int) (w : World) (w0 : (a0 = none ∧ len0 = 0 ∧ cap0 = 0 ∧ z0 = []) ∨ ∃ x, a0 = some x ∧ len0 ≤ cap0 ∧ cap0 ≤ maxLen ∧ z0.length = cap0 ∧ (∀ i, i < z0.length → w.cell? (x.add i) = some (.int .i64 (z0.getD i 0))) ∧ ∀ n ∈ z0, (Lit.int .i64 n).wf = true) (y0 : len0 * 8 ≤ 140737488351232) :
    Calls Try.prog 7 #[.slice a0 len0 cap0] w fun e w' => e = .returned (.bool true) ∧ Below w.heap.size w w' := by
  obtain ⟨l0, rfl, hr0, hm0, hw0, hc0⟩ := ReadsInt.ofRowC w0
  obtain ⟨k, h⟩ := P l0 hm0 y0 hw0
  refine (lexiphanelaw3_VariJoins.calls k _ _ l0 true w (Kd.C_of_reads (d := (0 : Int)) (h1 := fun _ => rfl) hr0) hc0 h).mono ?_
  rintro e w' ⟨rfl, hd⟩
  exact ⟨rfl, hd⟩

end Go.Proofs.Yticfnecibfofjaa.PVariJoins
