/- Chapter 15: a greater window, of which the lesser one is a part, never takes more tokens. -/
import Derived.Test.YtfiflloieojgbaaBestTile
namespace Go.Proofs.Ytfiflloieojgbaa.Best
set_option linter.unusedVariables false
set_option linter.unusedSimpArgs false
open Go.RowKit Go.Proofs.YtfiflloieojgbaaW.PrintWords Go.Proofs.YtfiflloieojgbaaW.PrintMore Go.Proofs.Ytfiflloieojgbaa.L Go.Proofs.Ytfiflloieojgbaa.Texts Go.Proofs.Ytfiflloieojgbaa.Dict Go.Proofs.Ytfiflloieojgbaa.Ints Go.Proofs.Ytfiflloieojgbaa.Greedy Go.Proofs.Ytfiflloieojgbaa.Cost Go.Proofs.Ytfiflloieojgbaa.Fl Go.Proofs.Ytfiflloieojgbaa.Say

theorem lessB_no {a b : Cst} (h : ¬ lt a b) : lessB a.1 a.2 b.1 b.2 = false := by rw [lessB_lt]; exact decide_eq_false h
theorem dict_has {e : Ending} {w1 : World} {l : List ByteArray} {b : ByteArray} (h : (dictIn l b ∧ ∃ k, e = .returned (.tuple #[.pointer (some ⟨k, 0, none⟩), .bool true]) ∧ DC w1 k l) ∨ (¬ dictIn l b ∧ e = .returned (.tuple #[.pointer none, .bool false]))) :
    (∃ k, e = .returned (.tuple #[.pointer (some ⟨k, 0, none⟩), .bool true]) ∧ Hid (DP w1 (some ⟨k, 0, none⟩) l) ∧ Hid (okTexts l) ∧ b.size ≤ 400) ∨ e = .returned (.tuple #[.pointer none, .bool false]) := by
  rcases h with ⟨hin, k, rfl, hd⟩ | ⟨_, rfl⟩
  · exact .inl ⟨k, rfl, .inr ⟨k, rfl, hd⟩, hin.2.2, hin.2.1⟩
  · exact .inr rfl
set_option maxRecDepth 100000 in
set_option maxHeartbeats 2000000 in
theorem BestWindows_walk (A : Option Addr) (l : List ByteArray) (c : Nat) (b : ByteArray) (win t : Int) (w : World)
    (hl : KS.C w A l.length l) (hc : l.length ≤ c) (h16 : l.length * 16 ≤ 140737488351232) (hs : ∀ s ∈ l, s.size ≤ 140737488351232) (hbs : b.size ≤ 140737488351232) (hwin : (Lit.int .i64 win).wf = true) (htt : (Lit.int .i64 t).wf = true) :
    Calls Try.prog 7 #[.slice A l.length c, .string b, .int .i64 win, .int .i64 t] w fun e w' => e = .returned (.bool true) ∧ Below w.heap.size w w' := by
  have HL := Lib.hid hl
  go_enter Try.func7, Try.ntmps7
  go_wp2_with (fail)
  refine (dict_any _ _ _ l _ _ hl hs).mono ?_
  clear hl hs
  rintro e w1 ⟨hb1, hcase⟩
  have HB1 := Lib.hid hb1
  have HL1 := Lib.hid (Kd.C_below HL.out hb1)
  clear hb1 HL
  rcases dict_has hcase with ⟨dk, rfl, HD, HOK, hb400⟩ | rfl
  · clear hcase hwin htt hbs
    by_cases g1 : win < 1
    · go_wp2_with (go_at_call 12; refine (alive_any _).mono ?_; rintro e w5 ⟨rfl, hb5⟩)
      go_ret
      exact ⟨rfl, Ints.bel_trans HB1.out HB1.out.size hb5⟩
    · have g1 : 1 ≤ win := by omega
      by_cases g2 : t < 1
      · go_wp2_with (go_at_call 12; refine (alive_any _).mono ?_; rintro e w5 ⟨rfl, hb5⟩)
        go_ret
        exact ⟨rfl, Ints.bel_trans HB1.out HB1.out.size hb5⟩
      · have g2 : 1 ≤ t := by omega
        by_cases g3 : 1024 < win
        · go_wp2_with (go_at_call 12; refine (alive_any _).mono ?_; rintro e w5 ⟨rfl, hb5⟩)
          go_ret
          exact ⟨rfl, Ints.bel_trans HB1.out HB1.out.size hb5⟩
        · have g3 : win ≤ 1024 := by omega
          by_cases g4 : 1024 < t
          · go_wp2_with (go_at_call 12; refine (alive_any _).mono ?_; rintro e w5 ⟨rfl, hb5⟩)
            go_ret
            exact ⟨rfl, Ints.bel_trans HB1.out HB1.out.size hb5⟩
          · have g4 : t ≤ 1024 := by omega
            obtain ⟨W, rfl⟩ := Int.eq_ofNat_of_zero_le (by omega : 0 ≤ win)
            obtain ⟨T, rfl⟩ := Int.eq_ofNat_of_zero_le (by omega : 0 ≤ t)
            obtain ⟨P, hP⟩ : ∃ P, W * T = P := ⟨_, rfl⟩
            have hPi : (W : Int) * (T : Int) = (P : Int) := by rw [← hP, Int.natCast_mul]
            have hPl : P ≤ 1048576 := by
              rw [← hP]
              exact Nat.mul_le_mul (show W ≤ 1024 by omega) (show T ≤ 1024 by omega)
            have hPw : wrap64 (P : Int) = P := by unfold wrap64; omega
            by_cases g5 : 1024 < P
            · have g5i : (1024 : Int) < (P : Int) := by omega
              clear hP
              go_wp2_with (go_at_call 12; refine (alive_any _).mono ?_; rintro e w5 ⟨rfl, hb5⟩)
              go_ret
              exact ⟨rfl, Ints.bel_trans HB1.out HB1.out.size hb5⟩
            · have g5i : (P : Int) ≤ 1024 := by omega
              have hP1 : 1 ≤ P := by rw [← hP]; exact Nat.mul_pos (by omega) (by omega)
              have HT1 := Lib.hid (best_tiles HOK.out (show 1 ≤ W by omega) b.size b (Nat.le_refl _) (by omega))
              have HT2 := Lib.hid (best_tiles HOK.out (show 1 ≤ P by omega) b.size b (Nat.le_refl _) (by omega))
              have HWN := Lib.hid (windows HOK.out (show 1 ≤ W by omega) (show 1 ≤ T by omega) b.size b (Nat.le_refl _) (by omega))
              rw [hP] at HWN
              have HP := Lib.hid hP
              clear hP
              go_wp2_with (fail)
              refine (alive_any _).mono ?_
              rintro e w2 ⟨rfl, hb2⟩
              have HB2 := Lib.hid (Ints.bel_trans HB1.out HB1.out.size hb2)
              have HD2 := Lib.hid (HD.out.below hb2)
              have HL2 := Lib.hid (Kd.C_below HL1.out hb2)
              clear hb2 HB1 HD HL1
              go_wp2_with (fail)
              refine (parse_any _ l b W _ HD2.out HOK.out (by omega) (by omega) (by omega)).mono ?_
              rintro e w3 ⟨v, rfl, hr, hb3⟩
              obtain ⟨p, hp⟩ : ∃ p, best l W b = p := ⟨_, rfl⟩
              rw [hp] at HT1 HWN hr
              obtain ⟨A3, c3, rfl⟩ := Kd.R_slice hr
              have HC3 := Lib.hid (Kd.R_reads' hr).2.2
              have HB3 := Lib.hid (Ints.bel_trans HB2.out HB2.out.size hb3)
              have HD3 := Lib.hid (HD2.out.below hb3)
              have HL3 := Lib.hid (Kd.C_below HL2.out hb3)
              clear hr hb3 HB2 HD2 HL2 hp
              go_wp2_with (fail)
              refine (parse_any _ l b P _ HD3.out HOK.out (by omega) (by omega) (by omega)).mono ?_
              rintro e w4 ⟨v, rfl, hr, hb4⟩
              obtain ⟨q, hq⟩ : ∃ q, best l P b = q := ⟨_, rfl⟩
              rw [hq] at HT2 HWN hr
              obtain ⟨A4, c4, rfl⟩ := Kd.R_slice hr
              have HC4 := Lib.hid (Kd.R_reads' hr).2.2
              have HC34 := Lib.hid (Kd.C_below HC3.out hb4)
              have HB4 := Lib.hid (Ints.bel_trans HB3.out HB3.out.size hb4)
              have HL4 := Lib.hid (Kd.C_below HL3.out hb4)
              have hlen : (q.length : Int) ≤ (p.length : Int) := by have := HWN.out.1; omega
              have h100 := HOK.out.1
              have f1 := tiles_few h100 p HT1.out
              have f2 := tiles_few h100 q HT2.out
              have pl : p.length ≤ 400 := by omega
              have ql : q.length ≤ 400 := by omega
              have HF1 := Lib.hid f1.2
              have HF2 := Lib.hid f2.2
              clear hr hb4 HB3 HD3 HL3 HC3 hq f1 f2
              go_wp2_with (fail)
              refine (says_any _ _ _ _ _ l p b _ HL4.out HOK.out HC34.out HF1.out (by omega) (by omega)).mono ?_
              rintro e w5 ⟨rfl, hb5⟩
              rw [says_of HT1.out.1 HT1.out.2]
              have HB5 := Lib.hid (Ints.bel_trans HB4.out HB4.out.size hb5)
              have HC5 := Lib.hid (Kd.C_below HC34.out hb5)
              have HX5 := Lib.hid (Kd.C_below HC4.out hb5)
              have HL5 := Lib.hid (Kd.C_below HL4.out hb5)
              clear hb5 HB4 HC34 HC4 HL4
              go_wp2_with (fail)
              refine (says_any _ _ _ _ _ l q b _ HL5.out HOK.out HX5.out HF2.out (by omega) (by omega)).mono ?_
              rintro e w6 ⟨rfl, hb6⟩
              rw [says_of HT2.out.1 HT2.out.2]
              have HB6 := Lib.hid (Ints.bel_trans HB5.out HB5.out.size hb6)
              have HC6 := Lib.hid (Kd.C_below HC5.out hb6)
              have HX6 := Lib.hid (Kd.C_below HX5.out hb6)
              clear hb6 HB5 HC5 HX5 HL5
              go_wp2_with (fail)
              refine (sum_any _ _ p _ HC6.out (by omega)).mono ?_
              rintro e w7 ⟨rfl, hb7⟩
              have HB7 := Lib.hid (Ints.bel_trans HB6.out HB6.out.size hb7)
              have HX7 := Lib.hid (Kd.C_below HX6.out hb7)
              clear hb7 HB6 HC6 HX6
              go_wp2_with (fail)
              refine (sum_any _ _ q _ HX7.out (by omega)).mono ?_
              rintro e w8 ⟨rfl, hb8⟩
              have HB8 := Lib.hid (Ints.bel_trans HB7.out HB7.out.size hb8)
              have hbg : big = 9007199254740992 := rfl
              have s1 := sumT_le p
              have s2 := sumB_le p
              have s3 := sumT_le q
              have s4 := sumB_le q
              clear hb8 HB7 HX7
              go_wp2_with (fail)
              refine (less_any _ _ _ _ _ (by omega) (by omega) (by omega) (by omega)).mono ?_
              rintro e w9 ⟨rfl, rfl⟩
              rw [show lessB (sumT p) (sumB p) (sumT q) (sumB q) = false from lessB_no HWN.out.2]
              go_wp2_with (fail)
              go_ret
              exact ⟨rfl, HB8.out⟩
  · go_wp2_with (go_at_call 12; refine (alive_any _).mono ?_; rintro e w5 ⟨rfl, hb5⟩)
    go_ret
    exact ⟨rfl, Ints.bel_trans HB1.out HB1.out.size hb5⟩
end Go.Proofs.Ytfiflloieojgbaa.Best
