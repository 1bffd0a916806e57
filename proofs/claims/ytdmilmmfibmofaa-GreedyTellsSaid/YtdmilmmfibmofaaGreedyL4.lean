/- Chapter 13: of every dictionary, every bytes: the tokens, which mean these bytes; the token at each place; lists kept, marked, grown. -/
import Derived.Test.YtdmilmmfibmofaaGreedyL2
import Derived.Test.YtdmilmmfibmofaaRefParse
import Derived.Test.YtdmilmmfibmofaaBookApart
namespace Go.Proofs.Ytdmilmmfibmofaa.Greedy
set_option linter.unusedVariables false
set_option linter.unusedSimpArgs false
open Go.RowKit Go.Proofs.YtdmilmmfibmofaaW.PrintWords Go.Proofs.YtdmilmmfibmofaaW.PrintMore Go.Proofs.Ytdmilmmfibmofaa.L Go.Proofs.Ytdmilmmfibmofaa.Texts Go.Proofs.Ytdmilmmfibmofaa.Dict Go.Proofs.Ytdmilmmfibmofaa.Ints Go.Proofs.Ytdmilmmfibmofaa.Say Go.Proofs.Ytdmilmmfibmofaa.Book

set_option maxRecDepth 100000 in
set_option maxHeartbeats 4000000 in
theorem GreedyTells_walk (A : Option Addr) (l : List ByteArray) (c : Nat) (b : ByteArray) (at_ : Int) (w : World)
    (hl : KS.C w A l.length l) (hc : l.length ≤ c) (h16 : l.length * 16 ≤ 140737488351232) (hs : ∀ s ∈ l, s.size ≤ 140737488351232) (hbs : b.size ≤ 140737488351232) (hat : (Lit.int .i64 at_).wf = true) :
    Calls Try.prog 8 #[.slice A l.length c, .string b, .int .i64 at_] w fun e w' => e = .returned (.bool true) ∧ Below w.heap.size w w' := by
  have HL := Lib.hid hl
  go_enter Try.func8, Try.ntmps8
  go_wp2_with (fail)
  refine (dict_any _ _ _ l _ _ hl hs).mono ?_
  clear hl hs hat
  rintro e w1 ⟨hb1, ⟨hin, bk, rfl, hd⟩ | ⟨hin, rfl⟩⟩
  · have HB1 := Lib.hid hb1
    have HD := Lib.hid (show DP w1 (some ⟨bk, 0, none⟩) l from .inr ⟨bk, rfl, hd⟩)
    have HOK := Lib.hid hin.2.2
    have H100 := Lib.hid hin.2.2.1
    have hb400 := hin.2.1
    clear hb1 hd hin
    go_wp2_with (fail)
    refine (alive_any _).mono ?_
    rintro e w2 ⟨rfl, hb2⟩
    have HB2 := Lib.hid (Ints.bel_trans HB1.out HB1.out.size hb2)
    have HD2 := Lib.hid (HD.out.below hb2)
    clear hb2 HB1 HD
    go_wp2_with (fail)
    refine (parse_any _ l b _ HD2.out HOK.out (by omega)).mono ?_
    rintro e w3 ⟨v, rfl, hr, hb3⟩
    have hpl := parse_len l b
    have hsy := parse_says l HOK.out b
    have hrg := parse_range l HOK.out b
    obtain ⟨P, hP⟩ : ∃ P, parse l b = P := ⟨_, rfl⟩
    rw [hP] at hr hpl hsy hrg
    obtain ⟨A3, c3, rfl⟩ := Kd.R_slice hr
    have HP := Lib.hid hP
    have HSY := Lib.hid hsy
    have HRG := Lib.hid hrg
    have HR3 := Lib.hid (Kd.R_lower hr HB2.out.size)
    have HC3 := Lib.hid (Kd.R_reads' hr).2.2
    have HB3 := Lib.hid (Ints.bel_trans HB2.out HB2.out.size hb3)
    have HD3 := Lib.hid (HD2.out.below hb3)
    have HBK := Lib.hid (bk_new w3 w.heap.size)
    have hsz3 : w.heap.size ≤ w3.heap.size := HB3.out.size
    have hP400 : P.length ≤ 400 := by omega
    clear hr hb3 HB2 HD2 hP hsy hrg hpl
    go_wp2_with (fail)
    have HA3 := Lib.hid (show Below w3.heap.size w3 (w3.alloc (.cells (bcells (.slice none 0 0) (.slice none 0 0) (.slice none 0 0) (.slice none 0 0)) 51 (0, 0))) from (Below.refl _ _).alloc (Nat.le_refl _) _)
    refine (ints_any _ w.heap.size w3.heap.size _ _ _ _ [] [] [] A3 P.length c3 P _ (by exact HBK.out) (by exact Kd.R_alloc HR3.out _) (fun i hi => absurd hi (Nat.not_lt_zero i)) (by simp; omega) (by simp) (by simp) (by omega)).mono ?_
    rintro e w4 ⟨⟨V4, U4, u4, hbk4⟩, rfl, hb4⟩
    have HBK4 := Lib.hid hbk4
    have HB4 := Lib.hid (show Below w3.heap.size w3 w4 from HA3.out.trans hb4)
    clear hbk4 hb4 HBK HA3
    go_wp2_with (fail)
    refine (parse_any _ l b _ (HD3.out.below HB4.out) HOK.out (by omega)).mono ?_
    rintro e w5 ⟨v, rfl, hr, hb5⟩
    rw [HP.out] at hr
    obtain ⟨A5, c5, rfl⟩ := Kd.R_slice hr
    have HBK5 := Lib.hid (HBK4.out.below hb5)
    have hsz4 : w3.heap.size ≤ w4.heap.size := HB4.out.size
    have hap : ∀ i, i < ([P] : List (List Int)).length → (slv (([(A3, P.length, c3)] : List Sl).getD i z0)).ownBlock = none ∨ (slv (([(A3, P.length, c3)] : List Sl).getD i z0)).ownBlock ≠ (Value.slice A5 P.length c5).ownBlock := by
      intro i hi
      obtain rfl : i = 0 := by simpa using hi
      cases ho : (slv (([(A3, P.length, c3)] : List Sl).getD 0 z0)).ownBlock with
      | none => exact .inl rfl
      | some k =>
        right
        intro e
        have h1 := Kd.R_lt (HBK4.out.fv 0 (by simp)) k ho
        have h2 := Kd.R_base hr k e.symm
        omega
    have HAP := Lib.hid hap
    have HR5 := Lib.hid (Kd.R_lower hr (Nat.le_trans hsz3 hsz4))
    have HB5 := Lib.hid (Ints.bel_trans HB4.out HB4.out.size hb5)
    have hsz5 : w4.heap.size ≤ w5.heap.size := hb5.size
    clear hr hb5 hap HB4 HBK4
    go_wp2_with (fail)
    refine (ints_any _ w.heap.size w3.heap.size _ _ _ _ _ _ _ A5 P.length c5 P _ HBK5.out HR5.out HAP.out (by omega) (by omega) (by simp) (by omega)).mono ?_
    rintro e w6 ⟨⟨V6, U6, u6, hbk6⟩, rfl, hb6⟩
    have HBK6 := Lib.hid hbk6
    have HB6 := Lib.hid (HB5.out.trans hb6)
    clear hbk6 hb6 HBK5 HB5 HAP HR5
    go_wp2_with (fail)
    refine (next_any _ l b at_ _ (HD3.out.below HB6.out) HOK.out hbs).mono ?_
    rintro e w7 ⟨hb7, rfl⟩
    have HBK7 := Lib.hid (HBK6.out.below hb7)
    have HB7 := Lib.hid (Ints.bel_trans HB6.out HB6.out.size hb7)
    clear hb7 HBK6 HB6
    obtain ⟨T, hT⟩ : ∃ T, nextTok l b at_ = T := ⟨_, rfl⟩
    obtain ⟨F, hF⟩ : ∃ F, nextLen l b at_ = F := ⟨_, rfl⟩
    rw [hT, hF]
    have e1 : (T == T) = true := by simp
    have e2 : ((F : Int) == (F : Int)) = true := by simp
    have fin : ∀ (w8 : World), Below w7.heap.size w7 w8 → Below w3.heap.size w3 w8 ∧ BK w8 w3.heap.size w.heap.size w3.heap.size V6 U6 (.slice none 0 0) (.slice none 0 0) (([] ++ [(A3, P.length, c3)]) ++ [(A5, P.length, c5)]) (([] ++ [u4]) ++ [u6]) (([] ++ [P]) ++ [P]) := fun w8 h8 =>
      ⟨Ints.bel_trans HB7.out HB7.out.size h8, HBK7.out.below h8⟩
    have FIN := Lib.hid fin
    clear fin
    by_cases hin : 0 ≤ at_ ∧ at_ < (b.size : Int)
    · obtain ⟨a, rfl⟩ := Int.eq_ofNat_of_zero_le hin.1
      have ha : a < b.size := by omega
      have ha1 : (a : Int) < (b.size : Int) := hin.2
      have ha0 : (0 : Int) ≤ (a : Int) := hin.1
      obtain ⟨n1, n2⟩ := next_in (l := l) ha
      have hfl := Lib.hid (show firstLen l b a = F by rw [← n2]; exact hF)
      have htk := Lib.hid (show tokenOf l b a F = T by rw [← hT, n1, hfl.out])
      have hfit := firstLen_fits l b a ha
      rw [hfl.out] at hfit
      clear hin n1 n2 hT hF
      go_wp2_with (fail)
      refine (ref_first _ _ l b a _ (Kd.C_below (Kd.C_below HL.out HB3.out) HB7.out) (by omega) (by omega)).mono ?_
      rintro e w8 ⟨rfl, hb8⟩
      rw [hfl.out]
      have HB8 := Lib.hid hb8
      clear hb8
      go_wp2_with (fail)
      refine (ref_token _ _ l b a F _ (Kd.C_below (Kd.C_below HL.out HB3.out) (FIN.out _ HB8.out).1) H100.out ha hfit (by omega)).mono ?_
      rintro e w9 ⟨rfl, q9, rfl⟩
      rw [htk.out]
      have HB9 := Lib.hid (below_drewN HB8.out q9)
      clear HB8
      go_wp2_with (fail)
      refine (ref_greedy _ _ l b _ (Kd.C_below (Kd.C_below HL.out HB3.out) (FIN.out _ HB9.out).1) H100.out (by omega)).mono ?_
      rintro e w10 ⟨v, rfl, hr, hb10⟩
      rw [HP.out] at hr
      obtain ⟨A10, c10, rfl⟩ := Kd.R_slice hr
      have HC10 := Lib.hid (Kd.R_reads' hr).2.2
      have HB10 := Lib.hid (Ints.bel_trans HB9.out HB9.out.size hb10)
      clear hr hb10 HB9
      go_wp2_with (fail)
      refine (same_true _ _ _ _ _ _ P _ (Kd.C_below HC3.out (FIN.out _ HB10.out).1) HC10.out).mono ?_
      rintro e w11 ⟨rfl, q11, rfl⟩
      have HB11 := Lib.hid (below_drewN HB10.out q11)
      clear HB10 HC10
      go_wp2_with (fail)
      refine (says_any _ _ _ _ _ l P b _ (Kd.C_below (Kd.C_below HL.out HB3.out) (FIN.out _ HB11.out).1) HOK.out (Kd.C_below HC3.out (FIN.out _ HB11.out).1) HRG.out (by omega) (by omega)).mono ?_
      rintro e w12 ⟨rfl, hb12⟩
      rw [HSY.out]
      have HB12 := Lib.hid (Ints.bel_trans HB11.out HB11.out.size hb12)
      clear hb12 HB11
      go_wp2_with (fail)
      refine (apart_any _ w.heap.size w3.heap.size _ _ _ _ _ _ (FIN.out _ HB12.out).2 (by simp) (fun i hi => ?mS) (Nat.le_trans hsz3 (FIN.out _ HB12.out).1.size)).mono ?_
      case mS =>
        rcases i with _ | _ | i
        · show P.length ≤ 10000; omega
        · show P.length ≤ 10000; omega
        · exfalso; have h2 : (([] ++ [P]) ++ [P] : List (List Int)).length = 2 := rfl; omega
      rintro e w13 ⟨rfl, hb13⟩
      have HB13 := Lib.hid ((Ints.bel_trans HB3.out hsz3 (FIN.out _ HB12.out).1).trans hb13)
      clear hb13
      go_wp2_with (fail)
      go_ret
      exact ⟨rfl, HB13.out⟩
    · obtain ⟨n1, n2⟩ := next_out (l := l) (b := b) (k := at_) (by omega)
      obtain rfl : T = 0 := by rw [← hT, n1]
      obtain rfl : F = 0 := by rw [← hF, n2]
      have HB9 := Lib.hid (Below.refl w7.heap.size w7)
      clear n1 n2 hT hF
      by_cases h0 : at_ < 0
      all_goals
        have h00 : at_ < 0 ∨ (b.size : Int) ≤ at_ := by omega
        try (have h01 : (b.size : Int) ≤ at_ := by omega)
        try (have h02 : 0 ≤ at_ := by omega)
        clear hin h00
        go_wp2_with (fail)
        refine (ref_greedy _ _ l b _ (Kd.C_below (Kd.C_below HL.out HB3.out) (FIN.out _ HB9.out).1) H100.out (by omega)).mono ?_
        rintro e w10 ⟨v, rfl, hr, hb10⟩
        rw [HP.out] at hr
        obtain ⟨A10, c10, rfl⟩ := Kd.R_slice hr
        have HC10 := Lib.hid (Kd.R_reads' hr).2.2
        have HB10 := Lib.hid (Ints.bel_trans HB9.out HB9.out.size hb10)
        clear hr hb10 HB9
        go_wp2_with (fail)
        refine (same_true _ _ _ _ _ _ P _ (Kd.C_below HC3.out (FIN.out _ HB10.out).1) HC10.out).mono ?_
        rintro e w11 ⟨rfl, q11, rfl⟩
        have HB11 := Lib.hid (below_drewN HB10.out q11)
        clear HB10 HC10
        go_wp2_with (fail)
        refine (says_any _ _ _ _ _ l P b _ (Kd.C_below (Kd.C_below HL.out HB3.out) (FIN.out _ HB11.out).1) HOK.out (Kd.C_below HC3.out (FIN.out _ HB11.out).1) HRG.out (by omega) (by omega)).mono ?_
        rintro e w12 ⟨rfl, hb12⟩
        rw [HSY.out]
        have HB12 := Lib.hid (Ints.bel_trans HB11.out HB11.out.size hb12)
        clear hb12 HB11
        go_wp2_with (fail)
        refine (apart_any _ w.heap.size w3.heap.size _ _ _ _ _ _ (FIN.out _ HB12.out).2 (by simp) (fun i hi => by rcases i with _ | _ | i; (show P.length ≤ 10000; omega); (show P.length ≤ 10000; omega); (exfalso; have h2 : (([] ++ [P]) ++ [P] : List (List Int)).length = 2 := rfl; omega)) (Nat.le_trans hsz3 (FIN.out _ HB12.out).1.size)).mono ?_
        rintro e w13 ⟨rfl, hb13⟩
        have HB13 := Lib.hid ((Ints.bel_trans HB3.out hsz3 (FIN.out _ HB12.out).1).trans hb13)
        clear hb13
        go_wp2_with (fail)
        go_ret
        exact ⟨rfl, HB13.out⟩
  · have HB1 := Lib.hid hb1
    clear hb1 hin
    go_wp2_with (go_at_call 21; refine (alive_any _).mono ?_; rintro e w' ⟨rfl, hb⟩)
    go_ret
    exact ⟨rfl, Ints.bel_trans HB1.out HB1.out.size hb⟩
end Go.Proofs.Ytdmilmmfibmofaa.Greedy
