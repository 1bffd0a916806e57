/- Of every dictionary, every tokens, every bound: what they mean, or that they do not; what is handed in stays. -/
import Derived.Test.YtdmilmmfibmofaaMeanRef
namespace Go.Proofs.Ytdmilmmfibmofaa.Mean
set_option linter.unusedVariables false
set_option linter.unusedSimpArgs false
open Go.RowKit Go.Proofs.YtdmilmmfibmofaaW.PrintWords Go.Proofs.YtdmilmmfibmofaaW.PrintMore Go.Proofs.Ytdmilmmfibmofaa.L Go.Proofs.Ytdmilmmfibmofaa.Texts Go.Proofs.Ytdmilmmfibmofaa.Dict Go.Proofs.Ytdmilmmfibmofaa.Ints

set_option maxRecDepth 100000 in
set_option maxHeartbeats 1000000 in
theorem MeanTells_walk (A : Option Addr) (l : List ByteArray) (c : Nat) (most : Int) (B : Option Addr) (ts : List Int) (c' : Nat) (tok : Int) (w : World)
    (hl : KS.C w A l.length l) (hc : l.length ≤ c) (h16 : l.length * 16 ≤ 140737488351232) (hs : ∀ s ∈ l, s.size ≤ 140737488351232) (hmost : (Lit.int .i64 most).wf = true)
    (ht : KI.C w B ts.length ts) (hc' : ts.length ≤ c') (h8 : ts.length * 8 ≤ 140737488351232) (hw : ∀ x ∈ ts, (Lit.int .i64 x).wf = true) (htok : (Lit.int .i64 tok).wf = true) :
    Calls Try.prog 3 #[.slice A l.length c, .int .i64 most, .slice B ts.length c', .int .i64 tok] w fun e w' => e = .returned (.bool true) ∧ Below w.heap.size w w' := by
  have HL := Lib.hid hl
  have HT := Lib.hid ht
  have HW := Lib.hid (wf_range hw)
  have HM := Lib.hid (wf_one hmost)
  have HK := Lib.hid (wf_one htok)
  clear ht hw hmost htok
  go_enter Try.func3, Try.ntmps3
  go_wp2_with (fail)
  refine (dict_any _ _ _ l _ _ hl hs).mono ?_
  clear hl hs
  rintro e w1 ⟨hb1, ⟨hin, b, rfl, hd⟩ | ⟨hin, rfl⟩⟩
  · have HB1 := Lib.hid hb1
    by_cases g1 : ts.length ≤ 300
    · have g1i : (ts.length : Int) ≤ 300 := by omega
      have HD := Lib.hid (show DP w1 (some ⟨b, 0, none⟩) l from .inr ⟨b, rfl, hd⟩)
      have HOK := Lib.hid hin.2.2
      have H40 := Lib.hid (okTexts_40 hin.2.2)
      clear hb1 hd hin
      go_wp2_with (fail)
      refine (alive_any _).mono ?_
      rintro e w2 ⟨rfl, hb2⟩
      have HB2 := Lib.hid (Ints.bel_trans HB1.out HB1.out.size hb2)
      have HD2 := Lib.hid (HD.out.below hb2)
      clear hb2 HB1 HD
      go_wp2_with (fail)
      refine (lent_ints _ _ _ ts _ (Kd.C_below HT.out HB2.out) h8).mono ?_
      rintro e w3 ⟨v, rfl, hlent, hb3⟩
      obtain ⟨A3, c3, rfl⟩ := hlent.form
      have HLE := Lib.hid hlent
      have HB3 := Lib.hid (Ints.bel_trans HB2.out HB2.out.size hb3)
      have HD3 := Lib.hid (HD2.out.below hb3)
      clear hb3 HB2 HD2 hlent
      go_wp2_with (fail)
      refine (of_any _ _ _ _ l most ts _ HD3.out HLE.out.reads.2.2 H40.out HW.out (by omega) HM.out).mono ?_
      rintro e w4 ⟨rfl, hb4⟩
      obtain ⟨s, hs⟩ : ∃ s, (meanGo l most no ts).1 = s := ⟨_, rfl⟩
      obtain ⟨x, hx⟩ : ∃ x, (meanGo l most no ts).2 = x := ⟨_, rfl⟩
      rw [hs, hx]
      have HS := Lib.hid hs
      have HX := Lib.hid hx
      have HB4 := Lib.hid (Ints.bel_trans HB3.out HB3.out.size hb4)
      have HD4 := Lib.hid (HD3.out.below hb4)
      have HL4 := Lib.hid (HLE.out.below hb4)
      clear hb4 HB3 HD3 HLE hs hx
      go_wp2_with (fail)
      refine (ref_mean _ _ _ _ _ l most ts _ (Kd.C_below HL.out HB4.out) HOK.out (Kd.C_below HT.out HB4.out) HW.out (by omega) HM.out).mono ?_
      rintro e w5 ⟨rfl, hb5⟩
      rw [HS.out, HX.out]
      have HB5 := Lib.hid (Ints.bel_trans HB4.out HB4.out.size hb5)
      have HD5 := Lib.hid (HD4.out.below hb5)
      have HL5 := Lib.hid (HL4.out.below hb5)
      clear hb5 HB4 HD4 HL4
      go_wp2_with (fail)
      refine (ref_means _ _ l tok _ (Kd.C_below HL.out HB5.out) HOK.out.1 HK.out).mono ?_
      rintro e w6 ⟨rfl, hb6⟩
      obtain ⟨z, hz⟩ : ∃ z, (means l tok).size = z := ⟨_, rfl⟩
      obtain ⟨zb, hzb⟩ : ∃ zb, isTok l tok = zb := ⟨_, rfl⟩
      rw [hzb]
      have hr : decide (0 < (means l tok).size) = zb := by
        rw [← hzb, isTok_size HOK.out tok]
        exact decide_eq_decide.2 ⟨fun h => by omega, fun h => by omega⟩
      have HR := Lib.hid hr
      have HZ := Lib.hid hz
      have HB6 := Lib.hid (Ints.bel_trans HB5.out HB5.out.size hb6)
      have HD6 := Lib.hid (HD5.out.below hb6)
      have HL6 := Lib.hid (HL5.out.below hb6)
      have n1 : (s.toList == s.toList) = true := by simp
      have n2 : (x == x) = true := by simp
      clear hb6 HB5 HD5 HL5 hr hzb hz
      go_wp2_with (fail)
      refine (len_any _ l tok _ HD6.out HK.out).mono ?_
      rintro e w7 ⟨rfl, hb7⟩
      rw [HZ.out]
      have HB7 := Lib.hid (Ints.bel_trans HB6.out HB6.out.size hb7)
      have HD7 := Lib.hid (HD6.out.below hb7)
      have HL7 := Lib.hid (HL6.out.below hb7)
      have hz2 : ((means l tok).size : Int) = (z : Int) := by rw [HZ.out]
      have n3 : ((z : Int) == (z : Int)) = true := by simp
      clear hb7 HB6 HD6 HL6
      go_wp2_with (fail)
      refine (right_any _ l tok _ HD7.out HK.out).mono ?_
      rintro e w8 ⟨rfl, hb8⟩
      rw [HR.out]
      have n4 : (zb == zb) = true := by simp
      have HB8 := Lib.hid (Ints.bel_trans HB7.out HB7.out.size hb8)
      have HL8 := Lib.hid (HL7.out.below hb8)
      clear hb8 HB7 HD7 HL7
      go_wp2_with (fail)
      refine (stays_ints _ _ _ _ _ _ ts _ _ HL8.out (Kd.C_below HT.out HB8.out)).mono ?_
      rintro e w9 ⟨rfl, q, rfl⟩
      have HB9 := Lib.hid (below_drewN HB8.out q)
      clear HB8 HL8
      go_wp2_with (fail)
      refine (right_any none [] 256 _ (.inl ⟨rfl, rfl⟩) (by decide)).mono ?_
      rintro e w10 ⟨rfl, hb10⟩
      rw [show decide (0 < (means [] 256).size) = false by decide +kernel]
      have HB10 := Lib.hid (Ints.bel_trans HB9.out HB9.out.size hb10)
      clear hb10 HB9
      go_wp2_with (fail)
      refine (len_any none [] 97 _ (.inl ⟨rfl, rfl⟩) (by decide)).mono ?_
      rintro e w11 ⟨rfl, hb11⟩
      rw [show (means [] 97).size = 1 by decide +kernel]
      have HB11 := Lib.hid (Ints.bel_trans HB10.out HB10.out.size hb11)
      clear hb11 HB10
      go_wp2_with (fail)
      go_ret
      exact ⟨rfl, HB11.out⟩
    · clear hb1 hd hin
      go_wp2_with (go_at_call 13; refine (alive_any _).mono ?_; rintro e w' ⟨rfl, hb⟩)
      all_goals first
        | (exfalso; omega)
        | (go_ret; exact ⟨rfl, Ints.bel_trans HB1.out HB1.out.size hb⟩)
  · have HB1 := Lib.hid hb1
    clear hb1 hin
    go_wp2_with (go_at_call 13; refine (alive_any _).mono ?_; rintro e w' ⟨rfl, hb⟩)
    go_ret
    exact ⟨rfl, Ints.bel_trans HB1.out HB1.out.size hb⟩
end Go.Proofs.Ytdmilmmfibmofaa.Mean
