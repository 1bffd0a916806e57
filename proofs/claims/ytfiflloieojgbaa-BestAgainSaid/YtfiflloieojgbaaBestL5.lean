/- Chapter 15: what best means, parsed by best anew, is the same tokens. -/
import Derived.Test.YtfiflloieojgbaaBestL4
namespace Go.Proofs.Ytfiflloieojgbaa.Best
set_option linter.unusedVariables false
set_option linter.unusedSimpArgs false
open Go.RowKit Go.Proofs.YtfiflloieojgbaaW.PrintWords Go.Proofs.YtfiflloieojgbaaW.PrintMore Go.Proofs.Ytfiflloieojgbaa.L Go.Proofs.Ytfiflloieojgbaa.Texts Go.Proofs.Ytfiflloieojgbaa.Dict Go.Proofs.Ytfiflloieojgbaa.Ints Go.Proofs.Ytfiflloieojgbaa.Greedy Go.Proofs.Ytfiflloieojgbaa.Cost Go.Proofs.Ytfiflloieojgbaa.Fl Go.Proofs.Ytfiflloieojgbaa.Say

theorem go_ok (l : List ByteArray) (most : Int) : ∀ (ts : List Int) (acc : ByteArray), (acc.size : Int) ≤ max most 0 → (meanGo l most acc ts).2 = 0 → allTok l ts ∧ (meanGo l most acc ts).1 = acc ++ allMean l ts ∧ (acc.size : Int) + (allMean l ts).size ≤ max most 0
  | [], acc, hm, _ => by
    refine ⟨fun t ht => by simp at ht, ?_, ?_⟩
    · show acc = acc ++ no
      apply ByteArray.ext
      rw [ByteArray.data_append]
      show acc.data = acc.data ++ #[]
      simp
    · show (acc.size : Int) + ((0 : Nat) : Int) ≤ _
      omega
  | t :: ts, acc, hm, h => by
    rw [meanGo_cons] at h ⊢
    by_cases h0 : (means l t).size = 0
    · rw [if_pos h0] at h
      exact absurd h (by decide)
    · rw [if_neg h0] at h ⊢
      by_cases h1 : max most 0 - (acc.size : Int) < ((means l t).size : Int)
      · rw [if_pos h1] at h
        exact absurd h (by decide)
      · rw [if_neg h1] at h ⊢
        obtain ⟨g1, g2, g3⟩ := go_ok l most ts _ (by rw [ByteArray.size_append]; omega) h
        refine ⟨fun x hx => ?_, ?_, ?_⟩
        · rcases List.mem_cons.1 hx with rfl | hx
          · exact h0
          · exact g1 x hx
        · rw [g2, append_assoc]
          rfl
        · have : (allMean l (t :: ts)).size = (means l t).size + (allMean l ts).size := ByteArray.size_append
          rw [ByteArray.size_append] at g3
          omega
set_option maxRecDepth 100000 in
set_option maxHeartbeats 2000000 in
theorem BestAgain_walk (A : Option Addr) (l : List ByteArray) (c : Nat) (B : Option Addr) (ts : List Int) (c' : Nat) (w : World)
    (hl : KS.C w A l.length l) (hc : l.length ≤ c) (h16 : l.length * 16 ≤ 140737488351232) (hs : ∀ s ∈ l, s.size ≤ 140737488351232) (ht : KI.C w B ts.length ts) (hc' : ts.length ≤ c') (h8 : ts.length * 8 ≤ 140737488351232) (hwf : ∀ x ∈ ts, (Lit.int .i64 x).wf = true) :
    Calls Try.prog 8 #[.slice A l.length c, .slice B ts.length c'] w fun e w' => e = .returned (.bool true) ∧ Below w.heap.size w w' := by
  have HL := Lib.hid hl
  have HT := Lib.hid ht
  have HWF := Lib.hid (wf_range hwf)
  clear ht hwf
  go_enter Try.func8, Try.ntmps8
  go_wp2_with (fail)
  refine (dict_any _ _ _ l _ _ hl hs).mono ?_
  clear hl hs
  rintro e w1 ⟨hb1, hcase⟩
  have HB1 := Lib.hid hb1
  have HL1 := Lib.hid (Kd.C_below HL.out hb1)
  have HT1 := Lib.hid (Kd.C_below HT.out hb1)
  clear hb1 HL HT
  rcases dict_has hcase with ⟨dk, rfl, HD, HOK, hb400⟩ | rfl
  · clear hcase hb400
    by_cases g1 : 60 < ts.length
    · have g1i : (60 : Int) < (ts.length : Int) := by omega
      go_wp2_with (go_at_call 12; refine (alive_any _).mono ?_; rintro e w5 ⟨rfl, hb5⟩)
      go_ret
      exact ⟨rfl, Ints.bel_trans HB1.out HB1.out.size hb5⟩
    · have g1i : (ts.length : Int) ≤ (60 : Int) := by omega
      go_wp2_with (fail)
      refine (alive_any _).mono ?_
      rintro e w2 ⟨rfl, hb2⟩
      have HB2 := Lib.hid (Ints.bel_trans HB1.out HB1.out.size hb2)
      have HD2 := Lib.hid (HD.out.below hb2)
      have HL2 := Lib.hid (Kd.C_below HL1.out hb2)
      have HT2 := Lib.hid (Kd.C_below HT1.out hb2)
      clear hb2 HB1 HD HL1 HT1
      go_wp2_with (fail)
      refine (ref_mean _ _ _ _ _ l 400 ts _ HL2.out HOK.out HT2.out HWF.out (by omega) (by decide)).mono ?_
      rintro e w3 ⟨rfl, hb3⟩
      obtain ⟨b, hb⟩ : ∃ b, (meanGo l 400 no ts).1 = b := ⟨_, rfl⟩
      obtain ⟨x, hx⟩ : ∃ x, (meanGo l 400 no ts).2 = x := ⟨_, rfl⟩
      rw [hb, hx]
      have HB3 := Lib.hid (Ints.bel_trans HB2.out HB2.out.size hb3)
      by_cases h0 : x = 0
      · subst h0
        obtain ⟨k1, k2, k3⟩ := go_ok l 400 ts no (by decide) hx
        rw [hb, no_append] at k2
        subst k2
        obtain ⟨b, hbb⟩ : ∃ b, allMean l ts = b := ⟨_, rfl⟩
        rw [hbb] at k3 ⊢
        have hb400 : b.size ≤ 400 := by
          have : no.size = 0 := rfl
          omega
        have HTI := Lib.hid (show Tiles l b ts from ⟨k1, hbb⟩)
        have HD3 := Lib.hid (HD2.out.below hb3)
        have HL3 := Lib.hid (Kd.C_below HL2.out hb3)
        have HT3 := Lib.hid (Kd.C_below HT2.out hb3)
        clear hb3 HB2 HD2 HL2 HT2 k1 k3 hx hb hbb
        go_wp2_with (fail)
        refine (parse_any _ l b 1024 _ HD3.out HOK.out (by omega) (by decide) (by decide)).mono ?_
        rintro e w4 ⟨v, rfl, hr, hb4⟩
        have HQ := Lib.hid (toks_least HOK.out (by omega) HTI.out)
        have HTP := Lib.hid (toks_tiles HOK.out (s := b) (by omega)).1
        have hbo := best_one (l := l) (b := b) (win := 1024) (by decide) (by omega)
        obtain ⟨p, hp⟩ : ∃ p, toks l b 0 = p := ⟨_, rfl⟩
        rw [hp] at hbo HQ HTP
        rw [hbo] at hr
        obtain ⟨A4, c4, rfl⟩ := Kd.R_slice hr
        have HC4 := Lib.hid (Kd.R_reads' hr).2.2
        have HB4 := Lib.hid (Ints.bel_trans HB3.out HB3.out.size hb4)
        have HD4 := Lib.hid (HD3.out.below hb4)
        have HL4 := Lib.hid (Kd.C_below HL3.out hb4)
        have HT4 := Lib.hid (Kd.C_below HT3.out hb4)
        have HBO := Lib.hid hbo
        have h100 := HOK.out.1
        have f1 := tiles_few h100 p HTP.out
        have pl : p.length ≤ 400 := by omega
        have HF1 := Lib.hid f1.2
        have HM := Lib.hid (show meanGo l 400 no p = (b, 0) by
          have := go_fits l 400 p no HTP.out.1 (by rw [HTP.out.2]; show ((0 : Nat) : Int) + _ ≤ _; omega)
          rw [this, no_append, HTP.out.2])
        clear hr hb4 HB3 HD3 HL3 HT3 hbo hp f1
        go_wp2_with (fail)
        refine (ref_mean _ _ _ _ _ l 400 p _ HL4.out HOK.out HC4.out HF1.out (by omega) (by decide)).mono ?_
        rintro e w5 ⟨rfl, hb5⟩
        rw [HM.out]
        have HB5 := Lib.hid (Ints.bel_trans HB4.out HB4.out.size hb5)
        have HD5 := Lib.hid (HD4.out.below hb5)
        have HC5 := Lib.hid (Kd.C_below HC4.out hb5)
        have HT5 := Lib.hid (Kd.C_below HT4.out hb5)
        have hlen : (p.length : Int) ≤ (ts.length : Int) := by have := HQ.out.1; omega
        clear hb5 HB4 HD4 HL4 HT4 HC4
        go_wp2_with (fail)
        refine (sum_any _ _ ts _ HT5.out (by omega)).mono ?_
        rintro e w7 ⟨rfl, hb7⟩
        have HB7 := Lib.hid (Ints.bel_trans HB5.out HB5.out.size hb7)
        have HC7 := Lib.hid (Kd.C_below HC5.out hb7)
        have HD7 := Lib.hid (HD5.out.below hb7)
        clear hb7 HB5 HC5 HT5 HD5
        go_wp2_with (fail)
        refine (sum_any _ _ p _ HC7.out (by omega)).mono ?_
        rintro e w8 ⟨rfl, hb8⟩
        have HB8 := Lib.hid (Ints.bel_trans HB7.out HB7.out.size hb8)
        have HC8 := Lib.hid (Kd.C_below HC7.out hb8)
        have HD8 := Lib.hid (HD7.out.below hb8)
        have hbg : big = 9007199254740992 := rfl
        have s1 := sumT_le p
        have s2 := sumB_le p
        have s3 := sumT_le ts
        have s4 := sumB_le ts
        clear hb8 HB7 HC7 HD7
        go_wp2_with (fail)
        refine (less_any _ _ _ _ _ (by omega) (by omega) (by omega) (by omega)).mono ?_
        rintro e w9 ⟨rfl, rfl⟩
        rw [show lessB (sumT ts) (sumB ts) (sumT p) (sumB p) = false from lessB_no HQ.out.2]
        clear s1 s2 s3 s4 hbg
        go_wp2_with (fail)
        refine (parse_any _ l b 1024 _ HD8.out HOK.out (by omega) (by decide) (by decide)).mono ?_
        rintro e w10 ⟨v, rfl, hr, hb10⟩
        rw [HBO.out] at hr
        obtain ⟨A10, c10, rfl⟩ := Kd.R_slice hr
        have HC10 := Lib.hid (Kd.R_reads' hr).2.2
        have HX10 := Lib.hid (Kd.C_below HC8.out hb10)
        have HB10 := Lib.hid (Ints.bel_trans HB8.out HB8.out.size hb10)
        clear hr hb10 HB8 HD8 HC8
        go_wp2_with (fail)
        refine (same_ints _ _ _ _ _ _ p p _ HC10.out HX10.out).mono ?_
        rintro e w11 ⟨rfl, q, rfl⟩
        rw [show decide (p = p) = true from decide_eq_true rfl]
        go_wp2_with (fail)
        go_ret
        exact ⟨rfl, below_drewN HB10.out q⟩
      · have h0' : (x != 0) = true := by simpa using h0
        clear hx hb hb3
        go_wp2_with (fail)
        go_ret
        exact ⟨rfl, HB3.out⟩
  · go_wp2_with (go_at_call 12; refine (alive_any _).mono ?_; rintro e w5 ⟨rfl, hb5⟩)
    go_ret
    exact ⟨rfl, Ints.bel_trans HB1.out HB1.out.size hb5⟩
end Go.Proofs.Ytfiflloieojgbaa.Best
