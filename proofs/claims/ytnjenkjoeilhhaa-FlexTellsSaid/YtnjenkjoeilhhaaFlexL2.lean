/- Chapter 14: the tokens are the next ones, one behind the other; two of them come no less far than two of greedy's. -/
import Derived.Test.YtnjenkjoeilhhaaFlexL1
import Derived.Test.YtnjenkjoeilhhaaSays
namespace Go.Proofs.Ytnjenkjoeilhhaa.Flex
set_option linter.unusedVariables false
set_option linter.unusedSimpArgs false
open Go.RowKit Go.Proofs.YtnjenkjoeilhhaaW.PrintWords Go.Proofs.YtnjenkjoeilhhaaW.PrintMore Go.Proofs.Ytnjenkjoeilhhaa.L Go.Proofs.Ytnjenkjoeilhhaa.Texts Go.Proofs.Ytnjenkjoeilhhaa.Dict Go.Proofs.Ytnjenkjoeilhhaa.Ints Go.Proofs.Ytnjenkjoeilhhaa.Greedy

theorem drop_cons {α : Type} {xs ys : List α} {x : α} {k : Nat} (h : xs.drop k = x :: ys) (d : α) : k < xs.length ∧ xs.getD k d = x ∧ xs.drop (k + 1) = ys := by
  have hk : k < xs.length := by
    have := congrArg List.length h
    rw [List.length_drop, List.length_cons] at this
    omega
  rw [List.drop_eq_getElem_cons hk] at h
  injection h with h1 h2
  exact ⟨hk, by rw [List.getD_eq_getElem?_getD, List.getElem?_eq_getElem hk]; exact h1, h2⟩
set_option maxRecDepth 100000 in
set_option maxHeartbeats 2000000 in
theorem FlexSteps_walk (A : Option Addr) (l : List ByteArray) (c : Nat) (b : ByteArray) (w : World)
    (hl : KS.C w A l.length l) (hc : l.length ≤ c) (h16 : l.length * 16 ≤ 140737488351232) (hs : ∀ s ∈ l, s.size ≤ 140737488351232) (hbs : b.size ≤ 140737488351232) :
    Calls Try.prog 6 #[.slice A l.length c, .string b] w fun e w' => e = .returned (.bool true) ∧ Below w.heap.size w w' := by
  have HL := Lib.hid hl
  go_enter Try.func6, Try.ntmps6
  go_wp2_with (fail)
  refine (dict_any _ _ _ l _ _ hl hs).mono ?_
  clear hl hs
  rintro e w1 ⟨hb1, ⟨hin, bk, rfl, hd⟩ | ⟨hin, rfl⟩⟩
  · have HB1 := Lib.hid hb1
    have HD := Lib.hid (show DP w1 (some ⟨bk, 0, none⟩) l from .inr ⟨bk, rfl, hd⟩)
    have HOK := Lib.hid hin.2.2
    have H100 := Lib.hid hin.2.2.1
    have hb400 := hin.2.1
    clear hb1 hd hin
    go_wp2_with (fail)
    refine (alive_any _).mono ?_
    rintro e w2 ⟨rfl, hb2⟩
    have HB2 := Lib.hid (Ints.bel_trans HB1.out HB1.out.size hb2)
    have HD2 := Lib.hid (HD.out.below hb2)
    clear hb2 HB1 HD
    go_wp2_with (fail)
    refine (parseF_any _ l b _ HD2.out HOK.out (by omega)).mono ?_
    rintro e w3 ⟨v, rfl, hr, hb3⟩
    have hpl := parseF_len l b
    obtain ⟨P, hP⟩ : ∃ P, parseF l b = P := ⟨_, rfl⟩
    have hst : P.drop 0 = fromF l b 0 := by rw [← hP]; rfl
    rw [hP] at hr hpl
    obtain ⟨A3, c3, rfl⟩ := Kd.R_slice hr
    have HC3 := Lib.hid (Kd.R_reads' hr).2.2
    have HB3 := Lib.hid (Ints.bel_trans HB2.out HB2.out.size hb3)
    have HD3 := Lib.hid (HD2.out.below hb3)
    have HST := Lib.hid hst
    have hpi : (P.length : Int) ≤ (b.size : Int) := by omega
    clear hr hb3 HB2 HD2 hst hP
    go_wp2_with (fail)
    go_loopg [31, 7] P.length (fun j i at_ wr => ∃ (k a : Nat), i = .int .i64 k ∧ at_ = .int .i64 a ∧ Hid (k + j = P.length ∧ a ≤ b.size ∧ P.drop k = fromF l b a ∧ Below w3.heap.size w3 wr))
    case atStart => exact ⟨0, 0, rfl, rfl, by omega, Nat.zero_le _, HST.out, Below.refl _ _⟩
    case round =>
      obtain ⟨k, a, rfl, rfl, HI⟩ := hrel
      obtain ⟨hkj, hab, hdr, hb⟩ := HI.out
      by_cases hlt : k < P.length
      · have ha : a < b.size := by
          rcases Nat.lt_or_ge a b.size with h | h
          · exact h
          · rw [fromF_end l b a h] at hdr
            have := congrArg List.length hdr
            rw [List.length_drop, List.length_nil] at this
            omega
        rw [fromF_step l b a ha] at hdr
        obtain ⟨_, d1, d2⟩ := drop_cons hdr 0
        have hf1 := best_pos l b a ha
        have hf2 := best_fits l b a ha
        obtain ⟨F, hF⟩ : ∃ F, bestLen l b a = F := ⟨_, rfl⟩
        rw [hF] at hf1 hf2 d1 d2
        obtain ⟨T, hT⟩ : ∃ T, tokenOf l b a F = T := ⟨_, rfl⟩
        rw [hT] at d1
        obtain ⟨ad, rfl, x0⟩ := ints_at (Kd.C_below HC3.out hb) k hlt
        rw [d1] at x0
        have HT := Lib.hid hT
        have HF := Lib.hid hF
        have D2 := Lib.hid d2
        have HB := Lib.hid hb
        have HKJ := Lib.hid hkj
        have e1 : (T != T) = false := by simp
        have i0 : (0 : Int) ≤ k := by omega
        have i1 : (k : Int) < (P.length : Int) := by omega
        have i2 : ((k : Int)).toNat = k := by omega
        have a0 : (0 : Int) ≤ a := by omega
        have f1 : (1 : Int) ≤ (F : Int) := by omega
        have a1 : (a : Int) + (F : Int) ≤ (b.size : Int) := by omega
        clear d1 d2 hb hdr hkj HI hT hF hab
        go_wp2_with (fail)
        refine (nextF_some _ l b a _ ((HD3.out.below HB.out)) HOK.out ha (by omega)).mono ?_
        rintro e w4 ⟨hb4, rfl⟩
        rw [HF.out, HT.out]
        have HB4 := Lib.hid (Ints.bel_trans HB.out HB.out.size hb4)
        clear hb4 HB
        go_wp2_with (fail)
        go_roundg (P.length - (k + 1))
        case measure => have := HKJ.out; omega
        case rel => exact ⟨k + 1, a + F, by go_num, by go_num, by have := HKJ.out; omega, by omega, D2.out, HB4.out⟩
      · obtain rfl : k = P.length := by omega
        have ha : a = b.size := by
          rcases Nat.lt_or_ge a b.size with h | h
          · rw [fromF_step l b a h, List.drop_length] at hdr
            cases hdr
          · omega
        subst ha
        have HB := Lib.hid (Ints.bel_trans HB3.out HB3.out.size hb)
        have e1 : ((b.size : Int) == (b.size : Int)) = true := by simp
        clear hb hdr hab hkj HI
        go_wp2_with (fail)
        go_ret
        exact ⟨rfl, HB.out⟩
  · have HB1 := Lib.hid hb1
    clear hb1 hin
    go_wp2_with (go_at_call 9; refine (alive_any _).mono ?_; rintro e w' ⟨rfl, hb⟩)
    go_ret
    exact ⟨rfl, Ints.bel_trans HB1.out HB1.out.size hb⟩
set_option maxRecDepth 100000 in
set_option maxHeartbeats 2000000 in
theorem FlexFar_walk (A : Option Addr) (l : List ByteArray) (c : Nat) (b : ByteArray) (w : World)
    (hl : KS.C w A l.length l) (hc : l.length ≤ c) (h16 : l.length * 16 ≤ 140737488351232) (hs : ∀ s ∈ l, s.size ≤ 140737488351232) (hbs : b.size ≤ 140737488351232) :
    Calls Try.prog 7 #[.slice A l.length c, .string b] w fun e w' => e = .returned (.bool true) ∧ Below w.heap.size w w' := by
  have HL := Lib.hid hl
  go_enter Try.func7, Try.ntmps7
  go_wp2_with (fail)
  refine (dict_any _ _ _ l _ _ hl hs).mono ?_
  clear hl hs
  rintro e w1 ⟨hb1, ⟨hin, bk, rfl, hd⟩ | ⟨hin, rfl⟩⟩
  · have HB1 := Lib.hid hb1
    have HD := Lib.hid (show DP w1 (some ⟨bk, 0, none⟩) l from .inr ⟨bk, rfl, hd⟩)
    have HOK := Lib.hid hin.2.2
    have hb400 := hin.2.1
    clear hb1 hd hin
    by_cases h0 : b.size = 0
    · obtain rfl := empty_of h0
      clear h0
      have e0 : (⟨#[]⟩ : ByteArray).toList.isEmpty = true := by rw [ByteArray.toList_eq]; rfl
      go_wp2_with (go_at_call 9; refine (alive_any _).mono ?_; rintro e w' ⟨rfl, hb⟩)
      go_ret
      exact ⟨rfl, Ints.bel_trans HB1.out HB1.out.size hb⟩
    · have e0 := isEmpty_no h0
      have hpos : 0 < b.size := by omega
      clear h0
      go_wp2_with (fail)
      refine (alive_any _).mono ?_
      rintro e w2 ⟨rfl, hb2⟩
      have HB2 := Lib.hid (Ints.bel_trans HB1.out HB1.out.size hb2)
      have HD2 := Lib.hid (HD.out.below hb2)
      clear hb2 HB1 HD
      have hN1 := best_pos l b 0 hpos
      have hNf := best_fits l b 0 hpos
      have hF1 := firstLen_pos l b 0
      have hFf := firstLen_fits l b 0 hpos
      have hle := cand_first l HOK.out b 0 _ hpos (best_is l b 0 hpos).1
      have hbst := (best_is l b 0 hpos).2 _ (first_cand l b 0 hpos)
      obtain ⟨n1, n2⟩ := next_in (l := l) hpos
      obtain ⟨T, hT⟩ : ∃ T, tokenOf l b 0 (bestLen l b 0) = T := ⟨_, rfl⟩
      obtain ⟨N, hN⟩ : ∃ N, bestLen l b 0 = N := ⟨_, rfl⟩
      obtain ⟨F, hF⟩ : ∃ F, firstLen l b 0 = F := ⟨_, rfl⟩
      rw [hN] at hN1 hNf hle hbst
      rw [hF] at hF1 hFf hle hbst n2
      obtain ⟨RN, hRN⟩ : ∃ R, reach l b 0 N = R := ⟨_, rfl⟩
      obtain ⟨RF, hRF⟩ : ∃ R, reach l b 0 F = R := ⟨_, rfl⟩
      rw [hRN, hRF] at hbst
      have f1 : (1 : Int) ≤ (N : Int) := by omega
      have f2 : (1 : Int) ≤ (F : Int) := by omega
      have f3 : decide ((RF : Int) ≤ (RN : Int)) = true := decide_eq_true (by omega)
      have f3' : decide (RF ≤ RN) = true := decide_eq_true (by omega)
      have f4 : (N : Int) ≤ (F : Int) := by omega
      have HT := Lib.hid hT
      have HN := Lib.hid hN
      have HRN := Lib.hid hRN
      have HRF := Lib.hid hRF
      have N2 := Lib.hid (show nextLen l b ((0 : Nat) : Int) = F from n2)
      clear hT hN hF hRN hRF hbst n1 n2
      go_wp2_with (fail)
      refine (nextF_some _ l b 0 _ HD2.out HOK.out hpos (by omega)).mono ?_
      rintro e w3 ⟨hb3, rfl⟩
      rw [HT.out, HN.out]
      have HB3 := Lib.hid (Ints.bel_trans HB2.out HB2.out.size hb3)
      have HD3 := Lib.hid (HD2.out.below hb3)
      clear hb3 HB2 HD2
      go_wp2_with (fail)
      refine (next_any _ l b ((0 : Nat) : Int) _ HD3.out HOK.out (by omega)).mono ?_
      rintro e w4 ⟨hb4, rfl⟩
      rw [N2.out]
      generalize nextTok l b ((0 : Nat) : Int) = T2
      have HB4 := Lib.hid (Ints.bel_trans HB3.out HB3.out.size hb4)
      have HD4 := Lib.hid (HD3.out.below hb4)
      clear hb4 HB3 HD3
      go_wp2_with (fail)
      refine (reach_in _ l b 0 N _ HD4.out HOK.out (by omega) hNf).mono ?_
      rintro e w5 ⟨hb5, rfl⟩
      rw [HRN.out]
      have HB5 := Lib.hid (Ints.bel_trans HB4.out HB4.out.size hb5)
      have HD5 := Lib.hid (HD4.out.below hb5)
      clear hb5 HB4 HD4
      go_wp2_with (fail)
      refine (reach_in _ l b 0 F _ HD5.out HOK.out (by omega) hFf).mono ?_
      rintro e w6 ⟨hb6, rfl⟩
      rw [HRF.out]
      have HB6 := Lib.hid (Ints.bel_trans HB5.out HB5.out.size hb6)
      clear hb6 HB5 HD5
      go_wp2_with (fail)
      go_ret
      exact ⟨rfl, HB6.out⟩
  · have HB1 := Lib.hid hb1
    clear hb1 hin
    go_wp2_with (go_at_call 9; refine (alive_any _).mono ?_; rintro e w' ⟨rfl, hb⟩)
    go_ret
    exact ⟨rfl, Ints.bel_trans HB1.out HB1.out.size hb⟩
end Go.Proofs.Ytnjenkjoeilhhaa.Flex
