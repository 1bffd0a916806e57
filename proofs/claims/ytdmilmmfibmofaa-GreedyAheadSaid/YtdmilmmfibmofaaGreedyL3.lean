/- Chapter 13: what comes later does not change the tokens ahead, but for a phrase's length. -/
import Derived.Test.YtdmilmmfibmofaaGreedyL2
namespace Go.Proofs.Ytdmilmmfibmofaa.Greedy
set_option linter.unusedVariables false
set_option linter.unusedSimpArgs false
open Go.RowKit Go.Proofs.YtdmilmmfibmofaaW.PrintWords Go.Proofs.YtdmilmmfibmofaaW.PrintMore Go.Proofs.Ytdmilmmfibmofaa.L Go.Proofs.Ytdmilmmfibmofaa.Texts Go.Proofs.Ytdmilmmfibmofaa.Dict Go.Proofs.Ytdmilmmfibmofaa.Ints Go.Proofs.Ytdmilmmfibmofaa.Say

set_option maxRecDepth 100000 in
set_option maxHeartbeats 2000000 in
theorem GreedyAhead_walk (A : Option Addr) (l : List ByteArray) (c : Nat) (b more : ByteArray) (w : World)
    (hl : KS.C w A l.length l) (hc : l.length ≤ c) (h16 : l.length * 16 ≤ 140737488351232) (hs : ∀ s ∈ l, s.size ≤ 140737488351232) (hbs : b.size ≤ 140737488351232) (hms : more.size ≤ 140737488351232) :
    Calls Try.prog 10 #[.slice A l.length c, .string b, .string more] w fun e w' => e = .returned (.bool true) ∧ Below w.heap.size w w' := by
  have HL := Lib.hid hl
  go_enter Try.func10, Try.ntmps10
  go_wp2_with (fail)
  refine (dict_any _ _ _ l _ _ hl hs).mono ?_
  clear hl hs
  rintro e w1 ⟨hb1, ⟨hin, bk, rfl, hd⟩ | ⟨hin, rfl⟩⟩
  · have HB1 := Lib.hid hb1
    have HD := Lib.hid (show DP w1 (some ⟨bk, 0, none⟩) l from .inr ⟨bk, rfl, hd⟩)
    have HOK := Lib.hid hin.2.2
    have H100 := Lib.hid hin.2.2.1
    have hb400 := hin.2.1
    rw [ByteArray.size_append] at hb400
    clear hb1 hd hin
    go_wp2_with (fail)
    refine (alive_any _).mono ?_
    rintro e w2 ⟨rfl, hb2⟩
    have HB2 := Lib.hid (Ints.bel_trans HB1.out HB1.out.size hb2)
    have HD2 := Lib.hid (HD.out.below hb2)
    clear hb2 HB1 HD
    go_wp2_with (fail)
    refine (parse_any _ l b _ HD2.out HOK.out (by omega)).mono ?_
    rintro e w3 ⟨v, rfl, hr, hb3⟩
    obtain ⟨P, hP⟩ : ∃ P, parse l b = P := ⟨_, rfl⟩
    have hst : P.drop 0 = from_ l b 0 := by rw [from_zero, hP]; rfl
    rw [hP] at hr
    obtain ⟨A3, c3, rfl⟩ := Kd.R_slice hr
    have HC3 := Lib.hid (Kd.R_reads' hr).2.2
    have HB3 := Lib.hid (Ints.bel_trans HB2.out HB2.out.size hb3)
    have HD3 := Lib.hid (HD2.out.below hb3)
    have HST := Lib.hid hst
    have hpl : P.length ≤ 400 := by have := parse_len l b; rw [hP] at this; omega
    clear hr hb3 HB2 HD2 hst hP
    go_wp2_with (fail)
    refine (parse_any _ l (b ++ more) _ HD3.out HOK.out (by rw [ByteArray.size_append]; omega)).mono ?_
    rintro e w4 ⟨v, rfl, hr, hb4⟩
    obtain ⟨Q, hQ⟩ : ∃ Q, parse l (b ++ more) = Q := ⟨_, rfl⟩
    have hst2 : Q.drop 0 = from_ l (b ++ more) 0 := by rw [from_zero, hQ]; rfl
    rw [hQ] at hr
    obtain ⟨A4, c4, rfl⟩ := Kd.R_slice hr
    have HC4 := Lib.hid (Kd.R_reads' hr).2.2
    have HC34 := Lib.hid (Kd.C_below HC3.out hb4)
    have HB4 := Lib.hid (Ints.bel_trans HB3.out HB3.out.size hb4)
    have HST2 := Lib.hid hst2
    have hql : Q.length ≤ 400 := by have := parse_len l (b ++ more); rw [hQ, ByteArray.size_append] at this; omega
    clear hr hb4 HB3 HD3 HC3 hst2 hQ
    go_wp2_with (fail)
    go_loopg [42, 11] P.length (fun j i at_ wr => ∃ (k a : Nat), i = .int .i64 k ∧ at_ = .int .i64 a ∧ Hid (k + j = P.length ∧ a ≤ b.size ∧ P.drop k = from_ l b a ∧ Q.drop k = from_ l (b ++ more) a ∧ Below w4.heap.size w4 wr))
    case atStart => exact ⟨0, 0, rfl, rfl, by omega, Nat.zero_le _, HST.out, HST2.out, Below.refl _ _⟩
    case round =>
      obtain ⟨k, a, rfl, rfl, HI⟩ := hrel
      obtain ⟨hkj, hab, hdr, hdq, hb⟩ := HI.out
      have a400 : a ≤ 400 := by omega
      by_cases hlt : k < P.length
      · have i0 : (0 : Int) ≤ k := by omega
        have i1 : (k : Int) < (P.length : Int) := by omega
        have i2 : ((k : Int)).toNat = k := by omega
        by_cases h40 : a + 40 ≤ b.size
        · have h40i : (a : Int) + 40 ≤ (b.size : Int) := by omega
          have ha : a < b.size := by omega
          obtain ⟨fm1, fm2⟩ := first_more l b more a h40
          rw [from_step l b a ha] at hdr
          rw [from_step l (b ++ more) a (by rw [ByteArray.size_append]; omega), fm1, fm2] at hdq
          obtain ⟨_, d1, d2⟩ := drop_cons hdr 0
          obtain ⟨kq, d3, d4⟩ := drop_cons hdq 0
          have hf1 := firstLen_pos l b a
          have hf2 := firstLen_fits l b a ha
          have hm := means_first l b a ha
          have ht := isTok_token HOK.out b a _ (by omega) hf2 (first_has l b a)
          have hr := token_range l b a (firstLen l b a) H100.out
          have hps := piece_size b a _ hf2
          obtain ⟨T, hT⟩ : ∃ T, tokenOf l b a (firstLen l b a) = T := ⟨_, rfl⟩
          rw [hT] at d1 d3 hm ht hr
          obtain ⟨F, hF⟩ : ∃ F, firstLen l b a = F := ⟨_, rfl⟩
          rw [hF] at hf1 hf2 hm d2 d4 hps
          obtain ⟨S, hS⟩ : ∃ S, piece b a F = S := ⟨_, rfl⟩
          rw [hS] at hm hps
          obtain ⟨w5, hw5⟩ : ∃ w5, wr = w5 := ⟨_, rfl⟩
          obtain ⟨ad, rfl, x0⟩ := ints_at (Kd.C_below HC34.out hb) k hlt
          obtain ⟨ad2, rfl, y0⟩ := ints_at (Kd.C_below HC4.out hb) k kq
          rw [d1] at x0
          rw [d3] at y0
          have HM := Lib.hid hm
          have HT := Lib.hid ht
          have HR := Lib.hid hr
          have D2 := Lib.hid d2
          have D4 := Lib.hid d4
          have HB := Lib.hid hb
          have HKJ := Lib.hid hkj
          have HPS := Lib.hid hps
          have e1 : (T != T) = false := by simp
          have q1 : (k : Int) < (Q.length : Int) := by omega
          clear hm ht hr d1 d2 d3 d4 hb hdr hdq hkj HI hS hT hF hps hab fm1 fm2 hw5
          go_wp2_with (fail)
          go_quiet (fail)
          go_wp2_with (fail)
          refine (ref_means _ _ l T _ (Kd.C_below (Kd.C_below HL.out HB4.out) (below_drewN HB.out _)) H100.out (by have := HR.out; omega)).mono ?_
          rintro e w6 ⟨rfl, hb6⟩
          rw [HM.out, HT.out]
          have HB6 := Lib.hid (Ints.bel_trans (below_drewN HB.out _) HB.out.size hb6)
          have hsz : (S.size : Int) = (F : Int) := by rw [HPS.out]
          have hsum : (a : Int) + (S.size : Int) = ((a + F : Nat) : Int) := by rw [hsz]; omega
          have HSUM := Lib.hid hsum
          have hF2 : (S.size : Int) ≤ 400 := by omega
          clear hb6 HB hsz hsum
          go_wp2_with (fail)
          go_roundg (P.length - (k + 1))
          case measure => have := HKJ.out; omega
          case rel => exact ⟨k + 1, a + F, by go_num, by rw [← HSUM.out], by have := HKJ.out; omega, by omega, D2.out, D4.out, HB6.out⟩
        · have h40i : (b.size : Int) < (a : Int) + 40 := by omega
          have HB := Lib.hid (Ints.bel_trans HB4.out HB4.out.size hb)
          clear hb hdr hdq hkj HI
          go_wp2_with (fail)
          go_ret
          exact ⟨rfl, HB.out⟩
      · obtain rfl : k = P.length := by omega
        have HB := Lib.hid (Ints.bel_trans HB4.out HB4.out.size hb)
        clear hb hdr hdq hab hkj HI
        go_wp2_with (fail)
        go_ret
        exact ⟨rfl, HB.out⟩
  · have HB1 := Lib.hid hb1
    clear hb1 hin
    go_wp2_with (go_at_call 21; refine (alive_any _).mono ?_; rintro e w' ⟨rfl, hb⟩)
    go_ret
    exact ⟨rfl, Ints.bel_trans HB1.out HB1.out.size hb⟩
end Go.Proofs.Ytdmilmmfibmofaa.Greedy
