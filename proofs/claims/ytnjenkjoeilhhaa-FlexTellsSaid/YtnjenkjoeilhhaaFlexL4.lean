/- Chapter 14: of every dictionary, every bytes: the tokens, which mean these bytes; the token at each place; how far one comes; lists kept, marked, grown. -/
import Derived.Test.YtnjenkjoeilhhaaRefFlex
import Derived.Test.YtnjenkjoeilhhaaBookApart
namespace Go.Proofs.Ytnjenkjoeilhhaa.Flex
set_option linter.unusedVariables false
set_option linter.unusedSimpArgs false
open Go.RowKit Go.Proofs.YtnjenkjoeilhhaaW.PrintWords Go.Proofs.YtnjenkjoeilhhaaW.PrintMore Go.Proofs.Ytnjenkjoeilhhaa.L Go.Proofs.Ytnjenkjoeilhhaa.Texts Go.Proofs.Ytnjenkjoeilhhaa.Dict Go.Proofs.Ytnjenkjoeilhhaa.Ints Go.Proofs.Ytnjenkjoeilhhaa.Greedy Go.Proofs.Ytnjenkjoeilhhaa.Say Go.Proofs.Ytnjenkjoeilhhaa.Book

theorem means_token (l : List ByteArray) (b : ByteArray) (a n : Nat) (ha : a < b.size) (h : has (piece b a n) l = true ∨ n = 1) : means l (tokenOf l b a n) = piece b a n := by
  unfold tokenOf
  by_cases hh : has (piece b a n) l = true
  · have hi := (idx_mem _ _).2 ((has_iff _ _).1 hh)
    rw [if_pos hh, means_phrase l _ hi, idx_get _ _ hi]
  · have hn : n = 1 := h.resolve_left hh
    subst hn
    have h1 := byteAt_lt b a
    rw [if_neg hh, piece_one b a ha]
    have := means_byte l (byteAt b a).toNat (by omega)
    rw [show (((byteAt b a).toNat : Nat) : Int) = byteAt b a by omega] at this
    exact this
theorem isTok_token {l : List ByteArray} (hok : okTexts l) (b : ByteArray) (a n : Nat) (hn : n ≠ 0) (hf : a + n ≤ b.size) (h : has (piece b a n) l = true ∨ n = 1) : isTok l (tokenOf l b a n) = true := by
  rw [isTok_size hok, means_token l b a n (by omega) h, piece_size b a n hf]
  exact decide_eq_true hn
theorem piece_join (b : ByteArray) (a n m : Nat) (h : a + n + m ≤ b.size) : piece b a n ++ piece b (a + n) m = piece b a (n + m) := by
  unfold piece
  apply ByteArray.ext
  rw [ByteArray.data_append, ByteArray.data_extract, ByteArray.data_extract, ByteArray.data_extract, Array.extract_append_extract, Nat.min_eq_left (by omega), Nat.max_eq_right (by omega), Nat.add_assoc]
theorem fromF_means (l : List ByteArray) (hok : okTexts l) (b : ByteArray) : ∀ n a, a + n = b.size → allTok l (fromF l b a) ∧ allMean l (fromF l b a) = piece b a n := by
  intro n
  induction n using Nat.strongRecOn with
  | _ n ih =>
    intro a h
    by_cases ha : a < b.size
    · have h1 := best_pos l b a ha
      have h2 := best_fits l b a ha
      obtain ⟨i1, i2⟩ := ih (n - bestLen l b a) (by omega) (a + bestLen l b a) (by omega)
      rw [fromF_step l b a ha]
      constructor
      · intro t ht
        rcases List.mem_cons.1 ht with rfl | ht
        · rw [means_token l b a _ ha (best_has l b a ha), piece_size b a _ h2]
          omega
        · exact i1 t ht
      · show means l (tokenOf l b a (bestLen l b a)) ++ allMean l (fromF l b (a + bestLen l b a)) = _
        rw [i2, means_token l b a _ ha (best_has l b a ha), piece_join b a _ _ (by omega), show bestLen l b a + (n - bestLen l b a) = n by omega]
    · obtain rfl : n = 0 := by omega
      rw [fromF_end l b a (by omega)]
      refine ⟨fun t ht => by simp at ht, ?_⟩
      exact (empty_of (piece_size b a 0 (by omega))).symm
theorem parseF_says (l : List ByteArray) (hok : okTexts l) (b : ByteArray) : says l (parseF l b) b = true := by
  obtain ⟨h1, h2⟩ := fromF_means l hok b b.size 0 (by omega)
  rw [show fromF l b 0 = parseF l b from rfl] at h1 h2
  exact says_of h1 (by rw [h2, piece_all])
theorem parseF_range (l : List ByteArray) (hok : okTexts l) (b : ByteArray) : ∀ t ∈ parseF l b, -(2 ^ 63) ≤ t ∧ t < 2 ^ 63 := by
  have key : ∀ n a, b.size - a = n → ∀ t ∈ fromF l b a, -(2 ^ 63) ≤ t ∧ t < 2 ^ 63 := by
    intro n
    induction n using Nat.strongRecOn with
    | _ n ih =>
      intro a h t ht
      by_cases ha : a < b.size
      · have h1 := best_pos l b a ha
        rw [fromF_step l b a ha] at ht
        rcases List.mem_cons.1 ht with rfl | ht
        · have := token_range l b a (bestLen l b a) hok.1
          omega
        · exact ih (b.size - (a + bestLen l b a)) (by omega) _ rfl t ht
      · rw [fromF_end l b a (by omega)] at ht
        simp at ht
  rw [show parseF l b = fromF l b 0 from rfl]
  exact key _ 0 rfl

def reachZ (l : List ByteArray) (b : ByteArray) (k n : Int) : Int := if 0 ≤ k ∧ 0 ≤ n ∧ k ≤ (b.size : Int) ∧ n ≤ (b.size : Int) - k then (reach l b k.toNat n.toNat : Nat) else 0
theorem reach_any (p : Option Addr) (l : List ByteArray) (b : ByteArray) (k n : Int) (w : World) (h : DP w p l) (hok : okTexts l) (hk : -(2 ^ 63) ≤ k ∧ k < 2 ^ 63) (hbs : b.size ≤ 1000000) :
    Calls Try.prog 15 #[.pointer p, .string b, .int .i64 k, .int .i64 n] w fun e w' => e = .returned (.int .i64 (reachZ l b k n)) ∧ Below w.heap.size w w' := by
  by_cases hc : 0 ≤ k ∧ 0 ≤ n ∧ k ≤ (b.size : Int) ∧ n ≤ (b.size : Int) - k
  · obtain ⟨h1, h2, h3, h4⟩ := hc
    obtain ⟨K, rfl⟩ := Int.eq_ofNat_of_zero_le h1
    obtain ⟨M, rfl⟩ := Int.eq_ofNat_of_zero_le h2
    refine (reach_in p l b K M w h hok hbs (by omega)).mono ?_
    rintro e w1 ⟨hb, rfl⟩
    refine ⟨?_, hb⟩
    unfold reachZ
    rw [if_pos ⟨h1, h2, h3, h4⟩, Int.toNat_natCast, Int.toNat_natCast]
  · refine (reach_out p b k n w hk hbs (by omega)).mono ?_
    rintro e w1 ⟨rfl, rfl⟩
    refine ⟨?_, Below.refl _ _⟩
    unfold reachZ
    rw [if_neg hc]
theorem ref_reach_any (A : Option Addr) (c : Nat) (l : List ByteArray) (b : ByteArray) (k n : Int) (w : World) (h : KS.C w A l.length l) (hk : -(2 ^ 63) ≤ k ∧ k < 2 ^ 63) (hbs : b.size ≤ 1000000) :
    Calls Try.prog 16 #[.slice A l.length c, .string b, .int .i64 k, .int .i64 n] w fun e w' => e = .returned (.int .i64 (reachZ l b k n)) ∧ Below w.heap.size w w' := by
  by_cases hc : 0 ≤ k ∧ 0 ≤ n ∧ k ≤ (b.size : Int) ∧ n ≤ (b.size : Int) - k
  · obtain ⟨h1, h2, h3, h4⟩ := hc
    obtain ⟨K, rfl⟩ := Int.eq_ofNat_of_zero_le h1
    obtain ⟨M, rfl⟩ := Int.eq_ofNat_of_zero_le h2
    refine (ref_reach A c l b K M w h (by omega) hbs).mono ?_
    rintro e w1 ⟨rfl, hb⟩
    refine ⟨?_, hb⟩
    unfold reachZ
    rw [if_pos ⟨h1, h2, h3, h4⟩, Int.toNat_natCast, Int.toNat_natCast]
  · refine (ref_reach_out A c l b k n w hk hbs (by omega)).mono ?_
    rintro e w1 ⟨rfl, rfl⟩
    refine ⟨?_, Below.refl _ _⟩
    unfold reachZ
    rw [if_neg hc]
theorem nextF_any (p : Option Addr) (l : List ByteArray) (b : ByteArray) (k : Int) (w : World) (h : DP w p l) (hok : okTexts l) (hbs : b.size ≤ 1000000) :
    Calls Try.prog 12 #[.pointer p, .string b, .int .i64 k] w fun e w' => Below w.heap.size w w' ∧ e = .returned (.tuple #[.int .i64 (nextTokF l b k), .int .i64 (nextLenF l b k : Nat)]) := by
  by_cases hc : 0 ≤ k ∧ k < (b.size : Int)
  · obtain ⟨K, rfl⟩ := Int.eq_ofNat_of_zero_le hc.1
    obtain ⟨n1, n2⟩ := nextF_in (l := l) (b := b) (a := K) (by omega)
    rw [n1, n2]
    exact nextF_some p l b K w h hok (by omega) hbs
  · obtain ⟨n1, n2⟩ := nextF_out (l := l) (b := b) (k := k) (by omega)
    rw [n1, n2]
    refine (nextF_none p l b k w (by omega)).mono ?_
    rintro e w1 ⟨rfl, rfl⟩
    exact ⟨Below.refl _ _, rfl⟩
set_option maxRecDepth 100000 in
set_option maxHeartbeats 4000000 in
theorem FlexTells_walk (A : Option Addr) (l : List ByteArray) (c : Nat) (b : ByteArray) (at_ n_ : Int) (w : World)
    (hl : KS.C w A l.length l) (hc : l.length ≤ c) (h16 : l.length * 16 ≤ 140737488351232) (hs : ∀ s ∈ l, s.size ≤ 140737488351232) (hbs : b.size ≤ 140737488351232) (hat : (Lit.int .i64 at_).wf = true) (hnn : (Lit.int .i64 n_).wf = true) :
    Calls Try.prog 3 #[.slice A l.length c, .string b, .int .i64 at_, .int .i64 n_] w fun e w' => e = .returned (.bool true) ∧ Below w.heap.size w w' := by
  have HL := Lib.hid hl
  have hak : -(2 ^ 63) ≤ at_ ∧ at_ < 2 ^ 63 := by
    have := hat
    simp [Lit.wf, IntKind.min, IntKind.max, IntKind.signed, IntKind.bits] at this
    omega
  go_enter Try.func3, Try.ntmps3
  go_wp2_with (fail)
  refine (dict_any _ _ _ l _ _ hl hs).mono ?_
  clear hl hs hat hnn
  rintro e w1 ⟨hb1, ⟨hin, bk, rfl, hd⟩ | ⟨hin, rfl⟩⟩
  · have HB1 := Lib.hid hb1
    have HD := Lib.hid (show DP w1 (some ⟨bk, 0, none⟩) l from .inr ⟨bk, rfl, hd⟩)
    have HOK := Lib.hid hin.2.2
    have H100 := Lib.hid hin.2.2.1
    have hb400 := hin.2.1
    clear hb1 hd hin
    go_wp2_with (fail)
    refine (alive_any _).mono ?_
    rintro e w2 ⟨rfl, hb2⟩
    have HB2 := Lib.hid (Ints.bel_trans HB1.out HB1.out.size hb2)
    have HD2 := Lib.hid (HD.out.below hb2)
    clear hb2 HB1 HD
    go_wp2_with (fail)
    refine (parseF_any _ l b _ HD2.out HOK.out (by omega)).mono ?_
    rintro e w3 ⟨v, rfl, hr, hb3⟩
    have hpl := parseF_len l b
    have hsy := parseF_says l HOK.out b
    have hrg := parseF_range l HOK.out b
    obtain ⟨P, hP⟩ : ∃ P, parseF l b = P := ⟨_, rfl⟩
    rw [hP] at hr hpl hsy hrg
    obtain ⟨A3, c3, rfl⟩ := Kd.R_slice hr
    have HP := Lib.hid hP
    have HSY := Lib.hid hsy
    have HRG := Lib.hid hrg
    have HR3 := Lib.hid (Kd.R_lower hr HB2.out.size)
    have HC3 := Lib.hid (Kd.R_reads' hr).2.2
    have HB3 := Lib.hid (Ints.bel_trans HB2.out HB2.out.size hb3)
    have HD3 := Lib.hid (HD2.out.below hb3)
    have HBK := Lib.hid (bk_new w3 w.heap.size)
    have hsz3 : w.heap.size ≤ w3.heap.size := HB3.out.size
    have hP400 : P.length ≤ 400 := by omega
    clear hr hb3 HB2 HD2 hP hsy hrg hpl
    go_wp2_with (fail)
    have HA3 := Lib.hid (show Below w3.heap.size w3 (w3.alloc (.cells (bcells (.slice none 0 0) (.slice none 0 0) (.slice none 0 0) (.slice none 0 0)) 36 (0, 0))) from (Below.refl _ _).alloc (Nat.le_refl _) _)
    refine (ints_any _ w.heap.size w3.heap.size _ _ _ _ [] [] [] A3 P.length c3 P _ (by exact HBK.out) (by exact Kd.R_alloc HR3.out _) (fun i hi => absurd hi (Nat.not_lt_zero i)) (by simp; omega) (by simp) (by simp) (by omega)).mono ?_
    rintro e w4 ⟨⟨V4, U4, u4, hbk4⟩, rfl, hb4⟩
    have HBK4 := Lib.hid hbk4
    have HB4 := Lib.hid (show Below w3.heap.size w3 w4 from HA3.out.trans hb4)
    clear hbk4 hb4 HBK HA3
    go_wp2_with (fail)
    refine (parseF_any _ l b _ (HD3.out.below HB4.out) HOK.out (by omega)).mono ?_
    rintro e w5 ⟨v, rfl, hr, hb5⟩
    rw [HP.out] at hr
    obtain ⟨A5, c5, rfl⟩ := Kd.R_slice hr
    have HBK5 := Lib.hid (HBK4.out.below hb5)
    have hsz4 : w3.heap.size ≤ w4.heap.size := HB4.out.size
    have hap : ∀ i, i < ([P] : List (List Int)).length → (slv (([(A3, P.length, c3)] : List Sl).getD i z0)).ownBlock = none ∨ (slv (([(A3, P.length, c3)] : List Sl).getD i z0)).ownBlock ≠ (Value.slice A5 P.length c5).ownBlock := by
      intro i hi
      obtain rfl : i = 0 := by simpa using hi
      cases ho : (slv (([(A3, P.length, c3)] : List Sl).getD 0 z0)).ownBlock with
      | none => exact .inl rfl
      | some k =>
        right
        intro e
        have h1 := Kd.R_lt (HBK4.out.fv 0 (by simp)) k ho
        have h2 := Kd.R_base hr k e.symm
        omega
    have HAP := Lib.hid hap
    have HR5 := Lib.hid (Kd.R_lower hr (Nat.le_trans hsz3 hsz4))
    have HB5 := Lib.hid (Ints.bel_trans HB4.out HB4.out.size hb5)
    have hsz5 : w4.heap.size ≤ w5.heap.size := hb5.size
    clear hr hb5 hap HB4 HBK4
    go_wp2_with (fail)
    refine (ints_any _ w.heap.size w3.heap.size _ _ _ _ _ _ _ A5 P.length c5 P _ HBK5.out HR5.out HAP.out (by omega) (by omega) (by simp) (by omega)).mono ?_
    rintro e w6 ⟨⟨V6, U6, u6, hbk6⟩, rfl, hb6⟩
    have HBK6 := Lib.hid hbk6
    have HB6 := Lib.hid (HB5.out.trans hb6)
    clear hbk6 hb6 HBK5 HB5 HAP HR5
    go_wp2_with (fail)
    refine (nextF_any _ l b at_ _ (HD3.out.below HB6.out) HOK.out (by omega)).mono ?_
    rintro e w7 ⟨hb7, rfl⟩
    have HBK7 := Lib.hid (HBK6.out.below hb7)
    have HB7 := Lib.hid (Ints.bel_trans HB6.out HB6.out.size hb7)
    clear hb7 HBK6 HB6
    obtain ⟨T, hT⟩ : ∃ T, nextTokF l b at_ = T := ⟨_, rfl⟩
    obtain ⟨F, hF⟩ : ∃ F, nextLenF l b at_ = F := ⟨_, rfl⟩
    rw [hT, hF]
    have e1 : (T == T) = true := by simp
    have e2 : ((F : Int) == (F : Int)) = true := by simp
    have fin : ∀ (w8 : World), Below w7.heap.size w7 w8 → Below w3.heap.size w3 w8 ∧ BK w8 w3.heap.size w.heap.size w3.heap.size V6 U6 (.slice none 0 0) (.slice none 0 0) (([] ++ [(A3, P.length, c3)]) ++ [(A5, P.length, c5)]) (([] ++ [u4]) ++ [u6]) (([] ++ [P]) ++ [P]) := fun w8 h8 =>
      ⟨Ints.bel_trans HB7.out HB7.out.size h8, HBK7.out.below h8⟩
    have FIN := Lib.hid fin
    clear fin
    by_cases hin : 0 ≤ at_ ∧ at_ < (b.size : Int)
    · obtain ⟨a, rfl⟩ := Int.eq_ofNat_of_zero_le hin.1
      have ha : a < b.size := by omega
      have ha1 : (a : Int) < (b.size : Int) := hin.2
      have ha0 : (0 : Int) ≤ (a : Int) := hin.1
      obtain ⟨n1, n2⟩ := nextF_in (l := l) ha
      have hfl := Lib.hid (show bestLen l b a = F by rw [← n2]; exact hF)
      have htk := Lib.hid (show tokenOf l b a F = T by rw [← hT, n1, hfl.out])
      have hfit := best_fits l b a ha
      rw [hfl.out] at hfit
      clear hin n1 n2 hT hF
      go_wp2_with (fail)
      refine (ref_second _ _ l b a _ (Kd.C_below (Kd.C_below HL.out HB3.out) HB7.out) HOK.out ha (by omega)).mono ?_
      rintro e w8 ⟨rfl, hb8⟩
      rw [hfl.out]
      have HB8 := Lib.hid hb8
      clear hb8
      go_wp2_with (fail)
      refine (ref_token _ _ l b a F _ (Kd.C_below (Kd.C_below HL.out HB3.out) (FIN.out _ HB8.out).1) H100.out ha hfit (by omega)).mono ?_
      rintro e w9 ⟨rfl, q9, rfl⟩
      rw [htk.out]
      have HB9 := Lib.hid (below_drewN HB8.out q9)
      clear HB8
      go_wp2_with (fail)
      refine (reach_any _ l b a n_ _ (HD3.out.below (FIN.out _ HB9.out).1) HOK.out hak (by omega)).mono ?_
      rintro e wa ⟨rfl, hba⟩
      obtain ⟨RR, hRR⟩ : ∃ R, reachZ l b a n_ = R := ⟨_, rfl⟩
      rw [hRR]
      have HRR := Lib.hid hRR
      have e3 : (RR == RR) = true := by simp
      have HBA := Lib.hid (Ints.bel_trans HB9.out HB9.out.size hba)
      clear hba hRR HB9
      go_wp2_with (fail)
      refine (ref_reach_any _ _ l b a n_ _ (Kd.C_below (Kd.C_below HL.out HB3.out) (FIN.out _ HBA.out).1) hak (by omega)).mono ?_
      rintro e wb ⟨rfl, hbb⟩
      rw [HRR.out]
      have HB9 := Lib.hid (Ints.bel_trans HBA.out HBA.out.size hbb)
      clear hbb HBA
      go_wp2_with (fail)
      refine (ref_flex _ _ l b _ (Kd.C_below (Kd.C_below HL.out HB3.out) (FIN.out _ HB9.out).1) HOK.out (by omega)).mono ?_
      rintro e w10 ⟨v, rfl, hr, hb10⟩
      rw [HP.out] at hr
      obtain ⟨A10, c10, rfl⟩ := Kd.R_slice hr
      have HC10 := Lib.hid (Kd.R_reads' hr).2.2
      have HB10 := Lib.hid (Ints.bel_trans HB9.out HB9.out.size hb10)
      clear hr hb10 HB9
      go_wp2_with (fail)
      refine (same_true _ _ _ _ _ _ P _ (Kd.C_below HC3.out (FIN.out _ HB10.out).1) HC10.out).mono ?_
      rintro e w11 ⟨rfl, q11, rfl⟩
      have HB11 := Lib.hid (below_drewN HB10.out q11)
      clear HB10 HC10
      go_wp2_with (fail)
      refine (says_any _ _ _ _ _ l P b _ (Kd.C_below (Kd.C_below HL.out HB3.out) (FIN.out _ HB11.out).1) HOK.out (Kd.C_below HC3.out (FIN.out _ HB11.out).1) HRG.out (by omega) (by omega)).mono ?_
      rintro e w12 ⟨rfl, hb12⟩
      rw [HSY.out]
      have HB12 := Lib.hid (Ints.bel_trans HB11.out HB11.out.size hb12)
      clear hb12 HB11
      go_wp2_with (fail)
      refine (apart_any _ w.heap.size w3.heap.size _ _ _ _ _ _ (FIN.out _ HB12.out).2 (by simp) (fun i hi => ?mS) (Nat.le_trans hsz3 (FIN.out _ HB12.out).1.size)).mono ?_
      case mS =>
        rcases i with _ | _ | i
        · show P.length ≤ 10000; omega
        · show P.length ≤ 10000; omega
        · exfalso; have h2 : (([] ++ [P]) ++ [P] : List (List Int)).length = 2 := rfl; omega
      rintro e w13 ⟨rfl, hb13⟩
      have HB13 := Lib.hid ((Ints.bel_trans HB3.out hsz3 (FIN.out _ HB12.out).1).trans hb13)
      clear hb13
      go_wp2_with (fail)
      go_ret
      exact ⟨rfl, HB13.out⟩
    · obtain ⟨n1, n2⟩ := nextF_out (l := l) (b := b) (k := at_) (by omega)
      obtain rfl : T = 0 := by rw [← hT, n1]
      obtain rfl : F = 0 := by rw [← hF, n2]
      have HB9 := Lib.hid (Below.refl w7.heap.size w7)
      clear n1 n2 hT hF
      by_cases h0 : at_ < 0
      all_goals
        have h00 : at_ < 0 ∨ (b.size : Int) ≤ at_ := by omega
        try (have h01 : (b.size : Int) ≤ at_ := by omega)
        try (have h02 : 0 ≤ at_ := by omega)
        clear hin h00
        go_wp2_with (fail)
        refine (reach_any _ l b at_ n_ _ (HD3.out.below (FIN.out _ HB9.out).1) HOK.out hak (by omega)).mono ?_
        rintro e wa ⟨rfl, hba⟩
        obtain ⟨RR, hRR⟩ : ∃ R, reachZ l b at_ n_ = R := ⟨_, rfl⟩
        rw [hRR]
        have HRR := Lib.hid hRR
        have e3 : (RR == RR) = true := by simp
        have HBA := Lib.hid (Ints.bel_trans HB9.out HB9.out.size hba)
        clear hba hRR HB9
        go_wp2_with (fail)
        refine (ref_reach_any _ _ l b at_ n_ _ (Kd.C_below (Kd.C_below HL.out HB3.out) (FIN.out _ HBA.out).1) hak (by omega)).mono ?_
        rintro e wb ⟨rfl, hbb⟩
        rw [HRR.out]
        have HB9 := Lib.hid (Ints.bel_trans HBA.out HBA.out.size hbb)
        clear hbb HBA
        go_wp2_with (fail)
        refine (ref_flex _ _ l b _ (Kd.C_below (Kd.C_below HL.out HB3.out) (FIN.out _ HB9.out).1) HOK.out (by omega)).mono ?_
        rintro e w10 ⟨v, rfl, hr, hb10⟩
        rw [HP.out] at hr
        obtain ⟨A10, c10, rfl⟩ := Kd.R_slice hr
        have HC10 := Lib.hid (Kd.R_reads' hr).2.2
        have HB10 := Lib.hid (Ints.bel_trans HB9.out HB9.out.size hb10)
        clear hr hb10 HB9
        go_wp2_with (fail)
        refine (same_true _ _ _ _ _ _ P _ (Kd.C_below HC3.out (FIN.out _ HB10.out).1) HC10.out).mono ?_
        rintro e w11 ⟨rfl, q11, rfl⟩
        have HB11 := Lib.hid (below_drewN HB10.out q11)
        clear HB10 HC10
        go_wp2_with (fail)
        refine (says_any _ _ _ _ _ l P b _ (Kd.C_below (Kd.C_below HL.out HB3.out) (FIN.out _ HB11.out).1) HOK.out (Kd.C_below HC3.out (FIN.out _ HB11.out).1) HRG.out (by omega) (by omega)).mono ?_
        rintro e w12 ⟨rfl, hb12⟩
        rw [HSY.out]
        have HB12 := Lib.hid (Ints.bel_trans HB11.out HB11.out.size hb12)
        clear hb12 HB11
        go_wp2_with (fail)
        refine (apart_any _ w.heap.size w3.heap.size _ _ _ _ _ _ (FIN.out _ HB12.out).2 (by simp) (fun i hi => by rcases i with _ | _ | i; (show P.length ≤ 10000; omega); (show P.length ≤ 10000; omega); (exfalso; have h2 : (([] ++ [P]) ++ [P] : List (List Int)).length = 2 := rfl; omega)) (Nat.le_trans hsz3 (FIN.out _ HB12.out).1.size)).mono ?_
        rintro e w13 ⟨rfl, hb13⟩
        have HB13 := Lib.hid ((Ints.bel_trans HB3.out hsz3 (FIN.out _ HB12.out).1).trans hb13)
        clear hb13
        go_wp2_with (fail)
        go_ret
        exact ⟨rfl, HB13.out⟩
  · have HB1 := Lib.hid hb1
    clear hb1 hin
    go_wp2_with (go_at_call 9; refine (alive_any _).mono ?_; rintro e w' ⟨rfl, hb⟩)
    go_ret
    exact ⟨rfl, Ints.bel_trans HB1.out HB1.out.size hb⟩
end Go.Proofs.Ytnjenkjoeilhhaa.Flex
