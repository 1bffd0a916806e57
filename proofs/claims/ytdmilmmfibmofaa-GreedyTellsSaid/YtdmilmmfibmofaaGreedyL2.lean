/- Chapter 13: there are never more tokens than bytes; each but a byte is a phrase. -/
import Derived.Test.YtdmilmmfibmofaaGreedyL1
import Derived.Test.YtdmilmmfibmofaaSays
namespace Go.Proofs.Ytdmilmmfibmofaa.Greedy
set_option linter.unusedVariables false
set_option linter.unusedSimpArgs false
open Go.RowKit Go.Proofs.YtdmilmmfibmofaaW.PrintWords Go.Proofs.YtdmilmmfibmofaaW.PrintMore Go.Proofs.Ytdmilmmfibmofaa.L Go.Proofs.Ytdmilmmfibmofaa.Texts Go.Proofs.Ytdmilmmfibmofaa.Dict Go.Proofs.Ytdmilmmfibmofaa.Ints Go.Proofs.Ytdmilmmfibmofaa.Say

theorem means_token (l : List ByteArray) (b : ByteArray) (a n : Nat) (ha : a < b.size) (h : has (piece b a n) l = true ∨ n = 1) : means l (tokenOf l b a n) = piece b a n := by
  unfold tokenOf
  by_cases hh : has (piece b a n) l = true
  · have hi := (idx_mem _ _).2 ((has_iff _ _).1 hh)
    rw [if_pos hh, means_phrase l _ hi, idx_get _ _ hi]
  · have hn : n = 1 := h.resolve_left hh
    subst hn
    have h1 := byteAt_lt b a
    rw [if_neg hh, piece_one b a ha]
    have := means_byte l (byteAt b a).toNat (by omega)
    rw [show (((byteAt b a).toNat : Nat) : Int) = byteAt b a by omega] at this
    exact this
theorem first_has (l : List ByteArray) (b : ByteArray) (a : Nat) : has (piece b a (firstLen l b a)) l = true ∨ firstLen l b a = 1 := by
  by_cases h : longest l b a = 0
  · right
    unfold firstLen
    rw [if_pos h]
  · left
    obtain ⟨h1, h2, _⟩ := token_phrase l b a h
    rw [h1]
    exact h2
theorem means_first (l : List ByteArray) (b : ByteArray) (a : Nat) (ha : a < b.size) : means l (tokenOf l b a (firstLen l b a)) = piece b a (firstLen l b a) := means_token l b a _ ha (first_has l b a)
theorem isTok_token {l : List ByteArray} (hok : okTexts l) (b : ByteArray) (a n : Nat) (hn : n ≠ 0) (hf : a + n ≤ b.size) (h : has (piece b a n) l = true ∨ n = 1) : isTok l (tokenOf l b a n) = true := by
  rw [isTok_size hok, means_token l b a n (by omega) h, piece_size b a n hf]
  exact decide_eq_true hn
theorem piece_join (b : ByteArray) (a n m : Nat) (h : a + n + m ≤ b.size) : piece b a n ++ piece b (a + n) m = piece b a (n + m) := by
  unfold piece
  apply ByteArray.ext
  rw [ByteArray.data_append, ByteArray.data_extract, ByteArray.data_extract, ByteArray.data_extract, Array.extract_append_extract, Nat.min_eq_left (by omega), Nat.max_eq_right (by omega), Nat.add_assoc]
theorem from_means (l : List ByteArray) (hok : okTexts l) (b : ByteArray) : ∀ n a, a + n = b.size → allTok l (from_ l b a) ∧ allMean l (from_ l b a) = piece b a n := by
  intro n
  induction n using Nat.strongRecOn with
  | _ n ih =>
    intro a h
    by_cases ha : a < b.size
    · have h1 := firstLen_pos l b a
      have h2 := firstLen_fits l b a ha
      obtain ⟨i1, i2⟩ := ih (n - firstLen l b a) (by omega) (a + firstLen l b a) (by omega)
      rw [from_step l b a ha]
      constructor
      · intro t ht
        rcases List.mem_cons.1 ht with rfl | ht
        · rw [means_first l b a ha, piece_size b a _ h2]
          omega
        · exact i1 t ht
      · show means l (tokenOf l b a (firstLen l b a)) ++ allMean l (from_ l b (a + firstLen l b a)) = _
        rw [i2, means_first l b a ha, piece_join b a _ _ (by omega), show firstLen l b a + (n - firstLen l b a) = n by omega]
    · obtain rfl : n = 0 := by omega
      rw [from_end l b a (by omega)]
      refine ⟨fun t ht => by simp at ht, ?_⟩
      exact (empty_of (piece_size b a 0 (by omega))).symm
theorem parse_says (l : List ByteArray) (hok : okTexts l) (b : ByteArray) : says l (parse l b) b = true := by
  obtain ⟨h1, h2⟩ := from_means l hok b b.size 0 (by omega)
  rw [from_zero] at h1 h2
  exact says_of h1 (by rw [h2, piece_all])
theorem parse_range (l : List ByteArray) (hok : okTexts l) (b : ByteArray) : ∀ t ∈ parse l b, -(2 ^ 63) ≤ t ∧ t < 2 ^ 63 := by
  have key : ∀ n a, b.size - a = n → ∀ t ∈ from_ l b a, -(2 ^ 63) ≤ t ∧ t < 2 ^ 63 := by
    intro n
    induction n using Nat.strongRecOn with
    | _ n ih =>
      intro a h t ht
      by_cases ha : a < b.size
      · have h1 := firstLen_pos l b a
        rw [from_step l b a ha] at ht
        rcases List.mem_cons.1 ht with rfl | ht
        · have := token_range l b a (firstLen l b a) hok.1
          omega
        · exact ih (b.size - (a + firstLen l b a)) (by omega) _ rfl t ht
      · rw [from_end l b a (by omega)] at ht
        simp at ht
  rw [← from_zero]
  exact key _ 0 rfl
theorem drop_cons {α : Type} {xs ys : List α} {x : α} {k : Nat} (h : xs.drop k = x :: ys) (d : α) : k < xs.length ∧ xs.getD k d = x ∧ xs.drop (k + 1) = ys := by
  have hk : k < xs.length := by
    have := congrArg List.length h
    rw [List.length_drop, List.length_cons] at this
    omega
  rw [List.drop_eq_getElem_cons hk] at h
  injection h with h1 h2
  exact ⟨hk, by rw [List.getD_eq_getElem?_getD, List.getElem?_eq_getElem hk]; exact h1, h2⟩

set_option maxRecDepth 100000 in
set_option maxHeartbeats 2000000 in
theorem GreedyCounts_walk (A : Option Addr) (l : List ByteArray) (c : Nat) (b : ByteArray) (w : World)
    (hl : KS.C w A l.length l) (hc : l.length ≤ c) (h16 : l.length * 16 ≤ 140737488351232) (hs : ∀ s ∈ l, s.size ≤ 140737488351232) (hbs : b.size ≤ 140737488351232) :
    Calls Try.prog 11 #[.slice A l.length c, .string b] w fun e w' => e = .returned (.bool true) ∧ Below w.heap.size w w' := by
  have HL := Lib.hid hl
  go_enter Try.func11, Try.ntmps11
  go_wp2_with (fail)
  refine (dict_any _ _ _ l _ _ hl hs).mono ?_
  clear hl hs
  rintro e w1 ⟨hb1, ⟨hin, bk, rfl, hd⟩ | ⟨hin, rfl⟩⟩
  · have HB1 := Lib.hid hb1
    have HD := Lib.hid (show DP w1 (some ⟨bk, 0, none⟩) l from .inr ⟨bk, rfl, hd⟩)
    have HOK := Lib.hid hin.2.2
    have H100 := Lib.hid hin.2.2.1
    have hb400 := hin.2.1
    clear hb1 hd hin
    go_wp2_with (fail)
    refine (alive_any _).mono ?_
    rintro e w2 ⟨rfl, hb2⟩
    have HB2 := Lib.hid (Ints.bel_trans HB1.out HB1.out.size hb2)
    have HD2 := Lib.hid (HD.out.below hb2)
    clear hb2 HB1 HD
    go_wp2_with (fail)
    refine (parse_any _ l b _ HD2.out HOK.out (by omega)).mono ?_
    rintro e w3 ⟨v, rfl, hr, hb3⟩
    have hpl := parse_len l b
    obtain ⟨P, hP⟩ : ∃ P, parse l b = P := ⟨_, rfl⟩
    have hst : P.drop 0 = from_ l b 0 := by rw [from_zero, hP]; rfl
    rw [hP] at hr hpl
    obtain ⟨A3, c3, rfl⟩ := Kd.R_slice hr
    have HC3 := Lib.hid (Kd.R_reads' hr).2.2
    have HB3 := Lib.hid (Ints.bel_trans HB2.out HB2.out.size hb3)
    have HD3 := Lib.hid (HD2.out.below hb3)
    have HST := Lib.hid hst
    have hpi : (P.length : Int) ≤ (b.size : Int) := by omega
    clear hr hb3 HB2 HD2 hst hP
    go_wp2_with (fail)
    go_loopg [35, 8] P.length (fun j i at_ wr => ∃ (k a : Nat), i = .int .i64 k ∧ at_ = .int .i64 a ∧ Hid (k + j = P.length ∧ a ≤ b.size ∧ P.drop k = from_ l b a ∧ Below w3.heap.size w3 wr))
    case atStart => exact ⟨0, 0, rfl, rfl, by omega, Nat.zero_le _, HST.out, Below.refl _ _⟩
    case round =>
      obtain ⟨k, a, rfl, rfl, HI⟩ := hrel
      obtain ⟨hkj, hab, hdr, hb⟩ := HI.out
      by_cases hlt : k < P.length
      · have ha : a < b.size := by
          rcases Nat.lt_or_ge a b.size with h | h
          · exact h
          · rw [from_end l b a h] at hdr
            have := congrArg List.length hdr
            rw [List.length_drop, List.length_nil] at this
            omega
        rw [from_step l b a ha] at hdr
        obtain ⟨_, d1, d2⟩ := drop_cons hdr 0
        obtain ⟨n1, n2⟩ := next_in (l := l) ha
        have hf1 := firstLen_pos l b a
        have hf2 := firstLen_fits l b a ha
        have hm := means_first l b a ha
        have ht := isTok_token HOK.out b a _ (by omega) hf2 (first_has l b a)
        have hr := token_range l b a (firstLen l b a) H100.out
        have hps := piece_size b a _ hf2
        obtain ⟨T, hT⟩ : ∃ T, tokenOf l b a (firstLen l b a) = T := ⟨_, rfl⟩
        rw [hT] at d1 n1 hm ht hr
        obtain ⟨F, hF⟩ : ∃ F, firstLen l b a = F := ⟨_, rfl⟩
        rw [hF] at n2 hf1 hf2 hm d2 hps
        obtain ⟨S, hS⟩ : ∃ S, piece b a F = S := ⟨_, rfl⟩
        rw [hS] at hm hps
        obtain ⟨ad, rfl, x0⟩ := ints_at (Kd.C_below HC3.out hb) k hlt
        rw [d1] at x0
        have N1 := Lib.hid n1
        have N2 := Lib.hid n2
        have HM := Lib.hid hm
        have HT := Lib.hid ht
        have HR := Lib.hid hr
        have D2 := Lib.hid d2
        have HB := Lib.hid hb
        have HKJ := Lib.hid hkj
        have e1 : (T != T) = false := by simp
        have e2 : ((F : Int) != (S.size : Int)) = false := by rw [hps]; simp
        have i0 : (0 : Int) ≤ k := by omega
        have i1 : (k : Int) < (P.length : Int) := by omega
        have i2 : ((k : Int)).toNat = k := by omega
        have a0 : (0 : Int) ≤ a := by omega
        have a1 : (a : Int) + (F : Int) ≤ (b.size : Int) := by omega
        have hsl : b.extract a (a + F) = S := hS
        have e3 : (S.toList == S.toList) = true := by simp
        clear n1 n2 hm ht hr d1 d2 hb hdr hkj HI hS hT hF hps hab
        go_wp2_with (fail)
        refine (next_any _ l b _ _ ((HD3.out.below HB.out)) HOK.out (by omega)).mono ?_
        rintro e w4 ⟨hb4, rfl⟩
        rw [N1.out, N2.out]
        have HB4 := Lib.hid (Ints.bel_trans HB.out HB.out.size hb4)
        clear hb4 HB
        go_wp2_with (fail)
        refine (ref_means _ _ l T _ (Kd.C_below (Kd.C_below HL.out HB3.out) HB4.out) H100.out (by have := HR.out; omega)).mono ?_
        rintro e w5 ⟨rfl, hb5⟩
        rw [HM.out, HT.out]
        have HB5 := Lib.hid (Ints.bel_trans HB4.out HB4.out.size hb5)
        clear hb5 HB4
        go_wp2_with (fail)
        go_roundg (P.length - (k + 1))
        case measure => have := HKJ.out; omega
        case rel => exact ⟨k + 1, a + F, by go_num, by go_num, by have := HKJ.out; omega, by omega, D2.out, HB5.out⟩
      · obtain rfl : k = P.length := by omega
        have ha : a = b.size := by
          rcases Nat.lt_or_ge a b.size with h | h
          · rw [from_step l b a h, List.drop_length] at hdr
            cases hdr
          · omega
        subst ha
        have HB := Lib.hid (Ints.bel_trans HB3.out HB3.out.size hb)
        have e1 : ((b.size : Int) == (b.size : Int)) = true := by simp
        clear hb hdr hab hkj HI
        go_wp2_with (fail)
        go_ret
        exact ⟨rfl, HB.out⟩
  · have HB1 := Lib.hid hb1
    clear hb1 hin
    go_wp2_with (go_at_call 21; refine (alive_any _).mono ?_; rintro e w' ⟨rfl, hb⟩)
    go_ret
    exact ⟨rfl, Ints.bel_trans HB1.out HB1.out.size hb⟩
end Go.Proofs.Ytdmilmmfibmofaa.Greedy
