/- Each byte means itself; each phrase's token the phrase; beyond there is none. -/
import Derived.Test.YtdmilmmfibmofaaMeanL2
namespace Go.Proofs.Ytdmilmmfibmofaa.Mean
set_option linter.unusedVariables false
set_option linter.unusedSimpArgs false
open Go.RowKit Go.Proofs.YtdmilmmfibmofaaW.PrintWords Go.Proofs.YtdmilmmfibmofaaW.PrintMore Go.Proofs.Ytdmilmmfibmofaa.L Go.Proofs.Ytdmilmmfibmofaa.Texts Go.Proofs.Ytdmilmmfibmofaa.Dict Go.Proofs.Ytdmilmmfibmofaa.Ints

theorem no_append (s : ByteArray) : no ++ s = s := by
  apply ByteArray.ext
  rw [ByteArray.data_append]
  show #[] ++ s.data = s.data
  simp
theorem mean_one (l : List ByteArray) (most t : Int) (h0 : (means l t).size ≠ 0) (h1 : ((means l t).size : Int) ≤ max most 0) : meanGo l most no [t] = (means l t, 0) := by
  have hs : ¬ max most 0 - (no.size : Int) < ((means l t).size : Int) := by show ¬ max most 0 - ((0 : Nat) : Int) < _; omega
  rw [meanGo_cons, if_neg h0, if_neg hs, no_append]
  rfl
theorem mean_none (l : List ByteArray) (most t : Int) (ts : List Int) (h0 : (means l t).size = 0) : meanGo l most no (t :: ts) = (no, 9) := by
  rw [meanGo_cons, if_pos h0]
theorem means_byte (l : List ByteArray) (c : Nat) (h : c < 256) : means l c = ⟨#[UInt8.ofNat c]⟩ := by
  unfold means
  rw [if_neg (by omega), if_pos (by omega), Int.toNat_natCast]
theorem means_phrase (l : List ByteArray) (k : Nat) (h : k < l.length) : means l (256 + (k : Int)) = l.getD k no := by
  have hi : inL l (k : Int) = true := by unfold inL; exact decide_eq_true ⟨by omega, by omega⟩
  unfold means
  rw [if_neg (by omega), if_neg (by omega), show (256 : Int) + k - 256 = k by omega]
  unfold atL
  rw [if_pos hi, Int.toNat_natCast]
theorem means_past (l : List ByteArray) (t : Int) (h : t < 0 ∨ 256 + (l.length : Int) ≤ t) : means l t = no := by
  unfold means
  by_cases h0 : t < 0
  · rw [if_pos h0]
  · have hi : ¬ inL l (t - 256) = true := by unfold inL; rw [decide_eq_true_eq]; omega
    rw [if_neg h0, if_neg (by omega)]
    unfold atL
    rw [if_neg hi]
theorem text_phrase (p : Option Addr) (l : List ByteArray) (t : Int) (w : World) (h : DP w p l) (ht : 256 ≤ t ∧ t < 2 ^ 63) :
    Calls Try.prog 35 #[.pointer p, .int .i64 t] w fun e w' => e = .returned (.string (means l t)) ∧ w' = w := by
  have H := Lib.hid h
  clear h
  have h00 : 256 ≤ t := ht.1
  have hm := Lib.hid (show means l t = atL l (t - 256) by unfold means; rw [if_neg (by omega), if_neg (by omega)])
  have hs : wrap64 (t - 256) = t - 256 := by unfold wrap64; omega
  go_enter Try.func35, Try.ntmps35
  go_wp2_with (go_at_call 60; refine (at_any _ _ _ _ H.out).mono ?_; rintro e w1 ⟨rfl, rfl⟩)
  go_ret
  rw [hm.out]
  exact ⟨rfl, rfl⟩
theorem len_phrase (p : Option Addr) (l : List ByteArray) (t : Int) (n : Nat) (w : World) (h : DP w p l) (ht : 256 ≤ t ∧ t < 2 ^ 63) (hn : (means l t).size = n) :
    Calls Try.prog 18 #[.pointer p, .int .i64 t] w fun e w' => e = .returned (.int .i64 (n : Nat)) ∧ w' = w := by
  subst hn
  have H := Lib.hid h
  clear h
  go_enter Try.func18, Try.ntmps18
  go_wp2_with (fail)
  refine (text_phrase _ _ _ _ H.out ht).mono ?_
  rintro e w1 ⟨rfl, rfl⟩
  go_wp2_with (fail)
  go_ret
  exact ⟨rfl, rfl⟩
theorem alloc_below {B : Nat} {w w1 : World} (h : Below B w w1) (hB : B ≤ w1.heap.size) (o : Obj) : Below B w (w1.alloc o) := h.alloc hB o
theorem size_alloc_le {B : Nat} {w1 : World} (hB : B ≤ w1.heap.size) (o : Obj) : B ≤ (w1.alloc o).heap.size := by simp; omega
set_option maxRecDepth 100000 in
set_option maxHeartbeats 2000000 in
theorem MeanBytes_walk (A : Option Addr) (l : List ByteArray) (c : Nat) (cb k : Int) (w : World)
    (hl : KS.C w A l.length l) (hc : l.length ≤ c) (h16 : l.length * 16 ≤ 140737488351232) (hs : ∀ s ∈ l, s.size ≤ 140737488351232) (hcb : (Lit.int .u8 cb).wf = true) (hk : (Lit.int .i64 k).wf = true) :
    Calls Try.prog 5 #[.slice A l.length c, .int .u8 cb, .int .i64 k] w fun e w' => e = .returned (.bool true) ∧ Below w.heap.size w w' := by
  have HL := Lib.hid hl
  have HK := Lib.hid (wf_one hk)
  obtain ⟨c0, c1⟩ : 0 ≤ cb ∧ cb < 256 := by
    simp [Lit.wf, IntKind.min, IntKind.max, IntKind.signed, IntKind.bits] at hcb
    omega
  clear hcb hk
  go_enter Try.func5, Try.ntmps5
  go_wp2_with (fail)
  refine (dict_any _ _ _ l _ _ hl hs).mono ?_
  clear hl hs
  rintro e w1 ⟨hb1, ⟨hin, b, rfl, hd⟩ | ⟨hin, rfl⟩⟩
  · have HB1 := Lib.hid hb1
    have HD := Lib.hid (show DP w1 (some ⟨b, 0, none⟩) l from .inr ⟨b, rfl, hd⟩)
    have H40 := Lib.hid (okTexts_40 hin.2.2)
    have HOK := Lib.hid hin.2.2
    have hlen : l.length ≤ 100 := hin.2.2.1
    obtain ⟨ch, rfl⟩ := Int.eq_ofNat_of_zero_le c0
    have hmb := means_byte l ch (by omega)
    have hm1 : meanGo l 1 no [(ch : Int)] = (⟨#[UInt8.ofNat ch]⟩, 0) := by rw [mean_one l 1 ch (by rw [hmb]; show (1 : Nat) ≠ 0; decide) (by rw [hmb]; show ((1 : Nat) : Int) ≤ max 1 0; decide), hmb]
    have hm2 : meanGo l 1048576 no [256 + (l.length : Int)] = (no, 9) := mean_none l _ _ [] (by rw [means_past l _ (.inr (Int.le_refl _))]; rfl)
    have hm3 : meanGo l 1048576 no [-1] = (no, 9) := mean_none l _ _ [] (by rw [means_past l _ (.inl (by decide))]; rfl)
    have hm4 : (means l (ch : Int)).size = 1 := by rw [hmb]; rfl
    have M1 := Lib.hid hm1
    have M2 := Lib.hid hm2
    have M3 := Lib.hid hm3
    have M4 := Lib.hid hm4
    have hw : wrap64 (ch : Int) = ch := by unfold wrap64; omega
    clear hb1 hd hin hm1 hm2 hm3 hm4 hmb
    go_wp2_with (fail)
    refine (alive_any _).mono ?_
    rintro e w2 ⟨rfl, hb2⟩
    have HB2 := Lib.hid (Ints.bel_trans HB1.out HB1.out.size hb2)
    have HD2 := Lib.hid (HD.out.below hb2)
    clear hb2 HB1 HD
    go_wp2_with (fail)
    refine (of_any _ _ _ _ l 1 [(ch : Int)] _ (HD2.out.below ((Below.refl _ _).alloc (Nat.le_refl _) _)) (lit_ints w2 3 [(ch : Int)] (by simp)) H40.out (by intro t ht; rw [List.mem_singleton.1 ht]; omega) (by simp) (by decide)).mono ?_
    rintro e w3 ⟨rfl, hb3⟩
    rw [M1.out]
    have HB3 := Lib.hid (Ints.bel_trans (alloc_below HB2.out HB2.out.size _) (size_alloc_le HB2.out.size _) hb3)
    have HD3 := Lib.hid ((HD2.out.below ((Below.refl _ _).alloc (Nat.le_refl _) _)).below hb3)
    clear hb3 HB2 HD2
    have hcv : (convert 40 9 (.slice (some ⟨w3.heap.size, 0, none⟩) 1 1)).run Try.prog (w3.alloc (.cells #[.int .u8 ch] 5)) = .ok (.string ⟨#[UInt8.ofNat ch]⟩) (w3.alloc (.cells #[.int .u8 ch] 5)) :=
      own_string (P := Try.prog) (base := w3.heap.size) (n := 1) (e' := 5) (xs := [(ch : Int)]) Try.underlying40 Try.underlying5 Try.underlying9 ⟨rfl, .inr ⟨w3.heap.size, 1, #[.int .u8 ch], rfl, Nat.le_refl _, heap_alloc_new w3 _, Nat.le_refl _, by decide, rfl, rfl⟩⟩
    go_wp2_with (fail)
    refine (len_any _ l (ch : Int) _ (HD3.out.below ((Below.refl _ _).alloc (Nat.le_refl _) _)) (by omega)).mono ?_
    rintro e w4 ⟨rfl, hb4⟩
    rw [M4.out]
    have HB4 := Lib.hid (Ints.bel_trans (alloc_below HB3.out HB3.out.size _) (size_alloc_le HB3.out.size _) hb4)
    have HD4 := Lib.hid ((HD3.out.below ((Below.refl _ _).alloc (Nat.le_refl _) _)).below hb4)
    clear hb4 HB3 HD3 hcv
    go_wp2_with (fail)
    refine (of_any _ _ _ _ l 1048576 [256 + (l.length : Int)] _ (HD4.out.below ((Below.refl _ _).alloc (Nat.le_refl _) _)) (lit_ints w4 3 [256 + (l.length : Int)] (by simp)) H40.out (by intro t ht; rw [List.mem_singleton.1 ht]; omega) (by simp) (by decide)).mono ?_
    rintro e w5 ⟨rfl, hb5⟩
    rw [M2.out]
    have HB5 := Lib.hid (Ints.bel_trans (alloc_below HB4.out HB4.out.size _) (size_alloc_le HB4.out.size _) hb5)
    have HD5 := Lib.hid ((HD4.out.below ((Below.refl _ _).alloc (Nat.le_refl _) _)).below hb5)
    clear hb5 HB4 HD4
    go_wp2_with (fail)
    refine (of_any _ _ _ _ l 1048576 [-1] _ (HD5.out.below ((Below.refl _ _).alloc (Nat.le_refl _) _)) (lit_ints w5 3 [-1] (by simp)) H40.out (by decide) (by simp) (by decide)).mono ?_
    rintro e w6 ⟨rfl, hb6⟩
    rw [M3.out]
    have HB6 := Lib.hid (Ints.bel_trans (alloc_below HB5.out HB5.out.size _) (size_alloc_le HB5.out.size _) hb6)
    have HD6 := Lib.hid ((HD5.out.below ((Below.refl _ _).alloc (Nat.le_refl _) _)).below hb6)
    clear hb6 HB5 HD5
    by_cases hkr : 0 ≤ k ∧ k < (l.length : Int)
    · obtain ⟨k0, k1⟩ := hkr
      obtain ⟨j, rfl⟩ := Int.eq_ofNat_of_zero_le k0
      have hjl : j < l.length := by omega
      have hok := HOK.out.2 j hjl
      have hmp := means_phrase l j hjl
      have hm5 : meanGo l 1048576 no [256 + (j : Int)] = (l.getD j no, 0) := by
        rw [mean_one l _ _ (by rw [hmp]; exact hok.1) (by rw [hmp]; have := hok.2.1; omega), hmp]
      obtain ⟨s, hsj⟩ : ∃ s, l.getD j no = s := ⟨_, rfl⟩
      rw [hsj] at hm5 hmp
      have M5 := Lib.hid hm5
      have M6 := Lib.hid (show (means l (256 + (j : Int))).size = s.size by rw [hmp])
      have HSJ := Lib.hid hsj
      have hw2 : wrap64 (256 + (j : Int)) = 256 + (j : Int) := by unfold wrap64; omega
      clear hok hmp hm5 hsj
      go_wp2_with (fail)
      refine (of_any _ _ _ _ l 1048576 [256 + (j : Int)] _ (HD6.out.below ((Below.refl _ _).alloc (Nat.le_refl _) _)) (lit_ints w6 3 [256 + (j : Int)] (by simp)) H40.out (by intro t ht; rw [List.mem_singleton.1 ht]; omega) (by simp) (by decide)).mono ?_
      rintro e w7 ⟨rfl, hb7⟩
      rw [M5.out]
      have HB7 := Lib.hid (Ints.bel_trans (alloc_below HB6.out HB6.out.size _) (size_alloc_le HB6.out.size _) hb7)
      have HD7 := Lib.hid ((HD6.out.below ((Below.refl _ _).alloc (Nat.le_refl _) _)).below hb7)
      clear hb7 HB6 HD6
      obtain ⟨ad, rfl, x0⟩ := strs_at (Kd.C_below HL.out HB7.out) j hjl
      rw [HSJ.out] at x0
      have i1 : (j : Int) < (l.length : Int) := by omega
      have i2 : ((j : Int)).toNat = j := by omega
      have n1 : (s.toList == s.toList) = true := by simp
      have n2 : ((s.size : Int) == (s.size : Int)) = true := by simp
      go_wp2_with (fail)
      go_quiet ((go_at_call 18; exact Calls.quiet_of_same (len_phrase _ l _ _ _ (HD7.out.below (below_drewN (Below.refl _ _) _)) (by omega) M6.out)))
      go_wp2_with (fail)
      go_ret
      exact ⟨rfl, below_drewN HB7.out _⟩
    · by_cases k0 : k < 0
      · clear hkr
        go_wp2_with (fail)
        go_ret
        exact ⟨rfl, HB6.out⟩
      · have k1 : (l.length : Int) ≤ k := by omega
        have k00 : 0 ≤ k := by omega
        clear hkr k0
        go_wp2_with (fail)
        go_ret
        exact ⟨rfl, HB6.out⟩
  · have HB1 := Lib.hid hb1
    clear hb1 hin
    go_wp2_with (go_at_call 13; refine (alive_any _).mono ?_; rintro e w' ⟨rfl, hb⟩)
    go_ret
    exact ⟨rfl, Ints.bel_trans HB1.out HB1.out.size hb⟩
end Go.Proofs.Ytdmilmmfibmofaa.Mean
