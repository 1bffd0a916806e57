/- Chapter 16: the document's answer. -/
import Derived.Test.YtdmilmmfibmofaaMeanL3
import Derived.Test.YtdmilmmfibmofaaLent
namespace Go.Proofs.Ytdmilmmfibmofaa.Mean
set_option linter.unusedVariables false
set_option linter.unusedSimpArgs false
open Go.RowKit Go.Proofs.YtdmilmmfibmofaaW.PrintWords Go.Proofs.YtdmilmmfibmofaaW.PrintMore Go.Proofs.Ytdmilmmfibmofaa.L Go.Proofs.Ytdmilmmfibmofaa.Texts Go.Proofs.Ytdmilmmfibmofaa.Dict Go.Proofs.Ytdmilmmfibmofaa.Ints

theorem isTok_size {l : List ByteArray} (h : okTexts l) (t : Int) : isTok l t = decide ((means l t).size ≠ 0) := by
  unfold isTok
  by_cases h0 : 0 ≤ t ∧ t < 256 + (l.length : Int)
  · rw [decide_eq_true h0]
    refine (decide_eq_true ?_).symm
    obtain ⟨t0, t1⟩ := h0
    by_cases h1 : t < 256
    · obtain ⟨k, rfl⟩ := Int.eq_ofNat_of_zero_le t0
      rw [means_byte l k (by omega)]
      show (1 : Nat) ≠ 0
      decide
    · obtain ⟨k, hk⟩ := Int.eq_ofNat_of_zero_le (by omega : 0 ≤ t - 256)
      obtain rfl : t = 256 + (k : Int) := by omega
      rw [means_phrase l k (by omega)]
      exact (h.2 k (by omega)).1
  · rw [decide_eq_false h0, means_past l t (by omega)]
    rfl
set_option maxRecDepth 100000 in
theorem ref_means (A : Option Addr) (c : Nat) (l : List ByteArray) (t : Int) (w : World) (h : KS.C w A l.length l) (h100 : l.length ≤ 100) (ht : -(2 ^ 63) ≤ t ∧ t < 2 ^ 63) :
    Calls Try.prog 17 #[.slice A l.length c, .int .i64 t] w fun e w' => e = .returned (.tuple #[.string (means l t), .bool (isTok l t)]) ∧ Below w.heap.size w w' := by
  have H := Lib.hid h
  clear h
  have s1 : wrap64 (256 + (l.length : Int)) = 256 + (l.length : Int) := by unfold wrap64; omega
  by_cases h0 : t < 0
  · have hm := Lib.hid (means_past l t (.inl h0))
    have hi := Lib.hid (show isTok l t = false from decide_eq_false (by omega))
    go_enter Try.func17, Try.ntmps17
    go_wp2_with (fail)
    go_ret2
    rw [hm.out, hi.out]
    exact ⟨rfl, Below.refl _ _⟩
  · by_cases h1 : 256 + (l.length : Int) ≤ t
    · have hm := Lib.hid (means_past l t (.inr h1))
      have hi := Lib.hid (show isTok l t = false from decide_eq_false (by omega))
      have h00 : 0 ≤ t := by omega
      clear h0
      go_enter Try.func17, Try.ntmps17
      go_wp2_with (fail)
      go_ret2
      rw [hm.out, hi.out]
      exact ⟨rfl, Below.refl _ _⟩
    · have hi := Lib.hid (show isTok l t = true from decide_eq_true ⟨by omega, by omega⟩)
      obtain ⟨k, rfl⟩ := Int.eq_ofNat_of_zero_le (by omega : 0 ≤ t)
      have h2 : (k : Int) < 256 + (l.length : Int) := by omega
      have h00 : (0 : Int) ≤ (k : Int) := by omega
      clear h0 h1
      by_cases h256 : k < 256
      · have hm := Lib.hid (means_byte l k h256)
        have h256i : (k : Int) < 256 := by omega
        have hw : IntKind.u8.wrap (k : Int) = k := by simp [IntKind.wrap, IntKind.bits, IntKind.signed]; omega
        have hcv : (convert 40 9 (.slice (some ⟨w.heap.size, 0, none⟩) 1 1)).run Try.prog (w.alloc (.cells #[.int .u8 k] 5)) = .ok (.string ⟨#[UInt8.ofNat k]⟩) (w.alloc (.cells #[.int .u8 k] 5)) :=
          own_string (P := Try.prog) (base := w.heap.size) (n := 1) (e' := 5) (xs := [(k : Int)]) Try.underlying40 Try.underlying5 Try.underlying9 ⟨rfl, .inr ⟨w.heap.size, 1, #[.int .u8 k], rfl, Nat.le_refl _, heap_alloc_new w _, Nat.le_refl _, by decide, rfl, rfl⟩⟩
        clear h256
        go_enter Try.func17, Try.ntmps17
        go_wp2_with (fail)
        go_ret2
        rw [hm.out, hi.out]
        exact ⟨rfl, (Below.refl _ w).alloc (Nat.le_refl _) _⟩
      · obtain ⟨j, rfl⟩ : ∃ j, k = 256 + j := ⟨k - 256, by omega⟩
        have hm := Lib.hid (show means l ((256 + j : Nat) : Int) = l.getD j no by rw [show ((256 + j : Nat) : Int) = 256 + (j : Int) by omega]; exact means_phrase l j (by omega))
        obtain ⟨ad, rfl, x0⟩ := strs_at H.out j (by omega)
        obtain ⟨x, hx⟩ : ∃ x, l.getD j no = x := ⟨_, rfl⟩
        rw [hx] at x0 hm
        have e1 : ((256 + j : Nat) : Int) = 256 + (j : Int) := by omega
        have hi2 := hi.out
        rw [e1] at hi2
        have hm2 := hm.out
        rw [e1] at hm2
        rw [e1]
        have HI := Lib.hid hi2
        have HM := Lib.hid hm2
        have i1 : (j : Int) < (l.length : Int) := by omega
        have i2 : ((j : Int)).toNat = j := by omega
        have i0 : (0 : Int) ≤ (j : Int) := by omega
        have s2 : wrap64 (256 + (j : Int) - 256) = j := by unfold wrap64; omega
        have s3 : (256 : Int) + (j : Int) - 256 = j := by omega
        have g1 : (256 : Int) ≤ 256 + (j : Int) := by omega
        have g2 : (256 : Int) + (j : Int) < 256 + (l.length : Int) := by omega
        have g3 : (0 : Int) ≤ 256 + (j : Int) := by omega
        clear hx e1 hi hm hi2 hm2 h256 h2 h00
        go_enter Try.func17, Try.ntmps17
        go_wp2_with (fail)
        go_ret2
        rw [HI.out, HM.out]
        exact ⟨rfl, Below.refl _ _⟩
set_option maxRecDepth 100000 in
set_option maxHeartbeats 1000000 in
theorem ref_mean (A B : Option Addr) (c m c' : Nat) (l : List ByteArray) (most : Int) (ts : List Int) (w : World) (h : KS.C w A l.length l) (hok : okTexts l) (hl : KI.C w B m ts) (hwf : ∀ t ∈ ts, -(2 ^ 63) ≤ t ∧ t < 2 ^ 63) (hm : ts.length ≤ 1000000) (hmost : -(2 ^ 63) ≤ most ∧ most < 2 ^ 63) :
    Calls Try.prog 16 #[.slice A l.length c, .int .i64 most, .slice B m c'] w fun e w' => e = .returned (.tuple #[.string (meanGo l most no ts).1, .int .i64 (meanGo l most no ts).2]) ∧ Below w.heap.size w w' := by
  have H := Lib.hid h
  have HL := Lib.hid hl
  have HOK := Lib.hid hok
  have H100 := Lib.hid hok.1
  have H40 := Lib.hid (okTexts_40 hok)
  have HWF := Lib.hid hwf
  have HMM := Lib.hid hmost
  have hml := ki_len hl
  clear h hl hwf hmost hok
  subst hml
  go_enter Try.func16, Try.ntmps16
  go_wp2_with (fail)
  go_loopg [8, 9] ts.length (fun j v i wr => ∃ k : Nat, k + j = ts.length ∧ i = .int .i64 k ∧ ∃ acc : ByteArray, v = .string acc ∧ Hid (acc.size ≤ 40 * k ∧ meanGo l most no ts = meanGo l most acc (ts.drop k) ∧ Below w.heap.size w wr))
  case atStart => exact ⟨0, by omega, rfl, no, rfl, Nat.le_refl _, rfl, Below.refl _ _⟩
  case round =>
    obtain ⟨k, hk, rfl, acc, rfl, HI⟩ := hrel
    obtain ⟨hacc, hgo, hb⟩ := HI.out
    by_cases hlt : k < ts.length
    · obtain ⟨ad, rfl, x0⟩ := ints_at (Kd.C_below HL.out hb) k hlt
      have hdr : ts.drop k = ts.getD k 0 :: ts.drop (k + 1) := by
        rw [List.drop_eq_getElem_cons hlt, List.getD_eq_getElem?_getD, List.getElem?_eq_getElem hlt]
        rfl
      have htm : ts.getD k 0 ∈ ts := by
        rw [List.getD_eq_getElem?_getD, List.getElem?_eq_getElem hlt]
        exact List.getElem_mem hlt
      obtain ⟨t, ht⟩ : ∃ t, ts.getD k 0 = t := ⟨_, rfl⟩
      rw [ht] at x0 hdr htm
      have hs40 := mean_le l H40.out t
      have hits := isTok_size HOK.out t
      rw [hdr, meanGo_cons] at hgo
      have i0 : (0 : Int) ≤ k := by omega
      have i1 : (k : Int) < (ts.length : Int) := by omega
      have i2 : ((k : Int)).toNat = k := by omega
      have HTW := Lib.hid (HWF.out t htm)
      have HGO := Lib.hid hgo
      have HB := Lib.hid hb
      have HACC := Lib.hid hacc
      have HIT := Lib.hid hits
      clear hgo hb HI hdr ht htm hits
      go_wp2_with (fail)
      refine (ref_means _ _ l t _ (Kd.C_below H.out HB.out) H100.out HTW.out).mono ?_
      rintro e w1 ⟨rfl, hb1⟩
      rw [HIT.out]
      obtain ⟨s, hs⟩ : ∃ s, means l t = s := ⟨_, rfl⟩
      have hgo := HGO.out
      rw [hs] at hgo hs40 ⊢
      have HB1 := Lib.hid (Ints.bel_trans HB.out HB.out.size hb1)
      by_cases h0 : s.size = 0
      · rw [if_pos h0] at hgo
        rw [decide_eq_false (by simpa using h0)]
        have HG := Lib.hid hgo
        clear hgo hb1 hs h0 hs40 hacc
        go_wp2_with (fail)
        go_ret2
        rw [HG.out]
        exact ⟨rfl, HB1.out⟩
      · rw [if_neg h0] at hgo
        rw [decide_eq_true h0]
        obtain ⟨M, hM⟩ : ∃ M, max most 0 = M := ⟨_, rfl⟩
        have hmx : (if most < 0 then (0 : Int) else most) = M := by rw [max_pos, hM]
        rw [hM] at hgo
        have HACC2 := Lib.hid (show (acc ++ s).size ≤ 40 * (k + 1) by rw [ByteArray.size_append]; omega)
        have hacc2 : (acc.size : Int) + (s.size : Int) ≤ 40000040 := by omega
        clear hb1 hs h0 hs40 hM
        by_cases h1 : M - (acc.size : Int) < (s.size : Int)
        · rw [if_pos h1] at hgo
          have HG := Lib.hid hgo
          have h1i : M < (acc.size : Int) + (s.size : Int) := by omega
          clear hgo h1 hacc
          go_wp2_with (fail)
          go_ret2
          rw [HG.out]
          exact ⟨rfl, HB1.out⟩
        · rw [if_neg h1] at hgo
          have HG := Lib.hid hgo
          have h1i : (acc.size : Int) + (s.size : Int) ≤ M := by omega
          clear hgo h1 hacc
          go_wp2_with (fail)
          go_roundg (ts.length - (k + 1))
          case measure => omega
          case rel => exact ⟨k + 1, by omega, by go_num, acc ++ s, rfl, HACC2.out, HG.out, HB1.out⟩
    · obtain rfl : k = ts.length := by omega
      rw [List.drop_length] at hgo
      have HG := Lib.hid hgo
      have HB1 := Lib.hid hb
      clear hgo hb hacc HI
      go_wp2_with (fail)
      go_ret2
      rw [HG.out]
      exact ⟨rfl, HB1.out⟩
end Go.Proofs.Ytdmilmmfibmofaa.Mean
