/- A bound below 0 is one of 0: then only nothing may be meant. -/
import Derived.Test.YtdmilmmfibmofaaMeanL1
namespace Go.Proofs.Ytdmilmmfibmofaa.Mean
set_option linter.unusedVariables false
set_option linter.unusedSimpArgs false
open Go.RowKit Go.Proofs.YtdmilmmfibmofaaW.PrintWords Go.Proofs.YtdmilmmfibmofaaW.PrintMore Go.Proofs.Ytdmilmmfibmofaa.L Go.Proofs.Ytdmilmmfibmofaa.Texts Go.Proofs.Ytdmilmmfibmofaa.Dict Go.Proofs.Ytdmilmmfibmofaa.Ints

theorem mean_bound (l : List ByteArray) (most : Int) (ts : List Int) (h : most ≤ 0) : ∃ x : Int, meanGo l most no ts = (no, x) ∧ meanGo l 0 no ts = (no, x) ∧ (x = 0 ↔ ts = []) := by
  cases ts with
  | nil => exact ⟨0, rfl, rfl, by simp⟩
  | cons t ts =>
    rw [meanGo_cons, meanGo_cons, show max most 0 = 0 by omega, show max (0 : Int) 0 = 0 from rfl]
    by_cases h0 : (means l t).size = 0
    · rw [if_pos h0, if_pos h0]
      exact ⟨9, rfl, rfl, by simp⟩
    · have hs : (0 : Int) - (no.size : Int) < ((means l t).size : Int) := by show (0 : Int) - ((0 : Nat) : Int) < _; omega
      rw [if_neg h0, if_pos hs, if_neg h0, if_pos hs]
      exact ⟨10, rfl, rfl, by simp⟩
theorem wf_range {ts : List Int} (h : ∀ x ∈ ts, (Lit.int .i64 x).wf = true) : ∀ t ∈ ts, -(2 ^ 63) ≤ t ∧ t < 2 ^ 63 := by
  intro t ht
  have := h t ht
  simp [Lit.wf, IntKind.min, IntKind.max, IntKind.signed, IntKind.bits] at this
  omega
theorem wf_one {t : Int} (h : (Lit.int .i64 t).wf = true) : -(2 ^ 63) ≤ t ∧ t < 2 ^ 63 := wf_range (ts := [t]) (by simpa using h) t (by simp)
set_option maxRecDepth 100000 in
set_option maxHeartbeats 1000000 in
theorem MeanBound_walk (A : Option Addr) (l : List ByteArray) (c : Nat) (most : Int) (B : Option Addr) (ts : List Int) (c' : Nat) (w : World)
    (hl : KS.C w A l.length l) (hc : l.length ≤ c) (h16 : l.length * 16 ≤ 140737488351232) (hs : ∀ s ∈ l, s.size ≤ 140737488351232) (hmost : (Lit.int .i64 most).wf = true)
    (ht : KI.C w B ts.length ts) (hc' : ts.length ≤ c') (h8 : ts.length * 8 ≤ 140737488351232) (hw : ∀ x ∈ ts, (Lit.int .i64 x).wf = true) :
    Calls Try.prog 7 #[.slice A l.length c, .int .i64 most, .slice B ts.length c'] w fun e w' => e = .returned (.bool true) ∧ Below w.heap.size w w' := by
  have HT := Lib.hid ht
  have HW := Lib.hid (wf_range hw)
  have HM := Lib.hid (wf_one hmost)
  clear ht hw hmost
  go_enter Try.func7, Try.ntmps7
  go_wp2_with (fail)
  refine (dict_any _ _ _ l _ _ hl hs).mono ?_
  clear hl hs
  rintro e w1 ⟨hb1, ⟨hin, b, rfl, hd⟩ | ⟨hin, rfl⟩⟩
  · have HB1 := Lib.hid hb1
    by_cases hguard : ts.length ≤ 100 ∧ most ≤ 0
    · obtain ⟨g1, g2⟩ := hguard
      have g1i : (ts.length : Int) ≤ 100 := by omega
      have HD := Lib.hid (show DP w1 (some ⟨b, 0, none⟩) l from .inr ⟨b, rfl, hd⟩)
      have H40 := Lib.hid (okTexts_40 hin.2.2)
      obtain ⟨x, m1, m2, m3⟩ := mean_bound l most ts g2
      have M1 := Lib.hid m1
      have M2 := Lib.hid m2
      have M3 := Lib.hid m3
      clear hb1 hd hin m1 m2 m3
      go_wp2_with (fail)
      refine (alive_any _).mono ?_
      rintro e w2 ⟨rfl, hb2⟩
      have HB2 := Lib.hid (Ints.bel_trans HB1.out HB1.out.size hb2)
      have HD2 := Lib.hid (HD.out.below hb2)
      clear hb2 HB1 HD
      go_wp2_with (fail)
      refine (of_any _ _ _ _ l most ts _ HD2.out (Kd.C_below HT.out HB2.out) H40.out HW.out (by omega) HM.out).mono ?_
      rintro e w3 ⟨rfl, hb3⟩
      rw [M1.out]
      have HB3 := Lib.hid (Ints.bel_trans HB2.out HB2.out.size hb3)
      have HD3 := Lib.hid (HD2.out.below hb3)
      clear hb3 HB2 HD2
      go_wp2_with (fail)
      refine (of_any _ _ _ _ l 0 ts _ HD3.out (Kd.C_below HT.out HB3.out) H40.out HW.out (by omega) (by decide)).mono ?_
      rintro e w4 ⟨rfl, hb4⟩
      rw [M2.out]
      have HB4 := Lib.hid (Ints.bel_trans HB3.out HB3.out.size hb4)
      clear hb4 HB3 HD3
      have n1 : (x == x) = true := by simp
      have e1 : no.toList.isEmpty = true := by rw [ByteArray.toList_eq]; rfl
      by_cases hnil : ts = []
      · subst hnil
        obtain rfl := M3.out.2 rfl
        go_wp2_with (fail)
        go_ret
        exact ⟨rfl, HB4.out⟩
      · have hx : (x == 0) = false := beq_eq_false_iff_ne.2 (fun h => hnil (M3.out.1 h))
        have hlen : ((ts.length : Int) == 0) = false := beq_eq_false_iff_ne.2 (fun h => hnil (List.eq_nil_of_length_eq_zero (by omega)))
        go_wp2_with (fail)
        go_ret
        exact ⟨rfl, HB4.out⟩
    · clear hb1 hd hin
      go_wp2_with (go_at_call 13; refine (alive_any _).mono ?_; rintro e w' ⟨rfl, hb⟩)
      all_goals first
        | (exfalso; omega)
        | (go_ret; exact ⟨rfl, Ints.bel_trans HB1.out HB1.out.size hb⟩)
  · have HB1 := Lib.hid hb1
    clear hb1 hin
    go_wp2_with (go_at_call 13; refine (alive_any _).mono ?_; rintro e w' ⟨rfl, hb⟩)
    go_ret
    exact ⟨rfl, Ints.bel_trans HB1.out HB1.out.size hb⟩
end Go.Proofs.Ytdmilmmfibmofaa.Mean
