/- Chapter 16: the first call; a bound below 0. -/
import Derived.Test.YtdmilmmfibmofaaMean
namespace Go.Proofs.Ytdmilmmfibmofaa.Mean
set_option linter.unusedVariables false
set_option linter.unusedSimpArgs false
open Go.RowKit Go.Proofs.YtdmilmmfibmofaaW.PrintWords Go.Proofs.YtdmilmmfibmofaaW.PrintMore Go.Proofs.Ytdmilmmfibmofaa.L Go.Proofs.Ytdmilmmfibmofaa.Texts Go.Proofs.Ytdmilmmfibmofaa.Dict Go.Proofs.Ytdmilmmfibmofaa.Ints

theorem okTexts_40 {l : List ByteArray} (h : okTexts l) : ∀ s ∈ l, s.size ≤ 40 := by
  intro s hs
  obtain ⟨k, hk, rfl⟩ := List.getElem_of_mem hs
  have := (h.2 k hk).2.1
  rw [List.getD_eq_getElem?_getD, List.getElem?_eq_getElem hk] at this
  exact this
set_option maxRecDepth 100000 in
set_option maxHeartbeats 1000000 in
theorem alive_any (w : World) : Calls Try.prog 13 #[] w fun e w' => e = .returned (.bool true) ∧ Below w.heap.size w w' := by
  have e0 : okTexts [⟨#[97, 98]⟩] := by decide +kernel
  have e1 := Lib.hid (show meanGo [⟨#[97, 98]⟩] 9 no [97, 256] = (⟨#[97, 97, 98]⟩, 0) by decide +kernel)
  have e2 := Lib.hid (show (means [⟨#[97, 98]⟩] 256).size = 2 by decide +kernel)
  have e3 := Lib.hid (show (means [⟨#[97, 98]⟩] 257).size = 0 by decide +kernel)
  have E0 := Lib.hid e0
  clear e0
  go_enter Try.func13, Try.ntmps13
  go_wp2_with (fail)
  refine (make_any _ _ _ [⟨#[97, 98]⟩] _ (lit_texts w 9 [⟨#[97, 98]⟩] (by decide)) E0.out).mono ?_
  rintro e w1 ⟨hb1, b, rfl, hd⟩
  have HD := Lib.hid (show DP w1 (some ⟨b, 0, none⟩) [⟨#[97, 98]⟩] from .inr ⟨b, rfl, hd⟩)
  have HB := Lib.hid (Ints.bel_trans ((Below.refl w.heap.size w).alloc (Nat.le_refl _) (.cells #[.string ⟨#[97, 98]⟩] 9 (0, 0))) (by simp) hb1)
  clear hb1 hd
  go_wp2_with (fail)
  refine (of_any _ _ _ _ [⟨#[97, 98]⟩] 9 [97, 256] _ (HD.out.below ((Below.refl _ _).alloc (Nat.le_refl _) _)) (lit_ints w1 3 [97, 256] (by decide)) (okTexts_40 E0.out) (by decide) (by decide) (by decide)).mono ?_
  rintro e w2 ⟨rfl, hb2⟩
  rw [e1.out]
  have HB2 := Lib.hid (Ints.bel_trans (HB.out.alloc HB.out.size (.cells #[.int .i64 97, .int .i64 256] 3 (0, 0))) (by have := HB.out.size; simp; omega) hb2)
  have HD2 := Lib.hid ((HD.out.below ((Below.refl _ _).alloc (Nat.le_refl _) (.cells #[.int .i64 97, .int .i64 256] 3 (0, 0)))).below hb2)
  clear hb2 HB HD
  go_wp2_with (fail)
  refine (len_any _ [⟨#[97, 98]⟩] 256 _ HD2.out (by decide)).mono ?_
  rintro e w3 ⟨rfl, hb3⟩
  rw [e2.out]
  have HB3 := Lib.hid (Ints.bel_trans HB2.out HB2.out.size hb3)
  have HD3 := Lib.hid (HD2.out.below hb3)
  clear hb3 HB2 HD2
  go_wp2_with (fail)
  refine (right_any _ [⟨#[97, 98]⟩] 256 _ HD3.out (by decide)).mono ?_
  rintro e w4 ⟨rfl, hb4⟩
  rw [e2.out]
  have HB4 := Lib.hid (Ints.bel_trans HB3.out HB3.out.size hb4)
  have HD4 := Lib.hid (HD3.out.below hb4)
  clear hb4 HB3 HD3
  go_wp2_with (fail)
  refine (right_any _ [⟨#[97, 98]⟩] 257 _ HD4.out (by decide)).mono ?_
  rintro e w5 ⟨rfl, hb5⟩
  rw [e3.out]
  have HB5 := Lib.hid (Ints.bel_trans HB4.out HB4.out.size hb5)
  clear hb5 HB4 HD4
  go_wp2_with (fail)
  go_ret
  exact ⟨rfl, HB5.out⟩
end Go.Proofs.Ytdmilmmfibmofaa.Mean
