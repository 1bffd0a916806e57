/- Chapter 15: with more phrases no more tokens are needed. -/
import Derived.Test.YtfiflloieojgbaaBestUse
namespace Go.Proofs.Ytfiflloieojgbaa.Best
set_option linter.unusedVariables false
set_option linter.unusedSimpArgs false
open Go.RowKit Go.Proofs.YtfiflloieojgbaaW.PrintWords Go.Proofs.YtfiflloieojgbaaW.PrintMore Go.Proofs.Ytfiflloieojgbaa.L Go.Proofs.Ytfiflloieojgbaa.Texts Go.Proofs.Ytfiflloieojgbaa.Dict Go.Proofs.Ytfiflloieojgbaa.Ints Go.Proofs.Ytfiflloieojgbaa.Greedy Go.Proofs.Ytfiflloieojgbaa.Cost Go.Proofs.Ytfiflloieojgbaa.Fl

set_option maxRecDepth 100000 in
set_option maxHeartbeats 2000000 in
theorem BestMore_walk (A : Option Addr) (l : List ByteArray) (c : Nat) (s b : ByteArray) (w : World)
    (hl : KS.C w A l.length l) (hc : l.length ≤ c) (h16 : l.length * 16 ≤ 140737488351232) (hs : ∀ s ∈ l, s.size ≤ 140737488351232) (hss : s.size ≤ 140737488351232) (hbs : b.size ≤ 140737488351232) :
    Calls Try.prog 3 #[.slice A l.length c, .string s, .string b] w fun e w' => e = .returned (.bool true) ∧ Below w.heap.size w w' := by
  have HL := Lib.hid hl
  go_enter Try.func3, Try.ntmps3
  go_wp2_with (fail)
  refine (dict_any _ _ _ l _ _ hl hs).mono ?_
  clear hl
  rintro e w1 ⟨hb1, hcase⟩
  have HCASE := Lib.hid hcase
  obtain ⟨dv, okv, rfl, hok⟩ : ∃ dv okv, e = .returned (.tuple #[dv, .bool okv]) ∧ ((okv = true ∧ dictIn l b ∧ ∃ k, dv = .pointer (some ⟨k, 0, none⟩) ∧ DC w1 k l) ∨ (okv = false ∧ dv = .pointer none)) := by
    rcases hcase with ⟨hin, k, rfl, hd⟩ | ⟨hin, rfl⟩
    · exact ⟨_, true, rfl, .inl ⟨rfl, hin, k, rfl, hd⟩⟩
    · exact ⟨_, false, rfl, .inr ⟨rfl, rfl⟩⟩
  have HOKV := Lib.hid hok
  have HB1 := Lib.hid hb1
  have HL1 := Lib.hid (Kd.C_below HL.out hb1)
  clear hb1 hcase HCASE hok HL
  go_wp2_with (((with_reducible refine gate_builtin (b := .append) (xs := #[.const (.slice none 0 0), .tmp 18]) rfl ?_); at_builtin; apply stopper))
  unfold Stopper
  refine Kd.R_append_row Value.string no (h1 := fun _ => rfl) (w0 := w1) w1.heap.size rfl (.const (.slice none 0 0)) (.tmp 18) 22 9 (.string ⟨#[]⟩) 16 rfl Try.underlying22 infoStr rfl (by decide) _ [] l A l.length c (fun _ => True) rfl rfl (fun _ _ => trivial) ?aO ?aR ?aB ?aS ?aL ?_
  case aO => exact Kd.R_nil _ _ _ _ _
  case aR => exact HL1.out
  case aB => exact Below.refl _ w1
  case aS => exact Nat.le_refl _
  case aL => simp; omega
  intro v1 w2 ho hb2 hg2 hat2
  rw [List.nil_append] at ho
  have HR2 := Lib.hid ho
  have HB2 := Lib.hid hb2
  obtain ⟨A2, c2, rfl⟩ := Kd.R_slice ho
  clear ho hb2 hg2 hat2
  go_wp2_with (((with_reducible refine gate_builtin (b := .append) (xs := #[.tmp 19, .tmp 21]) rfl ?_); at_builtin; apply stopper))
  unfold Stopper
  refine Kd.R_append KS (w0 := w1) w1.heap.size rfl (.tmp 19) (.tmp 21) 22 9 (.string ⟨#[]⟩) 16 rfl Try.underlying22 infoStr rfl (by decide) (by omega) (.slice A2 l.length c2) l s [.string s] (fun _ => True) (fun _ => False) rfl rfl rfl (fun _ hk => hk.elim) (fun _ _ => trivial) HR2.out HB2.out HB2.out.size (by omega) ?_
  intro v2 w3 ho hb3 hg3 hat3
  have HB3 := Lib.hid (Ints.bel_trans HB1.out HB1.out.size hb3)
  have HR3 := Lib.hid ho
  have HOKV3 := Lib.hid (show (okv = true ∧ dictIn l b ∧ ∃ k, dv = .pointer (some ⟨k, 0, none⟩) ∧ DP w3 (some ⟨k, 0, none⟩) l) ∨ (okv = false ∧ dv = .pointer none) by
    rcases HOKV.out with ⟨h1, h2, k, h3, h4⟩ | h
    · exact .inl ⟨h1, h2, k, h3, (show DP w1 (some ⟨k, 0, none⟩) l from .inr ⟨k, rfl, h4⟩).below hb3⟩
    · exact .inr h)
  obtain ⟨A3, c3, rfl⟩ := Kd.R_slice ho
  have hc3 := (Kd.R_reads' ho).2.2
  rw [show (l ++ [s]).length = l.length + 1 by simp] at hc3 ⊢
  have HC3 := Lib.hid hc3
  clear ho hb3 hc3 hg3 hat3 HR2 HB2 HB1 HOKV HR3 HL1
  go_wp2_with (fail)
  refine (dict_any _ _ _ (l ++ [s]) _ _ HC3.out (fun x hx => by
    rcases List.mem_append.1 hx with h | h
    · exact hs x h
    · rw [List.mem_singleton] at h
      subst h
      exact hss)).mono ?_
  clear hs hss hbs h16 hc HC3
  rintro e w4 ⟨hb4, hcase⟩
  have HB4 := Lib.hid (Ints.bel_trans HB3.out HB3.out.size hb4)
  rcases HOKV3.out with ⟨rfl, hin, k, rfl, hd⟩ | ⟨rfl, rfl⟩
  · have HOK1 := Lib.hid hin.2.2
    have hb400 := hin.2.1
    have HD4 := Lib.hid (hd.below hb4)
    clear hb4 hd hin HOKV3 HB3
    rcases hcase with ⟨hin2, k2, rfl, hd2⟩ | ⟨hin2, rfl⟩
    · have HOK2 := Lib.hid hin2.2.2
      have HX4 := Lib.hid (show DP w4 (some ⟨k2, 0, none⟩) (l ++ [s]) from .inr ⟨k2, rfl, hd2⟩)
      clear hd2 hin2
      go_wp2_with (fail)
      refine (alive_any _).mono ?_
      rintro e w5 ⟨rfl, hb5⟩
      have HB5 := Lib.hid (Ints.bel_trans HB4.out HB4.out.size hb5)
      have HD5 := Lib.hid (HD4.out.below hb5)
      have HX5 := Lib.hid (HX4.out.below hb5)
      clear hb5 HB4 HD4 HX4
      go_wp2_with (fail)
      refine (parse_any _ (l ++ [s]) b 1024 _ HX5.out HOK2.out (by omega) (by decide) (by decide)).mono ?_
      rintro e w6 ⟨v, rfl, hr, hb6⟩
      obtain ⟨A6, c6, rfl⟩ := Kd.R_slice hr
      have HB6 := Lib.hid (Ints.bel_trans HB5.out HB5.out.size hb6)
      have HD6 := Lib.hid (HD5.out.below hb6)
      clear hb6 HB5 HD5 HX5 hr
      go_wp2_with (fail)
      refine (parse_any _ l b 1024 _ HD6.out HOK1.out (by omega) (by decide) (by decide)).mono ?_
      rintro e w7 ⟨v, rfl, hr, hb7⟩
      obtain ⟨A7, c7, rfl⟩ := Kd.R_slice hr
      have HB7 := Lib.hid (Ints.bel_trans HB6.out HB6.out.size hb7)
      have hm := best_more HOK1.out HOK2.out (b := b) (by omega)
      have hmi : ((best (l ++ [s]) 1024 b).length : Int) ≤ ((best l 1024 b).length : Int) := by omega
      clear hb7 HB6 HD6 hr
      go_wp2_with (fail)
      go_ret
      exact ⟨rfl, HB7.out⟩
    · go_wp2_with (go_at_call 12; refine (alive_any _).mono ?_; rintro e w5 ⟨rfl, hb5⟩)
      go_ret
      exact ⟨rfl, Ints.bel_trans HB4.out HB4.out.size hb5⟩
  · obtain ⟨dv2, okv2, rfl⟩ : ∃ dv okv, e = .returned (.tuple #[dv, .bool okv]) := by
      rcases hcase with ⟨hin, k, rfl, hd⟩ | ⟨hin, rfl⟩
      · exact ⟨_, true, rfl⟩
      · exact ⟨_, false, rfl⟩
    clear hb4 HOKV3 HB3 hcase
    go_wp2_with (go_at_call 12; refine (alive_any _).mono ?_; rintro e w5 ⟨rfl, hb5⟩)
    go_ret
    exact ⟨rfl, Ints.bel_trans HB4.out HB4.out.size hb5⟩
end Go.Proofs.Ytfiflloieojgbaa.Best
