/- Chapter 14: the tokens; the first call; of an empty dictionary the tokens are the bytes. -/
import Derived.Test.YtnjenkjoeilhhaaFlexNext
namespace Go.Proofs.Ytnjenkjoeilhhaa.Flex
set_option linter.unusedVariables false
set_option linter.unusedSimpArgs false
open Go.RowKit Go.Proofs.YtnjenkjoeilhhaaW.PrintWords Go.Proofs.YtnjenkjoeilhhaaW.PrintMore Go.Proofs.Ytnjenkjoeilhhaa.L Go.Proofs.Ytnjenkjoeilhhaa.Texts Go.Proofs.Ytnjenkjoeilhhaa.Dict Go.Proofs.Ytnjenkjoeilhhaa.Ints Go.Proofs.Ytnjenkjoeilhhaa.Greedy

theorem okTexts_nil : okTexts [] := ⟨by decide, fun k h => absurd h (Nat.not_lt_zero k)⟩
set_option maxRecDepth 100000 in
set_option maxHeartbeats 1000000 in
theorem parseF_any (p : Option Addr) (l : List ByteArray) (b : ByteArray) (w : World) (h : DP w p l) (hok : okTexts l) (hbs : b.size ≤ 1024) :
    Calls Try.prog 10 #[.pointer p, .string b] w fun e w' => ∃ v, e = .returned v ∧ KI.R 3 w' w.heap.size (fun _ => True) v (parseF l b) ∧ Below w.heap.size w w' := by
  have H := Lib.hid h
  have HOK := Lib.hid hok
  have hbi : (b.size : Int) ≤ 1024 := by omega
  clear h hok
  go_enter Try.func10, Try.ntmps10
  go_wp2_with (fail)
  go_loopg [5, 6] b.size (fun j v i wr => ∃ (a : Nat) (xs : List Int), i = .int .i64 a ∧ Hid (a + j = b.size ∧ xs.length ≤ a ∧ parseF l b = xs ++ fromF l b a ∧ KI.R 3 wr w.heap.size (fun _ => True) v xs ∧ Below w.heap.size w wr))
  case atStart => exact ⟨0, [], rfl, by omega, Nat.le_refl _, rfl, Kd.R_nil _ _ _ _ _, Below.refl _ _⟩
  case round =>
    obtain ⟨a, xs, rfl, HI⟩ := hrel
    obtain ⟨haj, hxa, hgo, hr, hb⟩ := HI.out
    by_cases hlt : a < b.size
    · have hlti : (a : Int) < (b.size : Int) := by omega
      have hst := fromF_step l b a hlt
      have hf1 := best_pos l b a hlt
      have hf2 := best_fits l b a hlt
      obtain ⟨F, hF⟩ : ∃ F, bestLen l b a = F := ⟨_, rfl⟩
      rw [hF] at hst hf1 hf2
      obtain ⟨T, hT⟩ : ∃ T, tokenOf l b a F = T := ⟨_, rfl⟩
      rw [hT] at hst
      rw [hst] at hgo
      have HT := Lib.hid hT
      have HF := Lib.hid hF
      have HGO := Lib.hid hgo
      have HXA := Lib.hid hxa
      have HAJ := Lib.hid haj
      have HR := Lib.hid hr
      have HB := Lib.hid hb
      obtain ⟨A5, c5, rfl⟩ := Kd.R_slice hr
      have S1 := Lib.hid (show ((a + F : Nat) : Int) = (a : Int) + (F : Int) by omega)
      clear hst hgo hxa haj hr hb hT hF HI
      go_wp2_with (fail)
      refine (nextF_some _ l b a _ (H.out.below HB.out) HOK.out hlt (by omega)).mono ?_
      rintro e w1 ⟨hb1, rfl⟩
      rw [HF.out, HT.out]
      have HB1 := Lib.hid (Ints.bel_trans HB.out HB.out.size hb1)
      have HR1 := Lib.hid (Kd.R_below HR.out hb1)
      clear hb1 HB HR
      go_wp2_with (((with_reducible refine gate_builtin (b := .append) (xs := #[.tmp 23, .tmp 25]) rfl ?_); at_builtin; apply stopper))
      unfold Stopper
      refine Kd.R_append KI (w0 := w) w.heap.size rfl (.tmp 23) (.tmp 25) 27 3 (.int .i64 0) 8 rfl Try.underlying27 infoInt rfl (by decide) (by omega) (.slice A5 xs.length c5) xs T [.int .i64 T] (fun _ => True) (fun _ => False) rfl rfl rfl (fun _ hk => hk.elim) (fun _ _ => trivial) HR1.out HB1.out HB1.out.size (by have := HXA.out; omega) ?_
      intro v1 w2 ho hb2 hg2 hat2
      have HR2 := Lib.hid ho
      have HB2 := Lib.hid hb2
      clear ho hb2 hg2 hat2 HR1 HB1
      go_wp2
      go_roundg (b.size - (a + F))
      case measure => have := HAJ.out; omega
      case rel => exact ⟨a + F, xs ++ [T], by rw [S1.out], by omega, by rw [List.length_append]; have := HXA.out; simp; omega, by rw [HGO.out, List.append_assoc]; rfl, HR2.out, HB2.out⟩
    · have hge : (b.size : Int) ≤ (a : Int) := by omega
      rw [fromF_end l b a (by omega), List.append_nil] at hgo
      have HGO := Lib.hid hgo
      have HR := Lib.hid hr
      have HB := Lib.hid hb
      clear hgo hr hb HI haj hxa
      go_wp2_with (fail)
      go_ret
      exact ⟨_, rfl, by rw [HGO.out]; exact HR.out, HB.out⟩

set_option maxRecDepth 100000 in
set_option maxHeartbeats 1000000 in
theorem alive_any (w : World) : Calls Try.prog 9 #[] w fun e w' => e = .returned (.bool true) ∧ Below w.heap.size w w' := by
  have E0 := Lib.hid (show okTexts [⟨#[97, 98]⟩, ⟨#[98, 99, 100]⟩] by decide +kernel)
  have e1 := Lib.hid (show parseF [⟨#[97, 98]⟩, ⟨#[98, 99, 100]⟩] ⟨#[97, 98, 99, 100]⟩ = [97, 257] by decide +kernel)
  have e2 := Lib.hid (show reach [⟨#[97, 98]⟩, ⟨#[98, 99, 100]⟩] ⟨#[97, 98, 99, 100]⟩ 0 1 = 4 by decide +kernel)
  go_enter Try.func9, Try.ntmps9
  go_wp2_with (fail)
  refine (make_any _ _ _ [⟨#[97, 98]⟩, ⟨#[98, 99, 100]⟩] _ (lit_texts w 9 [⟨#[97, 98]⟩, ⟨#[98, 99, 100]⟩] (by decide)) E0.out).mono ?_
  rintro e w1 ⟨hb1, b, rfl, hd⟩
  have HD := Lib.hid (show DP w1 (some ⟨b, 0, none⟩) [⟨#[97, 98]⟩, ⟨#[98, 99, 100]⟩] from .inr ⟨b, rfl, hd⟩)
  have HB := Lib.hid (Ints.bel_trans ((Below.refl w.heap.size w).alloc (Nat.le_refl _) (.cells #[.string ⟨#[97, 98]⟩, .string ⟨#[98, 99, 100]⟩] 9 (0, 0))) (by simp) hb1)
  clear hb1 hd
  go_wp2_with (fail)
  refine (parseF_any _ [⟨#[97, 98]⟩, ⟨#[98, 99, 100]⟩] ⟨#[97, 98, 99, 100]⟩ _ HD.out E0.out (by decide)).mono ?_
  rintro e w2 ⟨v, rfl, hr, hb2⟩
  rw [e1.out] at hr
  obtain ⟨A2, c2, rfl⟩ := Kd.R_slice hr
  have HC := Lib.hid (Kd.R_reads' hr).2.2
  have HB2 := Lib.hid (Ints.bel_trans HB.out HB.out.size hb2)
  have HD2 := Lib.hid (HD.out.below hb2)
  clear hr hb2 HB HD
  go_wp2_with (fail)
  refine (same_ints _ _ _ _ _ _ [97, 257] [97, 257] _ (Kd.C_alloc HC.out _) (lit_ints w2 3 [97, 257] (by decide))).mono ?_
  rintro e w3 ⟨rfl, q, rfl⟩
  rw [show decide (([97, 257] : List Int) = [97, 257]) = true by decide]
  have HB3 := Lib.hid (below_drewN (HB2.out.alloc HB2.out.size (.cells #[.int .i64 97, .int .i64 257] 3 (0, 0))) q)
  have HD3 := Lib.hid ((HD2.out.below ((Below.refl _ _).alloc (Nat.le_refl _) (.cells #[.int .i64 97, .int .i64 257] 3 (0, 0)))).below (below_drewN (Below.refl _ _) q))
  clear HB2 HC HD2
  go_wp2_with (fail)
  refine (reach_in _ [⟨#[97, 98]⟩, ⟨#[98, 99, 100]⟩] ⟨#[97, 98, 99, 100]⟩ 0 1 _ HD3.out E0.out (by decide) (by decide)).mono ?_
  rintro e w4 ⟨hb4, rfl⟩
  rw [e2.out]
  have HB4 := Lib.hid (Ints.bel_trans HB3.out HB3.out.size hb4)
  clear hb4 HB3
  go_wp2_with (fail)
  go_ret
  exact ⟨rfl, HB4.out⟩
set_option maxRecDepth 100000 in
set_option maxHeartbeats 2000000 in
theorem FlexWhole_walk (b : ByteArray) (w : World) (hbs : b.size ≤ 140737488351232) :
    Calls Try.prog 5 #[.string b] w fun e w' => e = .returned (.bool true) ∧ Below w.heap.size w w' := by
  by_cases h300 : b.size ≤ 300
  · have h300i : (b.size : Int) ≤ 300 := by omega
    obtain ⟨pl, pg⟩ := parseF_nil b
    have PL := Lib.hid pl
    have PG := Lib.hid pg
    clear pl pg
    go_enter Try.func5, Try.ntmps5
    go_wp2_with (fail)
    refine (alive_any _).mono ?_
    rintro e w1 ⟨rfl, hb1⟩
    have HB1 := Lib.hid hb1
    clear hb1
    go_wp2_with (fail)
    refine (make_any none 0 0 [] _ (Kd.C_nil _ _) okTexts_nil).mono ?_
    rintro e w2 ⟨hb2, k2, rfl, hd2⟩
    have HB2 := Lib.hid (Ints.bel_trans HB1.out HB1.out.size hb2)
    have HD2 := Lib.hid (show DP w2 (some ⟨k2, 0, none⟩) [] from .inr ⟨k2, rfl, hd2⟩)
    clear hb2 hd2 HB1
    go_wp2_with (fail)
    refine (parseF_any _ [] b _ HD2.out okTexts_nil (by omega)).mono ?_
    rintro e w3 ⟨v, rfl, hr, hb3⟩
    obtain ⟨A3, c3, rfl⟩ := Kd.R_slice hr
    have HC3 := Lib.hid (Kd.R_reads' hr).2.2
    rw [PL.out] at HC3 ⊢
    have HB3 := Lib.hid (Ints.bel_trans HB2.out HB2.out.size hb3)
    clear hr hb3 HB2 HD2
    go_wp2_with (fail)
    refine (parseF_any none [] b _ (.inl ⟨rfl, rfl⟩) okTexts_nil (by omega)).mono ?_
    rintro e w4 ⟨v, rfl, hr, hb4⟩
    obtain ⟨A4, c4, rfl⟩ := Kd.R_slice hr
    have HC4 := Lib.hid (Kd.R_reads' hr).2.2
    rw [PL.out] at HC4 ⊢
    have HB4 := Lib.hid (Ints.bel_trans HB3.out HB3.out.size hb4)
    have HC34 := Lib.hid (Kd.C_below HC3.out hb4)
    have n1 : ((b.size : Int) != (b.size : Int)) = false := by simp
    clear hr hb4 HB3 HC3
    go_wp2_with (fail)
    go_loopg [33] b.size (fun j i wr => ∃ k : Nat, k + j = b.size ∧ i = .int .i64 k ∧ ∃ q, wr = w4.drewN q)
    case atStart => exact ⟨0, by omega, rfl, 0, rfl⟩
    case round =>
      obtain ⟨k, hk, rfl, q, rfl⟩ := hrel
      by_cases hlt : k < b.size
      · obtain ⟨ad, rfl, x0⟩ := ints_at HC34.out k hlt
        obtain ⟨bd, rfl, y0⟩ := ints_at HC4.out k hlt
        rw [PG.out k hlt, ← bt_byteAt b k hlt] at x0 y0
        have i0 : (0 : Int) ≤ k := by omega
        have i1 : (k : Int) < (b.size : Int) := by omega
        have i2 : ((k : Int)).toNat = k := by omega
        obtain ⟨z, hz⟩ : ∃ z : Nat, (b[k]'hlt).toNat = z := ⟨_, rfl⟩
        have hzl : z < 256 := by rw [← hz]; exact (b[k]'hlt).toNat_lt
        have hwz : IntKind.i64.wrap (z : Int) = z := by simp [IntKind.wrap, IntKind.bits, IntKind.signed]; omega
        have hwz2 : wrap64 (z : Int) = z := by unfold wrap64; omega
        have hnz : ((z : Int) != (z : Int)) = false := by simp
        go_wp2_with (fail)
        go_quiet (fail)
        go_wp2_with (fail)
        go_roundg (b.size - (k + 1))
        case measure => omega
        case rel => exact ⟨k + 1, by omega, by go_num, _, rfl⟩
      · obtain rfl : k = b.size := by omega
        go_wp2_with (fail)
        go_ret
        exact ⟨rfl, below_drewN HB4.out q⟩
  · have h300i : (300 : Int) < (b.size : Int) := by omega
    go_enter Try.func5, Try.ntmps5
    go_wp2_with (go_at_call 9; refine (alive_any _).mono ?_; rintro e w' ⟨rfl, hb⟩)
    go_ret
    exact ⟨rfl, hb⟩
end Go.Proofs.Ytnjenkjoeilhhaa.Flex
