/- Chapter 13: the first call; of an empty dictionary the tokens are the bytes; of one that has all of it, it is one token. -/
import Derived.Test.YtdmilmmfibmofaaGreedy
namespace Go.Proofs.Ytdmilmmfibmofaa.Greedy
set_option linter.unusedVariables false
set_option linter.unusedSimpArgs false
open Go.RowKit Go.Proofs.YtdmilmmfibmofaaW.PrintWords Go.Proofs.YtdmilmmfibmofaaW.PrintMore Go.Proofs.Ytdmilmmfibmofaa.L Go.Proofs.Ytdmilmmfibmofaa.Texts Go.Proofs.Ytdmilmmfibmofaa.Dict Go.Proofs.Ytdmilmmfibmofaa.Ints

theorem okTexts_nil : okTexts [] := ⟨by decide, fun k h => absurd h (Nat.not_lt_zero k)⟩
theorem okTexts_one (b : ByteArray) (h1 : 1 ≤ b.size) (h40 : b.size ≤ 40) : okTexts [b] := by
  refine ⟨by simp, fun k hk => ?_⟩
  obtain rfl : k = 0 := by simpa using hk
  refine ⟨?_, ?_, ?_, Nat.zero_le _⟩
  · show b.size ≠ 0
    omega
  · show b.size ≤ 40
    omega
  · show b.size + 0 ≤ 1000
    omega
set_option maxRecDepth 100000 in
set_option maxHeartbeats 1000000 in
theorem alive_any (w : World) : Calls Try.prog 21 #[] w fun e w' => e = .returned (.bool true) ∧ Below w.heap.size w w' := by
  have E0 := Lib.hid (show okTexts [⟨#[97, 98]⟩] by decide +kernel)
  have e1 := Lib.hid (show parse [⟨#[97, 98]⟩] ⟨#[97, 97, 98]⟩ = [97, 256] by decide +kernel)
  have e2 := Lib.hid (show parse [] ⟨#[97]⟩ = [97] by decide +kernel)
  go_enter Try.func21, Try.ntmps21
  go_wp2_with (fail)
  refine (make_any _ _ _ [⟨#[97, 98]⟩] _ (lit_texts w 9 [⟨#[97, 98]⟩] (by decide)) E0.out).mono ?_
  rintro e w1 ⟨hb1, b, rfl, hd⟩
  have HD := Lib.hid (show DP w1 (some ⟨b, 0, none⟩) [⟨#[97, 98]⟩] from .inr ⟨b, rfl, hd⟩)
  have HB := Lib.hid (Ints.bel_trans ((Below.refl w.heap.size w).alloc (Nat.le_refl _) (.cells #[.string ⟨#[97, 98]⟩] 9 (0, 0))) (by simp) hb1)
  clear hb1 hd
  go_wp2_with (fail)
  refine (parse_any _ [⟨#[97, 98]⟩] ⟨#[97, 97, 98]⟩ _ HD.out E0.out (by decide)).mono ?_
  rintro e w2 ⟨v, rfl, hr, hb2⟩
  rw [e1.out] at hr
  obtain ⟨A2, c2, rfl⟩ := Kd.R_slice hr
  have HC := Lib.hid (Kd.R_reads' hr).2.2
  have HB2 := Lib.hid (Ints.bel_trans HB.out HB.out.size hb2)
  clear hr hb2 HB HD
  go_wp2_with (fail)
  refine (same_ints _ _ _ _ _ _ [97, 256] [97, 256] _ (Kd.C_alloc HC.out _) (lit_ints w2 3 [97, 256] (by decide))).mono ?_
  rintro e w3 ⟨rfl, q, rfl⟩
  rw [show decide (([97, 256] : List Int) = [97, 256]) = true by decide]
  have HB3 := Lib.hid (below_drewN (HB2.out.alloc HB2.out.size (.cells #[.int .i64 97, .int .i64 256] 3 (0, 0))) q)
  clear HB2 HC
  go_wp2_with (fail)
  refine (parse_any none [] ⟨#[97]⟩ _ (.inl ⟨rfl, rfl⟩) okTexts_nil (by decide)).mono ?_
  rintro e w4 ⟨v, rfl, hr, hb4⟩
  rw [e2.out] at hr
  obtain ⟨A4, c4, rfl⟩ := Kd.R_slice hr
  have HC := Lib.hid (Kd.R_reads' hr).2.2
  have HB4 := Lib.hid (Ints.bel_trans HB3.out HB3.out.size hb4)
  clear hr hb4 HB3
  go_wp2_with (fail)
  refine (same_ints _ _ _ _ _ _ [97] [97] _ (Kd.C_alloc HC.out _) (lit_ints w4 3 [97] (by decide))).mono ?_
  rintro e w5 ⟨rfl, q5, rfl⟩
  rw [show decide (([97] : List Int) = [97]) = true by decide]
  have HB5 := Lib.hid (below_drewN (HB4.out.alloc HB4.out.size (.cells #[.int .i64 97] 3 (0, 0))) q5)
  clear HB4 HC
  go_wp2_with (fail)
  go_ret
  exact ⟨rfl, HB5.out⟩

set_option maxRecDepth 100000 in
set_option maxHeartbeats 2000000 in
theorem GreedyWhole_walk (b : ByteArray) (w : World) (hbs : b.size ≤ 140737488351232) :
    Calls Try.prog 9 #[.string b] w fun e w' => e = .returned (.bool true) ∧ Below w.heap.size w w' := by
  by_cases h1 : b.size < 1
  · have h1i : (b.size : Int) < 1 := by omega
    go_enter Try.func9, Try.ntmps9
    go_wp2_with (go_at_call 21; refine (alive_any _).mono ?_; rintro e w' ⟨rfl, hb⟩)
    go_ret
    exact ⟨rfl, hb⟩
  · by_cases h40 : b.size ≤ 40
    · have h1i : (1 : Int) ≤ (b.size : Int) := by omega
      have h40i : (b.size : Int) ≤ 40 := by omega
      have E0 := Lib.hid (okTexts_one b (by omega) h40)
      have P1 := Lib.hid (parse_whole b (by omega) h40)
      obtain ⟨pl, pg⟩ := parse_nil b
      have PL := Lib.hid pl
      have PG := Lib.hid pg
      have P0 := Lib.hid (parse_empty [b] ⟨#[]⟩ rfl)
      clear pl pg h1
      go_enter Try.func9, Try.ntmps9
      go_wp2_with (fail)
      refine (alive_any _).mono ?_
      rintro e w1 ⟨rfl, hb1⟩
      have HB1 := Lib.hid hb1
      clear hb1
      go_wp2_with (fail)
      refine (make_any none 0 0 [] _ (Kd.C_nil _ _) okTexts_nil).mono ?_
      rintro e w2 ⟨hb2, k2, rfl, hd2⟩
      have HB2 := Lib.hid (Ints.bel_trans HB1.out HB1.out.size hb2)
      have HD2 := Lib.hid (show DP w2 (some ⟨k2, 0, none⟩) [] from .inr ⟨k2, rfl, hd2⟩)
      clear hb2 hd2 HB1
      go_wp2_with (fail)
      refine (parse_any _ [] b _ HD2.out okTexts_nil (by omega)).mono ?_
      rintro e w3 ⟨v, rfl, hr, hb3⟩
      obtain ⟨A3, c3, rfl⟩ := Kd.R_slice hr
      have HC3 := Lib.hid (Kd.R_reads' hr).2.2
      rw [PL.out] at HC3 ⊢
      have HB3 := Lib.hid (Ints.bel_trans HB2.out HB2.out.size hb3)
      clear hr hb3 HB2 HD2
      go_wp2_with (fail)
      refine (make_any _ _ _ [b] _ (lit_texts w3 9 [b] (by simp)) E0.out).mono ?_
      rintro e w4 ⟨hb4, k4, rfl, hd4⟩
      have HB4 := Lib.hid (Ints.bel_trans (HB3.out.alloc HB3.out.size (.cells #[.string b] 9 (0, 0))) (by have := HB3.out.size; simp; omega) hb4)
      have HC4 := Lib.hid (Kd.C_below (Kd.C_alloc HC3.out (.cells #[.string b] 9 (0, 0))) hb4)
      have HD4 := Lib.hid (show DP w4 (some ⟨k4, 0, none⟩) [b] from .inr ⟨k4, rfl, hd4⟩)
      have n1 : ((b.size : Int) != (b.size : Int)) = false := by simp
      clear hb4 hd4 HB3 HC3
      go_wp2_with (fail)
      go_loopg [36, 5] b.size (fun j i s wr => ∃ k : Nat, k + j = b.size ∧ i = .int .i64 k ∧ ∃ q, wr = w4.drewN q)
      case atStart => exact ⟨0, by omega, rfl, 0, rfl⟩
      case round =>
        obtain ⟨k, hk, rfl, q, rfl⟩ := hrel
        by_cases hlt : k < b.size
        · obtain ⟨ad, rfl, x0⟩ := ints_at HC4.out k hlt
          rw [PG.out k hlt, ← bt_byteAt b k hlt] at x0
          have i0 : (0 : Int) ≤ k := by omega
          have i1 : (k : Int) < (b.size : Int) := by omega
          have i2 : ((k : Int)).toNat = k := by omega
          obtain ⟨z, hz⟩ : ∃ z : Nat, (b[k]'hlt).toNat = z := ⟨_, rfl⟩
          have hzl : z < 256 := by rw [← hz]; exact (b[k]'hlt).toNat_lt
          have hwz : wrap64 (z : Int) = z := by unfold wrap64; omega
          have hnz : ((z : Int) != (z : Int)) = false := by simp
          go_wp2_with (fail)
          go_quiet (fail)
          go_wp2_with (fail)
          go_roundg (b.size - (k + 1))
          case measure => omega
          case rel => exact ⟨k + 1, by omega, by go_num, _, rfl⟩
        · obtain rfl : k = b.size := by omega
          go_wp2_with (fail)
          refine (parse_any _ [b] b _ (HD4.out.below (below_drewN (Below.refl _ _) q)) E0.out (by omega)).mono ?_
          rintro e w5 ⟨v, rfl, hr, hb5⟩
          rw [P1.out] at hr
          obtain ⟨A5, c5, rfl⟩ := Kd.R_slice hr
          have HC5 := Lib.hid (Kd.R_reads' hr).2.2
          have HB5 := Lib.hid (Ints.bel_trans (below_drewN HB4.out q) HB4.out.size hb5)
          have HD5 := Lib.hid ((HD4.out.below (below_drewN (Below.refl _ _) q)).below hb5)
          clear hr hb5 HB4 HD4
          go_wp2_with (fail)
          refine (same_ints _ _ _ _ _ _ [256] [256] _ (Kd.C_alloc HC5.out _) (lit_ints w5 3 [256] (by decide))).mono ?_
          rintro e w6 ⟨rfl, q6, rfl⟩
          rw [show decide (([256] : List Int) = [256]) = true by decide]
          have HB6 := Lib.hid (below_drewN (HB5.out.alloc HB5.out.size (.cells #[.int .i64 256] 3 (0, 0))) q6)
          have HD6 := Lib.hid ((HD5.out.below ((Below.refl _ _).alloc (Nat.le_refl _) (.cells #[.int .i64 256] 3 (0, 0)))).below (below_drewN (Below.refl _ _) q6))
          clear HB5 HD5 HC5
          go_wp2_with (fail)
          refine (parse_any _ [b] ⟨#[]⟩ _ HD6.out E0.out (by decide)).mono ?_
          rintro e w7 ⟨v, rfl, hr, hb7⟩
          rw [P0.out] at hr
          obtain ⟨A7, c7, rfl⟩ := Kd.R_slice hr
          have HB7 := Lib.hid (Ints.bel_trans HB6.out HB6.out.size hb7)
          clear hr hb7 HB6 HD6
          go_wp2_with (fail)
          go_ret
          exact ⟨rfl, HB7.out⟩
    · have h1i : (1 : Int) ≤ (b.size : Int) := by omega
      have h40i : (40 : Int) < (b.size : Int) := by omega
      go_enter Try.func9, Try.ntmps9
      go_wp2_with (go_at_call 21; refine (alive_any _).mono ?_; rintro e w' ⟨rfl, hb⟩)
      go_ret
      exact ⟨rfl, hb⟩
end Go.Proofs.Ytdmilmmfibmofaa.Greedy
