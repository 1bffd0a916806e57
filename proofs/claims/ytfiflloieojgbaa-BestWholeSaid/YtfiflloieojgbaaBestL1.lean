/- Chapter 15: of one byte a window the tokens are the bytes; of a dictionary that has all of it, it is one token. -/
import Derived.Test.YtfiflloieojgbaaBestUse
namespace Go.Proofs.Ytfiflloieojgbaa.Best
set_option linter.unusedVariables false
set_option linter.unusedSimpArgs false
open Go.RowKit Go.Proofs.YtfiflloieojgbaaW.PrintWords Go.Proofs.YtfiflloieojgbaaW.PrintMore Go.Proofs.Ytfiflloieojgbaa.L Go.Proofs.Ytfiflloieojgbaa.Texts Go.Proofs.Ytfiflloieojgbaa.Dict Go.Proofs.Ytfiflloieojgbaa.Ints Go.Proofs.Ytfiflloieojgbaa.Greedy Go.Proofs.Ytfiflloieojgbaa.Cost Go.Proofs.Ytfiflloieojgbaa.Fl

set_option maxRecDepth 100000 in
set_option maxHeartbeats 2000000 in
theorem BestWhole_walk (b : ByteArray) (w : World) (hbs : b.size ≤ 140737488351232) :
    Calls Try.prog 4 #[.string b] w fun e w' => e = .returned (.bool true) ∧ Below w.heap.size w w' := by
  by_cases h1 : b.size < 2
  · have h1i : (b.size : Int) < 2 := by omega
    go_enter Try.func4, Try.ntmps4
    go_wp2_with (go_at_call 12; refine (alive_any _).mono ?_; rintro e w' ⟨rfl, hb⟩)
    go_ret
    exact ⟨rfl, hb⟩
  · by_cases h40 : b.size ≤ 40
    · have h1i : (2 : Int) ≤ (b.size : Int) := by omega
      have h40i : (b.size : Int) ≤ 40 := by omega
      have E0 := Lib.hid (ok_one b (by omega) h40)
      have P1 := Lib.hid (whole b (by omega) h40 b.size (Nat.le_refl _))
      have P2 := Lib.hid (whole b (by omega) h40 1024 (by omega))
      obtain ⟨pl, pg⟩ := singles [b] E0.out (fun k hk => by
        obtain rfl : k = 0 := by simpa using hk
        show 2 ≤ b.size
        omega) b.size b rfl
      have PL := Lib.hid pl
      have PG := Lib.hid pg
      clear pl pg h1
      go_enter Try.func4, Try.ntmps4
      go_wp2_with (fail)
      refine (alive_any _).mono ?_
      rintro e w1 ⟨rfl, hb1⟩
      have HB1 := Lib.hid hb1
      clear hb1
      go_wp2_with (fail)
      refine (make_any _ _ _ [b] _ (lit_texts w1 9 [b] (by simp)) E0.out).mono ?_
      rintro e w4 ⟨hb4, k4, rfl, hd4⟩
      have HB4 := Lib.hid (Ints.bel_trans (HB1.out.alloc HB1.out.size (.cells #[.string b] 9 (0, 0))) (by have := HB1.out.size; simp; omega) hb4)
      have HD4 := Lib.hid (show DP w4 (some ⟨k4, 0, none⟩) [b] from .inr ⟨k4, rfl, hd4⟩)
      clear hb4 hd4 HB1
      go_wp2_with (fail)
      refine (parse_any _ [b] b 1 _ HD4.out E0.out (by omega) (by decide) (by decide)).mono ?_
      rintro e w3 ⟨v, rfl, hr, hb3⟩
      obtain ⟨A3, c3, rfl⟩ := Kd.R_slice hr
      have HC4 := Lib.hid (Kd.R_reads' hr).2.2
      rw [PL.out] at HC4 ⊢
      have HB3 := Lib.hid (Ints.bel_trans HB4.out HB4.out.size hb3)
      have HD3 := Lib.hid (HD4.out.below hb3)
      have n1 : ((b.size : Int) != (b.size : Int)) = false := by simp
      clear hr hb3 HB4 HD4
      go_wp2_with (fail)
      go_loopg [29, 5] b.size (fun j i s wr => ∃ k : Nat, k + j = b.size ∧ i = .int .i64 k ∧ ∃ q, wr = w3.drewN q)
      case atStart => exact ⟨0, by omega, rfl, 0, rfl⟩
      case round =>
        obtain ⟨k, hk, rfl, q, rfl⟩ := hrel
        by_cases hlt : k < b.size
        · obtain ⟨ad, rfl, x0⟩ := ints_at HC4.out k hlt
          rw [PG.out k hlt, ← bt_byteAt b k hlt] at x0
          have i0 : (0 : Int) ≤ k := by omega
          have i1 : (k : Int) < (b.size : Int) := by omega
          have i2 : ((k : Int)).toNat = k := by omega
          obtain ⟨z, hz⟩ : ∃ z : Nat, (b[k]'hlt).toNat = z := ⟨_, rfl⟩
          have hzl : z < 256 := by rw [← hz]; exact (b[k]'hlt).toNat_lt
          have hwz : wrap64 (z : Int) = z := by unfold wrap64; omega
          have hnz : ((z : Int) != (z : Int)) = false := by simp
          have hwv : IntKind.i64.wrap (z : Int) = z := by rw [IntKind.wrap_i64]; omega
          have hnk : decide (b.size ≤ k) = false := by simp; omega
          go_wp2_with (fail)
          go_quiet (fail)
          go_wp2_with (fail)
          go_roundg (b.size - (k + 1))
          case measure => omega
          case rel => exact ⟨k + 1, by omega, by go_num, _, rfl⟩
        · obtain rfl : k = b.size := by omega
          go_wp2_with (fail)
          refine (parse_any _ [b] b b.size _ (HD3.out.below (below_drewN (Below.refl _ _) q)) E0.out (by omega) (by omega) (by omega)).mono ?_
          rintro e w5 ⟨v, rfl, hr, hb5⟩
          rw [P1.out] at hr
          obtain ⟨A5, c5, rfl⟩ := Kd.R_slice hr
          have HC5 := Lib.hid (Kd.R_reads' hr).2.2
          have HB5 := Lib.hid (Ints.bel_trans (below_drewN HB3.out q) HB3.out.size hb5)
          have HD5 := Lib.hid ((HD3.out.below (below_drewN (Below.refl _ _) q)).below hb5)
          clear hr hb5 HB3 HD3
          go_wp2_with (fail)
          refine (same_ints _ _ _ _ _ _ [256] [256] _ (Kd.C_alloc HC5.out _) (lit_ints w5 3 [256] (by decide))).mono ?_
          rintro e w6 ⟨rfl, q6, rfl⟩
          rw [show decide (([256] : List Int) = [256]) = true by decide]
          have HB6 := Lib.hid (below_drewN (HB5.out.alloc HB5.out.size (.cells #[.int .i64 256] 3 (0, 0))) q6)
          have HD6 := Lib.hid ((HD5.out.below ((Below.refl _ _).alloc (Nat.le_refl _) (.cells #[.int .i64 256] 3 (0, 0)))).below (below_drewN (Below.refl _ _) q6))
          clear HB5 HD5 HC5
          go_wp2_with (fail)
          refine (parse_any _ [b] b 1024 _ HD6.out E0.out (by omega) (by decide) (by decide)).mono ?_
          rintro e w7 ⟨v, rfl, hr, hb7⟩
          rw [P2.out] at hr
          obtain ⟨A7, c7, rfl⟩ := Kd.R_slice hr
          have HC7 := Lib.hid (Kd.R_reads' hr).2.2
          have HB7 := Lib.hid (Ints.bel_trans HB6.out HB6.out.size hb7)
          clear hr hb7 HB6 HD6
          go_wp2_with (fail)
          refine (same_ints _ _ _ _ _ _ [256] [256] _ (Kd.C_alloc HC7.out _) (lit_ints w7 3 [256] (by decide))).mono ?_
          rintro e w8 ⟨rfl, q8, rfl⟩
          rw [show decide (([256] : List Int) = [256]) = true by decide]
          have HB8 := Lib.hid (below_drewN (HB7.out.alloc HB7.out.size (.cells #[.int .i64 256] 3 (0, 0))) q8)
          clear HB7 HC7
          go_wp2_with (fail)
          go_ret
          exact ⟨rfl, HB8.out⟩
    · have h1i : (2 : Int) ≤ (b.size : Int) := by omega
      have h40i : (40 : Int) < (b.size : Int) := by omega
      go_enter Try.func4, Try.ntmps4
      go_wp2_with (go_at_call 12; refine (alive_any _).mono ?_; rintro e w' ⟨rfl, hb⟩)
      go_ret
      exact ⟨rfl, hb⟩
end Go.Proofs.Ytfiflloieojgbaa.Best
