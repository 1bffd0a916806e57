/- What does not fit is not written: the walk of the law. -/
import Derived.Test.YthncomijfpbeeaaBitsAlive
namespace Go.Proofs.Ythncomijfpbeeaa.Bits
set_option linter.unusedVariables false
set_option linter.unusedSimpArgs false
open Go.RowKit Go.Proofs.YthncomijfpbeeaaW.PrintWords Go.Proofs.YthncomijfpbeeaaW.PrintMore Go.Proofs.Ythncomijfpbeeaa.L Go.Proofs.Ythncomijfpbeeaa.BP

theorem and31 (n : Int) (h0 : 0 ≤ n) (h1 : n < 32) : bits BinOp.and IntKind.i64 n 31 = n := by
  have := bits_mask .i64 62 (by decide) i64_small 5 (by decide) n h0 (by omega)
  rw [show (31 : Int) = 2 ^ 5 - 1 from rfl, this]
  omega
set_option maxHeartbeats 1000000 in
theorem BitsRefuse_walk (v n : Int) (w : World) (hv : (Lit.int .i64 v).wf = true) (hn : (Lit.int .i64 n).wf = true) :
    Calls Try.prog 10 #[.int .i64 v, .int .i64 n] w fun e w' => e = .returned (.bool true) ∧ Below w.heap.size w w' := by
  have start : ∀ w1 : World, Below w.heap.size w w1 → Below w.heap.size w (w1.alloc (.cells #[.slice none 0 0, .int .i64 0] 47 (0, 0))) := fun w1 h => h.alloc h.size _
  by_cases hp : mayPut v n = true
  · have hq := hp
    simp only [mayPut, decide_eq_true_eq] at hq
    obtain ⟨h0, h1, h2, h3⟩ := hq
    obtain ⟨m, rfl⟩ := Int.eq_ofNat_of_zero_le h0
    rw [Int.toNat_natCast] at h3
    have hpw := pow_small (n := (m : Int)) h1
    rw [Int.toNat_natCast] at hpw
    have H3 := Lib.hid h3
    have HPW := Lib.hid hpw
    clear h3 hpw
    by_cases h32 : m < 32
    · have ha : bits BinOp.and IntKind.i64 (m : Int) 31 = m := and31 _ h0 (by omega)
      have hlt : decide (v < wrap64 (2 ^ m)) = true := by rw [HPW.out.1]; exact decide_eq_true H3.out
      go_enter Try.func10, Try.ntmps10
      go_wp2_with (fail)
      refine (alive_any _).mono ?_
      rintro e w1 ⟨rfl, hb1⟩
      have HB := Lib.hid (start w1 hb1)
      have HW := Lib.hid (wr_new w1 w.heap.size)
      have HS := Lib.hid hb1.size
      clear hb1
      go_wp2_with (fail)
      refine (put_yes _ _ _ _ _ _ _ HW.out hp HB.out.size (by decide)).mono ?_
      rintro e w2 ⟨rfl, v1, hW2, hC2, _⟩
      have HW2 := Lib.hid hW2
      have HB2 := Lib.hid (HB.out.trans (hC2.below (B := w.heap.size) HB.out.size (fun q hq => by rcases hq with rfl | hq; exact HS.out; simp [Value.ownBlock] at hq)))
      have HL := Lib.hid (show (([] : List Int) ++ bitsV (m : Int).toNat v).length = m by simp [bitsV_length])
      clear HW hW2 hC2
      go_wp2_with (fail)
      refine (wlen_any _ _ _ _ _ HW2.out).mono ?_
      rintro e w3 ⟨rfl, rfl⟩
      rw [HL.out]
      go_wp2
      go_ret
      exact ⟨rfl, HB2.out⟩
    · obtain rfl : m = 32 := by omega
      have hlt : v < 4294967296 := by have := H3.out; simpa using this
      go_enter Try.func10, Try.ntmps10
      go_wp2_with (fail)
      refine (alive_any _).mono ?_
      rintro e w1 ⟨rfl, hb1⟩
      have HB := Lib.hid (start w1 hb1)
      have HW := Lib.hid (wr_new w1 w.heap.size)
      have HS := Lib.hid hb1.size
      clear hb1
      go_wp2_with (fail)
      refine (put_yes _ _ _ _ _ _ _ HW.out hp HB.out.size (by decide)).mono ?_
      rintro e w2 ⟨rfl, v1, hW2, hC2, _⟩
      have HW2 := Lib.hid hW2
      have HB2 := Lib.hid (HB.out.trans (hC2.below (B := w.heap.size) HB.out.size (fun q hq => by rcases hq with rfl | hq; exact HS.out; simp [Value.ownBlock] at hq)))
      have HL := Lib.hid (show (([] : List Int) ++ bitsV ((32 : Nat) : Int).toNat v).length = 32 by simp [bitsV_length])
      clear HW hW2 hC2
      go_wp2_with (fail)
      refine (wlen_any _ _ _ _ _ HW2.out).mono ?_
      rintro e w3 ⟨rfl, rfl⟩
      rw [HL.out]
      go_wp2
      go_ret
      exact ⟨rfl, HB2.out⟩
  · have hp' : mayPut v n = false := by simpa using hp
    have hq := hp'
    simp only [mayPut, decide_eq_false_iff_not] at hq
    have HQ := Lib.hid hq
    clear hq hp
    have HS := Lib.hid (show strOfNums (pack []) = ⟨#[]⟩ from rfl)
    by_cases h0 : n < 0
    · have hz : ((0 : Int) == n) = false := by simp; omega
      have hz' : (n == 0) = false := by simp; omega
      go_enter Try.func10, Try.ntmps10
      go_wp2_with (fail)
      refine (alive_any _).mono ?_
      rintro e w1 ⟨rfl, hb1⟩
      have HB := Lib.hid (start w1 hb1)
      have HW := Lib.hid (wr_new w1 w.heap.size)
      clear hb1
      go_wp2_with (fail)
      refine (put_no _ _ _ _ hp').mono ?_
      rintro e w2 ⟨rfl, rfl⟩
      go_wp2_with (fail)
      refine (wlen_any _ _ _ _ _ HW.out).mono ?_
      rintro e w3 ⟨rfl, rfl⟩
      go_wp2_with (fail)
      refine (bytes_any _ _ _ _ _ HW.out).mono ?_
      rintro e w3 ⟨rfl, rfl⟩
      rw [HS.out]
      go_wp2
      go_ret
      exact ⟨rfl, HB.out⟩
    · by_cases h1 : 32 < n
      · have hz : ((0 : Int) == n) = false := by simp; omega
        have hz' : (n == 0) = false := by simp; omega
        go_enter Try.func10, Try.ntmps10
        go_wp2_with (fail)
        refine (alive_any _).mono ?_
        rintro e w1 ⟨rfl, hb1⟩
        have HB := Lib.hid (start w1 hb1)
        have HW := Lib.hid (wr_new w1 w.heap.size)
        clear hb1
        go_wp2_with (fail)
        refine (put_no _ _ _ _ hp').mono ?_
        rintro e w2 ⟨rfl, rfl⟩
        go_wp2_with (fail)
        refine (wlen_any _ _ _ _ _ HW.out).mono ?_
        rintro e w3 ⟨rfl, rfl⟩
        go_wp2_with (fail)
        refine (bytes_any _ _ _ _ _ HW.out).mono ?_
        rintro e w3 ⟨rfl, rfl⟩
        rw [HS.out]
        go_wp2
        go_ret
        exact ⟨rfl, HB.out⟩
      · have hz : ((0 : Int) == n) = (n == 0) := by rw [Bool.eq_iff_iff, beq_iff_eq, beq_iff_eq]; omega
        by_cases h2 : v < 0
        · by_cases e0 : n = 0
          · subst e0
            go_enter Try.func10, Try.ntmps10
            go_wp2_with (fail)
            refine (alive_any _).mono ?_
            rintro e w1 ⟨rfl, hb1⟩
            have HB := Lib.hid (start w1 hb1)
            have HW := Lib.hid (wr_new w1 w.heap.size)
            clear hb1
            go_wp2_with (fail)
            refine (put_no _ _ _ _ hp').mono ?_
            rintro e w2 ⟨rfl, rfl⟩
            go_wp2_with (fail)
            refine (wlen_any _ _ _ _ _ HW.out).mono ?_
            rintro e w3 ⟨rfl, rfl⟩
            go_wp2_with (fail)
            refine (bytes_any _ _ _ _ _ HW.out).mono ?_
            rintro e w3 ⟨rfl, rfl⟩
            rw [HS.out]
            go_wp2
            go_ret
            exact ⟨rfl, HB.out⟩
          · have hz : ((0 : Int) == n) = false := by simp; omega
            have hz' : (n == 0) = false := by simp; omega
            go_enter Try.func10, Try.ntmps10
            go_wp2_with (fail)
            refine (alive_any _).mono ?_
            rintro e w1 ⟨rfl, hb1⟩
            have HB := Lib.hid (start w1 hb1)
            have HW := Lib.hid (wr_new w1 w.heap.size)
            clear hb1
            go_wp2_with (fail)
            refine (put_no _ _ _ _ hp').mono ?_
            rintro e w2 ⟨rfl, rfl⟩
            go_wp2_with (fail)
            refine (wlen_any _ _ _ _ _ HW.out).mono ?_
            rintro e w3 ⟨rfl, rfl⟩
            go_wp2_with (fail)
            refine (bytes_any _ _ _ _ _ HW.out).mono ?_
            rintro e w3 ⟨rfl, rfl⟩
            rw [HS.out]
            go_wp2
            go_ret
            exact ⟨rfl, HB.out⟩
        · by_cases h32 : n < 32
          · have ha : bits BinOp.and IntKind.i64 n 31 = n := and31 _ (by omega) (by omega)
            have hlt : decide (v < wrap64 (2 ^ n.toNat)) = false := by
              have hpw := pow_small (n := n) (by omega)
              rw [hpw.1]; exact decide_eq_false (fun h => HQ.out ⟨by omega, by omega, by omega, h⟩)
            by_cases e0 : n = 0
            · subst e0
              have ha' : bits BinOp.and IntKind.i64 0 31 = 0 := ha
              have hlt' : decide (v < 1) = false := decide_eq_false (fun h => HQ.out ⟨by omega, by omega, by omega, by simpa using h⟩)
              go_enter Try.func10, Try.ntmps10
              go_wp2_with (fail)
              refine (alive_any _).mono ?_
              rintro e w1 ⟨rfl, hb1⟩
              have HB := Lib.hid (start w1 hb1)
              have HW := Lib.hid (wr_new w1 w.heap.size)
              clear hb1
              go_wp2_with (fail)
              refine (put_no _ _ _ _ hp').mono ?_
              rintro e w2 ⟨rfl, rfl⟩
              go_wp2_with (fail)
              refine (wlen_any _ _ _ _ _ HW.out).mono ?_
              rintro e w3 ⟨rfl, rfl⟩
              go_wp2_with (fail)
              refine (bytes_any _ _ _ _ _ HW.out).mono ?_
              rintro e w3 ⟨rfl, rfl⟩
              rw [HS.out]
              go_wp2
              go_ret
              exact ⟨rfl, HB.out⟩
            · have hz : ((0 : Int) == n) = false := by simp; omega
              have hz' : (n == 0) = false := by simp; omega
              go_enter Try.func10, Try.ntmps10
              go_wp2_with (fail)
              refine (alive_any _).mono ?_
              rintro e w1 ⟨rfl, hb1⟩
              have HB := Lib.hid (start w1 hb1)
              have HW := Lib.hid (wr_new w1 w.heap.size)
              clear hb1
              go_wp2_with (fail)
              refine (put_no _ _ _ _ hp').mono ?_
              rintro e w2 ⟨rfl, rfl⟩
              go_wp2_with (fail)
              refine (wlen_any _ _ _ _ _ HW.out).mono ?_
              rintro e w3 ⟨rfl, rfl⟩
              go_wp2_with (fail)
              refine (bytes_any _ _ _ _ _ HW.out).mono ?_
              rintro e w3 ⟨rfl, rfl⟩
              rw [HS.out]
              go_wp2
              go_ret
              exact ⟨rfl, HB.out⟩
          · obtain rfl : n = 32 := by omega
            have hlt : decide (v < 4294967296) = false := decide_eq_false (fun h => HQ.out ⟨by omega, by omega, by omega, by simpa using h⟩)
            go_enter Try.func10, Try.ntmps10
            go_wp2_with (fail)
            refine (alive_any _).mono ?_
            rintro e w1 ⟨rfl, hb1⟩
            have HB := Lib.hid (start w1 hb1)
            have HW := Lib.hid (wr_new w1 w.heap.size)
            clear hb1
            go_wp2_with (fail)
            refine (put_no _ _ _ _ hp').mono ?_
            rintro e w2 ⟨rfl, rfl⟩
            go_wp2_with (fail)
            refine (wlen_any _ _ _ _ _ HW.out).mono ?_
            rintro e w3 ⟨rfl, rfl⟩
            go_wp2_with (fail)
            refine (bytes_any _ _ _ _ _ HW.out).mono ?_
            rintro e w3 ⟨rfl, rfl⟩
            rw [HS.out]
            go_wp2
            go_ret
            exact ⟨rfl, HB.out⟩
end Go.Proofs.Ythncomijfpbeeaa.Bits
