/- The first call of the laws of chapter 2 answers true. -/
import Derived.Test.YthncomijfpbeeaaBitsUse
namespace Go.Proofs.Ythncomijfpbeeaa.Bits
set_option linter.unusedVariables false
set_option linter.unusedSimpArgs false
open Go.RowKit Go.Proofs.YthncomijfpbeeaaW.PrintWords Go.Proofs.YthncomijfpbeeaaW.PrintMore Go.Proofs.Ythncomijfpbeeaa.L Go.Proofs.Ythncomijfpbeeaa.BP

set_option maxHeartbeats 1000000 in
theorem alive_any (w : World) : Calls Try.prog 23 #[] w fun e w' => e = .returned (.bool true) ∧ Below w.heap.size w w' := by
  have e1 := Lib.hid (show valN (rem ⟨#[160]⟩ 0) (3 : Int).toNat = 5 by decide +kernel)
  have e2 := Lib.hid (show strOfNums (pack ([] ++ bitsV (3 : Int).toNat 5)) = ⟨#[160]⟩ by decide +kernel)
  have e3 := Lib.hid (show (([] : List Int) ++ bitsV (3 : Int).toNat 5).length = 3 by decide +kernel)
  have e4 := Lib.hid (show isRest (rem ⟨#[160]⟩ (0 + (3 : Int).toNat)) = true by decide +kernel)
  go_enter Try.func23, Try.ntmps23
  go_wp2_with (fail)
  refine (newReader _ _ (by decide)).mono ?_
  rintro e w1 ⟨rfl, hw1⟩
  have hR := rr_new ⟨#[160]⟩ (w.alloc (.cells #[.slice none 0 0, .int .i64 0] 47 (0, 0))) (by decide)
  have hW := (wr_new w w.heap.size).chg ((Chg.refl (fun _ => False) _).alloc (.cells #[.string ⟨#[160]⟩, .int .i64 0] 76 (0, 0))) (fun h => h) (fun _ _ h => h)
  rw [← hw1] at hR hW
  have hB : Below w.heap.size w w1 := by rw [hw1]; exact ((Below.refl _ _).alloc (Nat.le_refl _) _).alloc (by simp) _
  have hs : (w.alloc (.cells #[.slice none 0 0, .int .i64 0] 47 (0, 0))).heap.size = w.heap.size + 1 := by simp
  rw [hs] at hR ⊢
  have HR := Lib.hid hR
  have HW := Lib.hid hW
  have HB := Lib.hid hB
  clear hR hW hB hs hw1
  go_wp2_with (fail)
  refine (get_ok _ _ _ _ _ HR.out (by decide) (by decide) (by decide)).mono ?_
  rintro e w2 ⟨rfl, hR2, hC2⟩
  rw [e1.out]
  have HW2 := Lib.hid (HW.out.chg hC2 (by omega) (fun k hk => by simp [Value.ownBlock] at hk))
  have HR2 := Lib.hid hR2
  have HB2 := Lib.hid (HB.out.trans (hC2.below (B := w.heap.size) HB.out.size (fun k hk => by omega)))
  clear HR HW HB hR2 hC2
  go_wp2_with (fail)
  refine (put_yes _ _ _ _ _ _ _ HW2.out (by decide) HB2.out.size (by decide)).mono ?_
  rintro e w3 ⟨rfl, v1, hW3, hC3, hv⟩
  have HR3 := Lib.hid (HR2.out.chg hC3 (HW2.out.apart HR2.out))
  have HW3 := Lib.hid hW3
  have HB3 := Lib.hid (HB2.out.trans (hC3.below (B := w.heap.size) HB2.out.size (fun k hk => by rcases hk with rfl | hk; exact Nat.le_refl _; simp [Value.ownBlock] at hk)))
  clear HR2 HW2 HB2 hW3 hC3 hv
  go_wp2_with (fail)
  refine (bytes_any _ _ _ _ _ HW3.out).mono ?_
  rintro e w4 ⟨rfl, rfl⟩
  rw [e2.out]
  go_wp2_with (fail)
  refine (wlen_any _ _ _ _ _ HW3.out).mono ?_
  rintro e w4 ⟨rfl, rfl⟩
  rw [e3.out]
  go_wp2_with (fail)
  refine (left_any _ _ _ _ HR3.out).mono ?_
  rintro e w4 ⟨rfl, q, rfl⟩
  go_wp2_with (fail)
  refine (rest_any _ _ _ _ (HR3.out.drewN q)).mono ?_
  rintro e w4 ⟨rfl, q2, hw4⟩
  rw [e4.out]
  subst hw4
  go_wp2
  go_ret
  exact ⟨rfl, below_drewN HB3.out (q + q2)⟩
end Go.Proofs.Ythncomijfpbeeaa.Bits
