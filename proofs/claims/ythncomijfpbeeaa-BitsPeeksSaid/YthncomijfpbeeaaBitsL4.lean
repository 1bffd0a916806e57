/- Looked at twice, bits are the same; what is passed by is not read: the walk of the law. -/
import Derived.Test.YthncomijfpbeeaaBitsAlive
namespace Go.Proofs.Ythncomijfpbeeaa.Bits
set_option linter.unusedVariables false
set_option linter.unusedSimpArgs false
open Go.RowKit Go.Proofs.YthncomijfpbeeaaW.PrintWords Go.Proofs.YthncomijfpbeeaaW.PrintMore Go.Proofs.Ythncomijfpbeeaa.L Go.Proofs.Ythncomijfpbeeaa.BP

set_option maxHeartbeats 1000000 in
theorem BitsPeeks_walk (s : ByteArray) (n m : Int) (w : World) (hs : s.size ≤ 140737488351232) (hn : (Lit.int .i64 n).wf = true) (hm : (Lit.int .i64 m).wf = true) :
    Calls Try.prog 11 #[.string s, .int .i64 n, .int .i64 m] w fun e w' => e = .returned (.bool true) ∧ Below w.heap.size w w' := by
  by_cases hin : s.size ≤ 60 ∧ 0 ≤ n ∧ n ≤ 32 ∧ 0 ≤ m ∧ m ≤ 8 * (s.size : Int)
  · obtain ⟨h60, h0, h32, hm0, hm8⟩ := hin
    obtain ⟨M, rfl⟩ := Int.eq_ofNat_of_zero_le hm0
    go_enter Try.func11, Try.ntmps11
    go_wp2_with (fail)
    refine (alive_any _).mono ?_
    rintro e w1 ⟨rfl, hb1⟩
    have HB1 := Lib.hid hb1
    clear hb1
    go_wp2_with (fail)
    refine (newReader _ _ (by omega)).mono ?_
    rintro e w2 ⟨rfl, hw2⟩
    have hR := rr_new s w1 (by omega)
    rw [← hw2] at hR
    have hB2 : Below w.heap.size w w2 := by rw [hw2]; exact HB1.out.alloc HB1.out.size _
    have h12 : w1.heap.size ≠ w2.heap.size := by rw [hw2]; simp
    have HR := Lib.hid hR
    have HB2 := Lib.hid hB2
    have HNE := Lib.hid h12
    have HSZ := Lib.hid HB1.out.size
    clear hR hw2 HB1 hB2 h12
    go_wp2_with (fail)
    refine (newReader _ _ (by omega)).mono ?_
    rintro e w3 ⟨rfl, hw3⟩
    have hR2 := rr_new s w2 (by omega)
    have hR1 : RR w3 w1.heap.size s 0 := by rw [hw3]; exact HR.out.chg ((Chg.refl (fun _ => False) _).alloc _) (fun h => h)
    rw [← hw3] at hR2
    have hB3 : Below w.heap.size w w3 := by rw [hw3]; exact HB2.out.alloc HB2.out.size _
    have HR1 := Lib.hid hR1
    have HR2 := Lib.hid hR2
    have HB3 := Lib.hid hB3
    have HSZ2 := Lib.hid HB2.out.size
    clear hR1 hR2 hw3 HB2 hB3 HR
    go_wp2_with (fail)
    refine (skip_ok _ _ _ _ _ HR1.out (by omega) (by omega)).mono ?_
    rintro e w4 ⟨rfl, hR4, hC4⟩
    rw [Nat.zero_add, Int.toNat_natCast] at hR4
    have HR4 := Lib.hid hR4
    have HS4 := Lib.hid (HR2.out.chg hC4 (fun e => HNE.out e.symm))
    have HB4 := Lib.hid (HB3.out.trans (hC4.below (B := w.heap.size) HB3.out.size (fun t ht => by have := HSZ.out; omega)))
    clear HR1 HR2 HB3 hR4 hC4
    go_wp2_with (fail)
    go_loopg [9] M (fun j i wr => ∃ k : Nat, k + j = M ∧ i = .int .i64 k ∧ Hid (RR wr w1.heap.size s M ∧ RR wr w2.heap.size s k ∧ Below w.heap.size w wr))
    case atStart => exact ⟨0, by omega, rfl, HR4.out, HS4.out, HB4.out⟩
    case round =>
      obtain ⟨k, hk, rfl, HI⟩ := hrel
      by_cases hlt : k < M
      · have hn1 : ((1 : Int) ≤ ((8 * s.size - k : Nat) : Int)) := by omega
        go_wp2_with (fail)
        refine (get_ok _ _ _ _ _ HI.out.2.1 (by decide) (by decide) hn1).mono ?_
        rintro e w5 ⟨rfl, hR5, hC5⟩
        have HI5 := Lib.hid (show RR w5 w1.heap.size s M ∧ RR w5 w2.heap.size s (k + 1) ∧ Below w.heap.size w w5 from ⟨HI.out.1.chg hC5 HNE.out, hR5, HI.out.2.2.trans (hC5.below (B := w.heap.size) HI.out.2.2.size (fun t ht => by have := HSZ2.out; omega))⟩)
        clear hR5 hC5
        go_wp2_with (fail)
        go_roundg (M - (k + 1))
        case measure => omega
        case rel => exact ⟨k + 1, by omega, by go_num, HI5.out⟩
      · obtain rfl : k = M := by omega
        obtain ⟨N, rfl⟩ := Int.eq_ofNat_of_zero_le h0
        obtain ⟨L, hL⟩ : ∃ L, 8 * s.size - k = L := ⟨_, rfl⟩
        have HL := Lib.hid hL
        obtain ⟨hR6, hS6, hB6⟩ := HI.out
        have HR6 := Lib.hid hR6
        have HS6 := Lib.hid hS6
        have HB6 := Lib.hid hB6
        clear hL hR6 hS6 hB6 HI
        go_wp2_with (fail)
        refine (peek_any _ _ _ _ _ HR6.out h0 h32).mono ?_
        rintro e w6 ⟨rfl, q, rfl⟩
        go_wp2_with (fail)
        refine (peek_any _ _ _ _ _ (HR6.out.drewN q) h0 h32).mono ?_
        rintro e w7 ⟨rfl, q2, hw7⟩
        rw [World.drewN_drewN] at hw7
        subst hw7
        rw [Int.toNat_natCast]
        obtain ⟨x, hx⟩ : ∃ x, valN (rem s k) N = x := ⟨_, rfl⟩
        rw [hx]
        have HX := Lib.hid hx
        clear hx
        have HR8 := Lib.hid (HR6.out.drewN (q + q2))
        have HS8 := Lib.hid (HS6.out.drewN (q + q2))
        have HB8 := Lib.hid (below_drewN HB6.out (q + q2))
        clear HR6 HS6 HB6
        generalize wr.drewN (q + q2) = w8 at *
        by_cases hNL : N ≤ L
        · go_wp2_with (fail)
          refine (get_ok _ _ _ _ _ HR8.out h0 h32 (by have := HL.out; omega)).mono ?_
          rintro e w9 ⟨rfl, hR9, hC9⟩
          rw [Int.toNat_natCast] at hR9 ⊢
          rw [HX.out]
          have HR9 := Lib.hid hR9
          have HS9 := Lib.hid (HS8.out.chg hC9 (fun e => HNE.out e.symm))
          have HB9 := Lib.hid (HB8.out.trans (hC9.below (B := w.heap.size) HB8.out.size (fun t ht => by have := HSZ.out; omega)))
          clear hR9 hC9 HR8 HS8 HB8
          go_wp2_with (fail)
          refine (get_ok _ _ _ _ _ HS9.out h0 h32 (by have := HL.out; omega)).mono ?_
          rintro e w10 ⟨rfl, hS10, hC10⟩
          rw [Int.toNat_natCast] at hS10 ⊢
          rw [HX.out]
          have HS10 := Lib.hid hS10
          have HR10 := Lib.hid (HR9.out.chg hC10 HNE.out)
          have HB10 := Lib.hid (HB9.out.trans (hC10.below (B := w.heap.size) HB9.out.size (fun t ht => by have := HSZ2.out; omega)))
          clear hS10 hC10 HR9 HS9 HB9
          go_wp2_with (fail)
          refine (left_any _ _ _ _ HR10.out).mono ?_
          rintro e w11 ⟨rfl, q3, rfl⟩
          go_wp2_with (fail)
          refine (left_any _ _ _ _ (HS10.out.drewN q3)).mono ?_
          rintro e w12 ⟨rfl, q4, hw⟩
          rw [World.drewN_drewN] at hw
          subst hw
          go_wp2
          go_ret
          exact ⟨rfl, below_drewN HB10.out _⟩
        · go_wp2_with (fail)
          refine (get_no _ _ _ _ _ HR8.out h32 (.inr (by have := HL.out; omega))).mono ?_
          rintro e w9 ⟨rfl, q3, rfl⟩
          go_wp2_with (fail)
          refine (get_no _ _ _ _ _ (HS8.out.drewN q3) h32 (.inr (by have := HL.out; omega))).mono ?_
          rintro e w10 ⟨rfl, q4, hw⟩
          rw [World.drewN_drewN] at hw
          subst hw
          go_wp2_with (fail)
          refine (left_any _ _ _ _ (HR8.out.drewN _)).mono ?_
          rintro e w11 ⟨rfl, q5, hw⟩
          rw [World.drewN_drewN] at hw
          subst hw
          go_wp2_with (fail)
          refine (left_any _ _ _ _ (HS8.out.drewN _)).mono ?_
          rintro e w12 ⟨rfl, q6, hw⟩
          rw [World.drewN_drewN] at hw
          subst hw
          go_wp2
          go_ret
          exact ⟨rfl, below_drewN HB8.out _⟩
  · go_enter Try.func11, Try.ntmps11
    go_wp2_with (go_at_call 23; refine (alive_any _).mono ?_; rintro e w' ⟨rfl, hb⟩)
    all_goals first | (exfalso; omega) | (go_ret; exact ⟨rfl, hb⟩)
end Go.Proofs.Ythncomijfpbeeaa.Bits
