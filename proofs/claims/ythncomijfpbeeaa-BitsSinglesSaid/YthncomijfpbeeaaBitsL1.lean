/- Bits one by one are the bits of the bytes: the walk of the law. -/
import Derived.Test.YthncomijfpbeeaaBitsAlive
namespace Go.Proofs.Ythncomijfpbeeaa.Bits
open Go.RowKit Go.Proofs.YthncomijfpbeeaaW.PrintWords Go.Proofs.YthncomijfpbeeaaW.PrintMore Go.Proofs.Ythncomijfpbeeaa.L Go.Proofs.Ythncomijfpbeeaa.BP

set_option maxHeartbeats 1000000 in
theorem BitsSingles_walk (s : ByteArray) (w : World) (hs : s.size ≤ 140737488351232) :
    Calls Try.prog 8 #[.string s] w fun e w' => e = .returned (.bool true) ∧ Below w.heap.size w w' := by
  by_cases h100 : 100 < s.size
  · go_enter Try.func8, Try.ntmps8
    go_wp2_with (go_at_call 23; refine (alive_any _).mono ?_; rintro e w' ⟨rfl, hb⟩)
    go_ret
    exact ⟨rfl, hb⟩
  · go_enter Try.func8, Try.ntmps8
    go_wp2_with (fail)
    refine (alive_any _).mono ?_
    rintro e w1 ⟨rfl, hb1⟩
    have HB1 := Lib.hid hb1
    clear hb1
    go_wp2_with (fail)
    refine (newReader _ _ (by omega)).mono ?_
    rintro e w2 ⟨rfl, hw2⟩
    have hR := rr_new s (w1.alloc (.cells #[.slice none 0 0, .int .i64 0] 47 (0, 0))) (by omega)
    have hW := (wr_new w1 w.heap.size).chg ((Chg.refl (fun _ => False) _).alloc (.cells #[.string s, .int .i64 0] 76 (0, 0))) (fun h => h) (fun _ _ h => h)
    rw [← hw2] at hR hW
    have hB : Below w.heap.size w w2 := by rw [hw2]; exact (HB1.out.alloc HB1.out.size _).alloc (by have := HB1.out.size; simp; omega) _
    rw [show (w1.alloc (.cells #[.slice none 0 0, .int .i64 0] 47 (0, 0))).heap.size = w1.heap.size + 1 by simp] at hR ⊢
    have HR := Lib.hid hR
    have HW := Lib.hid hW
    have HB := Lib.hid hB
    have HSZ := Lib.hid HB1.out.size
    clear hR hW hB hw2 HB1
    go_wp2_with (fail)
    go_loopg [5] (8 * s.size) (fun j i wr => ∃ k : Nat, k + j = 8 * s.size ∧ i = .int .i64 k ∧ Hid (RR wr (w1.heap.size + 1) s k ∧ (∃ v, WR wr w1.heap.size w.heap.size v ((unpack (bytesOf s)).take k)) ∧ Below w.heap.size w wr))
    case atStart => exact ⟨0, by omega, rfl, HR.out, ⟨_, HW.out⟩, HB.out⟩
    case round =>
      obtain ⟨k, hk, rfl, HI⟩ := hrel
      by_cases hlt : k < 8 * s.size
      · have hn1 : ((1 : Int) ≤ ((8 * s.size - k : Nat) : Int)) := by omega
        go_wp2_with (fail)
        refine (get_ok _ _ _ _ _ HI.out.1 (by decide) (by decide) hn1).mono ?_
        rintro e w4 ⟨rfl, hR4, hC4⟩
        obtain ⟨x, hx⟩ : ∃ x, valN (rem s k) (1 : Int).toNat = x := ⟨_, rfl⟩
        rw [hx]
        have hx0 : x = (rem s k).getD 0 0 := by rw [← hx]; exact valN_one _
        have i0 : (0 : Int) ≤ (k : Int) / 8 := by omega
        have i1 : (k : Int) / 8 < (s.size : Int) := by omega
        have hne : (x != bits BinOp.and IntKind.i64 (wrap64 ((s[k / 8]'(by omega)).toNat : Int) / 2 ^ (7 - k % 8)) 1) = false := by
          rw [hx0, bit_spelt s k (by omega)]; simp
        obtain ⟨hR, ⟨v, hW⟩, hB⟩ := HI.out
        have hW4 := hW.chg hC4 (by omega) (fun q hq e => by subst e; exact (hW.apart hR) (.inr hq.symm))
        have HB4 := Lib.hid (hB.trans (hC4.below (B := w.heap.size) hB.size (fun q hq => by have := HSZ.out; omega)))
        have HW4 := Lib.hid hW4
        have HR4 := Lib.hid hR4
        have HX := Lib.hid (show x = 0 ∨ x = 1 by rw [hx0]; exact rem_bit s k)
        have HX0 := Lib.hid hx0
        clear hR hW hB hC4 hW4 hR4 hx hx0
        go_wp2_with (fail)
        refine (put_yes _ _ _ _ _ _ _ HW4.out (mayPut_one x HX.out) HB4.out.size (by rw [List.length_take, unpack_length, bytesOf_length]; omega)).mono ?_
        rintro e w5 ⟨rfl, v1, hW5, hC5, hv5⟩
        rw [show (1 : Int).toNat = 1 from rfl, bitsV_one x HX.out, HX0.out, ← unpack_take_succ s k (by omega)] at hW5
        have HR5 := Lib.hid (HR4.out.chg hC5 (HW4.out.apart HR4.out))
        have HB5 := Lib.hid (HB4.out.trans (hC5.below (B := w.heap.size) HB4.out.size (fun q hq => by
          rcases hq with rfl | hq
          · exact HSZ.out
          · exact own_base (Kd.own_of_R HW4.out.2.1) q hq.symm)))
        have HW5 := Lib.hid hW5
        have HL := Lib.hid (show ((unpack (bytesOf s)).take (k + 1)).length = k + 1 by rw [List.length_take, unpack_length, bytesOf_length]; omega)
        clear HW4 HR4 HB4 hW5 hC5 hv5
        go_wp2_with (fail)
        refine (wlen_any _ _ _ _ _ HW5.out).mono ?_
        rintro e w6 ⟨rfl, rfl⟩
        rw [HL.out, show ((k + 1 : Nat) : Int) = (k : Int) + 1 from by omega]
        go_wp2_with (fail)
        go_roundg (8 * s.size - (k + 1))
        case measure => omega
        case rel => exact ⟨k + 1, by omega, by go_num, HR5.out, ⟨_, HW5.out⟩, HB5.out⟩
      · obtain rfl : k = 8 * s.size := by omega
        obtain ⟨hR, ⟨v, hW⟩, hB⟩ := HI.out
        rw [List.take_of_length_le (by rw [unpack_length, bytesOf_length]; omega)] at hW
        have HW4 := Lib.hid hW
        have HR4 := Lib.hid hR
        have HB4 := Lib.hid hB
        have e1 := Lib.hid (str_pack_unpack s)
        have e2 := Lib.hid (show isRest (rem s (8 * s.size)) = true by
          have : rem s (8 * s.size) = [] := List.eq_nil_of_length_eq_zero (by rw [rem_length]; omega)
          rw [this]; rfl)
        have e3 := Lib.hid (show 8 * s.size - 8 * s.size = 0 by omega)
        clear hW hR hB HI
        go_wp2_with (fail)
        refine (get_no _ _ _ _ _ HR4.out (by decide) (.inr (by rw [e3.out]; decide))).mono ?_
        rintro e w6 ⟨rfl, q, rfl⟩
        go_wp2_with (fail)
        refine (bytes_any _ _ _ _ _ (by exact HW4.out)).mono ?_
        rintro e w6 ⟨rfl, rfl⟩
        rw [e1.out]
        go_wp2_with (fail)
        refine (rest_any _ _ _ _ (HR4.out.drewN q)).mono ?_
        rintro e w6 ⟨rfl, q2, hw6⟩
        rw [World.drewN_drewN] at hw6
        rw [e2.out]
        subst hw6
        go_wp2_with (fail)
        refine (left_any _ _ _ _ (HR4.out.drewN _)).mono ?_
        rintro e w6 ⟨rfl, q3, hw6⟩
        rw [World.drewN_drewN] at hw6
        rw [e3.out]
        subst hw6
        go_wp2
        go_ret
        exact ⟨rfl, below_drewN HB4.out _⟩
end Go.Proofs.Ythncomijfpbeeaa.Bits
