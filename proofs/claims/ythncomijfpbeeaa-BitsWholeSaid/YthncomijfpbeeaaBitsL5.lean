/- Bits that fill whole bytes are those bytes, whichever numbers they were put by: the walk of the law. -/
import Derived.Test.YthncomijfpbeeaaBitsAlive
namespace Go.Proofs.Ythncomijfpbeeaa.Bits
set_option linter.unusedVariables false
set_option linter.unusedSimpArgs false
open Go.RowKit Go.Proofs.YthncomijfpbeeaaW.PrintWords Go.Proofs.YthncomijfpbeeaaW.PrintMore Go.Proofs.Ythncomijfpbeeaa.L Go.Proofs.Ythncomijfpbeeaa.BP

theorem bitsV_valN : ∀ (l : List Int), Bits l → ∀ m, m ≤ l.length → bitsV m (valN l m) = l.take m := by
  intro l hl m
  induction m with
  | zero => intro _; rfl
  | succ m ih =>
    intro h
    have ih := ih (by omega)
    have hr := valN_range hl m
    have hb := bits_getD hl m
    rw [List.take_succ_eq_append_getElem (by omega), ← ih]
    refine List.ext_getElem ?_ ?_
    · simp [bitsV_length]
    · intro j h1 h2
      simp only [bitsV, List.getElem_map, List.getElem_range, List.getElem_append, List.length_map, List.length_range]
      rw [bitsV_length] at h1
      simp only [valN]
      have eg : l.getD m 0 = l[m]'(by omega) := by rw [List.getD_eq_getElem?_getD, List.getElem?_eq_getElem (by omega)]; rfl
      rw [eg] at hb ⊢
      by_cases hj : j < m
      · rw [dif_pos hj]
        obtain ⟨d, hd⟩ : ∃ d, m - 1 - j = d := ⟨_, rfl⟩
        rw [show m + 1 - 1 - j = d + 1 from by omega, hd]
        congr 1
        rw [Int.pow_succ, Int.mul_comm (2 ^ d) 2, ← Int.ediv_ediv_of_nonneg (by omega)]
        congr 1
        omega
      · rw [dif_neg hj]
        obtain rfl : j = m := by omega
        rw [show j + 1 - 1 - j = 0 from by omega]
        simp
        omega
theorem mayPut_valN (l : List Int) (hl : Bits l) (m : Int) (h0 : 0 ≤ m) (h1 : m ≤ 32) : mayPut (valN l m.toNat) m = true := by
  have := valN_range hl m.toNat
  simp only [mayPut, decide_eq_true_eq]
  exact ⟨h0, h1, this.1, this.2⟩
theorem rem_take (s : ByteArray) (a m : Nat) : (unpack (bytesOf s)).take a ++ (rem s a).take m = (unpack (bytesOf s)).take (a + m) := by
  unfold rem
  rw [List.take_add]

set_option maxHeartbeats 1000000 in
theorem BitsWhole_walk (s : ByteArray) (n : Int) (w : World) (hs : s.size ≤ 140737488351232) (hn : (Lit.int .i64 n).wf = true) :
    Calls Try.prog 12 #[.string s, .int .i64 n] w fun e w' => e = .returned (.bool true) ∧ Below w.heap.size w w' := by
  by_cases hin : s.size ≤ 60 ∧ 1 ≤ n ∧ n ≤ 32
  · obtain ⟨h60, h0, h32⟩ := hin
    go_enter Try.func12, Try.ntmps12
    go_wp2_with (fail)
    refine (alive_any _).mono ?_
    rintro e w1 ⟨rfl, hb1⟩
    have HB1 := Lib.hid hb1
    clear hb1
    go_wp2_with (fail)
    refine (newReader _ _ (by omega)).mono ?_
    rintro e w2 ⟨rfl, hw2⟩
    have hR := rr_new s w1 (by omega)
    have hs2 : w2.heap.size = w1.heap.size + 1 := by rw [hw2]; simp
    have hR0 : RR w2 w1.heap.size s 0 := by rw [hw2]; exact hR
    have hB2 : Below w.heap.size w w2 := by rw [hw2]; exact HB1.out.alloc HB1.out.size _
    have hRR : RR (w2.alloc (.cells #[.slice none 0 0, .int .i64 0] 47 (0, 0))) w1.heap.size s 0 := hR0.chg ((Chg.refl (fun _ => False) _).alloc _) (fun h => h)
    have hWW : WR (w2.alloc (.cells #[.slice none 0 0, .int .i64 0] 47 (0, 0))) w2.heap.size w.heap.size (.slice none 0 0) [] := wr_new w2 w.heap.size
    have HR := Lib.hid hRR
    have HW := Lib.hid hWW
    have HB := Lib.hid (hB2.alloc hB2.size (.cells #[.slice none 0 0, .int .i64 0] 47 (0, 0)))
    have HSZ := Lib.hid HB1.out.size
    have HS2 := Lib.hid hB2.size
    clear hR hR0 hB2 hRR hWW hw2 HB1 hs2
    go_wp2_with (fail)
    go_loopg [] (8 * s.size) (fun j wr => ∃ k : Nat, k + j = 8 * s.size ∧ Hid (RR wr w1.heap.size s k ∧ (∃ v, WR wr w2.heap.size w.heap.size v ((unpack (bytesOf s)).take k)) ∧ Below w.heap.size w wr))
    case atStart => exact ⟨0, by omega, HR.out, ⟨_, HW.out⟩, HB.out⟩
    case round =>
      obtain ⟨k, hk, HI⟩ := hrel
      obtain ⟨L, hL⟩ : ∃ L, 8 * s.size - k = L := ⟨_, rfl⟩
      have HL := Lib.hid hL
      have hLb : L ≤ 480 := by omega
      clear hL
      go_wp2_with (fail)
      refine (left_eq _ _ _ _ _ HI.out.1 HL.out).mono ?_
      rintro e w3 ⟨rfl, q, rfl⟩
      by_cases hp : 0 < L
      · have hm : ∃ m : Nat, (if (L : Int) < n then (L : Int) else n) = (m : Int) ∧ 1 ≤ m ∧ m ≤ 32 ∧ m ≤ L := by
          split
          · exact ⟨L, rfl, by omega, by omega, by omega⟩
          · exact ⟨n.toNat, by omega, by omega, by omega, by omega⟩
        obtain ⟨m, hm, m1, m2, m3⟩ := hm
        go_wp2_with (fail)
        refine (left_eq _ _ _ _ _ (by exact HI.out.1) HL.out).mono ?_
        rintro e w4 ⟨rfl, q2, hw4⟩
        rw [World.drewN_drewN] at hw4
        subst hw4
        obtain ⟨hR, ⟨v, hW⟩, hB⟩ := HI.out
        have HR3 := Lib.hid (hR.drewN (q + q2))
        have HW3 := Lib.hid (hW.chg ((Chg.refl (fun _ => False) wr).drewN (q + q2)) (fun h => h) (fun _ _ h => h))
        have HB3 := Lib.hid (below_drewN hB (q + q2))
        clear hR hW hB HI
        generalize wr.drewN (q + q2) = w4 at *
        go_wp2_with (fail)
        clear hm
        refine (get_ok _ _ _ _ _ HR3.out (by omega) (by omega) (by have := HL.out; omega)).mono ?_
        rintro e w5 ⟨rfl, hR5, hC5⟩
        rw [Int.toNat_natCast] at hR5 ⊢
        have HR5 := Lib.hid hR5
        have HW5 := Lib.hid (HW3.out.chg hC5 (by have := HS2.out; intro e; have h1 := HW3.out.apart HR3.out; exact h1 (.inl e.symm)) (fun t ht e => by subst e; exact HW3.out.apart HR3.out (.inr ht.symm)))
        have HB5 := Lib.hid (HB3.out.trans (hC5.below (B := w.heap.size) HB3.out.size (fun t ht => by have := HSZ.out; omega)))
        obtain ⟨x, hx⟩ : ∃ x, valN (rem s k) m = x := ⟨_, rfl⟩
        rw [hx]
        have HX := Lib.hid hx
        have hmp := Lib.hid (show mayPut x (m : Int) = true by rw [← hx]; exact mayPut_valN _ (rem_bits s k) (m : Int) (by omega) (by omega))
        clear hR5 hC5 HR3 HW3 HB3 hx
        go_wp2_with (fail)
        refine (put_yes _ _ _ _ _ _ _ HW5.out hmp.out HB5.out.size (by rw [List.length_take, unpack_length, bytesOf_length]; omega)).mono ?_
        rintro e w6 ⟨rfl, v1, hW6, hC6, _⟩
        rw [Int.toNat_natCast, ← HX.out, bitsV_valN _ (rem_bits s k) m (by rw [rem_length, HL.out]; omega), rem_take] at hW6
        have HR6 := Lib.hid (HR5.out.chg hC6 (HW5.out.apart HR5.out))
        have HB6 := Lib.hid (HB5.out.trans (hC6.below (B := w.heap.size) HB5.out.size (fun t ht => by
          rcases ht with rfl | ht
          · exact HS2.out
          · exact own_base (Kd.own_of_R HW5.out.2.1) t ht.symm)))
        have HW6 := Lib.hid hW6
        clear hW6 hC6
        go_wp2_with (fail)
        go_roundg (8 * s.size - (k + m))
        case measure => have := HL.out; omega
        case rel => exact ⟨k + m, by have := HL.out; omega, HR6.out, ⟨_, HW6.out⟩, HB6.out⟩
      · obtain rfl : k = 8 * s.size := by have := HL.out; omega
        obtain ⟨hR, ⟨v, hW⟩, hB⟩ := HI.out
        rw [List.take_of_length_le (by rw [unpack_length, bytesOf_length]; omega)] at hW
        have HW4 := Lib.hid hW
        have HB4 := Lib.hid hB
        have e1 := Lib.hid (str_pack_unpack s)
        have e2 := Lib.hid (show (unpack (bytesOf s)).length = 8 * s.size by rw [unpack_length, bytesOf_length])
        clear hW hR hB HI
        go_wp2_with (fail)
        refine (bytes_any _ _ _ _ _ (by exact HW4.out)).mono ?_
        rintro e w6 ⟨rfl, rfl⟩
        rw [e1.out]
        go_wp2_with (fail)
        refine (wlen_any _ _ _ _ _ (by exact HW4.out)).mono ?_
        rintro e w6 ⟨rfl, rfl⟩
        rw [e2.out]
        go_wp2_with (fail)
        go_ret
        exact ⟨rfl, below_drewN HB4.out q⟩
  · go_enter Try.func12, Try.ntmps12
    go_wp2_with (go_at_call 23; refine (alive_any _).mono ?_; rintro e w' ⟨rfl, hb⟩)
    all_goals first | (exfalso; omega) | (go_ret; exact ⟨rfl, hb⟩)
end Go.Proofs.Ythncomijfpbeeaa.Bits
