/- Chapter 19: a symbol's code is put; the first call. -/
import Derived.Test.YtfdpgngdccdmpaaCode
import Derived.Test.YtfdpgngdccdmpaaBitsUse
import Derived.Deep.RegionHeld3
namespace Go.Proofs.Ytfdpgngdccdmpaa.Code
set_option linter.unusedVariables false
set_option linter.unusedSimpArgs false
open Go.RowKit Go.Proofs.YtfdpgngdccdmpaaW.PrintWords Go.Proofs.YtfdpgngdccdmpaaW.PrintMore Go.Proofs.Ytfdpgngdccdmpaa.L Go.Proofs.Ytfdpgngdccdmpaa.Ints Go.Proofs.Ytfdpgngdccdmpaa.BP

/-! ### Put -/
def putOk (l cs : List Int) (s : Int) : Bool := decide (0 ≤ s ∧ s < (l.length : Int) ∧ s < (cs.length : Int) ∧ 1 ≤ l.getD s.toNat 0 ∧ l.getD s.toNat 0 ≤ 15)
set_option maxRecDepth 100000 in
set_option maxHeartbeats 1000000 in
theorem cput_no (p A B : Option Addr) (c c' : Nat) (l cs : List Int) (s : Int) (w : World) (hl : KI.C w A l.length l) (hc : KI.C w B cs.length cs) (h : putOk l cs s = false) :
    Calls Try.prog 22 #[.pointer p, .slice A l.length c, .slice B cs.length c', .int .i64 s] w fun e w' => e = .returned (.bool false) ∧ w' = w := by
  have HL := Lib.hid hl
  have HC := Lib.hid hc
  have hn : ¬ (0 ≤ s ∧ s < (l.length : Int) ∧ s < (cs.length : Int) ∧ 1 ≤ l.getD s.toNat 0 ∧ l.getD s.toNat 0 ≤ 15) := of_decide_eq_false h
  clear hl hc h
  by_cases h0 : s < 0
  · clear hn
    go_enter Try.func22, Try.ntmps22
    go_wp2_with (fail)
    all_goals (go_ret; exact ⟨rfl, rfl⟩)
  · have h00 : 0 ≤ s := by omega
    by_cases h1 : min (l.length : Int) (cs.length : Int) ≤ s
    · clear hn h0
      go_enter Try.func22, Try.ntmps22
      go_wp2_with (fail)
      all_goals (go_ret; exact ⟨rfl, rfl⟩)
    · have h10 : s < min (l.length : Int) (cs.length : Int) := by omega
      obtain ⟨k, rfl⟩ := Int.eq_ofNat_of_zero_le h00
      have hkl : k < l.length := by omega
      obtain ⟨ad, rfl, x0⟩ := ints_at HL.out k hkl
      rw [Int.toNat_natCast] at hn
      obtain ⟨x, hx⟩ : ∃ x, l.getD k 0 = x := ⟨_, rfl⟩
      rw [hx] at x0 hn
      have i1 : (k : Int) < (l.length : Int) := by omega
      have i2 : ((k : Int)).toNat = k := by omega
      clear h0 h1 hx
      by_cases hx1 : x < 1
      · clear hn
        go_enter Try.func22, Try.ntmps22
        go_wp2_with (fail)
        all_goals (go_ret; exact ⟨rfl, rfl⟩)
      · have hx2 : 15 < x := by omega
        have hx3 : 1 ≤ x := by omega
        clear hn hx1
        go_enter Try.func22, Try.ntmps22
        go_wp2_with (fail)
        all_goals (go_ret; exact ⟨rfl, rfl⟩)
set_option maxRecDepth 100000 in
set_option maxHeartbeats 1000000 in
theorem cput_go {Q : Bool → World → Prop} (p A B : Option Addr) (c c' : Nat) (l cs : List Int) (s : Int) (w : World) (hl : KI.C w A l.length l) (hc : KI.C w B cs.length cs) (h : putOk l cs s = true)
    (hput : ∀ q, Calls Try.prog 52 #[.pointer p, .int .i64 (cs.getD s.toNat 0), .int .i64 (l.getD s.toNat 0)] (w.drewN q) fun e w' => ∃ r, e = .returned (.bool r) ∧ Hid (Q r w')) :
    Calls Try.prog 22 #[.pointer p, .slice A l.length c, .slice B cs.length c', .int .i64 s] w fun e w' => ∃ r, e = .returned (.bool r) ∧ Hid (Q r w') := by
  have HL := Lib.hid hl
  have HC := Lib.hid hc
  obtain ⟨h00, h1, h2, h3, h4⟩ := of_decide_eq_true h
  obtain ⟨k, rfl⟩ := Int.eq_ofNat_of_zero_le h00
  have hmn : (k : Int) < min (l.length : Int) (cs.length : Int) := by omega
  obtain ⟨ad, rfl, x0⟩ := ints_at HL.out k (by omega)
  obtain ⟨bd, rfl, y0⟩ := ints_at HC.out k (by omega)
  rw [Int.toNat_natCast] at h3 h4 hput
  obtain ⟨x, hx⟩ : ∃ x, l.getD k 0 = x := ⟨_, rfl⟩
  obtain ⟨y, hy⟩ : ∃ y, cs.getD k 0 = y := ⟨_, rfl⟩
  rw [hx] at x0 h3 h4 hput
  rw [hy] at y0 hput
  have HPUT := Lib.hid hput
  have i2 : ((k : Int)).toNat = k := by omega
  clear hx hy hl hc hput h
  have n1 : (k : Int) < (l.length : Int) := by omega
  have n2 : (k : Int) < (cs.length : Int) := by omega
  by_cases hm : l.length ≤ cs.length
  all_goals
    go_enter Try.func22, Try.ntmps22
    go_wp2_with (fail)
    go_region_law ((go_simp; go_at_call 52; refine (HPUT.out 1).mono ?_; rintro e w1 ⟨r, rfl, HQ⟩))
    all_goals
      go_wp2_with (fail)
      go_ret
      exact ⟨_, rfl, HQ⟩

/-! ### the first call -/
set_option maxRecDepth 100000 in
set_option maxHeartbeats 4000000 in
theorem alive_any (w : World) : Calls Try.prog 10 #[] w fun e w' => e = .returned (.bool true) ∧ Below w.heap.size w w' := by
  have r1 : right [2, 2, 1] = 0 := by decide +kernel
  have R1 := Lib.hid r1
  have C1 := Lib.hid (show codes [2, 2, 1] = [2, 3, 0] by decide +kernel)
  have R2 := Lib.hid (show right [1, 2] = 8 by decide +kernel)
  have R3 := Lib.hid (show right [1] = 0 by decide +kernel)
  have P1 := Lib.hid (show putOk [2, 2, 1] [2, 3, 0] 1 = true by decide +kernel)
  have S1 := Lib.hid (show strOfNums (Go.Proofs.Ytfdpgngdccdmpaa.BP.pack ([] ++ Go.Proofs.Ytfdpgngdccdmpaa.BP.bitsV (2 : Int).toNat 3)) = ⟨#[192]⟩ by decide +kernel)
  clear r1
  go_enter Try.func10, Try.ntmps10
  go_wp2_with (fail)
  refine (of_ok _ _ [2, 2, 1] _ (lit_ints w 3 [2, 2, 1] (by decide)) (by decide) R1.out).mono ?_
  rintro e w1 ⟨v, rfl, hr, hb⟩
  rw [C1.out] at hr
  obtain ⟨A1, c1, rfl⟩ := Kd.R_slice hr
  have HC1 := Lib.hid (Kd.R_reads' hr).2.2
  have HB1 := Lib.hid (Ints.bel_trans ((Below.refl w.heap.size w).alloc (Nat.le_refl _) (.cells #[.int .i64 2, .int .i64 2, .int .i64 1] 3 (0, 0))) (by simp) hb)
  have HB1sz := HB1.out.size
  clear hr hb
  go_wp2_with (fail)
  have hA := lit_ints (w1.alloc (.cells #[.slice none 0 0, .int .i64 0] 49 (0, 0))) 3 [2, 3, 0] (by decide)
  rw [show (w1.alloc (.cells #[.slice none 0 0, .int .i64 0] 49 (0, 0))).heap.size = w1.heap.size + 1 by simp] at hA
  have hW := Bits.wr_new w1 w.heap.size
  refine (same_ints _ _ _ _ _ _ [2, 3, 0] [2, 3, 0] _ (Kd.C_alloc (Kd.C_alloc HC1.out _) _) (by exact hA)).mono ?_
  rintro e w2 ⟨rfl, q2, hw2⟩
  rw [show decide (([2, 3, 0] : List Int) = [2, 3, 0]) = true by decide]
  have hW2 : Bits.WR w2 w1.heap.size w.heap.size (.slice none 0 0) [] := by
    rw [hw2]
    exact hW.chg (((Chg.refl (fun _ => False) _).alloc _).drewN q2) (fun h => h) (fun _ _ h => h)
  have hC2 : KI.C w2 A1 3 [2, 3, 0] := by rw [hw2]; exact Kd.C_drewN (Kd.C_alloc (Kd.C_alloc HC1.out _) _) q2
  have hB2 : Below w.heap.size w w2 := by
    rw [hw2]
    exact below_drewN ((HB1.out.alloc HB1.out.size _).alloc (by have := HB1.out.size; simp; omega) _) q2
  have HW2 := Lib.hid hW2
  have HC2 := Lib.hid hC2
  have HB2 := Lib.hid hB2
  clear hA hW hw2 hW2 hC2 hB2 HC1 HB1
  go_wp2_with (fail)
  have HW3 := Lib.hid (HW2.out.chg ((Chg.refl (fun _ => False) w2).alloc (.cells #[.int .i64 2, .int .i64 2, .int .i64 1] 3 (0, 0))) (fun h => h) (fun _ _ h => h))
  have HB3 := Lib.hid (HB2.out.alloc HB2.out.size (.cells #[.int .i64 2, .int .i64 2, .int .i64 1] 3 (0, 0)))
  refine (cput_go (Q := fun r w' => r = true ∧ (∃ v1, Bits.WR w' w1.heap.size w.heap.size v1 ([] ++ Go.Proofs.Ytfdpgngdccdmpaa.BP.bitsV (2 : Int).toNat 3)) ∧ Below w.heap.size w w') _ _ _ _ _ [2, 2, 1] [2, 3, 0] 1 _ (lit_ints w2 3 [2, 2, 1] (by decide)) (Kd.C_alloc HC2.out _) P1.out (fun q => ?mP)).mono ?_
  case mP =>
    refine (Bits.put_yes _ _ _ _ 3 2 _ (HW3.out.chg ((Chg.refl (fun _ => False) _).drewN q) (fun h => h) (fun _ _ h => h)) (by decide) HB3.out.size (by decide)).mono ?_
    rintro e w4 ⟨rfl, v1, hW4, hC4, _⟩
    refine ⟨true, rfl, rfl, ⟨v1, hW4⟩, (below_drewN HB3.out q).trans (hC4.below (B := w.heap.size) HB3.out.size (fun k hk => ?_))⟩
    rcases hk with rfl | hk
    · exact HB1sz
    · simp [Value.ownBlock] at hk
  rintro e w4 ⟨r, rfl, HQ⟩
  obtain ⟨rfl, ⟨v1, hW4⟩, hB4⟩ := HQ.out
  have HW4 := Lib.hid hW4
  have HB4 := Lib.hid hB4
  clear hW4 hB4 HQ HW3 HB3 HW2 HB2 HC2
  go_wp2_with (fail)
  refine (Bits.bytes_any _ _ _ _ _ HW4.out).mono ?_
  rintro e w5 ⟨rfl, rfl⟩
  rw [S1.out]
  go_wp2_with (fail)
  refine (right_any _ _ _ [1, 2] _ (lit_ints w5 3 [1, 2] (by decide)) (by decide)).mono ?_
  rintro e w6 ⟨rfl, rfl⟩
  rw [R2.out]
  go_wp2_with (fail)
  have hA := lit_ints (w5.alloc (.cells #[.int .i64 1, .int .i64 2] 3 (0, 0))) 3 [1] (by decide)
  rw [show (w5.alloc (.cells #[.int .i64 1, .int .i64 2] 3 (0, 0))).heap.size = w5.heap.size + 1 by simp] at hA
  refine (right_any _ _ _ [1] _ (by exact hA) (by decide)).mono ?_
  rintro e w6 ⟨rfl, rfl⟩
  rw [R3.out]
  clear hA
  go_wp2_with (fail)
  go_ret
  exact ⟨rfl, (HB4.out.alloc HB4.out.size _).alloc (by have := HB4.out.size; simp; omega) _⟩
end Go.Proofs.Ytfdpgngdccdmpaa.Code
