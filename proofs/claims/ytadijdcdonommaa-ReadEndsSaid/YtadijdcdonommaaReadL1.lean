/- Chapter 21: the first call; as many symbols have codes as have lengths, and the longest is told. -/
import Derived.Test.YtadijdcdonommaaRefNext
namespace Go.Proofs.Ytadijdcdonommaa.Read
set_option linter.unusedVariables false
set_option linter.unusedSimpArgs false
open Go.RowKit Go.Proofs.YtadijdcdonommaaW.PrintWords Go.Proofs.YtadijdcdonommaaW.PrintMore Go.Proofs.Ytadijdcdonommaa.L Go.Proofs.Ytadijdcdonommaa.Ints Go.Proofs.Ytadijdcdonommaa.Code Go.Proofs.Ytadijdcdonommaa.BP Go.Proofs.Ytadijdcdonommaa.Bits

set_option maxRecDepth 100000 in
set_option maxHeartbeats 1000000 in
theorem alive_any (w : World) : Calls Try.prog 9 #[] w fun e w' => e = .returned (.bool true) ∧ Below w.heap.size w w' := by
  have hr1 : right [2, 2, 1] = 0 := by decide +kernel
  have R1 := Lib.hid hr1
  have N1 := Lib.hid (show next [2, 2, 1] (rem ⟨#[128]⟩ 0) = (0, 0, 2) by decide +kernel)
  have U1 := Lib.hid (show used [2, 2, 1] = 3 by decide +kernel)
  have M1 := Lib.hid (show most [2, 2, 1] = 2 by decide +kernel)
  clear hr1
  go_enter Try.func9, Try.ntmps9
  go_wp2_with (fail)
  refine (new_ok _ _ [2, 2, 1] _ (lit_ints w 3 [2, 2, 1] (by decide)) (by decide) R1.out).mono ?_
  rintro e w1 ⟨b, rfl, ht, hb⟩
  have HT := Lib.hid ht
  have HB := Lib.hid (Ints.bel_trans ((Below.refl w.heap.size w).alloc (Nat.le_refl _) (.cells #[.int .i64 2, .int .i64 2, .int .i64 1] 3 (0, 0))) (by simp) hb)
  clear ht hb
  go_wp2_with (fail)
  refine (newReader ⟨#[128]⟩ _ (by decide)).mono ?_
  rintro e w2 ⟨rfl, rfl⟩
  have HR := Lib.hid (rr_new ⟨#[128]⟩ w1 (by decide))
  have HT2 := Lib.hid (HT.out.below ((Below.refl w1.heap.size w1).alloc (Nat.le_refl _) (.cells #[.string ⟨#[128]⟩, .int .i64 0] 60 (0, 0))))
  have HB2 := Lib.hid (HB.out.alloc HB.out.size (.cells #[.string ⟨#[128]⟩, .int .i64 0] 60 (0, 0)))
  clear HT
  go_wp2_with (fail)
  refine (next_any b w1.heap.size 0 ⟨#[128]⟩ [2, 2, 1] _ HT2.out HR.out (by decide) R1.out).mono ?_
  rintro e w3 ⟨rfl, hr3, hc3⟩
  have HT3 := Lib.hid (RR.tab HT2.out hc3 HR.out)
  have HB3 := Lib.hid (HB2.out.trans (hc3.below (B := w.heap.size) HB2.out.size (fun k hk => by have := HB.out.size; omega)))
  rw [N1.out] at hr3 ⊢
  have HR3 := Lib.hid hr3
  clear hr3 hc3 HB2 HT2 HR HB
  go_wp2_with (fail)
  refine (left_eq _ _ 6 _ _ HR3.out (by decide)).mono ?_
  rintro e w4 ⟨rfl, q, rfl⟩
  go_wp2_with (fail)
  refine (tlen_any _ _ _ (HT3.out.drewN q)).mono ?_
  rintro e w5 ⟨rfl, rfl⟩
  rw [U1.out]
  go_wp2_with (fail)
  refine (tmost_any _ _ _ (HT3.out.drewN q)).mono ?_
  rintro e w5 ⟨rfl, rfl⟩
  rw [M1.out]
  go_wp2_with (fail)
  go_ret
  exact ⟨rfl, below_drewN HB3.out q⟩

set_option maxRecDepth 100000 in
set_option maxHeartbeats 1000000 in
theorem ReadLens_walk (A : Option Addr) (l : List Int) (c : Nat) (w : World) (hl : KI.C w A l.length l) (hlc : l.length ≤ c) (h8 : l.length * 8 ≤ 140737488351232) (hlw : ∀ x ∈ l, (Lit.int .i64 x).wf = true) :
    Calls Try.prog 5 #[.slice A l.length c] w fun e w' => e = .returned (.bool true) ∧ Below w.heap.size w w' := by
  have HL := Lib.hid hl
  clear hl hlc hlw
  by_cases h300 : l.length ≤ 300
  · have h3i : (l.length : Int) ≤ 300 := by omega
    by_cases hr : right l = 0
    · have HR := Lib.hid hr
      have HRG := Lib.hid (right_range hr)
      clear hr
      go_enter Try.func5, Try.ntmps5
      go_wp2_with (fail)
      refine (alive_any _).mono ?_
      rintro e w1 ⟨rfl, hb1⟩
      have HB1 := Lib.hid hb1
      clear hb1
      go_wp2_with (fail)
      refine (new_ok _ _ l _ (Kd.C_below HL.out HB1.out) (by omega) HR.out).mono ?_
      rintro e w2 ⟨b, rfl, ht, hb2⟩
      have HT := Lib.hid ht
      have HB2 := Lib.hid (Ints.bel_trans HB1.out HB1.out.size hb2)
      clear ht hb2 HB1
      go_wp2_with (fail)
      refine (right_any _ _ _ l _ (Kd.C_below HL.out HB2.out) h8).mono ?_
      rintro e w3 ⟨rfl, rfl⟩
      rw [HR.out]
      have HL3 := Lib.hid (Kd.C_below HL.out HB2.out)
      go_wp2_with (fail)
      go_loopg [5, 6, 37] l.length (fun j n m i wr => ∃ k : Nat, k + j = l.length ∧ i = .int .i64 k ∧ n = .int .i64 (used (l.take k) : Nat) ∧ m = .int .i64 (most (l.take k) : Nat) ∧ wr = w3)
      case atStart => exact ⟨0, by omega, rfl, rfl, rfl, rfl⟩
      case round =>
        obtain ⟨k, hk, rfl, rfl, rfl, rfl⟩ := hrel
        by_cases hlt : k < l.length
        · obtain ⟨ad, rfl, x0⟩ := ints_at HL3.out k hlt
          have hn := used_take_succ l k hlt
          have hm := most_pos l k hlt (fun x hx => (HRG.out x hx).1)
          obtain ⟨x, hx⟩ : ∃ x, l.getD k 0 = x := ⟨_, rfl⟩
          rw [hx] at x0 hn hm
          have h1 := used_le (l.take k)
          have h3 := List.length_take_le k l
          obtain ⟨S, hS⟩ : ∃ S, used (l.take k) = S := ⟨_, rfl⟩
          rw [hS] at hn h1 ⊢
          have hs2 : (S : Int) ≤ 400 := by omega
          have i0 : (0 : Int) ≤ k := by omega
          have i1 : (k : Int) < (l.length : Int) := by omega
          have i2 : ((k : Int)).toNat = k := by omega
          have HN := Lib.hid hn
          have HM := Lib.hid hm
          have HK := Lib.hid hk
          clear hn hm h1 h3 hx hS hk
          by_cases hp : 0 < x
          · have HP := Lib.hid hp
            go_wp2_with (fail)
            all_goals
              go_roundg (l.length - (k + 1))
              case measure => have := HK.out; omega
              case rel => exact ⟨k + 1, by have := HK.out; omega, by go_num, by rw [HN.out, if_pos HP.out]; go_num, by rw [← HM.out]; refine congrArg (Value.int .i64) ?_; omega, rfl⟩
          · have HP := Lib.hid hp
            have hp2 : x ≤ 0 := by omega
            clear hp
            go_wp2_with (fail)
            all_goals
              go_roundg (l.length - (k + 1))
              case measure => have := HK.out; omega
              case rel => exact ⟨k + 1, by have := HK.out; omega, by go_num, by rw [HN.out, if_neg (by have := HP.out; omega)]; rfl, by rw [← HM.out]; refine congrArg (Value.int .i64) ?_; omega, rfl⟩
        · obtain rfl : k = l.length := by omega
          rw [List.take_length]
          have hul := used_le l
          obtain ⟨S, hS⟩ : ∃ S, used l = S := ⟨_, rfl⟩
          obtain ⟨M, hM⟩ : ∃ M, most l = M := ⟨_, rfl⟩
          have HS := Lib.hid hS
          have HM := Lib.hid hM
          rw [hS, hM]
          have e1 : ((S : Int) == (S : Int)) = true := by simp
          have e2 : ((M : Int) == (M : Int)) = true := by simp
          clear hS hM hul hk
          go_wp2_with (fail)
          refine (tlen_any _ _ _ HT.out).mono ?_
          rintro e w5 ⟨rfl, rfl⟩
          rw [HS.out]
          go_wp2_with (fail)
          refine (tmost_any _ _ _ HT.out).mono ?_
          rintro e w5 ⟨rfl, rfl⟩
          rw [HM.out]
          go_wp2_with (fail)
          go_ret
          exact ⟨rfl, HB2.out⟩
    · have HR := Lib.hid hr
      have hne : (right l == 0) = false := beq_eq_false_iff_ne.2 hr
      have heq : (right l != right l) = false := by simp
      obtain ⟨r, hR⟩ : ∃ r, right l = r := ⟨_, rfl⟩
      have HRR := Lib.hid hR
      rw [hR] at hne heq
      clear hr hR
      go_enter Try.func5, Try.ntmps5
      go_wp2_with (fail)
      refine (alive_any _).mono ?_
      rintro e w1 ⟨rfl, hb1⟩
      have HB1 := Lib.hid hb1
      clear hb1
      go_wp2_with (fail)
      refine (new_no _ _ l _ (Kd.C_below HL.out HB1.out) (by omega) HR.out).mono ?_
      rintro e w2 ⟨rfl, rfl⟩
      rw [HRR.out]
      go_wp2_with (fail)
      refine (right_any _ _ _ l _ (Kd.C_below HL.out HB1.out) h8).mono ?_
      rintro e w3 ⟨rfl, rfl⟩
      rw [HRR.out]
      go_wp2_with (fail)
      go_ret
      exact ⟨rfl, HB1.out⟩
  · have h3i : (300 : Int) < (l.length : Int) := by omega
    go_enter Try.func5, Try.ntmps5
    go_wp2_with (go_at_call 9; refine (alive_any _).mono ?_; rintro e w' ⟨rfl, hb⟩)
    go_ret
    exact ⟨rfl, hb⟩
end Go.Proofs.Ytadijdcdonommaa.Read
