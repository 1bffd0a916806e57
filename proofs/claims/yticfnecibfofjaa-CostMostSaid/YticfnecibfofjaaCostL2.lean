/- Chapter 12: what is more than all is more than whichever tokens, as many as there may be. -/
import Derived.Test.YticfnecibfofjaaCostL1
namespace Go.Proofs.Yticfnecibfofjaa.Cost
set_option linter.unusedVariables false
set_option linter.unusedSimpArgs false
open Go.RowKit Go.Proofs.YticfnecibfofjaaW.PrintWords Go.Proofs.YticfnecibfofjaaW.PrintMore Go.Proofs.YticfnecibfofjaaW.PrintLast Go.Proofs.Yticfnecibfofjaa.L Go.Proofs.Yticfnecibfofjaa.Ints Go.Proofs.Yticfnecibfofjaa.Fl Go.Proofs.Yticfnecibfofjaa.VariSpec Go.Proofs.Yticfnecibfofjaa.PCostBytes

set_option maxRecDepth 100000 in
set_option maxHeartbeats 1000000 in
theorem CostMost_walk (t n : Int) (w : World) (ht : (Lit.int .i64 t).wf = true) (hn : (Lit.int .i64 n).wf = true) : Calls Try.prog 12 #[.int .i64 t, .int .i64 n] w fun e w' => e = .returned (.bool true) ∧ Below w.heap.size w w' := by
  by_cases h0 : n < 0
  · go_enter Try.func12, Try.ntmps12
    go_wp2_with (go_at_call 19; refine (alive_any _).mono ?_; rintro e w' ⟨rfl, hb⟩)
    go_ret
    exact ⟨rfl, hb⟩
  · by_cases h1 : 1024 < n
    · have h00 : 0 ≤ n := by omega
      clear h0
      go_enter Try.func12, Try.ntmps12
      go_wp2_with (go_at_call 19; refine (alive_any _).mono ?_; rintro e w' ⟨rfl, hb⟩)
      go_ret
      exact ⟨rfl, hb⟩
    · obtain ⟨N, rfl⟩ := Int.eq_ofNat_of_zero_le (show 0 ≤ n by omega)
      have hN : N ≤ 1024 := by omega
      have n0 : (0 : Int) ≤ (N : Int) := by omega
      have n1 : (N : Int) ≤ 1024 := by omega
      clear h0 h1 ht hn
      go_enter Try.func12, Try.ntmps12
      go_wp2_with (fail)
      refine (alive_any _).mono ?_
      rintro e w1 ⟨rfl, hb1⟩
      have HB1 := Lib.hid hb1
      clear hb1
      go_wp2_with ((with_reducible refine gate_dst (N := 19) rfl ?_); apply stopper)
      unfold Stopper
      refine Kd.R_make KI (w0 := w1) w1.heap.size 3 rfl (N := 19) rfl 34 _ _ rfl (N : Int) rfl rfl Try.underlying34 (.int .i64 0) 8 infoInt rfl (by decide) (by omega) 0 (ok := fun _ => True) (okp := fun _ => True) ?mM (fun _ hk => hk) trivial n0 ?mL (Below.refl _ _) (Nat.le_refl _) ?_
      case mM => exact rfl
      case mL => omega
      intro v2 w2 hr2 hb2 hg2 hat2
      rw [Int.toNat_natCast] at hr2
      obtain ⟨A2, c2, rfl⟩ := Kd.R_slice hr2
      rw [List.length_replicate] at hr2 ⊢
      have HR2 := Lib.hid hr2
      have HB2 := Lib.hid hb2
      clear hr2 hb2 hg2 hat2
      go_wp2_with (fail)
      go_loopg [22] N (fun j i wr => ∃ k : Nat, k + j = N ∧ i = .int .i64 k ∧ Hid (∃ cs : List Int, cs.length = N ∧ KI.R 3 wr w1.heap.size (fun _ => True) (.slice A2 N c2) cs ∧ Below w1.heap.size w1 wr))
      case atStart => exact ⟨0, by omega, rfl, _, by rw [List.length_replicate], HR2.out, HB2.out⟩
      case round =>
        obtain ⟨k, hk, rfl, HI⟩ := hrel
        obtain ⟨cs, hcl, hcr, hcb⟩ := HI.out
        by_cases hlt : k < N
        · obtain ⟨g, cap, hv, hge, hgl, cells, hcell⟩ := Kd.R_form hcr (by rw [hcl]; omega)
          rw [hcl] at hv
          injection hv with hv1 hv2 hv3
          subst hv1 hv3
          have hr' := hcr
          rw [← hcl] at hr'
          obtain ⟨y0, y1⟩ := Kd.R_cell (enc := Value.int .i64) (h1 := fun _ => rfl) (0 : Int) hr' (k : Int) (by omega) (by rw [hcl]; omega)
          obtain ⟨p0, p1⟩ := Kd.R_put (enc := Value.int .i64) (h1 := fun _ => rfl) hr' (k : Int) t
          rw [hcl] at p0
          simp only [Int.toNat_natCast] at y0 y1 p0 p1
          have i0 : (0 : Int) ≤ k := by omega
          have i1 : (k : Int) < (N : Int) := by omega
          have i2 : ((k : Int)).toNat = k := by omega
          have P0 := Lib.hid p0
          have HCL := Lib.hid (show (cs.set k t).length = N by rw [List.length_set, hcl])
          have HBW := Lib.hid (hcb.grown p1 hcb.size (fun k hk => by
            injection hk with hk
            omega))
          have HK := Lib.hid hk
          clear hcr hr' hcb HI p0 p1 hcell hge hgl hk hcl
          go_wp2_with (fail)
          go_roundg (N - (k + 1))
          case measure => have := HK.out; omega
          case rel => exact ⟨k + 1, by have := HK.out; omega, by go_num, _, HCL.out, P0.out, HBW.out⟩
        · obtain rfl : k = N := by omega
          subst hcl
          have hcc := (Kd.R_reads' hcr).2.2
          have h1 := sumT_le cs
          have h2 := sumB_le cs
          have hbg : big = 9007199254740992 := rfl
          have b1 : sumT cs < big := by omega
          have b2 : sumB cs < big := by omega
          have b3 : 1099511627776 < big := by decide
          have l1 : lessB (sumT cs) (sumB cs) 1099511627776 1099511627776 = true := by
            unfold lessB
            rw [if_neg (by omega)]
            exact decide_eq_true (by omega)
          have l2 : lessB 1099511627776 1099511627776 (sumT cs) (sumB cs) = false := by
            unfold lessB
            rw [if_neg (by omega)]
            exact decide_eq_false (by omega)
          have l3 : lessB 1099511627776 1099511627776 1099511627776 1099511627776 = false := rfl
          have L1 := Lib.hid l1
          have L2 := Lib.hid l2
          have HC := Lib.hid hcc
          have HB := Lib.hid (Ints.bel_trans HB1.out HB1.out.size hcb)
          have hlen : cs.length ≤ 1000000 := by omega
          clear hcr hcc hcb HI hk h1 h2 hbg l1 l2
          go_wp2_with (fail)
          refine (sum_any _ _ cs _ HC.out hlen).mono ?_
          rintro e w3 ⟨rfl, hb3⟩
          have HB3 := Lib.hid (Ints.bel_trans HB.out HB.out.size hb3)
          have HC3 := Lib.hid (Kd.C_below HC.out hb3)
          clear hb3 HB HC
          go_wp2_with (fail)
          refine (most_any _).mono ?_
          rintro e w4 ⟨rfl, rfl⟩
          go_wp2_with (fail)
          refine (less_any _ _ _ _ _ b1 b2 b3 b3).mono ?_
          rintro e w5 ⟨rfl, rfl⟩
          rw [L1.out]
          go_wp2_with (fail)
          refine (most_any _).mono ?_
          rintro e w6 ⟨rfl, rfl⟩
          go_wp2_with (fail)
          refine (sum_any _ _ cs _ HC3.out hlen).mono ?_
          rintro e w7 ⟨rfl, hb7⟩
          have HB7 := Lib.hid (Ints.bel_trans HB3.out HB3.out.size hb7)
          clear hb7 HB3 HC3
          go_wp2_with (fail)
          refine (less_any _ _ _ _ _ b3 b3 b1 b2).mono ?_
          rintro e w8 ⟨rfl, rfl⟩
          rw [L2.out]
          go_wp2_with (fail)
          refine (most_any _).mono ?_
          rintro e w9 ⟨rfl, rfl⟩
          go_wp2_with (fail)
          refine (most_any _).mono ?_
          rintro e w10 ⟨rfl, rfl⟩
          go_wp2_with (fail)
          refine (less_any _ _ _ _ _ b3 b3 b3 b3).mono ?_
          rintro e w11 ⟨rfl, rfl⟩
          rw [l3]
          go_wp2_with (fail)
          go_ret
          exact ⟨rfl, HB7.out⟩
end Go.Proofs.Yticfnecibfofjaa.Cost
