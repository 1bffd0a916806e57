/- Chapter 19: no code begins another one. -/
import Derived.Test.YtfdpgngdccdmpaaCodeL1
namespace Go.Proofs.Ytfdpgngdccdmpaa.Code
set_option linter.unusedVariables false
set_option linter.unusedSimpArgs false
open Go.RowKit Go.Proofs.YtfdpgngdccdmpaaW.PrintWords Go.Proofs.YtfdpgngdccdmpaaW.PrintMore Go.Proofs.Ytfdpgngdccdmpaa.L Go.Proofs.Ytfdpgngdccdmpaa.Ints

theorem len_case (x : Int) (h : 0 ≤ x ∧ x ≤ 15) : x = 0 ∨ ∃ n : Nat, x = ((n + 1 : Nat) : Int) ∧ n + 1 ≤ 15 := by
  by_cases h0 : x = 0
  · exact .inl h0
  · exact .inr ⟨x.toNat - 1, by omega, by omega⟩
theorem u64_small (x : Int) (h0 : 0 ≤ x) (h1 : x ≤ 100000) : IntKind.u64.wrap x = x := by simp [IntKind.wrap, IntKind.bits, IntKind.signed]; omega
theorem i64_small (x : Int) (h0 : -(2 ^ 62) ≤ x) (h1 : x ≤ 2 ^ 62) : IntKind.i64.wrap x = x := by
  simp [IntKind.wrap, IntKind.bits, IntKind.signed]
  omega
theorem pow_form (n : Nat) (hn : n ≤ 15) : IntKind.i64.wrap (2 ^ min n 64) = ((2 ^ n : Nat) : Int) := by
  have h2 : (2 : Nat) ^ n ≤ 2 ^ 15 := Nat.pow_le_pow_right (by decide) hn
  have h3 : ((2 ^ n : Nat) : Int) = 2 ^ n := by simp
  rw [Nat.min_eq_left (by omega), ← h3]
  clear h3
  generalize 2 ^ n = P at *
  exact i64_small _ (by omega) (by omega)
theorem div_form (C n : Nat) (hn : n ≤ 15) : ((C : Nat) : Int) / 2 ^ min n 64 = ((C / 2 ^ n : Nat) : Int) := by
  rw [Nat.min_eq_left (by omega)]
  simp
theorem getD_mem' {l : List Int} {k : Nat} (h : k < l.length) : l.getD k 0 ∈ l := by
  rw [List.getD_eq_getElem?_getD, List.getElem?_eq_getElem h]
  exact List.getElem_mem h
set_option maxRecDepth 100000 in
set_option maxHeartbeats 4000000 in
theorem CodeFree_walk (A : Option Addr) (l : List Int) (c : Nat) (w : World) (hl : KI.C w A l.length l) (hc : l.length ≤ c) (h8 : l.length * 8 ≤ 140737488351232) (hwf : ∀ x ∈ l, (Lit.int .i64 x).wf = true) :
    Calls Try.prog 4 #[.slice A l.length c] w fun e w' => e = .returned (.bool true) ∧ Below w.heap.size w w' := by
  have HL := Lib.hid hl
  clear hl hwf
  by_cases h100 : l.length ≤ 100
  · have h100i : (l.length : Int) ≤ 100 := by omega
    go_enter Try.func4, Try.ntmps4
    go_wp2_with (fail)
    refine (alive_any _).mono ?_
    rintro e w1 ⟨rfl, hb1⟩
    have HB1 := Lib.hid hb1
    have HL1 := Lib.hid (Kd.C_below HL.out hb1)
    clear hb1
    by_cases hr : right l = 0
    · have HRG := Lib.hid (right_range hr)
      have HK := Lib.hid (right_kraft hr)
      go_wp2_with (fail)
      refine (of_ok _ _ l _ HL1.out (by omega) hr).mono ?_
      clear hr
      rintro e w2 ⟨v, rfl, hrr, hb2⟩
      obtain ⟨A2, c2, rfl⟩ := Kd.R_slice hrr
      have HC2 := Lib.hid (Kd.R_reads' hrr).2.2
      rw [codes_length] at HC2 ⊢
      have HB2 := Lib.hid (Ints.bel_trans HB1.out HB1.out.size hb2)
      have HL2 := Lib.hid (Kd.C_below HL1.out hb2)
      have e0 : ((l.length : Int) != (l.length : Int)) = false := by simp
      clear hrr hb2 HB1 HL1
      go_wp2_with (fail)
      go_loopg [32, 5] l.length (fun j i i' wr => ∃ k : Nat, k + j = l.length ∧ i = .int .i64 k ∧ ∃ q, wr = w2.drewN q)
      case atStart => exact ⟨0, by omega, rfl, 0, rfl⟩
      case round =>
        obtain ⟨i, hi, rfl, q, rfl⟩ := hrel
        by_cases hlt : i < l.length
        · obtain ⟨ad, rfl, x0⟩ := ints_at HL2.out i hlt
          obtain ⟨bd, rfl, y0⟩ := ints_at HC2.out i hlt
          rw [codes_getD l i hlt] at y0
          have i0 : (0 : Int) ≤ i := by omega
          have i1 : (i : Int) < (l.length : Int) := by omega
          have i2 : ((i : Int)).toNat = i := by omega
          have hrg := HRG.out _ (getD_mem' hlt)
          rcases len_case _ hrg with hx | ⟨n, hx, hn⟩
          · have hc0 := codeAt_none l i (by omega)
            rw [hc0] at y0
            rw [hx] at x0
            have y1 : w2.cell? (bd.add i) = some (.int .i64 0) := y0
            have HX := Lib.hid hx
            clear hc0 hrg hx y0
            go_wp2_with (fail)
            go_quiet (fail)
            go_wp2_with (fail)
            go_loopg [76] l.length (fun j k wr => ∃ k' : Nat, k' + j = l.length ∧ k = .int .i64 k' ∧ ∃ q, wr = w2.drewN q)
            case atStart => exact ⟨0, by omega, rfl, _, rfl⟩
            case round =>
              obtain ⟨k, hk, rfl, q', rfl⟩ := hrel
              by_cases hkt : k < l.length
              · have k0 : (0 : Int) ≤ k := by omega
                have k1 : (k : Int) < (l.length : Int) := by omega
                have k2 : ((k : Int)).toNat = k := by omega
                obtain ⟨ad', hA', xk0⟩ := ints_at HL2.out k hkt
                injection hA' with hA'
                subst hA'
                obtain ⟨bd', hB', yk0⟩ := ints_at HC2.out k hkt
                injection hB' with hB'
                subst hB'
                rw [codes_getD l k hkt] at yk0
                have hlt0 : decide ((0 : Int) < 0) = false := by decide
                by_cases hik : i = k
                · have e1 : ((i : Int) != (k : Int)) = false := by rw [hik]; simp
                  clear hik
                  generalize codeAt l k = Ck at yk0
                  generalize l.getD k 0 = z at xk0
                  go_wp2_with (fail)
                  go_quiet (fail)
                  go_wp2_with (fail)
                  go_roundg (l.length - (k + 1))
                  case measure => omega
                  case rel => exact ⟨k + 1, by omega, by go_num, _, rfl⟩
                · have e1 : ((i : Int) != (k : Int)) = true := bne_iff_ne.2 (by omega)
                  clear hik
                  go_wp2_with (fail)
                  go_quiet (fail)
                  go_wp2_with (fail)
                  go_roundg (l.length - (k + 1))
                  case measure => omega
                  case rel => exact ⟨k + 1, by omega, by go_num, _, rfl⟩
              · obtain rfl : k = l.length := by omega
                go_wp2_with (fail)
                go_roundg (l.length - (i + 1))
                case measure => omega
                case rel => exact ⟨i + 1, by omega, by go_num, _, rfl⟩
          · have hcb := code_bound l HK.out i n hx hn
            obtain ⟨C, hC⟩ : ∃ C, codeAt l i = C := ⟨_, rfl⟩
            rw [hC] at hcb y0
            obtain ⟨x, hxx⟩ : ∃ x, l.getD i 0 = x := ⟨_, rfl⟩
            rw [hxx] at x0 hx
            have hx1 : 0 < x := by omega
            have hx2 : (x == 0) = false := by simpa using (show ¬ x = 0 by omega)
            have hn1 : x.toNat = n + 1 := by omega
            have g1 : IntKind.u64.wrap x = x := u64_small _ (by omega) (by omega)
            have g2 := pow_form (n + 1) hn
            obtain ⟨P, hP⟩ : ∃ P, 2 ^ (n + 1) = P := ⟨_, rfl⟩
            rw [hP] at g2 hcb
            rw [← hn1] at g2
            have g0 : (0 : Int) ≤ x := by omega
            have g3 : (C : Int) < (P : Int) := by omega
            have g4 : (0 : Int) ≤ (C : Int) := by omega
            have g5 : decide ((C : Int) < 0) = false := decide_eq_false (by omega)
            have g6 : decide ((P : Int) ≤ (C : Int)) = false := decide_eq_false (by omega)
            have g7 : decide (P ≤ C) = false := decide_eq_false (by omega)
            have HX := Lib.hid hx
            have HXX := Lib.hid hxx
            have HC := Lib.hid hC
            clear hrg hx hxx hC hn1 hP hcb
            go_wp2_with (fail)
            go_quiet (fail)
            go_wp2_with (fail)
            go_loopg [76] l.length (fun j k wr => ∃ k' : Nat, k' + j = l.length ∧ k = .int .i64 k' ∧ ∃ q, wr = w2.drewN q)
            case atStart => exact ⟨0, by omega, rfl, _, rfl⟩
            case round =>
              obtain ⟨k, hk, rfl, q', rfl⟩ := hrel
              by_cases hkt : k < l.length
              · have k0 : (0 : Int) ≤ k := by omega
                have k1 : (k : Int) < (l.length : Int) := by omega
                have k2 : ((k : Int)).toNat = k := by omega
                obtain ⟨ad', hA', xk0⟩ := ints_at HL2.out k hkt
                injection hA' with hA'
                subst hA'
                obtain ⟨bd', hB', yk0⟩ := ints_at HC2.out k hkt
                injection hB' with hB'
                subst hB'
                rw [codes_getD l k hkt] at yk0
                by_cases hik : i = k
                · have e1 : ((i : Int) != (k : Int)) = false := by rw [hik]; simp
                  clear hik
                  generalize codeAt l k = Ck at yk0
                  generalize l.getD k 0 = z at xk0
                  go_wp2_with (fail)
                  go_quiet (fail)
                  go_wp2_with (fail)
                  go_roundg (l.length - (k + 1))
                  case measure => omega
                  case rel => exact ⟨k + 1, by omega, by go_num, _, rfl⟩
                · have e1 : ((i : Int) != (k : Int)) = true := bne_iff_ne.2 (by omega)
                  have hrk := HRG.out _ (getD_mem' hkt)
                  obtain ⟨z, hzz⟩ : ∃ z, l.getD k 0 = z := ⟨_, rfl⟩
                  rw [hzz] at xk0 hrk
                  by_cases hzx : z < x
                  · have hd1 : decide (x ≤ z) = false := decide_eq_false (by omega)
                    clear hik hrk hzz
                    generalize codeAt l k = Ck at yk0
                    go_wp2_with (fail)
                    go_quiet (fail)
                    go_wp2_with (fail)
                    go_roundg (l.length - (k + 1))
                    case measure => omega
                    case rel => exact ⟨k + 1, by omega, by go_num, _, rfl⟩
                  · obtain ⟨d, hd⟩ : ∃ d : Nat, z - x = d := ⟨(z - x).toNat, by omega⟩
                    have hfr := code_free l i k n d (by rw [HXX.out]; exact HX.out) (by rw [hzz]; have := HX.out; omega) (by have := HX.out; omega) hik
                    rw [HC.out] at hfr
                    obtain ⟨Ck, hCk⟩ : ∃ Ck, codeAt l k = Ck := ⟨_, rfl⟩
                    rw [hCk] at yk0 hfr
                    have hd15 : d ≤ 15 := by omega
                    have hzx2 : x ≤ z := by omega
                    have hd1 : decide (x ≤ z) = true := decide_eq_true hzx2
                    have f1 : IntKind.i64.wrap (z - x) = (d : Int) := by rw [hd]; exact i64_small _ (by omega) (by omega)
                    have f2 : IntKind.u64.wrap (d : Int) = (d : Int) := u64_small _ (by omega) (by omega)
                    have f3 := div_form Ck d hd15
                    obtain ⟨Z, hZ⟩ : ∃ Z, Ck / 2 ^ d = Z := ⟨_, rfl⟩
                    rw [hZ] at f3 hfr
                    have f4 : ((Z : Int) == (C : Int)) = false := by simpa using (show ¬ (Z : Int) = (C : Int) by omega)
                    have f5 : ((d : Int)).toNat = d := by omega
                    have f6 : (0 : Int) ≤ (d : Int) := by omega
                    clear hik hrk hzz hzx hd hfr hCk hZ hd15
                    go_wp2_with (fail)
                    go_quiet (fail)
                    go_wp2_with (fail)
                    go_roundg (l.length - (k + 1))
                    case measure => omega
                    case rel => exact ⟨k + 1, by omega, by go_num, _, rfl⟩
              · obtain rfl : k = l.length := by omega
                go_wp2_with (fail)
                go_roundg (l.length - (i + 1))
                case measure => omega
                case rel => exact ⟨i + 1, by omega, by go_num, _, rfl⟩
        · obtain rfl : i = l.length := by omega
          go_wp2_with (fail)
          go_ret
          exact ⟨rfl, below_drewN HB2.out _⟩
    · go_wp2_with (fail)
      refine (of_no _ _ l _ HL1.out (by omega) hr).mono ?_
      rintro e w2 ⟨rfl, rfl⟩
      have hne : (right l != 0) = true := bne_iff_ne.2 hr
      clear hr
      generalize right l = r at *
      go_wp2_with (fail)
      go_ret
      exact ⟨rfl, HB1.out⟩
  · have h100i : (100 : Int) < (l.length : Int) := by omega
    clear h100
    go_enter Try.func4, Try.ntmps4
    go_wp2_with (go_at_call 10; refine (alive_any _).mono ?_; rintro e w' ⟨rfl, hb⟩)
    go_ret
    exact ⟨rfl, hb⟩
end Go.Proofs.Ytfdpgngdccdmpaa.Code
