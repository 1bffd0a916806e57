/- Chapter 19: a symbol's code is put; the first call. -/
import Derived.Test.YtadijdcdonommaaCode
import Derived.Test.YtadijdcdonommaaBitsUse
import Derived.Deep.RegionHeld3
namespace Go.Proofs.Ytadijdcdonommaa.Code
set_option linter.unusedVariables false
set_option linter.unusedSimpArgs false
open Go.RowKit Go.Proofs.YtadijdcdonommaaW.PrintWords Go.Proofs.YtadijdcdonommaaW.PrintMore Go.Proofs.Ytadijdcdonommaa.L Go.Proofs.Ytadijdcdonommaa.Ints Go.Proofs.Ytadijdcdonommaa.BP

/-! ### Put -/
def putOk (l cs : List Int) (s : Int) : Bool := decide (0 ≤ s ∧ s < (l.length : Int) ∧ s < (cs.length : Int) ∧ 1 ≤ l.getD s.toNat 0 ∧ l.getD s.toNat 0 ≤ 15)
set_option maxRecDepth 100000 in
set_option maxHeartbeats 1000000 in
theorem cput_no (p A B : Option Addr) (c c' : Nat) (l cs : List Int) (s : Int) (w : World) (hl : KI.C w A l.length l) (hc : KI.C w B cs.length cs) (h : putOk l cs s = false) :
    Calls Try.prog 20 #[.pointer p, .slice A l.length c, .slice B cs.length c', .int .i64 s] w fun e w' => e = .returned (.bool false) ∧ w' = w := by
  have HL := Lib.hid hl
  have HC := Lib.hid hc
  have hn : ¬ (0 ≤ s ∧ s < (l.length : Int) ∧ s < (cs.length : Int) ∧ 1 ≤ l.getD s.toNat 0 ∧ l.getD s.toNat 0 ≤ 15) := of_decide_eq_false h
  clear hl hc h
  by_cases h0 : s < 0
  · clear hn
    go_enter Try.func20, Try.ntmps20
    go_wp2_with (fail)
    all_goals (go_ret; exact ⟨rfl, rfl⟩)
  · have h00 : 0 ≤ s := by omega
    by_cases h1 : min (l.length : Int) (cs.length : Int) ≤ s
    · clear hn h0
      go_enter Try.func20, Try.ntmps20
      go_wp2_with (fail)
      all_goals (go_ret; exact ⟨rfl, rfl⟩)
    · have h10 : s < min (l.length : Int) (cs.length : Int) := by omega
      obtain ⟨k, rfl⟩ := Int.eq_ofNat_of_zero_le h00
      have hkl : k < l.length := by omega
      obtain ⟨ad, rfl, x0⟩ := ints_at HL.out k hkl
      rw [Int.toNat_natCast] at hn
      obtain ⟨x, hx⟩ : ∃ x, l.getD k 0 = x := ⟨_, rfl⟩
      rw [hx] at x0 hn
      have i1 : (k : Int) < (l.length : Int) := by omega
      have i2 : ((k : Int)).toNat = k := by omega
      clear h0 h1 hx
      by_cases hx1 : x < 1
      · clear hn
        go_enter Try.func20, Try.ntmps20
        go_wp2_with (fail)
        all_goals (go_ret; exact ⟨rfl, rfl⟩)
      · have hx2 : 15 < x := by omega
        have hx3 : 1 ≤ x := by omega
        clear hn hx1
        go_enter Try.func20, Try.ntmps20
        go_wp2_with (fail)
        all_goals (go_ret; exact ⟨rfl, rfl⟩)
set_option maxRecDepth 100000 in
set_option maxHeartbeats 1000000 in
theorem cput_go {Q : Bool → World → Prop} (p A B : Option Addr) (c c' : Nat) (l cs : List Int) (s : Int) (w : World) (hl : KI.C w A l.length l) (hc : KI.C w B cs.length cs) (h : putOk l cs s = true)
    (hput : ∀ q, Calls Try.prog 32 #[.pointer p, .int .i64 (cs.getD s.toNat 0), .int .i64 (l.getD s.toNat 0)] (w.drewN q) fun e w' => ∃ r, e = .returned (.bool r) ∧ Hid (Q r w')) :
    Calls Try.prog 20 #[.pointer p, .slice A l.length c, .slice B cs.length c', .int .i64 s] w fun e w' => ∃ r, e = .returned (.bool r) ∧ Hid (Q r w') := by
  have HL := Lib.hid hl
  have HC := Lib.hid hc
  obtain ⟨h00, h1, h2, h3, h4⟩ := of_decide_eq_true h
  obtain ⟨k, rfl⟩ := Int.eq_ofNat_of_zero_le h00
  have hmn : (k : Int) < min (l.length : Int) (cs.length : Int) := by omega
  obtain ⟨ad, rfl, x0⟩ := ints_at HL.out k (by omega)
  obtain ⟨bd, rfl, y0⟩ := ints_at HC.out k (by omega)
  rw [Int.toNat_natCast] at h3 h4 hput
  obtain ⟨x, hx⟩ : ∃ x, l.getD k 0 = x := ⟨_, rfl⟩
  obtain ⟨y, hy⟩ : ∃ y, cs.getD k 0 = y := ⟨_, rfl⟩
  rw [hx] at x0 h3 h4 hput
  rw [hy] at y0 hput
  have HPUT := Lib.hid hput
  have i2 : ((k : Int)).toNat = k := by omega
  clear hx hy hl hc hput h
  have n1 : (k : Int) < (l.length : Int) := by omega
  have n2 : (k : Int) < (cs.length : Int) := by omega
  by_cases hm : l.length ≤ cs.length
  all_goals
    go_enter Try.func20, Try.ntmps20
    go_wp2_with (fail)
    go_region_law ((go_simp; go_at_call 32; refine (HPUT.out 1).mono ?_; rintro e w1 ⟨r, rfl, HQ⟩))
    all_goals
      go_wp2_with (fail)
      go_ret
      exact ⟨_, rfl, HQ⟩

/-! ### the first call -/
end Go.Proofs.Ytadijdcdonommaa.Code
