/- Chapter 19: one symbol more, or one that is longer, or shorter, and the lengths may not be any more. -/
import Derived.Test.YtfdpgngdccdmpaaCodeL4
namespace Go.Proofs.Ytfdpgngdccdmpaa.Code
set_option linter.unusedVariables false
set_option linter.unusedSimpArgs false
open Go.RowKit Go.Proofs.YtfdpgngdccdmpaaW.PrintWords Go.Proofs.YtfdpgngdccdmpaaW.PrintMore Go.Proofs.Ytfdpgngdccdmpaa.L Go.Proofs.Ytfdpgngdccdmpaa.Ints

theorem kraft_set : ∀ (l : List Int) (k : Nat) (y : Int), k < l.length → kraft (l.set k y) + term (l.getD k 0) = kraft l + term y
  | [], k, _, h => by simp at h
  | x :: l, 0, y, _ => by
    show term y + kraft l + term x = term x + kraft l + term y
    omega
  | x :: l, k + 1, y, h => by
    have := kraft_set l k y (by simpa using h)
    rw [List.set_cons_succ, List.getD_cons_succ]
    show term x + kraft (l.set k y) + term (l.getD k 0) = term x + kraft l + term y
    omega
theorem term_inj (x y : Int) (hx : 0 ≤ x ∧ x ≤ 15) (hy : 0 ≤ y ∧ y ≤ 15) (h : term x = term y) : x = y := by
  unfold term at h
  by_cases h0 : 1 ≤ x ∧ x ≤ 15
  · by_cases h1 : 1 ≤ y ∧ y ≤ 15
    · rw [if_pos h0, if_pos h1] at h
      have := (Nat.pow_right_inj (by decide : 1 < 2)).1 h
      omega
    · rw [if_pos h0, if_neg h1] at h
      have := Nat.two_pow_pos (15 - x.toNat)
      omega
  · by_cases h1 : 1 ≤ y ∧ y ≤ 15
    · rw [if_neg h0, if_pos h1] at h
      have := Nat.two_pow_pos (15 - y.toNat)
      omega
    · omega
/-- Other lengths: the answers of the law. -/
theorem kraft_law (l : List Int) (k : Nat) (y : Int) (hk : k < l.length) (hr : right l = 0) (hkr : kraft l = 32768) (hy : 0 ≤ y ∧ y ≤ 15) (hne : y ≠ l.getD k 0) :
    right (l.set k y) = 8 ∨ (right (l.set k y) ≠ 8 ∧ alone (l.set k y) = true) := by
  have hx := right_range hr _ (getD_mem' hk)
  have h1 := kraft_set l k y hk
  have h2 : kraft (l.set k y) ≠ 32768 := by
    intro e
    rw [e, hkr] at h1
    exact hne (term_inj y _ hy hx (by omega))
  have hw : ¬ wrong (l.set k y) = true := by
    unfold wrong
    rw [List.any_eq_true]
    rintro ⟨z, hz, hz2⟩
    rw [Bool.or_eq_true, decide_eq_true_eq, decide_eq_true_eq] at hz2
    rcases List.mem_or_eq_of_mem_set hz with h | rfl
    · have := right_range hr z h
      omega
    · omega
  unfold right
  rw [if_neg hw]
  cases ha : alone (l.set k y)
  · left
    rw [if_neg (by rintro (h | h); exact h2 h; cases h)]
  · right
    rw [if_pos (.inr rfl)]
    exact ⟨by decide, rfl⟩
set_option maxRecDepth 100000 in
set_option maxHeartbeats 4000000 in
theorem CodeKraft_walk (A : Option Addr) (l : List Int) (c : Nat) (v by_ : Int) (w : World) (hl : KI.C w A l.length l) (hc : l.length ≤ c) (h8 : l.length * 8 ≤ 140737488351232) (hwf : ∀ x ∈ l, (Lit.int .i64 x).wf = true) (hv : (Lit.int .i64 v).wf = true) (hby : (Lit.int .i64 by_).wf = true) :
    Calls Try.prog 6 #[.slice A l.length c, .int .i64 v, .int .i64 by_] w fun e w' => e = .returned (.bool true) ∧ Below w.heap.size w w' := by
  have HL := Lib.hid hl
  have hvr : -(2 ^ 63) ≤ v ∧ v < 2 ^ 63 := by
    simp [Lit.wf, IntKind.min, IntKind.max, IntKind.signed, IntKind.bits] at hv
    omega
  have hbr : -(2 ^ 63) ≤ by_ ∧ by_ < 2 ^ 63 := by
    simp [Lit.wf, IntKind.min, IntKind.max, IntKind.signed, IntKind.bits] at hby
    omega
  obtain ⟨hv1, hv2⟩ := hvr
  obtain ⟨hb1, hb2⟩ := hbr
  clear hl hwf hv hby
  by_cases hg : 2 ≤ l.length ∧ l.length ≤ 100
  · obtain ⟨g1, g2⟩ := hg
    have g1i : (2 : Int) ≤ (l.length : Int) := by omega
    have g2i : (l.length : Int) ≤ 100 := by omega
    go_enter Try.func6, Try.ntmps6
    go_wp2_with (fail)
    refine (right_any _ _ _ l _ HL.out h8).mono ?_
    rintro e w1 ⟨rfl, rfl⟩
    by_cases hr : right l = 0
    · rw [hr]
      have HR := Lib.hid hr
      clear hr
      go_wp2_with (fail)
      refine (kraft_any _ _ _ l _ HL.out h8).mono ?_
      rintro e w1 ⟨rfl, rfl⟩
      by_cases hk : kraft l = 32768
      · rw [hk]
        have HK := Lib.hid hk
        clear hk
        go_wp2_with (fail)
        refine (alive_any _).mono ?_
        rintro e w2 ⟨rfl, hb⟩
        have HB := Lib.hid hb
        have HL2 := Lib.hid (Kd.C_below HL.out hb)
        have hlp : (0 : Int) < (l.length : Int) := by omega
        have hlne : (l.length : Int) ≠ 0 := by omega
        have hlow : -(l.length : Int) < v.tmod (l.length : Int) := by
          by_cases h : 0 ≤ v
          · have := Int.tmod_nonneg (l.length : Int) h
            omega
          · have h1 := Int.tmod_lt_of_pos (-v) hlp
            rw [Int.neg_tmod] at h1
            omega
        have hhigh := Int.tmod_lt_of_pos v hlp
        obtain ⟨k, hkv, hkl⟩ : ∃ k : Nat, (v.tmod (l.length : Int) + (l.length : Int)).tmod (l.length : Int) = (k : Int) ∧ k < l.length := by
          have h1 := Int.tmod_nonneg (l.length : Int) (show 0 ≤ v.tmod (l.length : Int) + (l.length : Int) by omega)
          have h2 := Int.tmod_lt_of_pos (v.tmod (l.length : Int) + (l.length : Int)) hlp
          exact ⟨((v.tmod (l.length : Int) + (l.length : Int)).tmod (l.length : Int)).toNat, by omega, by omega⟩
        have hw64 : wrap64 (v.tmod (l.length : Int) + (l.length : Int)) = v.tmod (l.length : Int) + (l.length : Int) := by
          unfold wrap64
          omega
        clear hb hlow hhigh
        go_wp2_with (((with_reducible refine gate_builtin (b := .append) (xs := #[.const (.slice none 0 0), .tmp 42]) rfl ?_); at_builtin; apply stopper))
        unfold Stopper
        refine Kd.R_append_row (Value.int .i64) 0 (h1 := fun _ => rfl) (w0 := w2) w2.heap.size rfl (.const (.slice none 0 0)) (.tmp 42) 22 3 (.int .i64 0) 8 rfl Try.underlying22 infoInt rfl (by decide) (.slice none 0 0) [] l A l.length c (fun _ => True) rfl rfl (fun _ _ => trivial) (Kd.R_nil _ _ _ _ _) HL2.out (Below.refl _ _) (Nat.le_refl _) (by simp; omega) ?_
        intro v3 w3 ho hb3 hg3 hat3
        rw [List.nil_append] at ho
        obtain ⟨g, cap, rfl, hge, hgl, cells, hcell⟩ := Kd.R_form ho (by omega)
        obtain ⟨y0, y1⟩ := Kd.R_cell (enc := Value.int .i64) (h1 := fun _ => rfl) (0 : Int) ho (k : Int) (by omega) (by omega)
        have hx := right_range HR.out _ (getD_mem' hkl)
        have hkl2 := fun y => kraft_law l k y hkl HR.out HK.out
        obtain ⟨x, hxx⟩ : ∃ x, l.getD k 0 = x := ⟨_, rfl⟩
        rw [hxx] at hx hkl2
        have y2 : w3.cell? ⟨g, k, none⟩ = some (.int .i64 x) := by
          have := y0
          rw [Int.toNat_natCast] at this
          rw [this, ← hxx]
          rfl
        rw [Int.toNat_natCast] at y1
        obtain ⟨y, hy⟩ : ∃ y, wrap64 (x + by_) = y := ⟨_, rfl⟩
        obtain ⟨p0, p1⟩ := Kd.R_put (enc := Value.int .i64) (h1 := fun _ => rfl) ho (k : Int) y
        rw [Int.toNat_natCast] at p0 p1
        have i1 : (k : Int) < (l.length : Int) := by omega
        have i0 : (0 : Int) ≤ k := by omega
        have i2 : ((k : Int)).toNat = k := by omega
        have q0 : (w3.setCell ⟨g, k, none⟩ (.int .i64 y)).cell? ⟨g, k, none⟩ = some (.int .i64 y) := by
          obtain ⟨q0, _⟩ := Kd.R_celln (enc := Value.int .i64) (h1 := fun _ => rfl) (0 : Int) p0 (k : Int) (by omega) (by omega)
          rw [Int.toNat_natCast] at q0
          rw [q0]
          unfold rdOf
          rw [Int.toNat_natCast, List.getD_eq_getElem?_getD, List.getElem?_set_self hkl]
          rfl
        have HP0 := Lib.hid p0
        have HBF := Lib.hid (show Below w1.heap.size w1 (w3.setCell ⟨g, k, none⟩ (.int .i64 y)) from (HB.out.trans ⟨hb3.os, hb3.tape, hb3.output, hb3.size, fun i hi => hb3.block i (by have := HB.out.size; omega)⟩).setCell (p := ⟨g, k, none⟩) (by have := HB.out.size; show w1.heap.size ≤ g; omega) (.int .i64 y))
        have HXX := Lib.hid hxx
        have HKL2 := Lib.hid hkl2
        have HY := Lib.hid hy
        clear ho hb3 hg3 hat3 hcell hge hgl y0 p0 p1 hkl2 hxx hkv hw64
        by_cases hcond : by_ = 0 ∨ y < 0 ∨ 15 < y ∨ 15 < by_ ∨ by_ < -15
        · have HCO := Lib.hid hcond
          clear hcond
          go_wp2_with (fail)
          all_goals first
            | (go_ret; exact ⟨rfl, HBF.out⟩)
            | (exfalso; have h9 := HCO.out; simp_all; omega)
        · have c1' : (by_ == 0) = false := by simpa using (show ¬ by_ = 0 by omega)
          have c2' : 0 ≤ y := by omega
          have c3' : y ≤ 15 := by omega
          have c4' : by_ ≤ 15 := by omega
          have c5' : -15 ≤ by_ := by omega
          obtain rfl : y = x + by_ := by
            have := HY.out
            unfold wrap64 at this
            omega
          have hyx : x + by_ ≠ x := by omega
          have HC4 := Lib.hid (show KI.C (w3.setCell ⟨g, k, none⟩ (.int .i64 (x + by_))) (some ⟨g, 0, none⟩) l.length (l.set k (x + by_)) by
            have := (Kd.R_reads' HP0.out).2.2
            rw [List.length_set] at this
            exact this)
          rcases HKL2.out (x + by_) ⟨c2', c3'⟩ hyx with h8' | ⟨hn8, hal⟩
          · have H8 := Lib.hid h8'
            clear hcond h8' hyx
            go_wp2_with (fail)
            clear hy y2 y1
            generalize w3.setCell ⟨g, k, none⟩ (.int .i64 (x + by_)) = w4 at *
            refine (right_any _ _ _ (l.set k (x + by_)) _ HC4.out h8).mono ?_
            rintro e w5 ⟨rfl, rfl⟩
            rw [H8.out]
            go_wp2_with (fail)
            go_ret
            exact ⟨rfl, HBF.out⟩
          · have hn8' : (right (l.set k (x + by_)) == 8) = false := by simpa using hn8
            have HAL := Lib.hid hal
            obtain ⟨K2, hK2⟩ : ∃ K2, kraft (l.set k (x + by_)) = K2 := ⟨_, rfl⟩
            obtain ⟨R2, hR2⟩ : ∃ R2, right (l.set k (x + by_)) = R2 := ⟨_, rfl⟩
            rw [hR2] at hn8'
            have HK2 := Lib.hid hK2
            have HR2 := Lib.hid hR2
            clear hcond hn8 hal hyx hK2 hR2
            go_wp2_with (fail)
            clear hy y2 y1
            generalize w3.setCell ⟨g, k, none⟩ (.int .i64 (x + by_)) = w4 at *
            refine (right_any _ _ _ (l.set k (x + by_)) _ HC4.out h8).mono ?_
            rintro e w5 ⟨rfl, rfl⟩
            rw [HR2.out]
            go_wp2_with (fail)
            refine (kraft_any _ _ _ (l.set k (x + by_)) _ HC4.out h8).mono ?_
            rintro e w5 ⟨rfl, rfl⟩
            rw [HK2.out]
            by_cases hk0 : K2 = 0
            · subst hk0
              go_wp2_with (fail)
              go_ret
              exact ⟨rfl, HBF.out⟩
            · have hk1 : ((K2 : Int) == 0) = false := by simpa using (show ¬ (K2 : Int) = 0 by omega)
              clear hk0
              go_wp2_with (fail)
              refine (one_any _ _ _ (l.set k (x + by_)) _ HC4.out).mono ?_
              rintro e w5 ⟨rfl, rfl⟩
              rw [HAL.out]
              go_wp2_with (fail)
              go_ret
              exact ⟨rfl, HBF.out⟩
      · have hk1 : (((kraft l : Nat) : Int) != 32768) = true := bne_iff_ne.2 (by omega)
        clear hk
        generalize kraft l = K at *
        go_wp2_with (go_at_call 10; refine (alive_any _).mono ?_; rintro e w' ⟨rfl, hb⟩)
        go_ret
        exact ⟨rfl, hb⟩
    · have hr1 : (right l != 0) = true := bne_iff_ne.2 hr
      clear hr
      generalize right l = R at *
      go_wp2_with (go_at_call 10; refine (alive_any _).mono ?_; rintro e w' ⟨rfl, hb⟩)
      go_ret
      exact ⟨rfl, hb⟩
  · by_cases g1 : l.length < 2
    · have g1i : (l.length : Int) < 2 := by omega
      clear hg
      go_enter Try.func6, Try.ntmps6
      go_wp2_with (go_at_call 10; refine (alive_any _).mono ?_; rintro e w' ⟨rfl, hb⟩)
      go_ret
      exact ⟨rfl, hb⟩
    · have g1i : (2 : Int) ≤ (l.length : Int) := by omega
      have g2i : (100 : Int) < (l.length : Int) := by omega
      clear hg g1
      go_enter Try.func6, Try.ntmps6
      go_wp2_with (go_at_call 10; refine (alive_any _).mono ?_; rintro e w' ⟨rfl, hb⟩)
      go_ret
      exact ⟨rfl, hb⟩
end Go.Proofs.Ytfdpgngdccdmpaa.Code
