/- Chapter 19: of every lengths: whether they may be; the codes; what is handed in stays; lists kept, marked, grown. -/
import Derived.Test.YtfdpgngdccdmpaaRefCode
import Derived.Test.YtfdpgngdccdmpaaBookApart
namespace Go.Proofs.Ytfdpgngdccdmpaa.Code
set_option linter.unusedVariables false
set_option linter.unusedSimpArgs false
open Go.RowKit Go.Proofs.YtfdpgngdccdmpaaW.PrintWords Go.Proofs.YtfdpgngdccdmpaaW.PrintMore Go.Proofs.Ytfdpgngdccdmpaa.L Go.Proofs.Ytfdpgngdccdmpaa.Ints Go.Proofs.Ytfdpgngdccdmpaa.Book

/-- The codes, or none. -/
def codesOr (l : List Int) : List Int := if right l = 0 then codes l else []
theorem codesOr_len (l : List Int) : (codesOr l).length ≤ l.length := by
  unfold codesOr
  split
  · rw [codes_length]; exact Nat.le_refl _
  · exact Nat.zero_le _
theorem of_any (A : Option Addr) (c : Nat) (l : List Int) (w : World) (hh : KI.C w A l.length l) (hl : l.length ≤ 100000) :
    Calls Try.prog 12 #[.slice A l.length c] w fun e w' => ∃ v, e = .returned (.tuple #[v, .int .i64 (right l)]) ∧ KI.R 3 w' w.heap.size (fun _ => True) v (codesOr l) ∧ Below w.heap.size w w' := by
  by_cases h : right l = 0
  · refine (of_ok A c l w hh hl h).mono ?_
    rintro e w1 ⟨v, rfl, hr, hb⟩
    exact ⟨v, by rw [h], by unfold codesOr; rw [if_pos h]; exact hr, hb⟩
  · refine (of_no A c l w hh hl h).mono ?_
    rintro e w1 ⟨rfl, rfl⟩
    exact ⟨_, rfl, by unfold codesOr; rw [if_neg h]; exact Kd.R_nil _ _ _ _ _, Below.refl _ _⟩
theorem ref_codes (A : Option Addr) (c : Nat) (l : List Int) (w : World) (hh : KI.C w A l.length l) (hl : l.length ≤ 100000) :
    Calls Try.prog 13 #[.slice A l.length c] w fun e w' => ∃ v, e = .returned (.tuple #[v, .int .i64 (right l)]) ∧ KI.R 3 w' w.heap.size (fun _ => True) v (codesOr l) ∧ Below w.heap.size w w' := by
  by_cases h : right l = 0
  · refine (ref_codes_ok A c l w hh hl h).mono ?_
    rintro e w1 ⟨v, rfl, hr, hb⟩
    exact ⟨v, by rw [h], by unfold codesOr; rw [if_pos h]; exact hr, hb⟩
  · refine (ref_codes_no A c l w hh hl h).mono ?_
    rintro e w1 ⟨rfl, rfl⟩
    exact ⟨_, rfl, by unfold codesOr; rw [if_neg h]; exact Kd.R_nil _ _ _ _ _, Below.refl _ _⟩
set_option maxRecDepth 100000 in
set_option maxHeartbeats 4000000 in
theorem CodeTells_walk (A : Option Addr) (l : List Int) (c : Nat) (w : World) (hl : KI.C w A l.length l) (hc : l.length ≤ c) (h8 : l.length * 8 ≤ 140737488351232) (hwf : ∀ x ∈ l, (Lit.int .i64 x).wf = true) :
    Calls Try.prog 3 #[.slice A l.length c] w fun e w' => e = .returned (.bool true) ∧ Below w.heap.size w w' := by
  have HL := Lib.hid hl
  clear hl hwf
  by_cases h400 : l.length ≤ 400
  · have h400i : (l.length : Int) ≤ 400 := by omega
    go_enter Try.func3, Try.ntmps3
    go_wp2_with (fail)
    refine (alive_any _).mono ?_
    rintro e w1 ⟨rfl, hb1⟩
    have HB1 := Lib.hid hb1
    have HL1 := Lib.hid (Kd.C_below HL.out hb1)
    clear hb1
    go_wp2_with (fail)
    refine (lent_ints _ _ _ l _ HL1.out h8).mono ?_
    rintro e w2 ⟨vm, rfl, hlm, hb2⟩
    obtain ⟨Am, cm, rfl⟩ := hlm.form
    obtain ⟨_, _, hmc⟩ := hlm.reads
    have HB2 := Lib.hid (Ints.bel_trans HB1.out HB1.out.size hb2)
    have HLM := Lib.hid hlm
    have HMC := Lib.hid hmc
    have HL2 := Lib.hid (Kd.C_below HL1.out hb2)
    clear hlm hmc hb2 HB1 HL1
    go_wp2_with (fail)
    refine (of_any _ _ l _ HMC.out (by omega)).mono ?_
    rintro e w3 ⟨v3, rfl, hr3, hb3⟩
    obtain ⟨r, hrr⟩ : ∃ r, right l = r := ⟨_, rfl⟩
    obtain ⟨P, hP⟩ : ∃ P, codesOr l = P := ⟨_, rfl⟩
    have hpl := codesOr_len l
    rw [hP] at hr3 hpl
    rw [hrr]
    have HRR := Lib.hid hrr
    have HP := Lib.hid hP
    obtain ⟨A3, c3, rfl⟩ := Kd.R_slice hr3
    have HR3 := Lib.hid (Kd.R_lower hr3 HB2.out.size)
    have HC3 := Lib.hid (Kd.R_reads' hr3).2.2
    have HB3 := Lib.hid (Ints.bel_trans HB2.out HB2.out.size hb3)
    have HLM3 := Lib.hid (HLM.out.below hb3)
    have HL3 := Lib.hid (Kd.C_below HL2.out hb3)
    have HMC3 := Lib.hid (Kd.C_below HMC.out hb3)
    have hP400 : P.length ≤ 400 := by omega
    clear hr3 hb3 hrr hP hpl HB2 HLM HMC HL2
    go_wp2_with (fail)
    refine (ref_codes _ _ l _ HL3.out (by omega)).mono ?_
    rintro e w4 ⟨v4, rfl, hr4, hb4⟩
    rw [HP.out] at hr4
    rw [HRR.out]
    obtain ⟨A4, c4, rfl⟩ := Kd.R_slice hr4
    have HC4 := Lib.hid (Kd.R_reads' hr4).2.2
    have HB4 := Lib.hid (Ints.bel_trans HB3.out HB3.out.size hb4)
    have HLM4 := Lib.hid (HLM3.out.below hb4)
    have HL4 := Lib.hid (Kd.C_below HL3.out hb4)
    have HMC4 := Lib.hid (Kd.C_below HMC3.out hb4)
    have HC34 := Lib.hid (Kd.C_below HC3.out hb4)
    have HR4 := Lib.hid (Kd.R_below HR3.out hb4)
    have HBK := Lib.hid (bk_new w4 w.heap.size)
    have hsz4 : w.heap.size ≤ w4.heap.size := HB4.out.size
    clear hr4 hb4 HB3 HLM3 HL3 HMC3 HC3 HR3
    go_wp2_with (fail)
    have HA4 := Lib.hid (show Below w4.heap.size w4 (w4.alloc (.cells (bcells (.slice none 0 0) (.slice none 0 0) (.slice none 0 0) (.slice none 0 0)) 36 (0, 0))) from (Below.refl _ _).alloc (Nat.le_refl _) _)
    refine (ints_any _ w.heap.size w4.heap.size _ _ _ _ [] [] [] A3 P.length c3 P _ (by exact HBK.out) (by exact Kd.R_alloc HR4.out _) (fun i hi => absurd hi (Nat.not_lt_zero i)) (by simp; omega) (by simp) (by simp) (by omega)).mono ?_
    rintro e w5 ⟨⟨V5, U5, u5, hbk5⟩, rfl, hb5⟩
    have HBK5 := Lib.hid hbk5
    have HB5 := Lib.hid (show Below w4.heap.size w4 w5 from HA4.out.trans hb5)
    clear hbk5 hb5 HBK HA4
    go_wp2_with (fail)
    refine (of_any _ _ l _ (Kd.C_below HMC4.out HB5.out) (by omega)).mono ?_
    rintro e w6 ⟨v6, rfl, hr, hb6⟩
    rw [HP.out] at hr
    rw [HRR.out]
    obtain ⟨A6, c6, rfl⟩ := Kd.R_slice hr
    have HBK6 := Lib.hid (HBK5.out.below hb6)
    have hsz5 : w4.heap.size ≤ w5.heap.size := HB5.out.size
    have hap : ∀ i, i < ([P] : List (List Int)).length → (slv (([(A3, P.length, c3)] : List Sl).getD i z0)).ownBlock = none ∨ (slv (([(A3, P.length, c3)] : List Sl).getD i z0)).ownBlock ≠ (Value.slice A6 P.length c6).ownBlock := by
      intro i hi
      obtain rfl : i = 0 := by simpa using hi
      cases ho : (slv (([(A3, P.length, c3)] : List Sl).getD 0 z0)).ownBlock with
      | none => exact .inl rfl
      | some k =>
        right
        intro e
        have h1 := Kd.R_lt (HBK5.out.fv 0 (by simp)) k ho
        have h2 := Kd.R_base hr k e.symm
        omega
    have HAP := Lib.hid hap
    have HR6 := Lib.hid (Kd.R_lower hr (Nat.le_trans hsz4 hsz5))
    have HB6 := Lib.hid (Ints.bel_trans HB5.out HB5.out.size hb6)
    have hsz6 : w5.heap.size ≤ w6.heap.size := hb6.size
    clear hr hb6 hap HB5 HBK5
    go_wp2_with (fail)
    refine (ints_any _ w.heap.size w4.heap.size _ _ _ _ _ _ _ A6 P.length c6 P _ HBK6.out HR6.out HAP.out (by omega) (by omega) (by simp) (by omega)).mono ?_
    rintro e w7 ⟨⟨V7, U7, u7, hbk7⟩, rfl, hb7⟩
    have HBK7 := Lib.hid hbk7
    have HB7 := Lib.hid (HB6.out.trans hb7)
    have e1 : (r == r) = true := by simp
    clear hbk7 hb7 HBK6 HB6 HAP HR6
    go_wp2_with (fail)
    refine (right_any _ _ _ l _ (Kd.C_below HMC4.out HB7.out) h8).mono ?_
    rintro e w8 ⟨rfl, rfl⟩
    rw [HRR.out]
    go_wp2_with (fail)
    refine (ref_right _ _ _ l _ (Kd.C_below HL4.out HB7.out) h8).mono ?_
    rintro e w8 ⟨rfl, rfl⟩
    rw [HRR.out]
    go_wp2_with (fail)
    refine (same_true _ _ _ _ _ _ P _ (Kd.C_below HC34.out HB7.out) (Kd.C_below HC4.out HB7.out)).mono ?_
    rintro e w8 ⟨rfl, q8, rfl⟩
    go_wp2_with (fail)
    refine (stays_ints _ _ _ _ _ _ l _ _ ((HLM4.out.below HB7.out).below (below_drewN (Below.refl _ _) q8)) (Kd.C_drewN (Kd.C_below HL4.out HB7.out) q8)).mono ?_
    rintro e w9 ⟨rfl, q9, rfl⟩
    have hbk9 := ((HBK7.out.below (below_drewN (Below.refl _ _) q8)).below (below_drewN (Below.refl _ _) q9))
    have hb9 := (below_drewN (below_drewN HB7.out q8) q9)
    rw [World.drewN_drewN] at hbk9 hb9
    have HBK9 := Lib.hid hbk9
    have HB9 := Lib.hid hb9
    clear HBK7 hbk9 hb9
    go_wp2_with (fail)
    refine (apart_any _ w.heap.size w4.heap.size _ _ _ _ _ _ (by exact HBK9.out) (by simp) (fun i hi => by rcases i with _ | _ | i; (show P.length ≤ 10000; omega); (show P.length ≤ 10000; omega); (exfalso; have h2 : (([] ++ [P]) ++ [P] : List (List Int)).length = 2 := rfl; omega)) (Nat.le_trans hsz4 HB9.out.size)).mono ?_
    rintro e w13 ⟨rfl, hb13⟩
    have HB13 := Lib.hid ((Ints.bel_trans HB4.out hsz4 HB9.out).trans hb13)
    clear hb13
    go_wp2_with (fail)
    go_ret
    exact ⟨rfl, HB13.out⟩
  · have h400i : (400 : Int) < (l.length : Int) := by omega
    clear h400
    go_enter Try.func3, Try.ntmps3
    go_wp2_with (go_at_call 10; refine (alive_any _).mono ?_; rintro e w' ⟨rfl, hb⟩)
    go_ret
    exact ⟨rfl, hb⟩
end Go.Proofs.Ytfdpgngdccdmpaa.Code
