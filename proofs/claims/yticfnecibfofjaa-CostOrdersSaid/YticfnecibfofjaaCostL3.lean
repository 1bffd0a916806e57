/- Chapter 12: costs are in an order, of numbers that may be: of two unlike ones one is less, and what is less than less is less. -/
import Derived.Test.YticfnecibfofjaaCostL1
namespace Go.Proofs.Yticfnecibfofjaa.Cost
set_option linter.unusedVariables false
set_option linter.unusedSimpArgs false
open Go.RowKit Go.Proofs.YticfnecibfofjaaW.PrintWords Go.Proofs.YticfnecibfofjaaW.PrintMore Go.Proofs.YticfnecibfofjaaW.PrintLast Go.Proofs.Yticfnecibfofjaa.L Go.Proofs.Yticfnecibfofjaa.Ints Go.Proofs.Yticfnecibfofjaa.Fl Go.Proofs.Yticfnecibfofjaa.VariSpec Go.Proofs.Yticfnecibfofjaa.PCostBytes

def inB (n : Int) : Bool := decide (0 ≤ n ∧ n ≤ 1099511627776)
theorem in_any (n : Int) (w : World) : Calls Try.prog 28 #[.int .i64 n] w fun e w' => e = .returned (.bool (inB n)) ∧ w' = w := by
  go_enter Try.func28, Try.ntmps28
  by_cases h0 : 0 ≤ n
  · have hr := Lib.hid (show inB n = decide (n ≤ 1099511627776) by unfold inB; simp [h0])
    go_wp2_with (fail)
    go_ret
    rw [hr.out]
    exact ⟨rfl, rfl⟩
  · have h1 : n < 0 := by omega
    have hr := Lib.hid (show inB n = false by unfold inB; exact decide_eq_false (by omega))
    clear h0
    go_wp2_with (fail)
    go_ret
    rw [hr.out]
    exact ⟨rfl, rfl⟩
/-- Two costs: less, alike or greater. -/
theorem three (T B U C : Nat) : (lessB T B U C = true ∧ lessB U C T B = false ∧ (decide (T = U) && decide (B = C)) = false) ∨ (lessB T B U C = false ∧ lessB U C T B = true ∧ (decide (T = U) && decide (B = C)) = false) ∨ (lessB T B U C = false ∧ lessB U C T B = false ∧ (decide (T = U) && decide (B = C)) = true) := by
  unfold lessB
  by_cases h1 : T = U
  · subst h1
    rcases Nat.lt_trichotomy B C with h | h | h
    · exact .inl ⟨by simp [h], by simp; omega, by simp; omega⟩
    · subst h; exact .inr (.inr ⟨by simp, by simp, by simp⟩)
    · exact .inr (.inl ⟨by simp; omega, by simp [h], by simp; omega⟩)
  · rcases Nat.lt_trichotomy T U with h | h | h
    · exact .inl ⟨by rw [if_neg h1]; simp [h], by rw [if_neg (fun e => h1 e.symm)]; simp; omega, by simp [h1]⟩
    · exact absurd h h1
    · exact .inr (.inl ⟨by rw [if_neg h1]; simp; omega, by rw [if_neg (fun e => h1 e.symm)]; simp [h], by simp [h1]⟩)
theorem less_self (T B : Nat) : lessB T B T B = false := by unfold lessB; simp
theorem less_trans {A D B E C F : Nat} (h1 : lessB A D B E = true) (h2 : lessB B E C F = true) : lessB A D C F = true := by
  unfold lessB at *
  split at h1 <;> split at h2 <;> simp at h1 h2 <;> split <;> simp <;> omega
theorem less_add (A D B E C F : Nat) : lessB (A + C) (D + F) (B + C) (E + F) = lessB A D B E := by
  unfold lessB
  by_cases h : A = B
  · subst h; simp
  · rw [if_neg (by omega), if_neg h]
    simp
theorem in_nat {n : Int} (h : inB n = true) : ∃ N : Nat, n = N ∧ N ≤ 1099511627776 := by
  have h2 : 0 ≤ n ∧ n ≤ 1099511627776 := of_decide_eq_true h
  exact ⟨n.toNat, by omega, by omega⟩
theorem less_lit (T B U C : Nat) (w : World) (h1 : T < big) (h2 : B < big) (h3 : U < big) (h4 : C < big) : Calls Try.prog 26 #[.complex .f64 (fl T) (fl B), .complex .f64 (fl U) (fl C)] w fun e w' => e = .returned (.bool (lessB T B U C)) ∧ w' = w := less_any T B U C w h1 h2 h3 h4
set_option maxRecDepth 100000 in
set_option maxHeartbeats 4000000 in
theorem CostOrders_in (a b c d e f : Int) (w : World) (ha : inB a = true) (hb : inB b = true) (hc : inB c = true) (hd : inB d = true) (he : inB e = true) (hf : inB f = true) :
    Calls Try.prog 9 #[.int .i64 a, .int .i64 b, .int .i64 c, .int .i64 d, .int .i64 e, .int .i64 f] w fun e w' => e = .returned (.bool true) ∧ Below w.heap.size w w' := by
  obtain ⟨A, rfl, hA⟩ := in_nat ha
  obtain ⟨B, rfl, hB⟩ := in_nat hb
  obtain ⟨C, rfl, hC⟩ := in_nat hc
  obtain ⟨D, rfl, hD⟩ := in_nat hd
  obtain ⟨E, rfl, hE⟩ := in_nat he
  obtain ⟨F, rfl, hF⟩ := in_nat hf
  have hbg : big = 9007199254740992 := rfl
  have bA : A < big := by omega
  have bB : B < big := by omega
  have bC : C < big := by omega
  have bD : D < big := by omega
  have bE : E < big := by omega
  have bF : F < big := by omega
  have bAC : A + C < big := by omega
  have bDF : D + F < big := by omega
  have bBC : B + C < big := by omega
  have bEF : E + F < big := by omega
  have IA := Lib.hid ha
  have IB := Lib.hid hb
  have IC := Lib.hid hc
  have ID := Lib.hid hd
  have IE := Lib.hid he
  have IF := Lib.hid hf
  clear hbg hA hB hC hD hE hF ha hb hc hd he hf
  go_enter Try.func9, Try.ntmps9
  go_wp2_with (fail)
  refine (in_any _ _).mono ?_
  rintro e w' ⟨rfl, rfl⟩
  rw [IA.out]
  go_wp2_with (fail)
  refine (in_any _ _).mono ?_
  rintro e w' ⟨rfl, rfl⟩
  rw [IB.out]
  go_wp2_with (fail)
  refine (in_any _ _).mono ?_
  rintro e w' ⟨rfl, rfl⟩
  rw [IC.out]
  go_wp2_with (fail)
  refine (in_any _ _).mono ?_
  rintro e w' ⟨rfl, rfl⟩
  rw [ID.out]
  go_wp2_with (fail)
  refine (in_any _ _).mono ?_
  rintro e w' ⟨rfl, rfl⟩
  rw [IE.out]
  go_wp2_with (fail)
  refine (in_any _ _).mono ?_
  rintro e w' ⟨rfl, rfl⟩
  rw [IF.out]
  go_wp2_with (fail)
  refine (alive_any _).mono ?_
  rintro e w1 ⟨rfl, hb1⟩
  have HB := Lib.hid hb1
  clear hb1 IA IB IC ID IE IF
  have nA : floatOfInt .f64 (A : Int) = fl A := near_fl A
  have nB : floatOfInt .f64 (B : Int) = fl B := near_fl B
  have nC : floatOfInt .f64 (C : Int) = fl C := near_fl C
  have nD : floatOfInt .f64 (D : Int) = fl D := near_fl D
  have nE : floatOfInt .f64 (E : Int) = fl E := near_fl E
  have nF : floatOfInt .f64 (F : Int) = fl F := near_fl F
  go_wp2_with (fail)
  refine (less_lit A D A D _ bA bD bA bD).mono ?_
  rintro e w' ⟨rfl, rfl⟩
  rw [less_self A D]
  clear nA nB nC nD nE nF
  have q1 : (FloatKind.f64.format.order (fl A) (fl B) == some Ordering.eq) = decide (A = B) := eq_fl bA bB
  have q2 : (FloatKind.f64.format.order (fl D) (fl E) == some Ordering.eq) = decide (D = E) := eq_fl bD bE
  have e1 : ((A : Int) == (A : Int)) = true := by simp
  have e2 : ((D : Int) == (D : Int)) = true := by simp
  go_wp2_with (fail)
  refine (less_lit A D B E _ bA bD bB bE).mono ?_
  rintro e w' ⟨rfl, rfl⟩
  have hadd := Lib.hid (less_add A D B E C F)
  rcases three A D B E with ⟨p1, p2, p3⟩ | ⟨p1, p2, p3⟩ | ⟨p1, p2, p3⟩
  · rw [p1]
    go_wp2_with (fail)
    refine (less_lit A D B E _ bA bD bB bE).mono ?_
    rintro e w' ⟨rfl, rfl⟩
    rw [p1]
    go_wp2_with (fail)
    refine (less_lit B E A D _ bB bE bA bD).mono ?_
    rintro e w' ⟨rfl, rfl⟩
    rw [p2]
    go_wp2_with (fail)
    refine (less_lit A D B E _ bA bD bB bE).mono ?_
    rintro e w' ⟨rfl, rfl⟩
    rw [p1]
    go_wp2_with (fail)
    refine (less_lit B E C F _ bB bE bC bF).mono ?_
    rintro e w' ⟨rfl, rfl⟩
    cases hr : lessB B E C F
    · have s1 := fun W => addc_fl bAC bDF W
      have s2 := fun W => addc_fl bBC bEF W
      go_wp2_with (fail)
      refine (less_lit (A + C) (D + F) (B + C) (E + F) _ bAC bDF bBC bEF).mono ?_
      rintro e w' ⟨rfl, rfl⟩
      rw [hadd.out, p1]
      clear s1 s2
      go_wp2_with (fail)
      refine (less_lit A D B E _ bA bD bB bE).mono ?_
      rintro e w' ⟨rfl, rfl⟩
      rw [p1]
      go_wp2_with (fail)
      refine (tokens_any A D _ bA).mono ?_
      rintro e w' ⟨rfl, rfl⟩
      go_wp2_with (fail)
      refine (bits_any A D _ bD).mono ?_
      rintro e w' ⟨rfl, rfl⟩
      go_wp2_with (fail)
      go_ret
      exact ⟨rfl, HB.out⟩
    · go_wp2_with (fail)
      refine (less_lit A D C F _ bA bD bC bF).mono ?_
      rintro e w' ⟨rfl, rfl⟩
      rw [less_trans p1 hr]
      have s1 := fun W => addc_fl bAC bDF W
      have s2 := fun W => addc_fl bBC bEF W
      go_wp2_with (fail)
      refine (less_lit (A + C) (D + F) (B + C) (E + F) _ bAC bDF bBC bEF).mono ?_
      rintro e w' ⟨rfl, rfl⟩
      rw [hadd.out, p1]
      clear s1 s2
      go_wp2_with (fail)
      refine (less_lit A D B E _ bA bD bB bE).mono ?_
      rintro e w' ⟨rfl, rfl⟩
      rw [p1]
      go_wp2_with (fail)
      refine (tokens_any A D _ bA).mono ?_
      rintro e w' ⟨rfl, rfl⟩
      go_wp2_with (fail)
      refine (bits_any A D _ bD).mono ?_
      rintro e w' ⟨rfl, rfl⟩
      go_wp2_with (fail)
      go_ret
      exact ⟨rfl, HB.out⟩
  · rw [p1]
    go_wp2_with (fail)
    refine (less_lit B E A D _ bB bE bA bD).mono ?_
    rintro e w' ⟨rfl, rfl⟩
    rw [p2]
    go_wp2_with (fail)
    refine (less_lit A D B E _ bA bD bB bE).mono ?_
    rintro e w' ⟨rfl, rfl⟩
    rw [p1]
    go_wp2_with (fail)
    refine (less_lit A D B E _ bA bD bB bE).mono ?_
    rintro e w' ⟨rfl, rfl⟩
    rw [p1]
    have s1 := fun W => addc_fl bAC bDF W
    have s2 := fun W => addc_fl bBC bEF W
    go_wp2_with (fail)
    refine (less_lit (A + C) (D + F) (B + C) (E + F) _ bAC bDF bBC bEF).mono ?_
    rintro e w' ⟨rfl, rfl⟩
    rw [hadd.out, p1]
    clear s1 s2
    go_wp2_with (fail)
    refine (less_lit A D B E _ bA bD bB bE).mono ?_
    rintro e w' ⟨rfl, rfl⟩
    rw [p1]
    go_wp2_with (fail)
    refine (tokens_any A D _ bA).mono ?_
    rintro e w' ⟨rfl, rfl⟩
    go_wp2_with (fail)
    refine (bits_any A D _ bD).mono ?_
    rintro e w' ⟨rfl, rfl⟩
    go_wp2_with (fail)
    go_ret
    exact ⟨rfl, HB.out⟩
  · rw [p1]
    go_wp2_with (fail)
    refine (less_lit B E A D _ bB bE bA bD).mono ?_
    rintro e w' ⟨rfl, rfl⟩
    rw [p2]
    go_wp2_with (fail)
    refine (less_lit A D B E _ bA bD bB bE).mono ?_
    rintro e w' ⟨rfl, rfl⟩
    rw [p1]
    go_wp2_with (fail)
    refine (less_lit A D B E _ bA bD bB bE).mono ?_
    rintro e w' ⟨rfl, rfl⟩
    rw [p1]
    have s1 := fun W => addc_fl bAC bDF W
    have s2 := fun W => addc_fl bBC bEF W
    go_wp2_with (fail)
    refine (less_lit (A + C) (D + F) (B + C) (E + F) _ bAC bDF bBC bEF).mono ?_
    rintro e w' ⟨rfl, rfl⟩
    rw [hadd.out, p1]
    clear s1 s2
    go_wp2_with (fail)
    refine (less_lit A D B E _ bA bD bB bE).mono ?_
    rintro e w' ⟨rfl, rfl⟩
    rw [p1]
    go_wp2_with (fail)
    refine (tokens_any A D _ bA).mono ?_
    rintro e w' ⟨rfl, rfl⟩
    go_wp2_with (fail)
    refine (bits_any A D _ bD).mono ?_
    rintro e w' ⟨rfl, rfl⟩
    go_wp2_with (fail)
    go_ret
    exact ⟨rfl, HB.out⟩
end Go.Proofs.Yticfnecibfofjaa.Cost
