/- Chapter 19: small facts that several statements use. -/
import Derived.Test.YtfdpgngdccdmpaaCode
namespace Go.Proofs.Ytfdpgngdccdmpaa.Code
set_option linter.unusedVariables false
set_option linter.unusedSimpArgs false
open Go.RowKit Go.Proofs.YtfdpgngdccdmpaaW.PrintWords Go.Proofs.YtfdpgngdccdmpaaW.PrintMore Go.Proofs.Ytfdpgngdccdmpaa.L Go.Proofs.Ytfdpgngdccdmpaa.Ints

theorem len_case (x : Int) (h : 0 ≤ x ∧ x ≤ 15) : x = 0 ∨ ∃ n : Nat, x = ((n + 1 : Nat) : Int) ∧ n + 1 ≤ 15 := by
  by_cases h0 : x = 0
  · exact .inl h0
  · exact .inr ⟨x.toNat - 1, by omega, by omega⟩
theorem u64_small (x : Int) (h0 : 0 ≤ x) (h1 : x ≤ 100000) : IntKind.u64.wrap x = x := by simp [IntKind.wrap, IntKind.bits, IntKind.signed]; omega
theorem i64_small (x : Int) (h0 : -(2 ^ 62) ≤ x) (h1 : x ≤ 2 ^ 62) : IntKind.i64.wrap x = x := by
  simp [IntKind.wrap, IntKind.bits, IntKind.signed]
  omega
theorem pow_form (n : Nat) (hn : n ≤ 15) : IntKind.i64.wrap (2 ^ min n 64) = ((2 ^ n : Nat) : Int) := by
  have h2 : (2 : Nat) ^ n ≤ 2 ^ 15 := Nat.pow_le_pow_right (by decide) hn
  have h3 : ((2 ^ n : Nat) : Int) = 2 ^ n := by simp
  rw [Nat.min_eq_left (by omega), ← h3]
  clear h3
  generalize 2 ^ n = P at *
  exact i64_small _ (by omega) (by omega)
theorem div_form (C n : Nat) (hn : n ≤ 15) : ((C : Nat) : Int) / 2 ^ min n 64 = ((C / 2 ^ n : Nat) : Int) := by
  rw [Nat.min_eq_left (by omega)]
  simp
theorem getD_mem' {l : List Int} {k : Nat} (h : k < l.length) : l.getD k 0 ∈ l := by
  rw [List.getD_eq_getElem?_getD, List.getElem?_eq_getElem h]
  exact List.getElem_mem h
/-- The last length above nought. -/
def lastPos (l : List Int) : Int := l.foldl (fun x v => if 0 < v then v else x) 0
theorem lastPos_snoc (l : List Int) (v : Int) : lastPos (l ++ [v]) = if 0 < v then v else lastPos l := by simp [lastPos]
theorem lastPos_none : ∀ (l : List Int) (x0 : Int), used l = 0 → l.foldl (fun x v => if 0 < v then v else x) x0 = x0
  | [], _, _ => rfl
  | v :: l, x0, h => by
    unfold used at h
    rw [List.countP_cons] at h
    by_cases hv : 0 < v
    · simp [hv] at h
    · rw [List.foldl_cons, if_neg hv]
      exact lastPos_none l x0 (by unfold used; omega)
theorem used_none : ∀ (l : List Int), used l = 0 → ¬ l.any (fun x => decide (x = 1)) = true
  | [], _ => by simp
  | v :: l, h => by
    unfold used at h
    rw [List.countP_cons] at h
    by_cases hv : 0 < v
    · simp [hv] at h
    · have := used_none l (by unfold used; omega)
      rw [List.any_cons, Bool.or_eq_true, decide_eq_true_eq]
      rintro (h1 | h1)
      · omega
      · exact this h1
theorem lastPos_gen : ∀ (l : List Int) (x0 : Int), used l = 1 → (l.foldl (fun x v => if 0 < v then v else x) x0 = 1 ↔ l.any (fun x => decide (x = 1)) = true)
  | [], _, h => by simp [used] at h
  | v :: l, x0, h => by
    unfold used at h
    rw [List.countP_cons] at h
    rw [List.foldl_cons, List.any_cons, Bool.or_eq_true, decide_eq_true_eq]
    by_cases hv : 0 < v
    · have h0 : used l = 0 := by unfold used; simp [hv] at h; simpa using h
      rw [if_pos hv, lastPos_none l v h0]
      have := used_none l h0
      constructor
      · exact .inl
      · rintro (h1 | h1)
        · exact h1
        · exact absurd h1 this
    · have h1 : used l = 1 := by unfold used; simp [hv] at h; exact h
      rw [if_neg hv, lastPos_gen l x0 h1]
      constructor
      · exact .inr
      · rintro (h2 | h2)
        · omega
        · exact h2
theorem lastPos_one (l : List Int) (h : used l = 1) : lastPos l = 1 ↔ l.any (fun x => decide (x = 1)) = true := lastPos_gen l 0 h
end Go.Proofs.Ytfdpgngdccdmpaa.Code
