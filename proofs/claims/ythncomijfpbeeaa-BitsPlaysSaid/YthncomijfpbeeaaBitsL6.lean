/- Numbers that are put are read as they were, in their order: the plain law, and the walk. -/
import Derived.Test.YthncomijfpbeeaaBitsAlive
import Derived.Test.YthncomijfpbeeaaOps
import Derived.Test.YthncomijfpbeeaaBitsTurn
namespace Go.Proofs.Ythncomijfpbeeaa.Bits
set_option linter.unusedVariables false
set_option linter.unusedSimpArgs false
open Go.RowKit Go.Proofs.YthncomijfpbeeaaW.PrintWords Go.Proofs.YthncomijfpbeeaaW.PrintMore Go.Proofs.Ythncomijfpbeeaa.L Go.Proofs.Ythncomijfpbeeaa.BP Go.Proofs.Ythncomijfpbeeaa.Ops

/-! ### the plain law -/
def okO (o : OpT) : Bool := mayPut o.2.1 o.2.2
def bitsA : List OpT → List Int
  | [] => []
  | o :: l => bitsV o.2.2.toNat o.2.1 ++ bitsA l
theorem bitsA_append : ∀ a b, bitsA (a ++ b) = bitsA a ++ bitsA b
  | [], b => rfl
  | o :: a, b => by simp only [List.cons_append, bitsA, bitsA_append a b, List.append_assoc]
theorem bitsA_bits : ∀ l, Bits (bitsA l)
  | [] => bits_nil
  | o :: l => (bitsV_bits _ _).append (bitsA_bits l)
theorem bitsA_le : ∀ l : List OpT, (∀ o ∈ l, okO o = true) → (bitsA l).length ≤ 32 * l.length
  | [], _ => by simp [bitsA]
  | o :: l, h => by
    have ih := bitsA_le l (fun x hx => h x (by simp [hx]))
    have ho := h o (by simp)
    simp only [okO, mayPut, decide_eq_true_eq] at ho
    simp only [bitsA, List.length_append, bitsV_length, List.length_cons]
    omega
theorem valN_bitsV (n : Nat) (v : Int) (h0 : 0 ≤ v) (h1 : v < 2 ^ n) (rest : List Int) : valN (bitsV n v ++ rest) n = v := by
  have key : ∀ m, m ≤ n → valN (bitsV n v ++ rest) m = v / 2 ^ (n - m) := by
    intro m
    induction m with
    | zero =>
      intro _
      simp only [valN, Nat.sub_zero]
      exact (Int.ediv_eq_zero_of_lt h0 h1).symm
    | succ m ih =>
      intro hm
      simp only [valN]
      rw [ih (by omega)]
      have hg : (bitsV n v ++ rest).getD m 0 = v / 2 ^ (n - 1 - m) % 2 := by
        rw [List.getD_eq_getElem?_getD, List.getElem?_append_left (by rw [bitsV_length]; omega), List.getElem?_eq_getElem (by rw [bitsV_length]; omega)]
        simp [bitsV]
      rw [hg, show n - 1 - m = n - (m + 1) from by omega]
      obtain ⟨d, hd⟩ : ∃ d, n - (m + 1) = d := ⟨_, rfl⟩
      rw [show n - m = d + 1 from by omega, hd, Int.pow_succ, ← Int.ediv_ediv_of_nonneg (Int.le_of_lt (Int.pow_pos (by omega)))]
      omega
  have := key n (Nat.le_refl _)
  rw [this, Nat.sub_self, Int.pow_zero, Int.ediv_one]
end Go.Proofs.Ythncomijfpbeeaa.Bits
