/- Chapter 14: what flex computes, in plain Lean. -/
import Derived.Test.YtfiflloieojgbaaGreedyPure
namespace Go.Proofs.Ytfiflloieojgbaa.Flex
set_option linter.unusedVariables false
set_option linter.unusedSimpArgs false
open Go.Proofs.Ytfiflloieojgbaa.Texts Go.Proofs.Ytfiflloieojgbaa.Dict Go.Proofs.Ytfiflloieojgbaa.Greedy

/-! ### going step by step -/
def stepsGo (size : Nat) (tok : Nat → Int) (st : Nat → Nat) : Nat → Nat → List Int
  | 0, _ => []
  | f + 1, a => if a < size then tok a :: stepsGo size tok st f (a + st a) else []
def stepsFrom (size : Nat) (tok : Nat → Int) (st : Nat → Nat) (a : Nat) : List Int := stepsGo size tok st (size - a) a
theorem stepsGo_fuel (size : Nat) (tok : Nat → Int) (st : Nat → Nat) (h1 : ∀ a, a < size → 1 ≤ st a) : ∀ f a, size - a ≤ f → stepsGo size tok st f a = stepsFrom size tok st a := by
  intro f
  induction f using Nat.strongRecOn with
  | _ f ih =>
    intro a h
    unfold stepsFrom
    by_cases ha : a < size
    · obtain ⟨f', rfl⟩ : ∃ f', f = f' + 1 := ⟨f - 1, by omega⟩
      obtain ⟨g, hg⟩ : ∃ g, size - a = g + 1 := ⟨size - a - 1, by omega⟩
      have h1 := h1 a ha
      rw [hg]
      unfold stepsGo
      rw [if_pos ha, if_pos ha, ih f' (by omega) (a + st a) (by omega)]
      by_cases hgf : g < f' + 1
      · rw [ih g hgf (a + st a) (by omega)]
      · omega
    · have e : size - a = 0 := by omega
      rw [e]
      cases f with
      | zero => rfl
      | succ f => unfold stepsGo; rw [if_neg ha]
theorem steps_step (size : Nat) (tok : Nat → Int) (st : Nat → Nat) (h1 : ∀ a, a < size → 1 ≤ st a) (a : Nat) (h : a < size) : stepsFrom size tok st a = tok a :: stepsFrom size tok st (a + st a) := by
  obtain ⟨g, hg⟩ : ∃ g, size - a = g + 1 := ⟨size - a - 1, by omega⟩
  have h2 := h1 a h
  have h3 := stepsGo_fuel size tok st h1 g (a + st a) (by omega)
  rw [← h3]
  unfold stepsFrom
  rw [hg]
  show (if a < size then _ else _) = _
  rw [if_pos h]
theorem steps_end (size : Nat) (tok : Nat → Int) (st : Nat → Nat) (a : Nat) (h : size ≤ a) : stepsFrom size tok st a = [] := by
  unfold stepsFrom
  rw [show size - a = 0 by omega]
  rfl
theorem steps_len (size : Nat) (tok : Nat → Int) (st : Nat → Nat) (h1 : ∀ a, a < size → 1 ≤ st a) : ∀ n a, size - a = n → (stepsFrom size tok st a).length ≤ n := by
  intro n
  induction n using Nat.strongRecOn with
  | _ n ih =>
    intro a h
    by_cases ha : a < size
    · have h2 := h1 a ha
      rw [steps_step size tok st h1 a ha, List.length_cons]
      have := ih (size - (a + st a)) (by omega) (a + st a) rfl
      omega
    · rw [steps_end size tok st a (by omega)]
      exact Nat.zero_le _

/-! ### the choice at a place -/
/-- How many bytes greedy takes at a place; 0 behind the end. -/
def nl (l : List ByteArray) (b : ByteArray) (x : Nat) : Nat := if x < b.size then firstLen l b x else 0
def reach (l : List ByteArray) (b : ByteArray) (a n : Nat) : Nat := a + n + nl l b (a + n)
theorem reach_le (l : List ByteArray) (b : ByteArray) (a n : Nat) (h : a + n ≤ b.size) : reach l b a n ≤ b.size := by
  unfold reach nl
  split
  · rename_i h2
    exact firstLen_fits l b _ h2
  · omega
/-- May n bytes be taken there? -/
def cand (l : List ByteArray) (b : ByteArray) (a n : Nat) : Prop := 1 ≤ n ∧ a + n ≤ b.size ∧ (has (piece b a n) l = true ∨ n = 1)
instance (l : List ByteArray) (b : ByteArray) (a n : Nat) : Decidable (cand l b a n) := by unfold cand; exact inferInstance
/-- The best of the lengths up to n; 0: there is none. -/
def sec (l : List ByteArray) (b : ByteArray) (a : Nat) : Nat → Nat
  | 0 => 0
  | n + 1 => if cand l b a (n + 1) ∧ (sec l b a n = 0 ∨ reach l b a (sec l b a n) ≤ reach l b a (n + 1)) then n + 1 else sec l b a n
def IsBest (l : List ByteArray) (b : ByteArray) (a n : Nat) : Prop := cand l b a n ∧ ∀ m, cand l b a m → reach l b a m < reach l b a n ∨ (reach l b a m = reach l b a n ∧ m ≤ n)
theorem isBest_one {l : List ByteArray} {b : ByteArray} {a n m : Nat} (hn : IsBest l b a n) (hm : IsBest l b a m) : n = m := by
  have h1 := hn.2 m hm.1
  have h2 := hm.2 n hn.1
  omega
theorem sec_spec (l : List ByteArray) (b : ByteArray) (a : Nat) : ∀ N, (sec l b a N = 0 ∧ ∀ m, m ≤ N → ¬ cand l b a m) ∨ (sec l b a N ≤ N ∧ cand l b a (sec l b a N) ∧ ∀ m, m ≤ N → cand l b a m → reach l b a m < reach l b a (sec l b a N) ∨ (reach l b a m = reach l b a (sec l b a N) ∧ m ≤ sec l b a N))
  | 0 => by
    left
    refine ⟨rfl, fun m hm hc => ?_⟩
    have := hc.1
    omega
  | N + 1 => by
    unfold sec
    by_cases hc : cand l b a (N + 1) ∧ (sec l b a N = 0 ∨ reach l b a (sec l b a N) ≤ reach l b a (N + 1))
    · rw [if_pos hc]
      right
      refine ⟨Nat.le_refl _, hc.1, fun m hm hcm => ?_⟩
      by_cases he : m = N + 1
      · subst he
        exact .inr ⟨rfl, Nat.le_refl _⟩
      · rcases sec_spec l b a N with ⟨h1, h2⟩ | ⟨h1, h2, h3⟩
        · exact absurd hcm (h2 m (by omega))
        · have h4 := h3 m (by omega) hcm
          have h5 : reach l b a (sec l b a N) ≤ reach l b a (N + 1) := by
            rcases hc.2 with h | h
            · have := h2.1
              omega
            · exact h
          omega
    · rw [if_neg hc]
      rcases sec_spec l b a N with ⟨h1, h2⟩ | ⟨h1, h2, h3⟩
      · left
        refine ⟨h1, fun m hm hcm => ?_⟩
        by_cases he : m = N + 1
        · subst he
          exact hc ⟨hcm, .inl h1⟩
        · exact h2 m (by omega) hcm
      · right
        refine ⟨by omega, h2, fun m hm hcm => ?_⟩
        by_cases he : m = N + 1
        · subst he
          left
          rcases Nat.lt_or_ge (reach l b a (N + 1)) (reach l b a (sec l b a N)) with h | h
          · exact h
          · exact absurd ⟨hcm, .inr h⟩ hc
        · exact h3 m (by omega) hcm
def bestLen (l : List ByteArray) (b : ByteArray) (a : Nat) : Nat := sec l b a (b.size - a)
theorem cand_one (l : List ByteArray) (b : ByteArray) (a : Nat) (h : a < b.size) : cand l b a 1 := ⟨Nat.le_refl _, by omega, .inr rfl⟩
theorem best_is (l : List ByteArray) (b : ByteArray) (a : Nat) (h : a < b.size) : IsBest l b a (bestLen l b a) := by
  unfold bestLen
  rcases sec_spec l b a (b.size - a) with ⟨h1, h2⟩ | ⟨h1, h2, h3⟩
  · exact absurd (cand_one l b a h) (h2 1 (by omega))
  · exact ⟨h2, fun m hm => h3 m (by have := hm.2.1; omega) hm⟩
theorem best_pos (l : List ByteArray) (b : ByteArray) (a : Nat) (h : a < b.size) : 1 ≤ bestLen l b a := (best_is l b a h).1.1
theorem best_fits (l : List ByteArray) (b : ByteArray) (a : Nat) (h : a < b.size) : a + bestLen l b a ≤ b.size := (best_is l b a h).1.2.1
theorem best_has (l : List ByteArray) (b : ByteArray) (a : Nat) (h : a < b.size) : has (piece b a (bestLen l b a)) l = true ∨ bestLen l b a = 1 := (best_is l b a h).1.2.2
theorem first_cand (l : List ByteArray) (b : ByteArray) (a : Nat) (h : a < b.size) : cand l b a (firstLen l b a) := by
  refine ⟨firstLen_pos l b a, firstLen_fits l b a h, ?_⟩
  by_cases h0 : longest l b a = 0
  · right
    unfold firstLen
    rw [if_pos h0]
  · left
    obtain ⟨h1, h2, _⟩ := token_phrase l b a h0
    rw [h1]
    exact h2
theorem cand_first (l : List ByteArray) (hok : okTexts l) (b : ByteArray) (a n : Nat) (h : a < b.size) (hc : cand l b a n) : n ≤ firstLen l b a := by
  have hp := firstLen_pos l b a
  rcases hc.2.2 with hh | hh
  · have hm := (has_iff _ _).1 hh
    have h40 : n ≤ 40 := by
      obtain ⟨k, hk, he⟩ := List.getElem_of_mem hm
      have := (hok.2 k hk).2.1
      rw [List.getD_eq_getElem?_getD, List.getElem?_eq_getElem hk, Option.getD_some, he, piece_size b a n hc.2.1] at this
      exact this
    have h1 := lon_ge l b a (min 40 (b.size - a)) n (by have := hc.2.1; omega) (by have := hc.1; omega) hh
    unfold firstLen
    rw [if_neg (by have := hc.1; unfold longest; omega)]
    exact h1
  · omega
/-- flex's tokens from a place on. -/
def fromF (l : List ByteArray) (b : ByteArray) (a : Nat) : List Int := stepsFrom b.size (fun a => tokenOf l b a (bestLen l b a)) (bestLen l b) a
def parseF (l : List ByteArray) (b : ByteArray) : List Int := fromF l b 0
theorem fromF_step (l : List ByteArray) (b : ByteArray) (a : Nat) (h : a < b.size) : fromF l b a = tokenOf l b a (bestLen l b a) :: fromF l b (a + bestLen l b a) := steps_step _ _ _ (best_pos l b) a h
theorem fromF_end (l : List ByteArray) (b : ByteArray) (a : Nat) (h : b.size ≤ a) : fromF l b a = [] := steps_end _ _ _ a h
theorem parseF_len (l : List ByteArray) (b : ByteArray) : (parseF l b).length ≤ b.size := steps_len _ _ _ (best_pos l b) b.size 0 (by omega)
theorem best_nil (b : ByteArray) (a : Nat) (h : a < b.size) : bestLen [] b a = 1 := by
  rcases best_has [] b a h with hh | hh
  · have := (has_iff _ _).1 hh
    cases this
  · exact hh
theorem fromF_nil (b : ByteArray) (a : Nat) (h : a < b.size) : fromF [] b a = byteAt b a :: fromF [] b (a + 1) := by
  obtain ⟨h1, h2⟩ := token_byte [] b a h (longest_nil b a)
  rw [fromF_step [] b a h, best_nil b a h, h2]
theorem fromF_nil_len (b : ByteArray) : ∀ n a, b.size - a = n → (fromF [] b a).length = n ∧ ∀ i, i < n → (fromF [] b a).getD i 0 = byteAt b (a + i)
  | 0, a, h => by
    rw [fromF_end [] b a (by omega)]
    exact ⟨rfl, fun i hi => absurd hi (Nat.not_lt_zero i)⟩
  | n + 1, a, h => by
    obtain ⟨h1, h2⟩ := fromF_nil_len b n (a + 1) (by omega)
    rw [fromF_nil b a (by omega)]
    refine ⟨by rw [List.length_cons, h1], fun i hi => ?_⟩
    cases i with
    | zero => rfl
    | succ i =>
      rw [List.getD_cons_succ, h2 i (by omega)]
      congr 1
      omega
theorem parseF_nil (b : ByteArray) : (parseF [] b).length = b.size ∧ ∀ i, i < b.size → (parseF [] b).getD i 0 = byteAt b i := by
  obtain ⟨h1, h2⟩ := fromF_nil_len b b.size 0 (by omega)
  exact ⟨h1, fun i hi => by have := h2 i hi; rwa [Nat.zero_add] at this⟩
end Go.Proofs.Ytfiflloieojgbaa.Flex
