/- Chapter 14: the walks. -/
import Derived.Test.YtfiflloieojgbaaFlexPure
import Derived.Test.YtfiflloieojgbaaGreedy
import Derived.Deep.RegionHeld3
namespace Go.Proofs.Ytfiflloieojgbaa.Flex
set_option linter.unusedVariables false
set_option linter.unusedSimpArgs false
open Go.RowKit Go.Proofs.YtfiflloieojgbaaW.PrintWords Go.Proofs.YtfiflloieojgbaaW.PrintMore Go.Proofs.Ytfiflloieojgbaa.L Go.Proofs.Ytfiflloieojgbaa.Texts Go.Proofs.Ytfiflloieojgbaa.Dict Go.Proofs.Ytfiflloieojgbaa.Ints Go.Proofs.Ytfiflloieojgbaa.Greedy

/-! ### Reach -/
theorem nl_next (l : List ByteArray) (b : ByteArray) (x : Nat) : nextLen l b (x : Int) = nl l b x := by
  unfold nl
  by_cases h : x < b.size
  · rw [if_pos h, (next_in h).2]
  · rw [if_neg h, (next_out (.inr (by omega))).2]
set_option maxRecDepth 100000 in
set_option maxHeartbeats 1000000 in
theorem reach_in (p : Option Addr) (l : List ByteArray) (b : ByteArray) (a n : Nat) (w : World) (h : DP w p l) (hok : okTexts l) (hbs : b.size ≤ 1000000) (han : a + n ≤ b.size) :
    Calls Try.prog 83 #[.pointer p, .string b, .int .i64 a, .int .i64 n] w fun e w' => Below w.heap.size w w' ∧ e = .returned (.int .i64 (reach l b a n : Nat)) := by
  have H := Lib.hid h
  have HOK := Lib.hid hok
  have a0 : (0 : Int) ≤ (a : Int) := by omega
  have n0 : (0 : Int) ≤ (n : Int) := by omega
  have a1 : (a : Int) ≤ (b.size : Int) := by omega
  have n1 : (n : Int) ≤ (b.size : Int) - (a : Int) := by omega
  have an : (a : Int) + (n : Int) ≤ 1000000 := by omega
  have hnx : nextLen l b ((a : Int) + (n : Int)) = nl l b (a + n) := by rw [show (a : Int) + (n : Int) = ((a + n : Nat) : Int) by omega, nl_next]
  have hle : reach l b a n ≤ b.size := reach_le l b a n han
  obtain ⟨M, hM⟩ : ∃ M, nl l b (a + n) = M := ⟨_, rfl⟩
  have hr : ((reach l b a n : Nat) : Int) = (a : Int) + (n : Int) + (M : Int) := by unfold reach; rw [hM]; omega
  have hm : (M : Int) ≤ 1000000 := by omega
  have hm0 : (0 : Int) ≤ (M : Int) := by omega
  rw [hM] at hnx
  have HNX := Lib.hid hnx
  have HR := Lib.hid hr
  clear h hok hnx hr hle hM
  go_enter Try.func83, Try.ntmps83
  go_wp2_with (fail)
  refine (next_any _ l b _ _ H.out HOK.out (by omega)).mono ?_
  rintro e w1 ⟨hb, rfl⟩
  rw [HNX.out]
  have HB := Lib.hid hb
  generalize nextTok l b ((a : Int) + (n : Int)) = T
  clear hb
  go_wp2_with (fail)
  go_ret
  rw [HR.out]
  exact ⟨HB.out, rfl⟩
set_option maxRecDepth 100000 in
theorem reach_out (p : Option Addr) (b : ByteArray) (k n : Int) (w : World) (hk : -(2 ^ 63) ≤ k ∧ k < 2 ^ 63) (hbs : b.size ≤ 1000000) (h : k < 0 ∨ n < 0 ∨ (b.size : Int) < k ∨ (b.size : Int) - k < n) :
    Calls Try.prog 83 #[.pointer p, .string b, .int .i64 k, .int .i64 n] w fun e w' => e = .returned (.int .i64 0) ∧ w' = w := by
  obtain ⟨hk1, hk2⟩ := hk
  by_cases h0 : k < 0
  · clear h
    go_enter Try.func83, Try.ntmps83
    go_wp2_with (fail)
    go_ret
    exact ⟨rfl, rfl⟩
  · have h00 : 0 ≤ k := by omega
    by_cases h1 : n < 0
    · clear h h0
      go_enter Try.func83, Try.ntmps83
      go_wp2_with (fail)
      go_ret
      exact ⟨rfl, rfl⟩
    · have h10 : 0 ≤ n := by omega
      by_cases h2 : (b.size : Int) < k
      · clear h h0 h1
        go_enter Try.func83, Try.ntmps83
        go_wp2_with (fail)
        go_ret
        exact ⟨rfl, rfl⟩
      · have h20 : k ≤ (b.size : Int) := by omega
        have h3 : (b.size : Int) - k < n := by omega
        clear h h0 h1 h2
        go_enter Try.func83, Try.ntmps83
        go_wp2_with (fail)
        go_ret
        exact ⟨rfl, rfl⟩

/-! ### better -/
def betterB (r n r' n' : Int) : Bool := if r = r' then decide (n' < n) else decide (r' < r)
set_option maxRecDepth 100000 in
theorem better_any (t n r t' n' r' : Int) (w : World) :
    Calls Try.prog 84 #[.agg #[.int .i64 t, .int .i64 n, .int .i64 r], .agg #[.int .i64 t', .int .i64 n', .int .i64 r']] w fun e w' => e = .returned (.bool (betterB r n r' n')) ∧ Below w.heap.size w w' := by
  have hb2 : Below w.heap.size w ((w.alloc (.cells #[.int .i64 t, .int .i64 n, .int .i64 r] 120 (0, 0))).alloc (.cells #[.int .i64 t', .int .i64 n', .int .i64 r'] 120 (0, 0))) := ((Below.refl _ _).alloc (Nat.le_refl _) _).alloc (by simp) _
  have HB := Lib.hid hb2
  clear hb2
  by_cases h : r = r'
  · subst h
    have hr := Lib.hid (show betterB r n r n' = decide (n' < n) by unfold betterB; rw [if_pos rfl])
    have e1 : (r != r) = false := by simp
    go_enter Try.func84, Try.ntmps84
    go_wp2_with (fail)
    go_ret
    rw [hr.out]
    exact ⟨rfl, HB.out⟩
  · have hr := Lib.hid (show betterB r n r' n' = decide (r' < r) by unfold betterB; rw [if_neg h])
    have e1 : (r != r') = true := bne_iff_ne.2 h
    clear h
    go_enter Try.func84, Try.ntmps84
    go_wp2_with (fail)
    go_ret
    rw [hr.out]
    exact ⟨rfl, HB.out⟩
end Go.Proofs.Ytfiflloieojgbaa.Flex
