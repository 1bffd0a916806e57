/- Proved: a greater number never takes fewer bytes, and none takes more than five; for every input, under the bounds that the printed statement has. -/
import Derived.Test.YticfnecibfofjaaPVariLensx2
import Derived.Test.YticfnecibfofjaaVariSpec
namespace Go.Proofs.Yticfnecibfofjaa.Pure
open Go.RowKit Go.Proofs.Yticfnecibfofjaa.PVariLens Go.Proofs.Yticfnecibfofjaa.VariSpec Go.Proofs.YticfnecibfofjaaW.PrintWords Go.Proofs.YticfnecibfofjaaW.PrintLast Go.Proofs.YticfnecibfofjaaW.PrintMore

/-! ### what the printed functions come to -/
theorem put_l0 : ∀ (f : Nat) (n : Int) (acc : List Int) (k : Nat), 0 ≤ n → n < cap f → f < k → acc.length + f < 1000 →
    vari_Put.l0 k n acc = some (strOfNums (acc ++ encN f n), true)
  | f, n, acc, 0, _, _, hk, _ => absurd hk (by omega)
  | 0, n, acc, k + 1, h0, h1, hk, hl => by
    simp only [cap] at h1
    simp only [vari_Put.l0, encN]
    rw [if_neg (by omega), if_pos (by omega), Int.emod_eq_of_lt h0 (by omega)]
  | f + 1, n, acc, k + 1, h0, h1, hk, hl => by
    simp only [cap] at h1
    simp only [vari_Put.l0, encN]
    by_cases h : n ≥ 128
    · have e : (wrap64 (Int.tmod n 128 + 128)) % 256 = n % 128 + 128 := by
        rw [Int.tmod_eq_emod_of_nonneg h0]; unfold wrap64; omega
      rw [if_pos h, if_pos (by omega), if_pos (show 128 ≤ n from h), e, put_l0 f (n / 128) _ k (by omega) (by omega) (by omega) (by simp; omega)]
      simp
    · rw [if_neg h, if_pos (by omega), if_neg h, Int.emod_eq_of_lt h0 (by omega)]
theorem put_f (k : Nat) (n : Int) (hk : 10 ≤ k) : vari_Put.f k n = some (if 0 ≤ n ∧ n ≤ 4294967295 then (strOfNums (encN 4 n), true) else ((⟨#[]⟩ : ByteArray), false)) := by
  obtain ⟨k, rfl⟩ : ∃ m, k = m + 1 := ⟨k - 1, by omega⟩
  unfold vari_Put.f
  by_cases h0 : n < 0
  · rw [if_pos h0, if_neg (by omega)]; simp only [vari_Put.j0]; rw [if_pos trivial]
  · rw [if_neg h0]
    simp only [vari_Put.j0]
    by_cases h1 : n > 4294967295
    · rw [if_pos (by simpa using h1), if_neg (by omega)]
    · rw [if_neg (by simpa using h1), if_pos (by omega), put_l0 4 n [] k (by omega) (by simp only [cap]; omega) (by omega) (by simp)]
      simp
theorem w7 (i : Nat) (h : i ≤ 4) : 0 ≤ wrap64 (7 * (i : Int)) := by
  have e : wrap64 (7 * (i : Int)) = 7 * (i : Int) := by
    obtain rfl | rfl | rfl | rfl | rfl : i = 0 ∨ i = 1 ∨ i = 2 ∨ i = 3 ∨ i = 4 := by omega
    all_goals decide +kernel
  omega
theorem get_l0 (b : ByteArray) (hb : b.size ≤ 140737488355328) : ∀ (f i : Nat) (n : Int) (k : Nat), i + f = 4 → 0 ≤ n → n < 128 ^ i → i ≤ b.size → 3 * f + 3 ≤ k →
    vari_Get.l0 k b n (i : Int) = some (dec ((bytesOf b).drop i) i n) := by
  intro f
  induction f with
  | zero =>
    intro i n k hi h0 h1 hs hk
    obtain ⟨k, rfl⟩ : ∃ m, k = m + 3 := ⟨k - 3, by omega⟩
    obtain rfl : i = 4 := by omega
    simp only [vari_Get.l0]
    by_cases he : ((4 : Nat) : Int) = (b.size : Int)
    · rw [if_pos he, List.drop_of_length_le (by rw [bytesOf_length]; omega)]; rfl
    · rw [if_neg he, if_pos (by omega), if_pos (by omega), if_pos (by omega), bytesOf_at b 4 (by omega)]
      have hr := bt_range b ((4 : Nat) : Int)
      simp only [vari_Get.j1, dec]
      by_cases h15 : bt b ((4 : Nat) : Int) > 15
      · rw [if_pos (by simpa using h15), if_pos ⟨trivial, h15⟩]
      · rw [if_neg (by simpa using h15), if_pos (by omega), if_pos (by omega), if_pos (by omega), if_neg (show ¬ (True ∧ 15 < bt b ((4 : Nat) : Int)) from fun h => h15 h.2)]
        simp only [vari_Get.j2]
        by_cases hz : bt b ((4 : Nat) : Int) = 0
        · rw [if_pos (by simpa using hz), if_pos ⟨by omega, hz⟩]
        · rw [if_neg (by simpa using hz), if_pos (by omega), if_pos (by omega), if_pos (w7 4 (by omega)), if_pos (by omega), if_neg (show ¬ (0 < 4 ∧ bt b ((4 : Nat) : Int) = 0) from fun h => hz h.2), if_pos (by omega), or_add n _ 4 (by omega) h0 h1 hr.1 (by omega), Int.emod_eq_of_lt hr.1 (by omega)]
          simp [wrap64]
  | succ f ih =>
    intro i n k hi h0 h1 hs hk
    obtain ⟨k, rfl⟩ : ∃ m, k = m + 3 := ⟨k - 3, by omega⟩
    simp only [vari_Get.l0]
    by_cases he : (i : Int) = (b.size : Int)
    · rw [if_pos he, List.drop_of_length_le (by rw [bytesOf_length]; omega)]; rfl
    · rw [if_neg he, if_neg (by omega), bytesOf_at b i (by omega)]
      have hr := bt_range b (i : Int)
      have hor := or_add n _ i (by omega) h0 h1 hr.1 (show bt b (i : Int) < 256 by omega)
      have step : vari_Get.j2 (k + 1) b n i (bt b i == 0) = some (if bt b i = 0 then (0, 0, 3) else if bt b i < 128 then (n + bt b i * 128 ^ i, (i : Int) + 1, 0) else dec ((bytesOf b).drop (i + 1)) (i + 1) (n + bt b i % 128 * 128 ^ i)) := by
        simp only [vari_Get.j2]
        by_cases hz : bt b (i : Int) = 0
        · rw [if_pos (by simpa using hz), if_pos hz]
        · rw [if_neg (by simpa using hz), if_neg hz, if_pos (by omega), if_pos (by omega), if_pos (w7 i (by omega)), hor]
          have e1 : wrap64 ((i : Int) + 1) = ((i + 1 : Nat) : Int) := by unfold wrap64; omega
          by_cases hc : bt b (i : Int) < 128
          · rw [if_pos hc, if_pos hc, e1, Int.emod_eq_of_lt hr.1 hc]; rfl
          · rw [if_neg hc, if_neg hc, e1]
            have hq : (0 : Int) < 128 ^ i := Int.pow_pos (by omega)
            have hle : bt b (i : Int) % 128 * 128 ^ i ≤ 127 * 128 ^ i := Int.mul_le_mul_of_nonneg_right (by omega) (by omega)
            have hge : 0 ≤ bt b (i : Int) % 128 * 128 ^ i := Int.mul_nonneg (by omega) (by omega)
            exact ih (i + 1) _ k (by omega) (by omega) (by rw [pow_succ']; omega) (by omega) (by omega)
      have step0 : i = 0 → vari_Get.j2 (k + 1) b n i false = some (if bt b i < 128 then (n + bt b i * 128 ^ i, (i : Int) + 1, 0) else dec ((bytesOf b).drop (i + 1)) (i + 1) (n + bt b i % 128 * 128 ^ i)) := by
        intro hi0
        simp only [vari_Get.j2]
        rw [if_neg (by decide), if_pos (by omega), if_pos (by omega), if_pos (w7 i (by omega)), hor]
        have e1 : wrap64 ((i : Int) + 1) = ((i + 1 : Nat) : Int) := by unfold wrap64; omega
        by_cases hc : bt b (i : Int) < 128
        · rw [if_pos hc, if_pos hc, e1, Int.emod_eq_of_lt hr.1 hc]; rfl
        · rw [if_neg hc, if_neg hc, e1]
          have hq : (0 : Int) < 128 ^ i := Int.pow_pos (by omega)
          have hle : bt b (i : Int) % 128 * 128 ^ i ≤ 127 * 128 ^ i := Int.mul_le_mul_of_nonneg_right (by omega) (by omega)
          have hge : 0 ≤ bt b (i : Int) % 128 * 128 ^ i := Int.mul_nonneg (by omega) (by omega)
          exact ih (i + 1) _ k (by omega) (by omega) (by rw [pow_succ']; omega) (by omega) (by omega)
      simp only [vari_Get.j1, dec]
      rw [if_neg (by decide), if_neg (show ¬ (i = 4 ∧ 15 < bt b (i : Int)) from fun h => by omega)]
      by_cases hp : 0 < i
      · rw [if_pos (by omega), if_pos (by omega), if_pos (by omega), step]
        by_cases hz : bt b (i : Int) = 0
        · rw [if_pos hz, if_pos ⟨hp, hz⟩]
        · rw [if_neg hz, if_neg (show ¬ (0 < i ∧ bt b (i : Int) = 0) from fun h => hz h.2)]
      · rw [if_neg (show ¬ ((i : Int) > 0) by omega), step0 (by omega), if_neg (show ¬ (0 < i ∧ bt b (i : Int) = 0) from fun h => hp h.1)]
theorem get_f (k : Nat) (b : ByteArray) (hb : b.size ≤ 140737488355328) (hk : 20 ≤ k) : vari_Get.f k b = some (dec (bytesOf b) 0 0) := by
  unfold vari_Get.f
  have := get_l0 b hb 4 0 0 k (by omega) (by omega) (by decide) (by omega) (by omega)
  exact this
theorem len_f (k : Nat) (n : Int) (hk : 10 ≤ k) : vari_Len.f k n = some (if 0 ≤ n ∧ n ≤ 4294967295 then ((encN 4 n).length : Int) else 0) := by
  unfold vari_Len.f
  rw [put_f k n hk]
  by_cases h : 0 ≤ n ∧ n ≤ 4294967295
  · rw [if_pos h, if_pos h]; simp only [Option.bind_some, strOfNums_size]
  · rw [if_neg h, if_neg h]; rfl
theorem alive_f (k : Nat) (hk : 20 ≤ k) : lexiphanelaw3_alive.f k = some true := by
  unfold lexiphanelaw3_alive.f
  rw [put_f k 300 (by omega), get_f k _ (by decide) hk, len_f k 300 (by omega)]
  decide +kernel
theorem VariLens : lexiphanelaw3_VariLens.Pure := by
  intro n m hn hm
  refine ⟨40, ?_⟩
  unfold lexiphanelaw3_VariLens.f
  rw [put_f 40 n (by omega), put_f 40 m (by omega), alive_f 40 (by omega)]
  simp only [Option.bind_some]
  by_cases h : 0 ≤ n ∧ n ≤ 4294967295
  · by_cases h' : 0 ≤ m ∧ m ≤ 4294967295
    · simp only [if_pos h, if_pos h', if_true, strOfNums_size]
      have l1 := encN_len 4 n
      have one := encN_one n h.1
      have e1 : ((((encN 4 n).length : Int) == 1) == decide (n < 128)) = true := by
        rw [beq_iff_eq, Bool.eq_iff_iff]
        simp only [beq_iff_eq, decide_eq_true_eq]
        omega
      have cn : n < cap 4 := by simp only [cap]; omega
      have cm : m < cap 4 := by simp only [cap]; omega
      have e2 : ((n == m) == ((strOfNums (encN 4 n)).toList == (strOfNums (encN 4 m)).toList)) = true := by
        rw [beq_iff_eq, Bool.eq_iff_iff, beq_iff_eq, beq_iff_eq, toList_iff]
        constructor
        · rintro rfl; rfl
        · intro he
          have := congrArg bytesOf he
          rw [bytesOf_str _ (encN_bytes 4 n h.1 cn), bytesOf_str _ (encN_bytes 4 m h'.1 cm)] at this
          exact encN_inj 4 n m this h.1 h'.1
      by_cases g : n > m
      · rw [if_pos g, if_pos (by omega), if_pos (by omega), if_pos e1, e2]
      · have := encN_mono 4 n m h.1 (by omega)
        rw [if_neg g, if_pos (by omega), if_pos (by omega), if_pos (by omega), if_pos e1, e2]
    · simp [if_pos h, if_neg h']
  · simp [if_neg h]
end Go.Proofs.Yticfnecibfofjaa.Pure
