/- Proved: bytes that are a number are just that number's, and fewer of them are none; for every input, under the bounds that the printed statement has. -/
import Derived.Test.YticfnecibfofjaaPVariOncex2
import Derived.Test.YticfnecibfofjaaVariSpec
namespace Go.Proofs.Yticfnecibfofjaa.Pure
open Go.RowKit Go.Proofs.Yticfnecibfofjaa.PVariOnce Go.Proofs.Yticfnecibfofjaa.VariSpec Go.Proofs.YticfnecibfofjaaW.PrintWords Go.Proofs.YticfnecibfofjaaW.PrintLast Go.Proofs.YticfnecibfofjaaW.PrintMore

theorem wf_i64 {n : Int} (h : (Lit.int .i64 n).wf = true) : -9223372036854775808 ≤ n ∧ n ≤ 9223372036854775807 := by
  simp [Lit.wf, IntKind.min, IntKind.max, IntKind.signed, IntKind.bits] at h
  omega
/-! ### what the printed functions come to -/
theorem put_l0 : ∀ (f : Nat) (n : Int) (acc : List Int) (k : Nat), 0 ≤ n → n < cap f → f < k → acc.length + f < 1000 →
    vari_Put.l0 k n acc = some (strOfNums (acc ++ encN f n), true)
  | f, n, acc, 0, _, _, hk, _ => absurd hk (by omega)
  | 0, n, acc, k + 1, h0, h1, hk, hl => by
    simp only [cap] at h1
    simp only [vari_Put.l0, encN]
    rw [if_neg (by omega), if_pos (by omega), Int.emod_eq_of_lt h0 (by omega)]
  | f + 1, n, acc, k + 1, h0, h1, hk, hl => by
    simp only [cap] at h1
    simp only [vari_Put.l0, encN]
    by_cases h : n ≥ 128
    · have e : (wrap64 (Int.tmod n 128 + 128)) % 256 = n % 128 + 128 := by
        rw [Int.tmod_eq_emod_of_nonneg h0]; unfold wrap64; omega
      rw [if_pos h, if_pos (by omega), if_pos (show 128 ≤ n from h), e, put_l0 f (n / 128) _ k (by omega) (by omega) (by omega) (by simp; omega)]
      simp
    · rw [if_neg h, if_pos (by omega), if_neg h, Int.emod_eq_of_lt h0 (by omega)]
theorem put_f (k : Nat) (n : Int) (hk : 10 ≤ k) : vari_Put.f k n = some (if 0 ≤ n ∧ n ≤ 4294967295 then (strOfNums (encN 4 n), true) else ((⟨#[]⟩ : ByteArray), false)) := by
  obtain ⟨k, rfl⟩ : ∃ m, k = m + 1 := ⟨k - 1, by omega⟩
  unfold vari_Put.f
  by_cases h0 : n < 0
  · rw [if_pos h0, if_neg (by omega)]; simp only [vari_Put.j0]; rw [if_pos trivial]
  · rw [if_neg h0]
    simp only [vari_Put.j0]
    by_cases h1 : n > 4294967295
    · rw [if_pos (by simpa using h1), if_neg (by omega)]
    · rw [if_neg (by simpa using h1), if_pos (by omega), put_l0 4 n [] k (by omega) (by simp only [cap]; omega) (by omega) (by simp)]
      simp
theorem w7 (i : Nat) (h : i ≤ 4) : 0 ≤ wrap64 (7 * (i : Int)) := by
  have e : wrap64 (7 * (i : Int)) = 7 * (i : Int) := by
    obtain rfl | rfl | rfl | rfl | rfl : i = 0 ∨ i = 1 ∨ i = 2 ∨ i = 3 ∨ i = 4 := by omega
    all_goals decide +kernel
  omega
theorem get_l0 (b : ByteArray) (hb : b.size ≤ 140737488355328) : ∀ (f i : Nat) (n : Int) (k : Nat), i + f = 4 → 0 ≤ n → n < 128 ^ i → i ≤ b.size → 3 * f + 3 ≤ k →
    vari_Get.l0 k b n (i : Int) = some (dec ((bytesOf b).drop i) i n) := by
  intro f
  induction f with
  | zero =>
    intro i n k hi h0 h1 hs hk
    obtain ⟨k, rfl⟩ : ∃ m, k = m + 3 := ⟨k - 3, by omega⟩
    obtain rfl : i = 4 := by omega
    simp only [vari_Get.l0]
    by_cases he : ((4 : Nat) : Int) = (b.size : Int)
    · rw [if_pos he, List.drop_of_length_le (by rw [bytesOf_length]; omega)]; rfl
    · rw [if_neg he, if_pos (by omega), if_pos (by omega), if_pos (by omega), bytesOf_at b 4 (by omega)]
      have hr := bt_range b ((4 : Nat) : Int)
      simp only [vari_Get.j1, dec]
      by_cases h15 : bt b ((4 : Nat) : Int) > 15
      · rw [if_pos (by simpa using h15), if_pos ⟨trivial, h15⟩]
      · rw [if_neg (by simpa using h15), if_pos (by omega), if_pos (by omega), if_pos (by omega), if_neg (show ¬ (True ∧ 15 < bt b ((4 : Nat) : Int)) from fun h => h15 h.2)]
        simp only [vari_Get.j2]
        by_cases hz : bt b ((4 : Nat) : Int) = 0
        · rw [if_pos (by simpa using hz), if_pos ⟨by omega, hz⟩]
        · rw [if_neg (by simpa using hz), if_pos (by omega), if_pos (by omega), if_pos (w7 4 (by omega)), if_pos (by omega), if_neg (show ¬ (0 < 4 ∧ bt b ((4 : Nat) : Int) = 0) from fun h => hz h.2), if_pos (by omega), or_add n _ 4 (by omega) h0 h1 hr.1 (by omega), Int.emod_eq_of_lt hr.1 (by omega)]
          simp [wrap64]
  | succ f ih =>
    intro i n k hi h0 h1 hs hk
    obtain ⟨k, rfl⟩ : ∃ m, k = m + 3 := ⟨k - 3, by omega⟩
    simp only [vari_Get.l0]
    by_cases he : (i : Int) = (b.size : Int)
    · rw [if_pos he, List.drop_of_length_le (by rw [bytesOf_length]; omega)]; rfl
    · rw [if_neg he, if_neg (by omega), bytesOf_at b i (by omega)]
      have hr := bt_range b (i : Int)
      have hor := or_add n _ i (by omega) h0 h1 hr.1 (show bt b (i : Int) < 256 by omega)
      have step : vari_Get.j2 (k + 1) b n i (bt b i == 0) = some (if bt b i = 0 then (0, 0, 3) else if bt b i < 128 then (n + bt b i * 128 ^ i, (i : Int) + 1, 0) else dec ((bytesOf b).drop (i + 1)) (i + 1) (n + bt b i % 128 * 128 ^ i)) := by
        simp only [vari_Get.j2]
        by_cases hz : bt b (i : Int) = 0
        · rw [if_pos (by simpa using hz), if_pos hz]
        · rw [if_neg (by simpa using hz), if_neg hz, if_pos (by omega), if_pos (by omega), if_pos (w7 i (by omega)), hor]
          have e1 : wrap64 ((i : Int) + 1) = ((i + 1 : Nat) : Int) := by unfold wrap64; omega
          by_cases hc : bt b (i : Int) < 128
          · rw [if_pos hc, if_pos hc, e1, Int.emod_eq_of_lt hr.1 hc]; rfl
          · rw [if_neg hc, if_neg hc, e1]
            have hq : (0 : Int) < 128 ^ i := Int.pow_pos (by omega)
            have hle : bt b (i : Int) % 128 * 128 ^ i ≤ 127 * 128 ^ i := Int.mul_le_mul_of_nonneg_right (by omega) (by omega)
            have hge : 0 ≤ bt b (i : Int) % 128 * 128 ^ i := Int.mul_nonneg (by omega) (by omega)
            exact ih (i + 1) _ k (by omega) (by omega) (by rw [pow_succ']; omega) (by omega) (by omega)
      have step0 : i = 0 → vari_Get.j2 (k + 1) b n i false = some (if bt b i < 128 then (n + bt b i * 128 ^ i, (i : Int) + 1, 0) else dec ((bytesOf b).drop (i + 1)) (i + 1) (n + bt b i % 128 * 128 ^ i)) := by
        intro hi0
        simp only [vari_Get.j2]
        rw [if_neg (by decide), if_pos (by omega), if_pos (by omega), if_pos (w7 i (by omega)), hor]
        have e1 : wrap64 ((i : Int) + 1) = ((i + 1 : Nat) : Int) := by unfold wrap64; omega
        by_cases hc : bt b (i : Int) < 128
        · rw [if_pos hc, if_pos hc, e1, Int.emod_eq_of_lt hr.1 hc]; rfl
        · rw [if_neg hc, if_neg hc, e1]
          have hq : (0 : Int) < 128 ^ i := Int.pow_pos (by omega)
          have hle : bt b (i : Int) % 128 * 128 ^ i ≤ 127 * 128 ^ i := Int.mul_le_mul_of_nonneg_right (by omega) (by omega)
          have hge : 0 ≤ bt b (i : Int) % 128 * 128 ^ i := Int.mul_nonneg (by omega) (by omega)
          exact ih (i + 1) _ k (by omega) (by omega) (by rw [pow_succ']; omega) (by omega) (by omega)
      simp only [vari_Get.j1, dec]
      rw [if_neg (by decide), if_neg (show ¬ (i = 4 ∧ 15 < bt b (i : Int)) from fun h => by omega)]
      by_cases hp : 0 < i
      · rw [if_pos (by omega), if_pos (by omega), if_pos (by omega), step]
        by_cases hz : bt b (i : Int) = 0
        · rw [if_pos hz, if_pos ⟨hp, hz⟩]
        · rw [if_neg hz, if_neg (show ¬ (0 < i ∧ bt b (i : Int) = 0) from fun h => hz h.2)]
      · rw [if_neg (show ¬ ((i : Int) > 0) by omega), step0 (by omega), if_neg (show ¬ (0 < i ∧ bt b (i : Int) = 0) from fun h => hp h.1)]
theorem get_f (k : Nat) (b : ByteArray) (hb : b.size ≤ 140737488355328) (hk : 20 ≤ k) : vari_Get.f k b = some (dec (bytesOf b) 0 0) := by
  unfold vari_Get.f
  have := get_l0 b hb 4 0 0 k (by omega) (by omega) (by decide) (by omega) (by omega)
  exact this
theorem len_f (k : Nat) (n : Int) (hk : 10 ≤ k) : vari_Len.f k n = some (if 0 ≤ n ∧ n ≤ 4294967295 then ((encN 4 n).length : Int) else 0) := by
  unfold vari_Len.f
  rw [put_f k n hk]
  by_cases h : 0 ≤ n ∧ n ≤ 4294967295
  · rw [if_pos h, if_pos h]; simp only [Option.bind_some, strOfNums_size]
  · rw [if_neg h, if_neg h]; rfl
theorem alive_f (k : Nat) (hk : 20 ≤ k) : lexiphanelaw3_alive.f k = some true := by
  unfold lexiphanelaw3_alive.f
  rw [put_f k 300 (by omega), get_f k _ (by decide) hk, len_f k 300 (by omega)]
  decide +kernel
theorem VariOnce : lexiphanelaw3_VariOnce.Pure := by
  intro b c hb hc
  refine ⟨40, ?_⟩
  unfold lexiphanelaw3_VariOnce.f
  by_cases h60 : (b.size : Int) > 60
  · rw [if_pos h60]
    simp only [lexiphanelaw3_VariOnce.j0]
    rw [if_pos trivial, alive_f 39 (by omega)]; rfl
  · rw [if_neg h60, alive_f 40 (by omega)]
    simp only [Option.bind_some, Bool.not_true, lexiphanelaw3_VariOnce.j0]
    rw [if_neg (by decide), get_f 39 b (by omega) (by omega)]
    simp only [Option.bind_some]
    rcases hd : dec (bytesOf b) 0 0 with ⟨v, j, e⟩
    by_cases he : e = 0
    · subst he
      obtain ⟨n, n0, n1, _, hv, hj, rest, hl⟩ := dec_inv 4 0 _ _ _ _ (by omega) (bytesOf_range b) hd
      have hlen := encN_len 4 n
      simp only [Int.pow_zero, Int.mul_one, Int.zero_add] at hv
      subst hv
      have hmax : v ≤ 4294967295 := by simp only [cap] at n1; omega
      have hbl : b.size = (encN 4 v).length + rest.length := by rw [← bytesOf_length, hl, List.length_append]
      have hj' : j = ((encN 4 v).length : Int) := by rw [hj]; simp
      have hpre : b.extract 0 (encN 4 v).length = strOfNums (encN 4 v) := by
        refine bytesOf_inj _ _ ?_
        rw [bytesOf_str _ (encN_bytes 4 v n0 n1), bytesOf_extract, hl]
        simp
      simp only [if_true]
      rw [put_f 39 v (by omega), len_f 39 v (by omega), if_pos ⟨n0, hmax⟩, if_pos ⟨n0, hmax⟩]
      simp only [Option.bind_some]
      rw [if_pos trivial, if_neg (by omega), if_neg (by omega), if_neg (by omega), if_pos (by omega), if_pos (by omega)]
      rw [if_pos (by rw [hj', Int.toNat_natCast, hpre]), if_pos hj'.symm, if_neg (by omega)]
      have hcb := wf_i64 hc
      have ht : ∃ t : Nat, Int.tmod (wrap64 (Int.tmod c j + j)) j = (t : Int) ∧ t < (encN 4 v).length := by
        rw [hj']
        generalize (encN 4 v).length = L at hlen
        have h1 : -(L : Int) < Int.tmod c L ∧ Int.tmod c L < L := by
          have a1 := Int.tmod_lt_of_pos c (show (0 : Int) < L by omega)
          have a2 := Int.lt_tmod_of_pos c (show (0 : Int) < L by omega)
          omega
        have h2 : wrap64 (Int.tmod c L + L) = Int.tmod c L + L := by unfold wrap64; omega
        rw [h2]
        have h3 : 0 ≤ Int.tmod c L + L := by omega
        rw [Int.tmod_eq_emod_of_nonneg h3]
        have h4 := Int.emod_nonneg (Int.tmod c L + L) (show (L : Int) ≠ 0 by omega)
        have h5 := Int.emod_lt_of_pos (Int.tmod c L + L) (show (0 : Int) < L by omega)
        exact ⟨((Int.tmod c L + L) % L).toNat, by omega, by omega⟩
      obtain ⟨t, et, htl⟩ := ht
      rw [et, if_pos (by omega), if_pos (by omega), Int.toNat_natCast, get_f 39 _ (by rw [ByteArray.size_extract]; omega) (by omega), bytesOf_extract, hl, List.drop_zero, List.take_append_of_le_length (by omega), dec_cut 4 0 v 0 t (by omega) n0 n1 (by omega) htl]
      rfl
    · rcases dec_none _ _ _ _ _ _ hd with h | ⟨rfl, rfl⟩
      · exact absurd h he
      · simp [he]
end Go.Proofs.Yticfnecibfofjaa.Pure
