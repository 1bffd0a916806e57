/- Proved: a number that goes on and on is too great at its fifth byte; for every input, under the bounds that the printed statement has. -/
import Derived.Test.YticfnecibfofjaaPVariLongx2
import Derived.Test.YticfnecibfofjaaVariSpec
namespace Go.Proofs.Yticfnecibfofjaa.Pure
open Go.RowKit Go.Proofs.Yticfnecibfofjaa.PVariLong Go.Proofs.Yticfnecibfofjaa.VariSpec Go.Proofs.YticfnecibfofjaaW.PrintWords Go.Proofs.YticfnecibfofjaaW.PrintLast Go.Proofs.YticfnecibfofjaaW.PrintMore

theorem wf_u8 {n : Int} (h : (Lit.int .u8 n).wf = true) : 0 ≤ n ∧ n ≤ 255 := by
  simp [Lit.wf, IntKind.min, IntKind.max, IntKind.signed, IntKind.bits] at h
  omega
/-! ### what the printed functions come to -/
theorem put_l0 : ∀ (f : Nat) (n : Int) (acc : List Int) (k : Nat), 0 ≤ n → n < cap f → f < k → acc.length + f < 1000 →
    vari_Put.l0 k n acc = some (strOfNums (acc ++ encN f n), true)
  | f, n, acc, 0, _, _, hk, _ => absurd hk (by omega)
  | 0, n, acc, k + 1, h0, h1, hk, hl => by
    simp only [cap] at h1
    simp only [vari_Put.l0, encN]
    rw [if_neg (by omega), if_pos (by omega), Int.emod_eq_of_lt h0 (by omega)]
  | f + 1, n, acc, k + 1, h0, h1, hk, hl => by
    simp only [cap] at h1
    simp only [vari_Put.l0, encN]
    by_cases h : n ≥ 128
    · have e : (wrap64 (Int.tmod n 128 + 128)) % 256 = n % 128 + 128 := by
        rw [Int.tmod_eq_emod_of_nonneg h0]; unfold wrap64; omega
      rw [if_pos h, if_pos (by omega), if_pos (show 128 ≤ n from h), e, put_l0 f (n / 128) _ k (by omega) (by omega) (by omega) (by simp; omega)]
      simp
    · rw [if_neg h, if_pos (by omega), if_neg h, Int.emod_eq_of_lt h0 (by omega)]
theorem put_f (k : Nat) (n : Int) (hk : 10 ≤ k) : vari_Put.f k n = some (if 0 ≤ n ∧ n ≤ 4294967295 then (strOfNums (encN 4 n), true) else ((⟨#[]⟩ : ByteArray), false)) := by
  obtain ⟨k, rfl⟩ : ∃ m, k = m + 1 := ⟨k - 1, by omega⟩
  unfold vari_Put.f
  by_cases h0 : n < 0
  · rw [if_pos h0, if_neg (by omega)]; simp only [vari_Put.j0]; rw [if_pos trivial]
  · rw [if_neg h0]
    simp only [vari_Put.j0]
    by_cases h1 : n > 4294967295
    · rw [if_pos (by simpa using h1), if_neg (by omega)]
    · rw [if_neg (by simpa using h1), if_pos (by omega), put_l0 4 n [] k (by omega) (by simp only [cap]; omega) (by omega) (by simp)]
      simp
theorem w7 (i : Nat) (h : i ≤ 4) : 0 ≤ wrap64 (7 * (i : Int)) := by
  have e : wrap64 (7 * (i : Int)) = 7 * (i : Int) := by
    obtain rfl | rfl | rfl | rfl | rfl : i = 0 ∨ i = 1 ∨ i = 2 ∨ i = 3 ∨ i = 4 := by omega
    all_goals decide +kernel
  omega
theorem get_l0 (b : ByteArray) (hb : b.size ≤ 140737488355328) : ∀ (f i : Nat) (n : Int) (k : Nat), i + f = 4 → 0 ≤ n → n < 128 ^ i → i ≤ b.size → 3 * f + 3 ≤ k →
    vari_Get.l0 k b n (i : Int) = some (dec ((bytesOf b).drop i) i n) := by
  intro f
  induction f with
  | zero =>
    intro i n k hi h0 h1 hs hk
    obtain ⟨k, rfl⟩ : ∃ m, k = m + 3 := ⟨k - 3, by omega⟩
    obtain rfl : i = 4 := by omega
    simp only [vari_Get.l0]
    by_cases he : ((4 : Nat) : Int) = (b.size : Int)
    · rw [if_pos he, List.drop_of_length_le (by rw [bytesOf_length]; omega)]; rfl
    · rw [if_neg he, if_pos (by omega), if_pos (by omega), if_pos (by omega), bytesOf_at b 4 (by omega)]
      have hr := bt_range b ((4 : Nat) : Int)
      simp only [vari_Get.j1, dec]
      by_cases h15 : bt b ((4 : Nat) : Int) > 15
      · rw [if_pos (by simpa using h15), if_pos ⟨trivial, h15⟩]
      · rw [if_neg (by simpa using h15), if_pos (by omega), if_pos (by omega), if_pos (by omega), if_neg (show ¬ (True ∧ 15 < bt b ((4 : Nat) : Int)) from fun h => h15 h.2)]
        simp only [vari_Get.j2]
        by_cases hz : bt b ((4 : Nat) : Int) = 0
        · rw [if_pos (by simpa using hz), if_pos ⟨by omega, hz⟩]
        · rw [if_neg (by simpa using hz), if_pos (by omega), if_pos (by omega), if_pos (w7 4 (by omega)), if_pos (by omega), if_neg (show ¬ (0 < 4 ∧ bt b ((4 : Nat) : Int) = 0) from fun h => hz h.2), if_pos (by omega), or_add n _ 4 (by omega) h0 h1 hr.1 (by omega), Int.emod_eq_of_lt hr.1 (by omega)]
          simp [wrap64]
  | succ f ih =>
    intro i n k hi h0 h1 hs hk
    obtain ⟨k, rfl⟩ : ∃ m, k = m + 3 := ⟨k - 3, by omega⟩
    simp only [vari_Get.l0]
    by_cases he : (i : Int) = (b.size : Int)
    · rw [if_pos he, List.drop_of_length_le (by rw [bytesOf_length]; omega)]; rfl
    · rw [if_neg he, if_neg (by omega), bytesOf_at b i (by omega)]
      have hr := bt_range b (i : Int)
      have hor := or_add n _ i (by omega) h0 h1 hr.1 (show bt b (i : Int) < 256 by omega)
      have step : vari_Get.j2 (k + 1) b n i (bt b i == 0) = some (if bt b i = 0 then (0, 0, 3) else if bt b i < 128 then (n + bt b i * 128 ^ i, (i : Int) + 1, 0) else dec ((bytesOf b).drop (i + 1)) (i + 1) (n + bt b i % 128 * 128 ^ i)) := by
        simp only [vari_Get.j2]
        by_cases hz : bt b (i : Int) = 0
        · rw [if_pos (by simpa using hz), if_pos hz]
        · rw [if_neg (by simpa using hz), if_neg hz, if_pos (by omega), if_pos (by omega), if_pos (w7 i (by omega)), hor]
          have e1 : wrap64 ((i : Int) + 1) = ((i + 1 : Nat) : Int) := by unfold wrap64; omega
          by_cases hc : bt b (i : Int) < 128
          · rw [if_pos hc, if_pos hc, e1, Int.emod_eq_of_lt hr.1 hc]; rfl
          · rw [if_neg hc, if_neg hc, e1]
            have hq : (0 : Int) < 128 ^ i := Int.pow_pos (by omega)
            have hle : bt b (i : Int) % 128 * 128 ^ i ≤ 127 * 128 ^ i := Int.mul_le_mul_of_nonneg_right (by omega) (by omega)
            have hge : 0 ≤ bt b (i : Int) % 128 * 128 ^ i := Int.mul_nonneg (by omega) (by omega)
            exact ih (i + 1) _ k (by omega) (by omega) (by rw [pow_succ']; omega) (by omega) (by omega)
      have step0 : i = 0 → vari_Get.j2 (k + 1) b n i false = some (if bt b i < 128 then (n + bt b i * 128 ^ i, (i : Int) + 1, 0) else dec ((bytesOf b).drop (i + 1)) (i + 1) (n + bt b i % 128 * 128 ^ i)) := by
        intro hi0
        simp only [vari_Get.j2]
        rw [if_neg (by decide), if_pos (by omega), if_pos (by omega), if_pos (w7 i (by omega)), hor]
        have e1 : wrap64 ((i : Int) + 1) = ((i + 1 : Nat) : Int) := by unfold wrap64; omega
        by_cases hc : bt b (i : Int) < 128
        · rw [if_pos hc, if_pos hc, e1, Int.emod_eq_of_lt hr.1 hc]; rfl
        · rw [if_neg hc, if_neg hc, e1]
          have hq : (0 : Int) < 128 ^ i := Int.pow_pos (by omega)
          have hle : bt b (i : Int) % 128 * 128 ^ i ≤ 127 * 128 ^ i := Int.mul_le_mul_of_nonneg_right (by omega) (by omega)
          have hge : 0 ≤ bt b (i : Int) % 128 * 128 ^ i := Int.mul_nonneg (by omega) (by omega)
          exact ih (i + 1) _ k (by omega) (by omega) (by rw [pow_succ']; omega) (by omega) (by omega)
      simp only [vari_Get.j1, dec]
      rw [if_neg (by decide), if_neg (show ¬ (i = 4 ∧ 15 < bt b (i : Int)) from fun h => by omega)]
      by_cases hp : 0 < i
      · rw [if_pos (by omega), if_pos (by omega), if_pos (by omega), step]
        by_cases hz : bt b (i : Int) = 0
        · rw [if_pos hz, if_pos ⟨hp, hz⟩]
        · rw [if_neg hz, if_neg (show ¬ (0 < i ∧ bt b (i : Int) = 0) from fun h => hz h.2)]
      · rw [if_neg (show ¬ ((i : Int) > 0) by omega), step0 (by omega), if_neg (show ¬ (0 < i ∧ bt b (i : Int) = 0) from fun h => hp h.1)]
theorem get_f (k : Nat) (b : ByteArray) (hb : b.size ≤ 140737488355328) (hk : 20 ≤ k) : vari_Get.f k b = some (dec (bytesOf b) 0 0) := by
  unfold vari_Get.f
  have := get_l0 b hb 4 0 0 k (by omega) (by omega) (by decide) (by omega) (by omega)
  exact this
theorem len_f (k : Nat) (n : Int) (hk : 10 ≤ k) : vari_Len.f k n = some (if 0 ≤ n ∧ n ≤ 4294967295 then ((encN 4 n).length : Int) else 0) := by
  unfold vari_Len.f
  rw [put_f k n hk]
  by_cases h : 0 ≤ n ∧ n ≤ 4294967295
  · rw [if_pos h, if_pos h]; simp only [Option.bind_some, strOfNums_size]
  · rw [if_neg h, if_neg h]; rfl
theorem alive_f (k : Nat) (hk : 20 ≤ k) : lexiphanelaw3_alive.f k = some true := by
  unfold lexiphanelaw3_alive.f
  rw [put_f k 300 (by omega), get_f k _ (by decide) hk, len_f k 300 (by omega)]
  decide +kernel
theorem dec_long : ∀ (m i : Nat) (acc : Int) (rest : List Int), i + m ≤ 4 → ∃ a, dec (List.replicate m 129 ++ rest) i acc = dec rest (i + m) a
  | 0, i, acc, rest, _ => ⟨acc, by simp⟩
  | m + 1, i, acc, rest, h => by
    obtain ⟨a, ha⟩ := dec_long m (i + 1) (acc + 129 % 128 * 128 ^ i) rest (by omega)
    refine ⟨a, ?_⟩
    rw [List.replicate_succ, List.cons_append]
    simp only [dec]
    rw [if_neg (by omega), if_neg (by omega), if_neg (by omega), ha]
    congr 1
    omega
theorem long_l0 (n last : Int) : ∀ (d : Nat) (k : Nat) (i : Nat), (i : Int) ≤ n → n ≤ 20 → n - i = d →
    lexiphanelaw3_VariLong.l0 (k + d) n last (strOfNums (List.replicate i 129)) i = lexiphanelaw3_VariLong.l0 k n last (strOfNums (List.replicate n.toNat 129)) n
  | 0, k, i, h0, h1, hd => by
    obtain rfl : n = i := by omega
    simp
  | d + 1, k, i, h0, h1, hd => by
    show lexiphanelaw3_VariLong.l0 (k + d + 1) n last _ i = _
    have e1 : wrap64 ((i : Int) + 1) = ((i + 1 : Nat) : Int) := by unfold wrap64; omega
    have e2 : strOfNums (List.replicate i 129) ++ (⟨#[129]⟩ : ByteArray) = strOfNums (List.replicate (i + 1) 129) := by
      refine bytesOf_inj _ _ ?_
      have hr : ∀ j : Nat, ∀ x ∈ List.replicate j (129 : Int), 0 ≤ x ∧ x < 256 := by
        intro j x hx
        rw [List.eq_of_mem_replicate hx]; decide
      rw [bytesOf_append, bytesOf_str _ (hr i), bytesOf_str _ (hr (i + 1)), List.replicate_succ']
      rfl
    rw [← long_l0 n last d k (i + 1) (by omega) h1 (by omega)]
    conv => lhs; simp only [lexiphanelaw3_VariLong.l0]
    rw [if_pos (by omega), if_pos (by rw [strOfNums_size, List.length_replicate]; omega), e1, e2]
theorem VariLong : lexiphanelaw3_VariLong.Pure := by
  intro n last hn hl
  have hlb := wf_u8 hl
  refine ⟨100, ?_⟩
  unfold lexiphanelaw3_VariLong.f
  have big : lexiphanelaw3_VariLong.j0 100 n last true = some true := by
    simp only [lexiphanelaw3_VariLong.j0]
    rw [if_pos trivial, alive_f 99 (by omega)]; rfl
  by_cases h0 : n < 0
  · rw [if_pos h0]; exact big
  · rw [if_neg h0]
    by_cases h1 : n > 20
    · rw [if_pos h1]; exact big
    · rw [if_neg h1, alive_f 100 (by omega)]
      simp only [Option.bind_some, Bool.not_true, lexiphanelaw3_VariLong.j0]
      rw [if_neg (by decide)]
      have hs := long_l0 n last n.toNat (99 - n.toNat) 0 (by omega) (by omega) (by omega)
      rw [show 99 - n.toNat + n.toNat = 99 from by omega] at hs
      have e0 : strOfNums (List.replicate 0 129) = (⟨#[]⟩ : ByteArray) := rfl
      rw [e0] at hs
      rw [show ((0 : Nat) : Int) = 0 from rfl] at hs
      rw [hs]
      obtain ⟨k, hk, hk2⟩ : ∃ k, 99 - n.toNat = k + 2 ∧ 30 ≤ k := ⟨97 - n.toNat, by omega, by omega⟩
      rw [hk]
      have hr : ∀ x ∈ List.replicate n.toNat (129 : Int), 0 ≤ x ∧ x < 256 := by
        intro x hx
        rw [List.eq_of_mem_replicate hx]; decide
      have hrl : ∀ x ∈ [last], 0 ≤ x ∧ x < 256 := by
        intro x hx
        simp only [List.mem_singleton] at hx
        omega
      conv => lhs; simp only [lexiphanelaw3_VariLong.l0]
      rw [if_neg (by omega), get_f (k + 1) _ (by rw [strOfNums_size, List.length_replicate]; omega) (by omega)]
      simp only [Option.bind_some]
      rw [if_pos (by rw [strOfNums_size, strOfNums_size, List.length_replicate]; simp; omega), get_f (k + 1) _ (by rw [ByteArray.size_append, strOfNums_size, strOfNums_size, List.length_replicate]; simp; omega) (by omega), bytesOf_append, bytesOf_str _ hr, bytesOf_str _ hrl]
      simp only [Option.bind_some]
      by_cases h5 : n ≥ 5
      · have hd : ∀ rest : List Int, dec (List.replicate n.toNat 129 ++ rest) 0 0 = (0, 0, 4) := by
          intro rest
          obtain ⟨m, hm⟩ : ∃ m, n.toNat = 4 + (m + 1) := ⟨n.toNat - 5, by omega⟩
          rw [hm, ← List.replicate_append_replicate, List.append_assoc]
          obtain ⟨a, ha⟩ := dec_long 4 0 0 (List.replicate (m + 1) 129 ++ rest) (by omega)
          rw [ha, List.replicate_succ, List.cons_append]
          simp [dec]
        have hd0 := hd []
        rw [List.append_nil] at hd0
        rw [if_pos h5, hd, hd0]
        simp
      · rw [if_neg h5]
        obtain ⟨a, ha⟩ := dec_long n.toNat 0 0 [last] (by omega)
        obtain ⟨a', ha'⟩ := dec_long n.toNat 0 0 [] (by omega)
        rw [List.append_nil] at ha'
        rw [ha, ha', Nat.zero_add]
        have hj : ∀ x : Bool, lexiphanelaw3_VariLong.j2 (k + 1) n last (dec [last] n.toNat a).2.1 (dec [last] n.toNat a).2.2 x = (if x = true then some ((dec [last] n.toNat a).2.2 == 4) else if last ≥ 128 then some ((dec [last] n.toNat a).2.2 == 2) else if last = 0 then (if n > 0 then some ((dec [last] n.toNat a).2.2 == 3) else if (dec [last] n.toNat a).2.2 = 0 then some ((dec [last] n.toNat a).2.1 == wrap64 (n + 1)) else some false) else if (dec [last] n.toNat a).2.2 = 0 then some ((dec [last] n.toNat a).2.1 == wrap64 (n + 1)) else some false) := by
          intro x
          simp only [lexiphanelaw3_VariLong.j2]
        have e1 : wrap64 (n + 1) = (n.toNat : Int) + 1 := by unfold wrap64; omega
        have ed : (dec [] n.toNat a').2.2 = 2 := rfl
        have hdl : dec [last] n.toNat a = if n.toNat = 4 ∧ 15 < last then (0, 0, 4) else if 0 < n.toNat ∧ last = 0 then (0, 0, 3) else if last < 128 then (a + last * 128 ^ n.toNat, (n.toNat : Int) + 1, 0) else (0, 0, 2) := rfl
        rw [if_pos ed, hj, hj, e1]
        generalize dec [last] n.toNat a = d at hdl
        by_cases h4 : n = 4
        · rw [if_pos h4]
          by_cases h15 : last > 15
          · rw [if_pos ⟨by omega, h15⟩] at hdl
            subst hdl
            simp [h15]
          · rw [if_neg (show ¬ (n.toNat = 4 ∧ 15 < last) from fun h => h15 h.2)] at hdl
            rw [if_neg (by simpa using h15), if_neg (by omega)]
            by_cases hz : last = 0
            · rw [if_pos ⟨by omega, hz⟩] at hdl
              subst hdl
              rw [if_pos hz, if_pos (by omega)]; rfl
            · rw [if_neg (show ¬ (0 < n.toNat ∧ last = 0) from fun h => hz h.2), if_pos (by omega)] at hdl
              subst hdl
              rw [if_neg hz, if_pos rfl]
              simp
        · rw [if_neg h4, if_neg (by decide)]
          rw [if_neg (show ¬ (n.toNat = 4 ∧ 15 < last) from fun h => h4 (by omega))] at hdl
          by_cases h128 : last ≥ 128
          · rw [if_neg (show ¬ (0 < n.toNat ∧ last = 0) from fun h => by omega), if_neg (by omega)] at hdl
            subst hdl
            rw [if_pos h128]; rfl
          · rw [if_neg h128]
            by_cases hz : last = 0
            · rw [if_pos hz]
              by_cases hp : n > 0
              · rw [if_pos ⟨by omega, hz⟩] at hdl
                subst hdl
                rw [if_pos hp]; rfl
              · rw [if_neg (show ¬ (0 < n.toNat ∧ last = 0) from fun h => hp (by omega)), if_pos (by omega)] at hdl
                subst hdl
                rw [if_neg hp, if_pos rfl]
                simp
            · rw [if_neg (show ¬ (0 < n.toNat ∧ last = 0) from fun h => hz h.2), if_pos (by omega)] at hdl
              subst hdl
              rw [if_neg hz, if_pos rfl]
              simp
end Go.Proofs.Yticfnecibfofjaa.Pure
