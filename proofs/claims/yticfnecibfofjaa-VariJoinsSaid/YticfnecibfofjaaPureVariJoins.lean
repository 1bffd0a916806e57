/- Proved: numbers one behind the other are read one by one; for every input, under the bounds that the printed statement has. -/
import Derived.Test.YticfnecibfofjaaPVariJoinsx2
import Derived.Test.YticfnecibfofjaaVariSpec
namespace Go.Proofs.Yticfnecibfofjaa.Pure
open Go.RowKit Go.Proofs.Yticfnecibfofjaa.PVariJoins Go.Proofs.Yticfnecibfofjaa.VariSpec Go.Proofs.YticfnecibfofjaaW.PrintWords Go.Proofs.YticfnecibfofjaaW.PrintLast Go.Proofs.YticfnecibfofjaaW.PrintMore

/-! ### what the printed functions come to -/
theorem put_l0 : ∀ (f : Nat) (n : Int) (acc : List Int) (k : Nat), 0 ≤ n → n < cap f → f < k → acc.length + f < 1000 →
    vari_Put.l0 k n acc = some (strOfNums (acc ++ encN f n), true)
  | f, n, acc, 0, _, _, hk, _ => absurd hk (by omega)
  | 0, n, acc, k + 1, h0, h1, hk, hl => by
    simp only [cap] at h1
    simp only [vari_Put.l0, encN]
    rw [if_neg (by omega), if_pos (by omega), Int.emod_eq_of_lt h0 (by omega)]
  | f + 1, n, acc, k + 1, h0, h1, hk, hl => by
    simp only [cap] at h1
    simp only [vari_Put.l0, encN]
    by_cases h : n ≥ 128
    · have e : (wrap64 (Int.tmod n 128 + 128)) % 256 = n % 128 + 128 := by
        rw [Int.tmod_eq_emod_of_nonneg h0]; unfold wrap64; omega
      rw [if_pos h, if_pos (by omega), if_pos (show 128 ≤ n from h), e, put_l0 f (n / 128) _ k (by omega) (by omega) (by omega) (by simp; omega)]
      simp
    · rw [if_neg h, if_pos (by omega), if_neg h, Int.emod_eq_of_lt h0 (by omega)]
theorem put_f (k : Nat) (n : Int) (hk : 10 ≤ k) : vari_Put.f k n = some (if 0 ≤ n ∧ n ≤ 4294967295 then (strOfNums (encN 4 n), true) else ((⟨#[]⟩ : ByteArray), false)) := by
  obtain ⟨k, rfl⟩ : ∃ m, k = m + 1 := ⟨k - 1, by omega⟩
  unfold vari_Put.f
  by_cases h0 : n < 0
  · rw [if_pos h0, if_neg (by omega)]; simp only [vari_Put.j0]; rw [if_pos trivial]
  · rw [if_neg h0]
    simp only [vari_Put.j0]
    by_cases h1 : n > 4294967295
    · rw [if_pos (by simpa using h1), if_neg (by omega)]
    · rw [if_neg (by simpa using h1), if_pos (by omega), put_l0 4 n [] k (by omega) (by simp only [cap]; omega) (by omega) (by simp)]
      simp
theorem w7 (i : Nat) (h : i ≤ 4) : 0 ≤ wrap64 (7 * (i : Int)) := by
  have e : wrap64 (7 * (i : Int)) = 7 * (i : Int) := by
    obtain rfl | rfl | rfl | rfl | rfl : i = 0 ∨ i = 1 ∨ i = 2 ∨ i = 3 ∨ i = 4 := by omega
    all_goals decide +kernel
  omega
theorem get_l0 (b : ByteArray) (hb : b.size ≤ 140737488355328) : ∀ (f i : Nat) (n : Int) (k : Nat), i + f = 4 → 0 ≤ n → n < 128 ^ i → i ≤ b.size → 3 * f + 3 ≤ k →
    vari_Get.l0 k b n (i : Int) = some (dec ((bytesOf b).drop i) i n) := by
  intro f
  induction f with
  | zero =>
    intro i n k hi h0 h1 hs hk
    obtain ⟨k, rfl⟩ : ∃ m, k = m + 3 := ⟨k - 3, by omega⟩
    obtain rfl : i = 4 := by omega
    simp only [vari_Get.l0]
    by_cases he : ((4 : Nat) : Int) = (b.size : Int)
    · rw [if_pos he, List.drop_of_length_le (by rw [bytesOf_length]; omega)]; rfl
    · rw [if_neg he, if_pos (by omega), if_pos (by omega), if_pos (by omega), bytesOf_at b 4 (by omega)]
      have hr := bt_range b ((4 : Nat) : Int)
      simp only [vari_Get.j1, dec]
      by_cases h15 : bt b ((4 : Nat) : Int) > 15
      · rw [if_pos (by simpa using h15), if_pos ⟨trivial, h15⟩]
      · rw [if_neg (by simpa using h15), if_pos (by omega), if_pos (by omega), if_pos (by omega), if_neg (show ¬ (True ∧ 15 < bt b ((4 : Nat) : Int)) from fun h => h15 h.2)]
        simp only [vari_Get.j2]
        by_cases hz : bt b ((4 : Nat) : Int) = 0
        · rw [if_pos (by simpa using hz), if_pos ⟨by omega, hz⟩]
        · rw [if_neg (by simpa using hz), if_pos (by omega), if_pos (by omega), if_pos (w7 4 (by omega)), if_pos (by omega), if_neg (show ¬ (0 < 4 ∧ bt b ((4 : Nat) : Int) = 0) from fun h => hz h.2), if_pos (by omega), or_add n _ 4 (by omega) h0 h1 hr.1 (by omega), Int.emod_eq_of_lt hr.1 (by omega)]
          simp [wrap64]
  | succ f ih =>
    intro i n k hi h0 h1 hs hk
    obtain ⟨k, rfl⟩ : ∃ m, k = m + 3 := ⟨k - 3, by omega⟩
    simp only [vari_Get.l0]
    by_cases he : (i : Int) = (b.size : Int)
    · rw [if_pos he, List.drop_of_length_le (by rw [bytesOf_length]; omega)]; rfl
    · rw [if_neg he, if_neg (by omega), bytesOf_at b i (by omega)]
      have hr := bt_range b (i : Int)
      have hor := or_add n _ i (by omega) h0 h1 hr.1 (show bt b (i : Int) < 256 by omega)
      have step : vari_Get.j2 (k + 1) b n i (bt b i == 0) = some (if bt b i = 0 then (0, 0, 3) else if bt b i < 128 then (n + bt b i * 128 ^ i, (i : Int) + 1, 0) else dec ((bytesOf b).drop (i + 1)) (i + 1) (n + bt b i % 128 * 128 ^ i)) := by
        simp only [vari_Get.j2]
        by_cases hz : bt b (i : Int) = 0
        · rw [if_pos (by simpa using hz), if_pos hz]
        · rw [if_neg (by simpa using hz), if_neg hz, if_pos (by omega), if_pos (by omega), if_pos (w7 i (by omega)), hor]
          have e1 : wrap64 ((i : Int) + 1) = ((i + 1 : Nat) : Int) := by unfold wrap64; omega
          by_cases hc : bt b (i : Int) < 128
          · rw [if_pos hc, if_pos hc, e1, Int.emod_eq_of_lt hr.1 hc]; rfl
          · rw [if_neg hc, if_neg hc, e1]
            have hq : (0 : Int) < 128 ^ i := Int.pow_pos (by omega)
            have hle : bt b (i : Int) % 128 * 128 ^ i ≤ 127 * 128 ^ i := Int.mul_le_mul_of_nonneg_right (by omega) (by omega)
            have hge : 0 ≤ bt b (i : Int) % 128 * 128 ^ i := Int.mul_nonneg (by omega) (by omega)
            exact ih (i + 1) _ k (by omega) (by omega) (by rw [pow_succ']; omega) (by omega) (by omega)
      have step0 : i = 0 → vari_Get.j2 (k + 1) b n i false = some (if bt b i < 128 then (n + bt b i * 128 ^ i, (i : Int) + 1, 0) else dec ((bytesOf b).drop (i + 1)) (i + 1) (n + bt b i % 128 * 128 ^ i)) := by
        intro hi0
        simp only [vari_Get.j2]
        rw [if_neg (by decide), if_pos (by omega), if_pos (by omega), if_pos (w7 i (by omega)), hor]
        have e1 : wrap64 ((i : Int) + 1) = ((i + 1 : Nat) : Int) := by unfold wrap64; omega
        by_cases hc : bt b (i : Int) < 128
        · rw [if_pos hc, if_pos hc, e1, Int.emod_eq_of_lt hr.1 hc]; rfl
        · rw [if_neg hc, if_neg hc, e1]
          have hq : (0 : Int) < 128 ^ i := Int.pow_pos (by omega)
          have hle : bt b (i : Int) % 128 * 128 ^ i ≤ 127 * 128 ^ i := Int.mul_le_mul_of_nonneg_right (by omega) (by omega)
          have hge : 0 ≤ bt b (i : Int) % 128 * 128 ^ i := Int.mul_nonneg (by omega) (by omega)
          exact ih (i + 1) _ k (by omega) (by omega) (by rw [pow_succ']; omega) (by omega) (by omega)
      simp only [vari_Get.j1, dec]
      rw [if_neg (by decide), if_neg (show ¬ (i = 4 ∧ 15 < bt b (i : Int)) from fun h => by omega)]
      by_cases hp : 0 < i
      · rw [if_pos (by omega), if_pos (by omega), if_pos (by omega), step]
        by_cases hz : bt b (i : Int) = 0
        · rw [if_pos hz, if_pos ⟨hp, hz⟩]
        · rw [if_neg hz, if_neg (show ¬ (0 < i ∧ bt b (i : Int) = 0) from fun h => hz h.2)]
      · rw [if_neg (show ¬ ((i : Int) > 0) by omega), step0 (by omega), if_neg (show ¬ (0 < i ∧ bt b (i : Int) = 0) from fun h => hp h.1)]
theorem get_f (k : Nat) (b : ByteArray) (hb : b.size ≤ 140737488355328) (hk : 20 ≤ k) : vari_Get.f k b = some (dec (bytesOf b) 0 0) := by
  unfold vari_Get.f
  have := get_l0 b hb 4 0 0 k (by omega) (by omega) (by decide) (by omega) (by omega)
  exact this
theorem len_f (k : Nat) (n : Int) (hk : 10 ≤ k) : vari_Len.f k n = some (if 0 ≤ n ∧ n ≤ 4294967295 then ((encN 4 n).length : Int) else 0) := by
  unfold vari_Len.f
  rw [put_f k n hk]
  by_cases h : 0 ≤ n ∧ n ≤ 4294967295
  · rw [if_pos h, if_pos h]; simp only [Option.bind_some, strOfNums_size]
  · rw [if_neg h, if_neg h]; rfl
theorem alive_f (k : Nat) (hk : 20 ≤ k) : lexiphanelaw3_alive.f k = some true := by
  unfold lexiphanelaw3_alive.f
  rw [put_f k 300 (by omega), get_f k _ (by decide) hk, len_f k 300 (by omega)]
  decide +kernel
def okN (n : Int) : Bool := decide (0 ≤ n ∧ n ≤ 4294967295)
def joinN (l : List Int) : List Int := (l.map (encN 4)).flatten
theorem rd_cons (l : List Int) (i : Nat) (h : i < l.length) : l.drop i = rd l (i : Int) :: l.drop (i + 1) := by
  rw [List.drop_eq_getElem_cons h]
  congr 1
  unfold rd
  simp [List.getD_eq_getElem?_getD, List.getElem?_eq_getElem h]
theorem joinN_len : ∀ l : List Int, (joinN l).length ≤ 5 * l.length
  | [] => by simp [joinN]
  | x :: l => by
    have := joinN_len l
    have := encN_len 4 x
    simp only [joinN, List.map_cons, List.flatten_cons, List.length_append, List.length_cons] at *
    omega
theorem joinN_bytes : ∀ l : List Int, (∀ x ∈ l, okN x = true) → ∀ x ∈ joinN l, 0 ≤ x ∧ x < 256
  | [], _, x, hx => by simp [joinN] at hx
  | y :: l, h, x, hx => by
    simp only [joinN, List.map_cons, List.flatten_cons, List.mem_append] at hx
    rcases hx with hx | hx
    · have := h y (by simp)
      simp only [okN, decide_eq_true_eq] at this
      exact encN_bytes 4 y this.1 (by simp only [cap]; omega) x hx
    · exact joinN_bytes l (fun z hz => h z (by simp [hz])) x hx
theorem joins_l1 (l : List Int) (hl : l.length ≤ 60) (hok : ∀ x ∈ l, okN x = true) : ∀ (d k i : Nat), i + d = l.length → d + 40 ≤ k →
    lexiphanelaw3_VariJoins.l1 k (strOfNums (joinN (l.drop i))) l (l.length : Int) (i : Int) = some true
  | 0, k, i, hi, hk => by
    obtain ⟨k, rfl⟩ : ∃ m, k = m + 1 := ⟨k - 1, by omega⟩
    simp only [lexiphanelaw3_VariJoins.l1]
    rw [if_neg (by omega), List.drop_of_length_le (by omega)]
    decide +kernel
  | d + 1, k, i, hi, hk => by
    obtain ⟨k, rfl⟩ : ∃ m, k = m + 1 := ⟨k - 1, by omega⟩
    have hlt : i < l.length := by omega
    have hx : rd l (i : Int) ∈ l := by
      have := rd_cons l i hlt
      have h2 : rd l (i : Int) ∈ l.drop i := by rw [this]; simp
      exact List.mem_of_mem_drop h2
    have hokx := hok _ hx
    simp only [okN, decide_eq_true_eq] at hokx
    have hcap : rd l (i : Int) < cap 4 := by simp only [cap]; omega
    have hjl := joinN_len (l.drop (i + 1))
    have hel := encN_len 4 (rd l (i : Int))
    have hb1 := joinN_bytes (l.drop (i + 1)) (fun x hx => hok x (List.mem_of_mem_drop hx))
    have he : joinN (l.drop i) = encN 4 (rd l (i : Int)) ++ joinN (l.drop (i + 1)) := by rw [rd_cons l i hlt]; rfl
    have hb0 := joinN_bytes (l.drop i) (fun x hx => hok x (List.mem_of_mem_drop hx))
    simp only [List.length_drop] at hjl
    have e1 : wrap64 ((i : Int) + 1) = ((i + 1 : Nat) : Int) := by unfold wrap64; omega
    simp only [lexiphanelaw3_VariJoins.l1]
    rw [if_pos (by omega), if_pos (by omega), if_pos (by omega), get_f k _ (by rw [strOfNums_size, he, List.length_append]; omega) (by omega), bytesOf_str _ hb0, he, dec_enc 4 0 _ 0 _ (by omega) hokx.1 hcap (by omega), len_f k _ (by omega), if_pos hokx]
    simp only [Option.bind_some, Int.pow_zero, Int.mul_one, Int.zero_add]
    rw [if_pos trivial, if_pos trivial, if_pos (by omega), if_neg (by rw [strOfNums_size, List.length_append]; omega), if_pos (by omega), if_pos (by rw [strOfNums_size, List.length_append]; omega), e1]
    have hx2 : (strOfNums (encN 4 (rd l (i : Int)) ++ joinN (l.drop (i + 1)))).extract ((((0 : Nat) : Int) + ((encN 4 (rd l (i : Int))).length : Int)).toNat) (strOfNums (encN 4 (rd l (i : Int)) ++ joinN (l.drop (i + 1)))).size = strOfNums (joinN (l.drop (i + 1))) := by
      refine bytesOf_inj _ _ ?_
      rw [bytesOf_extract, ← he, bytesOf_str _ hb0, bytesOf_str _ hb1, strOfNums_size, List.take_of_length_le (by omega), he]
      rw [show (((0 : Nat) : Int) + ((encN 4 (rd l (i : Int))).length : Int)).toNat = (encN 4 (rd l (i : Int))).length from by omega]
      simp
    rw [hx2]
    exact joins_l1 l hl hok d k (i + 1) (by omega) (by omega)
theorem joins_l0 (l : List Int) (hl : l.length ≤ 60) : ∀ (d k i : Nat), i + d = l.length → d + 120 ≤ k →
    lexiphanelaw3_VariJoins.l0 k (strOfNums (joinN ((l.take i).filter okN))) ((l.take i).filter okN) l (l.length : Int) (i : Int) = some true
  | 0, k, i, hi, hk => by
    obtain ⟨k, rfl⟩ : ∃ m, k = m + 1 := ⟨k - 1, by omega⟩
    simp only [lexiphanelaw3_VariJoins.l0]
    rw [if_neg (by omega), List.take_of_length_le (by omega)]
    have h1 : (l.filter okN).length ≤ 60 := Nat.le_trans (List.length_filter_le _ _) hl
    have := joins_l1 (l.filter okN) h1 (fun x hx => (List.mem_filter.1 hx).2) (l.filter okN).length k 0 (by omega) (by omega)
    simpa using this
  | d + 1, k, i, hi, hk => by
    obtain ⟨k, rfl⟩ : ∃ m, k = m + 1 := ⟨k - 1, by omega⟩
    have hlt : i < l.length := by omega
    have e1 : wrap64 ((i : Int) + 1) = ((i + 1 : Nat) : Int) := by unfold wrap64; omega
    have et : l.take (i + 1) = l.take i ++ [rd l (i : Int)] := by
      rw [List.take_succ_eq_append_getElem hlt]
      congr 2
      unfold rd
      simp [List.getD_eq_getElem?_getD, List.getElem?_eq_getElem hlt]
    have hfl : ((l.take i).filter okN).length ≤ 60 := Nat.le_trans (List.length_filter_le _ _) (by rw [List.length_take]; omega)
    have hjl := joinN_len ((l.take i).filter okN)
    have hel := encN_len 4 (rd l (i : Int))
    simp only [lexiphanelaw3_VariJoins.l0]
    rw [if_pos (by omega), if_pos (by omega), if_pos (by omega), put_f k _ (by omega)]
    simp only [Option.bind_some]
    rw [← joins_l0 l hl d k (i + 1) (by omega) (by omega), et, List.filter_append]
    by_cases h : 0 ≤ rd l (i : Int) ∧ rd l (i : Int) ≤ 4294967295
    · have hk1 : okN (rd l (i : Int)) = true := by simpa [okN] using h
      have ef : List.filter okN [rd l (i : Int)] = [rd l (i : Int)] := by simp [hk1]
      simp only [if_pos h]
      rw [if_pos trivial, if_pos (by rw [strOfNums_size, strOfNums_size]; omega), if_pos (by omega), e1, ef]
      congr 1
      unfold joinN
      rw [List.map_append, List.flatten_append]
      simp [strOfNums]
      rfl
    · have hk1 : okN (rd l (i : Int)) = false := by simpa [okN] using h
      have ef : List.filter okN [rd l (i : Int)] = [] := by simp [hk1]
      simp only [if_neg h]
      rw [if_neg (by decide), e1, ef, List.append_nil]
theorem VariJoins : lexiphanelaw3_VariJoins.Pure := by
  intro l _ _ _
  refine ⟨300, ?_⟩
  unfold lexiphanelaw3_VariJoins.f
  by_cases h60 : (l.length : Int) > 60
  · rw [if_pos h60]
    simp only [lexiphanelaw3_VariJoins.j0]
    rw [if_pos trivial, alive_f 299 (by omega)]; rfl
  · rw [if_neg h60, alive_f 300 (by omega)]
    simp only [Option.bind_some, Bool.not_true, lexiphanelaw3_VariJoins.j0]
    rw [if_neg (by decide)]
    have := joins_l0 l (by omega) l.length 299 0 (by omega) (by omega)
    simpa [joinN, strOfNums] using this
end Go.Proofs.Yticfnecibfofjaa.Pure
