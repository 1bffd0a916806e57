/- Whole numbers below 2^53 as floats: adding, comparing and turning back are exact. No program in sight. -/
import GoSem.Core.Float
import Derived.Laws.ComplexArith
namespace Go.Proofs.Ytfiflloieojgbaa.Fl
set_option linter.unusedVariables false
set_option linter.unusedSimpArgs false
open Ieee

abbrev D : Format := double
/-- The word of a whole number. -/
def fl (n : Nat) : Nat := D.nearest false n 0
def big : Nat := 9007199254740992
theorem big_eq : big = 2 ^ 53 := by decide
theorem cut_zero_gap (way : Toward) (m : Nat) (hz : way = .even ∨ way = .zero) : way.cut false m 0 = m := by
  have h1 : Nat.min 0 (m.log2 + 2) = 0 := Nat.min_eq_left (Nat.zero_le _)
  unfold Toward.cut
  rcases hz with rfl | rfl <;> simp [Nat.mod_one]
theorem cut_exact (way : Toward) (n d : Nat) (hz : way = .even ∨ way = .zero) : way.cut false (n * 2 ^ d) d = n := by
  by_cases hn : n = 0
  · subst hn
    have hg : 0 < 1 <<< min d ((0 * 2 ^ d).log2 + 2) := by rw [Nat.shiftLeft_eq, Nat.one_mul]; exact Nat.two_pow_pos _
    unfold Toward.cut
    rcases hz with rfl | rfl <;> simp
  · have hpos : n * 2 ^ d ≠ 0 := by have := Nat.two_pow_pos d; exact Nat.mul_ne_zero hn (by omega)
    have hl : d ≤ (n * 2 ^ d).log2 := (Nat.le_log2 hpos).2 (Nat.le_mul_of_pos_left _ (by omega))
    have hm : min d ((n * 2 ^ d).log2 + 2) = d := Nat.min_eq_left (by omega)
    have hd : n * 2 ^ d / 2 ^ d = n := Nat.mul_div_cancel _ (Nat.two_pow_pos d)
    have hr : n * 2 ^ d % 2 ^ d = 0 := Nat.mul_mod_left _ _
    unfold Toward.cut
    rw [hm, Nat.shiftLeft_eq, Nat.one_mul]
    simp only [hd, hr]
    have hp := Nat.two_pow_pos d
    rcases hz with rfl | rfl
    · have h1 : decide (2 ^ d < 2 * 0) = false := decide_eq_false (by omega)
      have h2 : (2 ^ d == 2 * 0) = false := by simp
      simp [h1, h2]
    · simp
theorem log2_mul_pow (n j : Nat) (hn : n ≠ 0) : (n * 2 ^ j).log2 = n.log2 + j := by
  have hpos : n * 2 ^ j ≠ 0 := Nat.mul_ne_zero hn (by have := Nat.two_pow_pos j; omega)
  have h1 : n.log2 + j ≤ (n * 2 ^ j).log2 := (Nat.le_log2 hpos).2 (by rw [Nat.pow_add]; exact Nat.mul_le_mul_right _ (Nat.log2_self_le hn))
  have h2 : (n * 2 ^ j).log2 < n.log2 + j + 1 := (Nat.log2_lt hpos).2 (by
    rw [show n.log2 + j + 1 = n.log2 + 1 + j by omega, Nat.pow_add]
    exact Nat.mul_lt_mul_of_pos_right Nat.lt_log2_self (Nat.two_pow_pos j))
  omega
theorem least_eq : D.leastPlace = -1074 := by decide
/-- The rung of a whole number. -/
def rungOf (n : Nat) : Nat := if n = 0 then 0 else (n.log2 + 1022) * 4503599627370496 + n * 2 ^ (52 - n.log2)
theorem log2_lt {n : Nat} (h : n < big) (hn : n ≠ 0) : n.log2 < 53 := (Nat.log2_lt hn).2 (by rw [← big_eq]; exact h)
theorem norm_bounds {n : Nat} (h : n < big) (hn : n ≠ 0) : 4503599627370496 ≤ n * 2 ^ (52 - n.log2) ∧ n * 2 ^ (52 - n.log2) < 9007199254740992 := by
  have hl := log2_lt h hn
  have h1 : 2 ^ n.log2 ≤ n := Nat.log2_self_le hn
  have h2 : n < 2 ^ (n.log2 + 1) := Nat.lt_log2_self
  have hp := Nat.two_pow_pos (52 - n.log2)
  constructor
  · calc 4503599627370496 = 2 ^ n.log2 * 2 ^ (52 - n.log2) := by rw [← Nat.pow_add, show n.log2 + (52 - n.log2) = 52 by omega]
      _ ≤ n * 2 ^ (52 - n.log2) := Nat.mul_le_mul_right _ h1
  · calc n * 2 ^ (52 - n.log2) < 2 ^ (n.log2 + 1) * 2 ^ (52 - n.log2) := Nat.mul_lt_mul_of_pos_right h2 hp
      _ = 9007199254740992 := by rw [← Nat.pow_add, show n.log2 + 1 + (52 - n.log2) = 53 by omega]
theorem rung_lt {n : Nat} (h : n < big) : rungOf n < 2047 * 4503599627370496 := by
  unfold rungOf
  by_cases hn : n = 0
  · rw [if_pos hn]; decide
  · rw [if_neg hn]
    have hl := log2_lt h hn
    have := (norm_bounds h hn).2
    have h2 : (n.log2 + 1022) * 4503599627370496 ≤ (52 + 1022) * 4503599627370496 := Nat.mul_le_mul_right _ (by omega)
    omega
/-- A whole number is written alike, however many places it is given with. -/
theorem write_whole (n j : Nat) (h : n < big) : D.nearest false (n * 2 ^ j) (-(j : Int)) = rungOf n := by
  by_cases hn : n = 0
  · subst hn
    simp [Format.nearest, rungOf, Format.word]
  · have hpos : n * 2 ^ j ≠ 0 := Nat.mul_ne_zero hn (by have := Nat.two_pow_pos j; omega)
    have hl := log2_lt h hn
    have hlog := log2_mul_pow n j hn
    have hf : (D.fractionBits : Int) = 52 := rfl
    have hb : D.binade = 4503599627370496 := by decide
    have hinf : D.infRung = 2047 * 4503599627370496 := by decide
    have hlast : max (-(j : Int) + ((n * 2 ^ j).log2 : Int) - (D.fractionBits : Int)) D.leastPlace = (n.log2 : Int) - 52 := by
      rw [hlog, hf, least_eq]
      omega
    have hkept : Toward.even.cut false ((n * 2 ^ j) <<< (-(j : Int) - ((n.log2 : Int) - 52)).toNat) (((n.log2 : Int) - 52) - -(j : Int)).toNat = n * 2 ^ (52 - n.log2) := by
      by_cases hj : j ≤ 52 - n.log2
      · rw [show (-(j : Int) - ((n.log2 : Int) - 52)).toNat = 52 - n.log2 - j by omega, show (((n.log2 : Int) - 52) - -(j : Int)).toNat = 0 by omega, cut_zero_gap _ _ (.inl rfl), Nat.shiftLeft_eq, Nat.mul_assoc, ← Nat.pow_add, show j + (52 - n.log2 - j) = 52 - n.log2 by omega]
      · rw [show (-(j : Int) - ((n.log2 : Int) - 52)).toNat = 0 by omega, show (((n.log2 : Int) - 52) - -(j : Int)).toNat = j - (52 - n.log2) by omega, Nat.shiftLeft_zero]
        rw [show n * 2 ^ j = n * 2 ^ (52 - n.log2) * 2 ^ (j - (52 - n.log2)) by rw [Nat.mul_assoc, ← Nat.pow_add, show 52 - n.log2 + (j - (52 - n.log2)) = j by omega]]
        exact cut_exact _ _ _ (.inl rfl)
    unfold Format.nearest
    rw [if_neg hpos]
    simp only [hlast, hkept]
    have hr := rung_lt h
    have hro : rungOf n = (n.log2 + 1022) * 4503599627370496 + n * 2 ^ (52 - n.log2) := by unfold rungOf; rw [if_neg hn]
    have hlp : (((n.log2 : Int) - 52) - D.leastPlace).toNat = n.log2 + 1022 := by rw [least_eq]; omega
    rw [hlp, hb, hinf, ← hro]
    unfold Format.word
    rw [if_neg (by decide)]
    exact Nat.min_eq_left (by omega)
theorem fl_eq {n : Nat} (h : n < big) : fl n = rungOf n := by
  have := write_whole n 0 h
  simpa [fl] using this
set_option exponentiation.threshold 2000 in
theorem read_fl {n : Nat} (h : n < big) : ∃ j : Nat, D.read (fl n) = .number false (n * 2 ^ j) (-(j : Int)) := by
  rw [fl_eq h]
  have hr := rung_lt h
  have hsw : D.signWeight = 9223372036854775808 := by decide
  have hb : D.binade = 4503599627370496 := by decide
  have hinf : D.infRung = 2047 * 4503599627370496 := by decide
  have hdiv : rungOf n / D.signWeight = 0 := Nat.div_eq_of_lt (by rw [hsw]; omega)
  have hmod : rungOf n % D.signWeight = rungOf n := Nat.mod_eq_of_lt (by rw [hsw]; omega)
  unfold Format.read
  simp only [hdiv, hmod, hb, hinf, least_eq]
  by_cases hn : n = 0
  · subst hn
    refine ⟨1074, ?_⟩
    rw [show rungOf 0 = 0 from rfl, if_pos (by decide), Nat.zero_mul]
    rfl
  · have hl := log2_lt h hn
    obtain ⟨h1, h2⟩ := norm_bounds h hn
    have hro : rungOf n = (n.log2 + 1022) * 4503599627370496 + n * 2 ^ (52 - n.log2) := by unfold rungOf; rw [if_neg hn]
    obtain ⟨M, hM⟩ : ∃ M, n * 2 ^ (52 - n.log2) = M := ⟨_, rfl⟩
    rw [hM] at h1 h2 hro
    have d1 : rungOf n / 4503599627370496 = n.log2 + 1023 := by omega
    have d2 : rungOf n % 4503599627370496 = M - 4503599627370496 := by omega
    have g1 : ¬ rungOf n < 4503599627370496 := by omega
    refine ⟨52 - n.log2, ?_⟩
    rw [if_neg g1, if_pos hr, d1, d2, hM]
    have e1 : 4503599627370496 + (M - 4503599627370496) = M := by omega
    have e2 : ((-1074 : Int) + ((n.log2 + 1023 - 1 : Nat) : Int)) = -((52 - n.log2 : Nat) : Int) := by omega
    rw [e1, e2]
    rfl
theorem shift_mul (a i k : Nat) (h : i ≤ k) : (a * 2 ^ i) <<< (k - i) = a * 2 ^ k := by
  rw [Nat.shiftLeft_eq, Nat.mul_assoc, ← Nat.pow_add, show i + (k - i) = k by omega]
theorem add_fl {a b : Nat} (h : a + b < big) : D.add (fl a) (fl b) = some (fl (a + b)) := by
  obtain ⟨i, hi⟩ := read_fl (n := a) (by omega)
  obtain ⟨j, hj⟩ := read_fl (n := b) (by omega)
  unfold Format.add
  rw [hi, hj]
  simp only [Datum.sum, Option.map_some]
  have hb : min (-(i : Int)) (-(j : Int)) = -((max i j : Nat) : Int) := by omega
  have e1 : (-(i : Int) - -((max i j : Nat) : Int)).toNat = max i j - i := by omega
  have e2 : (-(j : Int) - -((max i j : Nat) : Int)).toNat = max i j - j := by omega
  rw [hb, e1, e2]
  simp only [signed, Bool.false_eq_true, if_false]
  rw [shift_mul a i _ (by omega), shift_mul b j _ (by omega)]
  have hs : ((a * 2 ^ (max i j) : Nat) : Int) + ((b * 2 ^ (max i j) : Nat) : Int) = (((a + b) * 2 ^ (max i j) : Nat) : Int) := by rw [Nat.add_mul]; omega
  rw [hs, Int.natAbs_natCast]
  have hneg : (if (((a + b) * 2 ^ (max i j) : Nat) : Int) = 0 then (false && false) else decide ((((a + b) * 2 ^ (max i j) : Nat) : Int) < 0)) = false := by
    split
    · rfl
    · exact decide_eq_false (by omega)
  rw [hneg]
  show some (D.nearest false ((a + b) * 2 ^ (max i j)) (-((max i j : Nat) : Int))) = _
  rw [write_whole _ _ h, fl_eq h]
theorem order_fl {a b : Nat} (ha : a < big) (hb : b < big) : D.order (fl a) (fl b) = some (compare a b) := by
  obtain ⟨i, hi⟩ := read_fl ha
  obtain ⟨j, hj⟩ := read_fl hb
  unfold Format.order
  rw [hi, hj]
  simp only [Datum.order]
  have hb : min (-(i : Int)) (-(j : Int)) = -((max i j : Nat) : Int) := by omega
  have e1 : (-(i : Int) - -((max i j : Nat) : Int)).toNat = max i j - i := by omega
  have e2 : (-(j : Int) - -((max i j : Nat) : Int)).toNat = max i j - j := by omega
  rw [hb, e1, e2]
  simp only [signed, Bool.false_eq_true, if_false]
  rw [shift_mul a i _ (by omega), shift_mul b j _ (by omega)]
  have hp := Nat.two_pow_pos (max i j)
  congr 1
  rcases Nat.lt_trichotomy a b with h | h | h
  · have h2 : a * 2 ^ (max i j) < b * 2 ^ (max i j) := Nat.mul_lt_mul_of_pos_right h hp
    rw [Nat.compare_eq_lt.2 h]
    exact Int.compare_eq_lt.2 (by omega)
  · subst h
    rw [Nat.compare_eq_eq.2 rfl]
    exact Int.compare_eq_eq.2 rfl
  · have h2 : b * 2 ^ (max i j) < a * 2 ^ (max i j) := Nat.mul_lt_mul_of_pos_right h hp
    rw [Nat.compare_eq_gt.2 h]
    exact Int.compare_eq_gt.2 (by omega)
theorem int_fl {a : Nat} (ha : a < big) : (D.read (fl a)).toInt .zero = some (a : Int) := by
  obtain ⟨i, hi⟩ := read_fl ha
  rw [hi]
  simp only [Datum.toInt, Datum.integral]
  rw [show (-(i : Int)).toNat = 0 by omega, show (- -(i : Int)).toNat = i by omega, Nat.shiftLeft_zero, cut_exact _ _ _ (.inr rfl)]
  simp [signed]
theorem near_fl (a : Nat) : Go.FloatKind.f64.nearest (a : Int) = fl a := by
  unfold Go.FloatKind.nearest Go.FloatKind.encode
  have : decide ((a : Int) < 0) = false := decide_eq_false (by omega)
  rw [this, Int.natAbs_natCast]
  rfl
theorem eq_fl {a b : Nat} (ha : a < big) (hb : b < big) : (D.order (fl a) (fl b) == some Ordering.eq) = decide (a = b) := by
  rw [order_fl ha hb]
  by_cases h : a = b
  · subst h; simp
  · rw [decide_eq_false h]
    have : compare a b ≠ .eq := fun e => h (Nat.compare_eq_eq.1 e)
    simpa using this
theorem lt_fl {a b : Nat} (ha : a < big) (hb : b < big) : (D.order (fl a) (fl b) == some Ordering.lt) = decide (a < b) := by
  rw [order_fl ha hb]
  by_cases h : a < b
  · rw [decide_eq_true h, Nat.compare_eq_lt.2 h]; rfl
  · rw [decide_eq_false h]
    have : compare a b ≠ .lt := fun e => h (Nat.compare_eq_lt.1 e)
    simpa using this
end Go.Proofs.Ytfiflloieojgbaa.Fl
