/- Chapter 12: what tokens cost. -/
import Derived.Test.YtfiflloieojgbaaPBestMorex1
import Derived.Test.YtfiflloieojgbaaVariSpec
import Derived.Test.YtfiflloieojgbaaFloat
import Derived.Test.YtfiflloieojgbaaInts
namespace Go.Proofs.Ytfiflloieojgbaa.Cost
set_option linter.unusedVariables false
set_option linter.unusedSimpArgs false
open Go.RowKit Go.Proofs.YtfiflloieojgbaaW.PrintWords Go.Proofs.YtfiflloieojgbaaW.PrintMore Go.Proofs.YtfiflloieojgbaaW.PrintLast Go.Proofs.Ytfiflloieojgbaa.L Go.Proofs.Ytfiflloieojgbaa.Ints Go.Proofs.Ytfiflloieojgbaa.Fl Go.Proofs.Ytfiflloieojgbaa.VariSpec
open Go.Proofs.Ytfiflloieojgbaa.PBestMore

theorem put_l0 : ∀ (f : Nat) (n : Int) (acc : List Int) (k : Nat), 0 ≤ n → n < cap f → f < k → acc.length + f < 1000 →
    vari_Put.l0 k n acc = some (strOfNums (acc ++ encN f n), true)
  | f, n, acc, 0, _, _, hk, _ => absurd hk (by omega)
  | 0, n, acc, k + 1, h0, h1, hk, hl => by
    simp only [cap] at h1
    simp only [vari_Put.l0, encN]
    rw [if_neg (by omega), if_pos (by omega), Int.emod_eq_of_lt h0 (by omega)]
  | f + 1, n, acc, k + 1, h0, h1, hk, hl => by
    simp only [cap] at h1
    simp only [vari_Put.l0, encN]
    by_cases h : n ≥ 128
    · have e : (wrap64 (Int.tmod n 128 + 128)) % 256 = n % 128 + 128 := by
        rw [Int.tmod_eq_emod_of_nonneg h0]; unfold wrap64; omega
      rw [if_pos h, if_pos (by omega), if_pos (show 128 ≤ n from h), e, put_l0 f (n / 128) _ k (by omega) (by omega) (by omega) (by simp; omega)]
      simp
    · rw [if_neg h, if_pos (by omega), if_neg h, Int.emod_eq_of_lt h0 (by omega)]
theorem put_f (k : Nat) (n : Int) (hk : 10 ≤ k) : vari_Put.f k n = some (if 0 ≤ n ∧ n ≤ 4294967295 then (strOfNums (encN 4 n), true) else ((⟨#[]⟩ : ByteArray), false)) := by
  obtain ⟨k, rfl⟩ : ∃ m, k = m + 1 := ⟨k - 1, by omega⟩
  unfold vari_Put.f
  by_cases h0 : n < 0
  · rw [if_pos h0, if_neg (by omega)]; simp only [vari_Put.j0]; rw [if_pos trivial]
  · rw [if_neg h0]
    simp only [vari_Put.j0]
    by_cases h1 : n > 4294967295
    · rw [if_pos (by simpa using h1), if_neg (by omega)]
    · rw [if_neg (by simpa using h1), if_pos (by omega), put_l0 4 n [] k (by omega) (by simp only [cap]; omega) (by omega) (by simp)]
      simp
theorem len_f (k : Nat) (n : Int) (hk : 10 ≤ k) : vari_Len.f k n = some (if 0 ≤ n ∧ n ≤ 4294967295 then ((encN 4 n).length : Int) else 0) := by
  unfold vari_Len.f
  rw [put_f k n hk]
  by_cases h : 0 ≤ n ∧ n ≤ 4294967295
  · rw [if_pos h, if_pos h]; simp only [Option.bind_some, strOfNums_size]
  · rw [if_neg h, if_neg h]; rfl
def vlen (n : Int) : Nat := if 0 ≤ n ∧ n ≤ 4294967295 then (encN 4 n).length else 0
theorem vlen_le (n : Int) : vlen n ≤ 5 := by
  unfold vlen
  split
  · exact (encN_len 4 n).2
  · omega
theorem vlen_pos (n : Int) : 0 < vlen n ↔ 0 ≤ n ∧ n ≤ 4294967295 := by
  unfold vlen
  split
  · rename_i h
    exact ⟨fun _ => h, fun _ => (encN_len 4 n).1⟩
  · rename_i h
    exact ⟨fun h2 => absurd h2 (by decide), fun h2 => absurd h2 h⟩
theorem len_any (n : Int) (w : World) : Calls Try.prog 60 #[.int .i64 n] w fun e w' => e = .returned (.int .i64 (vlen n : Nat)) ∧ Below w.heap.size w w' := by
  have h := len_f 10 n (by omega)
  refine (vari_Len.calls 10 n _ w h).mono ?_
  rintro e w' ⟨rfl, hb⟩
  refine ⟨?_, hb⟩
  unfold vlen
  split <;> rfl
/-- A cost as the program has it. -/
def cx (T B : Nat) : Value := .complex .f64 (fl T) (fl B)
def cT (n : Int) : Nat := if vlen n = 0 then 0 else 1
theorem fl_zero : fl 0 = 0 := by decide
theorem fl_one : fl 1 = 4607182418800017408 := by decide +kernel
theorem fl_most : fl 1099511627776 = 4787326403894837248 := by decide +kernel
theorem of_any (n : Int) (w : World) : Calls Try.prog 23 #[.int .i64 n] w fun e w' => e = .returned (cx (cT n) (8 * vlen n)) ∧ Below w.heap.size w w' := by
  have hl := vlen_le n
  obtain ⟨v, hv⟩ : ∃ v, vlen n = v := ⟨_, rfl⟩
  rw [hv] at hl
  have HV := Lib.hid hv
  by_cases h0 : v = 0
  · subst h0
    have hr := Lib.hid (show cx (cT n) (8 * vlen n) = .complex .f64 0 0 by unfold cx cT; rw [hv, if_pos rfl]; rfl)
    clear hv
    go_enter Try.func23, Try.ntmps23
    go_wp2_with (fail)
    refine (len_any n _).mono ?_
    rintro e w1 ⟨rfl, hb⟩
    rw [HV.out]
    go_wp2_with (fail)
    go_ret
    rw [hr.out]
    exact ⟨rfl, hb⟩
  · have hr := Lib.hid (show cx (cT n) (8 * vlen n) = .complex .f64 4607182418800017408 (fl (8 * v)) by unfold cx cT; rw [hv, if_neg h0, fl_one])
    have e0 : ((v : Int) == 0) = false := beq_eq_false_iff_ne.2 (by omega)
    have hf := Lib.hid (show floatOfInt .f64 (8 * (v : Int)) = fl (8 * v) from near_fl (8 * v))
    clear hv
    go_enter Try.func23, Try.ntmps23
    go_wp2_with (fail)
    refine (len_any n _).mono ?_
    rintro e w1 ⟨rfl, hb⟩
    rw [HV.out]
    go_wp2_with (fail)
    go_ret
    rw [hr.out, ← hf.out]
    exact ⟨rfl, hb⟩
theorem most_any (w : World) : Calls Try.prog 66 #[] w fun e w' => e = .returned (cx 1099511627776 1099511627776) ∧ w' = w := by
  have hr := Lib.hid (show cx 1099511627776 1099511627776 = .complex .f64 4787326403894837248 4787326403894837248 by unfold cx; rw [fl_most])
  go_enter Try.func66, Try.ntmps66
  go_wp2_with (fail)
  go_ret
  rw [hr.out]
  exact ⟨rfl, rfl⟩
theorem big_small {a : Nat} (ha : a < big) : a < 9007199254740992 := ha
theorem floatInt_fl {a : Nat} (ha : a < big) : floatToIntVal .f64 (fl a) .i64 = some (a : Int) := by
  have h : (FloatKind.f64.decode (fl a)).toInt .zero = some (a : Int) := int_fl ha
  have h2 := big_small ha
  have h3 : IntKind.min .i64 ≤ (a : Int) ∧ (a : Int) ≤ IntKind.max .i64 := by
    simp [IntKind.min, IntKind.max, IntKind.signed, IntKind.bits]
    omega
  unfold floatToIntVal
  rw [h]
  exact if_pos h3
theorem conv_fl {a : Nat} (ha : a < big) (W : World) : (convert 48 3 (.float .f64 (fl a))).run Try.prog W = .ok (.int .i64 a) W :=
  run_convert_float_int W _ _ .f64 .i64 _ _ (by kernel_rfl) (by kernel_rfl) (floatInt_fl ha)
def lessB (T B U C : Nat) : Bool := if T = U then decide (B < C) else decide (T < U)
theorem less_any (T B U C : Nat) (w : World) (h1 : T < big) (h2 : B < big) (h3 : U < big) (h4 : C < big) : Calls Try.prog 26 #[cx T B, cx U C] w fun e w' => e = .returned (.bool (lessB T B U C)) ∧ w' = w := by
  have e0 : (FloatKind.f64.format.order (fl T) (fl U) == some Ordering.eq) = decide (T = U) := eq_fl h1 h3
  have e1 : (FloatKind.f64.format.order (fl T) (fl U) != some Ordering.eq) = !decide (T = U) := by rw [bne, e0]
  have e2 : (FloatKind.f64.format.order (fl T) (fl U) == some Ordering.lt) = decide (T < U) := lt_fl h1 h3
  have e3 : (FloatKind.f64.format.order (fl B) (fl C) == some Ordering.lt) = decide (B < C) := lt_fl h2 h4
  have E2 := Lib.hid e2
  have E3 := Lib.hid e3
  clear e0 e2 e3
  by_cases h : T = U
  · have hr := Lib.hid (show lessB T B U C = decide (B < C) from if_pos h)
    rw [decide_eq_true h] at e1
    clear h
    go_enter Try.func26, Try.ntmps26
    unfold cx
    go_wp2_with (fail)
    go_ret
    rw [hr.out, ← E3.out]
    exact ⟨rfl, rfl⟩
  · have hr := Lib.hid (show lessB T B U C = decide (T < U) from if_neg h)
    rw [decide_eq_false h] at e1
    clear h
    go_enter Try.func26, Try.ntmps26
    unfold cx
    go_wp2_with (fail)
    go_ret
    rw [hr.out, ← E2.out]
    exact ⟨rfl, rfl⟩
/-! ### sums -/
def sumT (l : List Int) : Nat := l.foldl (fun n x => n + cT x) 0
def sumB (l : List Int) : Nat := l.foldl (fun n x => n + 8 * vlen x) 0
theorem sumT_snoc (l : List Int) (x : Int) : sumT (l ++ [x]) = sumT l + cT x := by simp [sumT]
theorem sumB_snoc (l : List Int) (x : Int) : sumB (l ++ [x]) = sumB l + 8 * vlen x := by simp [sumB]
theorem cT_le (x : Int) : cT x ≤ 1 := by unfold cT; split <;> omega
theorem foldl_shift (f : Int → Nat) : ∀ (l : List Int) (n : Nat), l.foldl (fun n x => n + f x) n = n + l.foldl (fun n x => n + f x) 0
  | [], n => by simp
  | x :: l, n => by
    simp only [List.foldl_cons]
    rw [foldl_shift f l (n + f x), foldl_shift f l (0 + f x)]
    omega
theorem sumT_append (a b : List Int) : sumT (a ++ b) = sumT a + sumT b := by
  unfold sumT
  rw [List.foldl_append, foldl_shift]
theorem sumB_append (a b : List Int) : sumB (a ++ b) = sumB a + sumB b := by
  unfold sumB
  rw [List.foldl_append, foldl_shift]
theorem sumT_le : ∀ l : List Int, sumT l ≤ l.length
  | [] => Nat.le_refl _
  | x :: l => by
    have h1 := sumT_append [x] l
    have h2 := sumT_le l
    have h3 := cT_le x
    rw [List.singleton_append] at h1
    rw [h1, List.length_cons, show sumT [x] = cT x by simp [sumT]]
    omega
theorem sumB_le : ∀ l : List Int, sumB l ≤ 40 * l.length
  | [] => Nat.le_refl _
  | x :: l => by
    have h1 := sumB_append [x] l
    have h2 := sumB_le l
    have h3 := vlen_le x
    rw [List.singleton_append] at h1
    rw [h1, List.length_cons, show sumB [x] = 8 * vlen x by simp [sumB]]
    omega
theorem addc_fl {T B U C : Nat} (h1 : T + U < big) (h2 : B + C < big) (W : World) : (binOp .add 47 (.complex .f64 (fl T) (fl B)) (.complex .f64 (fl U) (fl C))).run Try.prog W = .ok (.complex .f64 (fl (T + U)) (fl (B + C))) W := by
  refine run_complex_sum W .add (.inl rfl) _ .f64 _ _ _ _ _ _ ?_
  have e1 : floatBits .add .f64 (fl T) (fl U) = some (fl (T + U)) := add_fl h1
  have e2 : floatBits .add .f64 (fl B) (fl C) = some (fl (B + C)) := add_fl h2
  unfold cSumBits
  rw [e1, e2]
  rfl
theorem sum_any (A : Option Addr) (c : Nat) (l : List Int) (w : World) (h : KI.C w A l.length l) (hl : l.length ≤ 1000000) :
    Calls Try.prog 27 #[.slice A l.length c] w fun e w' => e = .returned (cx (sumT l) (sumB l)) ∧ Below w.heap.size w w' := by
  have H := Lib.hid h
  clear h
  go_enter Try.func27, Try.ntmps27
  go_wp2_with (fail)
  go_loopg [3, 8] l.length (fun j s i wr => ∃ k : Nat, k + j = l.length ∧ i = .int .i64 k ∧ s = cx (sumT (l.take k)) (sumB (l.take k)) ∧ Hid (Below w.heap.size w wr))
  case atStart => exact ⟨0, by omega, rfl, by unfold cx; rfl, Below.refl _ _⟩
  case round =>
    obtain ⟨k, hk, rfl, rfl, HI⟩ := hrel
    have hb := HI.out
    by_cases hlt : k < l.length
    · obtain ⟨ad, rfl, x0⟩ := ints_at (Kd.C_below H.out hb) k hlt
      obtain ⟨x, hx⟩ : ∃ x, l.getD k 0 = x := ⟨_, rfl⟩
      rw [hx] at x0
      have hn1 : sumT (l.take (k + 1)) = sumT (l.take k) + cT x := by rw [take_succ_getD l k hlt, sumT_snoc, hx]
      have hn2 : sumB (l.take (k + 1)) = sumB (l.take k) + 8 * vlen x := by rw [take_succ_getD l k hlt, sumB_snoc, hx]
      have hs1 := sumT_le (l.take (k + 1))
      have hs2 := sumB_le (l.take (k + 1))
      have hs3 := List.length_take_le (k + 1) l
      rw [hn1] at hs1
      rw [hn2] at hs2
      have hbg : big = 9007199254740992 := rfl
      have ha := fun W => addc_fl (T := sumT (l.take k)) (B := sumB (l.take k)) (U := cT x) (C := 8 * vlen x) (by omega) (by omega) W
      have i0 : (0 : Int) ≤ k := by omega
      have i1 : (k : Int) < (l.length : Int) := by omega
      have i2 : ((k : Int)).toNat = k := by omega
      have HN1 := Lib.hid hn1
      have HN2 := Lib.hid hn2
      have HB := Lib.hid hb
      clear hn1 hn2 hs1 hs2 hs3 hbg hx hb HI
      go_wp2_with (fail)
      refine (of_any x _).mono ?_
      rintro e w1 ⟨rfl, hb1⟩
      have HB1 := Lib.hid (Ints.bel_trans HB.out HB.out.size hb1)
      clear hb1 HB
      unfold cx
      go_wp2_with (fail)
      go_roundg (l.length - (k + 1))
      case measure => omega
      case rel => exact ⟨k + 1, by omega, by go_num, by unfold cx; rw [HN1.out, HN2.out], HB1.out⟩
    · obtain rfl : k = l.length := by omega
      have HB := Lib.hid hb
      clear hb HI
      go_wp2_with (fail)
      go_ret
      rw [List.take_length]
      exact ⟨rfl, HB.out⟩
end Go.Proofs.Ytfiflloieojgbaa.Cost
