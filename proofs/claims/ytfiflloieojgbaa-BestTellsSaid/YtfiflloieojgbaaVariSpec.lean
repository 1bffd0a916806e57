/- The plain law of numbers of one to five bytes: what is written is read, and nothing else is. No program in sight. -/
import Derived.Test.YtfiflloieojgbaaWMore
namespace Go.Proofs.Ytfiflloieojgbaa.VariSpec
open Go.RowKit Go.Proofs.YtfiflloieojgbaaW.PrintWords Go.Proofs.YtfiflloieojgbaaW.PrintMore

/-- A number as bytes; f: how many bytes may come ahead of the last one. -/
def encN : Nat → Int → List Int
  | 0, n => [n]
  | f + 1, n => if 128 ≤ n then (n % 128 + 128) :: encN f (n / 128) else [n]
/-- What f bytes and the last one may bear. -/
def cap : Nat → Int
  | 0 => 16
  | f + 1 => 128 * cap f
/-- The number of bytes, from place i on, n gathered so far. -/
def dec : List Int → Nat → Int → Int × Int × Int
  | [], _, _ => (0, 0, 2)
  | c :: cs, i, n => if i = 4 ∧ 15 < c then (0, 0, 4) else if 0 < i ∧ c = 0 then (0, 0, 3) else if c < 128 then (n + c * 128 ^ i, (i : Int) + 1, 0) else dec cs (i + 1) (n + c % 128 * 128 ^ i)

theorem cap_pos : ∀ f, 16 ≤ cap f
  | 0 => by simp [cap]
  | f + 1 => by have := cap_pos f; simp only [cap]; omega
theorem encN_len : ∀ f n, 1 ≤ (encN f n).length ∧ (encN f n).length ≤ f + 1
  | 0, n => by simp [encN]
  | f + 1, n => by
    have := encN_len f (n / 128)
    simp only [encN]
    split <;> simp <;> omega
theorem encN_bytes : ∀ f n, 0 ≤ n → n < cap f → ∀ x ∈ encN f n, 0 ≤ x ∧ x < 256
  | 0, n, h0, h1 => by simp only [cap] at h1; simp [encN]; omega
  | f + 1, n, h0, h1 => by
    simp only [cap] at h1
    have ih := encN_bytes f (n / 128) (by omega) (by omega)
    simp only [encN]
    intro x hx
    split at hx
    · rcases List.mem_cons.1 hx with rfl | hx
      · omega
      · exact ih x hx
    · simp at hx; omega
theorem mulpart (n Q : Int) : n % 128 * Q + n / 128 * (128 * Q) = n * Q := by
  have h := Int.emod_add_mul_ediv n 128
  rw [← Int.mul_assoc, Int.mul_comm (n / 128) 128, ← Int.add_mul, h]
theorem pow_succ' (i : Nat) : (128 : Int) ^ (i + 1) = 128 * 128 ^ i := by rw [Int.pow_succ, Int.mul_comm]
/-- What is written is read, whatever stands behind it. -/
theorem dec_enc : ∀ f i n acc rest, i + f = 4 → 0 ≤ n → n < cap f → (0 < i → 0 < n) → dec (encN f n ++ rest) i acc = (acc + n * 128 ^ i, (i : Int) + (encN f n).length, 0)
  | 0, i, n, acc, rest, hi, h0, h1, hp => by
    simp only [cap] at h1
    obtain rfl : i = 4 := by omega
    have := hp (by omega)
    simp only [encN, List.singleton_append, dec]
    rw [if_neg (by omega), if_neg (by omega), if_pos (by omega)]
    simp
  | f + 1, i, n, acc, rest, hi, h0, h1, hp => by
    simp only [cap] at h1
    simp only [encN]
    by_cases h : 128 ≤ n
    · rw [if_pos h]
      simp only [List.cons_append, dec]
      rw [if_neg (by omega), if_neg (by omega), if_neg (by omega)]
      have e1 : (n % 128 + 128) % 128 = n % 128 := by omega
      rw [e1, dec_enc f (i + 1) (n / 128) _ rest (by omega) (by omega) (by omega) (by omega), pow_succ', Int.add_assoc, mulpart]
      simp only [List.length_cons, Prod.mk.injEq, and_true, true_and]
      omega
    · rw [if_neg h]
      simp only [List.singleton_append, dec]
      rw [if_neg (by omega), if_neg (by omega), if_pos (by omega)]
      simp
/-- What is read is just what would be written. -/
theorem dec_inv : ∀ f i l acc v j, i + f = 4 → (∀ x ∈ l, 0 ≤ x ∧ x < 256) → dec l i acc = (v, j, 0) →
    ∃ n, 0 ≤ n ∧ n < cap f ∧ (0 < i → 0 < n) ∧ v = acc + n * 128 ^ i ∧ j = (i : Int) + (encN f n).length ∧ ∃ rest, l = encN f n ++ rest
  | f, i, [], acc, v, j, hi, hb, h => by simp [dec] at h
  | f, i, c :: cs, acc, v, j, hi, hb, h => by
    have hc := hb c (by simp)
    simp only [dec] at h
    by_cases h1 : i = 4 ∧ 15 < c
    · rw [if_pos h1] at h; simp at h
    · rw [if_neg h1] at h
      by_cases h2 : 0 < i ∧ c = 0
      · rw [if_pos h2] at h; simp at h
      · rw [if_neg h2] at h
        by_cases h3 : c < 128
        · rw [if_pos h3] at h
          simp only [Prod.mk.injEq, and_true] at h
          have hcap := cap_pos f
          have he : encN f c = [c] := by
            cases f with
            | zero => rfl
            | succ f => simp only [encN]; rw [if_neg (by omega)]
          refine ⟨c, by omega, ?_, by omega, h.1.symm, by rw [he]; simp; omega, cs, by rw [he]; rfl⟩
          cases f with
          | zero => simp only [cap]; omega
          | succ f => have := cap_pos f; simp only [cap]; omega
        · rw [if_neg h3] at h
          cases f with
          | zero => exact absurd ⟨by omega, by omega⟩ h1
          | succ f =>
            obtain ⟨n, n0, n1, n2, hv, hj, rest, hl⟩ := dec_inv f (i + 1) cs _ v j (by omega) (fun x hx => hb x (by simp [hx])) h
            have hn := n2 (by omega)
            have e1 : (n * 128 + c % 128) / 128 = n := by omega
            have e2 : (n * 128 + c % 128) % 128 = c % 128 := by omega
            have he : encN (f + 1) (n * 128 + c % 128) = c :: encN f n := by
              simp only [encN]
              rw [if_pos (by omega), e1, e2]
              congr 1
              omega
            refine ⟨n * 128 + c % 128, by omega, by simp only [cap]; omega, by omega, ?_, by rw [he]; simp; omega, rest, by rw [he, hl]; rfl⟩
            rw [hv, pow_succ', Int.add_assoc, ← mulpart (n * 128 + c % 128), e1, e2]
/-- What is no number answers noughts. -/
theorem dec_none : ∀ l i acc v j e, dec l i acc = (v, j, e) → e = 0 ∨ v = 0 ∧ j = 0
  | [], i, acc, v, j, e, h => by simp [dec] at h; omega
  | c :: cs, i, acc, v, j, e, h => by
    simp only [dec] at h
    split at h
    · simp at h; omega
    · split at h
      · simp at h; omega
      · split at h
        · simp at h; omega
        · exact dec_none cs _ _ _ _ _ h
/-- Fewer bytes are none. -/
theorem dec_cut : ∀ f i n acc t, i + f = 4 → 0 ≤ n → n < cap f → (0 < i → 0 < n) → t < (encN f n).length → dec ((encN f n).take t) i acc = (0, 0, 2)
  | f, i, n, acc, 0, _, _, _, _, _ => by simp [dec]
  | 0, i, n, acc, t + 1, _, _, _, _, ht => by simp [encN] at ht
  | f + 1, i, n, acc, t + 1, hi, h0, h1, hp, ht => by
    simp only [cap] at h1
    simp only [encN] at ht ⊢
    by_cases h : 128 ≤ n
    · rw [if_pos h] at ht ⊢
      simp only [List.length_cons] at ht
      simp only [List.take_succ_cons, dec]
      rw [if_neg (by omega), if_neg (by omega), if_neg (by omega)]
      exact dec_cut f (i + 1) (n / 128) _ t (by omega) (by omega) (by omega) (by omega) (by omega)
    · rw [if_neg h] at ht
      simp at ht
theorem encN_mono : ∀ f n m, 0 ≤ n → n ≤ m → (encN f n).length ≤ (encN f m).length
  | 0, n, m, _, _ => by simp [encN]
  | f + 1, n, m, h0, h => by
    have := encN_mono f (n / 128) (m / 128) (by omega) (by omega)
    simp only [encN]
    by_cases h1 : 128 ≤ n
    · rw [if_pos h1, if_pos (by omega)]; simp; omega
    · rw [if_neg h1]
      have := encN_len (f + 1) m
      simp only [encN] at this
      simp; omega
theorem encN_one (n : Int) (h : 0 ≤ n) : (encN 4 n).length = 1 ↔ n < 128 := by
  show (encN (3 + 1) n).length = 1 ↔ n < 128
  simp only [encN]
  by_cases h1 : 128 ≤ n
  · rw [if_pos h1]
    split <;> simp <;> omega
  · rw [if_neg h1]; simp; omega
theorem encN_inj : ∀ f n m, encN f n = encN f m → 0 ≤ n → 0 ≤ m → n = m
  | 0, n, m, h, _, _ => by simpa [encN] using h
  | f + 1, n, m, h, h0, h1 => by
    simp only [encN] at h
    by_cases a : 128 ≤ n <;> by_cases b : 128 ≤ m
    · rw [if_pos a, if_pos b] at h
      simp only [List.cons.injEq] at h
      have := encN_inj f _ _ h.2 (by omega) (by omega)
      omega
    · rw [if_pos a, if_neg b] at h
      simp only [List.cons.injEq] at h
      omega
    · rw [if_neg a, if_pos b] at h
      simp only [List.cons.injEq] at h
      omega
    · rw [if_neg a, if_neg b] at h
      simpa using h

/-! bytes as lists of numbers -/
theorem bytesOf_append (x y : ByteArray) : bytesOf (x ++ y) = bytesOf x ++ bytesOf y := by
  unfold bytesOf
  rw [ByteArray.data_append]
  simp
theorem bytesOf_str (xs : List Int) (h : ∀ x ∈ xs, 0 ≤ x ∧ x < 256) : bytesOf (strOfNums xs) = xs := by
  unfold bytesOf
  rw [strOfNums_data, List.map_map]
  have : ∀ x ∈ xs, ((fun b : UInt8 => (b.toNat : Int)) ∘ fun n : Int => UInt8.ofNat n.toNat) x = id x := by
    intro x hx
    have := h x hx
    simp only [Function.comp, UInt8.toNat_ofNat', id]
    omega
  rw [List.map_congr_left this, List.map_id]
theorem bytesOf_range (s : ByteArray) : ∀ x ∈ bytesOf s, 0 ≤ x ∧ x < 256 := by
  intro x hx
  unfold bytesOf at hx
  obtain ⟨b, _, rfl⟩ := List.mem_map.1 hx
  have := b.toNat_lt
  omega
theorem bytesOf_inj (x y : ByteArray) (h : bytesOf x = bytesOf y) : x = y := by
  unfold bytesOf at h
  have e : x.data.toList = y.data.toList := by
    refine List.map_inj_right (f := fun b : UInt8 => (b.toNat : Int)) ?_ |>.1 h
    intro a b hab
    exact UInt8.toNat_inj.1 (Int.ofNat.inj hab)
  cases x; cases y
  congr 1
  exact Array.toList_inj.1 e
theorem bytesOf_extract (s : ByteArray) (a b : Nat) : bytesOf (s.extract a b) = ((bytesOf s).take b).drop a := by
  unfold bytesOf
  rw [ByteArray.data_extract, Array.toList_extract, List.extract_eq_drop_take']
  simp [List.map_take, List.map_drop]
theorem bytesOf_at (s : ByteArray) (i : Nat) (h : i < s.size) : (bytesOf s).drop i = bt s i :: (bytesOf s).drop (i + 1) := by
  have hl : i < (bytesOf s).length := by rw [bytesOf_length]; exact h
  rw [List.drop_eq_getElem_cons hl]
  congr 1
  have := rd_bytesOf s i
  rw [← this]
  unfold rd
  simp [List.getD_eq_getElem?_getD, List.getElem?_eq_getElem hl]
theorem toList_iff (x y : ByteArray) : x.toList = y.toList ↔ x = y := by
  constructor
  · intro h
    rw [ByteArray.toList_eq, ByteArray.toList_eq] at h
    cases x; cases y
    congr 1
    exact Array.toList_inj.1 h
  · rintro rfl; rfl
/-- A byte's own bits, or'ed behind those that were read: they are added. -/
theorem or_add (n c : Int) (i : Nat) (hi : i ≤ 4) (h0 : 0 ≤ n) (h1 : n < 128 ^ i) (hc0 : 0 ≤ c) (hc1 : c < 256) :
    Go.bits .or .i64 n (shl .i64 (wrap64 (Int.tmod c 128)) (wrap64 (7 * (i : Int)))) = n + c % 128 * 128 ^ i := by
  have hw : ∀ m : Int, 0 ≤ m → m < 2 ^ 62 → IntKind.i64.wrap m = m := by
    intro m m0 m1
    rw [IntKind.wrap_i64]; omega
  have e1 : wrap64 (Int.tmod c 128) = c % 128 := by
    rw [Int.tmod_eq_emod_of_nonneg hc0]; unfold wrap64; omega
  have e2 : wrap64 (7 * (i : Int)) = ((7 * i : Nat) : Int) := by unfold wrap64; omega
  have key : ∀ p : Nat, p ≤ 28 → ∀ N C : Nat, N < 2 ^ p → C < 128 → Go.bits .or .i64 (N : Int) ((C * 2 ^ p : Nat) : Int) = ((N + C * 2 ^ p : Nat) : Int) := by
    intro p hp N C hN hC
    have hp2 : 2 ^ p ≤ 2 ^ 28 := Nat.pow_le_pow_right (by decide) hp
    have hCp : C * 2 ^ p ≤ 128 * 2 ^ 28 := Nat.mul_le_mul (by omega) hp2
    rw [(bits_nat .i64 62 (by decide) hw N (C * 2 ^ p) (by omega) (by omega)).2]
    congr 1
    rw [Nat.or_comm, nat_join p _ _ (Nat.mul_mod_left C (2 ^ p)) hN]
    omega
  obtain ⟨N, rfl⟩ := Int.eq_ofNat_of_zero_le h0
  obtain ⟨C, rfl⟩ := Int.eq_ofNat_of_zero_le hc0
  have ep : (128 : Int) ^ i = ((2 ^ (7 * i) : Nat) : Int) := by
    rw [Nat.pow_mul]; simp
  rw [ep] at h1 ⊢
  have hCC : ((C : Int) % 128) = ((C % 128 : Nat) : Int) := by simp
  rw [e1, e2, hCC]
  have e3 : shl .i64 ((C % 128 : Nat) : Int) ((7 * i : Nat) : Int) = ((C % 128 * 2 ^ (7 * i) : Nat) : Int) := by
    unfold shl
    have hp2 : 2 ^ (7 * i) ≤ 2 ^ 28 := Nat.pow_le_pow_right (by decide) (by omega)
    have hCp : C % 128 * 2 ^ (7 * i) ≤ 128 * 2 ^ 28 := Nat.mul_le_mul (by omega) hp2
    rw [Int.toNat_natCast, Nat.min_eq_left (by show 7 * i ≤ 64; omega)]
    rw [show (((C % 128 : Nat) : Int) * 2 ^ (7 * i)) = ((C % 128 * 2 ^ (7 * i) : Nat) : Int) from by simp]
    exact hw _ (by omega) (by omega)
  rw [e3, key (7 * i) (by omega) N (C % 128) (by exact_mod_cast h1) (by omega)]
  simp
end Go.Proofs.Ytfiflloieojgbaa.VariSpec
