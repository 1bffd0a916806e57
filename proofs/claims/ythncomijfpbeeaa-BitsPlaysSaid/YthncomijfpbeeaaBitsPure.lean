/- The plain law of bits: numbers as bits, bits as bytes, and back. No program in sight. -/
import Derived.Test.YthncomijfpbeeaaWMore
namespace Go.Proofs.Ythncomijfpbeeaa.BP
open Go.RowKit Go.Proofs.YthncomijfpbeeaaW.PrintWords Go.Proofs.YthncomijfpbeeaaW.PrintMore

def Bits (bs : List Int) : Prop := ∀ x ∈ bs, x = 0 ∨ x = 1
def byteAt (bs : List Int) (j : Nat) : Int :=
  bs.getD (8 * j) 0 * 128 + bs.getD (8 * j + 1) 0 * 64 + bs.getD (8 * j + 2) 0 * 32 + bs.getD (8 * j + 3) 0 * 16 + bs.getD (8 * j + 4) 0 * 8 + bs.getD (8 * j + 5) 0 * 4 + bs.getD (8 * j + 6) 0 * 2 + bs.getD (8 * j + 7) 0
/-- Bits as bytes, 0s at the end. -/
def pack (bs : List Int) : List Int := (List.range ((bs.length + 7) / 8)).map (byteAt bs)
def byteBits (c : Int) : List Int := [c / 128 % 2, c / 64 % 2, c / 32 % 2, c / 16 % 2, c / 8 % 2, c / 4 % 2, c / 2 % 2, c % 2]
/-- The bits of bytes. -/
def unpack (l : List Int) : List Int := l.flatMap byteBits
/-- The first n bits as a number; beyond the end they are 0. -/
def valN (bs : List Int) : Nat → Int
  | 0 => 0
  | n + 1 => valN bs n * 2 + bs.getD n 0
/-- A number as n bits. -/
def bitsV (n : Nat) (v : Int) : List Int := (List.range n).map fun j => v / 2 ^ (n - 1 - j) % 2

theorem pack_length (bs : List Int) : (pack bs).length = (bs.length + 7) / 8 := by simp [pack]
theorem pack_nil : pack [] = [] := rfl
theorem bits_getD {bs : List Int} (h : Bits bs) (i : Nat) : 0 ≤ bs.getD i 0 ∧ bs.getD i 0 ≤ 1 := by
  rw [List.getD_eq_getElem?_getD]
  rcases hh : bs[i]? with _ | x
  · simp
  · have := h x (List.mem_of_getElem? hh)
    simp; omega
theorem byteAt_range {bs : List Int} (h : Bits bs) (j : Nat) : 0 ≤ byteAt bs j ∧ byteAt bs j ≤ 255 := by
  have h0 := bits_getD h (8 * j); have h1 := bits_getD h (8 * j + 1); have h2 := bits_getD h (8 * j + 2); have h3 := bits_getD h (8 * j + 3)
  have h4 := bits_getD h (8 * j + 4); have h5 := bits_getD h (8 * j + 5); have h6 := bits_getD h (8 * j + 6); have h7 := bits_getD h (8 * j + 7)
  unfold byteAt; omega
theorem pack_range {bs : List Int} (h : Bits bs) : ∀ x ∈ pack bs, 0 ≤ x ∧ x ≤ 255 := by
  intro x hx
  obtain ⟨j, _, rfl⟩ := List.mem_map.1 hx
  exact byteAt_range h j
theorem getD_snoc (bs : List Int) (x : Int) (i : Nat) : (bs ++ [x]).getD i 0 = bs.getD i 0 + if i = bs.length then x else 0 := by
  simp only [List.getD_eq_getElem?_getD, List.getElem?_append]
  by_cases h : i < bs.length
  · simp [h, Nat.ne_of_lt h]
  · by_cases h2 : i = bs.length
    · subst h2; simp
    · have : 1 ≤ i - bs.length := by omega
      rw [if_neg h, if_neg h2, List.getElem?_eq_none (by simpa using this), List.getElem?_eq_none (by omega)]
      rfl
theorem getD_past (bs : List Int) (i : Nat) (h : bs.length ≤ i) : bs.getD i 0 = 0 := by
  rw [List.getD_eq_getElem?_getD, List.getElem?_eq_none h]; rfl
theorem byteAt_other (bs : List Int) (x : Int) (j : Nat) (h : j ≠ bs.length / 8) : byteAt (bs ++ [x]) j = byteAt bs j := by
  unfold byteAt
  simp only [getD_snoc]
  rw [if_neg (by omega), if_neg (by omega), if_neg (by omega), if_neg (by omega), if_neg (by omega), if_neg (by omega), if_neg (by omega), if_neg (by omega)]
  omega
theorem byteAt_here (bs : List Int) (x : Int) : byteAt (bs ++ [x]) (bs.length / 8) = byteAt bs (bs.length / 8) + x * 2 ^ (7 - bs.length % 8) := by
  unfold byteAt
  simp only [getD_snoc]
  generalize hq : bs.length / 8 = q
  obtain ⟨r, hr⟩ : ∃ r, bs.length % 8 = r := ⟨_, rfl⟩
  have hl : bs.length = 8 * q + r := by omega
  have hr8 : r < 8 := by omega
  rw [hr]
  rw [hl]
  obtain rfl | rfl | rfl | rfl | rfl | rfl | rfl | rfl : r = 0 ∨ r = 1 ∨ r = 2 ∨ r = 3 ∨ r = 4 ∨ r = 5 ∨ r = 6 ∨ r = 7 := by omega
  all_goals simp
  all_goals omega
/-- One bit more. -/
theorem pack_snoc (bs : List Int) (x : Int) :
    pack (bs ++ [x]) = (if bs.length % 8 = 0 then pack bs ++ [0] else pack bs).set (bs.length / 8) (byteAt bs (bs.length / 8) + x * 2 ^ (7 - bs.length % 8)) := by
  refine List.ext_getElem ?_ ?_
  · rw [pack_length, List.length_set, List.length_append]
    split
    · rw [List.length_append, pack_length]; simp; omega
    · rw [pack_length]; simp; omega
  · intro j h1 h2
    rw [pack_length, List.length_append] at h1
    simp only [List.length_singleton] at h1
    have e1 : (pack (bs ++ [x]))[j]'(by rw [pack_length, List.length_append]; simpa using h1) = byteAt (bs ++ [x]) j := by simp [pack]
    rw [e1, List.getElem_set]
    by_cases hj : bs.length / 8 = j
    · rw [if_pos hj, ← hj, byteAt_here]
    · rw [if_neg hj, byteAt_other bs x j (fun e => hj e.symm)]
      have hjl : j < (pack bs).length := by rw [pack_length]; omega
      have e2 : (pack bs)[j] = byteAt bs j := by simp [pack]
      rw [← e2]
      split
      · rw [List.getElem_append_left hjl]
      · rfl
theorem byte_here (bs : List Int) (h : bs.length % 8 ≠ 0) : (pack bs).getD (bs.length / 8) 0 = byteAt bs (bs.length / 8) := by
  have hjl : bs.length / 8 < (pack bs).length := by rw [pack_length]; omega
  rw [List.getD_eq_getElem?_getD, List.getElem?_eq_getElem hjl]
  simp [pack]
theorem byte_new (bs : List Int) (h : bs.length % 8 = 0) : (pack bs ++ [0]).getD (bs.length / 8) 0 = 0 ∧ byteAt bs (bs.length / 8) = 0 := by
  have e : bs.length / 8 = (pack bs).length := by rw [pack_length]; omega
  constructor
  · rw [e, List.getD_eq_getElem?_getD]; simp
  · unfold byteAt
    rw [getD_past _ _ (by omega), getD_past _ _ (by omega), getD_past _ _ (by omega), getD_past _ _ (by omega), getD_past _ _ (by omega), getD_past _ _ (by omega), getD_past _ _ (by omega), getD_past _ _ (by omega)]
    rfl
/-- The bits that are not there yet are 0. -/
theorem byteAt_low {bs : List Int} : byteAt bs (bs.length / 8) % 2 ^ (8 - bs.length % 8) = 0 := by
  unfold byteAt
  generalize hq : bs.length / 8 = q
  obtain ⟨r, hr⟩ : ∃ r, bs.length % 8 = r := ⟨_, rfl⟩
  have hl : bs.length = 8 * q + r := by omega
  have hr8 : r < 8 := by omega
  rw [hr]
  have z : ∀ i, r ≤ i → bs.getD (8 * q + i) 0 = 0 := fun i hi => getD_past _ _ (by omega)
  have z0 := z 0
  have z1 := z 1
  have z2 := z 2
  have z3 := z 3
  have z4 := z 4
  have z5 := z 5
  have z6 := z 6
  have z7 := z 7
  clear z
  simp only [Nat.add_zero] at z0
  obtain rfl | rfl | rfl | rfl | rfl | rfl | rfl | rfl : r = 0 ∨ r = 1 ∨ r = 2 ∨ r = 3 ∨ r = 4 ∨ r = 5 ∨ r = 6 ∨ r = 7 := by omega
  all_goals simp only [Nat.reduceSub, Int.reducePow]
  all_goals omega
theorem or_here {bs : List Int} (h : Bits bs) (x : Int) (hx : x = 0 ∨ x = 1) :
    Go.bits .or .u8 (byteAt bs (bs.length / 8)) (x * 2 ^ (7 - bs.length % 8)) = byteAt bs (bs.length / 8) + x * 2 ^ (7 - bs.length % 8) := by
  have hb := byteAt_range h (bs.length / 8)
  have hl := byteAt_low (bs := bs)
  obtain ⟨r, hr⟩ : ∃ r, 7 - bs.length % 8 = r := ⟨_, rfl⟩
  have hr8 : 8 - bs.length % 8 = r + 1 := by omega
  rw [hr8] at hl
  rw [hr]
  have hr7 : r ≤ 7 := by omega
  generalize byteAt bs (bs.length / 8) = a at *
  obtain ⟨A, rfl⟩ := Int.eq_ofNat_of_zero_le hb.1
  have hA : A % 2 ^ (r + 1) = 0 := by exact_mod_cast hl
  have hp : 2 ^ r ≤ 2 ^ 7 := Nat.pow_le_pow_right (by decide) hr7
  obtain ⟨X, rfl, hX⟩ : ∃ X : Nat, x = X ∧ X ≤ 1 := by
    rcases hx with rfl | rfl
    · exact ⟨0, rfl, by omega⟩
    · exact ⟨1, rfl, by omega⟩
  have hXr : X * 2 ^ r ≤ 2 ^ r := by
    have := Nat.mul_le_mul_right (2 ^ r) hX
    omega
  have e : ((X : Int) * 2 ^ r) = ((X * 2 ^ r : Nat) : Int) := by simp
  rw [e, u8_or_nat A (X * 2 ^ r) (by omega) (by omega), nat_join (r + 1) A (X * 2 ^ r) hA (by rw [Nat.pow_succ]; have := Nat.pow_pos (n := r) (show 0 < 2 by decide); omega)]
  simp

/-! numbers as bits -/
theorem bitsV_length (n : Nat) (v : Int) : (bitsV n v).length = n := by simp [bitsV]
theorem bitsV_bits (n : Nat) (v : Int) : Bits (bitsV n v) := by
  intro x hx
  obtain ⟨j, _, rfl⟩ := List.mem_map.1 hx
  have := Int.emod_nonneg (v / 2 ^ (n - 1 - j)) (show (2 : Int) ≠ 0 by decide)
  have := Int.emod_lt_of_pos (v / 2 ^ (n - 1 - j)) (show (0 : Int) < 2 by decide)
  omega
theorem bitsV_take (n : Nat) (v : Int) (j : Nat) (h : j < n) : (bitsV n v).take (j + 1) = (bitsV n v).take j ++ [v / 2 ^ (n - 1 - j) % 2] := by
  have hl : j < (bitsV n v).length := by rw [bitsV_length]; exact h
  rw [List.take_succ_eq_append_getElem hl]
  simp [bitsV]
theorem Bits.append {a b : List Int} (ha : Bits a) (hb : Bits b) : Bits (a ++ b) := by
  intro x hx
  rcases List.mem_append.1 hx with h | h
  · exact ha x h
  · exact hb x h
theorem Bits.take {a : List Int} (ha : Bits a) (n : Nat) : Bits (a.take n) := fun x hx => ha x (List.mem_of_mem_take hx)
theorem Bits.drop {a : List Int} (ha : Bits a) (n : Nat) : Bits (a.drop n) := fun x hx => ha x (List.mem_of_mem_drop hx)
theorem bits_nil : Bits [] := fun x hx => by simp at hx

/-! reading -/
theorem valN_range {bs : List Int} (h : Bits bs) : ∀ n, 0 ≤ valN bs n ∧ valN bs n < 2 ^ n
  | 0 => by simp [valN]
  | n + 1 => by
    have ih := valN_range h n
    have := bits_getD h n
    simp only [valN, Int.pow_succ]
    omega
theorem unpack_length (l : List Int) : (unpack l).length = 8 * l.length := by
  induction l with
  | nil => rfl
  | cons c l ih => simp only [unpack, List.flatMap_cons, List.length_append] at *; rw [ih]; simp [byteBits]; omega
theorem unpack_bits (l : List Int) : Bits (unpack l) := by
  intro x hx
  obtain ⟨c, _, hc⟩ := List.mem_flatMap.1 hx
  simp only [byteBits, List.mem_cons, List.not_mem_nil, or_false] at hc
  omega
theorem unpack_getD : ∀ (l : List Int) (j i : Nat), i < 8 → (unpack l).getD (8 * j + i) 0 = l.getD j 0 / 2 ^ (7 - i) % 2
  | [], j, i, hi => by simp [unpack]
  | c :: l, 0, i, hi => by
    simp only [unpack, List.flatMap_cons, Nat.mul_zero, Nat.zero_add]
    rw [List.getD_eq_getElem?_getD, List.getElem?_append_left (by simpa [byteBits] using hi)]
    obtain rfl | rfl | rfl | rfl | rfl | rfl | rfl | rfl : i = 0 ∨ i = 1 ∨ i = 2 ∨ i = 3 ∨ i = 4 ∨ i = 5 ∨ i = 6 ∨ i = 7 := by omega
    all_goals simp [byteBits]
  | c :: l, j + 1, i, hi => by
    have ih := unpack_getD l j i hi
    simp only [unpack, List.flatMap_cons]
    rw [List.getD_eq_getElem?_getD, List.getElem?_append_right (by simp [byteBits]; omega)]
    rw [show 8 * (j + 1) + i - (byteBits c).length = 8 * j + i from by simp [byteBits]; omega, ← List.getD_eq_getElem?_getD]
    exact ih

theorem i64_small (m : Int) (h0 : 0 ≤ m) (h1 : m < 2 ^ 62) : IntKind.i64.wrap m = m := by
  rw [IntKind.wrap_i64]; omega
theorem and_one (x : Int) (h0 : 0 ≤ x) (h1 : x < 2 ^ 62) : Go.bits .and .i64 x 1 = x % 2 := by
  obtain ⟨X, rfl⟩ := Int.eq_ofNat_of_zero_le h0
  have := (bits_nat .i64 62 (by decide) i64_small X 1 (by omega) (by decide)).1
  rw [nat_mask1] at this
  simpa using this
theorem or_one (x d : Int) (h0 : 0 ≤ x) (h1 : x < 2 ^ 60) (hd : d = 0 ∨ d = 1) : Go.bits .or .i64 (x * 2) d = x * 2 + d := by
  obtain ⟨X, rfl⟩ := Int.eq_ofNat_of_zero_le h0
  obtain ⟨D, rfl, hD⟩ : ∃ D : Nat, d = D ∧ D ≤ 1 := by
    rcases hd with rfl | rfl
    · exact ⟨0, rfl, by omega⟩
    · exact ⟨1, rfl, by omega⟩
  have := (bits_nat .i64 62 (by decide) i64_small (X * 2) D (by omega) (by omega)).2
  rw [nat_join 1 (X * 2) D (by omega) (by omega)] at this
  simpa using this
theorem peek_bit (V : Int) (c : Nat) (m : Nat) (h0 : 0 ≤ V) (h1 : V < 4294967296) (hc : c < 256) :
    Go.bits .or .i64 (V * 2) (Go.bits .and .i64 (wrap64 (c : Int) / 2 ^ m) 1) = V * 2 + (c : Int) / 2 ^ m % 2 := by
  have e : wrap64 (c : Int) = c := by unfold wrap64; omega
  have hd : 0 ≤ (c : Int) / 2 ^ m ∧ (c : Int) / 2 ^ m ≤ c := by
    have hp : (0 : Int) < 2 ^ m := Int.pow_pos (by omega)
    exact ⟨Int.ediv_nonneg (by omega) (by omega), Int.ediv_le_self _ (by omega)⟩
  rw [e, and_one _ hd.1 (by omega), or_one V _ h0 (by omega) (by have := Int.emod_two_eq ((c : Int) / 2 ^ m); omega)]
end Go.Proofs.Ythncomijfpbeeaa.BP
