/- Bits that were packed, read again: plain facts. -/
import Derived.Test.YthncomijfpbeeaaBitsUse
namespace Go.Proofs.Ythncomijfpbeeaa.Bits
set_option linter.unusedVariables false
set_option linter.unusedSimpArgs false
open Go.RowKit Go.Proofs.YthncomijfpbeeaaW.PrintWords Go.Proofs.YthncomijfpbeeaaW.PrintMore Go.Proofs.Ythncomijfpbeeaa.L Go.Proofs.Ythncomijfpbeeaa.BP

theorem pack_getD (bs : List Int) (j : Nat) : (pack bs).getD j 0 = byteAt bs j := by
  by_cases h : j < (pack bs).length
  · rw [List.getD_eq_getElem?_getD, List.getElem?_eq_getElem h]
    simp [pack]
  · rw [List.getD_eq_getElem?_getD, List.getElem?_eq_none (by omega)]
    rw [pack_length] at h
    unfold byteAt
    rw [getD_past _ _ (by omega), getD_past _ _ (by omega), getD_past _ _ (by omega), getD_past _ _ (by omega), getD_past _ _ (by omega), getD_past _ _ (by omega), getD_past _ _ (by omega), getD_past _ _ (by omega)]
    rfl
theorem bit_of (a0 a1 a2 a3 a4 a5 a6 a7 : Int) (h0 : 0 ≤ a0 ∧ a0 ≤ 1) (h1 : 0 ≤ a1 ∧ a1 ≤ 1) (h2 : 0 ≤ a2 ∧ a2 ≤ 1) (h3 : 0 ≤ a3 ∧ a3 ≤ 1) (h4 : 0 ≤ a4 ∧ a4 ≤ 1) (h5 : 0 ≤ a5 ∧ a5 ≤ 1) (h6 : 0 ≤ a6 ∧ a6 ≤ 1) (h7 : 0 ≤ a7 ∧ a7 ≤ 1) (c : Int)
    (hc : c = a0 * 128 + a1 * 64 + a2 * 32 + a3 * 16 + a4 * 8 + a5 * 4 + a6 * 2 + a7) :
    c / 128 % 2 = a0 ∧ c / 64 % 2 = a1 ∧ c / 32 % 2 = a2 ∧ c / 16 % 2 = a3 ∧ c / 8 % 2 = a4 ∧ c / 4 % 2 = a5 ∧ c / 2 % 2 = a6 ∧ c % 2 = a7 := by
  subst hc
  refine ⟨by omega, by omega, by omega, by omega, by omega, by omega, by omega, by omega⟩
theorem unpack_pack {bs : List Int} (h : Bits bs) (k : Nat) : (unpack (pack bs)).getD k 0 = bs.getD k 0 := by
  obtain ⟨j, i, rfl, hi⟩ : ∃ j i, k = 8 * j + i ∧ i < 8 := ⟨k / 8, k % 8, by omega, by omega⟩
  rw [unpack_getD _ _ _ hi, pack_getD]
  have hh := bit_of _ _ _ _ _ _ _ _ (bits_getD h (8 * j)) (bits_getD h (8 * j + 1)) (bits_getD h (8 * j + 2)) (bits_getD h (8 * j + 3)) (bits_getD h (8 * j + 4)) (bits_getD h (8 * j + 5)) (bits_getD h (8 * j + 6)) (bits_getD h (8 * j + 7)) (byteAt bs j) rfl
  obtain ⟨e0, e1, e2, e3, e4, e5, e6, e7⟩ := hh
  obtain rfl | rfl | rfl | rfl | rfl | rfl | rfl | rfl : i = 0 ∨ i = 1 ∨ i = 2 ∨ i = 3 ∨ i = 4 ∨ i = 5 ∨ i = 6 ∨ i = 7 := by omega
  · exact e0
  · exact e1
  · exact e2
  · exact e3
  · exact e4
  · exact e5
  · exact e6
  · show byteAt bs j / 2 ^ 0 % 2 = _
    rw [Int.pow_zero, Int.ediv_one]; exact e7
theorem valN_congr {a b : List Int} : ∀ n, (∀ i, i < n → a.getD i 0 = b.getD i 0) → valN a n = valN b n
  | 0, _ => rfl
  | n + 1, h => by
    simp only [valN]
    rw [valN_congr n (fun i hi => h i (by omega)), h n (by omega)]
theorem getD_drop (l : List Int) (p i : Nat) : (l.drop p).getD i 0 = l.getD (p + i) 0 := by
  rw [List.getD_eq_getElem?_getD, List.getElem?_drop, ← List.getD_eq_getElem?_getD]
theorem bytesOf_pack {bs : List Int} (h : Bits bs) : bytesOf (strOfNums (pack bs)) = pack bs := by
  unfold bytesOf
  rw [strOfNums_data, List.map_map]
  have : ∀ x ∈ pack bs, ((fun b : UInt8 => (b.toNat : Int)) ∘ fun n : Int => UInt8.ofNat n.toNat) x = id x := by
    intro x hx
    have := pack_range h x hx
    simp only [Function.comp, UInt8.toNat_ofNat', id]
    omega
  rw [List.map_congr_left this, List.map_id]
/-- What is read behind p bits. -/
theorem read_back {bs : List Int} (h : Bits bs) (p n : Nat) : valN (rem (strOfNums (pack bs)) p) n = valN (bs.drop p) n := by
  unfold rem
  rw [bytesOf_pack h]
  refine valN_congr n (fun i _ => ?_)
  rw [getD_drop, getD_drop, unpack_pack h]
theorem rest_back {bs : List Int} (h : Bits bs) : isRest (rem (strOfNums (pack bs)) bs.length) = true := by
  have hl : (rem (strOfNums (pack bs)) bs.length).length = 8 * ((bs.length + 7) / 8) - bs.length := by rw [rem_length, strOfNums_size, pack_length]
  have hz : valN (rem (strOfNums (pack bs)) bs.length) (rem (strOfNums (pack bs)) bs.length).length = 0 := by
    rw [read_back h, List.drop_length]
    generalize (rem (strOfNums (pack bs)) bs.length).length = m
    induction m with
    | zero => rfl
    | succ m ih => simp only [valN, ih]; simp
  have := valN_zero _ (rem_bits (strOfNums (pack bs)) bs.length)
  rw [hz] at this
  unfold isRest
  rw [← this, hl, decide_eq_true (by omega)]
  rfl
theorem pad_getD (bs : List Int) (m i : Nat) : (bs ++ List.replicate m 0).getD i 0 = bs.getD i 0 := by
  rw [List.getD_eq_getElem?_getD, List.getD_eq_getElem?_getD, List.getElem?_append]
  split
  · rfl
  · rename_i h
    rw [List.getElem?_replicate, List.getElem?_eq_none (by omega)]
    split <;> rfl
theorem ext_getD {a b : List Int} (hl : a.length = b.length) (h : ∀ i, a.getD i 0 = b.getD i 0) : a = b := by
  refine List.ext_getElem hl (fun i h1 h2 => ?_)
  have := h i
  rw [List.getD_eq_getElem?_getD, List.getD_eq_getElem?_getD, List.getElem?_eq_getElem h1, List.getElem?_eq_getElem h2] at this
  exact this
/-- Bits that were packed are those bits, and 0s behind them. -/
theorem rem_pack {bs : List Int} (h : Bits bs) : rem (strOfNums (pack bs)) 0 = bs ++ List.replicate (8 * ((bs.length + 7) / 8) - bs.length) 0 := by
  refine ext_getD ?_ (fun i => ?_)
  · rw [rem_length, strOfNums_size, pack_length, List.length_append, List.length_replicate]; omega
  · unfold rem
    rw [List.drop_zero, bytesOf_pack h, unpack_pack h, pad_getD]
end Go.Proofs.Ythncomijfpbeeaa.Bits
