/- Chapter 13: what greedy computes, in plain Lean. -/
import Derived.Test.YtfiflloieojgbaaDictUse
namespace Go.Proofs.Ytfiflloieojgbaa.Greedy
set_option linter.unusedVariables false
set_option linter.unusedSimpArgs false
open Go.Proofs.Ytfiflloieojgbaa.Texts Go.Proofs.Ytfiflloieojgbaa.Dict

/-- n bytes of b from a place on. -/
def piece (b : ByteArray) (at_ n : Nat) : ByteArray := b.extract at_ (at_ + n)
theorem piece_size (b : ByteArray) (a n : Nat) (h : a + n ≤ b.size) : (piece b a n).size = n := by
  unfold piece
  rw [ByteArray.size_extract]
  omega
/-- The greatest length up to n of which a phrase stands at a place; 0: none. -/
def lon (l : List ByteArray) (b : ByteArray) (a : Nat) : Nat → Nat
  | 0 => 0
  | n + 1 => if has (piece b a (n + 1)) l = true then n + 1 else lon l b a n
theorem lon_le (l : List ByteArray) (b : ByteArray) (a : Nat) : ∀ n, lon l b a n ≤ n
  | 0 => Nat.le_refl _
  | n + 1 => by
    unfold lon
    have := lon_le l b a n
    split <;> omega
theorem lon_has (l : List ByteArray) (b : ByteArray) (a : Nat) : ∀ n, lon l b a n ≠ 0 → has (piece b a (lon l b a n)) l = true
  | 0, h => absurd rfl h
  | n + 1, h => by
    unfold lon at h ⊢
    by_cases hh : has (piece b a (n + 1)) l = true
    · rw [if_pos hh]; exact hh
    · rw [if_neg hh] at h ⊢
      exact lon_has l b a n h
theorem lon_ge (l : List ByteArray) (b : ByteArray) (a : Nat) : ∀ n m, m ≤ n → m ≠ 0 → has (piece b a m) l = true → m ≤ lon l b a n
  | 0, m, h, h0, _ => by omega
  | n + 1, m, h, h0, hm => by
    unfold lon
    by_cases hh : has (piece b a (n + 1)) l = true
    · rw [if_pos hh]; exact h
    · rw [if_neg hh]
      by_cases e : m = n + 1
      · rw [e] at hm; exact absurd hm hh
      · exact lon_ge l b a n m (by omega) h0 hm
def longest (l : List ByteArray) (b : ByteArray) (a : Nat) : Nat := lon l b a (min 40 (b.size - a))
/-- The token at a place, and how many bytes it takes. -/
def firstLen (l : List ByteArray) (b : ByteArray) (a : Nat) : Nat := if longest l b a = 0 then 1 else longest l b a
def byteAt (b : ByteArray) (a : Nat) : Int := ((b.data.toList.getD a 0).toNat : Int)
def tokenOf (l : List ByteArray) (b : ByteArray) (a n : Nat) : Int := if has (piece b a n) l = true then 256 + (idx (piece b a n) l : Nat) else byteAt b a
theorem firstLen_pos (l : List ByteArray) (b : ByteArray) (a : Nat) : 1 ≤ firstLen l b a := by
  unfold firstLen
  split <;> omega
theorem firstLen_fits (l : List ByteArray) (b : ByteArray) (a : Nat) (h : a < b.size) : a + firstLen l b a ≤ b.size := by
  unfold firstLen
  split
  · omega
  · have := lon_le l b a (min 40 (b.size - a))
    unfold longest
    omega
/-- The tokens of bytes, from a place on. -/
def parseGo (l : List ByteArray) (b : ByteArray) : Nat → Nat → List Int
  | 0, _ => []
  | f + 1, a => if a < b.size then tokenOf l b a (firstLen l b a) :: parseGo l b f (a + firstLen l b a) else []
def parse (l : List ByteArray) (b : ByteArray) : List Int := parseGo l b b.size 0
theorem parseGo_fuel (l : List ByteArray) (b : ByteArray) : ∀ f a, b.size - a ≤ f → parseGo l b f a = parseGo l b (b.size - a) a := by
  intro f
  induction f using Nat.strongRecOn with
  | _ f ih =>
    intro a h
    by_cases ha : a < b.size
    · obtain ⟨f', rfl⟩ : ∃ f', f = f' + 1 := ⟨f - 1, by omega⟩
      obtain ⟨g, hg⟩ : ∃ g, b.size - a = g + 1 := ⟨b.size - a - 1, by omega⟩
      have h1 := firstLen_pos l b a
      rw [hg]
      unfold parseGo
      rw [if_pos ha, if_pos ha, ih f' (by omega) (a + firstLen l b a) (by omega)]
      by_cases hgf : g < f' + 1
      · rw [ih g hgf (a + firstLen l b a) (by omega)]
      · omega
    · have e : b.size - a = 0 := by omega
      rw [e]
      cases f with
      | zero => rfl
      | succ f => unfold parseGo; rw [if_neg ha]
/-- The tokens from a place on. -/
def from_ (l : List ByteArray) (b : ByteArray) (a : Nat) : List Int := parseGo l b (b.size - a) a
theorem from_zero (l : List ByteArray) (b : ByteArray) : from_ l b 0 = parse l b := by unfold from_ parse; rw [Nat.sub_zero]
theorem from_step (l : List ByteArray) (b : ByteArray) (a : Nat) (h : a < b.size) : from_ l b a = tokenOf l b a (firstLen l b a) :: from_ l b (a + firstLen l b a) := by
  unfold from_
  obtain ⟨g, hg⟩ : ∃ g, b.size - a = g + 1 := ⟨b.size - a - 1, by omega⟩
  have h1 := firstLen_pos l b a
  rw [hg]
  show (if a < b.size then _ else _) = _
  rw [if_pos h, parseGo_fuel l b g _ (by omega)]
theorem from_end (l : List ByteArray) (b : ByteArray) (a : Nat) (h : b.size ≤ a) : from_ l b a = [] := by
  unfold from_
  rw [show b.size - a = 0 by omega]
  rfl
theorem from_len (l : List ByteArray) (b : ByteArray) : ∀ n a, b.size - a = n → (from_ l b a).length ≤ n := by
  intro n
  induction n using Nat.strongRecOn with
  | _ n ih =>
    intro a h
    by_cases ha : a < b.size
    · have h1 := firstLen_pos l b a
      rw [from_step l b a ha, List.length_cons]
      have := ih (b.size - (a + firstLen l b a)) (by omega) (a + firstLen l b a) rfl
      omega
    · rw [from_end l b a (by omega)]
      exact Nat.zero_le _
theorem parse_len (l : List ByteArray) (b : ByteArray) : (parse l b).length ≤ b.size := by
  rw [← from_zero]
  exact from_len l b b.size 0 (by omega)
/-- No phrase stands there: the byte itself. -/
theorem token_byte (l : List ByteArray) (b : ByteArray) (a : Nat) (h : a < b.size) (h0 : longest l b a = 0) : firstLen l b a = 1 ∧ tokenOf l b a 1 = byteAt b a := by
  refine ⟨by unfold firstLen; rw [if_pos h0], ?_⟩
  unfold tokenOf
  by_cases hh : has (piece b a 1) l = true
  · have := lon_ge l b a (min 40 (b.size - a)) 1 (by omega) (by decide) hh
    unfold longest at h0
    omega
  · rw [if_neg hh]
theorem token_phrase (l : List ByteArray) (b : ByteArray) (a : Nat) (h0 : longest l b a ≠ 0) : firstLen l b a = longest l b a ∧ has (piece b a (longest l b a)) l = true ∧ tokenOf l b a (longest l b a) = 256 + (idx (piece b a (longest l b a)) l : Nat) := by
  have hh : has (piece b a (longest l b a)) l = true := lon_has l b a (min 40 (b.size - a)) h0
  refine ⟨by unfold firstLen; rw [if_neg h0], hh, ?_⟩
  unfold tokenOf
  rw [if_pos hh]
theorem byteAt_lt (b : ByteArray) (a : Nat) : 0 ≤ byteAt b a ∧ byteAt b a < 256 := by
  unfold byteAt
  have := (b.data.toList.getD a 0).toNat_lt
  omega
theorem token_range (l : List ByteArray) (b : ByteArray) (a n : Nat) (h : l.length ≤ 100) : 0 ≤ tokenOf l b a n ∧ tokenOf l b a n ≤ 400 := by
  unfold tokenOf
  have h1 := byteAt_lt b a
  have h2 := idx_le (piece b a n) l
  split <;> omega
/-- What stands ahead of more bytes. -/
theorem piece_more (b more : ByteArray) (a n : Nat) (h : a + n ≤ b.size) : piece (b ++ more) a n = piece b a n := by
  unfold piece
  rw [ByteArray.extract_append]
  rw [show a - b.size = 0 by omega, show a + n - b.size = 0 by omega]
  have : more.extract 0 0 = ⟨#[]⟩ := empty_of (by rw [ByteArray.size_extract]; omega)
  rw [this]
  apply ByteArray.ext
  rw [ByteArray.data_append]
  simp
theorem byteAt_more (b more : ByteArray) (a : Nat) (h : a < b.size) : byteAt (b ++ more) a = byteAt b a := by
  unfold byteAt
  rw [ByteArray.data_append, Array.toList_append, List.getD_eq_getElem?_getD, List.getElem?_append_left (by rw [Array.length_toList]; exact h), ← List.getD_eq_getElem?_getD]
theorem lon_more (l : List ByteArray) (b more : ByteArray) (a : Nat) : ∀ n, a + n ≤ b.size → lon l (b ++ more) a n = lon l b a n
  | 0, _ => rfl
  | n + 1, h => by
    unfold lon
    rw [piece_more b more a (n + 1) h, lon_more l b more a n (by omega)]
theorem longest_more (l : List ByteArray) (b more : ByteArray) (a : Nat) (h : a + 40 ≤ b.size) : longest l (b ++ more) a = longest l b a := by
  unfold longest
  rw [ByteArray.size_append, show min 40 (b.size + more.size - a) = 40 by omega, show min 40 (b.size - a) = 40 by omega]
  exact lon_more l b more a 40 h
theorem first_more (l : List ByteArray) (b more : ByteArray) (a : Nat) (h : a + 40 ≤ b.size) : firstLen l (b ++ more) a = firstLen l b a ∧ tokenOf l (b ++ more) a (firstLen l b a) = tokenOf l b a (firstLen l b a) := by
  have h1 : firstLen l (b ++ more) a = firstLen l b a := by unfold firstLen; rw [longest_more l b more a h]
  have h2 := firstLen_fits l b a (by omega)
  refine ⟨h1, ?_⟩
  unfold tokenOf
  rw [piece_more b more a _ h2, byteAt_more b more a (by omega)]
/-- A piece of one byte is the byte. -/
theorem piece_one (b : ByteArray) (a : Nat) (h : a < b.size) : piece b a 1 = ⟨#[UInt8.ofNat (byteAt b a).toNat]⟩ := by
  unfold piece byteAt
  apply ByteArray.ext
  rw [ByteArray.data_extract]
  have hl : a < b.data.toList.length := by rw [Array.length_toList]; exact h
  have e1 : b.data.toList.getD a 0 = b.data[a]'(h) := by
    rw [List.getD_eq_getElem?_getD, List.getElem?_eq_getElem hl]
    rfl
  rw [e1, Int.toNat_natCast]
  apply Array.ext
  · simp
    have : a + 1 ≤ b.data.size := h
    omega
  · intro i h1 h2
    have hi : i = 0 := by simpa using h2
    subst hi
    simp
/-- Of no phrases the tokens are the bytes. -/
theorem longest_nil (b : ByteArray) (a : Nat) : longest [] b a = 0 := by
  unfold longest
  have : ∀ n, lon [] b a n = 0 := by
    intro n
    induction n with
    | zero => rfl
    | succ n ih =>
      unfold lon
      rw [if_neg (by simp [has, idx]), ih]
  exact this _
theorem from_nil (b : ByteArray) (a : Nat) (h : a < b.size) : from_ [] b a = byteAt b a :: from_ [] b (a + 1) := by
  obtain ⟨h1, h2⟩ := token_byte [] b a h (longest_nil b a)
  rw [from_step [] b a h, h1, h2]
theorem from_nil_len (b : ByteArray) : ∀ n a, b.size - a = n → (from_ [] b a).length = n ∧ ∀ i, i < n → (from_ [] b a).getD i 0 = byteAt b (a + i)
  | 0, a, h => by
    rw [from_end [] b a (by omega)]
    exact ⟨rfl, fun i hi => absurd hi (Nat.not_lt_zero i)⟩
  | n + 1, a, h => by
    obtain ⟨h1, h2⟩ := from_nil_len b n (a + 1) (by omega)
    rw [from_nil b a (by omega)]
    refine ⟨by rw [List.length_cons, h1], fun i hi => ?_⟩
    cases i with
    | zero => rfl
    | succ i =>
      rw [List.getD_cons_succ, h2 i (by omega)]
      congr 1
      omega
theorem parse_nil (b : ByteArray) : (parse [] b).length = b.size ∧ ∀ i, i < b.size → (parse [] b).getD i 0 = byteAt b i := by
  rw [← from_zero]
  obtain ⟨h1, h2⟩ := from_nil_len b b.size 0 (by omega)
  exact ⟨h1, fun i hi => by have := h2 i hi; rwa [Nat.zero_add] at this⟩
theorem piece_all (b : ByteArray) : piece b 0 b.size = b := by
  unfold piece
  rw [Nat.zero_add]
  apply ByteArray.ext
  simp
theorem parse_whole (b : ByteArray) (h1 : 1 ≤ b.size) (h40 : b.size ≤ 40) : parse [b] b = [256] := by
  have hh : has (piece b 0 b.size) [b] = true := (has_iff _ _).2 (by rw [piece_all]; simp)
  have hl : longest [b] b 0 = b.size := by
    have h2 := lon_ge [b] b 0 (min 40 (b.size - 0)) b.size (by omega) (by omega) hh
    have h3 := lon_le [b] b 0 (min 40 (b.size - 0))
    unfold longest
    omega
  obtain ⟨p1, p2, p3⟩ := token_phrase [b] b 0 (by omega)
  rw [hl] at p1 p3
  rw [← from_zero, from_step [b] b 0 (by omega), p1, p3, from_end [b] b _ (by omega), piece_all]
  simp [idx]
theorem parse_empty (l : List ByteArray) (b : ByteArray) (h : b.size = 0) : parse l b = [] := by
  rw [← from_zero, from_end l b 0 (by omega)]
end Go.Proofs.Ytfiflloieojgbaa.Greedy
