/- Chapter 19: codes by their lengths, in plain Lean. No program in sight. -/
import GoSem.Core.Lib
namespace Go.Proofs.Ytfdpgngdccdmpaa.Code
set_option linter.unusedVariables false
set_option linter.unusedSimpArgs false

/-- How many lengths are just n. -/
def cnt (l : List Int) (n : Nat) : Nat := l.countP (fun x => decide (x = (n : Int)))
theorem cnt_nil (n : Nat) : cnt [] n = 0 := rfl
theorem cnt_cons (x : Int) (l : List Int) (n : Nat) : cnt (x :: l) n = cnt l n + if x = (n : Int) then 1 else 0 := by
  unfold cnt
  rw [List.countP_cons]
  by_cases h : x = (n : Int) <;> simp [h]
theorem cnt_append (a b : List Int) (n : Nat) : cnt (a ++ b) n = cnt a n + cnt b n := by
  unfold cnt
  exact List.countP_append
theorem cnt_take_succ (l : List Int) (k n : Nat) (h : k < l.length) : cnt (l.take (k + 1)) n = cnt (l.take k) n + if l.getD k 0 = (n : Int) then 1 else 0 := by
  rw [List.take_succ_eq_append_getElem h, cnt_append, cnt_cons, cnt_nil, Nat.zero_add]
  rw [List.getD_eq_getElem?_getD, List.getElem?_eq_getElem h]
  rfl
theorem cnt_take_le (l : List Int) (k n : Nat) : cnt (l.take k) n ≤ cnt l n := by
  have h := cnt_append (l.take k) (l.drop k) n
  rw [List.take_append_drop] at h
  omega
theorem cnt_take_mono (l : List Int) (j k n : Nat) (h : j ≤ k) : cnt (l.take j) n ≤ cnt (l.take k) n := by
  have h2 := cnt_take_le (l.take k) j n
  rwa [List.take_take, Nat.min_eq_left h] at h2
theorem cnt_le_length (l : List Int) (n : Nat) : cnt l n ≤ l.length := List.countP_le_length
/-- The next code behind the codes of lengths up to n. -/
def nx (l : List Int) : Nat → Nat
  | 0 => 0
  | n + 1 => 2 * nx l n + cnt l (n + 1)
/-- A symbol's code. -/
def codeAt (l : List Int) (s : Nat) : Nat :=
  if 1 ≤ l.getD s 0 ∧ l.getD s 0 ≤ 15 then 2 * nx l ((l.getD s 0).toNat - 1) + cnt (l.take s) (l.getD s 0).toNat else 0
def codes (l : List Int) : List Int := (List.range l.length).map fun s => (codeAt l s : Int)
theorem codes_length (l : List Int) : (codes l).length = l.length := by unfold codes; simp
theorem codes_getD (l : List Int) (s : Nat) (h : s < l.length) : (codes l).getD s 0 = (codeAt l s : Int) := by
  unfold codes
  rw [List.getD_eq_getElem?_getD, List.getElem?_map, List.getElem?_range h]
  rfl
theorem codeAt_some (l : List Int) (s n : Nat) (h : l.getD s 0 = ((n + 1 : Nat) : Int)) (hn : n + 1 ≤ 15) : codeAt l s = 2 * nx l n + cnt (l.take s) (n + 1) := by
  unfold codeAt
  rw [if_pos (by omega), h, Int.toNat_natCast]
  rfl
theorem codeAt_none (l : List Int) (s : Nat) (h : l.getD s 0 < 1 ∨ 15 < l.getD s 0) : codeAt l s = 0 := by
  unfold codeAt
  rw [if_neg (by omega)]
theorem lt_of_getD {l : List Int} {s : Nat} (h : l.getD s 0 ≠ 0) : s < l.length := by
  by_cases hs : s < l.length
  · exact hs
  · exfalso
    apply h
    rw [List.getD_eq_getElem?_getD, List.getElem?_eq_none (by omega)]
    rfl
theorem rank_lt (l : List Int) (s n : Nat) (h : l.getD s 0 = ((n + 1 : Nat) : Int)) : cnt (l.take s) (n + 1) + 1 ≤ cnt l (n + 1) := by
  have hs := lt_of_getD (l := l) (s := s) (by omega)
  have h1 := cnt_take_succ l s (n + 1) hs
  rw [if_pos h] at h1
  have h2 := cnt_take_le l (s + 1) (n + 1)
  omega
theorem code_lt (l : List Int) (s n : Nat) (h : l.getD s 0 = ((n + 1 : Nat) : Int)) (hn : n + 1 ≤ 15) : codeAt l s + 1 ≤ nx l (n + 1) := by
  rw [codeAt_some l s n h hn]
  have := rank_lt l s n h
  show _ ≤ 2 * nx l n + cnt l (n + 1)
  omega
theorem nx_mono (l : List Int) (n : Nat) : ∀ d, nx l n * 2 ^ d ≤ nx l (n + d)
  | 0 => by simp
  | d + 1 => by
    have := nx_mono l n d
    rw [Nat.pow_succ]
    show _ ≤ 2 * nx l (n + d) + cnt l (n + d + 1)
    have h2 : nx l n * (2 ^ d * 2) = nx l n * 2 ^ d * 2 := by rw [Nat.mul_assoc]
    omega
/-- Codes of one length rise. -/
theorem code_same (l : List Int) (i k n : Nat) (hi : l.getD i 0 = ((n + 1 : Nat) : Int)) (hk : l.getD k 0 = ((n + 1 : Nat) : Int)) (hn : n + 1 ≤ 15) (h : i < k) : codeAt l i + 1 ≤ codeAt l k := by
  rw [codeAt_some l i n hi hn, codeAt_some l k n hk hn]
  have hs := lt_of_getD (l := l) (s := i) (by omega)
  have h1 := cnt_take_succ l i (n + 1) hs
  rw [if_pos hi] at h1
  have h2 := cnt_take_mono l (i + 1) k (n + 1) h
  omega
/-- A longer one is greater than a shorter one and noughts behind it. -/
theorem code_less (l : List Int) (i k n d : Nat) (hi : l.getD i 0 = ((n + 1 : Nat) : Int)) (hk : l.getD k 0 = ((n + 1 + (d + 1) : Nat) : Int)) (hn : n + 1 + (d + 1) ≤ 15) : (codeAt l i + 1) * 2 ^ (d + 1) ≤ codeAt l k := by
  have h1 := code_lt l i n hi (by omega)
  have h2 := nx_mono l (n + 1) d
  have h3 := codeAt_some l k (n + 1 + d) (by rw [hk]; rfl) (by omega)
  have h4 : (codeAt l i + 1) * 2 ^ (d + 1) ≤ nx l (n + 1) * 2 ^ (d + 1) := Nat.mul_le_mul_right _ h1
  have h5 : nx l (n + 1) * 2 ^ (d + 1) = 2 * (nx l (n + 1) * 2 ^ d) := by rw [Nat.pow_succ, ← Nat.mul_assoc, Nat.mul_comm]
  rw [h3]
  omega
/-- How much of all codes there is. -/
def term (x : Int) : Nat := if 1 ≤ x ∧ x ≤ 15 then 2 ^ (15 - x.toNat) else 0
def kraft : List Int → Nat
  | [] => 0
  | x :: l => term x + kraft l
theorem kraft_append : ∀ a b, kraft (a ++ b) = kraft a + kraft b
  | [], b => by simp [kraft]
  | x :: a, b => by simp only [List.cons_append, kraft, kraft_append a b]; omega
theorem term_le (x : Int) : term x ≤ 16384 := by
  unfold term
  split
  · have : 2 ^ (15 - x.toNat) ≤ 2 ^ 14 := Nat.pow_le_pow_right (by decide) (by omega)
    omega
  · omega
theorem kraft_le : ∀ l, kraft l ≤ l.length * 16384
  | [] => Nat.zero_le _
  | x :: l => by
    have h1 := term_le x
    have h2 := kraft_le l
    simp only [kraft, List.length_cons, Nat.succ_mul]
    omega
theorem kraft_take_succ (l : List Int) (k : Nat) (h : k < l.length) : kraft (l.take (k + 1)) = kraft (l.take k) + term (l.getD k 0) := by
  rw [List.take_succ_eq_append_getElem h, kraft_append, List.getD_eq_getElem?_getD, List.getElem?_eq_getElem h]
  simp [kraft]
def part (l : List Int) : Nat → Nat
  | 0 => 0
  | n + 1 => part l n + cnt l (n + 1) * 2 ^ (14 - n)
theorem nx_part (l : List Int) : ∀ n, n ≤ 15 → nx l n * 2 ^ (15 - n) = part l n
  | 0, _ => by simp [nx, part]
  | n + 1, h => by
    have h1 := nx_part l n (by omega)
    show (2 * nx l n + cnt l (n + 1)) * 2 ^ (15 - (n + 1)) = part l n + cnt l (n + 1) * 2 ^ (14 - n)
    rw [← h1, Nat.add_mul, show 15 - (n + 1) = 14 - n by omega, show 15 - n = 14 - n + 1 by omega, Nat.pow_succ]
    have : 2 * nx l n * 2 ^ (14 - n) = nx l n * (2 ^ (14 - n) * 2) := by
      rw [Nat.mul_comm 2 (nx l n), Nat.mul_assoc, Nat.mul_comm 2]
    omega
theorem part_nil : ∀ n, part [] n = 0
  | 0 => rfl
  | n + 1 => by simp [part, part_nil n, cnt_nil]
theorem part_cons (x : Int) (l : List Int) : ∀ n, n ≤ 15 → part (x :: l) n = part l n + (if 1 ≤ x ∧ x ≤ (n : Int) then 2 ^ (15 - x.toNat) else 0)
  | 0, _ => by
    rw [if_neg (by omega)]
    rfl
  | n + 1, h => by
    have h1 := part_cons x l n (by omega)
    show part (x :: l) n + cnt (x :: l) (n + 1) * 2 ^ (14 - n) = part l n + cnt l (n + 1) * 2 ^ (14 - n) + _
    rw [h1, cnt_cons, Nat.add_mul]
    by_cases hx : x = ((n + 1 : Nat) : Int)
    · subst hx
      rw [if_neg (by omega), if_pos rfl, if_pos (by omega), Int.toNat_natCast, show 15 - (n + 1) = 14 - n by omega]
      omega
    · rw [if_neg hx]
      by_cases hr : 1 ≤ x ∧ x ≤ (n : Int)
      · rw [if_pos hr, if_pos (by omega)]
        omega
      · rw [if_neg hr, if_neg (by omega)]
        omega
theorem part_kraft : ∀ l, part l 15 = kraft l
  | [] => part_nil 15
  | x :: l => by
    rw [part_cons x l 15 (by omega), part_kraft l, kraft, Nat.add_comm]
    rfl
theorem nx_kraft (l : List Int) : nx l 15 = kraft l := by
  have := nx_part l 15 (by omega)
  rw [part_kraft] at this
  simpa using this
theorem nx_bound (l : List Int) (h : kraft l ≤ 32768) (n : Nat) (hn : n ≤ 15) : nx l n ≤ 2 ^ n := by
  have h1 := nx_mono l n (15 - n)
  rw [show n + (15 - n) = 15 by omega, nx_kraft] at h1
  have h2 : (32768 : Nat) = 2 ^ n * 2 ^ (15 - n) := by rw [← Nat.pow_add, show n + (15 - n) = 15 by omega]
  have h3 : nx l n * 2 ^ (15 - n) ≤ 2 ^ n * 2 ^ (15 - n) := by omega
  exact Nat.le_of_mul_le_mul_right h3 (Nat.two_pow_pos _)
theorem code_bound (l : List Int) (h : kraft l ≤ 32768) (s n : Nat) (hs : l.getD s 0 = ((n + 1 : Nat) : Int)) (hn : n + 1 ≤ 15) : codeAt l s < 2 ^ (n + 1) := by
  have h1 := code_lt l s n hs hn
  have h2 := nx_bound l h (n + 1) hn
  omega
/-- No code begins another one. -/
theorem code_free (l : List Int) (i k n d : Nat) (hi : l.getD i 0 = ((n + 1 : Nat) : Int)) (hk : l.getD k 0 = ((n + 1 + d : Nat) : Int)) (hn : n + 1 + d ≤ 15) (hne : i ≠ k) : codeAt l k / 2 ^ d ≠ codeAt l i := by
  cases d with
  | zero =>
    rw [Nat.pow_zero, Nat.div_one]
    rcases Nat.lt_or_gt_of_ne hne with h | h
    · have := code_same l i k n hi hk hn h
      omega
    · have := code_same l k i n hk hi hn h
      omega
  | succ d =>
    have h1 := code_less l i k n d hi hk hn
    have h2 : codeAt l i + 1 ≤ codeAt l k / 2 ^ (d + 1) := (Nat.le_div_iff_mul_le (Nat.two_pow_pos _)).2 h1
    omega
theorem rank_some (l : List Int) (n : Nat) : ∀ (m : Nat) (r : Nat), m ≤ l.length → r < cnt (l.take m) n → ∃ s, s < m ∧ l.getD s 0 = (n : Int) ∧ cnt (l.take s) n = r
  | 0, r, _, h => by simp [cnt_nil] at h
  | m + 1, r, hm, h => by
    rw [cnt_take_succ l m n (by omega)] at h
    by_cases hr : r < cnt (l.take m) n
    · obtain ⟨s, h1, h2⟩ := rank_some l n m r (by omega) hr
      exact ⟨s, by omega, h2⟩
    · by_cases hx : l.getD m 0 = (n : Int)
      · rw [if_pos hx] at h
        exact ⟨m, by omega, hx, by omega⟩
      · rw [if_neg hx] at h
        omega
/-- x begins with a symbol's code. -/
def fits (l : List Int) (x i : Nat) : Prop := ∃ n, n + 1 ≤ 15 ∧ l.getD i 0 = ((n + 1 : Nat) : Int) ∧ x / 2 ^ (14 - n) = codeAt l i
theorem fits_some (l : List Int) (x : Nat) (h : kraft l = 32768) (hx : x < 32768) : ∃ i, i < l.length ∧ fits l x i := by
  have key : ∀ n, n ≤ 15 → x / 2 ^ (15 - n) < nx l n → ∃ i, i < l.length ∧ fits l x i := by
    intro n
    induction n with
    | zero =>
      intro _ h0
      simp [nx] at h0
    | succ n ih =>
      intro hn h1
      by_cases hp : x / 2 ^ (15 - n) < nx l n
      · exact ih (by omega) hp
      · have e1 : 15 - (n + 1) = 14 - n := by omega
        rw [e1] at h1
        have h1' : x / 2 ^ (14 - n) < 2 * nx l n + cnt l (n + 1) := h1
        have e2 : x / 2 ^ (15 - n) = x / 2 ^ (14 - n) / 2 := by
          rw [show 15 - n = 14 - n + 1 by omega, Nat.pow_succ, Nat.div_div_eq_div_mul]
        rw [e2] at hp
        obtain ⟨s, s1, s2, s3⟩ := rank_some l (n + 1) l.length (x / 2 ^ (14 - n) - 2 * nx l n) (Nat.le_refl _) (by rw [List.take_length]; omega)
        refine ⟨s, s1, n, hn, s2, ?_⟩
        rw [codeAt_some l s n s2 hn, s3]
        omega
  exact key 15 (Nat.le_refl _) (by rw [nx_kraft, h]; simpa using hx)
theorem fits_one (l : List Int) (x i k : Nat) (hi : fits l x i) (hk : fits l x k) : i = k := by
  have key : ∀ i k n m, n + 1 ≤ 15 → m + 1 ≤ 15 → n ≤ m → l.getD i 0 = ((n + 1 : Nat) : Int) → l.getD k 0 = ((m + 1 : Nat) : Int) → x / 2 ^ (14 - n) = codeAt l i → x / 2 ^ (14 - m) = codeAt l k → i = k := by
    intro i k n m hn hm hnm h1 h2 h3 h4
    rcases Nat.lt_or_ge 0 0 with h | _
    · omega
    · by_cases hne : i = k
      · exact hne
      · exfalso
        apply code_free l i k n (m - n) h1 (by rw [h2, show n + 1 + (m - n) = m + 1 by omega]) (by omega) hne
        rw [← h4, ← h3, Nat.div_div_eq_div_mul, ← Nat.pow_add, show 14 - m + (m - n) = 14 - n by omega]
  obtain ⟨n, hn, n1, n2⟩ := hi
  obtain ⟨m, hm, m1, m2⟩ := hk
  by_cases h : n ≤ m
  · exact key i k n m hn hm h n1 m1 n2 m2
  · exact (key k i m n hm hn (by omega) m1 n1 m2 n2).symm

/-! ### whether lengths may be -/
def used (l : List Int) : Nat := l.countP (fun x => decide (0 < x))
def wrong (l : List Int) : Bool := l.any (fun x => decide (x < 0) || decide (15 < x))
def alone (l : List Int) : Bool := decide (used l = 1) && l.any (fun x => decide (x = 1))
/-- The error: 0 is none. -/
def right (l : List Int) : Int := if wrong l = true then 1 else if kraft l = 32768 ∨ alone l = true then 0 else 8
theorem right_range {l : List Int} (h : right l = 0) : ∀ x ∈ l, 0 ≤ x ∧ x ≤ 15 := by
  intro x hx
  unfold right at h
  by_cases hw : wrong l = true
  · rw [if_pos hw] at h; omega
  · have : ¬ ((decide (x < 0) || decide (15 < x)) = true) := fun hh => hw (List.any_eq_true.2 ⟨x, hx, hh⟩)
    rw [Bool.or_eq_true, decide_eq_true_eq, decide_eq_true_eq] at this
    omega
theorem used_zero_kraft : ∀ l : List Int, used l = 0 → kraft l = 0
  | [], _ => rfl
  | x :: l, h => by
    unfold used at h
    rw [List.countP_cons] at h
    have h1 := used_zero_kraft l (by unfold used; omega)
    by_cases hx : 0 < x
    · simp [hx] at h
    · unfold kraft term
      rw [h1, if_neg (by omega)]
theorem alone_kraft : ∀ l : List Int, used l = 1 → (∃ x ∈ l, x = 1) → kraft l = 16384
  | [], h, _ => by simp [used] at h
  | x :: l, h, ⟨y, hy, he⟩ => by
    subst he
    unfold used at h
    rw [List.countP_cons] at h
    unfold kraft
    by_cases hx : x = 1
    · subst hx
      have h0 := used_zero_kraft l (by unfold used; simp at h; simpa using h)
      rw [h0]
      rfl
    · have hm : (1 : Int) ∈ l := by
        rcases List.mem_cons.1 hy with h2 | h2
        · exact absurd h2.symm hx
        · exact h2
      have hpos : 1 ≤ l.countP (fun x => decide ((0 : Int) < x)) := List.countP_pos_iff.2 ⟨1, hm, by decide⟩
      by_cases hp : 0 < x
      · simp [hp] at h
        have : l.countP (fun x => decide ((0 : Int) < x)) = 0 := by simpa using h
        omega
      · simp [hp] at h
        have h1 := alone_kraft l (by unfold used; exact h) ⟨1, hm, rfl⟩
        rw [h1]
        unfold term
        rw [if_neg (by omega)]
theorem right_kraft {l : List Int} (h : right l = 0) : kraft l ≤ 32768 := by
  unfold right at h
  by_cases hw : wrong l = true
  · rw [if_pos hw] at h; omega
  · rw [if_neg hw] at h
    by_cases hk : kraft l = 32768 ∨ alone l = true
    · rcases hk with hk | hk
      · omega
      · unfold alone at hk
        rw [Bool.and_eq_true, decide_eq_true_eq, List.any_eq_true] at hk
        obtain ⟨h1, x, hx, h2⟩ := hk
        have := alone_kraft l h1 ⟨x, hx, by simpa using h2⟩
        omega
    · rw [if_neg hk] at h; omega
end Go.Proofs.Ytfdpgngdccdmpaa.Code
