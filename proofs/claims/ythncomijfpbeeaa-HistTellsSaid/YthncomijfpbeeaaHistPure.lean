/- Chapter 17: plain laws of counting. -/
import Derived.Test.YthncomijfpbeeaaHistL1
namespace Go.Proofs.Ythncomijfpbeeaa.Hist
set_option linter.unusedVariables false
set_option linter.unusedSimpArgs false

theorem foldl_add (h : List Int) : ∀ n : Int, h.foldl (fun n c => n + c) n = n + h.foldl (fun n c => n + c) 0 := by
  induction h with
  | nil => intro n; simp
  | cons c h ih =>
    intro n
    simp only [List.foldl_cons]
    rw [ih (n + c), ih (0 + c)]
    omega
theorem total_cons (c : Int) (h : List Int) : total (c :: h) = c + total h := by
  unfold total
  simp only [List.foldl_cons]
  rw [foldl_add]
  omega
theorem foldl_used (h : List Int) : ∀ n : Int, h.foldl (fun n c => if 0 < c then n + 1 else n) n = n + h.foldl (fun n c => if 0 < c then n + 1 else n) 0 := by
  induction h with
  | nil => intro n; simp
  | cons c h ih =>
    intro n
    simp only [List.foldl_cons]
    by_cases hc : 0 < c
    · simp only [if_pos hc]
      rw [ih (n + 1), ih (0 + 1)]
      omega
    · simp only [if_neg hc]
      exact ih n
theorem used_cons (c : Int) (h : List Int) : used (c :: h) = (if 0 < c then 1 else 0) + used h := by
  unfold used
  simp only [List.foldl_cons]
  by_cases hc : 0 < c
  · simp only [if_pos hc]
    rw [foldl_used]
    omega
  · simp only [if_neg hc]
    omega
theorem total_nonneg : ∀ (h : List Int), (∀ x ∈ h, 0 ≤ x) → 0 ≤ total h
  | [], _ => by simp [total]
  | c :: h, hb => by
    rw [total_cons]
    have := total_nonneg h (fun x hx => hb x (by simp [hx]))
    have := hb c (by simp)
    omega
theorem total_take : ∀ (h : List Int), (∀ x ∈ h, 0 ≤ x) → ∀ k, 0 ≤ total (h.take k) ∧ total (h.take k) ≤ total h
  | [], _, k => by simp [total]
  | c :: h, hb, 0 => by
    have := total_nonneg (c :: h) hb
    refine ⟨?_, ?_⟩
    · simp [total]
    · simpa [total] using this
  | c :: h, hb, k + 1 => by
    rw [List.take_succ_cons, total_cons, total_cons]
    have := total_take h (fun x hx => hb x (by simp [hx])) k
    have := hb c (by simp)
    omega
theorem total_set : ∀ (h : List Int) (i : Nat) (x : Int), i < h.length → total (h.set i x) = total h - h.getD i 0 + x
  | [], i, x, hi => by simp at hi
  | c :: h, 0, x, _ => by simp [total_cons]; omega
  | c :: h, i + 1, x, hi => by
    simp only [List.set_cons_succ, total_cons]
    rw [total_set h i x (by simpa using hi)]
    simp
    omega
theorem used_set : ∀ (h : List Int) (i : Nat) (x : Int), i < h.length → used (h.set i x) = used h - (if 0 < h.getD i 0 then 1 else 0) + (if 0 < x then 1 else 0)
  | [], i, x, hi => by simp at hi
  | c :: h, 0, x, _ => by
    simp only [List.set_cons_zero, used_cons]
    simp
    omega
  | c :: h, i + 1, x, hi => by
    simp only [List.set_cons_succ, used_cons]
    rw [used_set h i x (by simpa using hi)]
    simp
    omega
theorem total_zeros (n : Nat) : total (List.replicate n 0) = 0 := by
  induction n with
  | zero => rfl
  | succ n ih => rw [List.replicate_succ, total_cons, ih]; rfl
theorem used_zeros (n : Nat) : used (List.replicate n 0) = 0 := by
  induction n with
  | zero => rfl
  | succ n ih => rw [List.replicate_succ, used_cons, ih]; rfl
theorem getD_zeros (n i : Nat) : (List.replicate n (0 : Int)).getD i 0 = 0 := by
  rw [List.getD_eq_getElem?_getD, List.getElem?_replicate]
  split <;> rfl
theorem total_bump (h : List Int) (t : Int) (ht : inR h.length t) : total (bump h t) = total h + 1 := by
  obtain ⟨t0, t1⟩ := ht
  unfold bump
  rw [total_set _ _ _ (by omega)]
  omega
theorem bump_nonneg (h : List Int) (t : Int) (hb : ∀ x ∈ h, 0 ≤ x) : ∀ x ∈ bump h t, 0 ≤ x := by
  intro x hx
  unfold bump at hx
  rcases List.mem_or_eq_of_mem_set hx with hx | rfl
  · exact hb x hx
  · by_cases hl : t.toNat < h.length
    · have : h.getD t.toNat 0 ∈ h := by
        rw [List.getD_eq_getElem?_getD, List.getElem?_eq_getElem hl]
        exact List.getElem_mem hl
      have := hb _ this
      omega
    · rw [List.set_eq_of_length_le (by omega)] at hx
      exact hb _ hx
theorem counted_nonneg : ∀ (l h : List Int), (∀ x ∈ h, 0 ≤ x) → ∀ x ∈ counted h l, 0 ≤ x
  | [], h, hb => hb
  | t :: l, h, hb => counted_nonneg l (bump h t) (bump_nonneg h t hb)
theorem total_counted : ∀ (l h : List Int), good h.length l → total (counted h l) = total h + l.length
  | [], h, _ => by simp [counted]
  | t :: l, h, hg => by
    show total (counted (bump h t) l) = _
    rw [total_counted l (bump h t) (fun x hx => by rw [bump_length]; exact hg x (by simp [hx])), total_bump h t (hg t (by simp))]
    simp only [List.length_cons]
    omega
theorem bump_comm (h : List Int) (a b : Int) (ha : inR h.length a) (hb : inR h.length b) : bump (bump h a) b = bump (bump h b) a := by
  obtain ⟨a0, a1⟩ := ha
  obtain ⟨b0, b1⟩ := hb
  by_cases hab : a = b
  · rw [hab]
  · have hne : a.toNat ≠ b.toNat := by omega
    unfold bump
    have g : ∀ (i j : Nat) (x : Int), i ≠ j → (h.set i x).getD j 0 = h.getD j 0 := by
      intro i j x hij
      rw [List.getD_eq_getElem?_getD, List.getElem?_set_ne hij, ← List.getD_eq_getElem?_getD]
    rw [g _ _ _ hne, g _ _ _ (Ne.symm hne), List.set_comm _ _ hne]
theorem counted_bump : ∀ (l h : List Int) (t : Int), good h.length l → inR h.length t → counted (bump h t) l = bump (counted h l) t
  | [], _, _, _, _ => rfl
  | x :: l, h, t, hg, ht => by
    show counted (bump (bump h t) x) l = bump (counted (bump h x) l) t
    rw [bump_comm h t x ht (hg x (by simp))]
    exact counted_bump l (bump h x) t (fun y hy => by rw [bump_length]; exact hg y (by simp [hy])) (by rw [bump_length]; exact ht)
theorem counted_swap (h a b : List Int) (ha : good h.length a) (hb : good h.length b) : counted h (a ++ b) = counted h (b ++ a) := by
  induction a generalizing h with
  | nil => simp
  | cons x a ih =>
    have hx := ha x (by simp)
    rw [List.cons_append]
    show counted (bump h x) (a ++ b) = _
    rw [ih (bump h x) (fun y hy => by rw [bump_length]; exact ha y (by simp [hy])) (fun y hy => by rw [bump_length]; exact hb y hy)]
    rw [counted_append, counted_bump b h x hb hx, counted_append]
    rfl
theorem good_append (n : Nat) (a b : List Int) : good n (a ++ b) ↔ good n a ∧ good n b := by
  constructor
  · intro h
    exact ⟨fun t ht => h t (List.mem_append_left _ ht), fun t ht => h t (List.mem_append_right _ ht)⟩
  · rintro ⟨h1, h2⟩ t ht
    rcases List.mem_append.1 ht with ht | ht
    · exact h1 t ht
    · exact h2 t ht
end Go.Proofs.Ythncomijfpbeeaa.Hist
