/- Chapter 15: the least costs from each place on, in plain Lean: whatever steps there are. No program in sight. -/
import GoSem.Core.Lib
namespace Go.Proofs.Ytfiflloieojgbaa.Best
set_option linter.unusedVariables false
set_option linter.unusedSimpArgs false

/-- What a cost is: how many tokens, how many bits. -/
abbrev Cst := Nat × Nat
def lt (a b : Cst) : Prop := a.1 < b.1 ∨ (a.1 = b.1 ∧ a.2 < b.2)
instance (a b : Cst) : Decidable (lt a b) := by unfold lt; exact inferInstance
def add (a b : Cst) : Cst := (a.1 + b.1, a.2 + b.2)
theorem lt_irrefl (a : Cst) : ¬ lt a a := by unfold lt; omega
theorem not_lt_trans {a b c : Cst} (h1 : ¬ lt b a) (h2 : ¬ lt c b) : ¬ lt c a := by unfold lt at *; omega
theorem lt_of_lt_not {a b c : Cst} (h1 : lt a b) (h2 : ¬ lt c b) : lt a c := by unfold lt at *; omega
theorem lt_total {a b : Cst} (h1 : ¬ lt a b) (h2 : ¬ lt b a) : a = b := by
  unfold lt at *
  exact Prod.ext (by omega) (by omega)
theorem add_not_lt {a b c : Cst} (h : ¬ lt b a) : ¬ lt (add c b) (add c a) := by unfold lt add at *; simp only; omega
theorem add_zero (a : Cst) : add a (0, 0) = a := rfl
theorem zero_add (a : Cst) : add (0, 0) a = a := by unfold add; simp
theorem add_assoc (a b c : Cst) : add (add a b) c = add a (add b c) := by unfold add; simp only [Nat.add_assoc]
theorem not_lt_zero (a : Cst) : ¬ lt a (0, 0) := by unfold lt; omega
/-- A token, and how many bytes it takes. -/
abbrev Stp := Int × Nat
def M : Cst := (1099511627776, 1099511627776)
def upd (cost : Stp → Cst) (r : Cst × Stp) (s : Stp) : Cst × Stp := if lt (cost s) r.1 ∨ (cost s = r.1 ∧ r.2.2 < s.2) then (cost s, s) else r
def bestOf (cost : Stp → Cst) (ss : List Stp) : Cst × Stp := ss.foldl (upd cost) (M, (0, 0))
theorem bestOf_snoc (cost : Stp → Cst) (ss : List Stp) (s : Stp) : bestOf cost (ss ++ [s]) = upd cost (bestOf cost ss) s := by
  unfold bestOf
  rw [List.foldl_append]
  rfl
theorem snoc_ind {α : Type} {p : List α → Prop} (h0 : p []) (h1 : ∀ l x, p l → p (l ++ [x])) : ∀ l, p l := by
  intro l
  rw [← List.reverse_reverse l]
  generalize l.reverse = m
  induction m with
  | nil => exact h0
  | cons x m ih =>
    rw [List.reverse_cons]
    exact h1 _ _ ih
/-- What is kept so far. -/
theorem best_so_far (cost : Stp → Cst) (ss : List Stp) : (∀ s ∈ ss, lt (cost s) M) →
    (ss = [] ∧ bestOf cost ss = (M, (0, 0))) ∨ ((bestOf cost ss).2 ∈ ss ∧ (bestOf cost ss).1 = cost (bestOf cost ss).2 ∧ (∀ s ∈ ss, ¬ lt (cost s) (bestOf cost ss).1) ∧ ∀ s ∈ ss, cost s = (bestOf cost ss).1 → s.2 ≤ (bestOf cost ss).2.2) := by
  refine snoc_ind (p := fun ss => (∀ s ∈ ss, lt (cost s) M) → (ss = [] ∧ bestOf cost ss = (M, (0, 0))) ∨ ((bestOf cost ss).2 ∈ ss ∧ (bestOf cost ss).1 = cost (bestOf cost ss).2 ∧ (∀ s ∈ ss, ¬ lt (cost s) (bestOf cost ss).1) ∧ ∀ s ∈ ss, cost s = (bestOf cost ss).1 → s.2 ≤ (bestOf cost ss).2.2)) ?_ ?_ ss
  · exact fun _ => .inl ⟨rfl, rfl⟩
  · intro ss s ih h
    right
    have ih := ih (fun x hx => h x (List.mem_append_left _ hx))
    have hs := h s (by simp)
    rw [bestOf_snoc]
    rcases ih with ⟨he, hb⟩ | ⟨h1, h2, h3, h4⟩
    · subst he
      rw [hb]
      have : upd cost (M, (0, 0)) s = (cost s, s) := by unfold upd; rw [if_pos (.inl hs)]
      rw [this]
      refine ⟨by simp, rfl, fun x hx => ?_, fun x hx _ => ?_⟩
      · simp at hx
        subst hx
        exact lt_irrefl _
      · simp at hx
        subst hx
        exact Nat.le_refl _
    · by_cases hc : lt (cost s) (bestOf cost ss).1 ∨ (cost s = (bestOf cost ss).1 ∧ (bestOf cost ss).2.2 < s.2)
      · have : upd cost (bestOf cost ss) s = (cost s, s) := by unfold upd; rw [if_pos hc]
        rw [this]
        refine ⟨by simp, rfl, fun x hx => ?_, fun x hx he => ?_⟩
        · rcases List.mem_append.1 hx with hx | hx
          · have := h3 x hx
            rcases hc with hc | ⟨hc, _⟩
            · intro hl
              have hl : lt (cost x) (cost s) := hl
              exact this (by unfold lt at *; omega)
            · show ¬ lt (cost x) (cost s)
              rw [hc]
              exact this
          · simp at hx
            subst hx
            exact lt_irrefl _
        · rcases List.mem_append.1 hx with hx | hx
          · have h5 := h3 x hx
            have he : cost x = cost s := he
            rcases hc with hc | ⟨hc, hn⟩
            · rw [he] at h5
              exact absurd hc h5
            · have := h4 x hx (by rw [he, hc])
              show x.2 ≤ s.2
              omega
          · simp at hx
            subst hx
            exact Nat.le_refl _
      · have : upd cost (bestOf cost ss) s = bestOf cost ss := by unfold upd; rw [if_neg hc]
        rw [this]
        have hc1 : ¬ lt (cost s) (bestOf cost ss).1 := fun x => hc (.inl x)
        refine ⟨List.mem_append_left _ h1, h2, fun x hx => ?_, fun x hx he => ?_⟩
        · rcases List.mem_append.1 hx with hx | hx
          · exact h3 x hx
          · simp at hx
            subst hx
            exact hc1
        · rcases List.mem_append.1 hx with hx | hx
          · exact h4 x hx he
          · simp at hx
            subst hx
            have : ¬ (bestOf cost ss).2.2 < x.2 := fun y => hc (.inr ⟨he, y⟩)
            omega
section
variable (st : Nat → List Stp) (oc : Int → Cst)
/-- What is known of the last r places: by how many bytes are left. -/
def tab : Nat → Nat → Cst × Stp
  | 0, _ => ((0, 0), (0, 0))
  | r + 1, q => if q ≤ r then tab r q else bestOf (fun s => add (oc s.1) (tab r (r + 1 - s.2)).1) (st (r + 1))
def V (q : Nat) : Cst := (tab st oc q q).1
def F (q : Nat) : Stp := (tab st oc q q).2
theorem tab_le : ∀ r q, q ≤ r → tab st oc r q = tab st oc q q
  | 0, q, h => by
    obtain rfl : q = 0 := by omega
    rfl
  | r + 1, q, h => by
    by_cases hq : q ≤ r
    · rw [tab, if_pos hq]
      exact tab_le r q hq
    · obtain rfl : q = r + 1 := by omega
      rfl
theorem V_zero : V st oc 0 = (0, 0) := rfl
/-- The cost by a step. -/
def by_ (q : Nat) (s : Stp) : Cst := add (oc s.1) (V st oc (q - s.2))
theorem step_eq (q : Nat) (hst : ∀ s ∈ st (q + 1), 1 ≤ s.2) : (V st oc (q + 1), F st oc (q + 1)) = bestOf (by_ st oc (q + 1)) (st (q + 1)) := by
  have h : tab st oc (q + 1) (q + 1) = bestOf (fun s => add (oc s.1) (tab st oc q (q + 1 - s.2)).1) (st (q + 1)) := by
    rw [tab, if_neg (by omega)]
  show ((tab st oc (q + 1) (q + 1)).1, (tab st oc (q + 1) (q + 1)).2) = _
  rw [h]
  have hc : ∀ (ss : List Stp) (r : Cst × Stp), (∀ s ∈ ss, 1 ≤ s.2) → ss.foldl (upd fun s => add (oc s.1) (tab st oc q (q + 1 - s.2)).1) r = ss.foldl (upd (by_ st oc (q + 1))) r := by
    intro ss
    induction ss with
    | nil => intro r _; rfl
    | cons s ss ih =>
      intro r hs
      rw [List.foldl_cons, List.foldl_cons]
      have e : add (oc s.1) (tab st oc q (q + 1 - s.2)).1 = by_ st oc (q + 1) s := by
        unfold by_ V
        rw [tab_le st oc q (q + 1 - s.2) (by have := hs s (by simp); omega)]
      have e2 : upd (fun s => add (oc s.1) (tab st oc q (q + 1 - s.2)).1) r s = upd (by_ st oc (q + 1)) r s := by
        unfold upd
        simp only [e]
      rw [e2]
      exact ih _ (fun x hx => hs x (by simp [hx]))
  show bestOf _ _ = bestOf _ _
  unfold bestOf
  exact hc _ _ hst
/-- What may be asked of steps: at every place there is one; each goes on, and not too far; a token costs one. -/
structure Fine (n : Nat) : Prop where
  some_ : ∀ q, 1 ≤ q → q ≤ n → st q ≠ []
  pos : ∀ q, q ≤ n → ∀ s ∈ st q, 1 ≤ s.2 ∧ s.2 ≤ q
  one : ∀ q, q ≤ n → ∀ s ∈ st q, (oc s.1).1 = 1
  few : ∀ q, q ≤ n → ∀ s ∈ st q, (oc s.1).2 ≤ 40
  small : n ≤ 10000
variable {st oc}
theorem V_bound {n : Nat} (h : Fine st oc n) : ∀ q, q ≤ n → (V st oc q).1 ≤ q ∧ (V st oc q).2 ≤ 40 * q := by
  have key : ∀ m q, q ≤ m → q ≤ n → (V st oc q).1 ≤ q ∧ (V st oc q).2 ≤ 40 * q := by
    intro m
    induction m with
    | zero =>
      intro q hq _
      obtain rfl : q = 0 := by omega
      rw [V_zero]
      omega
    | succ m ih =>
      intro q hq hn
      by_cases hqm : q ≤ m
      · exact ih q hqm hn
      · obtain rfl : q = m + 1 := by omega
        have he := step_eq st oc m (fun s hs => (h.pos _ hn s hs).1)
        have hlt : ∀ s ∈ st (m + 1), lt (by_ st oc (m + 1) s) M := by
          intro s hs
          have h1 := h.pos _ hn s hs
          have h2 := h.one _ hn s hs
          have h3 := ih (m + 1 - s.2) (by omega) (by omega)
          have h4 := h.small
          unfold by_ add lt M
          simp only
          omega
        rcases best_so_far (by_ st oc (m + 1)) (st (m + 1)) hlt with ⟨h1, _⟩ | ⟨h1, h2, _, _⟩
        · exact absurd h1 (h.some_ _ (by omega) hn)
        · rw [← he] at h1 h2
          have h1 : F st oc (m + 1) ∈ st (m + 1) := h1
          have h2 : V st oc (m + 1) = by_ st oc (m + 1) (F st oc (m + 1)) := h2
          have g1 := h.pos _ hn _ h1
          have g2 := h.one _ hn _ h1
          have g3 := h.few _ hn _ h1
          have g4 := ih (m + 1 - (F st oc (m + 1)).2) (by omega) (by omega)
          rw [h2]
          unfold by_ add
          simp only
          omega
  intro q hq
  exact key q q (Nat.le_refl _) hq
theorem by_lt {n : Nat} (h : Fine st oc n) (q : Nat) (hn : q ≤ n) : ∀ s ∈ st q, lt (by_ st oc q s) M := by
  intro s hs
  have h1 := h.pos _ hn s hs
  have h2 := h.one _ hn s hs
  have h3 := V_bound h (q - s.2) (by omega)
  have h4 := h.small
  unfold by_ add lt M
  simp only
  omega
/-- The step that is taken. -/
theorem taken {n : Nat} (h : Fine st oc n) (q : Nat) (h1 : 1 ≤ q) (hn : q ≤ n) :
    F st oc q ∈ st q ∧ V st oc q = by_ st oc q (F st oc q) ∧ (∀ s ∈ st q, ¬ lt (by_ st oc q s) (V st oc q)) ∧ ∀ s ∈ st q, by_ st oc q s = V st oc q → s.2 ≤ (F st oc q).2 := by
  obtain ⟨m, rfl⟩ : ∃ m, q = m + 1 := ⟨q - 1, by omega⟩
  have he := step_eq st oc m (fun s hs => (h.pos _ hn s hs).1)
  rcases best_so_far (by_ st oc (m + 1)) (st (m + 1)) (by_lt h _ hn) with ⟨h2, _⟩ | h2
  · exact absurd h2 (h.some_ _ h1 hn)
  · rw [← he] at h2
    exact h2
/-- Tokens that go just so far. -/
def Path (st : Nat → List Stp) : Nat → List Stp → Prop
  | q, [] => q = 0
  | q, s :: ss => s ∈ st q ∧ Path st (q - s.2) ss
def sum (oc : Int → Cst) : List Stp → Cst
  | [] => (0, 0)
  | s :: ss => add (oc s.1) (sum oc ss)
/-- No tokens cost less. -/
theorem least {n : Nat} (h : Fine st oc n) : ∀ (ss : List Stp) (q : Nat), q ≤ n → Path st q ss → ¬ lt (sum oc ss) (V st oc q)
  | [], q, _, hp => by
    have hp : q = 0 := hp
    subst hp
    rw [V_zero]
    exact not_lt_zero _
  | s :: ss, q, hq, hp => by
    obtain ⟨h1, h2⟩ := hp
    have h3 := h.pos _ hq s h1
    have h4 := least h ss (q - s.2) (by omega) h2
    have h5 := (taken h q (by omega) hq).2.2.1 s h1
    exact not_lt_trans h5 (add_not_lt h4)
/-- The tokens that are taken. -/
def parse (st : Nat → List Stp) (oc : Int → Cst) : Nat → Nat → List Stp
  | 0, _ => []
  | f + 1, q => if q = 0 then [] else F st oc q :: parse st oc f (q - (F st oc q).2)
theorem parse_path {n : Nat} (h : Fine st oc n) : ∀ (f q : Nat), q ≤ f → q ≤ n → Path st q (parse st oc f q) ∧ sum oc (parse st oc f q) = V st oc q
  | 0, q, hf, _ => by
    obtain rfl : q = 0 := by omega
    exact ⟨rfl, rfl⟩
  | f + 1, q, hf, hn => by
    by_cases h0 : q = 0
    · subst h0
      exact ⟨rfl, rfl⟩
    · have h1 := taken h q (by omega) hn
      have h2 := h.pos _ hn _ h1.1
      have h3 := parse_path h f (q - (F st oc q).2) (by omega) (by omega)
      rw [parse, if_neg h0]
      refine ⟨⟨h1.1, h3.1⟩, ?_⟩
      show add _ (sum oc _) = _
      rw [h3.2, h1.2.1]
      rfl
theorem parse_fuel {n : Nat} (h : Fine st oc n) : ∀ (f g q : Nat), q ≤ f → q ≤ g → q ≤ n → parse st oc f q = parse st oc g q
  | 0, g, q, hf, _, _ => by
    obtain rfl : q = 0 := by omega
    cases g with
    | zero => rfl
    | succ g => rw [parse, parse, if_pos rfl]
  | f + 1, 0, q, _, hg, _ => by
    obtain rfl : q = 0 := by omega
    rw [parse, parse, if_pos rfl]
  | f + 1, g + 1, q, hf, hg, hn => by
    rw [parse, parse]
    by_cases h0 : q = 0
    · rw [if_pos h0, if_pos h0]
    · rw [if_neg h0, if_neg h0]
      have h1 := taken h q (by omega) hn
      have h2 := h.pos _ hn _ h1.1
      rw [parse_fuel h f g (q - (F st oc q).2) (by omega) (by omega) (by omega)]
end
end Go.Proofs.Ytfiflloieojgbaa.Best
