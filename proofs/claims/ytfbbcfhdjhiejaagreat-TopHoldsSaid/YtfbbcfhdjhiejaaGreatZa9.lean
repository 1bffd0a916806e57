/- Of the parts BestPure, Best: what the rows use. -/
import Derived.Test.YtfbbcfhdjhiejaaGreatZa1
import Derived.Test.YtfbbcfhdjhiejaaGreatZa7
import Derived.Test.YtfbbcfhdjhiejaaGreatZa8
import GoSem.Core.Lib
import Derived.Deep.RegionLaw
/- Chapter 15: the least costs from each place on, in plain Lean: whatever steps there are. No program in sight. -/
namespace Go.Proofs.YtfbbcfhdjhiejaaGreat.Best
set_option linter.unusedVariables false
set_option linter.unusedSimpArgs false
/-- What a cost is: how many tokens, how many bits. -/
abbrev Cst := Nat × Nat
def lt (a b : Cst) : Prop := a.1 < b.1 ∨ (a.1 = b.1 ∧ a.2 < b.2)
instance (a b : Cst) : Decidable (lt a b) := by unfold lt; exact inferInstance
def add (a b : Cst) : Cst := (a.1 + b.1, a.2 + b.2)
theorem lt_irrefl (a : Cst) : ¬ lt a a := by unfold lt; omega
theorem not_lt_trans {a b c : Cst} (h1 : ¬ lt b a) (h2 : ¬ lt c b) : ¬ lt c a := by unfold lt at *; omega
theorem lt_total {a b : Cst} (h1 : ¬ lt a b) (h2 : ¬ lt b a) : a = b := by
 unfold lt at *
 exact Prod.ext (by omega) (by omega)
theorem add_not_lt {a b c : Cst} (h : ¬ lt b a) : ¬ lt (add c b) (add c a) := by unfold lt add at *; simp only; omega
theorem not_lt_zero (a : Cst) : ¬ lt a (0, 0) := by unfold lt; omega
/-- A token, and how many bytes it takes. -/
abbrev Stp := Int × Nat
def M : Cst := (1099511627776, 1099511627776)
def upd (cost : Stp → Cst) (r : Cst × Stp) (s : Stp) : Cst × Stp := if lt (cost s) r.1 ∨ (cost s = r.1 ∧ r.2.2 < s.2) then (cost s, s) else r
def bestOf (cost : Stp → Cst) (ss : List Stp) : Cst × Stp := ss.foldl (upd cost) (M, (0, 0))
theorem bestOf_snoc (cost : Stp → Cst) (ss : List Stp) (s : Stp) : bestOf cost (ss ++ [s]) = upd cost (bestOf cost ss) s := by
 unfold bestOf
 rw [List.foldl_append]
 rfl
theorem snoc_ind {α : Type} {p : List α → Prop} (h0 : p []) (h1 : ∀ l x, p l → p (l ++ [x])) : ∀ l, p l := by
 intro l
 rw [← List.reverse_reverse l]
 generalize l.reverse = m
 induction m with
 | nil => exact h0
 | cons x m ih =>
   rw [List.reverse_cons]
   exact h1 _ _ ih
/-- What is kept so far. -/
theorem best_so_far (cost : Stp → Cst) (ss : List Stp) : (∀ s ∈ ss, lt (cost s) M) →
  (ss = [] ∧ bestOf cost ss = (M, (0, 0))) ∨ ((bestOf cost ss).2 ∈ ss ∧ (bestOf cost ss).1 = cost (bestOf cost ss).2 ∧ (∀ s ∈ ss, ¬ lt (cost s) (bestOf cost ss).1) ∧ ∀ s ∈ ss, cost s = (bestOf cost ss).1 → s.2 ≤ (bestOf cost ss).2.2) := by
 refine snoc_ind (p := fun ss => (∀ s ∈ ss, lt (cost s) M) → (ss = [] ∧ bestOf cost ss = (M, (0, 0))) ∨ ((bestOf cost ss).2 ∈ ss ∧ (bestOf cost ss).1 = cost (bestOf cost ss).2 ∧ (∀ s ∈ ss, ¬ lt (cost s) (bestOf cost ss).1) ∧ ∀ s ∈ ss, cost s = (bestOf cost ss).1 → s.2 ≤ (bestOf cost ss).2.2)) ?_ ?_ ss
 ·exact fun _ => .inl ⟨rfl, rfl⟩
 ·intro ss s ih h
  right
  have ih := ih (fun x hx => h x (List.mem_append_left _ hx))
  have hs := h s (by simp)
  rw [bestOf_snoc]
  rcases ih with ⟨he, hb⟩ | ⟨h1, h2, h3, h4⟩
  ·subst he
   rw [hb]
   have : upd cost (M, (0, 0)) s = (cost s, s) := by unfold upd; rw [if_pos (.inl hs)]
   rw [this]
   refine ⟨by simp, rfl, fun x hx => ?_, fun x hx _ => ?_⟩
   ·simp at hx
    subst hx
    exact lt_irrefl _
   ·simp at hx
    subst hx
    exact Nat.le_refl _
  ·by_cases hc : lt (cost s) (bestOf cost ss).1 ∨ (cost s = (bestOf cost ss).1 ∧ (bestOf cost ss).2.2 < s.2)
   ·have : upd cost (bestOf cost ss) s = (cost s, s) := by unfold upd; rw [if_pos hc]
    rw [this]
    refine ⟨by simp, rfl, fun x hx => ?_, fun x hx he => ?_⟩
    ·rcases List.mem_append.1 hx with hx | hx
     ·have := h3 x hx
      rcases hc with hc | ⟨hc, _⟩
      ·intro hl
       have hl : lt (cost x) (cost s) := hl
       exact this (by unfold lt at *; omega)
      ·show ¬ lt (cost x) (cost s)
       rw [hc]
       exact this
     ·simp at hx
      subst hx
      exact lt_irrefl _
    ·rcases List.mem_append.1 hx with hx | hx
     ·have h5 := h3 x hx
      have he : cost x = cost s := he
      rcases hc with hc | ⟨hc, hn⟩
      ·rw [he] at h5
       exact absurd hc h5
      ·have := h4 x hx (by rw [he, hc])
       show x.2 ≤ s.2
       omega
     ·simp at hx
      subst hx
      exact Nat.le_refl _
   ·have : upd cost (bestOf cost ss) s = bestOf cost ss := by unfold upd; rw [if_neg hc]
    rw [this]
    have hc1 : ¬ lt (cost s) (bestOf cost ss).1 := fun x => hc (.inl x)
    refine ⟨List.mem_append_left _ h1, h2, fun x hx => ?_, fun x hx he => ?_⟩
    ·rcases List.mem_append.1 hx with hx | hx
     ·exact h3 x hx
     ·simp at hx
      subst hx
      exact hc1
    ·rcases List.mem_append.1 hx with hx | hx
     ·exact h4 x hx he
     ·simp at hx
      subst hx
      have : ¬ (bestOf cost ss).2.2 < x.2 := fun y => hc (.inr ⟨he, y⟩)
      omega
section
variable (st : Nat → List Stp) (oc : Int → Cst)
/-- What is known of the last r places: by how many bytes are left. -/
def tab : Nat → Nat → Cst × Stp
 | 0, _ => ((0, 0), (0, 0))
 | r + 1, q => if q ≤ r then tab r q else bestOf (fun s => add (oc s.1) (tab r (r + 1 - s.2)).1) (st (r + 1))
def V (q : Nat) : Cst := (tab st oc q q).1
def F (q : Nat) : Stp := (tab st oc q q).2
theorem tab_le : ∀ r q, q ≤ r → tab st oc r q = tab st oc q q
 | 0, q, h => by
   obtain rfl : q = 0 := by omega
   rfl
 | r + 1, q, h => by
   by_cases hq : q ≤ r
   ·rw [tab, if_pos hq]
    exact tab_le r q hq
   ·obtain rfl : q = r + 1 := by omega
    rfl
theorem V_zero : V st oc 0 = (0, 0) := rfl
/-- The cost by a step. -/
def by_ (q : Nat) (s : Stp) : Cst := add (oc s.1) (V st oc (q - s.2))
theorem step_eq (q : Nat) (hst : ∀ s ∈ st (q + 1), 1 ≤ s.2) : (V st oc (q + 1), F st oc (q + 1)) = bestOf (by_ st oc (q + 1)) (st (q + 1)) := by
 have h : tab st oc (q + 1) (q + 1) = bestOf (fun s => add (oc s.1) (tab st oc q (q + 1 - s.2)).1) (st (q + 1)) := by
  rw [tab, if_neg (by omega)]
 show ((tab st oc (q + 1) (q + 1)).1, (tab st oc (q + 1) (q + 1)).2) = _
 rw [h]
 have hc : ∀ (ss : List Stp) (r : Cst × Stp), (∀ s ∈ ss, 1 ≤ s.2) → ss.foldl (upd fun s => add (oc s.1) (tab st oc q (q + 1 - s.2)).1) r = ss.foldl (upd (by_ st oc (q + 1))) r := by
  intro ss
  induction ss with
  | nil => intro r _; rfl
  | cons s ss ih =>
    intro r hs
    rw [List.foldl_cons, List.foldl_cons]
    have e : add (oc s.1) (tab st oc q (q + 1 - s.2)).1 = by_ st oc (q + 1) s := by
     unfold by_ V
     rw [tab_le st oc q (q + 1 - s.2) (by have := hs s (by simp); omega)]
    have e2 : upd (fun s => add (oc s.1) (tab st oc q (q + 1 - s.2)).1) r s = upd (by_ st oc (q + 1)) r s := by
     unfold upd
     simp only [e]
    rw [e2]
    exact ih _ (fun x hx => hs x (by simp [hx]))
 show bestOf _ _ = bestOf _ _
 unfold bestOf
 exact hc _ _ hst
/-- What may be asked of steps: at every place there is one; each goes on, and not too far; a token costs one. -/
structure Fine (n : Nat) : Prop where
 some_ : ∀ q, 1 ≤ q → q ≤ n → st q ≠ []
 pos : ∀ q, q ≤ n → ∀ s ∈ st q, 1 ≤ s.2 ∧ s.2 ≤ q
 one : ∀ q, q ≤ n → ∀ s ∈ st q, (oc s.1).1 = 1
 few : ∀ q, q ≤ n → ∀ s ∈ st q, (oc s.1).2 ≤ 40
 small : n ≤ 10000
variable {st oc}
theorem V_bound {n : Nat} (h : Fine st oc n) : ∀ q, q ≤ n → (V st oc q).1 ≤ q ∧ (V st oc q).2 ≤ 40 * q := by
 have key : ∀ m q, q ≤ m → q ≤ n → (V st oc q).1 ≤ q ∧ (V st oc q).2 ≤ 40 * q := by
  intro m
  induction m with
  | zero =>
    intro q hq _
    obtain rfl : q = 0 := by omega
    rw [V_zero]
    omega
  | succ m ih =>
    intro q hq hn
    by_cases hqm : q ≤ m
    ·exact ih q hqm hn
    ·obtain rfl : q = m + 1 := by omega
     have he := step_eq st oc m (fun s hs => (h.pos _ hn s hs).1)
     have hlt : ∀ s ∈ st (m + 1), lt (by_ st oc (m + 1) s) M := by
      intro s hs
      have h1 := h.pos _ hn s hs
      have h2 := h.one _ hn s hs
      have h3 := ih (m + 1 - s.2) (by omega) (by omega)
      have h4 := h.small
      unfold by_ add lt M
      simp only
      omega
     rcases best_so_far (by_ st oc (m + 1)) (st (m + 1)) hlt with ⟨h1, _⟩ | ⟨h1, h2, _, _⟩
     ·exact absurd h1 (h.some_ _ (by omega) hn)
     ·rw [← he] at h1 h2
      have h1 : F st oc (m + 1) ∈ st (m + 1) := h1
      have h2 : V st oc (m + 1) = by_ st oc (m + 1) (F st oc (m + 1)) := h2
      have g1 := h.pos _ hn _ h1
      have g2 := h.one _ hn _ h1
      have g3 := h.few _ hn _ h1
      have g4 := ih (m + 1 - (F st oc (m + 1)).2) (by omega) (by omega)
      rw [h2]
      unfold by_ add
      simp only
      omega
 intro q hq
 exact key q q (Nat.le_refl _) hq
theorem by_lt {n : Nat} (h : Fine st oc n) (q : Nat) (hn : q ≤ n) : ∀ s ∈ st q, lt (by_ st oc q s) M := by
 intro s hs
 have h1 := h.pos _ hn s hs
 have h2 := h.one _ hn s hs
 have h3 := V_bound h (q - s.2) (by omega)
 have h4 := h.small
 unfold by_ add lt M
 simp only
 omega
/-- The step that is taken. -/
theorem taken {n : Nat} (h : Fine st oc n) (q : Nat) (h1 : 1 ≤ q) (hn : q ≤ n) :
  F st oc q ∈ st q ∧ V st oc q = by_ st oc q (F st oc q) ∧ (∀ s ∈ st q, ¬ lt (by_ st oc q s) (V st oc q)) ∧ ∀ s ∈ st q, by_ st oc q s = V st oc q → s.2 ≤ (F st oc q).2 := by
 obtain ⟨m, rfl⟩ : ∃ m, q = m + 1 := ⟨q - 1, by omega⟩
 have he := step_eq st oc m (fun s hs => (h.pos _ hn s hs).1)
 rcases best_so_far (by_ st oc (m + 1)) (st (m + 1)) (by_lt h _ hn) with ⟨h2, _⟩ | h2
 ·exact absurd h2 (h.some_ _ h1 hn)
 ·rw [← he] at h2
  exact h2
/-- Tokens that go just so far. -/
def Path (st : Nat → List Stp) : Nat → List Stp → Prop
 | q, [] => q = 0
 | q, s :: ss => s ∈ st q ∧ Path st (q - s.2) ss
def sum (oc : Int → Cst) : List Stp → Cst
 | [] => (0, 0)
 | s :: ss => add (oc s.1) (sum oc ss)
/-- No tokens cost less. -/
theorem least {n : Nat} (h : Fine st oc n) : ∀ (ss : List Stp) (q : Nat), q ≤ n → Path st q ss → ¬ lt (sum oc ss) (V st oc q)
 | [], q, _, hp => by
   have hp : q = 0 := hp
   subst hp
   rw [V_zero]
   exact not_lt_zero _
 | s :: ss, q, hq, hp => by
   obtain ⟨h1, h2⟩ := hp
   have h3 := h.pos _ hq s h1
   have h4 := least h ss (q - s.2) (by omega) h2
   have h5 := (taken h q (by omega) hq).2.2.1 s h1
   exact not_lt_trans h5 (add_not_lt h4)
/-- The tokens that are taken. -/
def parse (st : Nat → List Stp) (oc : Int → Cst) : Nat → Nat → List Stp
 | 0, _ => []
 | f + 1, q => if q = 0 then [] else F st oc q :: parse st oc f (q - (F st oc q).2)
theorem parse_path {n : Nat} (h : Fine st oc n) : ∀ (f q : Nat), q ≤ f → q ≤ n → Path st q (parse st oc f q) ∧ sum oc (parse st oc f q) = V st oc q
 | 0, q, hf, _ => by
   obtain rfl : q = 0 := by omega
   exact ⟨rfl, rfl⟩
 | f + 1, q, hf, hn => by
   by_cases h0 : q = 0
   ·subst h0
    exact ⟨rfl, rfl⟩
   ·have h1 := taken h q (by omega) hn
    have h2 := h.pos _ hn _ h1.1
    have h3 := parse_path h f (q - (F st oc q).2) (by omega) (by omega)
    rw [parse, if_neg h0]
    refine ⟨⟨h1.1, h3.1⟩, ?_⟩
    show add _ (sum oc _) = _
    rw [h3.2, h1.2.1]
    rfl
theorem parse_fuel {n : Nat} (h : Fine st oc n) : ∀ (f g q : Nat), q ≤ f → q ≤ g → q ≤ n → parse st oc f q = parse st oc g q
 | 0, g, q, hf, _, _ => by
   obtain rfl : q = 0 := by omega
   cases g with
   | zero => rfl
   | succ g => rw [parse, parse, if_pos rfl]
 | f + 1, 0, q, _, hg, _ => by
   obtain rfl : q = 0 := by omega
   rw [parse, parse, if_pos rfl]
 | f + 1, g + 1, q, hf, hg, hn => by
   rw [parse, parse]
   by_cases h0 : q = 0
   ·rw [if_pos h0, if_pos h0]
   ·rw [if_neg h0, if_neg h0]
    have h1 := taken h q (by omega) hn
    have h2 := h.pos _ hn _ h1.1
    rw [parse_fuel h f g (q - (F st oc q).2) (by omega) (by omega) (by omega)]
end
end Go.Proofs.YtfbbcfhdjhiejaaGreat.Best

/- Chapter 15: the steps at a place; words for rows of steps and of costs. -/
namespace Go.Proofs.YtfbbcfhdjhiejaaGreat.Best
set_option linter.unusedVariables false
set_option linter.unusedSimpArgs false
open Go.RowKit Go.Proofs.YtfbbcfhdjhiejaaGreatW.PrintWords Go.Proofs.YtfbbcfhdjhiejaaGreatW.PrintMore Go.Proofs.YtfbbcfhdjhiejaaGreat.L Go.Proofs.YtfbbcfhdjhiejaaGreat.Texts Go.Proofs.YtfbbcfhdjhiejaaGreat.Dict Go.Proofs.YtfbbcfhdjhiejaaGreat.Ints Go.Proofs.YtfbbcfhdjhiejaaGreat.Greedy
/-! ### which steps there are -/
def phr (l : List ByteArray) (b : ByteArray) (a : Nat) : Nat → List Stp
 | 0 => []
 | k + 1 => if stands l b a k = true then phr l b a k ++ [(256 + (k : Int), (l.getD k no).size)] else phr l b a k
theorem phr_len (l : List ByteArray) (b : ByteArray) (a : Nat) : ∀ k, (phr l b a k).length ≤ k
 | 0 => Nat.le_refl _
 | k + 1 => by
   have := phr_len l b a k
   show (if stands l b a k = true then _ else _ : List Stp).length ≤ _
   split
   ·rw [List.length_append]; simp only [List.length_singleton]; omega
   ·omega
theorem phr_mem (l : List ByteArray) (b : ByteArray) (a : Nat) (s : Stp) : ∀ k, s ∈ phr l b a k ↔ ∃ j, j < k ∧ stands l b a j = true ∧ s = (256 + (j : Int), (l.getD j no).size)
 | 0 => by simp [phr]
 | k + 1 => by
   show s ∈ (if stands l b a k = true then phr l b a k ++ [(256 + (k : Int), (l.getD k no).size)] else phr l b a k) ↔ _
   by_cases h : stands l b a k = true
   ·rw [if_pos h, List.mem_append, List.mem_singleton, phr_mem l b a s k]
    constructor
    ·rintro (⟨j, h1, h2, h3⟩ | h1)
     ·exact ⟨j, by omega, h2, h3⟩
     ·exact ⟨k, by omega, h, h1⟩
    ·rintro ⟨j, h1, h2, h3⟩
     by_cases hj : j = k
     ·subst hj
      exact .inr h3
     ·exact .inl ⟨j, by omega, h2, h3⟩
   ·rw [if_neg h, phr_mem l b a s k]
    constructor
    ·rintro ⟨j, h1, h2, h3⟩
     exact ⟨j, by omega, h2, h3⟩
    ·rintro ⟨j, h1, h2, h3⟩
     by_cases hj : j = k
     ·subst hj
      exact absurd h2 h
     ·exact ⟨j, by omega, h2, h3⟩
def steps (l : List ByteArray) (b : ByteArray) (a : Nat) : List Stp := phr l b a l.length ++ [(byteAt b a, 1)]
/-! ### rows of steps -/
def SK : Kd Stp := Kd.pair (Kd.int .i64) (Kd.scalar (fun n : Nat => Value.int .i64 n) (fun _ => rfl))
theorem sk_K {w : World} {x : Stp} {cs : List Value} : SK.K w x cs ↔ cs = [.int .i64 x.1, .int .i64 x.2] := by
 constructor
 ·rintro ⟨c0, c1, rfl, h0, h1⟩
  have h0 : c0 = [.int .i64 x.1] := h0
  have h1 : c1 = [.int .i64 x.2] := h1
  rw [h0, h1]; rfl
 ·rintro rfl
  exact ⟨[.int .i64 x.1], [.int .i64 x.2], rfl, rfl, rfl⟩
theorem sk_M {w : World} {base : Nat} {ok : Nat → Prop} {x : Stp} : SK.M w base ok x [.int .i64 x.1, .int .i64 x.2] := ⟨[.int .i64 x.1], [.int .i64 x.2], rfl, rfl, rfl⟩
theorem infoStep : (Tryz.prog.info? 118).map (fun i => (i.zero, i.size, i.bytes)) = some (some (.agg #[.int .i64 0, .int .i64 0]), 2, 16) := by kernel_rfl
theorem infoCost : (Tryz.prog.info? 154).map (fun i => (i.zero, i.size, i.bytes)) = some (some (.complex .f64 0 0), 1, 16) := by kernel_rfl
/-- Block g holds the steps f 0, f 1, .. -/
def SBlk (w : World) (g n : Nat) (f : Nat → Stp) : Prop := ∃ cs : Array Value, w.heap[g]? = some (.cells cs 118 (0, 0)) ∧ ∀ j, j < n → cs[j * 2]? = some (.int .i64 (f j).1) ∧ cs[j * 2 + 1]? = some (.int .i64 (f j).2)
/-- Block g holds the costs f 0, f 1, .. -/
def CBlk (w : World) (g n : Nat) (f : Nat → Cst) : Prop := ∃ cs : Array Value, w.heap[g]? = some (.cells cs 154 (0, 0)) ∧ (∀ j, j < n → cs[j]? = some (Cost.cx (f j).1 (f j).2)) ∧ cs.size = n
section
variable {w w' : World} {g n : Nat} {f f' : Nat → Stp} {c c' : Nat → Cst}
theorem SBlk.heap (h : SBlk w g n f) (hw : w'.heap[g]? = w.heap[g]?) : SBlk w' g n f := by
 obtain ⟨cs, hb, r⟩ := h
 exact ⟨cs, hw.trans hb, r⟩
theorem CBlk.heap (h : CBlk w g n c) (hw : w'.heap[g]? = w.heap[g]?) : CBlk w' g n c := by
 obtain ⟨cs, hb, r⟩ := h
 exact ⟨cs, hw.trans hb, r⟩
theorem SBlk.lt (h : SBlk w g n f) : g < w.heap.size := by obtain ⟨cs, hb, r⟩ := h; exact blk_lt hb
theorem CBlk.lt (h : CBlk w g n c) : g < w.heap.size := by obtain ⟨cs, hb, r⟩ := h; exact blk_lt hb
theorem SBlk.frozen (h : SBlk w g n f) (k : Nat) : w.frozen? ⟨g, k, none⟩ = false := by obtain ⟨cs, hb, r⟩ := h; simp [World.frozen?, hb]
theorem CBlk.frozen (h : CBlk w g n c) (k : Nat) : w.frozen? ⟨g, k, none⟩ = false := by obtain ⟨cs, hb, r⟩ := h; simp [World.frozen?, hb]
theorem SBlk.tok (h : SBlk w g n f) (j : Nat) (hj : j < n) : w.cell? ⟨g, j * 2, none⟩ = some (.int .i64 (f j).1) := by
 obtain ⟨cs, hb, r⟩ := h
 rw [cell_of_row w g (j * 2) cs _ _ hb]
 exact (r j hj).1
theorem SBlk.len (h : SBlk w g n f) (j : Nat) (hj : j < n) : w.cell? ⟨g, j * 2 + 1, none⟩ = some (.int .i64 (f j).2) := by
 obtain ⟨cs, hb, r⟩ := h
 rw [cell_of_row w g (j * 2 + 1) cs _ _ hb]
 exact (r j hj).2
theorem CBlk.cell (h : CBlk w g n c) (j : Nat) (hj : j < n) : w.cell? ⟨g, j, none⟩ = some (Cost.cx (c j).1 (c j).2) := by
 obtain ⟨cs, hb, r⟩ := h
 rw [cell_of_row w g j cs _ _ hb]
 exact r.1 j hj
theorem CBlk.congr (h : CBlk w g n c) (he : ∀ j, j < n → c j = c' j) : CBlk w g n c' := by
 obtain ⟨cs, hb, r⟩ := h
 exact ⟨cs, hb, fun j hj => by rw [← he j hj]; exact r.1 j hj, r.2⟩
theorem SBlk.congr (h : SBlk w g n f) (he : ∀ j, j < n → f j = f' j) : SBlk w g n f' := by
 obtain ⟨cs, hb, r⟩ := h
 exact ⟨cs, hb, fun j hj => by rw [← he j hj]; exact r j hj⟩
theorem CBlk.set (h : CBlk w g n c) (a : Nat) (ha : a < n) (x : Cst) : CBlk (w.setCell ⟨g, a, none⟩ (Cost.cx x.1 x.2)) g n (fun j => if j = a then x else c j) := by
 obtain ⟨cs, hb, r⟩ := h
 refine ⟨_, heap_setCell_same w g a _ _ _ hb, fun j hj => ?_, by rw [Array.size_setIfInBounds]; exact r.2⟩
 show _ = some (Cost.cx (if j = a then x else c j).1 (if j = a then x else c j).2)
 have hs : a < cs.size := (Array.getElem?_eq_some_iff.1 (r.1 a ha)).1
 by_cases hja : j = a
 ·subst hja
  rw [if_pos rfl, Array.getElem?_setIfInBounds, if_pos rfl, if_pos hs]
 ·rw [if_neg hja, Array.getElem?_setIfInBounds, if_neg (by omega)]
  exact r.1 j hj
theorem SBlk.set (h : SBlk w g n f) (a : Nat) (ha : a < n) (x : Stp) : SBlk ((w.setCell ⟨g, a * 2, none⟩ (.int .i64 x.1)).setCell ⟨g, a * 2 + 1, none⟩ (.int .i64 x.2)) g n (fun j => if j = a then x else f j) := by
 obtain ⟨cs, hb, r⟩ := h
 have hs1 : a * 2 < cs.size := (Array.getElem?_eq_some_iff.1 (r a ha).1).1
 have hs2 : a * 2 + 1 < cs.size := (Array.getElem?_eq_some_iff.1 (r a ha).2).1
 refine ⟨_, heap_setCell_same _ g (a * 2 + 1) _ _ _ (heap_setCell_same w g (a * 2) _ _ _ hb), fun j hj => ?_⟩
 show _ = some (Value.int .i64 (if j = a then x else f j).1) ∧ _ = some (Value.int .i64 (if j = a then x else f j).2)
 by_cases hja : j = a
 ·subst hja
  rw [if_pos rfl]
  constructor
  ·rw [Array.getElem?_setIfInBounds, if_neg (by omega), Array.getElem?_setIfInBounds, if_pos rfl, if_pos hs1]
  ·rw [Array.getElem?_setIfInBounds, if_pos rfl, if_pos (by simpa using hs2)]
 ·rw [if_neg hja]
  constructor
  ·rw [Array.getElem?_setIfInBounds, if_neg (by omega), Array.getElem?_setIfInBounds, if_neg (by omega)]
   exact (r j hj).1
  ·rw [Array.getElem?_setIfInBounds, if_neg (by omega), Array.getElem?_setIfInBounds, if_neg (by omega)]
   exact (r j hj).2
theorem CBlk.far (h : CBlk w g n c) {p : Addr} (hp : g ≠ p.block) (u : Value) : CBlk (w.setCell p u) g n c := h.heap (Below.heap_setCell _ _ _ _ hp)
theorem SBlk.far (h : SBlk w g n f) {p : Addr} (hp : g ≠ p.block) (u : Value) : SBlk (w.setCell p u) g n f := h.heap (Below.heap_setCell _ _ _ _ hp)
theorem CBlk.bel (h : CBlk w g n c) (hb : Below w.heap.size w w') : CBlk w' g n c := h.heap (hb.block g h.lt)
theorem SBlk.bel (h : SBlk w g n f) (hb : Below w.heap.size w w') : SBlk w' g n f := h.heap (hb.block g h.lt)
theorem CBlk.alloc (h : CBlk w g n c) (o : Obj) : CBlk (w.alloc o) g n c := h.heap (Below.heap_alloc _ _ _ h.lt)
theorem SBlk.alloc (h : SBlk w g n f) (o : Obj) : SBlk (w.alloc o) g n f := h.heap (Below.heap_alloc _ _ _ h.lt)
end
/-! ### best.steps -/
set_option maxRecDepth 100000 in
set_option maxHeartbeats 1000000 in
theorem steps_any (A : Option Addr) (c : Nat) (l : List ByteArray) (b : ByteArray) (a : Nat) (w : World) (h : KS.C w A l.length l) (hok : okTexts l) (ha : a < b.size) (hb : b.size ≤ 1024) :
  Calls Tryz.prog 94 #[.slice A l.length c, .string b, .int .i64 a] w fun e w' => ∃ v, e = .returned v ∧ SK.R 118 w' w.heap.size (fun _ => True) v (steps l b a) ∧ Below w.heap.size w w' := by
 have H := Lib.hid h
 have HOK := Lib.hid hok
 have h100 := hok.1
 have ai0 : (0 : Int) ≤ a := by omega
 have ai1 : (a : Int) < (b.size : Int) := by omega
 have ai2 : ((a : Int)).toNat = a := by omega
 have HBT := Lib.hid (bt_byteAt b a ha)
 clear h hok
 go_enter Tryz.func94, Tryz.ntmps94
 go_wp2_with (fail)
 go_loopg [7, 12] l.length (fun j v i wr => ∃ k : Nat, k + j = l.length ∧ i = .int .i64 k ∧ Hid (SK.R 118 wr w.heap.size (fun _ => True) v (phr l b a k) ∧ Below w.heap.size w wr))
 case atStart => exact ⟨0, by omega, rfl, Kd.R_nil _ _ _ _ _, Below.refl _ _⟩
 case round =>
  obtain ⟨k, hk, rfl, HI⟩ := hrel
  obtain ⟨hr, hbw⟩ := HI.out
  have hpl := phr_len l b a k
  by_cases hlt : k < l.length
  ·obtain ⟨ad, rfl, x0⟩ := strs_at (Kd.C_below H.out hbw) k hlt
   have hph : phr l b a (k + 1) = if isPre (b.extract a b.size) (l.getD k no) = true then phr l b a k ++ [(256 + (k : Int), (l.getD k no).size)] else phr l b a k := rfl
   have h40 := (HOK.out.2 k hlt).2.1
   obtain ⟨x, hx⟩ : ∃ x, l.getD k no = x := ⟨_, rfl⟩
   rw [hx] at x0 hph h40
   obtain ⟨A7, c7, rfl⟩ := Kd.R_slice hr
   obtain ⟨P, hP⟩ : ∃ P, (phr l b a k).length = P := ⟨_, rfl⟩
   rw [hP] at hpl ⊢
   have i0 : (0 : Int) ≤ k := by omega
   have i1 : (k : Int) < (l.length : Int) := by omega
   have i2 : ((k : Int)).toNat = k := by omega
   have k100 : (k : Int) ≤ 100 := by omega
   have x40 : (x.size : Int) ≤ 40 := by omega
   have hes : (b.extract a b.size).size ≤ 140737488351232 := by rw [ByteArray.size_extract]; omega
   have hxs : x.size ≤ 140737488351232 := by omega
   have HPH := Lib.hid hph
   have HP := Lib.hid hP
   have HPL := Lib.hid hpl
   have HR := Lib.hid hr
   have HB := Lib.hid hbw
   have HK := Lib.hid hk
   have HES := Lib.hid hes
   clear hph hP hpl hr hbw HI hk hx h40 hes
   go_wp2_with (fail)
   refine (prefix_any _ _ _ HES.out hxs).mono ?_
   rintro e w1 ⟨rfl, rfl⟩
   cases hpre : isPre (b.extract a b.size) x
   ·rw [hpre, if_neg (by decide)] at HPH
    go_wp2_with (fail)
    go_roundg (l.length - (k + 1))
    case measure => have := HK.out; omega
    case rel => exact ⟨k + 1, by have := HK.out; omega, by go_num, by rw [HPH.out]; have := HR.out; rw [HP.out] at this; exact this, HB.out⟩
   ·rw [hpre, if_pos rfl] at HPH
    go_wp2_with (((with_reducible refine gate_builtin (b := .append) (xs := #[.tmp 22, .tmp 28]) rfl ?_); at_builtin; apply stopper))
    unfold Stopper
    refine Kd.R_append SK (w0 := w) w.heap.size rfl (.tmp 22) (.tmp 28) 114 118 (.agg #[.int .i64 0, .int .i64 0]) 16 rfl Tryz.underlying114 infoStep rfl (by decide) (by omega) (.slice A7 P c7) (phr l b a k) (256 + (k : Int), x.size) [.int .i64 (256 + (k : Int)), .int .i64 x.size] (fun _ => True) (fun _ => False) rfl rfl ?aP (fun _ hk => hk.elim) (fun _ _ => trivial) (by have := HR.out; rw [HP.out] at this; exact this) HB.out HB.out.size (by rw [HP.out]; have := HPL.out; omega) ?_
    case aP => exact sk_M
    intro v9 w9 ho9 hb9 hg9 hat9
    rw [← HPH.out] at ho9
    have HR9 := Lib.hid ho9
    have HB9 := Lib.hid hb9
    clear ho9 hb9 hg9 hat9 HR HB hpre
    go_wp2_with (fail)
    go_roundg (l.length - (k + 1))
    case measure => have := HK.out; omega
    case rel => exact ⟨k + 1, by have := HK.out; omega, by go_num, HR9.out, HB9.out⟩
  ·obtain rfl : k = l.length := by omega
   obtain ⟨A7, c7, rfl⟩ := Kd.R_slice hr
   obtain ⟨P, hP⟩ : ∃ P, (phr l b a l.length).length = P := ⟨_, rfl⟩
   rw [hP] at hpl ⊢
   have HP := Lib.hid hP
   have HPL := Lib.hid hpl
   have HR := Lib.hid hr
   have HB := Lib.hid hbw
   clear hP hpl hr hbw HI hk
   have hw8 : wrap64 (((b[a]'ha).toNat : Nat) : Int) = byteAt b a := by rw [HBT.out]; have := byteAt_lt b a; unfold wrap64; omega
   go_wp2_with (((with_reducible refine gate_builtin (b := .append) (xs := #[.tmp 31, .tmp 37]) rfl ?_); at_builtin; apply stopper))
   unfold Stopper
   refine Kd.R_append SK (w0 := w) w.heap.size rfl (.tmp 31) (.tmp 37) 114 118 (.agg #[.int .i64 0, .int .i64 0]) 16 rfl Tryz.underlying114 infoStep rfl (by decide) (by omega) (.slice A7 P c7) (phr l b a l.length) (byteAt b a, 1) [.int .i64 (byteAt b a), .int .i64 1] (fun _ => True) (fun _ => False) rfl rfl ?aP (fun _ hk => hk.elim) (fun _ _ => trivial) (by have := HR.out; rw [HP.out] at this; exact this) HB.out HB.out.size (by rw [HP.out]; have := HPL.out; omega) ?_
   case aP => exact sk_M
   intro v9 w9 ho9 hb9 hg9 hat9
   have HR9 := Lib.hid (show SK.R 118 w9 w.heap.size (fun _ => True) v9 (steps l b a) from ho9)
   have HB9 := Lib.hid hb9
   clear ho9 hb9 hg9 hat9 HR HB
   go_wp2_with (fail)
   go_ret
   exact ⟨_, rfl, HR9.out, HB9.out⟩
/-- The steps, as a block of one's own. -/
theorem SBlk_of_R {w : World} {base : Nat} {ok : Nat → Prop} {v : Value} {xs : List Stp} (h : SK.R 118 w base ok v xs) (hn : 0 < xs.length) :
  ∃ g cap, v = .slice (some ⟨g, 0, none⟩) xs.length cap ∧ base ≤ g ∧ SBlk w g xs.length (fun j => xs.getD j (0, 0)) := by
 obtain ⟨g, cap, hv, hge, hgl, cells, hcell⟩ := Kd.R_form h hn
 subst hv
 refine ⟨g, cap, rfl, hge, cells, hcell, fun j hj => ?_⟩
 obtain ⟨ad, c, e, _, hK, hc⟩ := ReadsRow.get_ (Kd.R_reads' h).2.2 (0, 0) (j : Int) (by omega) (by omega)
 rw [Int.toNat_natCast] at hK hc
 have hK := sk_K.1 hK
 subst hK
 injection e with e
 subst e
 constructor
 ·have := hc 0 _ rfl
  rw [show SK.sz = 2 from rfl, Nat.add_zero, add_plain, cell_of_row w g (j * 2) cells _ _ hcell] at this
  exact this
 ·have := hc 1 _ rfl
  rw [show SK.sz = 2 from rfl, add_plain, cell_of_row w g (j * 2 + 1) cells _ _ hcell] at this
  exact this
/-! ### from each place on -/
def stq (l : List ByteArray) (b : ByteArray) (q : Nat) : List Stp := if q = 0 then [] else steps l b (b.size - q)
def oc (t : Int) : Cst := (Cost.cT t, 8 * Cost.vlen t)
def VV (l : List ByteArray) (b : ByteArray) (j : Nat) : Cst := V (stq l b) oc (b.size - j)
def FF (l : List ByteArray) (b : ByteArray) (j : Nat) : Stp := F (stq l b) oc (b.size - j)
theorem oc_tok (t : Int) (h0 : 0 ≤ t) (h1 : t ≤ 1000) : (oc t).1 = 1 ∧ (oc t).2 ≤ 40 := by
 have h2 := (Cost.vlen_pos t).2 ⟨h0, by omega⟩
 have h3 := Cost.vlen_le t
 unfold oc Cost.cT
 rw [if_neg (by omega)]
 exact ⟨rfl, by simp only; omega⟩
theorem steps_fit {l : List ByteArray} (hok : okTexts l) {b : ByteArray} {a : Nat} (ha : a < b.size) {s : Stp} (hs : s ∈ steps l b a) : 1 ≤ s.2 ∧ s.2 ≤ b.size - a ∧ 0 ≤ s.1 ∧ s.1 ≤ 1000 := by
 rcases List.mem_append.1 hs with hs | hs
 ·obtain ⟨j, h1, h2, rfl⟩ := (phr_mem l b a s l.length).1 hs
  have h3 := (stands_iff l b a j (by omega)).1 h2
  have h4 := (hok.2 j h1).1
  have h5 := hok.1
  exact ⟨by simp only; omega, h3.1, by simp only; omega, by simp only; omega⟩
 ·rw [List.mem_singleton] at hs
  subst hs
  have := byteAt_lt b a
  exact ⟨Nat.le_refl _, by simp only; omega, by simp only; omega, by simp only; omega⟩
theorem fine {l : List ByteArray} (hok : okTexts l) {b : ByteArray} (hb : b.size ≤ 1024) : Fine (stq l b) oc b.size := by
 have key : ∀ q, q ≤ b.size → ∀ s ∈ stq l b q, 1 ≤ s.2 ∧ s.2 ≤ q ∧ 0 ≤ s.1 ∧ s.1 ≤ 1000 := by
  intro q hq s hs
  unfold stq at hs
  by_cases h0 : q = 0
  ·rw [if_pos h0] at hs
   simp at hs
  ·rw [if_neg h0] at hs
   have := steps_fit hok (a := b.size - q) (by omega) hs
   omega
 refine ⟨fun q h1 hq => ?_, fun q hq s hs => ?_, fun q hq s hs => ?_, fun q hq s hs => ?_, by omega⟩
 ·unfold stq steps
  rw [if_neg (by omega)]
  simp
 ·have := key q hq s hs
  exact ⟨this.1, this.2.1⟩
 ·have := key q hq s hs
  exact (oc_tok _ this.2.2.1 this.2.2.2).1
 ·have := key q hq s hs
  exact (oc_tok _ this.2.2.1 this.2.2.2).2
/-- One place: of its steps, one by one. -/
def atPlace (l : List ByteArray) (b : ByteArray) (a k : Nat) : Cst × Stp := bestOf (by_ (stq l b) oc (b.size - a)) ((steps l b a).take k)
theorem place_end {l : List ByteArray} (hok : okTexts l) {b : ByteArray} (hb : b.size ≤ 1024) {a : Nat} (ha : a < b.size) : atPlace l b a (steps l b a).length = (VV l b a, FF l b a) := by
 obtain ⟨q, hq⟩ : ∃ q, b.size - a = q + 1 := ⟨b.size - a - 1, by omega⟩
 have h := step_eq (stq l b) oc q (fun s hs => ((fine hok hb).pos (q + 1) (by omega) s hs).1)
 unfold atPlace VV FF
 rw [hq, h, List.take_length]
 congr 1
 unfold stq
 rw [if_neg (by omega), show b.size - (q + 1) = a by omega]
theorem place_zero (l : List ByteArray) (b : ByteArray) (a : Nat) : atPlace l b a 0 = (M, (0, 0)) := rfl
theorem place_succ (l : List ByteArray) (b : ByteArray) (a k : Nat) (hk : k < (steps l b a).length) : atPlace l b a (k + 1) = upd (by_ (stq l b) oc (b.size - a)) (atPlace l b a k) ((steps l b a).getD k (0, 0)) := by
 unfold atPlace
 rw [List.take_succ_eq_append_getElem hk, bestOf_snoc, List.getD_eq_getElem?_getD, List.getElem?_eq_getElem hk]
 rfl
theorem by_place (l : List ByteArray) (b : ByteArray) (a : Nat) (s : Stp) (ha : a + s.2 ≤ b.size) : by_ (stq l b) oc (b.size - a) s = add (oc s.1) (VV l b (a + s.2)) := by
 unfold by_ VV
 rw [show b.size - a - s.2 = b.size - (a + s.2) by omega]
theorem steps_len (l : List ByteArray) (b : ByteArray) (a : Nat) : 1 ≤ (steps l b a).length ∧ (steps l b a).length ≤ l.length + 1 := by
 unfold steps
 rw [List.length_append]
 have := phr_len l b a l.length
 simp only [List.length_singleton]
 omega
end Go.Proofs.YtfbbcfhdjhiejaaGreat.Best
