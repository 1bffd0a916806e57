/- Of the parts BlockA, Sort, CodePure: what the rows use. -/
import Derived.Test.YtfbbcfhdjhiejaaGreatZa1
import Derived.Test.YtfbbcfhdjhiejaaGreatZa4
import Derived.Test.YtfbbcfhdjhiejaaGreatZa7
import Derived.Test.YtfbbcfhdjhiejaaGreatZa8
import Derived.Test.YtfbbcfhdjhiejaaGreatZa10
import Derived.Test.YtfbbcfhdjhiejaaGreatProg
import Derived.Shelf.SlSortCmp.InsertionK
import Derived.KernelRfl
import GoSem.Core.Lib
/- Chapter 22: which configs there are; tokens. -/
namespace Go.Proofs.YtfbbcfhdjhiejaaGreat.Blk
set_option linter.unusedVariables false
set_option linter.unusedSimpArgs false
open Go.RowKit Go.Proofs.YtfbbcfhdjhiejaaGreatW.PrintWords Go.Proofs.YtfbbcfhdjhiejaaGreatW.PrintMore Go.Proofs.YtfbbcfhdjhiejaaGreat.L Go.Proofs.YtfbbcfhdjhiejaaGreat.Texts Go.Proofs.YtfbbcfhdjhiejaaGreat.Dict Go.Proofs.YtfbbcfhdjhiejaaGreat.Ints
/-- A config. -/
structure Cf where
 parse : Nat
 code : Nat
 block : Nat
 window : Nat
deriving DecidableEq
def Cf.ok (c : Cf) : Prop := c.parse ≤ 2 ∧ c.code ≤ 1 ∧ 1 ≤ c.block ∧ c.block ≤ 1024 ∧ 1 ≤ c.window ∧ c.window ≤ 1024
instance (c : Cf) : Decidable c.ok := by unfold Cf.ok; exact inferInstance
def Cf.val (c : Cf) : Value := .agg #[.int .i64 c.parse, .int .i64 c.code, .int .i64 c.block, .int .i64 c.window]
def toksP (l : List ByteArray) (c : Cf) (b : ByteArray) : List Int := if c.parse = 0 then Greedy.parse l b else if c.parse = 1 then Flex.parseF l b else Best.best l c.window b
theorem coded_any (k : Nat) (w : World) (h : k ≤ 1) : Calls Tryz.prog 69 #[.int .i64 k] w fun e w' => e = .returned (.bool true) ∧ w' = w := by
 have hk : k = 0 ∨ k = 1 := by omega
 rcases hk with rfl | rfl
 ·go_enter Tryz.func69, Tryz.ntmps69
  go_wp2_with (fail)
  go_ret
  exact ⟨rfl, rfl⟩
 ·go_enter Tryz.func69, Tryz.ntmps69
  go_wp2_with (fail)
  go_ret
  exact ⟨rfl, rfl⟩
theorem size_any (n : Nat) (w : World) (h0 : 1 ≤ n) (h1 : n ≤ 1024) : Calls Tryz.prog 104 #[.int .i64 n] w fun e w' => e = .returned (.bool true) ∧ w' = w := by
 have e0 : (1 : Int) ≤ (n : Int) := by omega
 have e1 : (n : Int) ≤ 1024 := by omega
 go_enter Tryz.func104, Tryz.ntmps104
 go_wp2_with (fail)
 go_ret
 exact ⟨by simp [e0, e1], rfl⟩
theorem four {w : World} {b t : Nat} {x0 x1 x2 x3 : Value} (h : w.heap[b]? = some (.cells #[x0, x1, x2, x3] t (0, 0))) :
  w.cell? ⟨b, 0, none⟩ = some x0 ∧ w.cell? ⟨b, 1, none⟩ = some x1 ∧ w.cell? ⟨b, 2, none⟩ = some x2 ∧ w.cell? ⟨b, 3, none⟩ = some x3 := by
 refine ⟨?_, ?_, ?_, ?_⟩ <;> simp [World.cell?, h]
set_option maxRecDepth 100000 in
set_option maxHeartbeats 2000000 in
theorem right_ok (c : Cf) (w : World) (h : c.ok) : Calls Tryz.prog 68 #[c.val] w fun e w' => e = .returned (.bool true) ∧ Below w.heap.size w w' := by
 obtain ⟨p, k, b, n⟩ := c
 obtain ⟨h1, h2, h3, h4, h5, h6⟩ := h
 dsimp only at h1 h2 h3 h4 h5 h6
 unfold Cf.val
 dsimp only
 have p0 : (0 : Int) ≤ (p : Int) := by omega
 have p1 : (p : Int) ≤ 2 := by omega
 have HB := Lib.hid (And.intro h3 h4)
 have HW := Lib.hid (And.intro h5 h6)
 have HK := Lib.hid h2
 clear h1 h2 h3 h4 h5 h6
 go_enter Tryz.func68, Tryz.ntmps68
 go_wp2_with (fail)
 refine (coded_any k _ HK.out).mono ?_
 rintro e w1 ⟨rfl, rfl⟩
 go_wp2_with (fail)
 refine (size_any b _ HB.out.1 HB.out.2).mono ?_
 rintro e w1 ⟨rfl, rfl⟩
 go_wp2_with (fail)
 refine (size_any n _ HW.out.1 HW.out.2).mono ?_
 rintro e w1 ⟨rfl, rfl⟩
 go_wp2_with (fail)
 go_ret
 exact ⟨rfl, (Below.refl _ w).alloc (Nat.le_refl _) _⟩
theorem filled {b : ByteArray} (h0 : b.size ≠ 0) : b.toList.isEmpty = false := by
 rw [ByteArray.toList_eq]
 cases hh : b.data.toList with
 | nil =>
   have h1 : b.data.toList.length = 0 := by rw [hh]; rfl
   rw [Array.length_toList] at h1
   exact absurd h1 h0
 | cons a t => rfl
set_option maxRecDepth 100000 in
set_option maxHeartbeats 4000000 in
theorem tokens_any (p : Option Addr) (l : List ByteArray) (c : Cf) (b : ByteArray) (w : World) (h : DP w p l) (hok : okTexts l) (hc : c.ok) (h0 : b.size ≠ 0) (hb : b.size ≤ c.block) :
  Calls Tryz.prog 37 #[.pointer p, c.val, .string b] w fun e w' => ∃ v, e = .returned (.tuple #[v, .int .i64 0]) ∧ KI.R 3 w' w.heap.size (fun _ => True) v (toksP l c b) ∧ Below w.heap.size w w' := by
 obtain ⟨p0, k, m, n⟩ := c
 have HR := Lib.hid (fun W => right_ok ⟨p0, k, m, n⟩ W hc)
 unfold Cf.val at HR ⊢
 obtain ⟨h1, h2, h3, h4, h5, h6⟩ := hc
 dsimp only at h1 h2 h3 h4 h5 h6 hb HR ⊢
 have H := Lib.hid h
 have HOK := Lib.hid hok
 have hb1 : ¬ (m : Int) < (b.size : Int) := by omega
 have HBS := Lib.hid (show b.size ≤ 1024 by omega)
 have HWN := Lib.hid (And.intro h5 h6)
 have hne2 := filled h0
 clear h hok h2 h3 h4 h5 h6
 go_enter Tryz.func37, Tryz.ntmps37
 go_wp2_with (fail)
 refine (HR.out _).mono ?_
 rintro e w1 ⟨rfl, hb2⟩
 have hb2 := hb2
 have hblk : w1.heap[w.heap.size]? = some (.cells #[.int .i64 p0, .int .i64 k, .int .i64 m, .int .i64 n] 24 (0, 0)) := (hb2.block _ (by simp)).trans (heap_alloc_self w _)
 obtain ⟨k0, k1, k2, k3⟩ := four hblk
 have HB2 := Lib.hid (Ints.bel_trans ((Below.refl _ w).alloc (Nat.le_refl _) (.cells #[.int .i64 p0, .int .i64 k, .int .i64 m, .int .i64 n] 24 (0, 0))) (by simp) hb2)
 have HD := Lib.hid (H.out.below HB2.out)
 clear hb2 hblk HR
 have hp : p0 = 0 ∨ p0 = 1 ∨ p0 = 2 := by omega
 rcases hp with rfl | rfl | rfl
 ·go_wp2_with (fail)
  refine (Greedy.parse_any _ _ _ _ HD.out HOK.out HBS.out).mono ?_
  rintro e w3 ⟨v3, rfl, hr3, hb3⟩
  have HR3 := Lib.hid (Kd.R_lower hr3 HB2.out.size)
  have HB3 := Lib.hid (Ints.bel_trans HB2.out HB2.out.size hb3)
  clear hr3 hb3
  go_wp2_with (fail)
  go_ret2
  exact ⟨_, rfl, HR3.out, HB3.out⟩
 ·go_wp2_with (fail)
  refine (Flex.parseF_any _ _ _ _ HD.out HOK.out HBS.out).mono ?_
  rintro e w3 ⟨v3, rfl, hr3, hb3⟩
  have HR3 := Lib.hid (Kd.R_lower hr3 HB2.out.size)
  have HB3 := Lib.hid (Ints.bel_trans HB2.out HB2.out.size hb3)
  clear hr3 hb3
  go_wp2_with (fail)
  go_ret2
  exact ⟨_, rfl, HR3.out, HB3.out⟩
 ·go_wp2_with (fail)
  refine (Best.parse_any _ _ _ _ _ HD.out HOK.out HBS.out HWN.out.1 HWN.out.2).mono ?_
  rintro e w3 ⟨v3, rfl, hr3, hb3⟩
  have HR3 := Lib.hid (Kd.R_lower hr3 HB2.out.size)
  have HB3 := Lib.hid (Ints.bel_trans HB2.out HB2.out.size hb3)
  clear hr3 hb3
  go_wp2_with (fail)
  go_ret2
  exact ⟨_, rfl, HR3.out, HB3.out⟩
end Go.Proofs.YtfbbcfhdjhiejaaGreat.Blk

/- Sorting coins, so that what counts as much stays in its order: the library's, at fewer than twenty. -/
namespace Go.Proofs.YtfbbcfhdjhiejaaGreat.Srt
set_option linter.unusedVariables false
set_option linter.unusedSimpArgs false
set_option linter.unusedSectionVars false
open Go.RowKit Go.Proofs.YtfbbcfhdjhiejaaGreatW.PrintWords Go.Proofs.YtfbbcfhdjhiejaaGreatW.PrintMore Go.Proofs.YtfbbcfhdjhiejaaGreat.L Go.Proofs.YtfbbcfhdjhiejaaGreat.Ints Go.Shelf Go.Lib Go.Sort
/-- A coin: what it counts; its symbols, and where they lie. -/
abbrev Sy := List Int × Option Addr × Nat
abbrev Coin := Int × Sy
def slv (s : Sy) : Value := .slice s.2.1 s.1.length s.2.2
def encC (x : Coin) : List Value := [.int .i64 x.1, slv x.2]
def CK : Kd Coin := Kd.pair (Kd.int .i64) (Kd.scalar slv (fun _ => rfl))
instance : Inhabited Coin := ⟨(0, [], none, 0)⟩
theorem ck_K {w : World} {x : Coin} {cs : List Value} : CK.K w x cs ↔ cs = encC x := by
 constructor
 ·rintro ⟨c0, c1, rfl, h0, h1⟩
  have h0 : c0 = [.int .i64 x.1] := h0
  have h1 : c1 = [slv x.2] := h1
  rw [h0, h1]; rfl
 ·rintro rfl
  exact ⟨[.int .i64 x.1], [slv x.2], rfl, rfl, rfl⟩
theorem ck_M {w : World} {base : Nat} {ok : Nat → Prop} {x : Coin} {cs : List Value} : CK.M w base ok x cs ↔ cs = encC x := by
 constructor
 ·rintro ⟨c0, c1, rfl, h0, h1⟩
  have h0 : c0 = [.int .i64 x.1] := h0
  have h1 : c1 = [slv x.2] := h1
  rw [h0, h1]; rfl
 ·rintro rfl
  exact ⟨[.int .i64 x.1], [slv x.2], rfl, rfl, rfl⟩
/-! ### plain -/
section
variable {α : Type} [Inhabited α] (lt : α → α → Bool)
/-- x goes down behind what is greater; the row is turned round. -/
def sink (x : α) : List α → List α
 | [] => [x]
 | y :: ys => if lt x y = true then y :: sink x ys else x :: y :: ys
def stabR : List α → List α → List α
 | r, [] => r
 | r, x :: xs => stabR (sink lt x r) xs
/-- Sorted; what is equal stays in its order. -/
def stab (l : List α) : List α := (stabR lt [] l).reverse
theorem sink_length (x : α) : ∀ l, (sink lt x l).length = l.length + 1
 | [] => rfl
 | y :: ys => by
   unfold sink
   split
   ·simp [sink_length x ys]
   ·simp
theorem stabR_length : ∀ (l r : List α), (stabR lt r l).length = r.length + l.length
 | [], r => by simp [stabR]
 | x :: xs, r => by
   show (stabR lt (sink lt x r) xs).length = _
   rw [stabR_length xs, sink_length]
   simp; omega
theorem stab_length (l : List α) : (stab lt l).length = l.length := by unfold stab; rw [List.length_reverse, stabR_length]; simp
theorem get_arr (d : Array α) (a : List α) (x : α) (b : List α) (h : d.toList = a ++ x :: b) : d[a.length]! = x := by
 have h2 : d.toList[a.length]? = some x := by rw [h, List.getElem?_append_right (Nat.le_refl _), Nat.sub_self]; rfl
 rw [Array.getElem?_toList] at h2
 rw [Array.getElem!_eq_getD, Array.getD_eq_getD_getElem?, h2]
 rfl
theorem swp_arr (d : Array α) (a : List α) (y x : α) (b : List α) (h : d.toList = a ++ y :: x :: b) : (swp d (a.length + 1) a.length).toList = a ++ x :: y :: b := by
 have h1 := get_arr d a y (x :: b) h
 have h2 := get_arr d (a ++ [y]) x b (by rw [h]; simp)
 rw [List.length_append, List.length_singleton] at h2
 unfold swp
 rw [h1, h2, Array.toList_setIfInBounds, Array.toList_setIfInBounds, h]
 rw [List.set_append_right _ _ (by omega), show a.length + 1 - a.length = 1 by omega]
 simp
theorem inner_list (x : α) : ∀ (r b : List α) (d : Array α), d.toList = r.reverse ++ x :: b → (insInner lt 0 r.length d).toList = (sink lt x r).reverse ++ b
 | [], b, d, h => by
   show (insInner lt 0 0 d).toList = _
   rw [insInner, h]
   rfl
 | y :: ys, b, d, h => by
   have h' : d.toList = ys.reverse ++ y :: x :: b := by rw [h]; simp
   have g1 := get_arr d ys.reverse y (x :: b) h'
   have g2 := get_arr d (ys.reverse ++ [y]) x b (by rw [h']; simp)
   rw [List.length_reverse] at g1
   rw [List.length_append, List.length_reverse, List.length_singleton] at g2
   rw [List.length_cons, insInner, g1, g2]
   unfold sink
   by_cases hl : lt x y = true
   ·rw [if_pos hl, if_pos (by simp [hl])]
    have hs := swp_arr d ys.reverse y x b h'
    rw [List.length_reverse] at hs
    rw [inner_list x ys (y :: b) _ hs]
    simp
   ·rw [if_neg hl, if_neg (by simp [hl]), h]
    simp
theorem outer_list : ∀ (b r : List α) (d : Array α), d.toList = r.reverse ++ b → r.length = 0 ∨ True → (insOuter lt 0 d.size r.length d).toList = (stabR lt r b).reverse
 | [], r, d, h, _ => by
   have hs : d.size = r.length := by rw [← Array.length_toList, h]; simp
   rw [insOuter_stop _ _ _ _ _ (by omega), h]
   simp [stabR]
 | x :: xs, r, d, h, _ => by
   have hs : d.size = r.length + (xs.length + 1) := by rw [← Array.length_toList, h]; simp
   rw [insOuter_go _ _ _ _ _ (by omega)]
   have hi := inner_list lt x r xs d h
   have hz : (insInner lt 0 r.length d).size = d.size := by
    rw [← Array.length_toList, hi, ← Array.length_toList (xs := d), h]
    simp [sink_length]; omega
   have := outer_list xs (sink lt x r) (insInner lt 0 r.length d) hi (.inr trivial)
   rw [sink_length, hz] at this
   exact this
theorem insertion_list (l : List α) : (insertionSort lt l.toArray 0 l.length).toList = stab lt l := by
 unfold insertionSort stab
 cases l with
 | nil => rw [insOuter_stop _ _ _ _ _ (by simp)]; rfl
 | cons x xs =>
   have := outer_list lt xs [x] (x :: xs).toArray (by simp) (.inr trivial)
   simp at this
   simpa [stabR, sink] using this
end
/-! ### rows of coins -/
theorem encC_len (x : Coin) : (encC x).length = 2 := rfl
theorem encC_one (x : Coin) : ∀ v ∈ encC x, v.oneCell' = true := by
 intro v hv
 simp [encC] at hv
 rcases hv with rfl | rfl <;> rfl
theorem flat_at : ∀ (xs : List Coin) (j : Nat) (p : Coin), xs[j]? = some p → ((xs.flatMap encC).drop (j * 2)).take 2 = encC p
 | [], j, p, h => by simp at h
 | x :: xs, 0, p, h => by
   simp at h; subst h
   rw [List.flatMap_cons, Nat.zero_mul, List.drop_zero, List.take_append_of_le_length (by rw [encC_len]; exact Nat.le_refl _)]
   exact List.take_of_length_le (by rw [encC_len]; exact Nat.le_refl _)
 | x :: xs, j + 1, p, h => by
   rw [List.flatMap_cons, show (j + 1) * 2 = (encC x).length + j * 2 by rw [encC_len]; omega, List.drop_append]
   simp only [List.getElem?_cons_succ] at h
   rw [List.drop_of_length_le (by omega), List.nil_append, Nat.add_sub_cancel_left]
   exact flat_at xs j p h
theorem flat_len (xs : List Coin) : (xs.flatMap encC).length = xs.length * 2 := by
 induction xs with
 | nil => rfl
 | cons x xs ih => rw [List.flatMap_cons, List.length_append, ih, encC_len, List.length_cons]; omega
theorem reps_flat {Q : Coin → List Value → Prop} (hQ : ∀ x cs, Q x cs ↔ cs = encC x) : ∀ (xs : List Coin) (cs : List Value), Reps Q 2 xs cs ↔ cs = xs.flatMap encC
 | [], cs => by
   constructor
   ·rintro ⟨h, _⟩
    exact List.eq_nil_of_length_eq_zero (by simpa using h)
   ·rintro rfl
    exact Reps.none _ _
 | x :: xs, cs => by
   constructor
   ·rintro ⟨h1, h2⟩
    rw [List.length_cons] at h1
    have h3 := (hQ _ _).1 (h2 0 x rfl)
    rw [Nat.zero_mul, List.drop_zero] at h3
    have h4 : Reps Q 2 xs (cs.drop 2) := ⟨by rw [List.length_drop, h1]; omega, fun j p hj => by
     have := h2 (j + 1) p (by simpa using hj)
     rw [List.drop_drop, show 2 + j * 2 = (j + 1) * 2 by omega]
     exact this⟩
    have h5 := (reps_flat hQ xs _).1 h4
    rw [List.flatMap_cons, ← h3, ← h5, List.take_append_drop]
   ·rintro rfl
    exact ⟨flat_len (x :: xs), fun j p hj => (hQ _ _).2 (flat_at (x :: xs) j p hj)⟩
theorem R_iff {e : Nat} {w : World} {base : Nat} {ok : Nat → Prop} {v : Value} {xs : List Coin} : CK.R e w base ok v xs ↔ (∀ k, v.ownBlock = some k → ok k) ∧ w.ownsRow base e 2 v xs.length (xs.flatMap encC) := by
 constructor
 ·rintro ⟨h0, inner, h1, h2⟩
  refine ⟨h0, ?_⟩
  rw [← (reps_flat (fun x cs => ck_M) xs inner).1 h2]
  exact h1
 ·rintro ⟨h0, h1⟩
  exact ⟨h0, _, h1, (reps_flat (fun x cs => ck_M) xs _).2 rfl⟩
theorem flatK_flat (xs : List Coin) (t : Nat) (h : t < xs.length * 2) : (flatK encC 2 xs.toArray)[t]! = (xs.flatMap encC).getD t .nilFunc := by
 rw [get_flatK _ _ _ _ (by simpa using h)]
 have hj : t / 2 < xs.length := by omega
 have h1 : xs.toArray[t / 2]! = xs[t / 2] := by
  rw [Array.getElem!_eq_getD, Array.getD_eq_getD_getElem?]
  simp [hj]
 rw [h1]
 have h2 := flat_at xs (t / 2) _ (List.getElem?_eq_getElem hj)
 have h3 : (((xs.flatMap encC).drop (t / 2 * 2)).take 2)[t % 2]? = (encC xs[t / 2])[t % 2]? := by rw [h2]
 rw [List.getElem?_take, if_pos (by omega), List.getElem?_drop, show t / 2 * 2 + t % 2 = t by omega] at h3
 rw [List.getD_eq_getElem?_getD, h3]
 have h4 : t % 2 < (encC xs[t / 2]).length := by rw [encC_len]; omega
 rw [List.getElem?_eq_getElem h4, Option.getD_some]
 exact getElem!_pos (encC xs[t / 2]) (t % 2) h4
/-- What the sort leaves is a row again. -/
theorem R_sorted {e : Nat} {w : World} {base : Nat} {ok : Nat → Prop} {g n cap m : Nat} {xs ys : List Coin} {os : Array Obj} (h : CK.R e w base ok (.slice (some ⟨g, 0, none⟩) n cap) xs) (hl : ys.length = xs.length) :
  CK.R e (sortWorldK encC 2 w g 0 m ys.toArray os) base ok (.slice (some ⟨g, 0, none⟩) n cap) ys ∧ Chg (fun k => k = g) w (sortWorldK encC 2 w g 0 m ys.toArray os) ∧ HoldsK encC 2 w g 0 xs.toArray := by
 obtain ⟨h0, h1, h2⟩ := R_iff.1 h
 rcases h2 with ⟨hv, _⟩ | ⟨g', cap', cur, hv, hb, hh, hc, hm, hs, ht⟩
 ·cases hv
 ·injection hv with hv1 hv2 hv3
  injection hv1 with hv1
  injection hv1 with hv1
  subst hv1
  subst hv2
  subst hv3
  have hgs : g < w.heap.size := blk_lt hh
  have hk : ∀ k, k < w.heap.size → (sortWorldK encC 2 w g 0 m ys.toArray os).heap[k]? = if k = g then some (.cells (putCells id 0 (flatK encC 2 ys.toArray) cur) e (0, 0)) else w.heap[k]? := by
   intro k hkk
   show ((w.heap.modify g (onCells (putCells id 0 (flatK encC 2 ys.toArray)))) ++ os)[k]? = _
   rw [Array.getElem?_append, if_pos (by simpa using hkk), Array.getElem?_modify]
   by_cases e1 : g = k
   ·subst e1
    rw [if_pos rfl, if_pos rfl, hh]
    rfl
   ·rw [if_neg e1, if_neg (fun h => e1 h.symm)]
  refine ⟨R_iff.2 ⟨h0, by rw [flat_len], .inr ⟨g, cap, _, by rw [hl], hb, by rw [hk g hgs, if_pos rfl], by rw [hl]; exact hc, hm, by simp [putCells, hs], ?_⟩⟩, ⟨rfl, rfl, rfl, ?_, fun k hkk hne => by rw [hk k hkk, if_neg hne]⟩, ?_⟩
  ·apply List.ext_getElem?
   intro t
   rw [List.getElem?_take]
   by_cases h3 : t < ys.length * 2
   ·rw [if_pos h3, Array.getElem?_toList]
    have h4 : t < cur.size := by rw [hs]; have := hc; omega
    unfold putCells
    rw [Array.getElem?_mapIdx, Array.getElem?_eq_getElem h4, Option.map_some, if_pos ⟨Nat.zero_le _, by simpa using h3⟩]
    have := flatK_flat ys t h3
    simp only [id, Nat.sub_zero]
    rw [this, List.getD_eq_getElem?_getD, List.getElem?_eq_getElem (by rw [flat_len]; exact h3)]
    rfl
   ·rw [if_neg h3, List.getElem?_eq_none (by rw [flat_len]; omega)]
  ·show _ ≤ ((w.heap.modify g (onCells (putCells id 0 (flatK encC 2 ys.toArray)))) ++ os).size
   simp
  ·intro t ht2
   have h3 : t < xs.length * 2 := by simpa using ht2
   have h5 : cur.toList[t]? = (xs.flatMap encC)[t]? := by rw [← ht, List.getElem?_take, if_pos h3]
   rw [Array.getElem?_toList] at h5
   have h6 := flatK_flat xs t h3
   constructor
   ·show w.cell? ⟨g, 0 + t, none⟩ = some (id (flatK encC 2 xs.toArray)[t]!)
    rw [Nat.zero_add, cell_of_row w g t cur _ _ hh, h5, h6, List.getD_eq_getElem?_getD, List.getElem?_eq_getElem (by rw [flat_len]; exact h3)]
    rfl
   ·simp [World.frozen?, hh]
/-! ### the library's sort -/
def srtRen : Go.Shelf.Ren := ⟨fun | 20 => 175 | n => n, fun | 0 => 0 | 3 => 3 | 4 => 4 | 22 => 186 | 24 => 190 | 25 => 192 | n => n, fun n => n⟩
theorem srtLay : SlLaysF0.n20 Tryz.prog srtRen :=
 { mixed := by kernel_rfl
   f20 := ⟨Tryz.f175.name, by decide, Tryz.func175.trans (congrArg some (by kernel_rfl))⟩
   t0 := Tryz.underlying0
   a0 := Tryz.isAgg0
   z0 := Tryz.sizeOf0
   v0 := Tryz.zeroValue0
   t3 := Tryz.underlying3
   a3 := Tryz.isAgg3
   z3 := Tryz.sizeOf3
   v3 := Tryz.zeroValue3
   t4 := Tryz.underlying4
   a4 := Tryz.isAgg4
   z4 := Tryz.sizeOf4
   v4 := Tryz.zeroValue4
   t22 := Tryz.underlying186
   a22 := Tryz.isAgg186
   z22 := Tryz.sizeOf186
   v22 := Tryz.zeroValue186
   t25 := Tryz.underlying192
   a25 := Tryz.isAgg192
   z25 := Tryz.sizeOf192
   v25 := Tryz.zeroValue192 }
/-- By what they count. -/
def cf (x y : Coin) : Int := wrap64 (x.1 - y.1)
def ltC : Coin → Coin → Bool := ltOf cf
set_option maxHeartbeats 1000000 in
theorem cmp1 (x y : Coin) (W : World) : Calls Tryz.prog 156 #[.agg (encC x).toArray, .agg (encC y).toArray] W fun e w' => e = .returned (.int .i64 (cf x y)) ∧ ∃ q os', w' = grow (W.drewN q) os' := by
 show Calls Tryz.prog 156 #[.agg #[.int .i64 x.1, slv x.2], .agg #[.int .i64 y.1, slv y.2]] W _
 unfold slv cf
 go_enter Tryz.func156, Tryz.ntmps156
 go_wp2_with (fail)
 go_ret
 exact ⟨rfl, 0, _, by rw [alloc_eq_grow, alloc_eq_grow, grow_grow]; rfl⟩
set_option maxHeartbeats 1000000 in
theorem cmp2 (x y : Coin) (W : World) : Calls Tryz.prog 136 #[.agg (encC x).toArray, .agg (encC y).toArray] W fun e w' => e = .returned (.int .i64 (cf x y)) ∧ ∃ q os', w' = grow (W.drewN q) os' := by
 show Calls Tryz.prog 136 #[.agg #[.int .i64 x.1, slv x.2], .agg #[.int .i64 y.1, slv y.2]] W _
 unfold slv cf
 go_enter Tryz.func136, Tryz.ntmps136
 go_wp2_with (fail)
 go_ret
 exact ⟨rfl, 0, _, by rw [alloc_eq_grow, alloc_eq_grow, grow_grow]; rfl⟩
/-- A function that holds two coins against each other. -/
def Cmp (g : Nat) : Prop := (∀ (x y : Coin) (W : World), Calls Tryz.prog g #[.agg (encC x).toArray, .agg (encC y).toArray] W fun e w' => e = .returned (.int .i64 (cf x y)) ∧ ∃ q os', w' = grow (W.drewN q) os') ∧
 ∀ args w, (callFunc g args).run Tryz.prog w = .ok (.enter g args) w
theorem cmpA : Cmp 156 := ⟨cmp1, enters_of Tryz.func156 (by kernel_rfl) rfl⟩
theorem cmpB : Cmp 136 := ⟨cmp2, enters_of Tryz.func136 (by kernel_rfl) rfl⟩
set_option maxHeartbeats 2000000 in
theorem ins_none (fv : Value) (w : World) : Calls Tryz.prog 175 #[.slice none 0 0, .int .i64 0, .int .i64 0, fv] w fun e w' => e = .returned (.tuple #[]) ∧ w' = w := by
 go_enter Tryz.func175, Tryz.ntmps175
 go_wp2_with (fail)
 refine wp_loop_rounds 1 ?_
 rw [rounds_succ]
 go_wp2_with (fail)
 go_end0
 exact ⟨rfl, rfl⟩
/-- How many may be sorted. -/
def sortable (n : Nat) : Prop := n < 20
def SortSays (base : Nat) (ok : Nat → Prop) (v : Value) (xs : List Coin) (w : World) (e : Ending) (w' : World) : Prop :=
 e = .returned (.tuple #[]) ∧ CK.R 190 w' base ok v (stab ltC xs) ∧ Chg (fun k => v.ownBlock = some k) w w'
theorem ins_any (g : Nat) (hg : Cmp g) (b n cap base : Nat) (ok : Nat → Prop) (xs : List Coin) (w : World) (h : CK.R 190 w base ok (.slice (some ⟨b, 0, none⟩) n cap) xs) (hn : n = xs.length) (hl : n < 4611686018427387904) :
  Calls Tryz.prog 175 #[.slice (some ⟨b, 0, none⟩) n cap, .int .i64 0, .int .i64 n, .func (.func g) #[] #[]] w (SortSays base ok (.slice (some ⟨b, 0, none⟩) n cap) xs w) := by
 subst hn
 obtain ⟨_, _, hH⟩ := R_sorted (m := 0) (os := #[]) h (rfl : xs.length = xs.length)
 have hb : b < w.heap.size := by
  rcases (R_iff.1 h).2.2 with ⟨hv, _⟩ | ⟨g', cap', cur, hv, _, hh, _⟩
  ·cases hv
  ·injection hv with hv1
   injection hv1 with hv1
   injection hv1 with hv1
   subst hv1
   exact blk_lt hh
 have hcon := AnyQ.insertionSortCmpFunc srtLay 2 Tryz.isAgg190 Tryz.sizeOf190 encC encC_len encC_one cf g #[] b 0 cap 0 xs.toArray.size xs.toArray w hg.2 (fun _ _ _ _ x y => hg.1 x y _) hH hb (Nat.zero_le _) (Nat.le_refl _) hl
 change Calls Tryz.prog 175 #[.slice (some ⟨b, 0, none⟩) xs.length cap, .int .i64 0, .int .i64 xs.length, .func (.func g) #[] #[]] w _ at hcon
 refine hcon.mono ?_
 rintro e w' ⟨rfl, m, os, rfl⟩
 have hs : insertionSort (ltOf cf) xs.toArray 0 xs.toArray.size = (stab ltC xs).toArray := by
  have := insertion_list ltC xs
  rw [← this]
  rfl
 rw [hs]
 obtain ⟨h1, h2, _⟩ := R_sorted (m := m) (os := os) h (stab_length ltC xs)
 exact ⟨rfl, h1, h2.mono (fun k hk => by show some b = some k; rw [hk])⟩
set_option maxHeartbeats 2000000 in
theorem stable_any (g : Nat) (hg : Cmp g) (n base : Nat) (ok : Nat → Prop) (v : Value) (xs : List Coin) (w : World) (h : CK.R 190 w base ok v xs) (hn : n = xs.length) (hs : sortable n) :
  Calls Tryz.prog 158 #[v, .int .i64 n, .func (.func g) #[] #[]] w (SortSays base ok v xs w) := by
 have hs2 : n < 20 := hs
 have h20 : ¬ (20 : Int) ≤ (n : Int) := by omega
 have h21 : ¬ (20 : Int) < (n : Int) := by omega
 rcases (R_iff.1 h).2.2 with ⟨hv, h0⟩ | ⟨b, cap, cur, hv, _, hh, _⟩
 ·subst hv
  obtain rfl : xs = [] := List.eq_nil_of_length_eq_zero h0
  subst hn
  have H := Lib.hid h
  clear h h0 hs
  go_enter Tryz.func158, Tryz.ntmps158
  go_wp2_with (fail)
  refine wp_loop_rounds 1 ?_
  rw [rounds_succ]
  go_wp2_with (fail)
  refine (ins_none _ _).mono ?_
  rintro e w1 ⟨rfl, rfl⟩
  go_wp2_with (fail)
  refine wp_loop_rounds 1 ?_
  rw [rounds_succ]
  go_wp2_with (fail)
  go_end0
  exact ⟨rfl, H.out, Chg.refl _ _⟩
 ·subst hv
  have H := Lib.hid (show CK.R 190 w base ok (.slice (some ⟨b, 0, none⟩) n cap) xs by rw [hn]; exact h)
  have HN := Lib.hid hn
  have hn2 : n < 4611686018427387904 := by omega
  clear h hh hn hs
  go_enter Tryz.func158, Tryz.ntmps158
  rw [← HN.out]
  go_wp2_with (fail)
  refine wp_loop_rounds 1 ?_
  rw [rounds_succ]
  go_wp2_with (fail)
  refine (ins_any g hg b n cap base ok xs _ H.out HN.out hn2).mono ?_
  rintro e w1 ⟨rfl, hr, hc⟩
  have HR := Lib.hid hr
  have HC := Lib.hid hc
  clear hr hc
  go_wp2_with (fail)
  refine wp_loop_rounds 1 ?_
  rw [rounds_succ]
  go_wp2_with (fail)
  go_end0
  exact ⟨rfl, HR.out, HC.out⟩
theorem sort_any (g : Nat) (hg : Cmp g) (base : Nat) (ok : Nat → Prop) (v : Value) (xs : List Coin) (w : World) (h : CK.R 190 w base ok v xs) (hs : sortable xs.length) :
  Calls Tryz.prog 135 #[v, .func (.func g) #[] #[]] w (SortSays base ok v xs w) := by
 obtain ⟨A, c, rfl⟩ := Kd.R_slice h
 have H := Lib.hid h
 clear h
 go_enter Tryz.func135, Tryz.ntmps135
 go_wp2_with (fail)
 refine (stable_any g hg xs.length base ok _ xs _ H.out rfl hs).mono ?_
 rintro e w1 ⟨rfl, hr, hc⟩
 have HR := Lib.hid hr
 have HC := Lib.hid hc
 clear hr hc
 go_wp2_with (fail)
 go_end0
 exact ⟨rfl, HR.out, HC.out⟩
end Go.Proofs.YtfbbcfhdjhiejaaGreat.Srt

/- Chapter 19: codes by their lengths, in plain Lean. No program in sight. -/
namespace Go.Proofs.YtfbbcfhdjhiejaaGreat.Code
set_option linter.unusedVariables false
set_option linter.unusedSimpArgs false
/-- How many lengths are just n. -/
def cnt (l : List Int) (n : Nat) : Nat := l.countP (fun x => decide (x = (n : Int)))
theorem cnt_nil (n : Nat) : cnt [] n = 0 := rfl
theorem cnt_cons (x : Int) (l : List Int) (n : Nat) : cnt (x :: l) n = cnt l n + if x = (n : Int) then 1 else 0 := by
 unfold cnt
 rw [List.countP_cons]
 by_cases h : x = (n : Int) <;> simp [h]
theorem cnt_append (a b : List Int) (n : Nat) : cnt (a ++ b) n = cnt a n + cnt b n := by
 unfold cnt
 exact List.countP_append
theorem cnt_take_succ (l : List Int) (k n : Nat) (h : k < l.length) : cnt (l.take (k + 1)) n = cnt (l.take k) n + if l.getD k 0 = (n : Int) then 1 else 0 := by
 rw [List.take_succ_eq_append_getElem h, cnt_append, cnt_cons, cnt_nil, Nat.zero_add]
 rw [List.getD_eq_getElem?_getD, List.getElem?_eq_getElem h]
 rfl
theorem cnt_take_le (l : List Int) (k n : Nat) : cnt (l.take k) n ≤ cnt l n := by
 have h := cnt_append (l.take k) (l.drop k) n
 rw [List.take_append_drop] at h
 omega
theorem cnt_le_length (l : List Int) (n : Nat) : cnt l n ≤ l.length := List.countP_le_length
/-- The next code behind the codes of lengths up to n. -/
def nx (l : List Int) : Nat → Nat
 | 0 => 0
 | n + 1 => 2 * nx l n + cnt l (n + 1)
/-- A symbol's code. -/
def codeAt (l : List Int) (s : Nat) : Nat :=
 if 1 ≤ l.getD s 0 ∧ l.getD s 0 ≤ 15 then 2 * nx l ((l.getD s 0).toNat - 1) + cnt (l.take s) (l.getD s 0).toNat else 0
def codes (l : List Int) : List Int := (List.range l.length).map fun s => (codeAt l s : Int)
theorem codes_length (l : List Int) : (codes l).length = l.length := by unfold codes; simp
theorem codes_getD (l : List Int) (s : Nat) (h : s < l.length) : (codes l).getD s 0 = (codeAt l s : Int) := by
 unfold codes
 rw [List.getD_eq_getElem?_getD, List.getElem?_map, List.getElem?_range h]
 rfl
theorem codeAt_some (l : List Int) (s n : Nat) (h : l.getD s 0 = ((n + 1 : Nat) : Int)) (hn : n + 1 ≤ 15) : codeAt l s = 2 * nx l n + cnt (l.take s) (n + 1) := by
 unfold codeAt
 rw [if_pos (by omega), h, Int.toNat_natCast]
 rfl
theorem codeAt_none (l : List Int) (s : Nat) (h : l.getD s 0 < 1 ∨ 15 < l.getD s 0) : codeAt l s = 0 := by
 unfold codeAt
 rw [if_neg (by omega)]
theorem lt_of_getD {l : List Int} {s : Nat} (h : l.getD s 0 ≠ 0) : s < l.length := by
 by_cases hs : s < l.length
 ·exact hs
 ·exfalso
  apply h
  rw [List.getD_eq_getElem?_getD, List.getElem?_eq_none (by omega)]
  rfl
theorem rank_lt (l : List Int) (s n : Nat) (h : l.getD s 0 = ((n + 1 : Nat) : Int)) : cnt (l.take s) (n + 1) + 1 ≤ cnt l (n + 1) := by
 have hs := lt_of_getD (l := l) (s := s) (by omega)
 have h1 := cnt_take_succ l s (n + 1) hs
 rw [if_pos h] at h1
 have h2 := cnt_take_le l (s + 1) (n + 1)
 omega
theorem code_lt (l : List Int) (s n : Nat) (h : l.getD s 0 = ((n + 1 : Nat) : Int)) (hn : n + 1 ≤ 15) : codeAt l s + 1 ≤ nx l (n + 1) := by
 rw [codeAt_some l s n h hn]
 have := rank_lt l s n h
 show _ ≤ 2 * nx l n + cnt l (n + 1)
 omega
theorem nx_mono (l : List Int) (n : Nat) : ∀ d, nx l n * 2 ^ d ≤ nx l (n + d)
 | 0 => by simp
 | d + 1 => by
   have := nx_mono l n d
   rw [Nat.pow_succ]
   show _ ≤ 2 * nx l (n + d) + cnt l (n + d + 1)
   have h2 : nx l n * (2 ^ d * 2) = nx l n * 2 ^ d * 2 := by rw [Nat.mul_assoc]
   omega
/-- How much of all codes there is. -/
def term (x : Int) : Nat := if 1 ≤ x ∧ x ≤ 15 then 2 ^ (15 - x.toNat) else 0
def kraft : List Int → Nat
 | [] => 0
 | x :: l => term x + kraft l
theorem kraft_append : ∀ a b, kraft (a ++ b) = kraft a + kraft b
 | [], b => by simp [kraft]
 | x :: a, b => by simp only [List.cons_append, kraft, kraft_append a b]; omega
theorem term_le (x : Int) : term x ≤ 16384 := by
 unfold term
 split
 ·have : 2 ^ (15 - x.toNat) ≤ 2 ^ 14 := Nat.pow_le_pow_right (by decide) (by omega)
  omega
 ·omega
theorem kraft_le : ∀ l, kraft l ≤ l.length * 16384
 | [] => Nat.zero_le _
 | x :: l => by
   have h1 := term_le x
   have h2 := kraft_le l
   simp only [kraft, List.length_cons, Nat.succ_mul]
   omega
theorem kraft_take_succ (l : List Int) (k : Nat) (h : k < l.length) : kraft (l.take (k + 1)) = kraft (l.take k) + term (l.getD k 0) := by
 rw [List.take_succ_eq_append_getElem h, kraft_append, List.getD_eq_getElem?_getD, List.getElem?_eq_getElem h]
 simp [kraft]
def part (l : List Int) : Nat → Nat
 | 0 => 0
 | n + 1 => part l n + cnt l (n + 1) * 2 ^ (14 - n)
theorem nx_part (l : List Int) : ∀ n, n ≤ 15 → nx l n * 2 ^ (15 - n) = part l n
 | 0, _ => by simp [nx, part]
 | n + 1, h => by
   have h1 := nx_part l n (by omega)
   show (2 * nx l n + cnt l (n + 1)) * 2 ^ (15 - (n + 1)) = part l n + cnt l (n + 1) * 2 ^ (14 - n)
   rw [← h1, Nat.add_mul, show 15 - (n + 1) = 14 - n by omega, show 15 - n = 14 - n + 1 by omega, Nat.pow_succ]
   have : 2 * nx l n * 2 ^ (14 - n) = nx l n * (2 ^ (14 - n) * 2) := by
    rw [Nat.mul_comm 2 (nx l n), Nat.mul_assoc, Nat.mul_comm 2]
   omega
theorem part_nil : ∀ n, part [] n = 0
 | 0 => rfl
 | n + 1 => by simp [part, part_nil n, cnt_nil]
theorem part_cons (x : Int) (l : List Int) : ∀ n, n ≤ 15 → part (x :: l) n = part l n + (if 1 ≤ x ∧ x ≤ (n : Int) then 2 ^ (15 - x.toNat) else 0)
 | 0, _ => by
   rw [if_neg (by omega)]
   rfl
 | n + 1, h => by
   have h1 := part_cons x l n (by omega)
   show part (x :: l) n + cnt (x :: l) (n + 1) * 2 ^ (14 - n) = part l n + cnt l (n + 1) * 2 ^ (14 - n) + _
   rw [h1, cnt_cons, Nat.add_mul]
   by_cases hx : x = ((n + 1 : Nat) : Int)
   ·subst hx
    rw [if_neg (by omega), if_pos rfl, if_pos (by omega), Int.toNat_natCast, show 15 - (n + 1) = 14 - n by omega]
    omega
   ·rw [if_neg hx]
    by_cases hr : 1 ≤ x ∧ x ≤ (n : Int)
    ·rw [if_pos hr, if_pos (by omega)]
     omega
    ·rw [if_neg hr, if_neg (by omega)]
     omega
theorem part_kraft : ∀ l, part l 15 = kraft l
 | [] => part_nil 15
 | x :: l => by
   rw [part_cons x l 15 (by omega), part_kraft l, kraft, Nat.add_comm]
   rfl
theorem nx_kraft (l : List Int) : nx l 15 = kraft l := by
 have := nx_part l 15 (by omega)
 rw [part_kraft] at this
 simpa using this
theorem nx_bound (l : List Int) (h : kraft l ≤ 32768) (n : Nat) (hn : n ≤ 15) : nx l n ≤ 2 ^ n := by
 have h1 := nx_mono l n (15 - n)
 rw [show n + (15 - n) = 15 by omega, nx_kraft] at h1
 have h2 : (32768 : Nat) = 2 ^ n * 2 ^ (15 - n) := by rw [← Nat.pow_add, show n + (15 - n) = 15 by omega]
 have h3 : nx l n * 2 ^ (15 - n) ≤ 2 ^ n * 2 ^ (15 - n) := by omega
 exact Nat.le_of_mul_le_mul_right h3 (Nat.two_pow_pos _)
theorem code_bound (l : List Int) (h : kraft l ≤ 32768) (s n : Nat) (hs : l.getD s 0 = ((n + 1 : Nat) : Int)) (hn : n + 1 ≤ 15) : codeAt l s < 2 ^ (n + 1) := by
 have h1 := code_lt l s n hs hn
 have h2 := nx_bound l h (n + 1) hn
 omega
/-- x begins with a symbol's code. -/
def fits (l : List Int) (x i : Nat) : Prop := ∃ n, n + 1 ≤ 15 ∧ l.getD i 0 = ((n + 1 : Nat) : Int) ∧ x / 2 ^ (14 - n) = codeAt l i
/-! ### whether lengths may be -/
def used (l : List Int) : Nat := l.countP (fun x => decide (0 < x))
def wrong (l : List Int) : Bool := l.any (fun x => decide (x < 0) || decide (15 < x))
def alone (l : List Int) : Bool := decide (used l = 1) && l.any (fun x => decide (x = 1))
/-- The error: 0 is none. -/
def right (l : List Int) : Int := if wrong l = true then 1 else if kraft l = 32768 ∨ alone l = true then 0 else 8
theorem right_range {l : List Int} (h : right l = 0) : ∀ x ∈ l, 0 ≤ x ∧ x ≤ 15 := by
 intro x hx
 unfold right at h
 by_cases hw : wrong l = true
 ·rw [if_pos hw] at h; omega
 ·have : ¬ ((decide (x < 0) || decide (15 < x)) = true) := fun hh => hw (List.any_eq_true.2 ⟨x, hx, hh⟩)
  rw [Bool.or_eq_true, decide_eq_true_eq, decide_eq_true_eq] at this
  omega
theorem used_zero_kraft : ∀ l : List Int, used l = 0 → kraft l = 0
 | [], _ => rfl
 | x :: l, h => by
   unfold used at h
   rw [List.countP_cons] at h
   have h1 := used_zero_kraft l (by unfold used; omega)
   by_cases hx : 0 < x
   ·simp [hx] at h
   ·unfold kraft term
    rw [h1, if_neg (by omega)]
theorem alone_kraft : ∀ l : List Int, used l = 1 → (∃ x ∈ l, x = 1) → kraft l = 16384
 | [], h, _ => by simp [used] at h
 | x :: l, h, ⟨y, hy, he⟩ => by
   subst he
   unfold used at h
   rw [List.countP_cons] at h
   unfold kraft
   by_cases hx : x = 1
   ·subst hx
    have h0 := used_zero_kraft l (by unfold used; simp at h; simpa using h)
    rw [h0]
    rfl
   ·have hm : (1 : Int) ∈ l := by
     rcases List.mem_cons.1 hy with h2 | h2
     ·exact absurd h2.symm hx
     ·exact h2
    have hpos : 1 ≤ l.countP (fun x => decide ((0 : Int) < x)) := List.countP_pos_iff.2 ⟨1, hm, by decide⟩
    by_cases hp : 0 < x
    ·simp [hp] at h
     have : l.countP (fun x => decide ((0 : Int) < x)) = 0 := by simpa using h
     omega
    ·simp [hp] at h
     have h1 := alone_kraft l (by unfold used; exact h) ⟨1, hm, rfl⟩
     rw [h1]
     unfold term
     rw [if_neg (by omega)]
theorem right_kraft {l : List Int} (h : right l = 0) : kraft l ≤ 32768 := by
 unfold right at h
 by_cases hw : wrong l = true
 ·rw [if_pos hw] at h; omega
 ·rw [if_neg hw] at h
  by_cases hk : kraft l = 32768 ∨ alone l = true
  ·rcases hk with hk | hk
   ·omega
   ·unfold alone at hk
    rw [Bool.and_eq_true, decide_eq_true_eq, List.any_eq_true] at hk
    obtain ⟨h1, x, hx, h2⟩ := hk
    have := alone_kraft l h1 ⟨x, hx, by simpa using h2⟩
    omega
  ·rw [if_neg hk] at h; omega
end Go.Proofs.YtfbbcfhdjhiejaaGreat.Code
