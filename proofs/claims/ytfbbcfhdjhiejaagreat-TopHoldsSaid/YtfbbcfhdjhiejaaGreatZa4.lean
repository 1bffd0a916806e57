/- Of the parts BitsPure, WTab, Bits, BitsUse, Ints, Vari: what the rows use. -/
import Derived.Test.YtfbbcfhdjhiejaaGreatZa1
import Derived.Test.YtfbbcfhdjhiejaaGreatZa2
import Derived.Test.YtfbbcfhdjhiejaaGreatZa3
import Derived.Test.YtfbbcfhdjhiejaaGreatProg
import Derived.Deep.DeepFit
import Derived.Outline
import Derived.BigRegion
import Derived.Lib.SliceRun
import Derived.Deep.AppendLies
/- The plain law of bits: numbers as bits, bits as bytes, and back. No program in sight. -/
namespace Go.Proofs.YtfbbcfhdjhiejaaGreat.BP
open Go.RowKit Go.Proofs.YtfbbcfhdjhiejaaGreatW.PrintWords Go.Proofs.YtfbbcfhdjhiejaaGreatW.PrintMore
def Bits (bs : List Int) : Prop := ∀ x ∈ bs, x = 0 ∨ x = 1
def byteAt (bs : List Int) (j : Nat) : Int :=
 bs.getD (8 * j) 0 * 128 + bs.getD (8 * j + 1) 0 * 64 + bs.getD (8 * j + 2) 0 * 32 + bs.getD (8 * j + 3) 0 * 16 + bs.getD (8 * j + 4) 0 * 8 + bs.getD (8 * j + 5) 0 * 4 + bs.getD (8 * j + 6) 0 * 2 + bs.getD (8 * j + 7) 0
/-- Bits as bytes, 0s at the end. -/
def pack (bs : List Int) : List Int := (List.range ((bs.length + 7) / 8)).map (byteAt bs)
/-- The first n bits as a number; beyond the end they are 0. -/
def valN (bs : List Int) : Nat → Int
 | 0 => 0
 | n + 1 => valN bs n * 2 + bs.getD n 0
/-- A number as n bits. -/
def bitsV (n : Nat) (v : Int) : List Int := (List.range n).map fun j => v / 2 ^ (n - 1 - j) % 2
theorem pack_length (bs : List Int) : (pack bs).length = (bs.length + 7) / 8 := by simp [pack]
theorem pack_nil : pack [] = [] := rfl
theorem bits_getD {bs : List Int} (h : Bits bs) (i : Nat) : 0 ≤ bs.getD i 0 ∧ bs.getD i 0 ≤ 1 := by
 rw [List.getD_eq_getElem?_getD]
 rcases hh : bs[i]? with _ | x
 ·simp
 ·have := h x (List.mem_of_getElem? hh)
  simp; omega
theorem byteAt_range {bs : List Int} (h : Bits bs) (j : Nat) : 0 ≤ byteAt bs j ∧ byteAt bs j ≤ 255 := by
 have h0 := bits_getD h (8 * j); have h1 := bits_getD h (8 * j + 1); have h2 := bits_getD h (8 * j + 2); have h3 := bits_getD h (8 * j + 3)
 have h4 := bits_getD h (8 * j + 4); have h5 := bits_getD h (8 * j + 5); have h6 := bits_getD h (8 * j + 6); have h7 := bits_getD h (8 * j + 7)
 unfold byteAt; omega
theorem getD_snoc (bs : List Int) (x : Int) (i : Nat) : (bs ++ [x]).getD i 0 = bs.getD i 0 + if i = bs.length then x else 0 := by
 simp only [List.getD_eq_getElem?_getD, List.getElem?_append]
 by_cases h : i < bs.length
 ·simp [h, Nat.ne_of_lt h]
 ·by_cases h2 : i = bs.length
  ·subst h2; simp
  ·have : 1 ≤ i - bs.length := by omega
   rw [if_neg h, if_neg h2, List.getElem?_eq_none (by simpa using this), List.getElem?_eq_none (by omega)]
   rfl
theorem getD_past (bs : List Int) (i : Nat) (h : bs.length ≤ i) : bs.getD i 0 = 0 := by
 rw [List.getD_eq_getElem?_getD, List.getElem?_eq_none h]; rfl
theorem byteAt_other (bs : List Int) (x : Int) (j : Nat) (h : j ≠ bs.length / 8) : byteAt (bs ++ [x]) j = byteAt bs j := by
 unfold byteAt
 simp only [getD_snoc]
 rw [if_neg (by omega), if_neg (by omega), if_neg (by omega), if_neg (by omega), if_neg (by omega), if_neg (by omega), if_neg (by omega), if_neg (by omega)]
 omega
theorem byteAt_here (bs : List Int) (x : Int) : byteAt (bs ++ [x]) (bs.length / 8) = byteAt bs (bs.length / 8) + x * 2 ^ (7 - bs.length % 8) := by
 unfold byteAt
 simp only [getD_snoc]
 generalize hq : bs.length / 8 = q
 obtain ⟨r, hr⟩ : ∃ r, bs.length % 8 = r := ⟨_, rfl⟩
 have hl : bs.length = 8 * q + r := by omega
 have hr8 : r < 8 := by omega
 rw [hr]
 rw [hl]
 obtain rfl | rfl | rfl | rfl | rfl | rfl | rfl | rfl : r = 0 ∨ r = 1 ∨ r = 2 ∨ r = 3 ∨ r = 4 ∨ r = 5 ∨ r = 6 ∨ r = 7 := by omega
 all_goals simp
 all_goals omega
/-- One bit more. -/
theorem pack_snoc (bs : List Int) (x : Int) :
  pack (bs ++ [x]) = (if bs.length % 8 = 0 then pack bs ++ [0] else pack bs).set (bs.length / 8) (byteAt bs (bs.length / 8) + x * 2 ^ (7 - bs.length % 8)) := by
 refine List.ext_getElem ?_ ?_
 ·rw [pack_length, List.length_set, List.length_append]
  split
  ·rw [List.length_append, pack_length]; simp; omega
  ·rw [pack_length]; simp; omega
 ·intro j h1 h2
  rw [pack_length, List.length_append] at h1
  simp only [List.length_singleton] at h1
  have e1 : (pack (bs ++ [x]))[j]'(by rw [pack_length, List.length_append]; simpa using h1) = byteAt (bs ++ [x]) j := by simp [pack]
  rw [e1, List.getElem_set]
  by_cases hj : bs.length / 8 = j
  ·rw [if_pos hj, ← hj, byteAt_here]
  ·rw [if_neg hj, byteAt_other bs x j (fun e => hj e.symm)]
   have hjl : j < (pack bs).length := by rw [pack_length]; omega
   have e2 : (pack bs)[j] = byteAt bs j := by simp [pack]
   rw [← e2]
   split
   ·rw [List.getElem_append_left hjl]
   ·rfl
theorem byte_here (bs : List Int) (h : bs.length % 8 ≠ 0) : (pack bs).getD (bs.length / 8) 0 = byteAt bs (bs.length / 8) := by
 have hjl : bs.length / 8 < (pack bs).length := by rw [pack_length]; omega
 rw [List.getD_eq_getElem?_getD, List.getElem?_eq_getElem hjl]
 simp [pack]
theorem byte_new (bs : List Int) (h : bs.length % 8 = 0) : (pack bs ++ [0]).getD (bs.length / 8) 0 = 0 ∧ byteAt bs (bs.length / 8) = 0 := by
 have e : bs.length / 8 = (pack bs).length := by rw [pack_length]; omega
 constructor
 ·rw [e, List.getD_eq_getElem?_getD]; simp
 ·unfold byteAt
  rw [getD_past _ _ (by omega), getD_past _ _ (by omega), getD_past _ _ (by omega), getD_past _ _ (by omega), getD_past _ _ (by omega), getD_past _ _ (by omega), getD_past _ _ (by omega), getD_past _ _ (by omega)]
  rfl
/-- The bits that are not there yet are 0. -/
theorem byteAt_low {bs : List Int} : byteAt bs (bs.length / 8) % 2 ^ (8 - bs.length % 8) = 0 := by
 unfold byteAt
 generalize hq : bs.length / 8 = q
 obtain ⟨r, hr⟩ : ∃ r, bs.length % 8 = r := ⟨_, rfl⟩
 have hl : bs.length = 8 * q + r := by omega
 have hr8 : r < 8 := by omega
 rw [hr]
 have z : ∀ i, r ≤ i → bs.getD (8 * q + i) 0 = 0 := fun i hi => getD_past _ _ (by omega)
 have z0 := z 0
 have z1 := z 1
 have z2 := z 2
 have z3 := z 3
 have z4 := z 4
 have z5 := z 5
 have z6 := z 6
 have z7 := z 7
 clear z
 simp only [Nat.add_zero] at z0
 obtain rfl | rfl | rfl | rfl | rfl | rfl | rfl | rfl : r = 0 ∨ r = 1 ∨ r = 2 ∨ r = 3 ∨ r = 4 ∨ r = 5 ∨ r = 6 ∨ r = 7 := by omega
 all_goals simp only [Nat.reduceSub, Int.reducePow]
 all_goals omega
theorem or_here {bs : List Int} (h : Bits bs) (x : Int) (hx : x = 0 ∨ x = 1) :
  Go.bits .or .u8 (byteAt bs (bs.length / 8)) (x * 2 ^ (7 - bs.length % 8)) = byteAt bs (bs.length / 8) + x * 2 ^ (7 - bs.length % 8) := by
 have hb := byteAt_range h (bs.length / 8)
 have hl := byteAt_low (bs := bs)
 obtain ⟨r, hr⟩ : ∃ r, 7 - bs.length % 8 = r := ⟨_, rfl⟩
 have hr8 : 8 - bs.length % 8 = r + 1 := by omega
 rw [hr8] at hl
 rw [hr]
 have hr7 : r ≤ 7 := by omega
 generalize byteAt bs (bs.length / 8) = a at *
 obtain ⟨A, rfl⟩ := Int.eq_ofNat_of_zero_le hb.1
 have hA : A % 2 ^ (r + 1) = 0 := by exact_mod_cast hl
 have hp : 2 ^ r ≤ 2 ^ 7 := Nat.pow_le_pow_right (by decide) hr7
 obtain ⟨X, rfl, hX⟩ : ∃ X : Nat, x = X ∧ X ≤ 1 := by
  rcases hx with rfl | rfl
  ·exact ⟨0, rfl, by omega⟩
  ·exact ⟨1, rfl, by omega⟩
 have hXr : X * 2 ^ r ≤ 2 ^ r := by
  have := Nat.mul_le_mul_right (2 ^ r) hX
  omega
 have e : ((X : Int) * 2 ^ r) = ((X * 2 ^ r : Nat) : Int) := by simp
 rw [e, u8_or_nat A (X * 2 ^ r) (by omega) (by omega), nat_join (r + 1) A (X * 2 ^ r) hA (by rw [Nat.pow_succ]; have := Nat.pow_pos (n := r) (show 0 < 2 by decide); omega)]
 simp
/-! numbers as bits -/
theorem bitsV_length (n : Nat) (v : Int) : (bitsV n v).length = n := by simp [bitsV]
theorem bitsV_bits (n : Nat) (v : Int) : Bits (bitsV n v) := by
 intro x hx
 obtain ⟨j, _, rfl⟩ := List.mem_map.1 hx
 have := Int.emod_nonneg (v / 2 ^ (n - 1 - j)) (show (2 : Int) ≠ 0 by decide)
 have := Int.emod_lt_of_pos (v / 2 ^ (n - 1 - j)) (show (0 : Int) < 2 by decide)
 omega
theorem bitsV_take (n : Nat) (v : Int) (j : Nat) (h : j < n) : (bitsV n v).take (j + 1) = (bitsV n v).take j ++ [v / 2 ^ (n - 1 - j) % 2] := by
 have hl : j < (bitsV n v).length := by rw [bitsV_length]; exact h
 rw [List.take_succ_eq_append_getElem hl]
 simp [bitsV]
theorem Bits.append {a b : List Int} (ha : Bits a) (hb : Bits b) : Bits (a ++ b) := by
 intro x hx
 rcases List.mem_append.1 hx with h | h
 ·exact ha x h
 ·exact hb x h
theorem Bits.take {a : List Int} (ha : Bits a) (n : Nat) : Bits (a.take n) := fun x hx => ha x (List.mem_of_mem_take hx)
theorem bits_nil : Bits [] := fun x hx => by simp at hx
/-! reading -/
theorem i64_small (m : Int) (h0 : 0 ≤ m) (h1 : m < 2 ^ 62) : IntKind.i64.wrap m = m := by
 rw [IntKind.wrap_i64]; omega
theorem and_one (x : Int) (h0 : 0 ≤ x) (h1 : x < 2 ^ 62) : Go.bits .and .i64 x 1 = x % 2 := by
 obtain ⟨X, rfl⟩ := Int.eq_ofNat_of_zero_le h0
 have := (bits_nat .i64 62 (by decide) i64_small X 1 (by omega) (by decide)).1
 rw [nat_mask1] at this
 simpa using this
end Go.Proofs.YtfbbcfhdjhiejaaGreat.BP


namespace Go.Proofs.YtfbbcfhdjhiejaaGreatW.PrintLast
open Go.Proofs.YtfbbcfhdjhiejaaGreatW.PrintWords (Aside0)
def needsOf (md : Region.Mode) (o : Oper) : List Nat := (o.after.toList.filter (fun e => Region.binds md e)).map (fun e => e.on)
def clashOf (md : Region.Mode) (ops : Array Oper) (i : Nat) (oi : Oper) : List Nat := (List.range ops.size).filter fun j => !(j == i) && match ops[j]? with
 | some oj => !(oj.after.any (fun e => Region.binds md e && e.on == i) || oi.apart ops oj)
 | none => false
def rtab (md : Region.Mode) (ops : Array Oper) : Bool × List (List Nat × List Nat) := (Region.noSelect ops, (List.range ops.size).map fun i => match ops[i]? with
 | some o => (needsOf md o, clashOf md ops i o)
 | none => ([], []))
def readyAt (T : List (List Nat × List Nat)) (l : List Bool) (i : Nat) : Bool := !l.getD i true && match T[i]? with
 | some r => r.1.all (fun j => l.getD j false)
 | none => false
def readyT (T : List (List Nat × List Nat)) (l : List Bool) : List Nat := (List.range T.length).filter (readyAt T l)
def freeT (T : List (List Nat × List Nat)) (l : List Bool) (i : Nat) : Bool := match T[i]? with
 | some r => r.2.all (fun j => l.getD j true)
 | none => false
def closedT (T : List (List Nat × List Nat)) (l : List Bool) : Bool := (List.range T.length).all fun j => !l.getD j false || match T[j]? with
 | some r => r.1.all (fun k => l.getD k false)
 | none => true
def reachT (T : List (List Nat × List Nat)) (i : Nat) : Nat → Nat → Bool
 | 0, _ => false
 | fuel + 1, d => match T[d]? with
   | some r => r.1.any fun j => j == i || reachT T i fuel j
   | none => false
def lastT (T : List (List Nat × List Nat)) (l : List Bool) (ds : List Nat) (i : Nat) : Bool := ds.all fun d => l.getD d true || reachT T i T.length d
section
variable {md : Region.Mode} {ops : Array Oper} {T : Bool × List (List Nat × List Nat)} {l l' li lj lk : Array Bool} {ds : List Nat} {i j k : Nat}
theorem gd (l : Array Bool) (j : Nat) (b : Bool) : l.getD j b = l.toList.getD j b := by simp [Array.getD_eq_getD_getElem?, List.getD_eq_getElem?_getD]
theorem needs_all (o : Oper) (p : Nat → Bool) : o.after.all (fun e => !Region.binds md e || p e.on) = (needsOf md o).all p := by
 unfold needsOf
 rw [← Array.all_toList]
 induction o.after.toList with
 | nil => rfl
 | cons e r ih =>
   rw [List.all_cons, ih, List.filter_cons]
   cases h : Region.binds md e <;> simp
theorem needs_any (o : Oper) (p : Nat → Bool) : o.after.any (fun e => Region.binds md e && p e.on) = (needsOf md o).any p := by
 unfold needsOf
 rw [← Array.any_toList]
 induction o.after.toList with
 | nil => rfl
 | cons e r ih =>
   rw [List.any_cons, ih, List.filter_cons]
   cases h : Region.binds md e <;> simp
theorem rtab_length : (rtab md ops).2.length = ops.size := by simp [rtab]
theorem rtab_some {o : Oper} (h : ops[i]? = some o) : (rtab md ops).2[i]? = some (needsOf md o, clashOf md ops i o) := by
 have hi := (Array.getElem?_eq_some_iff.1 h).1
 unfold rtab
 rw [List.getElem?_map, List.getElem?_range hi, Option.map_some, h]
theorem rtab_none (h : ops[i]? = none) : (rtab md ops).2[i]? = none := by
 have hi : ops.size ≤ i := Array.getElem?_eq_none_iff.1 h
 exact List.getElem?_eq_none (by rw [rtab_length]; exact hi)
theorem readyAt_eq : readyAt (rtab md ops).2 l.toList i = (!l.getD i true && ((ops[i]?).map (·.after.all fun e => !Region.binds md e || l.getD e.on false)).getD false) := by
 unfold readyAt
 rw [gd]
 cases h : ops[i]? with
 | none => rw [rtab_none h]; rfl
 | some o =>
   rw [rtab_some h]
   simp only [Option.map_some, Option.getD_some]
   rw [← needs_all]
   simp only [gd]
theorem ready_eq : Region.ready md ops l = readyT (rtab md ops).2 l.toList := by
 unfold Region.ready readyT
 rw [rtab_length]
 refine List.filter_congr (fun i _ => ?_)
 rw [readyAt_eq]
theorem free_eq : Region.free md ops l i = freeT (rtab md ops).2 l.toList i := by
 unfold Region.free freeT
 cases h : ops[i]? with
 | none => rw [rtab_none h]
 | some oi =>
   rw [rtab_some h]
   simp only [clashOf]
   rw [List.all_filter]
   congr 1
   funext j
   rw [gd]
   cases hj : ops[j]? with
   | none => cases (j == i) <;> cases (l.toList.getD j true) <;> simp
   | some oj =>
     cases (j == i) <;> cases (l.toList.getD j true) <;> cases (oj.after.any (fun e => Region.binds md e && e.on == i) || oi.apart ops oj) <;> simp_all
theorem closed_eq : Region.closedB md ops l = closedT (rtab md ops).2 l.toList := by
 unfold Region.closedB closedT
 rw [rtab_length]
 congr 1
 funext j
 rw [gd]
 cases h : ops[j]? with
 | none => rw [rtab_none h]
 | some o =>
   rw [rtab_some h]
   simp only
   rw [← needs_all]
   simp only [gd]
theorem reach_eq : ∀ (fuel d : Nat), Region.reachB md ops i fuel d = reachT (rtab md ops).2 i fuel d
 | 0, _ => rfl
 | fuel + 1, d => by
   unfold Region.reachB reachT
   cases h : ops[d]? with
   | none => rw [rtab_none h]
   | some o =>
     rw [rtab_some h]
     simp only
     rw [← needs_any]
     congr 1
     funext e
     rw [reach_eq fuel]
theorem last_eq : Region.lastB md ops l ds i = lastT (rtab md ops).2 l.toList ds i := by
 unfold Region.lastB lastT
 rw [rtab_length]
 congr 1
 funext d
 rw [gd, reach_eq]
theorem readyAt_mem (h : readyAt T.2 l.toList i = true) (hT : rtab md ops = T) : (Region.ready md ops l).contains i = true := by
 subst hT
 rw [ready_eq]
 unfold readyT
 rw [List.contains_iff_mem, List.mem_filter, List.mem_range]
 refine ⟨?_, h⟩
 unfold readyAt at h
 rw [Bool.and_eq_true] at h
 cases hq : (rtab md ops).2[i]? with
 | none => rw [hq] at h; simp at h
 | some r => exact (List.getElem?_eq_some_iff.1 hq).1
theorem set_of (h : (l.toList.set i true == l'.toList) = true) : (l.setIfInBounds i true == l') = true := by
 rw [beq_iff_eq] at h ⊢
 apply Array.ext'
 rw [Array.toList_setIfInBounds]
 exact h
def anyT (T : Bool × List (List Nat × List Nat)) (l l' : List Bool) (i : Nat) : Bool := T.1 && freeT T.2 l i && readyAt T.2 l i && (l.set i true == l')
theorem any_of (hT : rtab md ops = T) (h : anyT T l.toList l'.toList i = true) : anyB md ops l l' i = true := by
 simp only [anyT, Bool.and_eq_true] at h
 obtain ⟨⟨⟨h1, h2⟩, h3⟩, h4⟩ := h
 have h5 := readyAt_mem h3 hT
 have h6 := set_of h4
 subst hT
 simp only [anyB, Bool.and_eq_true]
 exact ⟨⟨⟨h1, by rw [free_eq]; exact h2⟩, h5⟩, h6⟩
def takeT (T : Bool × List (List Nat × List Nat)) (ds : List Nat) (l l' : List Bool) (i : Nat) : Bool := T.1 && freeT T.2 l i && readyAt T.2 l i && closedT T.2 l && lastT T.2 l ds i && (l.set i true == l')
theorem take_of (hT : rtab md ops = T) (h : takeT T ds l.toList l'.toList i = true) : takeB md ops ds l l' i = true := by
 simp only [takeT, Bool.and_eq_true] at h
 obtain ⟨⟨⟨⟨⟨h1, h2⟩, h3⟩, h4⟩, h5⟩, h6⟩ := h
 have h7 := readyAt_mem h3 hT
 have h8 := set_of h6
 subst hT
 simp only [takeB, Bool.and_eq_true]
 exact ⟨⟨⟨⟨⟨h1, by rw [free_eq]; exact h2⟩, h7⟩, by rw [closed_eq]; exact h4⟩, by rw [last_eq]; exact h5⟩, h8⟩
theorem one_of (hT : rtab md ops = T) (h : (readyT T.2 l.toList == [i] && l.toList.set i true == l'.toList) = true) : readyB md ops l l' i = true := by
 simp only [Bool.and_eq_true] at h
 obtain ⟨h1, h2⟩ := h
 subst hT
 simp only [readyB, Bool.and_eq_true]
 exact ⟨by rw [ready_eq]; exact h1, set_of h2⟩
theorem two_of (hT : rtab md ops = T) (h : (readyT T.2 l.toList == [i, j] && l.toList.set i true == li.toList && l.toList.set j true == lj.toList) = true) : (Region.ready md ops l == [i, j] && l.setIfInBounds i true == li && l.setIfInBounds j true == lj) = true := by
 simp only [Bool.and_eq_true] at h ⊢
 obtain ⟨⟨h1, h2⟩, h3⟩ := h
 subst hT
 exact ⟨⟨by rw [ready_eq]; exact h1, set_of h2⟩, set_of h3⟩
theorem done_of (hT : rtab md ops = T) (h : (readyT T.2 l.toList == []) = true) : (Region.ready md ops l == []) = true := by
 subst hT
 rw [ready_eq]
 exact h
def upM (B : List Nat) (d : Nat) : List Nat → Nat
 | [] => 0
 | n :: r => (2 ^ n ||| (if n < d then B.getD n 0 else 0)) ||| upM B d r
def waitsOk (T : List (List Nat × List Nat)) (B : List Nat) : Bool := (List.range T.length).all fun d => match T[d]? with
 | some r => (B.getD d 0 ||| upM B d r.1) == upM B d r.1
 | none => false
theorem upM_bit {B : List Nat} {d i : Nat} : ∀ {ns : List Nat}, (upM B d ns).testBit i = true → ∃ n ∈ ns, n = i ∨ (n < d ∧ (B.getD n 0).testBit i = true)
 | [], h => by simp [upM] at h
 | n :: r, h => by
   unfold upM at h
   rw [Nat.testBit_or, Nat.testBit_or, Bool.or_eq_true, Bool.or_eq_true] at h
   rcases h with (h | h) | h
   ·rw [Nat.testBit_two_pow] at h
    exact ⟨n, List.mem_cons_self, .inl (by simpa using h)⟩
   ·by_cases hn : n < d
    ·rw [if_pos hn] at h
     exact ⟨n, List.mem_cons_self, .inr ⟨hn, h⟩⟩
    ·rw [if_neg hn] at h
     simp at h
   ·obtain ⟨m, hm, h2⟩ := upM_bit h
    exact ⟨m, List.mem_cons_of_mem _ hm, h2⟩
theorem reach_bit {T : List (List Nat × List Nat)} {B : List Nat} (hB : waitsOk T B = true) : ∀ (fuel d : Nat), d < fuel → d < T.length → (B.getD d 0).testBit i = true → reachT T i fuel d = true
 | 0, d, h, _, _ => by omega
 | fuel + 1, d, h, hd, hb => by
   have h1 := List.all_eq_true.1 hB d (List.mem_range.2 hd)
   cases hr : T[d]? with
   | none => rw [hr] at h1; simp at h1
   | some r =>
     rw [hr] at h1
     simp only [beq_iff_eq] at h1
     have h2 : (upM B d r.1).testBit i = true := by rw [← h1, Nat.testBit_or, hb, Bool.true_or]
     obtain ⟨n, hn, h3⟩ := upM_bit h2
     unfold reachT
     rw [hr]
     simp only
     rw [List.any_eq_true]
     refine ⟨n, hn, ?_⟩
     rcases h3 with rfl | ⟨h4, h5⟩
     ·simp
     ·rw [reach_bit hB fuel n (by omega) (by omega) h5, Bool.or_true]
def lastW (T : List (List Nat × List Nat)) (B : List Nat) (l : List Bool) (ds : List Nat) (i : Nat) : Bool := ds.all fun d => l.getD d true || (decide (d < T.length) && (B.getD d 0).testBit i)
def takeW (T : Bool × List (List Nat × List Nat)) (B : List Nat) (ds : List Nat) (l l' : List Bool) (i : Nat) : Bool := T.1 && freeT T.2 l i && readyAt T.2 l i && closedT T.2 l && lastW T.2 B l ds i && (l.set i true == l')
theorem take_ofW {B : List Nat} (hT : rtab md ops = T) (hB : waitsOk T.2 B = true) (h : takeW T B ds l.toList l'.toList i = true) : takeB md ops ds l l' i = true := by
 refine take_of hT ?_
 simp only [takeW, takeT, Bool.and_eq_true] at h ⊢
 obtain ⟨⟨⟨⟨⟨h1, h2⟩, h3⟩, h4⟩, h5⟩, h6⟩ := h
 refine ⟨⟨⟨⟨⟨h1, h2⟩, h3⟩, h4⟩, ?_⟩, h6⟩
 unfold lastW at h5
 unfold lastT
 rw [List.all_eq_true] at h5 ⊢
 intro d hd
 have h7 := h5 d hd
 rw [Bool.or_eq_true, Bool.and_eq_true, decide_eq_true_eq] at h7
 rcases h7 with h7 | ⟨h8, h9⟩
 ·rw [h7, Bool.true_or]
 ·rw [reach_bit hB _ d h8 h8 h9, Bool.or_true]
theorem with_tabW {P : Program} {Q : Exit → Act → World → Prop} {S : World → Prop} {n : Nat} {a : Act} {w : World} {B : List Nat} (hT : rtab md ops = T) (hB : waitsOk T.2 B = true) (h : Aside0 (rtab md ops = T) → Aside0 (waitsOk T.2 B = true) → wpAnyLast P md ops Q S ds n l a w) : wpAnyLast P md ops Q S ds n l a w := h ⟨hT⟩ ⟨hB⟩
end
def opsIn : Code → Nat → Option (Array Oper)
 | .region id ops _, k => if id == k then some ops else none
 | .seq a b, k => match opsIn a k with
   | some o => some o
   | none => opsIn b k
 | .cond _ a b, k => match opsIn a k with
   | some o => some o
   | none => opsIn b k
 | .block _ c, k => opsIn c k
 | .loop c, k => opsIn c k
 | .scope c, k => opsIn c k
 | .rangeFunc _ _ a b, k => match opsIn a k with
   | some o => some o
   | none => opsIn b k
 | _, _ => none
def opsOf (f : Func) (k : Nat) : Array Oper := ((f.body.bind fun c => opsIn c k)).getD #[]
end Go.Proofs.YtfbbcfhdjhiejaaGreatW.PrintLast

/- What the functions of package bits do: contracts. -/
namespace Go.Proofs.YtfbbcfhdjhiejaaGreat.Bits
set_option linter.unusedVariables false
set_option linter.unusedSimpArgs false
open Go.RowKit Go.Proofs.YtfbbcfhdjhiejaaGreatW.PrintWords Go.Proofs.YtfbbcfhdjhiejaaGreatW.PrintMore Go.Proofs.YtfbbcfhdjhiejaaGreat.L Go.Proofs.YtfbbcfhdjhiejaaGreat.BP
theorem infoU8 : (Tryz.prog.info? 5).map (fun i => (i.zero, i.size, i.bytes)) = some (some (.int .u8 0), 1, 1) := by kernel_rfl
/-- A writer in block b: v are its bytes, bs its bits. -/
def WR (w : World) (b base : Nat) (v : Value) (bs : List Int) : Prop :=
 w.heap[b]? = some (.cells #[v, .int .i64 bs.length] 171 (0, 0)) ∧ Kd.R (Kd.int .u8) 5 w base (fun _ => True) v (pack bs) ∧ Bits bs
/-! ### NewReader -/
/-! ### (*Reader).Left -/
/-! ### (*Reader).Peek -/
/-! ### (*Reader).Skip -/
/-! ### (*Reader).Get -/
/-! ### (*Reader).Rest -/
/-! ### (*Writer).Len, Bytes, Put -/
set_option maxHeartbeats 400000 in
theorem bytes_any (b base : Nat) (v : Value) (bs : List Int) (w : World) (h : WR w b base v bs) :
  Calls Tryz.prog 112 #[.pointer (some ⟨b, 0, none⟩)] w fun e w' => e = .returned (.string (strOfNums (pack bs))) ∧ w' = w := by
 obtain ⟨hb, hr, _⟩ := h
 obtain ⟨c0, _, _, _⟩ := two_cells hb
 have hcv := own_string (P := Tryz.prog) Tryz.underlying49 Tryz.underlying5 Tryz.underlying9 (Kd.own_of_R hr)
 obtain ⟨A, c, rfl⟩ := Kd.R_slice hr
 clear hb hr
 go_enter Tryz.func112, Tryz.ntmps112
 go_wp2
 go_ret
 exact ⟨rfl, rfl⟩
/-- What may be put: n bits, a number of so many. -/
def mayPut (v n : Int) : Bool := decide (0 ≤ n ∧ n ≤ 32 ∧ 0 ≤ v ∧ v < 2 ^ n.toNat)
theorem pow_small {n : Int} (h1 : n ≤ 32) : wrap64 (2 ^ n.toNat) = 2 ^ n.toNat ∧ (2 : Int) ^ n.toNat ≤ 4294967296 := by
 have : (2 : Int) ^ n.toNat ≤ 2 ^ 32 := by
  have := Nat.pow_le_pow_right (n := 2) (by decide) (show n.toNat ≤ 32 by omega)
  exact_mod_cast this
 have h0 : (0 : Int) < 2 ^ n.toNat := Int.pow_pos (by omega)
 generalize (2 : Int) ^ n.toNat = q at *
 constructor
 ·unfold wrap64; omega
 ·omega
set_option maxHeartbeats 1600000 in
theorem put_yes (b base : Nat) (v0 : Value) (bs : List Int) (v m : Int) (w : World) (h : WR w b base v0 bs) (hp : mayPut v m = true) (hbase : base ≤ w.heap.size) (hlen : bs.length ≤ 1000000000) :
  Calls Tryz.prog 138 #[.pointer (some ⟨b, 0, none⟩), .int .i64 v, .int .i64 m] w fun e w' => e = .returned (.bool true) ∧
   ∃ v1, WR w' b base v1 (bs ++ bitsV m.toNat v) ∧ Chg (fun k => k = b ∨ some k = v0.ownBlock) w w' ∧ (v1.ownBlock = v0.ownBlock ∨ ∃ k, v1.ownBlock = some k ∧ w.heap.size ≤ k) := by
 simp only [mayPut, decide_eq_true_eq] at hp
 obtain ⟨hm, hm2, hv, hv2⟩ := hp
 have hd : decide (wrap64 (2 ^ m.toNat) ≤ v) = false := by
  rw [(pow_small hm2).1]; exact decide_eq_false (by omega)
 have hvs : v < 4294967296 := by have := (pow_small hm2).2; omega
 have HW := Aside0.mk h
 have HL := Aside0.mk hlen
 have HBS := Aside0.mk hbase
 clear h hv2 hlen hbase
 go_enter Tryz.func138, Tryz.ntmps138
 go_wp2
 go_loopg [7] m.toNat (fun j i wr => i = .int .i64 ((j : Int) - 1) ∧ j ≤ m.toNat ∧ Aside0 (∃ v1, WR wr b base v1 (bs ++ (bitsV m.toNat v).take (m.toNat - j)) ∧ Chg (fun k => k = b ∨ some k = v0.ownBlock) w wr ∧ (v1.ownBlock = v0.ownBlock ∨ ∃ k, v1.ownBlock = some k ∧ w.heap.size ≤ k)))
 case atStart => exact ⟨by simp; omega, Nat.le_refl _, ⟨v0, by simpa using HW.out, Chg.refl _ _, .inl rfl⟩⟩
 case round =>
  obtain ⟨rfl, hj, HR⟩ := hrel
  clear HW
  obtain ⟨vv, ⟨hb, hr, hbit⟩, hch, hown⟩ := HR.out
  cases gk with
  | zero =>
    go_wp2
    go_ret
    refine ⟨rfl, vv, ?_, hch, hown⟩
    have e : (bitsV m.toNat v).take (m.toNat - 0) = bitsV m.toNat v := List.take_of_length_le (by rw [bitsV_length]; omega)
    rw [e] at hb hr hbit
    exact ⟨hb, hr, hbit⟩
  | succ gk =>
    obtain ⟨ys, hys⟩ : ∃ ys, bs ++ (bitsV m.toNat v).take (m.toNat - (gk + 1)) = ys := ⟨_, rfl⟩
    rw [hys] at hb hr hbit
    have LEN : Aside0 (ys.length ≤ 1000000032) := ⟨by
     have := HL.out
     rw [← hys, List.length_append]
     have := List.length_take_le (m.toNat - (gk + 1)) (bitsV m.toNat v)
     omega⟩
    have hnext : ys ++ [v / 2 ^ gk % 2] = bs ++ (bitsV m.toNat v).take (m.toNat - gk) := by
     have := bitsV_take m.toNat v (m.toNat - (gk + 1)) (by omega)
     rw [show m.toNat - gk = m.toNat - (gk + 1) + 1 from by omega, this, ← hys, List.append_assoc]
     rw [show m.toNat - 1 - (m.toNat - (gk + 1)) = gk from by omega]
    have HNX := Aside0.mk hnext
    have HB := Aside0.mk hb
    have HO := Aside0.mk hr
    have HBI := Aside0.mk hbit
    have HC := Aside0.mk hch
    have HOW := Aside0.mk hown
    have hlt := Aside0.mk (blk_lt hb)
    have hne : Aside0 (∀ k, vv.ownBlock = some k → k ≠ b) := ⟨fun k hk e => Kd.R_ne hr hb (by decide) (by rw [← e]; exact hk.symm)⟩
    obtain ⟨c0, c1, f0, f1⟩ := two_cells hb
    clear hb hr HR hbit hch hown hnext hys
    have eg : ((gk + 1 : Nat) : Int) - 1 = gk := by omega
    rw [eg]
    clear eg
    go_upto_if 39 with (fail)
    go_cut [] (fun wc => Aside0 (∃ v1, wc.heap[b]? = some (.cells #[v1, .int .i64 ys.length] 171 (0, 0)) ∧ Kd.R (Kd.int .u8) 5 wc base (fun _ => True) v1 (if ys.length % 8 = 0 then pack ys ++ [0] else pack ys) ∧ Chg (fun k => k = b ∨ some k = v0.ownBlock) w wc ∧ (v1.ownBlock = v0.ownBlock ∨ ∃ k, v1.ownBlock = some k ∧ w.heap.size ≤ k)))
    case first =>
     by_cases h8 : ys.length % 8 = 0
     ·have h8b : ((ys.length : Int) % 8 == 0) = true := by simp; omega
      have h8i := Aside0.mk h8
      clear h8
      go_wp2_with (first | ((with_reducible refine gate_builtin (b := .append) (xs := #[.tmp 44, .tmp 45]) rfl ?_); at_builtin; refine Kd.R_append (Kd.int .u8) (w0 := wr) base rfl (.tmp 44) (.tmp 45) 49 5 (.int .u8 0) 1 rfl Tryz.underlying49 infoU8 rfl (by decide) (by omega) vv (pack ys) 0 [.int .u8 0] (fun _ => True) (fun _ => False) rfl rfl ?aP (fun _ hk => hk.elim) ?aF ?aO ?aB ?aS ?aL ?_; (case aP => exact rfl); (case aF => exact (fun _ _ => trivial)); (case aO => exact HO.out); (case aB => exact Below.refl _ _); (case aS => exact Nat.le_trans HBS.out HC.out.size); (case aL => rw [pack_length]; have := LEN.out; omega); intro v1 w1 ho hb1 hg hat; obtain ⟨A1, k1, rfl⟩ := Kd.R_slice ho; have HO1 := Aside0.mk ho; have HB1 := Aside0.mk ((hg.block b hlt.out (fun e => hne.out b e.symm rfl)).trans HB.out); have HG1 := Aside0.mk hg; have HAT := Aside0.mk hat; clear ho hb1 hg hat; obtain ⟨c10, c11, f10, f11⟩ := two_cells HB1.out))
      go_meet
      case rel =>
       refine ⟨_, two_set0 HB1.out _, ?_, ?_, ?_⟩
       ·rw [if_pos h8i.out]
        have h := Kd.R_set HO1.out HB1.out (int_ne (by decide)) 0 (.slice A1 ((pack ys).length + 1) k1)
        simpa using h
       ·exact (Chg.trans' HC.out (S' := fun k => some k = vv.ownBlock) ⟨HG1.out.os, HG1.out.tape, HG1.out.output, HG1.out.size, HG1.out.block⟩ (fun i hi e => by
         rcases HOW.out with h | ⟨k, h, hk⟩
         ·exact .inr (e.trans h)
         ·rw [h] at e; injection e with e; omega)).setCell (p := ⟨b, 0, none⟩) (fun _ => .inl rfl) _
       ·rcases HAT.out with h | ⟨k, h, hk⟩
        ·have h : (Value.slice A1 ((pack ys).length + 1) k1).ownBlock = vv.ownBlock := by simpa using h
         rw [h]; exact HOW.out
        ·exact .inr ⟨k, by simpa using h, Nat.le_trans HC.out.size hk⟩
     ·have h8b : ((ys.length : Int) % 8 == 0) = false := by simp; omega
      have h8i := Aside0.mk h8
      clear h8
      go_wp2
      go_meet
      case rel => exact ⟨vv, HB.out, by rw [if_neg h8i.out]; exact HO.out, HC.out, HOW.out⟩
    case rest =>
     clear HB HO hlt hne c0 c1 f0 f1 HC HOW
     obtain ⟨v1, hb, hr, hch, hown⟩ := hcut.out
     obtain ⟨zs, hzs⟩ : ∃ zs, (if ys.length % 8 = 0 then pack ys ++ [0] else pack ys) = zs := ⟨_, rfl⟩
     rw [hzs] at hr
     have hzl : ys.length / 8 < zs.length := by
      rw [← hzs]
      split
      ·rw [List.length_append, pack_length]; simp; omega
      ·rw [pack_length]; omega
     obtain ⟨g, cp, rfl, hg0, hg1, cells, hg2⟩ := Kd.R_form hr (by omega)
     have q1 : 0 ≤ (ys.length : Int) / 8 := by omega
     have q2 : (ys.length : Int) / 8 < (zs.length : Int) := by omega
     obtain ⟨d0, d1⟩ := Kd.R_celln 0 hr ((ys.length : Int) / 8) q1 q2
     have et : ((ys.length : Int) / 8).toNat = ys.length / 8 := by omega
     rw [et] at d0 d1
     clear et
     obtain ⟨c0, c1, f0, f1⟩ := two_cells hb
     have HB := Aside0.mk hb
     have HO := Aside0.mk hr
     have HC := Aside0.mk hch
     have HOW := Aside0.mk hown
     have HZ := Aside0.mk hzs
     have hlt := Aside0.mk (blk_lt hb)
     have hgb : g ≠ b := fun e => Kd.R_ne hr hb (by decide) (by rw [e]; rfl)
     have e7 : (0 : Int) ≤ 7 - (ys.length : Int) % 8 := by omega
     have hyl := LEN.out
     have w8 : wrap64 ((ys.length : Int) / 8) = (ys.length : Int) / 8 := by unfold wrap64; omega
     clear hb hr hcut hg0 hg1 hg2 hch hown hzs hzl
     replace q1 := eq_true q1
     replace q2 := eq_true q2
     go_upto_region 8 with (fail)
     generalize hW : wc = W8 at *
     go_region
     go_wp2
     go_roundg gk
     case measure => omega
     case rel =>
      have hx : v / 2 ^ gk % 2 = 0 ∨ v / 2 ^ gk % 2 = 1 := by have := Int.emod_two_eq (v / 2 ^ gk); omega
      have hv0 : 0 ≤ v / 2 ^ gk ∧ v / 2 ^ gk ≤ v := by
       have hp : (0 : Int) < 2 ^ gk := Int.pow_pos (by omega)
       exact ⟨Int.ediv_nonneg hv (by omega), Int.ediv_le_self _ hv⟩
      have hval : bits BinOp.or IntKind.u8 (rdOf 0 zs ((ys.length : Int) / 8)) (bits BinOp.and IntKind.i64 (v / 2 ^ gk) 1 % 256 * 2 ^ (7 - ys.length % 8) % 256) = byteAt ys (ys.length / 8) + v / 2 ^ gk % 2 * 2 ^ (7 - ys.length % 8) := by
       have e1 : rdOf 0 zs ((ys.length : Int) / 8) = byteAt ys (ys.length / 8) := by
        show zs.getD ((ys.length : Int) / 8).toNat 0 = _
        rw [show ((ys.length : Int) / 8).toNat = ys.length / 8 from by omega, ← HZ.out]
        by_cases h8 : ys.length % 8 = 0
        ·rw [if_pos h8, (byte_new ys h8).1, (byte_new ys h8).2]
        ·rw [if_neg h8, byte_here ys h8]
       have e2 : bits BinOp.and IntKind.i64 (v / 2 ^ gk) 1 % 256 * 2 ^ (7 - ys.length % 8) % 256 = v / 2 ^ gk % 2 * 2 ^ (7 - ys.length % 8) := by
        rw [and_one _ hv0.1 (by omega)]
        obtain ⟨r, hr⟩ : ∃ r, 7 - ys.length % 8 = r := ⟨_, rfl⟩
        rw [hr]
        have hr7 : r ≤ 7 := by omega
        have hp : (2 : Int) ^ r ≤ 128 := by
         have := Nat.pow_le_pow_right (n := 2) (by decide) hr7
         exact_mod_cast this
        have hp0 : (0 : Int) < 2 ^ r := Int.pow_pos (by omega)
        generalize (2 : Int) ^ r = P at *
        rcases hx with h | h
        ·rw [h]; simp
        ·rw [h]; omega
       rw [e1, e2, or_here HBI.out _ hx]
      rw [hval]
      refine ⟨rfl, by omega, ⟨_, ⟨?_, ?_, ?_⟩, ?_, HOW.out⟩⟩
      ·have h := two_set1 (setCell_far HB.out (p := ⟨g, ys.length / 8, none⟩) (fun e => hgb e.symm) (.int .u8 (byteAt ys (ys.length / 8) + v / 2 ^ gk % 2 * 2 ^ (7 - ys.length % 8)))) (.int .i64 ((ys.length : Int) + 1))
       rw [← HNX.out, List.length_append]
       exact h
      ·rw [← HNX.out, pack_snoc, HZ.out]
       have h := Kd.R_putn HO.out ((ys.length : Int) / 8) (byteAt ys (ys.length / 8) + v / 2 ^ gk % 2 * 2 ^ (7 - ys.length % 8))
       rw [show ((ys.length : Int) / 8).toNat = ys.length / 8 from by omega] at h
       have h2 := Kd.R_set h (setCell_far HB.out (p := ⟨g, ys.length / 8, none⟩) (fun e => hgb e.symm) (.int .u8 (byteAt ys (ys.length / 8) + v / 2 ^ gk % 2 * 2 ^ (7 - ys.length % 8)))) (int_ne (by decide)) 1 (.int .i64 ((ys.length : Int) + 1))
       exact Kd.R_drew h2
      ·rw [← HNX.out]
       exact HBI.out.append (fun y hy => by simp at hy; rw [hy]; exact hx)
      ·refine ((HC.out.setCell (p := ⟨g, ys.length / 8, none⟩) (fun hlt => ?_) _).setCell (p := ⟨b, 1, none⟩) (fun _ => .inl rfl) _).drew
       rcases HOW.out with h | ⟨k, h, hk⟩
       ·exact .inr (by rw [← h]; rfl)
       ·have h' : g = k := by simpa [Value.ownBlock] using h
        have hlt' : g < w.heap.size := hlt
        omega
end Go.Proofs.YtfbbcfhdjhiejaaGreat.Bits

/- The contracts of package bits in their callers' form. -/
namespace Go.Proofs.YtfbbcfhdjhiejaaGreat.Bits
set_option linter.unusedVariables false
set_option linter.unusedSimpArgs false
open Go.RowKit Go.Proofs.YtfbbcfhdjhiejaaGreatW.PrintWords Go.Proofs.YtfbbcfhdjhiejaaGreatW.PrintMore Go.Proofs.YtfbbcfhdjhiejaaGreat.L Go.Proofs.YtfbbcfhdjhiejaaGreat.BP
/-! ### in the callers' form: numbers of bits as whole numbers; what stays -/
theorem WR.chg {w w' : World} {b base : Nat} {v : Value} {bs : List Int} {S : Nat → Prop} (h : WR w b base v bs) (hc : Chg S w w') (hb : ¬ S b) (hv : ∀ k, v.ownBlock = some k → ¬ S k) : WR w' b base v bs := by
 refine ⟨(hc.block b (blk_lt h.1) hb).trans h.1, ?_, h.2.2⟩
 have hr : Kd.R (Kd.int .u8) 5 w base (fun k => some k = v.ownBlock) v (pack bs) := Kd.R_of_own (Kd.own_of_R h.2.1) (fun k hk => hk.symm)
 exact Kd.R_mono (R_chg hr hc (fun k hk => hv k hk.symm)) (fun _ _ => trivial)
theorem wr_new (w : World) (base : Nat) : WR (w.alloc (.cells #[.slice none 0 0, .int .i64 0] 171 (0, 0))) w.heap.size base (.slice none 0 0) [] :=
 ⟨heap_alloc_self _ _, Kd.R_nil _ _ _ _ _, bits_nil⟩
end Go.Proofs.YtfbbcfhdjhiejaaGreat.Bits

/- Lists of whole numbers: the library's copy, the book's comparison. -/
namespace Go.Proofs.YtfbbcfhdjhiejaaGreat.Ints
set_option linter.unusedVariables false
set_option linter.unusedSimpArgs false
open Go.RowKit Go.Proofs.YtfbbcfhdjhiejaaGreatW.PrintWords Go.Proofs.YtfbbcfhdjhiejaaGreatW.PrintMore Go.Proofs.YtfbbcfhdjhiejaaGreat.L
abbrev KI : Kd Int := Kd.int .i64
theorem infoInt : (Tryz.prog.info? 3).map (fun i => (i.zero, i.size, i.bytes)) = some (some (.int .i64 0), 1, 8) := by kernel_rfl
theorem ints_at {w : World} {A : Option Addr} {n : Nat} {xs : List Int} (h : KI.C w A n xs) (i : Nat) (hi : i < n) :
  ∃ ad, A = some ad ∧ w.cell? (ad.add i) = some (.int .i64 (xs.getD i 0)) := by
 obtain ⟨ad, e, hc⟩ := Kd.at_int h (i : Int) (by omega) (by omega)
 rw [Int.toNat_natCast] at hc
 exact ⟨ad, e, by simpa [rd] using hc⟩
theorem ki_len {w : World} {A : Option Addr} {n : Nat} {xs : List Int} (h : KI.C w A n xs) : n = xs.length := (Kd.C_len h).symm
theorem take_succ_getD (l : List Int) (k : Nat) (h : k < l.length) : l.take (k + 1) = l.take k ++ [l.getD k 0] := by
 rw [List.take_succ_eq_append_getElem h]
 simp [List.getD_eq_getElem?_getD, List.getElem?_eq_getElem h]
theorem bel_trans {B : Nat} {w w1 w2 : World} (h : Below B w w1) (hB : B ≤ w1.heap.size) (h2 : Below w1.heap.size w1 w2) : Below B w w2 :=
 h.trans ⟨h2.os, h2.tape, h2.output, h2.size, fun k hk => h2.block k (by omega)⟩
/-! ### slices.Clone -/
theorem clone_ints (A : Option Addr) (n c : Nat) (xs : List Int) (w : World) (h : KI.C w A n xs) (hl : n * 8 ≤ 140737488351232) :
  Calls Tryz.prog 153 #[.slice A n c] w fun e w' => ∃ v, e = .returned v ∧ KI.R 3 w' w.heap.size (fun _ => True) v xs ∧ Below w.heap.size w w' := by
 have H := Lib.hid h
 have hxl := ki_len h
 clear h
 have q22 : ∀ (w : World) (a : Option Addr) (n c n' c' : Nat), (binOp .eql 26 (.slice a n c) (.slice none n' c')).run Tryz.prog w = .ok (.bool a.isNone) w := fun w a n c n' c' => Lib.run_eql_slice_nil w _ _ a n c n' c' Tryz.underlying26
 rcases A with _ | ad
 ·obtain rfl : xs = [] := by
   by_cases hn : 0 < n
   ·obtain ⟨ad, e, _⟩ := ints_at H.out 0 hn
    cases e
   ·exact List.eq_nil_of_length_eq_zero (by omega)
  go_enter Tryz.func153, Tryz.ntmps153
  go_wp2_with (fail)
  go_ret
  exact ⟨_, rfl, Kd.R_nil _ _ _ _ _, Below.refl _ _⟩
 ·go_enter Tryz.func153, Tryz.ntmps153
  go_wp2_with (((with_reducible refine gate_builtin (b := .append) (xs := #[.tmp 5, .tmp 6]) rfl ?_); at_builtin; apply stopper))
  unfold Stopper
  refine Kd.R_append_row (Value.int .i64) 0 (h1 := fun _ => rfl) (w0 := w) w.heap.size rfl (.tmp 5) (.tmp 6) 26 3 (.int .i64 0) 8 rfl Tryz.underlying26 infoInt rfl (by decide) _ [] xs (some ad) n c (fun _ => True) rfl rfl (fun _ _ => trivial) ?aO ?aR ?aB ?aS ?aL ?_
  case aO => exact Kd.R_of_own (World.ownsRow_made w #[] 0 (Nat.le_refl _) (Nat.zero_le _) rfl) (fun _ _ => trivial)
  case aR => exact Kd.C_alloc H.out _
  case aB => exact (Below.refl _ w).alloc (Nat.le_refl _) _
  case aS => simp
  case aL => simp; omega
  intro v1 w1 ho hb hg hat
  have HO := Lib.hid ho
  have HB := Lib.hid hb
  clear ho hb hg hat
  go_wp2
  go_ret
  exact ⟨_, rfl, HO.out, HB.out⟩
/-! ### SameInts -/
end Go.Proofs.YtfbbcfhdjhiejaaGreat.Ints

/- Numbers of one to five bytes: the program's and the document's. -/
namespace Go.Proofs.YtfbbcfhdjhiejaaGreat.Vari
set_option linter.unusedVariables false
set_option linter.unusedSimpArgs false
open Go.RowKit Go.Proofs.YtfbbcfhdjhiejaaGreatW.PrintWords Go.Proofs.YtfbbcfhdjhiejaaGreatW.PrintMore Go.Proofs.YtfbbcfhdjhiejaaGreat.L Go.Proofs.YtfbbcfhdjhiejaaGreat.Ints Go.Proofs.YtfbbcfhdjhiejaaGreat.VariSpec Go.Proofs.YtfbbcfhdjhiejaaGreat.Bits
def okN (n : Int) : Bool := decide (0 ≤ n ∧ n ≤ 4294967295)
/-- A number as a string. -/
def numS (n : Int) : ByteArray := if okN n = true then strOfNums (encN 4 n) else ⟨#[]⟩
theorem numS_size (n : Int) : (numS n).size ≤ 5 := by
 unfold numS
 split
 ·rw [strOfNums_size]; exact (encN_len 4 n).2
 ·exact Nat.zero_le _
/-- How far the bytes have come. -/
def VI (n m : Int) (acc : List Int) : Prop := ∃ f, acc ++ encN f m = encN 4 n ∧ 0 ≤ m ∧ m < cap f ∧ acc.length + f = 4
theorem vi_on {n m : Int} {acc : List Int} (h : VI n m acc) (hm : 128 ≤ m) : VI n (m / 128) (acc ++ [m % 128 + 128]) := by
 obtain ⟨f, h1, h2, h3, h4⟩ := h
 cases f with
 | zero => simp only [cap] at h3; omega
 | succ f =>
   simp only [cap] at h3
   refine ⟨f, ?_, by omega, by omega, by simp; omega⟩
   rw [← h1]
   simp only [encN]
   rw [if_pos hm, List.append_assoc]
   rfl
theorem vi_on' {n m : Int} {acc : List Int} (h : VI n m acc) (hm : 128 ≤ m) : VI n (m / 128) (acc ++ [128 + m % 128]) := by
 rw [Int.add_comm]; exact vi_on h hm
theorem vi_end {n m : Int} {acc : List Int} (h : VI n m acc) (hm : m < 128) : acc ++ [m] = encN 4 n ∧ 0 ≤ m := by
 obtain ⟨f, h1, h2, h3, h4⟩ := h
 refine ⟨?_, h2⟩
 rw [← h1]
 cases f with
 | zero => rfl
 | succ f => simp only [encN]; rw [if_neg (by omega)]
theorem vi_start {n : Int} (h0 : 0 ≤ n) (h1 : n ≤ 4294967295) : VI n n [] := ⟨4, rfl, h0, by simp only [cap]; omega, rfl⟩
theorem vi_len {n m : Int} {acc : List Int} (h : VI n m acc) : acc.length ≤ 4 ∧ 0 ≤ m := by
 obtain ⟨f, h1, h2, h3, h4⟩ := h
 exact ⟨by omega, h2⟩
theorem vi_most {n m : Int} {acc : List Int} (h : VI n m acc) : m < 4294967296 := by
 obtain ⟨f, h1, h2, h3, h4⟩ := h
 have : ∀ f, f ≤ 4 → cap f ≤ 4294967296 := fun f hf => by
  match f, hf with
  | 0, _ => simp [cap]
  | 1, _ => simp [cap]
  | 2, _ => simp [cap]
  | 3, _ => simp [cap]
  | 4, _ => simp [cap]
  | k + 5, h => omega
 have := this f (by omega)
 omega
set_option maxRecDepth 100000 in
set_option maxHeartbeats 1000000 in
theorem put_any (n : Int) (w : World) :
  Calls Tryz.prog 63 #[.int .i64 n] w fun e w' => e = .returned (.tuple #[.string (numS n), .bool (okN n)]) ∧ Below w.heap.size w w' := by
 by_cases hn : n < 0
 ·have ho : okN n = false := decide_eq_false (by omega)
  have hs : numS n = ⟨#[]⟩ := by unfold numS; rw [if_neg (by rw [ho]; decide)]
  rw [ho, hs]
  clear ho hs
  go_enter Tryz.func63, Tryz.ntmps63
  go_wp2_with (fail)
  go_ret2
  exact ⟨rfl, Below.refl _ _⟩
 ·by_cases hm : 4294967295 < n
  ·have ho : okN n = false := decide_eq_false (by omega)
   have hs : numS n = ⟨#[]⟩ := by unfold numS; rw [if_neg (by rw [ho]; decide)]
   rw [ho, hs]
   clear ho hs
   go_enter Tryz.func63, Tryz.ntmps63
   go_wp2_with (fail)
   go_ret2
   exact ⟨rfl, Below.refl _ _⟩
  ·have ho : okN n = true := decide_eq_true (by omega)
   have hs : numS n = strOfNums (encN 4 n) := by unfold numS; rw [if_pos ho]
   rw [ho, hs]
   have h0 : 0 ≤ n := by omega
   have h1 : n ≤ 4294967295 := by omega
   have HV := Lib.hid (vi_start h0 h1)
   have hdn : decide (n < 0) = false := decide_eq_false hn
   clear ho hs hn
   go_enter Tryz.func63, Tryz.ntmps63
   go_wp2_with (fail)
   go_loopg [0, 4] 5 (fun j m v wr => ∃ (x : Int) (acc : List Int), m = .int .i64 x ∧ acc.length + j = 5 ∧ Hid (VI n x acc ∧ Kd.R (Kd.int .u8) 5 wr w.heap.size (fun _ => True) v acc ∧ Below w.heap.size w wr))
   case atStart => exact ⟨n, [], rfl, rfl, HV.out, Kd.R_nil _ _ _ _ _, Below.refl _ _⟩
   case round =>
    obtain ⟨x, acc, rfl, hj, HI⟩ := hrel
    obtain ⟨hv, hr, hb⟩ := HI.out
    obtain ⟨l4, x0⟩ := vi_len hv
    have xm := vi_most hv
    have HR := Lib.hid hr
    have HB := Lib.hid hb
    have HL := Lib.hid l4
    have HJ := Lib.hid hj
    by_cases hx : 128 ≤ x
    ·have HV2 := Lib.hid (vi_on hv hx)
     have hby : (x % 128 + 128) % 256 = x % 128 + 128 := by omega
     clear hv hr hb HI HV hj l4
     go_wp2_with (((with_reducible refine gate_builtin (b := .append) (xs := #[.tmp 15, .tmp 20]) rfl ?_); at_builtin; apply stopper))
     unfold Stopper
     refine Kd.R_append (Kd.int .u8) (w0 := w) w.heap.size rfl (.tmp 15) (.tmp 20) 49 5 (.int .u8 0) 1 rfl Tryz.underlying49 infoU8 rfl (by decide) (by omega) u4 acc (x % 128 + 128) [.int .u8 (x % 128 + 128)] (fun _ => True) (fun _ => False) rfl rfl ?aP (fun _ hk => hk.elim) ?aF ?aO ?aB ?aS ?aL ?_
     case aP => exact rfl
     case aF => exact (fun _ _ => trivial)
     case aO => exact HR.out
     case aB => exact HB.out
     case aS => exact HB.out.size
     case aL => have := HL.out; omega
     intro p1 w6 ho hb6 hg hat
     have HO := Lib.hid ho
     have HB6 := Lib.hid hb6
     clear ho hb6 hg hat hby
     go_wp2_with (fail)
     go_roundg (5 - (acc.length + 1))
     case measure => have := HJ.out; have := HL.out; omega
     case rel => exact ⟨x / 128, acc ++ [x % 128 + 128], rfl, by rw [List.length_append]; have := HL.out; simp; omega, HV2.out, HO.out, HB6.out⟩
    ·have hx2 : x < 128 := by omega
     obtain ⟨he, _⟩ := vi_end hv hx2
     have HE := Lib.hid he
     have hby : x % 256 = x := by omega
     clear hv hr hb HI HV hj l4 he
     go_wp2_with (((with_reducible refine gate_builtin (b := .append) (xs := #[.tmp 22, .tmp 25]) rfl ?_); at_builtin; apply stopper))
     unfold Stopper
     refine Kd.R_append (Kd.int .u8) (w0 := w) w.heap.size rfl (.tmp 22) (.tmp 25) 49 5 (.int .u8 0) 1 rfl Tryz.underlying49 infoU8 rfl (by decide) (by omega) u4 acc x [.int .u8 x] (fun _ => True) (fun _ => False) rfl rfl ?aP (fun _ hk => hk.elim) ?aF ?aO ?aB ?aS ?aL ?_
     case aP => exact rfl
     case aF => exact (fun _ _ => trivial)
     case aO => exact HR.out
     case aB => exact HB.out
     case aS => exact HB.out.size
     case aL => have := HL.out; omega
     intro p1 w6 ho hb6 hg hat
     rw [HE.out] at ho
     have hcv := own_string (P := Tryz.prog) Tryz.underlying49 Tryz.underlying5 Tryz.underlying9 (Kd.own_of_R ho)
     have HB6 := Lib.hid hb6
     clear ho hb6 hg hat hby
     go_wp2_with (fail)
     go_ret2
     exact ⟨rfl, HB6.out⟩
set_option maxRecDepth 100000 in
set_option maxHeartbeats 1000000 in
theorem ref_number (n : Int) (w : World) :
  Calls Tryz.prog 80 #[.int .i64 n] w fun e w' => e = .returned (.tuple #[.string (numS n), .bool (okN n)]) ∧ Below w.heap.size w w' := by
 by_cases hn : n < 0
 ·have ho : okN n = false := decide_eq_false (by omega)
  have hs : numS n = ⟨#[]⟩ := by unfold numS; rw [if_neg (by rw [ho]; decide)]
  rw [ho, hs]
  clear ho hs
  go_enter Tryz.func80, Tryz.ntmps80
  go_wp2_with (fail)
  go_ret2
  exact ⟨rfl, Below.refl _ _⟩
 ·by_cases hm : 4294967295 < n
  ·have ho : okN n = false := decide_eq_false (by omega)
   have hs : numS n = ⟨#[]⟩ := by unfold numS; rw [if_neg (by rw [ho]; decide)]
   rw [ho, hs]
   clear ho hs
   go_enter Tryz.func80, Tryz.ntmps80
   go_wp2_with (fail)
   go_ret2
   exact ⟨rfl, Below.refl _ _⟩
  ·have ho : okN n = true := decide_eq_true (by omega)
   have hs : numS n = strOfNums (encN 4 n) := by unfold numS; rw [if_pos ho]
   rw [ho, hs]
   have h0 : 0 ≤ n := by omega
   have h1 : n ≤ 4294967295 := by omega
   have HV := Lib.hid (vi_start h0 h1)
   have hdn : decide (n < 0) = false := decide_eq_false hn
   clear ho hs hn
   go_enter Tryz.func80, Tryz.ntmps80
   go_wp2_with (fail)
   go_loopg [0, 4] 5 (fun j m v wr => ∃ (x : Int) (acc : List Int), m = .int .i64 x ∧ acc.length + j = 5 ∧ Hid (VI n x acc ∧ Kd.R (Kd.int .u8) 5 wr w.heap.size (fun _ => True) v acc ∧ Below w.heap.size w wr))
   case atStart => exact ⟨n, [], rfl, rfl, HV.out, Kd.R_nil _ _ _ _ _, Below.refl _ _⟩
   case round =>
    obtain ⟨x, acc, rfl, hj, HI⟩ := hrel
    obtain ⟨hv, hr, hb⟩ := HI.out
    obtain ⟨l4, x0⟩ := vi_len hv
    have xm := vi_most hv
    have HR := Lib.hid hr
    have HB := Lib.hid hb
    have HL := Lib.hid l4
    have HJ := Lib.hid hj
    by_cases hx : 128 ≤ x
    ·have HV2 := Lib.hid (vi_on' hv hx)
     have hby : (128 + x % 128) % 256 = 128 + x % 128 := by omega
     clear hv hr hb HI HV hj l4
     go_wp2_with (((with_reducible refine gate_builtin (b := .append) (xs := #[.tmp 15, .tmp 20]) rfl ?_); at_builtin; apply stopper))
     unfold Stopper
     refine Kd.R_append (Kd.int .u8) (w0 := w) w.heap.size rfl (.tmp 15) (.tmp 20) 49 5 (.int .u8 0) 1 rfl Tryz.underlying49 infoU8 rfl (by decide) (by omega) u4 acc (128 + x % 128) [.int .u8 (128 + x % 128)] (fun _ => True) (fun _ => False) rfl rfl ?aP (fun _ hk => hk.elim) ?aF ?aO ?aB ?aS ?aL ?_
     case aP => exact rfl
     case aF => exact (fun _ _ => trivial)
     case aO => exact HR.out
     case aB => exact HB.out
     case aS => exact HB.out.size
     case aL => have := HL.out; omega
     intro p1 w6 ho hb6 hg hat
     have HO := Lib.hid ho
     have HB6 := Lib.hid hb6
     clear ho hb6 hg hat hby
     go_wp2_with (fail)
     go_roundg (5 - (acc.length + 1))
     case measure => have := HJ.out; have := HL.out; omega
     case rel => exact ⟨x / 128, acc ++ [128 + x % 128], rfl, by rw [List.length_append]; have := HL.out; simp; omega, HV2.out, HO.out, HB6.out⟩
    ·have hx2 : x < 128 := by omega
     obtain ⟨he, _⟩ := vi_end hv hx2
     have HE := Lib.hid he
     have hby : x % 256 = x := by omega
     clear hv hr hb HI HV hj l4 he
     go_wp2_with (((with_reducible refine gate_builtin (b := .append) (xs := #[.tmp 22, .tmp 25]) rfl ?_); at_builtin; apply stopper))
     unfold Stopper
     refine Kd.R_append (Kd.int .u8) (w0 := w) w.heap.size rfl (.tmp 22) (.tmp 25) 49 5 (.int .u8 0) 1 rfl Tryz.underlying49 infoU8 rfl (by decide) (by omega) u4 acc x [.int .u8 x] (fun _ => True) (fun _ => False) rfl rfl ?aP (fun _ hk => hk.elim) ?aF ?aO ?aB ?aS ?aL ?_
     case aP => exact rfl
     case aF => exact (fun _ _ => trivial)
     case aO => exact HR.out
     case aB => exact HB.out
     case aS => exact HB.out.size
     case aL => have := HL.out; omega
     intro p1 w6 ho hb6 hg hat
     rw [HE.out] at ho
     have hcv := own_string (P := Tryz.prog) Tryz.underlying49 Tryz.underlying5 Tryz.underlying9 (Kd.own_of_R ho)
     have HB6 := Lib.hid hb6
     clear ho hb6 hg hat hby
     go_wp2_with (fail)
     go_ret2
     exact ⟨rfl, HB6.out⟩
theorem bytes_len (s : ByteArray) : (bytesOf s).length = s.size := by unfold bytesOf; rw [List.length_map]; exact Array.length_toList
theorem vlen_size (n : Int) : ((numS n).size : Int) = if 0 ≤ n ∧ n ≤ 4294967295 then ((encN 4 n).length : Int) else 0 := by
 unfold numS okN
 by_cases h : 0 ≤ n ∧ n ≤ 4294967295
 ·rw [if_pos (decide_eq_true h), if_pos h, strOfNums_size]
 ·rw [if_neg (by rw [decide_eq_false h]; decide), if_neg h]; rfl
theorem len_any (n : Int) (w : World) : Calls Tryz.prog 124 #[.int .i64 n] w fun e w' => e = .returned (.int .i64 ((numS n).size : Nat)) ∧ Below w.heap.size w w' := by
 go_enter Tryz.func124, Tryz.ntmps124
 go_wp2_with (fail)
 refine (put_any n _).mono ?_
 rintro e w1 ⟨rfl, hb⟩
 have HB := Lib.hid hb
 clear hb
 go_wp2_with (fail)
 go_ret
 exact ⟨rfl, HB.out⟩
end Go.Proofs.YtfbbcfhdjhiejaaGreat.Vari
