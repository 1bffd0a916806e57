/- Of the parts Code, ReadPure, Read, LensA, LensB: what the rows use. -/
import Derived.Test.YtfbbcfhdjhiejaaGreatZa1
import Derived.Test.YtfbbcfhdjhiejaaGreatZa4
import Derived.Test.YtfbbcfhdjhiejaaGreatZa11
import Derived.Shelf.Spec.SlicesGrow
/- Chapter 19: whether lengths may be; their codes. -/
namespace Go.Proofs.YtfbbcfhdjhiejaaGreat.Code
set_option linter.unusedVariables false
set_option linter.unusedSimpArgs false
open Go.RowKit Go.Proofs.YtfbbcfhdjhiejaaGreatW.PrintWords Go.Proofs.YtfbbcfhdjhiejaaGreatW.PrintMore Go.Proofs.YtfbbcfhdjhiejaaGreat.L Go.Proofs.YtfbbcfhdjhiejaaGreat.Ints
/-! ### searches -/
theorem any_snoc {p : Int → Bool} (l : List Int) (k : Nat) (h : k < l.length) : (l.take (k + 1)).any p = ((l.take k).any p || p (l.getD k 0)) := by
 rw [take_succ_getD l k h, List.any_append]
 simp
theorem any_of_at {p : Int → Bool} {l : List Int} {k : Nat} (h : k < l.length) (hp : p (l.getD k 0) = true) : l.any p = true := by
 rw [List.any_eq_true]
 refine ⟨l.getD k 0, ?_, hp⟩
 rw [List.getD_eq_getElem?_getD, List.getElem?_eq_getElem h]
 exact List.getElem_mem h
theorem index_ints (A : Option Addr) (n c : Nat) (xs : List Int) (t : Int) (w : World) (h : KI.C w A n xs) :
  Calls Tryz.prog 177 #[.slice A n c, .int .i64 t] w fun e w' => ∃ r : Int, e = .returned (.int .i64 r) ∧ decide (0 ≤ r) = xs.any (fun x => decide (x = t)) ∧ w' = w := by
 have H := Lib.hid h
 have hmx := Kd.C_max h
 have hnl := ki_len h
 clear h
 subst hnl
 go_enter Tryz.func177, Tryz.ntmps177
 go_wp2_with (fail)
 go_loopg [8] xs.length (fun j i wr => ∃ k : Nat, k + j = xs.length ∧ i = .int .i64 k ∧ Hid ((xs.take k).any (fun x => decide (x = t)) = false) ∧ wr = w)
 case atStart => exact ⟨0, by omega, rfl, rfl, rfl⟩
 case round =>
  obtain ⟨k, hk, rfl, HI, rfl⟩ := hrel
  by_cases hlt : k < xs.length
  ·obtain ⟨ad, rfl, x0⟩ := ints_at H.out k hlt
   have hsn := any_snoc (p := fun x => decide (x = t)) xs k hlt
   have hat := fun hp => any_of_at (p := fun x => decide (x = t)) hlt hp
   obtain ⟨x, hx⟩ : ∃ x, xs.getD k 0 = x := ⟨_, rfl⟩
   rw [hx] at x0 hsn hat
   rw [HI.out, Bool.false_or] at hsn
   have i0 : (0 : Int) ≤ k := by omega
   have i1 : (k : Int) < (xs.length : Int) := by omega
   have i2 : ((k : Int)).toNat = k := by omega
   have HS := Lib.hid hsn
   have HA := Lib.hid hat
   clear hsn hat hx
   by_cases he : t = x
   ·subst he
    have hb : (t == t) = true := by simp
    go_wp2_with (fail)
    go_ret
    exact ⟨_, rfl, by rw [HA.out (by simp)]; exact decide_eq_true i0, rfl⟩
   ·have hb : (t == x) = false := by simpa using he
    have HE := Lib.hid he
    clear he
    go_wp2_with (fail)
    go_roundg (xs.length - (k + 1))
    case measure => omega
    case rel => exact ⟨k + 1, by omega, by go_num, by rw [HS.out]; exact decide_eq_false (fun e => HE.out e.symm), rfl⟩
  ·obtain rfl : k = xs.length := by omega
   go_wp2_with (fail)
   go_ret
   have h1 := HI.out
   rw [List.take_length] at h1
   exact ⟨_, rfl, by rw [h1]; rfl, rfl⟩
theorem contains_ints (A : Option Addr) (n c : Nat) (xs : List Int) (t : Int) (w : World) (h : KI.C w A n xs) :
  Calls Tryz.prog 162 #[.slice A n c, .int .i64 t] w fun e w' => e = .returned (.bool (xs.any (fun x => decide (x = t)))) ∧ w' = w := by
 have H := Lib.hid h
 clear h
 go_enter Tryz.func162, Tryz.ntmps162
 go_wp2_with (fail)
 refine (index_ints _ _ _ _ _ _ H.out).mono ?_
 rintro e w1 ⟨r, rfl, hr, rfl⟩
 have HR := Lib.hid hr
 clear hr
 go_wp2_with (fail)
 go_ret
 exact ⟨by rw [← HR.out]; rfl, rfl⟩
def offB (x : Int) : Bool := decide (x < 0) || decide (15 < x)
theorem off_any (x : Int) (w : World) : Calls Tryz.prog 159 #[.int .i64 x] w fun e w' => e = .returned (.bool (offB x)) ∧ w' = w := by
 by_cases h0 : x < 0
 ·have hr := Lib.hid (show offB x = true by unfold offB; rw [decide_eq_true h0]; rfl)
  go_enter Tryz.func159, Tryz.ntmps159
  go_wp2_with (fail)
  go_ret
  rw [hr.out]
  exact ⟨rfl, rfl⟩
 ·have h00 : 0 ≤ x := by omega
  clear h0
  go_enter Tryz.func159, Tryz.ntmps159
  go_wp2_with (fail)
  go_ret
  exact ⟨rfl, rfl⟩
theorem wrong_eq (l : List Int) : wrong l = l.any offB := rfl
theorem indexf (A : Option Addr) (n c : Nat) (xs : List Int) (w : World) (h : KI.C w A n xs) :
  Calls Tryz.prog 173 #[.slice A n c, .func (.func 159) #[] #[]] w fun e w' => ∃ r : Int, e = .returned (.int .i64 r) ∧ decide (0 ≤ r) = wrong xs ∧ w' = w := by
 have H := Lib.hid h
 have hmx := Kd.C_max h
 have hnl := ki_len h
 clear h
 subst hnl
 go_enter Tryz.func173, Tryz.ntmps173
 go_wp2_with (fail)
 go_loopg [8] xs.length (fun j i wr => ∃ k : Nat, k + j = xs.length ∧ i = .int .i64 k ∧ Hid ((xs.take k).any offB = false) ∧ wr = w)
 case atStart => exact ⟨0, by omega, rfl, rfl, rfl⟩
 case round =>
  obtain ⟨k, hk, rfl, HI, rfl⟩ := hrel
  by_cases hlt : k < xs.length
  ·obtain ⟨ad, rfl, x0⟩ := ints_at H.out k hlt
   have hsn := any_snoc (p := offB) xs k hlt
   have hat := fun hp => any_of_at (p := offB) hlt hp
   obtain ⟨x, hx⟩ : ∃ x, xs.getD k 0 = x := ⟨_, rfl⟩
   rw [hx] at x0 hsn hat
   rw [HI.out, Bool.false_or] at hsn
   have i0 : (0 : Int) ≤ k := by omega
   have i1 : (k : Int) < (xs.length : Int) := by omega
   have i2 : ((k : Int)).toNat = k := by omega
   have HS := Lib.hid hsn
   have HA := Lib.hid hat
   clear hsn hat hx
   cases ho : offB x
   ·have HO := Lib.hid ho
    clear ho
    go_wp2_with (go_at_call 159; refine (off_any x _).mono ?_; rintro e w1 ⟨rfl, rfl⟩; rw [HO.out])
    go_roundg (xs.length - (k + 1))
    case measure => omega
    case rel => exact ⟨k + 1, by omega, by go_num, by rw [HS.out]; exact HO.out, rfl⟩
   ·have HO := Lib.hid ho
    clear ho
    go_wp2_with (go_at_call 159; refine (off_any x _).mono ?_; rintro e w1 ⟨rfl, rfl⟩; rw [HO.out])
    go_ret
    exact ⟨_, rfl, by rw [wrong_eq, HA.out HO.out]; exact decide_eq_true i0, rfl⟩
  ·obtain rfl : k = xs.length := by omega
   go_wp2_with (fail)
   go_ret
   have h1 := HI.out
   rw [List.take_length] at h1
   exact ⟨_, rfl, by rw [wrong_eq, h1]; rfl, rfl⟩
theorem containsf (A : Option Addr) (n c : Nat) (xs : List Int) (w : World) (h : KI.C w A n xs) :
  Calls Tryz.prog 154 #[.slice A n c, .func (.func 159) #[] #[]] w fun e w' => e = .returned (.bool (wrong xs)) ∧ w' = w := by
 have H := Lib.hid h
 clear h
 go_enter Tryz.func154, Tryz.ntmps154
 go_wp2_with (fail)
 refine (indexf _ _ _ _ _ H.out).mono ?_
 rintro e w1 ⟨r, rfl, hr, rfl⟩
 have HR := Lib.hid hr
 clear hr
 go_wp2_with (fail)
 go_ret
 exact ⟨by rw [← HR.out]; rfl, rfl⟩
/-! ### Kraft and Used -/
theorem used_take_succ (l : List Int) (k : Nat) (h : k < l.length) : used (l.take (k + 1)) = used (l.take k) + if 0 < l.getD k 0 then 1 else 0 := by
 rw [take_succ_getD l k h]
 unfold used
 rw [List.countP_append, List.countP_cons, List.countP_nil, Nat.zero_add]
 by_cases hp : 0 < l.getD k 0 <;> simp [hp]
theorem used_le (l : List Int) : used l ≤ l.length := List.countP_le_length
theorem used_any (A : Option Addr) (n c : Nat) (h : List Int) (w : World) (hh : KI.C w A n h) :
  Calls Tryz.prog 161 #[.slice A n c] w fun e w' => e = .returned (.int .i64 (used h : Nat)) ∧ w' = w := by
 have H := Lib.hid hh
 have hmx := Kd.C_max hh
 have hnl := ki_len hh
 clear hh
 subst hnl
 go_enter Tryz.func161, Tryz.ntmps161
 go_wp2_with (fail)
 go_loopg [3, 8] h.length (fun j s i wr => ∃ k : Nat, k + j = h.length ∧ i = .int .i64 k ∧ s = .int .i64 (used (h.take k) : Nat) ∧ wr = w)
 case atStart => exact ⟨0, by omega, rfl, rfl, rfl⟩
 case round =>
  obtain ⟨k, hk, rfl, rfl, rfl⟩ := hrel
  by_cases hlt : k < h.length
  ·obtain ⟨ad, rfl, x0⟩ := ints_at H.out k hlt
   have hn := used_take_succ h k hlt
   obtain ⟨x, hx⟩ : ∃ x, h.getD k 0 = x := ⟨_, rfl⟩
   rw [hx] at x0 hn
   have h1 := used_le (h.take k)
   have h3 := List.length_take_le k h
   obtain ⟨S, hS⟩ : ∃ S, used (h.take k) = S := ⟨_, rfl⟩
   rw [hS] at hn h1 ⊢
   have hs2 : (S : Int) ≤ 9223372036854775806 := by omega
   have i0 : (0 : Int) ≤ k := by omega
   have i1 : (k : Int) < (h.length : Int) := by omega
   have i2 : ((k : Int)).toNat = k := by omega
   have HN := Lib.hid hn
   clear hn h1 h3 hx hS
   by_cases hp : 0 < x
   ·have HP := Lib.hid hp
    go_wp2_with (fail)
    go_roundg (h.length - (k + 1))
    case measure => omega
    case rel => exact ⟨k + 1, by omega, by go_num, by rw [HN.out, if_pos HP.out]; go_num, rfl⟩
   ·have HP := Lib.hid hp
    have hp2 : x ≤ 0 := by omega
    clear hp
    go_wp2_with (fail)
    go_roundg (h.length - (k + 1))
    case measure => omega
    case rel => exact ⟨k + 1, by omega, by go_num, by rw [HN.out, if_neg (by have := HP.out; omega)]; rfl, rfl⟩
  ·obtain rfl : k = h.length := by omega
   go_wp2_with (fail)
   go_ret
   rw [List.take_length]
   exact ⟨rfl, rfl⟩
theorem pow_term (x : Int) (h1 : 1 ≤ x) (h15 : x ≤ 15) : wrap64 (2 ^ (15 - x).toNat) = ((term x : Nat) : Int) := by
 unfold term
 rw [if_pos ⟨h1, h15⟩, show (15 - x).toNat = 15 - x.toNat by omega]
 have h2 : (2 : Nat) ^ (15 - x.toNat) ≤ 2 ^ 14 := Nat.pow_le_pow_right (by decide) (by omega)
 have h3 : ((2 ^ (15 - x.toNat) : Nat) : Int) = 2 ^ (15 - x.toNat) := by simp
 rw [h3]
 have h4 : ((2 : Int) ^ (15 - x.toNat)) ≤ 16384 := by rw [← h3]; omega
 have h5 : (0 : Int) ≤ (2 : Int) ^ (15 - x.toNat) := by rw [← h3]; exact Int.natCast_nonneg _
 unfold wrap64
 omega
set_option maxHeartbeats 1000000 in
theorem kraft_any (A : Option Addr) (n c : Nat) (l : List Int) (w : World) (hh : KI.C w A n l) (h8 : n * 8 ≤ 140737488351232) :
  Calls Tryz.prog 160 #[.slice A n c] w fun e w' => e = .returned (.int .i64 (kraft l : Nat)) ∧ w' = w := by
 have H := Lib.hid hh
 have hnl := ki_len hh
 clear hh
 subst hnl
 go_enter Tryz.func160, Tryz.ntmps160
 go_wp2_with (fail)
 go_loopg [3, 8] l.length (fun j s i wr => ∃ k : Nat, k + j = l.length ∧ i = .int .i64 k ∧ s = .int .i64 (kraft (l.take k) : Nat) ∧ wr = w)
 case atStart => exact ⟨0, by omega, rfl, rfl, rfl⟩
 case round =>
  obtain ⟨k, hk, rfl, rfl, rfl⟩ := hrel
  by_cases hlt : k < l.length
  ·obtain ⟨ad, rfl, x0⟩ := ints_at H.out k hlt
   have hn := kraft_take_succ l k hlt
   obtain ⟨x, hx⟩ : ∃ x, l.getD k 0 = x := ⟨_, rfl⟩
   rw [hx] at x0 hn
   have h1 := kraft_le (l.take k)
   have h3 := List.length_take_le k l
   obtain ⟨S, hS⟩ : ∃ S, kraft (l.take k) = S := ⟨_, rfl⟩
   rw [hS] at hn h1 ⊢
   have hs2 : (S : Int) ≤ 288230376151711744 := by omega
   have i0 : (0 : Int) ≤ k := by omega
   have i1 : (k : Int) < (l.length : Int) := by omega
   have i2 : ((k : Int)).toNat = k := by omega
   have HN := Lib.hid hn
   clear hn h1 h3 hx hS
   by_cases hp : 1 ≤ x ∧ x ≤ 15
   ·obtain ⟨p1, p2⟩ := hp
    have hw := pow_term x p1 p2
    obtain ⟨T, hT⟩ : ∃ T, term x = T := ⟨_, rfl⟩
    have ht := term_le x
    rw [hT] at hw ht HN
    have ht2 : (T : Int) ≤ 16384 := by omega
    have ht3 : (0 : Int) ≤ (T : Int) := by omega
    have hg : (0 : Int) ≤ 15 - x := by omega
    clear hT
    go_wp2_with (fail)
    go_roundg (l.length - (k + 1))
    case measure => omega
    case rel => exact ⟨k + 1, by omega, by go_num, by rw [HN.out]; go_num, rfl⟩
   ·have HT := Lib.hid (show term x = 0 by unfold term; rw [if_neg hp])
    by_cases p1 : x < 1
    ·clear hp
     go_wp2_with (fail)
     go_roundg (l.length - (k + 1))
     case measure => omega
     case rel => exact ⟨k + 1, by omega, by go_num, by rw [HN.out, HT.out]; rfl, rfl⟩
    ·have p2 : 15 < x := by omega
     have p3 : 1 ≤ x := by omega
     clear hp p1
     go_wp2_with (fail)
     go_roundg (l.length - (k + 1))
     case measure => omega
     case rel => exact ⟨k + 1, by omega, by go_num, by rw [HN.out, HT.out]; rfl, rfl⟩
  ·obtain rfl : k = l.length := by omega
   go_wp2_with (fail)
   go_ret
   rw [List.take_length]
   exact ⟨rfl, rfl⟩
/-! ### Right -/
set_option maxRecDepth 100000 in
set_option maxHeartbeats 1000000 in
theorem right_any (A : Option Addr) (n c : Nat) (l : List Int) (w : World) (hh : KI.C w A n l) (h8 : n * 8 ≤ 140737488351232) :
  Calls Tryz.prog 137 #[.slice A n c] w fun e w' => e = .returned (.int .i64 (right l)) ∧ w' = w := by
 have H := Lib.hid hh
 clear hh
 obtain ⟨K, hK⟩ : ∃ K, kraft l = K := ⟨_, rfl⟩
 obtain ⟨U, hU⟩ : ∃ U, used l = U := ⟨_, rfl⟩
 obtain ⟨W, hW⟩ : ∃ W, wrong l = W := ⟨_, rfl⟩
 obtain ⟨C, hC⟩ : ∃ C, l.any (fun x => decide (x = 1)) = C := ⟨_, rfl⟩
 have hr : right l = if W = true then 1 else if K = 32768 ∨ (decide (U = 1) && C) = true then 0 else 8 := by
  unfold right alone
  rw [hK, hU, hW, hC]
 have HR := Lib.hid hr
 have HK := Lib.hid hK
 have HU := Lib.hid hU
 have HW := Lib.hid hW
 have HC := Lib.hid hC
 clear hK hU hW hC hr
 go_enter Tryz.func137, Tryz.ntmps137
 go_wp2_with (fail)
 refine (containsf _ _ _ l _ H.out).mono ?_
 rintro e w1 ⟨rfl, rfl⟩
 rw [HW.out]
 go_wp2_with (fail)
 refine (kraft_any _ _ _ l _ H.out h8).mono ?_
 rintro e w1 ⟨rfl, rfl⟩
 rw [HK.out]
 go_wp2_with (fail)
 refine (used_any _ _ _ l _ H.out).mono ?_
 rintro e w1 ⟨rfl, rfl⟩
 rw [HU.out]
 by_cases hu : U = 1
 ·subst hu
  go_wp2_with (fail)
  refine (contains_ints _ _ _ l 1 _ H.out).mono ?_
  rintro e w1 ⟨rfl, rfl⟩
  rw [HC.out]
  by_cases hk : K = 32768
  ·subst hk
   cases W <;> cases C <;> (go_wp2_with (fail)) <;> go_ret <;> (rw [HR.out]; exact ⟨rfl, rfl⟩)
  ·have hk2 : ((K : Int) == 32768) = false := by simpa using (show ¬ (K : Int) = 32768 by omega)
   have hk3 := Lib.hid hk
   clear hk
   cases W <;> cases C <;> (go_wp2_with (fail)) <;> go_ret <;> (rw [HR.out]; first | exact ⟨rfl, rfl⟩ | (rw [if_neg (by decide), if_neg (by simp [hk3.out])]; exact ⟨rfl, rfl⟩) | (rw [if_neg (by decide), if_pos (by simp)]; exact ⟨rfl, rfl⟩))
 ·have hu2 : ((U : Int) == 1) = false := by simpa using (show ¬ (U : Int) = 1 by omega)
  have hu3 := Lib.hid (show decide (U = 1) = false from decide_eq_false hu)
  clear hu
  by_cases hk : K = 32768
  ·subst hk
   cases W <;> (go_wp2_with (fail)) <;> go_ret <;> (rw [HR.out]; exact ⟨rfl, rfl⟩)
  ·have hk2 : ((K : Int) == 32768) = false := by simpa using (show ¬ (K : Int) = 32768 by omega)
   have hk3 := Lib.hid hk
   clear hk
   cases W <;> (go_wp2_with (fail)) <;> go_ret <;> (rw [HR.out]; first | exact ⟨rfl, rfl⟩ | (rw [if_neg (by decide), if_neg (by simp [hk3.out, hu3.out])]; exact ⟨rfl, rfl⟩))
/-! ### Of -/
def Filled (l : List Int) (n s : Nat) (o : List Int) : Prop := o.length = l.length ∧ ∀ j, j < l.length → o.getD j 0 = if 1 ≤ l.getD j 0 ∧ (l.getD j 0 < (n : Int) ∨ (l.getD j 0 = (n : Int) ∧ j < s)) then ((codeAt l j : Nat) : Int) else 0
theorem filled_start (l : List Int) : Filled l 1 0 (List.replicate l.length 0) := by
 refine ⟨List.length_replicate, fun j hj => ?_⟩
 rw [if_neg (by omega), List.getD_eq_getElem?_getD, List.getElem?_replicate, if_pos hj]
 rfl
theorem filled_skip {l : List Int} {n s : Nat} {o : List Int} (h : Filled l n s o) (hs : l.getD s 0 ≠ (n : Int)) : Filled l n (s + 1) o := by
 refine ⟨h.1, fun j hj => ?_⟩
 rw [h.2 j hj]
 by_cases hjs : j = s
 ·subst hjs
  by_cases h1 : 1 ≤ l.getD j 0 ∧ (l.getD j 0 < (n : Int) ∨ (l.getD j 0 = (n : Int) ∧ j < j))
  ·rw [if_pos h1, if_pos (by omega)]
  ·rw [if_neg h1, if_neg (by omega)]
 ·by_cases h1 : 1 ≤ l.getD j 0 ∧ (l.getD j 0 < (n : Int) ∨ (l.getD j 0 = (n : Int) ∧ j < s))
  ·rw [if_pos h1, if_pos (by omega)]
  ·rw [if_neg h1, if_neg (by omega)]
theorem filled_set {l : List Int} {m s : Nat} {o : List Int} (h : Filled l (m + 1) s o) (hsl : s < l.length) (hs : l.getD s 0 = ((m + 1 : Nat) : Int)) (hm : m + 1 ≤ 15) : Filled l (m + 1) (s + 1) (o.set s (((2 * nx l m + cnt (l.take s) (m + 1) : Nat)) : Int)) := by
 refine ⟨by rw [List.length_set]; exact h.1, fun j hj => ?_⟩
 by_cases hjs : j = s
 ·subst hjs
  rw [List.getD_eq_getElem?_getD, List.getElem?_set_self (by rw [h.1]; exact hj), if_pos (by omega), codeAt_some l j m hs hm]
  rfl
 ·rw [List.getD_eq_getElem?_getD, List.getElem?_set_ne (Ne.symm hjs), ← List.getD_eq_getElem?_getD, h.2 j hj]
  by_cases h1 : 1 ≤ l.getD j 0 ∧ (l.getD j 0 < ((m + 1 : Nat) : Int) ∨ (l.getD j 0 = ((m + 1 : Nat) : Int) ∧ j < s))
  ·rw [if_pos h1, if_pos (by omega)]
  ·rw [if_neg h1, if_neg (by omega)]
theorem filled_next {l : List Int} {n : Nat} {o : List Int} (h : Filled l n l.length o) : Filled l (n + 1) 0 o := by
 refine ⟨h.1, fun j hj => ?_⟩
 rw [h.2 j hj]
 by_cases h1 : 1 ≤ l.getD j 0 ∧ (l.getD j 0 < (n : Int) ∨ (l.getD j 0 = (n : Int) ∧ j < l.length))
 ·rw [if_pos h1, if_pos (by omega)]
 ·rw [if_neg h1, if_neg (by omega)]
theorem filled_end {l : List Int} {o : List Int} (h : Filled l 16 0 o) (hr : ∀ x ∈ l, 0 ≤ x ∧ x ≤ 15) : o = codes l := by
 apply List.ext_getElem
 ·rw [h.1, codes_length]
 ·intro j h1 h2
  have hj : j < l.length := by rw [← h.1]; exact h1
  have e1 : o[j] = o.getD j 0 := by rw [List.getD_eq_getElem?_getD, List.getElem?_eq_getElem h1]; rfl
  have e2 : (codes l)[j] = (codes l).getD j 0 := by rw [List.getD_eq_getElem?_getD, List.getElem?_eq_getElem h2]; rfl
  rw [e1, e2, h.2 j hj, codes_getD l j hj]
  have hx : l.getD j 0 ∈ l := by
   rw [List.getD_eq_getElem?_getD, List.getElem?_eq_getElem hj]
   exact List.getElem_mem hj
  have := hr _ hx
  by_cases h0 : 1 ≤ l.getD j 0
  ·rw [if_pos (by omega)]
  ·rw [if_neg (by omega), codeAt_none l j (by omega)]
   rfl
set_option maxRecDepth 100000 in
set_option maxHeartbeats 4000000 in
theorem of_ok (A : Option Addr) (c : Nat) (l : List Int) (w : World) (hh : KI.C w A l.length l) (hl : l.length ≤ 100000) (hr : right l = 0) :
  Calls Tryz.prog 109 #[.slice A l.length c] w fun e w' => ∃ v, e = .returned (.tuple #[v, .int .i64 0]) ∧ KI.R 3 w' w.heap.size (fun _ => True) v (codes l) ∧ Below w.heap.size w w' := by
 have H := Lib.hid hh
 have HR := Lib.hid hr
 have HK := Lib.hid (right_kraft hr)
 have HRG := Lib.hid (right_range hr)
 clear hh hr
 go_enter Tryz.func109, Tryz.ntmps109
 go_wp2_with (fail)
 refine (right_any _ _ _ l _ H.out (by omega)).mono ?_
 rintro e w1 ⟨rfl, rfl⟩
 rw [HR.out]
 go_wp2_with ((with_reducible refine gate_dst (N := 16) rfl ?_); apply stopper)
 unfold Stopper
 refine Kd.R_make KI (w0 := w1) w1.heap.size 3 rfl (N := 16) rfl 26 _ _ rfl (l.length : Int) rfl rfl Tryz.underlying26 (.int .i64 0) 8 infoInt rfl (by decide) (by omega) 0 (ok := fun _ => True) (okp := fun _ => True) ?mM (fun _ hk => hk) trivial (by omega) ?mL (Below.refl _ _) (Nat.le_refl _) ?_
 case mM => exact rfl
 case mL => omega
 intro v1 w2 hr hb hg hat
 rw [Int.toNat_natCast] at hr
 obtain ⟨A1, c1, rfl⟩ := Kd.R_slice hr
 rw [List.length_replicate] at hr ⊢
 have HR1 := Lib.hid hr
 have HB1 := Lib.hid hb
 clear hr hb hg hat
 go_wp2_with (fail)
 go_loopg [6, 7] 15 (fun j nxt n wr => ∃ m : Nat, m + j = 15 ∧ n = .int .i64 ((m : Int) + 1) ∧ nxt = .int .i64 (nx l m : Nat) ∧ Hid ((∃ o, Filled l (m + 1) 0 o ∧ KI.R 3 wr w1.heap.size (fun _ => True) (.slice A1 l.length c1) o) ∧ Below w1.heap.size w1 wr))
 case atStart => exact ⟨0, by omega, rfl, rfl, ⟨_, filled_start l, HR1.out⟩, HB1.out⟩
 case round =>
  obtain ⟨wo, rfl⟩ : ∃ wo : World, wo = wr := ⟨_, rfl⟩
  obtain ⟨m, hm, rfl, rfl, HI⟩ := hrel
  by_cases hlt : m < 15
  ·obtain ⟨⟨o, hf, hr⟩, hb⟩ := HI.out
   have hnb := nx_bound l HK.out m (by omega)
   have hpw : 2 ^ m ≤ 2 ^ 14 := Nat.pow_le_pow_right (by decide) (by omega)
   obtain ⟨X, hX⟩ : ∃ X, nx l m = X := ⟨_, rfl⟩
   rw [hX] at hnb ⊢
   have hx1 : (X : Int) ≤ 16384 := by omega
   have hx0 : (0 : Int) ≤ (X : Int) := by omega
   have hlti : (m : Int) + 1 ≤ 15 := by omega
   have HF := Lib.hid hf
   have HR2 := Lib.hid hr
   have HB2 := Lib.hid hb
   have HX := Lib.hid hX
   have HM := Lib.hid hm
   clear hf hr hb HI hnb hpw hX hm
   go_wp2_with (fail)
   go_loopg [6, 25] l.length (fun j nxt i wr => ∃ s : Nat, s + j = l.length ∧ i = .int .i64 s ∧ nxt = .int .i64 ((X : Int) * 2 + (cnt (l.take s) (m + 1) : Nat)) ∧ Hid ((∃ o, Filled l (m + 1) s o ∧ KI.R 3 wr w1.heap.size (fun _ => True) (.slice A1 l.length c1) o) ∧ Below w1.heap.size w1 wr))
   case atStart => exact ⟨0, by omega, rfl, by rw [List.take_zero, cnt_nil]; go_num, ⟨o, HF.out, HR2.out⟩, HB2.out⟩
   case round =>
    obtain ⟨s, hs, rfl, rfl, HJ⟩ := hrel
    obtain ⟨⟨o, hf, hr⟩, hb⟩ := HJ.out
    by_cases hst : s < l.length
    ·obtain ⟨ad, rfl, x0⟩ := ints_at (Kd.C_below H.out hb) s hst
     have hcs := cnt_take_succ l s (m + 1) hst
     have hcl := cnt_le_length (l.take s) (m + 1)
     have hcl2 := List.length_take_le s l
     obtain ⟨x, hx⟩ : ∃ x, l.getD s 0 = x := ⟨_, rfl⟩
     rw [hx] at x0 hcs
     have i0 : (0 : Int) ≤ s := by omega
     have i1 : (s : Int) < (l.length : Int) := by omega
     have i2 : ((s : Int)).toNat = s := by omega
     have HB3 := Lib.hid hb
     by_cases he : x = (m : Int) + 1
     ·subst he
      rw [if_pos (by omega)] at hcs
      have hfs := filled_set hf hst (by rw [hx]; omega) (by omega)
      have hol := hf.1
      obtain ⟨g, cap, hv, hge, hgl, cells, hcell⟩ := Kd.R_form hr (by rw [hol]; omega)
      rw [hol] at hv
      injection hv with hv1 hv2 hv3
      subst hv1 hv3
      have hr' := hr
      rw [← hol] at hr'
      obtain ⟨y0, y1⟩ := Kd.R_cell (enc := Value.int .i64) (h1 := fun _ => rfl) (0 : Int) hr' (s : Int) i0 (by rw [hol]; exact i1)
      obtain ⟨p0, p1⟩ := Kd.R_put (enc := Value.int .i64) (h1 := fun _ => rfl) hr' (s : Int) ((X : Int) * 2 + (cnt (l.take s) (m + 1) : Nat))
      rw [hol] at p0
      rw [i2] at p0 p1 y0 y1
      have hval : (((2 * nx l m + cnt (l.take s) (m + 1) : Nat)) : Int) = (X : Int) * 2 + (cnt (l.take s) (m + 1) : Nat) := by rw [HX.out]; omega
      rw [hval] at hfs
      obtain ⟨C, hC⟩ : ∃ C, cnt (l.take s) (m + 1) = C := ⟨_, rfl⟩
      rw [hC] at hcs hcl p0 p1 hfs ⊢
      obtain ⟨old, hold⟩ : ∃ old, wr.cell? ⟨g, s, none⟩ = some old := ⟨_, y0⟩
      have hCb : (C : Int) ≤ 100000 := by omega
      have hC0 : (0 : Int) ≤ (C : Int) := by omega
      have e1 : ((m : Int) + 1 == (m : Int) + 1) = true := by simp
      have P0 := Lib.hid p0
      have HFS := Lib.hid hfs
      have HCS := Lib.hid hcs
      have HBW := Lib.hid (hb.grown p1 hb.size (fun k hk => by injection hk with hk; omega))
      have HS := Lib.hid hs
      clear hr hr' hb HJ hf hol y0 p0 p1 hfs hcs hcl hcl2 hx hval hC hcell HB3 hs
      go_wp2_with (fail)
      go_roundg (l.length - (s + 1))
      case measure => have := HS.out; omega
      case rel => exact ⟨s + 1, by have := HS.out; omega, by go_num, by rw [HCS.out]; go_num, ⟨_, HFS.out, P0.out⟩, HBW.out⟩
     ·have hne : (x == (m : Int) + 1) = false := by simpa using he
      rw [if_neg (by omega)] at hcs
      have HFS := Lib.hid (filled_skip hf (by rw [hx]; omega))
      have HR3 := Lib.hid hr
      have HCS := Lib.hid hcs
      have HS := Lib.hid hs
      generalize cnt (l.take s) (m + 1) = C at *
      have hCb : (C : Int) ≤ 100000 := by omega
      have hC0 : (0 : Int) ≤ (C : Int) := by omega
      clear hr hb HJ hf hcs hcl hcl2 hx he hs
      go_wp2_with (fail)
      go_roundg (l.length - (s + 1))
      case measure => have := HS.out; omega
      case rel => exact ⟨s + 1, by have := HS.out; omega, by go_num, by rw [HCS.out]; go_num, ⟨_, HFS.out, HR3.out⟩, HB3.out⟩
    ·obtain rfl : s = l.length := by omega
     have HFS := Lib.hid (filled_next hf)
     have HR3 := Lib.hid hr
     have HB3 := Lib.hid hb
     have hnx : (X : Int) * 2 + ((cnt (l.take l.length) (m + 1) : Nat) : Int) = ((nx l (m + 1) : Nat) : Int) := by
      rw [List.take_length]
      show _ = ((2 * nx l m + cnt l (m + 1) : Nat) : Int)
      rw [HX.out]
      omega
     rw [hnx]
     have hnb := nx_bound l HK.out (m + 1) (by omega)
     clear hr hb HJ hf hnx
     generalize hN : nx l (m + 1) = Nx at *
     have HN := Lib.hid hN
     clear hN hnb
     go_wp2_with (fail)
     go_roundg (15 - (m + 1))
     case measure => have := HM.out; omega
     case rel => exact ⟨m + 1, by have := HM.out; omega, by go_num, by rw [HN.out], ⟨_, HFS.out, HR3.out⟩, HB3.out⟩
  ·obtain rfl : m = 15 := by omega
   obtain ⟨⟨o, hf, hr⟩, hb⟩ := HI.out
   have ho := filled_end hf HRG.out
   rw [ho] at hr
   have HR2 := Lib.hid hr
   have HB2 := Lib.hid hb
   clear hf hr hb HI ho
   generalize nx l 15 = Nx
   go_wp2_with (fail)
   go_ret2
   exact ⟨_, rfl, HR2.out, HB2.out⟩
end Go.Proofs.YtfbbcfhdjhiejaaGreat.Code

/- Chapter 21: what stands in bits that were written by codes, in plain Lean. No program in sight. -/
namespace Go.Proofs.YtfbbcfhdjhiejaaGreat.Read
set_option linter.unusedVariables false
set_option linter.unusedSimpArgs false
open Go.Proofs.YtfbbcfhdjhiejaaGreat.Code Go.Proofs.YtfbbcfhdjhiejaaGreat.BP
/-- The symbols of a length, of the first m. -/
def syms (l : List Int) (n : Nat) : Nat → List Int
 | 0 => []
 | m + 1 => if l.getD m 0 = (n : Int) then syms l n m ++ [(m : Int)] else syms l n m
/-- The symbol whose code of n bits is v. -/
def hit (l : List Int) (n : Nat) (v : Int) : Option Nat := (List.range l.length).find? fun s => decide (l.getD s 0 = (n : Int) ∧ (codeAt l s : Int) = v)
/-- What stands in bits, from n bits on: the symbol, the error, how many bits. -/
def nextR (l bs : List Int) : Nat → Nat → Int × Int × Nat
 | n, 0 => (0, 8, 0)
 | n, f + 1 => if bs.length < n then (0, 2, 0) else match hit l n (valN bs n) with
   | some s => ((s : Int), 0, n)
   | none => nextR l bs (n + 1) f
def most (l : List Int) : Nat := l.foldl (fun m x => max m x.toNat) 0
def next (l bs : List Int) : Int × Int × Nat := nextR l bs 1 (most l)
/-! ### the longest length -/
/-! ### valN of what begins alike -/
end Go.Proofs.YtfbbcfhdjhiejaaGreat.Read

/- Chapter 21: tables: how they lie; the greatest of numbers; how a table is made. -/
namespace Go.Proofs.YtfbbcfhdjhiejaaGreat.Read
set_option linter.unusedVariables false
set_option linter.unusedSimpArgs false
open Go.RowKit Go.Proofs.YtfbbcfhdjhiejaaGreatW.PrintWords Go.Proofs.YtfbbcfhdjhiejaaGreatW.PrintMore Go.Proofs.YtfbbcfhdjhiejaaGreat.L Go.Proofs.YtfbbcfhdjhiejaaGreat.Ints Go.Proofs.YtfbbcfhdjhiejaaGreat.Code
/-! ### the greatest -/
/-! ### how a table lies -/
/-- A table in block b: sixteen lists, sixteen first codes, the longest length, how many. -/
def TB (w : World) (b : Nat) (v : Nat → Value) (f : Nat → Int) (m n : Int) : Prop :=
 ∃ cs : Array Value, w.heap[b]? = some (.cells cs 245 (0, 0)) ∧ cs.size = 34 ∧ (∀ k, k < 16 → cs[k]? = some (v k)) ∧ (∀ k, k < 16 → cs[16 + k]? = some (.int .i64 (f k))) ∧ cs[32]? = some (.int .i64 m) ∧ cs[33]? = some (.int .i64 n)
/-- A row of one's own looks at its own block alone. -/
theorem own_move' {α : Type} {enc : α → Value} {h1 : ∀ x : α, (enc x).oneCell' = true} {e : Nat} {w w1 : World} {base : Nat} {ok : Nat → Prop} {v : Value} {xs : List α} (h : (Kd.scalar enc h1).R e w base ok v xs) (hm : ∀ k, v.ownBlock = some k → w1.heap[k]? = w.heap[k]?) : (Kd.scalar enc h1).R e w1 base ok v xs :=
 Kd.R_of_own (own_move (Kd.own_of_R h) hm) h.1
theorem own_lt {α : Type} {enc : α → Value} {h1 : ∀ x : α, (enc x).oneCell' = true} {e : Nat} {w : World} {base : Nat} {ok : Nat → Prop} {v : Value} {xs : List α} (h : (Kd.scalar enc h1).R e w base ok v xs) (g : Nat) (hg : v.ownBlock = some g) : g < w.heap.size := by
 rcases (Kd.own_of_R h).2 with ⟨rfl, _⟩ | ⟨g', cap, cur, rfl, _, hh, _⟩
 ·simp [Value.ownBlock] at hg
 ·have : g' = g := by simpa [Value.ownBlock] using hg
  subst this
  exact blk_lt hh
/-! ### how a table is made -/
/-- A table that is being made: of the first k lengths. -/
def TI (w : World) (b base : Nat) (l : List Int) (k : Nat) (v : Nat → Value) (f : Nat → Int) : Prop :=
 TB w b v f (most l : Nat) (used l : Nat) ∧ (∀ n, n < 16 → KI.R 3 w base (fun _ => True) (v n) (syms l n k)) ∧
  (∀ n m g, n < 16 → m < 16 → n ≠ m → (v n).ownBlock = some g → (v m).ownBlock ≠ some g)
end Go.Proofs.YtfbbcfhdjhiejaaGreat.Read

/- Chapter 18: coins: single ones, packages. -/
namespace Go.Proofs.YtfbbcfhdjhiejaaGreat.Srt
set_option linter.unusedVariables false
set_option linter.unusedSimpArgs false
open Go.RowKit Go.Proofs.YtfbbcfhdjhiejaaGreatW.PrintWords Go.Proofs.YtfbbcfhdjhiejaaGreatW.PrintMore Go.Proofs.YtfbbcfhdjhiejaaGreat.L Go.Proofs.YtfbbcfhdjhiejaaGreat.Ints Go.Shelf Go.Lib Go.Sort
theorem infoCoin : (Tryz.prog.info? 190).map (fun i => (i.zero, i.size, i.bytes)) = some (some (.agg #[.int .i64 0, .slice none 0 0]), 2, 32) := by kernel_rfl
/-! ### plain -/
abbrev Pc := Int × List Int
def pl (x : Coin) : Pc := (x.1, x.2.1)
def ltP (p q : Pc) : Bool := decide (wrap64 (p.1 - q.1) < 0)
theorem ltC_pl (x y : Coin) : ltC x y = ltP (pl x) (pl y) := rfl
theorem sink_map {α β : Type} (lt : α → α → Bool) (lt' : β → β → Bool) (f : α → β) (h : ∀ x y, lt x y = lt' (f x) (f y)) (x : α) : ∀ l, (sink lt x l).map f = sink lt' (f x) (l.map f)
 | [] => rfl
 | y :: ys => by
   simp only [sink, List.map_cons]
   rw [h x y]
   split
   ·rw [List.map_cons, sink_map lt lt' f h x ys]
   ·simp
theorem stabR_map {α β : Type} (lt : α → α → Bool) (lt' : β → β → Bool) (f : α → β) (h : ∀ x y, lt x y = lt' (f x) (f y)) : ∀ l r, (stabR lt r l).map f = stabR lt' (r.map f) (l.map f)
 | [], r => rfl
 | x :: xs, r => by
   show (stabR lt (sink lt x r) xs).map f = stabR lt' (sink lt' (f x) (r.map f)) (xs.map f)
   rw [stabR_map lt lt' f h xs, sink_map lt lt' f h]
theorem stab_map {α β : Type} (lt : α → α → Bool) (lt' : β → β → Bool) (f : α → β) (h : ∀ x y, lt x y = lt' (f x) (f y)) (l : List α) : (stab lt l).map f = stab lt' (l.map f) := by
 unfold stab
 rw [List.map_reverse, stabR_map lt lt' f h]
 rfl
theorem stab_pl (l : List Coin) : (stab ltC l).map pl = stab ltP (l.map pl) := stab_map ltC ltP pl ltC_pl l
theorem sink_mem {α : Type} (lt : α → α → Bool) (x y : α) : ∀ l, y ∈ sink lt x l → y = x ∨ y ∈ l
 | [], h => by simp [sink] at h; exact .inl h
 | z :: zs, h => by
   unfold sink at h
   split at h
   ·rcases List.mem_cons.1 h with rfl | h
    ·exact .inr (by simp)
    ·rcases sink_mem lt x y zs h with h | h
     ·exact .inl h
     ·exact .inr (by simp [h])
   ·rcases List.mem_cons.1 h with h | h
    ·exact .inl h
    ·exact .inr h
theorem stabR_mem {α : Type} (lt : α → α → Bool) (y : α) : ∀ l r, y ∈ stabR lt r l → y ∈ r ∨ y ∈ l
 | [], r, h => .inl h
 | x :: xs, r, h => by
   rcases stabR_mem lt y xs (sink lt x r) h with h | h
   ·rcases sink_mem lt x y r h with h | h
    ·exact .inr (by simp [h])
    ·exact .inl h
   ·exact .inr (by simp [h])
theorem stab_mem {α : Type} (lt : α → α → Bool) {y : α} {l : List α} (h : y ∈ stab lt l) : y ∈ l := by
 unfold stab at h
 rcases stabR_mem lt y l [] (List.mem_reverse.1 h) with h | h
 ·cases h
 ·exact h
/-- The symbols that are there, of the first k. -/
def onesTo (l : List Int) : Nat → List Pc
 | 0 => []
 | k + 1 => if 0 < l.getD k 0 then onesTo l k ++ [(l.getD k 0, [(k : Int)])] else onesTo l k
theorem onesTo_len (l : List Int) : ∀ k, (onesTo l k).length ≤ k
 | 0 => Nat.le_refl _
 | k + 1 => by
   have := onesTo_len l k
   unfold onesTo
   split
   ·simp; omega
   ·omega
def packs : List Pc → List Pc
 | a :: b :: r => (wrap64 (a.1 + b.1), a.2 ++ b.2) :: packs r
 | _ => []
def firstP (l : List Int) : List Pc := stab ltP (onesTo l l.length)
/-! ### where symbols lie -/
/-- A coin's symbols lie in a row of their own, not ahead of block base. -/
def Lies (base : Nat) (w : World) (x : Coin) : Prop := KI.R 3 w base (fun _ => True) (slv x.2) x.2.1
theorem Lies.below {base : Nat} {w w' : World} {x : Coin} (h : Lies base w x) (hb : Below w.heap.size w w') : Lies base w' x :=
 Read.own_move' h (fun g hg => hb.block g (Read.own_lt h g hg))
theorem Lies.chg {base : Nat} {w w' : World} {x : Coin} {g t : Nat} {cs : Array Value} (h : Lies base w x) (hc : Chg (fun k => k = g) w w') (hg : w.heap[g]? = some (.cells cs t (0, 0))) (ht : t ≠ 3) : Lies base w' x :=
 Read.own_move' h (fun k hk => hc.block k (Read.own_lt h k hk) (fun e => by
  have e : k = g := e
  subst e
  obtain ⟨cells, hg2⟩ := own_typed (Kd.own_of_R h) k hk
  rw [hg] at hg2
  injection hg2 with hg2
  injection hg2 with _ hg2
  exact ht hg2))
theorem lies_lit {base : Nat} (w : World) (c s : Int) (hb : base ≤ w.heap.size) : Lies base (w.alloc (.cells #[.int .i64 s] 3 (0, 0))) (c, [s], some ⟨w.heap.size, 0, none⟩, 1) :=
 Kd.R_of_own (enc := Value.int .i64) (h1 := fun _ => rfl) (xs := [s]) ⟨rfl, .inr ⟨w.heap.size, 1, #[.int .i64 s], rfl, hb, heap_alloc_self w _, Nat.le_refl _, by decide, rfl, rfl⟩⟩ (fun _ _ => trivial)
/-- The coin rows that a call makes. -/
def Coins (base : Nat) (w : World) (v : Value) (ps : List Pc) : Prop := ∃ xs : List Coin, CK.R 190 w base (fun _ => True) v xs ∧ xs.map pl = ps ∧ ∀ x ∈ xs, Lies base w x
theorem ck_R_below {base : Nat} {ok : Nat → Prop} {w w' : World} {v : Value} {xs : List Coin} (h : CK.R 190 w base ok v xs) (hb : Below w.heap.size w w') : CK.R 190 w' base ok v xs := Kd.R_below h hb
set_option maxRecDepth 100000 in
set_option maxHeartbeats 4000000 in
theorem single_any (A : Option Addr) (n c : Nat) (l : List Int) (w : World) (h : KI.C w A n l) (hl : l.length ≤ 400) (hs : sortable (onesTo l l.length).length) :
  Calls Tryz.prog 132 #[.slice A n c] w fun e w' => ∃ v, e = .returned v ∧ Coins w.heap.size w' v (firstP l) ∧ Below w.heap.size w w' := by
 have hnl := ki_len h
 subst hnl
 have H := Lib.hid h
 have HSO := Lib.hid hs
 clear h hs
 go_enter Tryz.func132, Tryz.ntmps132
 go_wp2_with (fail)
 go_loopg [3, 8] l.length (fun j v i wr => ∃ k : Nat, k + j = l.length ∧ i = .int .i64 k ∧ Hid (Coins w.heap.size wr v (onesTo l k) ∧ Below w.heap.size w wr))
 case atStart => exact ⟨0, by omega, rfl, ⟨[], Kd.R_nil _ _ _ _ _, rfl, fun x hx => by cases hx⟩, Below.refl _ _⟩
 case round =>
  obtain ⟨k, hk, rfl, HI⟩ := hrel
  obtain ⟨⟨xs, hr, hp, hlies⟩, hb⟩ := HI.out
  by_cases hlt : k < l.length
  ·obtain ⟨ad, rfl, x0⟩ := ints_at (Kd.C_below H.out hb) k hlt
   have hon : onesTo l (k + 1) = if 0 < l.getD k 0 then onesTo l k ++ [(l.getD k 0, [(k : Int)])] else onesTo l k := rfl
   obtain ⟨x, hx⟩ : ∃ x, l.getD k 0 = x := ⟨_, rfl⟩
   rw [hx] at x0 hon
   have HON := Lib.hid hon
   have HR := Lib.hid hr
   have HP := Lib.hid hp
   have HLI := Lib.hid hlies
   have HB := Lib.hid hb
   have HK := Lib.hid hk
   have HXL := Lib.hid (show xs.length ≤ 400 by have h1 := onesTo_len l k; rw [← hp, List.length_map] at h1; omega)
   have i0 : (0 : Int) ≤ k := by omega
   have i1 : (k : Int) < (l.length : Int) := by omega
   have i2 : ((k : Int)).toNat = k := by omega
   clear hr hp hlies hb HI hon hx hk
   by_cases hx : 0 < x
   ·have HX := Lib.hid hx
    go_wp2_with (((with_reducible refine gate_builtin (b := .append) (xs := #[.tmp 15, .tmp 20]) rfl ?_); at_builtin; apply stopper))
    unfold Stopper
    have HB1 := Lib.hid (show Below w.heap.size w (wr.alloc (.cells #[.int .i64 k] 3 (0, 0))) from HB.out.alloc HB.out.size _)
    have HA1 := Lib.hid ((Below.refl wr.heap.size wr).alloc (Nat.le_refl _) (.cells #[.int .i64 k] 3 (0, 0)))
    have HL1 := Lib.hid (lies_lit (base := w.heap.size) wr x (k : Int) HB.out.size)
    refine Kd.R_append CK (w0 := w) w.heap.size rfl (.tmp 15) (.tmp 20) 186 190 (.agg #[.int .i64 0, .slice none 0 0]) 32 rfl Tryz.underlying186 infoCoin rfl (by decide) (by omega) u3 xs (x, [(k : Int)], some ⟨wr.heap.size, 0, none⟩, 1) (encC (x, [(k : Int)], some ⟨wr.heap.size, 0, none⟩, 1)) (fun _ => True) (fun _ => False) rfl ?aX (ck_M.2 rfl) (fun _ hk => hk.elim) (fun _ _ => trivial) (ck_R_below HR.out HA1.out) HB1.out HB1.out.size (by have := HXL.out; omega) ?_
    case aX => show Value.slice (some ⟨wr.heap.size + 1, 0, none⟩) 1 1 = _; simp
    intro v9 w9 ho9 hb9 hg9 hat9
    have HC9 := Lib.hid (show Coins w.heap.size w9 v9 (onesTo l (k + 1)) from ⟨_, ho9, by rw [HON.out, if_pos HX.out, List.map_append, HP.out]; rfl, fun y hy => by
     have hlt9 : ∀ y, Lies w.heap.size (wr.alloc (.cells #[.int .i64 k] 3 (0, 0))) y → Lies w.heap.size w9 y := fun y h => by
      rcases hrow : u3.ownBlock with _ | g
      ·exact Read.own_move' h (fun q hq => hg9.block q (Read.own_lt h q hq) (fun e => by rw [hrow] at e; cases e))
      ·refine Read.own_move' h (fun q hq => hg9.block q (Read.own_lt h q hq) (fun e => ?_))
       rw [hrow] at e
       injection e with e
       subst e
       obtain ⟨cells, h1⟩ := own_typed (Kd.own_of_R h) _ hq
       obtain ⟨cells2, h2⟩ := own_typed (R_iff.1 (ck_R_below HR.out HA1.out)).2 _ hrow
       rw [h1] at h2
       injection h2 with h2
       injection h2 with _ h2
       exact absurd h2 (by decide)
     rcases List.mem_append.1 hy with hy | hy
     ·exact hlt9 y ((HLI.out y hy).below HA1.out)
     ·rw [List.mem_singleton.1 hy]
      exact hlt9 _ HL1.out⟩)
    have HB9 := Lib.hid hb9
    clear ho9 hb9 hg9 hat9
    go_wp2_with (fail)
    go_roundg (l.length - (k + 1))
    case measure => have := HK.out; omega
    case rel => exact ⟨k + 1, by have := HK.out; omega, by go_num, HC9.out, HB9.out⟩
   ·have hx0 : x ≤ 0 := by omega
    have HON2 := Lib.hid (show onesTo l (k + 1) = onesTo l k by rw [HON.out, if_neg hx])
    clear hx
    go_wp2_with (fail)
    go_roundg (l.length - (k + 1))
    case measure => have := HK.out; omega
    case rel => exact ⟨k + 1, by have := HK.out; omega, by go_num, by rw [HON2.out]; exact ⟨xs, HR.out, HP.out, HLI.out⟩, HB.out⟩
  ·obtain rfl : k = l.length := by omega
   have HR := Lib.hid hr
   have HP := Lib.hid hp
   have HLI := Lib.hid hlies
   have HB := Lib.hid hb
   have HSX := Lib.hid (show sortable xs.length by have := HSO.out; rw [← hp, List.length_map] at this; exact this)
   clear hr hp hlies hb HI
   go_wp2_with (fail)
   refine (sort_any 156 cmpA w.heap.size (fun _ => True) u3 xs _ HR.out HSX.out).mono ?_
   rintro e w2 ⟨rfl, hr2, hc2⟩
   have HC2 := Lib.hid (show Coins w.heap.size w2 u3 (firstP l) from ⟨_, hr2, by rw [stab_pl, HP.out]; rfl, fun y hy => by
    have h := HLI.out y (stab_mem ltC hy)
    refine Read.own_move' h (fun q hq => hc2.block q (Read.own_lt h q hq) (fun e => ?_))
    obtain ⟨cells, h1⟩ := own_typed (Kd.own_of_R h) _ hq
    obtain ⟨cells2, h2⟩ := own_typed (R_iff.1 HR.out).2 _ e
    rw [h1] at h2
    injection h2 with h2
    injection h2 with _ h2
    exact absurd h2 (by decide)⟩)
   have HB2 := Lib.hid (show Below w.heap.size w w2 from HB.out.trans (hc2.below HB.out.size (fun q hq => ((R_iff.1 HR.out).2.lt q hq).1)))
   clear hr2 hc2
   go_wp2_with (fail)
   go_ret
   exact ⟨_, rfl, HC2.out, HB2.out⟩
end Go.Proofs.YtfbbcfhdjhiejaaGreat.Srt

/- Chapter 18: the library's copies and joins; packages. -/
namespace Go.Proofs.YtfbbcfhdjhiejaaGreat.Srt
set_option linter.unusedVariables false
set_option linter.unusedSimpArgs false
open Go.RowKit Go.Proofs.YtfbbcfhdjhiejaaGreatW.PrintWords Go.Proofs.YtfbbcfhdjhiejaaGreatW.PrintMore Go.Proofs.YtfbbcfhdjhiejaaGreat.L Go.Proofs.YtfbbcfhdjhiejaaGreat.Ints Go.Shelf Go.Lib Go.Sort
theorem ck_len {w : World} {A : Option Addr} {n : Nat} {xs : List Coin} (h : CK.C w A n xs) : n = xs.length := (Kd.C_len h).symm
theorem ck_rows {w : World} {A : Option Addr} {n : Nat} {xs : List Coin} (h : CK.C w A n xs) : ReadsRow (fun x cs => cs = encC x) 2 w A n xs :=
 ⟨h.1, h.2.1, fun h0 => by
  obtain ⟨ad, e, hc⟩ := h.2.2 h0
  exact ⟨ad, e, fun j p hj => by
   obtain ⟨c, h1, h2, h3⟩ := hc j p hj
   exact ⟨c, h1, ck_K.1 h2, h3⟩⟩⟩
theorem clone_coins (A : Option Addr) (n c : Nat) (xs : List Coin) (w : World) (h : CK.C w A n xs) (hl : n * 32 ≤ 140737488351232) :
  Calls Tryz.prog 133 #[.slice A n c] w fun e w' => ∃ v, e = .returned v ∧ CK.R 190 w' w.heap.size (fun _ => True) v xs ∧ Below w.heap.size w w' := by
 have H := Lib.hid h
 have hxl := ck_len h
 clear h
 have q22 : ∀ (w : World) (a : Option Addr) (n c n' c' : Nat), (binOp .eql 186 (.slice a n c) (.slice none n' c')).run Tryz.prog w = .ok (.bool a.isNone) w := fun w a n c n' c' => Lib.run_eql_slice_nil w _ _ a n c n' c' Tryz.underlying186
 rcases A with _ | ad
 ·obtain rfl : xs = [] := by
   by_cases hn : 0 < n
   ·obtain ⟨ad, e, _⟩ := H.out.2.2 hn
    cases e
   ·exact List.eq_nil_of_length_eq_zero (by omega)
  go_enter Tryz.func133, Tryz.ntmps133
  go_wp2_with (fail)
  go_ret
  exact ⟨_, rfl, Kd.R_nil _ _ _ _ _, Below.refl _ _⟩
 ·go_enter Tryz.func133, Tryz.ntmps133
  go_wp2_with (((with_reducible refine gate_builtin (b := .append) (xs := #[.tmp 5, .tmp 6]) rfl ?_); at_builtin; apply stopper))
  unfold Stopper
  refine Kd.R_append_rows CK (Rr := fun x cs => cs = encC x) (w0 := w) w.heap.size rfl (.tmp 5) (.tmp 6) 186 190 (.agg #[.int .i64 0, .slice none 0 0]) 32 rfl Tryz.underlying186 infoCoin rfl (by decide) (by omega) _ [] xs (some ad) n c (fun _ => True) (fun _ => False) rfl rfl ?aO ?aR (fun x cs h => ck_M.2 h) (fun _ h => h.elim) (fun _ _ => trivial) ?aB ?aS ?aL ?_
  case aO => exact R_iff.2 ⟨fun _ _ => trivial, World.ownsRow_made w #[] 0 (Nat.le_refl _) (Nat.zero_le _) rfl⟩
  case aR => exact ck_rows (Kd.C_alloc H.out _)
  case aB => exact (Below.refl _ w).alloc (Nat.le_refl _) _
  case aS => simp
  case aL => simp; omega
  intro v1 w1 ho hb hg hat
  have HO := Lib.hid ho
  have HB := Lib.hid hb
  clear ho hb hg hat
  go_wp2
  go_ret
  exact ⟨_, rfl, HO.out, HB.out⟩
/-! ### the library's join -/
def growRen : Go.Shelf.Ren := ⟨fun | 4 => 174 | n => n, fun | 0 => 0 | 3 => 3 | 4 => 4 | 9 => 9 | 20 => 20 | 22 => 26 | 25 => 3 | n => n, fun n => n⟩
theorem growLay : Lays8.n4 Tryz.prog growRen :=
 { mixed := by kernel_rfl
   f4 := ⟨Tryz.f174.name, by decide, Tryz.func174.trans (congrArg some (by kernel_rfl))⟩
   t0 := Tryz.underlying0
   a0 := Tryz.isAgg0
   z0 := Tryz.sizeOf0
   v0 := Tryz.zeroValue0
   t3 := Tryz.underlying3
   a3 := Tryz.isAgg3
   z3 := Tryz.sizeOf3
   v3 := Tryz.zeroValue3
   t4 := Tryz.underlying4
   a4 := Tryz.isAgg4
   z4 := Tryz.sizeOf4
   v4 := Tryz.zeroValue4
   t9 := Tryz.underlying9
   a9 := Tryz.isAgg9
   z9 := Tryz.sizeOf9
   v9 := Tryz.zeroValue9
   t20 := Tryz.underlying20
   a20 := Tryz.isAgg20
   z20 := Tryz.sizeOf20
   v20 := Tryz.zeroValue20
   t22 := Tryz.underlying26
   a22 := Tryz.isAgg26
   z22 := Tryz.sizeOf26
   v22 := Tryz.zeroValue26 }
theorem grow_nil (n : Nat) (w : World) (hn : n ≤ 100000) : Calls Tryz.prog 174 #[.slice none 0 0, .int .i64 n] w fun e w' => ∃ v, e = .returned v ∧ KI.R 3 w' w.heap.size (fun _ => True) v [] ∧ Below w.heap.size w w' := by
 by_cases h0 : n = 0
 ·subst h0
  have := Any8.slices_Grow_room growLay none 0 0 0 w (Nat.le_refl _) (by decide) (by decide) (Nat.le_refl _)
  change Calls Tryz.prog 174 #[.slice none 0 0, .int .i64 ((0 : Nat) : Int)] w _ at this
  refine this.mono ?_
  rintro e w1 ⟨rfl, rfl⟩
  exact ⟨_, rfl, Kd.R_nil _ _ _ _ _, Below.refl _ _⟩
 ·obtain ⟨i0, hi, hz⟩ := Option.map_eq_some_iff.1 infoInt
  simp only [Prod.mk.injEq] at hz
  obtain ⟨hz0, hz1, hz2⟩ := hz
  have := Any8.slices_Grow_grow growLay i0 (.int .i64 0) hi hz0 (by rw [hz1]; decide) none 0 0 n [] w (Nat.le_refl _) (by omega) (by rw [hz2]; omega) (by omega) (by simp) (fun _ => rfl) (fun a h => by cases h)
  change Calls Tryz.prog 174 #[.slice none 0 0, .int .i64 n] w _ at this
  refine this.mono ?_
  rintro e w1 ⟨rfl, rfl⟩
  have hge := grownCap_ge w (0 + n) 0 3
  have hle := grownCap_le_maxLen w (0 + n) 0 3 (by unfold maxLen; omega)
  refine ⟨_, rfl, Kd.R_of_own (enc := Value.int .i64) (h1 := fun _ => rfl) (xs := []) (World.ownsRow_made w.drew _ _ (Nat.le_refl _) hle ?_) (fun _ _ => trivial), (Below.refl _ w).drew.alloc (Nat.le_refl _) _⟩
  show (Array.size _) = _
  rw [Array.size_append, Array.size_append, size_zeroCells, size_zeroCells]
  show 0 + (0 + n - 0) * 1 + (grownCap w (0 + n) 0 3 - (0 + n)) * 1 = grownCap w (0 + n) 0 3 * 1
  omega
set_option maxRecDepth 100000 in
set_option maxHeartbeats 4000000 in
theorem concat_two (g : Nat) (A1 A2 : Option Addr) (n1 n2 c1 c2 : Nat) (xs ys : List Int) (w : World) (hx : KI.C w A1 n1 xs) (hy : KI.C w A2 n2 ys) (l1 : n1 ≤ 40000) (l2 : n2 ≤ 40000)
  (h0 : w.cell? ⟨g, 0, none⟩ = some (.slice A1 n1 c1)) (h1 : w.cell? ⟨g, 1, none⟩ = some (.slice A2 n2 c2)) (hg : g < w.heap.size) :
  Calls Tryz.prog 157 #[.slice (some ⟨g, 0, none⟩) 2 2] w fun e w' => ∃ v, e = .returned v ∧ KI.R 3 w' w.heap.size (fun _ => True) v (xs ++ ys) ∧ Below w.heap.size w w' := by
 have HX := Lib.hid hx
 have HY := Lib.hid hy
 have k1 := ki_len hx
 have k2 := ki_len hy
 have HK := Lib.hid (And.intro k1 k2)
 have HH := Lib.hid (And.intro h0 h1)
 clear hx hy k1 k2
 go_enter Tryz.func157, Tryz.ntmps157
 go_wp2_with (fail)
 refine wp_loop_rounds 3 ?_
 rw [rounds_succ]
 go_wp2_with (fail)
 rw [rounds_succ]
 go_wp2_with (fail)
 rw [rounds_succ]
 go_wp2_with (fail)
 have hsum : ((n1 : Int) + (n2 : Int)) = ((n1 + n2 : Nat) : Int) := by omega
 rw [hsum]
 clear hsum
 refine (grow_nil (n1 + n2) _ (by omega)).mono ?_
 rintro e w1 ⟨v1, rfl, hr1, hb1⟩
 have HR1 := Lib.hid hr1
 have HB1 := Lib.hid hb1
 have m0 : w1.cell? ⟨g, 0, none⟩ = some (.slice A1 n1 c1) := by rw [hb1.cell hg]; exact HH.out.1
 have m1 : w1.cell? ⟨g, 1, none⟩ = some (.slice A2 n2 c2) := by rw [hb1.cell hg]; exact HH.out.2
 clear hr1 hb1 h0 h1
 go_wp2_with (fail)
 refine wp_loop_rounds 3 ?_
 rw [rounds_succ]
 go_wp2_with (((with_reducible refine gate_builtin (b := .append) (xs := #[.tmp 31, .tmp 32]) rfl ?_); at_builtin; apply stopper))
 unfold Stopper
 refine Kd.R_append_row (Value.int .i64) 0 (h1 := fun _ => rfl) (w0 := w) w.heap.size rfl (.tmp 31) (.tmp 32) 26 3 (.int .i64 0) 8 rfl Tryz.underlying26 infoInt rfl (by decide) v1 [] xs A1 n1 c1 (fun _ => True) rfl rfl (fun _ _ => trivial) HR1.out (Kd.C_below HX.out HB1.out) HB1.out HB1.out.size (by simp; omega) ?_
 intro v2 w2 ho2 hb2 hg2 hat2
 rw [List.nil_append] at ho2
 have HR2 := Lib.hid ho2
 have HB2 := Lib.hid hb2
 have o1 : w2.cell? ⟨g, 1, none⟩ = some (.slice A2 n2 c2) := by rw [hb2.cell hg]; exact HH.out.2
 clear ho2 hb2 hg2 hat2 m0 m1
 go_wp2_with (fail)
 rw [rounds_succ]
 go_wp2_with (((with_reducible refine gate_builtin (b := .append) (xs := #[.tmp 31, .tmp 32]) rfl ?_); at_builtin; apply stopper))
 unfold Stopper
 refine Kd.R_append_row (Value.int .i64) 0 (h1 := fun _ => rfl) (w0 := w) w.heap.size rfl (.tmp 31) (.tmp 32) 26 3 (.int .i64 0) 8 rfl Tryz.underlying26 infoInt rfl (by decide) v2 xs ys A2 n2 c2 (fun _ => True) rfl rfl (fun _ _ => trivial) HR2.out (Kd.C_below HY.out HB2.out) HB2.out HB2.out.size (by have := HK.out; omega) ?_
 intro v3 w3 ho3 hb3 hg3 hat3
 have HR3 := Lib.hid ho3
 have HB3 := Lib.hid hb3
 clear ho3 hb3 hg3 hat3 o1
 go_wp2_with (fail)
 rw [rounds_succ]
 go_wp2_with (fail)
 go_ret
 exact ⟨_, rfl, HR3.out, HB3.out⟩
end Go.Proofs.YtfbbcfhdjhiejaaGreat.Srt
