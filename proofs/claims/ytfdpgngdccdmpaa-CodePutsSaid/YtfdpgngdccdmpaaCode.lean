/- Chapter 19: whether lengths may be; their codes. -/
import Derived.Test.YtfdpgngdccdmpaaCodePure
import Derived.Test.YtfdpgngdccdmpaaLent
namespace Go.Proofs.Ytfdpgngdccdmpaa.Code
set_option linter.unusedVariables false
set_option linter.unusedSimpArgs false
open Go.RowKit Go.Proofs.YtfdpgngdccdmpaaW.PrintWords Go.Proofs.YtfdpgngdccdmpaaW.PrintMore Go.Proofs.Ytfdpgngdccdmpaa.L Go.Proofs.Ytfdpgngdccdmpaa.Ints

/-! ### searches -/
theorem any_snoc {p : Int → Bool} (l : List Int) (k : Nat) (h : k < l.length) : (l.take (k + 1)).any p = ((l.take k).any p || p (l.getD k 0)) := by
  rw [take_succ_getD l k h, List.any_append]
  simp
theorem any_of_at {p : Int → Bool} {l : List Int} {k : Nat} (h : k < l.length) (hp : p (l.getD k 0) = true) : l.any p = true := by
  rw [List.any_eq_true]
  refine ⟨l.getD k 0, ?_, hp⟩
  rw [List.getD_eq_getElem?_getD, List.getElem?_eq_getElem h]
  exact List.getElem_mem h
theorem index_ints (A : Option Addr) (n c : Nat) (xs : List Int) (t : Int) (w : World) (h : KI.C w A n xs) :
    Calls Try.prog 54 #[.slice A n c, .int .i64 t] w fun e w' => ∃ r : Int, e = .returned (.int .i64 r) ∧ decide (0 ≤ r) = xs.any (fun x => decide (x = t)) ∧ w' = w := by
  have H := Lib.hid h
  have hmx := Kd.C_max h
  have hnl := ki_len h
  clear h
  subst hnl
  go_enter Try.func54, Try.ntmps54
  go_wp2_with (fail)
  go_loopg [8] xs.length (fun j i wr => ∃ k : Nat, k + j = xs.length ∧ i = .int .i64 k ∧ Hid ((xs.take k).any (fun x => decide (x = t)) = false) ∧ wr = w)
  case atStart => exact ⟨0, by omega, rfl, rfl, rfl⟩
  case round =>
    obtain ⟨k, hk, rfl, HI, rfl⟩ := hrel
    by_cases hlt : k < xs.length
    · obtain ⟨ad, rfl, x0⟩ := ints_at H.out k hlt
      have hsn := any_snoc (p := fun x => decide (x = t)) xs k hlt
      have hat := fun hp => any_of_at (p := fun x => decide (x = t)) hlt hp
      obtain ⟨x, hx⟩ : ∃ x, xs.getD k 0 = x := ⟨_, rfl⟩
      rw [hx] at x0 hsn hat
      rw [HI.out, Bool.false_or] at hsn
      have i0 : (0 : Int) ≤ k := by omega
      have i1 : (k : Int) < (xs.length : Int) := by omega
      have i2 : ((k : Int)).toNat = k := by omega
      have HS := Lib.hid hsn
      have HA := Lib.hid hat
      clear hsn hat hx
      by_cases he : t = x
      · subst he
        have hb : (t == t) = true := by simp
        go_wp2_with (fail)
        go_ret
        exact ⟨_, rfl, by rw [HA.out (by simp)]; exact decide_eq_true i0, rfl⟩
      · have hb : (t == x) = false := by simpa using he
        have HE := Lib.hid he
        clear he
        go_wp2_with (fail)
        go_roundg (xs.length - (k + 1))
        case measure => omega
        case rel => exact ⟨k + 1, by omega, by go_num, by rw [HS.out]; exact decide_eq_false (fun e => HE.out e.symm), rfl⟩
    · obtain rfl : k = xs.length := by omega
      go_wp2_with (fail)
      go_ret
      have h1 := HI.out
      rw [List.take_length] at h1
      exact ⟨_, rfl, by rw [h1]; rfl, rfl⟩
theorem contains_ints (A : Option Addr) (n c : Nat) (xs : List Int) (t : Int) (w : World) (h : KI.C w A n xs) :
    Calls Try.prog 30 #[.slice A n c, .int .i64 t] w fun e w' => e = .returned (.bool (xs.any (fun x => decide (x = t)))) ∧ w' = w := by
  have H := Lib.hid h
  clear h
  go_enter Try.func30, Try.ntmps30
  go_wp2_with (fail)
  refine (index_ints _ _ _ _ _ _ H.out).mono ?_
  rintro e w1 ⟨r, rfl, hr, rfl⟩
  have HR := Lib.hid hr
  clear hr
  go_wp2_with (fail)
  go_ret
  exact ⟨by rw [← HR.out]; rfl, rfl⟩
def offB (x : Int) : Bool := decide (x < 0) || decide (15 < x)
theorem off_any (x : Int) (w : World) : Calls Try.prog 28 #[.int .i64 x] w fun e w' => e = .returned (.bool (offB x)) ∧ w' = w := by
  by_cases h0 : x < 0
  · have hr := Lib.hid (show offB x = true by unfold offB; rw [decide_eq_true h0]; rfl)
    go_enter Try.func28, Try.ntmps28
    go_wp2_with (fail)
    go_ret
    rw [hr.out]
    exact ⟨rfl, rfl⟩
  · have h00 : 0 ≤ x := by omega
    clear h0
    go_enter Try.func28, Try.ntmps28
    go_wp2_with (fail)
    go_ret
    exact ⟨rfl, rfl⟩
theorem wrong_eq (l : List Int) : wrong l = l.any offB := rfl
theorem indexf (A : Option Addr) (n c : Nat) (xs : List Int) (w : World) (h : KI.C w A n xs) :
    Calls Try.prog 53 #[.slice A n c, .func (.func 28) #[] #[]] w fun e w' => ∃ r : Int, e = .returned (.int .i64 r) ∧ decide (0 ≤ r) = wrong xs ∧ w' = w := by
  have H := Lib.hid h
  have hmx := Kd.C_max h
  have hnl := ki_len h
  clear h
  subst hnl
  go_enter Try.func53, Try.ntmps53
  go_wp2_with (fail)
  go_loopg [8] xs.length (fun j i wr => ∃ k : Nat, k + j = xs.length ∧ i = .int .i64 k ∧ Hid ((xs.take k).any offB = false) ∧ wr = w)
  case atStart => exact ⟨0, by omega, rfl, rfl, rfl⟩
  case round =>
    obtain ⟨k, hk, rfl, HI, rfl⟩ := hrel
    by_cases hlt : k < xs.length
    · obtain ⟨ad, rfl, x0⟩ := ints_at H.out k hlt
      have hsn := any_snoc (p := offB) xs k hlt
      have hat := fun hp => any_of_at (p := offB) hlt hp
      obtain ⟨x, hx⟩ : ∃ x, xs.getD k 0 = x := ⟨_, rfl⟩
      rw [hx] at x0 hsn hat
      rw [HI.out, Bool.false_or] at hsn
      have i0 : (0 : Int) ≤ k := by omega
      have i1 : (k : Int) < (xs.length : Int) := by omega
      have i2 : ((k : Int)).toNat = k := by omega
      have HS := Lib.hid hsn
      have HA := Lib.hid hat
      clear hsn hat hx
      cases ho : offB x
      · have HO := Lib.hid ho
        clear ho
        go_wp2_with (go_at_call 28; refine (off_any x _).mono ?_; rintro e w1 ⟨rfl, rfl⟩; rw [HO.out])
        go_roundg (xs.length - (k + 1))
        case measure => omega
        case rel => exact ⟨k + 1, by omega, by go_num, by rw [HS.out]; exact HO.out, rfl⟩
      · have HO := Lib.hid ho
        clear ho
        go_wp2_with (go_at_call 28; refine (off_any x _).mono ?_; rintro e w1 ⟨rfl, rfl⟩; rw [HO.out])
        go_ret
        exact ⟨_, rfl, by rw [wrong_eq, HA.out HO.out]; exact decide_eq_true i0, rfl⟩
    · obtain rfl : k = xs.length := by omega
      go_wp2_with (fail)
      go_ret
      have h1 := HI.out
      rw [List.take_length] at h1
      exact ⟨_, rfl, by rw [wrong_eq, h1]; rfl, rfl⟩
theorem containsf (A : Option Addr) (n c : Nat) (xs : List Int) (w : World) (h : KI.C w A n xs) :
    Calls Try.prog 27 #[.slice A n c, .func (.func 28) #[] #[]] w fun e w' => e = .returned (.bool (wrong xs)) ∧ w' = w := by
  have H := Lib.hid h
  clear h
  go_enter Try.func27, Try.ntmps27
  go_wp2_with (fail)
  refine (indexf _ _ _ _ _ H.out).mono ?_
  rintro e w1 ⟨r, rfl, hr, rfl⟩
  have HR := Lib.hid hr
  clear hr
  go_wp2_with (fail)
  go_ret
  exact ⟨by rw [← HR.out]; rfl, rfl⟩

/-! ### Kraft and Used -/
theorem used_take_succ (l : List Int) (k : Nat) (h : k < l.length) : used (l.take (k + 1)) = used (l.take k) + if 0 < l.getD k 0 then 1 else 0 := by
  rw [take_succ_getD l k h]
  unfold used
  rw [List.countP_append, List.countP_cons, List.countP_nil, Nat.zero_add]
  by_cases hp : 0 < l.getD k 0 <;> simp [hp]
theorem used_le (l : List Int) : used l ≤ l.length := List.countP_le_length
theorem used_any (A : Option Addr) (n c : Nat) (h : List Int) (w : World) (hh : KI.C w A n h) :
    Calls Try.prog 29 #[.slice A n c] w fun e w' => e = .returned (.int .i64 (used h : Nat)) ∧ w' = w := by
  have H := Lib.hid hh
  have hmx := Kd.C_max hh
  have hnl := ki_len hh
  clear hh
  subst hnl
  go_enter Try.func29, Try.ntmps29
  go_wp2_with (fail)
  go_loopg [3, 8] h.length (fun j s i wr => ∃ k : Nat, k + j = h.length ∧ i = .int .i64 k ∧ s = .int .i64 (used (h.take k) : Nat) ∧ wr = w)
  case atStart => exact ⟨0, by omega, rfl, rfl, rfl⟩
  case round =>
    obtain ⟨k, hk, rfl, rfl, rfl⟩ := hrel
    by_cases hlt : k < h.length
    · obtain ⟨ad, rfl, x0⟩ := ints_at H.out k hlt
      have hn := used_take_succ h k hlt
      obtain ⟨x, hx⟩ : ∃ x, h.getD k 0 = x := ⟨_, rfl⟩
      rw [hx] at x0 hn
      have h1 := used_le (h.take k)
      have h3 := List.length_take_le k h
      obtain ⟨S, hS⟩ : ∃ S, used (h.take k) = S := ⟨_, rfl⟩
      rw [hS] at hn h1 ⊢
      have hs2 : (S : Int) ≤ 9223372036854775806 := by omega
      have i0 : (0 : Int) ≤ k := by omega
      have i1 : (k : Int) < (h.length : Int) := by omega
      have i2 : ((k : Int)).toNat = k := by omega
      have HN := Lib.hid hn
      clear hn h1 h3 hx hS
      by_cases hp : 0 < x
      · have HP := Lib.hid hp
        go_wp2_with (fail)
        go_roundg (h.length - (k + 1))
        case measure => omega
        case rel => exact ⟨k + 1, by omega, by go_num, by rw [HN.out, if_pos HP.out]; go_num, rfl⟩
      · have HP := Lib.hid hp
        have hp2 : x ≤ 0 := by omega
        clear hp
        go_wp2_with (fail)
        go_roundg (h.length - (k + 1))
        case measure => omega
        case rel => exact ⟨k + 1, by omega, by go_num, by rw [HN.out, if_neg (by have := HP.out; omega)]; rfl, rfl⟩
    · obtain rfl : k = h.length := by omega
      go_wp2_with (fail)
      go_ret
      rw [List.take_length]
      exact ⟨rfl, rfl⟩
theorem pow_term (x : Int) (h1 : 1 ≤ x) (h15 : x ≤ 15) : wrap64 (2 ^ (15 - x).toNat) = ((term x : Nat) : Int) := by
  unfold term
  rw [if_pos ⟨h1, h15⟩, show (15 - x).toNat = 15 - x.toNat by omega]
  have h2 : (2 : Nat) ^ (15 - x.toNat) ≤ 2 ^ 14 := Nat.pow_le_pow_right (by decide) (by omega)
  have h3 : ((2 ^ (15 - x.toNat) : Nat) : Int) = 2 ^ (15 - x.toNat) := by simp
  rw [h3]
  have h4 : ((2 : Int) ^ (15 - x.toNat)) ≤ 16384 := by rw [← h3]; omega
  have h5 : (0 : Int) ≤ (2 : Int) ^ (15 - x.toNat) := by rw [← h3]; exact Int.natCast_nonneg _
  unfold wrap64
  omega
set_option maxHeartbeats 1000000 in
theorem kraft_any (A : Option Addr) (n c : Nat) (l : List Int) (w : World) (hh : KI.C w A n l) (h8 : n * 8 ≤ 140737488351232) :
    Calls Try.prog 20 #[.slice A n c] w fun e w' => e = .returned (.int .i64 (kraft l : Nat)) ∧ w' = w := by
  have H := Lib.hid hh
  have hnl := ki_len hh
  clear hh
  subst hnl
  go_enter Try.func20, Try.ntmps20
  go_wp2_with (fail)
  go_loopg [3, 8] l.length (fun j s i wr => ∃ k : Nat, k + j = l.length ∧ i = .int .i64 k ∧ s = .int .i64 (kraft (l.take k) : Nat) ∧ wr = w)
  case atStart => exact ⟨0, by omega, rfl, rfl, rfl⟩
  case round =>
    obtain ⟨k, hk, rfl, rfl, rfl⟩ := hrel
    by_cases hlt : k < l.length
    · obtain ⟨ad, rfl, x0⟩ := ints_at H.out k hlt
      have hn := kraft_take_succ l k hlt
      obtain ⟨x, hx⟩ : ∃ x, l.getD k 0 = x := ⟨_, rfl⟩
      rw [hx] at x0 hn
      have h1 := kraft_le (l.take k)
      have h3 := List.length_take_le k l
      obtain ⟨S, hS⟩ : ∃ S, kraft (l.take k) = S := ⟨_, rfl⟩
      rw [hS] at hn h1 ⊢
      have hs2 : (S : Int) ≤ 288230376151711744 := by omega
      have i0 : (0 : Int) ≤ k := by omega
      have i1 : (k : Int) < (l.length : Int) := by omega
      have i2 : ((k : Int)).toNat = k := by omega
      have HN := Lib.hid hn
      clear hn h1 h3 hx hS
      by_cases hp : 1 ≤ x ∧ x ≤ 15
      · obtain ⟨p1, p2⟩ := hp
        have hw := pow_term x p1 p2
        obtain ⟨T, hT⟩ : ∃ T, term x = T := ⟨_, rfl⟩
        have ht := term_le x
        rw [hT] at hw ht HN
        have ht2 : (T : Int) ≤ 16384 := by omega
        have ht3 : (0 : Int) ≤ (T : Int) := by omega
        have hg : (0 : Int) ≤ 15 - x := by omega
        clear hT
        go_wp2_with (fail)
        go_roundg (l.length - (k + 1))
        case measure => omega
        case rel => exact ⟨k + 1, by omega, by go_num, by rw [HN.out]; go_num, rfl⟩
      · have HT := Lib.hid (show term x = 0 by unfold term; rw [if_neg hp])
        by_cases p1 : x < 1
        · clear hp
          go_wp2_with (fail)
          go_roundg (l.length - (k + 1))
          case measure => omega
          case rel => exact ⟨k + 1, by omega, by go_num, by rw [HN.out, HT.out]; rfl, rfl⟩
        · have p2 : 15 < x := by omega
          have p3 : 1 ≤ x := by omega
          clear hp p1
          go_wp2_with (fail)
          go_roundg (l.length - (k + 1))
          case measure => omega
          case rel => exact ⟨k + 1, by omega, by go_num, by rw [HN.out, HT.out]; rfl, rfl⟩
    · obtain rfl : k = l.length := by omega
      go_wp2_with (fail)
      go_ret
      rw [List.take_length]
      exact ⟨rfl, rfl⟩

/-! ### Right -/
set_option maxRecDepth 100000 in
set_option maxHeartbeats 1000000 in
theorem right_any (A : Option Addr) (n c : Nat) (l : List Int) (w : World) (hh : KI.C w A n l) (h8 : n * 8 ≤ 140737488351232) :
    Calls Try.prog 15 #[.slice A n c] w fun e w' => e = .returned (.int .i64 (right l)) ∧ w' = w := by
  have H := Lib.hid hh
  clear hh
  obtain ⟨K, hK⟩ : ∃ K, kraft l = K := ⟨_, rfl⟩
  obtain ⟨U, hU⟩ : ∃ U, used l = U := ⟨_, rfl⟩
  obtain ⟨W, hW⟩ : ∃ W, wrong l = W := ⟨_, rfl⟩
  obtain ⟨C, hC⟩ : ∃ C, l.any (fun x => decide (x = 1)) = C := ⟨_, rfl⟩
  have hr : right l = if W = true then 1 else if K = 32768 ∨ (decide (U = 1) && C) = true then 0 else 8 := by
    unfold right alone
    rw [hK, hU, hW, hC]
  have HR := Lib.hid hr
  have HK := Lib.hid hK
  have HU := Lib.hid hU
  have HW := Lib.hid hW
  have HC := Lib.hid hC
  clear hK hU hW hC hr
  go_enter Try.func15, Try.ntmps15
  go_wp2_with (fail)
  refine (containsf _ _ _ l _ H.out).mono ?_
  rintro e w1 ⟨rfl, rfl⟩
  rw [HW.out]
  go_wp2_with (fail)
  refine (kraft_any _ _ _ l _ H.out h8).mono ?_
  rintro e w1 ⟨rfl, rfl⟩
  rw [HK.out]
  go_wp2_with (fail)
  refine (used_any _ _ _ l _ H.out).mono ?_
  rintro e w1 ⟨rfl, rfl⟩
  rw [HU.out]
  by_cases hu : U = 1
  · subst hu
    go_wp2_with (fail)
    refine (contains_ints _ _ _ l 1 _ H.out).mono ?_
    rintro e w1 ⟨rfl, rfl⟩
    rw [HC.out]
    by_cases hk : K = 32768
    · subst hk
      cases W <;> cases C <;> (go_wp2_with (fail)) <;> go_ret <;> (rw [HR.out]; exact ⟨rfl, rfl⟩)
    · have hk2 : ((K : Int) == 32768) = false := by simpa using (show ¬ (K : Int) = 32768 by omega)
      have hk3 := Lib.hid hk
      clear hk
      cases W <;> cases C <;> (go_wp2_with (fail)) <;> go_ret <;> (rw [HR.out]; first | exact ⟨rfl, rfl⟩ | (rw [if_neg (by decide), if_neg (by simp [hk3.out])]; exact ⟨rfl, rfl⟩) | (rw [if_neg (by decide), if_pos (by simp)]; exact ⟨rfl, rfl⟩))
  · have hu2 : ((U : Int) == 1) = false := by simpa using (show ¬ (U : Int) = 1 by omega)
    have hu3 := Lib.hid (show decide (U = 1) = false from decide_eq_false hu)
    clear hu
    by_cases hk : K = 32768
    · subst hk
      cases W <;> (go_wp2_with (fail)) <;> go_ret <;> (rw [HR.out]; exact ⟨rfl, rfl⟩)
    · have hk2 : ((K : Int) == 32768) = false := by simpa using (show ¬ (K : Int) = 32768 by omega)
      have hk3 := Lib.hid hk
      clear hk
      cases W <;> (go_wp2_with (fail)) <;> go_ret <;> (rw [HR.out]; first | exact ⟨rfl, rfl⟩ | (rw [if_neg (by decide), if_neg (by simp [hk3.out, hu3.out])]; exact ⟨rfl, rfl⟩))

/-! ### Of -/
def Filled (l : List Int) (n s : Nat) (o : List Int) : Prop := o.length = l.length ∧ ∀ j, j < l.length → o.getD j 0 = if 1 ≤ l.getD j 0 ∧ (l.getD j 0 < (n : Int) ∨ (l.getD j 0 = (n : Int) ∧ j < s)) then ((codeAt l j : Nat) : Int) else 0
theorem filled_start (l : List Int) : Filled l 1 0 (List.replicate l.length 0) := by
  refine ⟨List.length_replicate, fun j hj => ?_⟩
  rw [if_neg (by omega), List.getD_eq_getElem?_getD, List.getElem?_replicate, if_pos hj]
  rfl
theorem filled_skip {l : List Int} {n s : Nat} {o : List Int} (h : Filled l n s o) (hs : l.getD s 0 ≠ (n : Int)) : Filled l n (s + 1) o := by
  refine ⟨h.1, fun j hj => ?_⟩
  rw [h.2 j hj]
  by_cases hjs : j = s
  · subst hjs
    by_cases h1 : 1 ≤ l.getD j 0 ∧ (l.getD j 0 < (n : Int) ∨ (l.getD j 0 = (n : Int) ∧ j < j))
    · rw [if_pos h1, if_pos (by omega)]
    · rw [if_neg h1, if_neg (by omega)]
  · by_cases h1 : 1 ≤ l.getD j 0 ∧ (l.getD j 0 < (n : Int) ∨ (l.getD j 0 = (n : Int) ∧ j < s))
    · rw [if_pos h1, if_pos (by omega)]
    · rw [if_neg h1, if_neg (by omega)]
theorem filled_set {l : List Int} {m s : Nat} {o : List Int} (h : Filled l (m + 1) s o) (hsl : s < l.length) (hs : l.getD s 0 = ((m + 1 : Nat) : Int)) (hm : m + 1 ≤ 15) : Filled l (m + 1) (s + 1) (o.set s (((2 * nx l m + cnt (l.take s) (m + 1) : Nat)) : Int)) := by
  refine ⟨by rw [List.length_set]; exact h.1, fun j hj => ?_⟩
  by_cases hjs : j = s
  · subst hjs
    rw [List.getD_eq_getElem?_getD, List.getElem?_set_self (by rw [h.1]; exact hj), if_pos (by omega), codeAt_some l j m hs hm]
    rfl
  · rw [List.getD_eq_getElem?_getD, List.getElem?_set_ne (Ne.symm hjs), ← List.getD_eq_getElem?_getD, h.2 j hj]
    by_cases h1 : 1 ≤ l.getD j 0 ∧ (l.getD j 0 < ((m + 1 : Nat) : Int) ∨ (l.getD j 0 = ((m + 1 : Nat) : Int) ∧ j < s))
    · rw [if_pos h1, if_pos (by omega)]
    · rw [if_neg h1, if_neg (by omega)]
theorem filled_next {l : List Int} {n : Nat} {o : List Int} (h : Filled l n l.length o) : Filled l (n + 1) 0 o := by
  refine ⟨h.1, fun j hj => ?_⟩
  rw [h.2 j hj]
  by_cases h1 : 1 ≤ l.getD j 0 ∧ (l.getD j 0 < (n : Int) ∨ (l.getD j 0 = (n : Int) ∧ j < l.length))
  · rw [if_pos h1, if_pos (by omega)]
  · rw [if_neg h1, if_neg (by omega)]
theorem filled_end {l : List Int} {o : List Int} (h : Filled l 16 0 o) (hr : ∀ x ∈ l, 0 ≤ x ∧ x ≤ 15) : o = codes l := by
  apply List.ext_getElem
  · rw [h.1, codes_length]
  · intro j h1 h2
    have hj : j < l.length := by rw [← h.1]; exact h1
    have e1 : o[j] = o.getD j 0 := by rw [List.getD_eq_getElem?_getD, List.getElem?_eq_getElem h1]; rfl
    have e2 : (codes l)[j] = (codes l).getD j 0 := by rw [List.getD_eq_getElem?_getD, List.getElem?_eq_getElem h2]; rfl
    rw [e1, e2, h.2 j hj, codes_getD l j hj]
    have hx : l.getD j 0 ∈ l := by
      rw [List.getD_eq_getElem?_getD, List.getElem?_eq_getElem hj]
      exact List.getElem_mem hj
    have := hr _ hx
    by_cases h0 : 1 ≤ l.getD j 0
    · rw [if_pos (by omega)]
    · rw [if_neg (by omega), codeAt_none l j (by omega)]
      rfl
set_option maxRecDepth 100000 in
set_option maxHeartbeats 4000000 in
theorem of_ok (A : Option Addr) (c : Nat) (l : List Int) (w : World) (hh : KI.C w A l.length l) (hl : l.length ≤ 100000) (hr : right l = 0) :
    Calls Try.prog 12 #[.slice A l.length c] w fun e w' => ∃ v, e = .returned (.tuple #[v, .int .i64 0]) ∧ KI.R 3 w' w.heap.size (fun _ => True) v (codes l) ∧ Below w.heap.size w w' := by
  have H := Lib.hid hh
  have HR := Lib.hid hr
  have HK := Lib.hid (right_kraft hr)
  have HRG := Lib.hid (right_range hr)
  clear hh hr
  go_enter Try.func12, Try.ntmps12
  go_wp2_with (fail)
  refine (right_any _ _ _ l _ H.out (by omega)).mono ?_
  rintro e w1 ⟨rfl, rfl⟩
  rw [HR.out]
  go_wp2_with ((with_reducible refine gate_dst (N := 16) rfl ?_); apply stopper)
  unfold Stopper
  refine Kd.R_make KI (w0 := w1) w1.heap.size 3 rfl (N := 16) rfl 22 _ _ rfl (l.length : Int) rfl rfl Try.underlying22 (.int .i64 0) 8 infoInt rfl (by decide) (by omega) 0 (ok := fun _ => True) (okp := fun _ => True) ?mM (fun _ hk => hk) trivial (by omega) ?mL (Below.refl _ _) (Nat.le_refl _) ?_
  case mM => exact rfl
  case mL => omega
  intro v1 w2 hr hb hg hat
  rw [Int.toNat_natCast] at hr
  obtain ⟨A1, c1, rfl⟩ := Kd.R_slice hr
  rw [List.length_replicate] at hr ⊢
  have HR1 := Lib.hid hr
  have HB1 := Lib.hid hb
  clear hr hb hg hat
  go_wp2_with (fail)
  go_loopg [6, 7] 15 (fun j nxt n wr => ∃ m : Nat, m + j = 15 ∧ n = .int .i64 ((m : Int) + 1) ∧ nxt = .int .i64 (nx l m : Nat) ∧ Hid ((∃ o, Filled l (m + 1) 0 o ∧ KI.R 3 wr w1.heap.size (fun _ => True) (.slice A1 l.length c1) o) ∧ Below w1.heap.size w1 wr))
  case atStart => exact ⟨0, by omega, rfl, rfl, ⟨_, filled_start l, HR1.out⟩, HB1.out⟩
  case round =>
    obtain ⟨wo, rfl⟩ : ∃ wo : World, wo = wr := ⟨_, rfl⟩
    obtain ⟨m, hm, rfl, rfl, HI⟩ := hrel
    by_cases hlt : m < 15
    · obtain ⟨⟨o, hf, hr⟩, hb⟩ := HI.out
      have hnb := nx_bound l HK.out m (by omega)
      have hpw : 2 ^ m ≤ 2 ^ 14 := Nat.pow_le_pow_right (by decide) (by omega)
      obtain ⟨X, hX⟩ : ∃ X, nx l m = X := ⟨_, rfl⟩
      rw [hX] at hnb ⊢
      have hx1 : (X : Int) ≤ 16384 := by omega
      have hx0 : (0 : Int) ≤ (X : Int) := by omega
      have hlti : (m : Int) + 1 ≤ 15 := by omega
      have HF := Lib.hid hf
      have HR2 := Lib.hid hr
      have HB2 := Lib.hid hb
      have HX := Lib.hid hX
      have HM := Lib.hid hm
      clear hf hr hb HI hnb hpw hX hm
      go_wp2_with (fail)
      go_loopg [6, 25] l.length (fun j nxt i wr => ∃ s : Nat, s + j = l.length ∧ i = .int .i64 s ∧ nxt = .int .i64 ((X : Int) * 2 + (cnt (l.take s) (m + 1) : Nat)) ∧ Hid ((∃ o, Filled l (m + 1) s o ∧ KI.R 3 wr w1.heap.size (fun _ => True) (.slice A1 l.length c1) o) ∧ Below w1.heap.size w1 wr))
      case atStart => exact ⟨0, by omega, rfl, by rw [List.take_zero, cnt_nil]; go_num, ⟨o, HF.out, HR2.out⟩, HB2.out⟩
      case round =>
        obtain ⟨s, hs, rfl, rfl, HJ⟩ := hrel
        obtain ⟨⟨o, hf, hr⟩, hb⟩ := HJ.out
        by_cases hst : s < l.length
        · obtain ⟨ad, rfl, x0⟩ := ints_at (Kd.C_below H.out hb) s hst
          have hcs := cnt_take_succ l s (m + 1) hst
          have hcl := cnt_le_length (l.take s) (m + 1)
          have hcl2 := List.length_take_le s l
          obtain ⟨x, hx⟩ : ∃ x, l.getD s 0 = x := ⟨_, rfl⟩
          rw [hx] at x0 hcs
          have i0 : (0 : Int) ≤ s := by omega
          have i1 : (s : Int) < (l.length : Int) := by omega
          have i2 : ((s : Int)).toNat = s := by omega
          have HB3 := Lib.hid hb
          by_cases he : x = (m : Int) + 1
          · subst he
            rw [if_pos (by omega)] at hcs
            have hfs := filled_set hf hst (by rw [hx]; omega) (by omega)
            have hol := hf.1
            obtain ⟨g, cap, hv, hge, hgl, cells, hcell⟩ := Kd.R_form hr (by rw [hol]; omega)
            rw [hol] at hv
            injection hv with hv1 hv2 hv3
            subst hv1 hv3
            have hr' := hr
            rw [← hol] at hr'
            obtain ⟨y0, y1⟩ := Kd.R_cell (enc := Value.int .i64) (h1 := fun _ => rfl) (0 : Int) hr' (s : Int) i0 (by rw [hol]; exact i1)
            obtain ⟨p0, p1⟩ := Kd.R_put (enc := Value.int .i64) (h1 := fun _ => rfl) hr' (s : Int) ((X : Int) * 2 + (cnt (l.take s) (m + 1) : Nat))
            rw [hol] at p0
            rw [i2] at p0 p1 y0 y1
            have hval : (((2 * nx l m + cnt (l.take s) (m + 1) : Nat)) : Int) = (X : Int) * 2 + (cnt (l.take s) (m + 1) : Nat) := by rw [HX.out]; omega
            rw [hval] at hfs
            obtain ⟨C, hC⟩ : ∃ C, cnt (l.take s) (m + 1) = C := ⟨_, rfl⟩
            rw [hC] at hcs hcl p0 p1 hfs ⊢
            obtain ⟨old, hold⟩ : ∃ old, wr.cell? ⟨g, s, none⟩ = some old := ⟨_, y0⟩
            have hCb : (C : Int) ≤ 100000 := by omega
            have hC0 : (0 : Int) ≤ (C : Int) := by omega
            have e1 : ((m : Int) + 1 == (m : Int) + 1) = true := by simp
            have P0 := Lib.hid p0
            have HFS := Lib.hid hfs
            have HCS := Lib.hid hcs
            have HBW := Lib.hid (hb.grown p1 hb.size (fun k hk => by injection hk with hk; omega))
            have HS := Lib.hid hs
            clear hr hr' hb HJ hf hol y0 p0 p1 hfs hcs hcl hcl2 hx hval hC hcell HB3 hs
            go_wp2_with (fail)
            go_roundg (l.length - (s + 1))
            case measure => have := HS.out; omega
            case rel => exact ⟨s + 1, by have := HS.out; omega, by go_num, by rw [HCS.out]; go_num, ⟨_, HFS.out, P0.out⟩, HBW.out⟩
          · have hne : (x == (m : Int) + 1) = false := by simpa using he
            rw [if_neg (by omega)] at hcs
            have HFS := Lib.hid (filled_skip hf (by rw [hx]; omega))
            have HR3 := Lib.hid hr
            have HCS := Lib.hid hcs
            have HS := Lib.hid hs
            generalize cnt (l.take s) (m + 1) = C at *
            have hCb : (C : Int) ≤ 100000 := by omega
            have hC0 : (0 : Int) ≤ (C : Int) := by omega
            clear hr hb HJ hf hcs hcl hcl2 hx he hs
            go_wp2_with (fail)
            go_roundg (l.length - (s + 1))
            case measure => have := HS.out; omega
            case rel => exact ⟨s + 1, by have := HS.out; omega, by go_num, by rw [HCS.out]; go_num, ⟨_, HFS.out, HR3.out⟩, HB3.out⟩
        · obtain rfl : s = l.length := by omega
          have HFS := Lib.hid (filled_next hf)
          have HR3 := Lib.hid hr
          have HB3 := Lib.hid hb
          have hnx : (X : Int) * 2 + ((cnt (l.take l.length) (m + 1) : Nat) : Int) = ((nx l (m + 1) : Nat) : Int) := by
            rw [List.take_length]
            show _ = ((2 * nx l m + cnt l (m + 1) : Nat) : Int)
            rw [HX.out]
            omega
          rw [hnx]
          have hnb := nx_bound l HK.out (m + 1) (by omega)
          clear hr hb HJ hf hnx
          generalize hN : nx l (m + 1) = Nx at *
          have HN := Lib.hid hN
          clear hN hnb
          go_wp2_with (fail)
          go_roundg (15 - (m + 1))
          case measure => have := HM.out; omega
          case rel => exact ⟨m + 1, by have := HM.out; omega, by go_num, by rw [HN.out], ⟨_, HFS.out, HR3.out⟩, HB3.out⟩
    · obtain rfl : m = 15 := by omega
      obtain ⟨⟨o, hf, hr⟩, hb⟩ := HI.out
      have ho := filled_end hf HRG.out
      rw [ho] at hr
      have HR2 := Lib.hid hr
      have HB2 := Lib.hid hb
      clear hf hr hb HI ho
      generalize nx l 15 = Nx
      go_wp2_with (fail)
      go_ret2
      exact ⟨_, rfl, HR2.out, HB2.out⟩
set_option maxRecDepth 100000 in
theorem of_no (A : Option Addr) (c : Nat) (l : List Int) (w : World) (hh : KI.C w A l.length l) (hl : l.length ≤ 100000) (hr : right l ≠ 0) :
    Calls Try.prog 12 #[.slice A l.length c] w fun e w' => e = .returned (.tuple #[.slice none 0 0, .int .i64 (right l)]) ∧ w' = w := by
  have H := Lib.hid hh
  obtain ⟨r, hR⟩ : ∃ r, right l = r := ⟨_, rfl⟩
  rw [hR] at hr ⊢
  have HR := Lib.hid hR
  have hne : (r != 0) = true := bne_iff_ne.2 hr
  clear hh hR hr
  go_enter Try.func12, Try.ntmps12
  go_wp2_with (fail)
  refine (right_any _ _ _ l _ H.out (by omega)).mono ?_
  rintro e w1 ⟨rfl, rfl⟩
  rw [HR.out]
  go_wp2_with (fail)
  go_ret2
  exact ⟨rfl, rfl⟩
end Go.Proofs.Ytfdpgngdccdmpaa.Code
