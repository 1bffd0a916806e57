/- The document's own parse that looks ahead: how far one comes, how many bytes are taken, all tokens. -/
import Derived.Test.YtnjenkjoeilhhaaFlexL2
import Derived.Test.YtnjenkjoeilhhaaRefParse
namespace Go.Proofs.Ytnjenkjoeilhhaa.Flex
set_option linter.unusedVariables false
set_option linter.unusedSimpArgs false
open Go.RowKit Go.Proofs.YtnjenkjoeilhhaaW.PrintWords Go.Proofs.YtnjenkjoeilhhaaW.PrintMore Go.Proofs.Ytnjenkjoeilhhaa.L Go.Proofs.Ytnjenkjoeilhhaa.Texts Go.Proofs.Ytnjenkjoeilhhaa.Dict Go.Proofs.Ytnjenkjoeilhhaa.Ints Go.Proofs.Ytnjenkjoeilhhaa.Greedy

set_option maxRecDepth 100000 in
set_option maxHeartbeats 1000000 in
theorem ref_reach (A : Option Addr) (c : Nat) (l : List ByteArray) (b : ByteArray) (a n : Nat) (w : World) (h : KS.C w A l.length l) (han : a + n ≤ b.size) (hbs : b.size ≤ 1000000) :
    Calls Try.prog 16 #[.slice A l.length c, .string b, .int .i64 a, .int .i64 n] w fun e w' => e = .returned (.int .i64 (reach l b a n : Nat)) ∧ Below w.heap.size w w' := by
  have H := Lib.hid h
  have a0 : (0 : Int) ≤ (a : Int) := by omega
  have n0 : (0 : Int) ≤ (n : Int) := by omega
  have a1 : (a : Int) ≤ (b.size : Int) := by omega
  have a2 : (n : Int) ≤ (b.size : Int) - (a : Int) := by omega
  clear h
  by_cases he : a + n = b.size
  · have hr := Lib.hid (show reach l b a n = b.size by unfold reach nl; rw [if_neg (by omega)]; omega)
    have e1 : (a : Int) + (n : Int) = (b.size : Int) := by omega
    have e2 : ((b.size : Int) == (b.size : Int)) = true := by simp
    clear he
    go_enter Try.func16, Try.ntmps16
    go_wp2_with (fail)
    go_ret
    rw [hr.out]
    exact ⟨rfl, Below.refl _ _⟩
  · have hr := Lib.hid (show reach l b a n = a + n + firstLen l b (a + n) by unfold reach nl; rw [if_pos (by omega)])
    have e1 : ((a : Int) + (n : Int) == (b.size : Int)) = false := by simp; omega
    have hf := firstLen_fits l b (a + n) (by omega)
    obtain ⟨F, hF⟩ : ∃ F, firstLen l b (a + n) = F := ⟨_, rfl⟩
    rw [hF] at hf
    have HF := Lib.hid hF
    have hle : a + n ≤ b.size := by omega
    have S1 := Lib.hid (show (a : Int) + (n : Int) = ((a + n : Nat) : Int) by omega)
    clear he hF
    go_enter Try.func16, Try.ntmps16
    go_wp2_with (fail)
    rw [S1.out]
    refine (ref_first _ _ l b (a + n) _ H.out hle hbs).mono ?_
    rintro e w1 ⟨rfl, hb1⟩
    rw [HF.out]
    have HB1 := Lib.hid hb1
    clear hb1
    go_wp2_with (fail)
    go_ret
    rw [hr.out, HF.out]
    exact ⟨by go_num, HB1.out⟩
theorem ref_reach_out (A : Option Addr) (c : Nat) (l : List ByteArray) (b : ByteArray) (k n : Int) (w : World) (hk : -(2 ^ 63) ≤ k ∧ k < 2 ^ 63) (hbs : b.size ≤ 1000000) (h : k < 0 ∨ n < 0 ∨ (b.size : Int) < k ∨ (b.size : Int) - k < n) :
    Calls Try.prog 16 #[.slice A l.length c, .string b, .int .i64 k, .int .i64 n] w fun e w' => e = .returned (.int .i64 0) ∧ w' = w := by
  obtain ⟨hk1, hk2⟩ := hk
  by_cases h0 : k < 0
  · clear h
    go_enter Try.func16, Try.ntmps16
    go_wp2_with (fail)
    go_ret
    exact ⟨rfl, rfl⟩
  · have h00 : 0 ≤ k := by omega
    by_cases h1 : n < 0
    · clear h h0
      go_enter Try.func16, Try.ntmps16
      go_wp2_with (fail)
      go_ret
      exact ⟨rfl, rfl⟩
    · have h10 : 0 ≤ n := by omega
      by_cases h2 : (b.size : Int) < k
      · clear h h0 h1
        go_enter Try.func16, Try.ntmps16
        go_wp2_with (fail)
        go_ret
        exact ⟨rfl, rfl⟩
      · have h20 : k ≤ (b.size : Int) := by omega
        have h3 : (b.size : Int) - k < n := by omega
        clear h h0 h1 h2
        go_enter Try.func16, Try.ntmps16
        go_wp2_with (fail)
        go_ret
        exact ⟨rfl, rfl⟩

/-! ### the candidates, the greatest first -/
def downC (l : List ByteArray) (b : ByteArray) (a : Nat) : Nat → List Int
  | 0 => []
  | n + 1 => if has (piece b a (n + 1)) l = true ∨ n + 1 = 1 then ((n + 1 : Nat) : Int) :: downC l b a n else downC l b a n
def needs1 (zs : List Int) : Prop := zs = [] ∨ 1 < zs.getD (zs.length - 1) 0
theorem needs1_cons (x : Int) (t : List Int) (ht : t ≠ []) : needs1 (x :: t) ↔ needs1 t := by
  unfold needs1
  have hl : 0 < t.length := List.length_pos_iff.2 ht
  have h1 : (x :: t).getD ((x :: t).length - 1) 0 = t.getD (t.length - 1) 0 := by
    rw [List.length_cons, show t.length + 1 - 1 = (t.length - 1) + 1 by omega]
    rfl
  rw [h1]
  simp [ht]
theorem down_stands (l : List ByteArray) (b : ByteArray) (a : Nat) : ∀ n, (needs1 (standsDown l b a (n + 1)) → standsDown l b a (n + 1) ++ [1] = downC l b a (n + 1)) ∧ (¬ needs1 (standsDown l b a (n + 1)) → standsDown l b a (n + 1) = downC l b a (n + 1))
  | 0 => by
    have hC : downC l b a (0 + 1) = [1] := if_pos (Or.inr rfl)
    have hD : standsDown l b a (0 + 1) = if has (piece b a (0 + 1)) l = true then [1] else [] := rfl
    rw [hC, hD]
    by_cases hh : has (piece b a (0 + 1)) l = true
    · rw [if_pos hh]
      refine ⟨fun h => ?_, fun _ => rfl⟩
      rcases h with h | h
      · cases h
      · exact absurd h (by show ¬ (1 : Int) < 1; decide)
    · rw [if_neg hh]
      exact ⟨fun _ => rfl, fun h => absurd (.inl rfl) h⟩
  | n + 1 => by
    have ih := down_stands l b a n
    have hD : standsDown l b a (n + 1 + 1) = if has (piece b a (n + 1 + 1)) l = true then ((n + 1 + 1 : Nat) : Int) :: standsDown l b a (n + 1) else standsDown l b a (n + 1) := rfl
    have hC : downC l b a (n + 1 + 1) = if has (piece b a (n + 1 + 1)) l = true ∨ n + 1 + 1 = 1 then ((n + 1 + 1 : Nat) : Int) :: downC l b a (n + 1) else downC l b a (n + 1) := rfl
    rw [hD, hC]
    by_cases hh : has (piece b a (n + 1 + 1)) l = true
    · rw [if_pos hh, if_pos (.inl hh)]
      by_cases ht : standsDown l b a (n + 1) = []
      · have h1 := ih.1 (.inl ht)
        rw [ht] at h1 ⊢
        rw [← h1]
        refine ⟨fun _ => rfl, fun h => absurd (.inr ?_) h⟩
        show (1 : Int) < ((n + 1 + 1 : Nat) : Int)
        omega
      · rw [needs1_cons _ _ ht]
        exact ⟨fun h => by rw [← ih.1 h]; rfl, fun h => by rw [← ih.2 h]⟩
    · rw [if_neg hh, if_neg (by rintro (h | h); exact hh h; omega)]
      exact ih
theorem downC_mem (l : List ByteArray) (b : ByteArray) (a : Nat) (x : Int) : ∀ n, x ∈ downC l b a n ↔ ∃ m : Nat, x = m ∧ 1 ≤ m ∧ m ≤ n ∧ (has (piece b a m) l = true ∨ m = 1)
  | 0 => by
    constructor
    · intro h; simp [downC] at h
    · rintro ⟨m, _, h1, h2, _⟩; omega
  | n + 1 => by
    have ih := downC_mem l b a x n
    unfold downC
    by_cases hh : has (piece b a (n + 1)) l = true ∨ n + 1 = 1
    · rw [if_pos hh, List.mem_cons, ih]
      constructor
      · rintro (h | ⟨m, h1, h2, h3, h4⟩)
        · exact ⟨n + 1, h, by omega, Nat.le_refl _, hh⟩
        · exact ⟨m, h1, h2, by omega, h4⟩
      · rintro ⟨m, h1, h2, h3, h4⟩
        by_cases he : m = n + 1
        · subst he
          exact .inl h1
        · exact .inr ⟨m, h1, h2, by omega, h4⟩
    · rw [if_neg hh, ih]
      constructor
      · rintro ⟨m, h1, h2, h3, h4⟩
        exact ⟨m, h1, h2, by omega, h4⟩
      · rintro ⟨m, h1, h2, h3, h4⟩
        by_cases he : m = n + 1
        · subst he
          exact absurd h4 hh
        · exact ⟨m, h1, h2, by omega, h4⟩
theorem downC_falls (l : List ByteArray) (b : ByteArray) (a : Nat) : ∀ n i j, i < j → j < (downC l b a n).length → (downC l b a n).getD j 0 < (downC l b a n).getD i 0
  | 0, i, j, _, hj => by simp [downC] at hj
  | n + 1, i, j, hij, hj => by
    have ih := downC_falls l b a n
    unfold downC at hj ⊢
    by_cases hh : has (piece b a (n + 1)) l = true ∨ n + 1 = 1
    · rw [if_pos hh] at hj ⊢
      rw [List.length_cons] at hj
      cases j with
      | zero => omega
      | succ j =>
        cases i with
        | zero =>
          have hx : (downC l b a n).getD j 0 ∈ downC l b a n := by
            rw [List.getD_eq_getElem?_getD, List.getElem?_eq_getElem (by omega)]
            exact List.getElem_mem _
          obtain ⟨m, h1, _, h3, _⟩ := (downC_mem l b a _ n).1 hx
          show (downC l b a n).getD j 0 < ((n + 1 : Nat) : Int)
          omega
        | succ i => exact ih i j (by omega) (by omega)
    · rw [if_neg hh] at hj ⊢
      exact ih i j hij hj
def BInv (l : List ByteArray) (b : ByteArray) (a : Nat) (zs : List Int) (q B : Nat) : Prop := ∃ p, p < q ∧ zs.getD p 0 = (B : Int) ∧ ∀ i, i < q → ∀ m : Nat, zs.getD i 0 = (m : Int) → lexLe (reach l b a m) m (reach l b a B) B
theorem binv_start {l : List ByteArray} {b : ByteArray} {a : Nat} {zs : List Int} {m : Nat} (h : zs.getD 0 0 = (m : Int)) : BInv l b a zs 1 m := by
  refine ⟨0, by omega, h, fun i hi k hk => ?_⟩
  obtain rfl : i = 0 := by omega
  obtain rfl : k = m := by omega
  exact lexLe_refl _ _
theorem binv_take {l : List ByteArray} {b : ByteArray} {a : Nat} {zs : List Int} {q B m : Nat} (h : BInv l b a zs q B) (hm : zs.getD q 0 = (m : Int)) (hr : reach l b a B < reach l b a m) : BInv l b a zs (q + 1) m := by
  obtain ⟨p, hp, hB, hall⟩ := h
  refine ⟨q, by omega, hm, fun i hi k hk => ?_⟩
  by_cases he : i = q
  · subst he
    obtain rfl : k = m := by omega
    exact lexLe_refl _ _
  · have := hall i (by omega) k hk
    unfold lexLe at *
    omega
theorem binv_leave {l : List ByteArray} {b : ByteArray} {a : Nat} {zs : List Int} {q B m : Nat} (h : BInv l b a zs q B) (hm : zs.getD q 0 = (m : Int)) (hq : q < zs.length) (hz : ∀ i j, i < j → j < zs.length → zs.getD j 0 < zs.getD i 0) (hr : reach l b a m ≤ reach l b a B) : BInv l b a zs (q + 1) B := by
  obtain ⟨p, hp, hB, hall⟩ := h
  refine ⟨p, by omega, hB, fun i hi k hk => ?_⟩
  by_cases he : i = q
  · subst he
    obtain rfl : k = m := by omega
    have := hz p i hp hq
    unfold lexLe
    omega
  · exact hall i (by omega) k hk
theorem binv_end {l : List ByteArray} {b : ByteArray} {a B : Nat} (hok : okTexts l) (ha : a < b.size) (h : BInv l b a (downC l b a (min 40 (b.size - a))) (downC l b a (min 40 (b.size - a))).length B) : B = bestLen l b a := by
  obtain ⟨p, hp, hB, hall⟩ := h
  refine isBest_one ⟨?_, fun m hm => ?_⟩ (best_is l b a ha)
  · have hx : (B : Int) ∈ downC l b a (min 40 (b.size - a)) := by
      rw [← hB, List.getD_eq_getElem?_getD, List.getElem?_eq_getElem hp]
      exact List.getElem_mem _
    obtain ⟨m, h1, h2, h3, h4⟩ := (downC_mem l b a _ _).1 hx
    obtain rfl : B = m := by omega
    exact ⟨h2, by omega, h4⟩
  · have h40 : m ≤ 40 := by
      rcases hm.2.2 with hh | hh
      · obtain ⟨k, hk, he⟩ := List.getElem_of_mem ((has_iff _ _).1 hh)
        have := (hok.2 k hk).2.1
        rw [List.getD_eq_getElem?_getD, List.getElem?_eq_getElem hk, Option.getD_some, he, piece_size b a m hm.2.1] at this
        exact this
      · omega
    have hx : (m : Int) ∈ downC l b a (min 40 (b.size - a)) := (downC_mem l b a _ _).2 ⟨m, rfl, hm.1, by have := hm.2.1; omega, hm.2.2⟩
    obtain ⟨i, hi, he⟩ := List.getElem_of_mem hx
    exact hall i hi m (by rw [List.getD_eq_getElem?_getD, List.getElem?_eq_getElem hi]; exact he)
theorem downC_len (l : List ByteArray) (b : ByteArray) (a : Nat) : ∀ n, (downC l b a n).length ≤ n
  | 0 => Nat.le_refl _
  | n + 1 => by
    have := downC_len l b a n
    unfold downC
    split
    · rw [List.length_cons]; omega
    · omega
theorem downC_pos (l : List ByteArray) (b : ByteArray) (a : Nat) (n : Nat) (hn : 1 ≤ n) : 1 ≤ (downC l b a n).length := List.length_pos_of_mem ((downC_mem l b a 1 n).2 ⟨1, rfl, Nat.le_refl _, hn, .inr rfl⟩)
set_option maxRecDepth 100000 in
set_option maxHeartbeats 4000000 in
theorem ref_second (A : Option Addr) (c : Nat) (l : List ByteArray) (b : ByteArray) (a : Nat) (w : World) (h : KS.C w A l.length l) (hok : okTexts l) (ha : a < b.size) (hbs : b.size ≤ 1000000) :
    Calls Try.prog 13 #[.slice A l.length c, .string b, .int .i64 a] w fun e w' => e = .returned (.int .i64 (bestLen l b a : Nat)) ∧ Below w.heap.size w w' := by
  have H := Lib.hid h
  have HOK := Lib.hid hok
  have hds := down_stands l b a (min 40 (b.size - a) - 1)
  rw [show min 40 (b.size - a) - 1 + 1 = min 40 (b.size - a) by omega] at hds
  have hfin := fun B => binv_end (B := B) hok ha
  have hmem := fun x => downC_mem l b a x (min 40 (b.size - a))
  have hfall := downC_falls l b a (min 40 (b.size - a))
  have hlen := downC_len l b a (min 40 (b.size - a))
  have hpos := downC_pos l b a (min 40 (b.size - a)) (by omega)
  have hsl : (stands_ l b a).length ≤ 40 := Nat.le_trans (standsDown_len l b a _) (Nat.min_le_left _ _)
  have hst : stands_ l b a = standsDown l b a (min 40 (b.size - a)) := rfl
  rw [← hst] at hds
  obtain ⟨zs, hzs⟩ : ∃ zs, downC l b a (min 40 (b.size - a)) = zs := ⟨_, rfl⟩
  rw [hzs] at hds hfin hmem hfall hlen hpos
  have hzc : ∀ q, q < zs.length → ∃ m : Nat, zs.getD q 0 = (m : Int) ∧ a + m ≤ b.size := by
    intro q hq
    have hx : zs.getD q 0 ∈ zs := by
      rw [List.getD_eq_getElem?_getD, List.getElem?_eq_getElem hq]
      exact List.getElem_mem _
    obtain ⟨m, h1, _, h3, _⟩ := (hmem _).1 hx
    exact ⟨m, h1, by omega⟩
  have hz41 : zs.length ≤ 40 := by omega
  have HFIN := Lib.hid hfin
  have HFALL := Lib.hid hfall
  have HZC := Lib.hid hzc
  have HDS := Lib.hid hds
  have a0 : (0 : Int) ≤ (a : Int) := by omega
  have a1 : (a : Int) < (b.size : Int) := by omega
  clear h hok hfin hfall hzc hds hmem hzs hlen hst
  go_enter Try.func13, Try.ntmps13
  go_wp2_with (fail)
  refine (ref_stands _ _ l b a _ H.out (by omega) hbs).mono ?_
  rintro e w1 ⟨v1, rfl, hr1, hb1⟩
  have HDS2 := Lib.hid HDS.out
  generalize stands_ l b a = ss at hr1 HDS HDS2 hsl
  obtain ⟨A1, c1, rfl⟩ := Kd.R_slice hr1
  have HR1 := Lib.hid hr1
  have HB1 := Lib.hid hb1
  clear hr1 hb1 HDS2
  have hcase : ss = [] ∨ (0 < ss.length ∧ 1 < ss.getD (ss.length - 1) 0) ∨ (0 < ss.length ∧ ss.getD (ss.length - 1) 0 ≤ 1) := by
    by_cases h0 : ss = []
    · exact .inl h0
    · have := List.length_pos_iff.2 h0
      by_cases h1 : 1 < ss.getD (ss.length - 1) 0
      · exact .inr (.inl ⟨this, h1⟩)
      · exact .inr (.inr ⟨this, by omega⟩)
  rcases hcase with h0 | ⟨h0, h1⟩ | ⟨h0, h1⟩
  case' inl =>
    have hz := HDS.out.1 (.inl h0)
    subst h0
    have HZ := Lib.hid hz
    have HR2 := Lib.hid HR1.out
    clear hz
    go_wp2_with (((with_reducible refine gate_builtin (b := .append) (xs := #[.tmp 26, .tmp 27]) rfl ?_); at_builtin; apply stopper))
    unfold Stopper
    refine Kd.R_append KI (w0 := w) w.heap.size rfl (.tmp 26) (.tmp 27) 27 3 (.int .i64 0) 8 rfl Try.underlying27 infoInt rfl (by decide) (by omega) _ [] 1 [.int .i64 1] (fun _ => True) (fun _ => False) rfl rfl rfl (fun _ hk => hk.elim) (fun _ _ => trivial) (by exact HR2.out) HB1.out HB1.out.size (by first | omega | (simp only [List.length_nil]; omega)) ?_
    intro v2 w2 hr2 hb2 hg2 hat2
    rw [HZ.out] at hr2
    obtain ⟨A2, c2, rfl⟩ := Kd.R_slice hr2
    have HC := Lib.hid (Kd.R_reads' hr2).2.2
    have HB := Lib.hid hb2
    clear hr2 hb2 hg2 hat2 HR1 HB1 HR2 HZ
    obtain ⟨wx, rfl⟩ : ∃ x : World, x = w2 := ⟨_, rfl⟩
  case' inr.inl =>
    have hz := HDS.out.1 (.inr h1)
    have HZ := Lib.hid hz
    obtain ⟨x, hx⟩ : ∃ x, ss.getD (ss.length - 1) 0 = x := ⟨_, rfl⟩
    obtain ⟨L, hL⟩ : ∃ L, ss.length = L := ⟨_, rfl⟩
    obtain ⟨ad, rfl, x0⟩ := ints_at (Kd.R_reads' HR1.out).2.2 (ss.length - 1) (by omega)
    have hr2 := HR1.out
    rw [hL] at hr2
    rw [hx] at x0 h1
    rw [hL] at x0 h0 hsl ⊢
    have HLL := Lib.hid hL
    have HR2 := Lib.hid hr2
    have i0 : (0 : Int) ≤ (L : Int) - 1 := by omega
    have i1 : (L : Int) - 1 < (L : Int) := by omega
    have i2 : ((L : Int) - 1).toNat = L - 1 := by omega
    have i3 : ((L : Int) == 0) = false := by simp; omega
    clear hz hx hr2
    go_wp2_with (((with_reducible refine gate_builtin (b := .append) (xs := #[.tmp 26, .tmp 27]) rfl ?_); at_builtin; apply stopper))
    unfold Stopper
    refine Kd.R_append KI (w0 := w) w.heap.size rfl (.tmp 26) (.tmp 27) 27 3 (.int .i64 0) 8 rfl Try.underlying27 infoInt rfl (by decide) (by omega) _ ss 1 [.int .i64 1] (fun _ => True) (fun _ => False) rfl rfl rfl (fun _ hk => hk.elim) (fun _ _ => trivial) (by exact HR2.out) HB1.out HB1.out.size (by first | omega | (simp only [List.length_nil]; omega)) ?_
    intro v2 w2 hr2 hb2 hg2 hat2
    rw [HZ.out] at hr2
    obtain ⟨A2, c2, rfl⟩ := Kd.R_slice hr2
    have HC := Lib.hid (Kd.R_reads' hr2).2.2
    have HB := Lib.hid hb2
    clear hr2 hb2 hg2 hat2 HR1 HB1 HR2 HZ
    obtain ⟨wx, rfl⟩ : ∃ x : World, x = w2 := ⟨_, rfl⟩
  case' inr.inr =>
    have hz := HDS.out.2 (by rintro (h | h); (rw [h] at h0; exact absurd h0 (by decide)); exact Int.not_lt.2 h1 h)
    subst hz
    obtain ⟨x, hx⟩ : ∃ x, ss.getD (ss.length - 1) 0 = x := ⟨_, rfl⟩
    obtain ⟨ad, rfl, x0⟩ := ints_at (Kd.R_reads' HR1.out).2.2 (ss.length - 1) (by omega)
    rw [hx] at x0 h1
    have HC := Lib.hid (Kd.R_reads' HR1.out).2.2
    have HB := Lib.hid HB1.out
    have i0 : (0 : Int) ≤ (ss.length : Int) - 1 := by omega
    have i1 : (ss.length : Int) - 1 < (ss.length : Int) := by omega
    have i2 : ((ss.length : Int) - 1).toNat = ss.length - 1 := by omega
    have i3 : ((ss.length : Int) == 0) = false := beq_eq_false_iff_ne.2 (by omega)
    clear hx HR1 HB1
    obtain ⟨zs, rfl⟩ : ∃ x : List Int, x = ss := ⟨_, rfl⟩
    obtain ⟨wx, rfl⟩ : ∃ x : World, x = w1 := ⟨_, rfl⟩
    skip
  all_goals
    obtain ⟨m0, hm0, hf0⟩ := HZC.out 0 (by omega)
    obtain ⟨ad, had, y0⟩ := ints_at HC.out 0 (by omega)
    first | subst had | (injection had with had; subst had)
    rw [hm0] at y0
    have y1 : wx.cell? ad = some (.int .i64 m0) := by
      have h0 : ad.add 0 = ad := by cases ad; simp [Addr.add]
      rw [h0] at y0
      exact y0
    have hzp : (0 : Int) < (zs.length : Int) := by omega
    have HBI := Lib.hid (binv_start (l := l) (b := b) (a := a) hm0)
    clear hm0 HDS hsl
    go_wp2_with (fail)
    go_loopg [8, 9] (zs.length - 1) (fun j best i wr => ∃ q B : Nat, q + j = zs.length ∧ best = .int .i64 B ∧ i = .int .i64 q ∧ Hid (1 ≤ q ∧ BInv l b a zs q B ∧ a + B ≤ b.size ∧ Below w.heap.size w wr ∧ Below wx.heap.size wx wr))
    case atStart => exact ⟨1, m0, by omega, rfl, rfl, by omega, HBI.out, hf0, HB.out, Below.refl _ _⟩
    case round =>
      obtain ⟨q, B, hq, rfl, rfl, HI⟩ := hrel
      obtain ⟨hq1, hbi, hfb, hb, hbx⟩ := HI.out
      by_cases hlt : q < zs.length
      · obtain ⟨m, hm, hf⟩ := HZC.out q hlt
        obtain ⟨ad2, had, x0⟩ := ints_at (Kd.C_below HC.out hbx) q hlt
        injection had with had
        subst had
        rw [hm] at x0
        obtain ⟨RM, hRM⟩ : ∃ R, reach l b a m = R := ⟨_, rfl⟩
        obtain ⟨RB, hRB⟩ : ∃ R, reach l b a B = R := ⟨_, rfl⟩
        have i0 : (0 : Int) ≤ q := by omega
        have i1 : (q : Int) < (zs.length : Int) := by omega
        have i2 : ((q : Int)).toNat = q := by omega
        have HQ := Lib.hid hq
        have HRM := Lib.hid hRM
        have HRB := Lib.hid hRB
        have HM := Lib.hid hm
        have HBV := Lib.hid hbi
        have HB5 := Lib.hid hb
        have HX5 := Lib.hid hbx
        clear hq hRM hRB hm hbi hb hbx HI
        go_wp2_with (fail)
        refine (ref_reach _ _ l b a m _ (Kd.C_below H.out HB5.out) hf hbs).mono ?_
        rintro e w6 ⟨rfl, hb6⟩
        rw [HRM.out]
        have HB6 := Lib.hid (Ints.bel_trans HB5.out HB5.out.size hb6)
        have HX6 := Lib.hid (Ints.bel_trans HX5.out HX5.out.size hb6)
        clear hb6 HB5 HX5
        go_wp2_with (fail)
        refine (ref_reach _ _ l b a B _ (Kd.C_below H.out HB6.out) hfb hbs).mono ?_
        rintro e w7 ⟨rfl, hb7⟩
        rw [HRB.out]
        have HB7 := Lib.hid (Ints.bel_trans HB6.out HB6.out.size hb7)
        have HX7 := Lib.hid (Ints.bel_trans HX6.out HX6.out.size hb7)
        clear hb7 HB6 HX6
        obtain ⟨ad2, had, x7⟩ := ints_at (Kd.C_below HC.out HX7.out) q hlt
        injection had with had
        subst had
        rw [HM.out] at x7
        by_cases hr : RB < RM
        · have g1 : decide ((RB : Int) < (RM : Int)) = true := decide_eq_true (by omega)
          have g1' : decide (RB < RM) = true := decide_eq_true hr
          have g2 : (RB : Int) < (RM : Int) := by omega
          have HN := Lib.hid (binv_take HBV.out HM.out (by rw [HRB.out, HRM.out]; exact hr))
          clear hr
          go_wp2_with (fail)
          go_roundg (zs.length - (q + 1))
          case measure => have := HQ.out; omega
          case rel => exact ⟨q + 1, m, by have := HQ.out; omega, rfl, by go_num, by omega, HN.out, hf, HB7.out, HX7.out⟩
        · have g1 : decide ((RB : Int) < (RM : Int)) = false := decide_eq_false (by omega)
          have g1' : decide (RB < RM) = false := decide_eq_false hr
          have g2 : (RM : Int) ≤ (RB : Int) := by omega
          have HN := Lib.hid (binv_leave HBV.out HM.out hlt HFALL.out (by rw [HRB.out, HRM.out]; omega))
          clear hr
          go_wp2_with (fail)
          go_roundg (zs.length - (q + 1))
          case measure => have := HQ.out; omega
          case rel => exact ⟨q + 1, B, by have := HQ.out; omega, rfl, by go_num, by omega, HN.out, hfb, HB7.out, HX7.out⟩
      · obtain rfl : q = zs.length := by omega
        have hB := Lib.hid (HFIN.out B hbi)
        have HB5 := Lib.hid hb
        clear hq hbi hb hbx HI
        go_wp2_with (fail)
        go_ret
        rw [← hB.out]
        exact ⟨rfl, HB5.out⟩
set_option maxRecDepth 100000 in
set_option maxHeartbeats 1000000 in
theorem ref_flex (A : Option Addr) (c : Nat) (l : List ByteArray) (b : ByteArray) (w : World) (h : KS.C w A l.length l) (hok : okTexts l) (hbs : b.size ≤ 1000000) :
    Calls Try.prog 18 #[.slice A l.length c, .string b] w fun e w' => ∃ v, e = .returned v ∧ KI.R 3 w' w.heap.size (fun _ => True) v (parseF l b) ∧ Below w.heap.size w w' := by
  have H := Lib.hid h
  have HOK := Lib.hid hok
  clear h hok
  go_enter Try.func18, Try.ntmps18
  go_wp2_with (fail)
  go_loopg [5, 6] b.size (fun j v i wr => ∃ (a : Nat) (xs : List Int), i = .int .i64 a ∧ Hid (a + j = b.size ∧ xs.length ≤ a ∧ parseF l b = xs ++ fromF l b a ∧ KI.R 3 wr w.heap.size (fun _ => True) v xs ∧ Below w.heap.size w wr))
  case atStart => exact ⟨0, [], rfl, by omega, Nat.le_refl _, rfl, Kd.R_nil _ _ _ _ _, Below.refl _ _⟩
  case round =>
    obtain ⟨a, xs, rfl, HI⟩ := hrel
    obtain ⟨haj, hxa, hgo, hr, hb⟩ := HI.out
    by_cases hlt : a < b.size
    · have hlti : (a : Int) < (b.size : Int) := by omega
      have hst := fromF_step l b a hlt
      have hf1 := best_pos l b a hlt
      have hf2 := best_fits l b a hlt
      obtain ⟨F, hF⟩ : ∃ F, bestLen l b a = F := ⟨_, rfl⟩
      rw [hF] at hst hf1 hf2
      obtain ⟨T, hT⟩ : ∃ T, tokenOf l b a F = T := ⟨_, rfl⟩
      rw [hT] at hst
      rw [hst] at hgo
      have HT := Lib.hid hT
      have HF := Lib.hid hF
      have HGO := Lib.hid hgo
      have HXA := Lib.hid hxa
      have HAJ := Lib.hid haj
      have HR := Lib.hid hr
      have HB := Lib.hid hb
      obtain ⟨A5, c5, rfl⟩ := Kd.R_slice hr
      have S1 := Lib.hid (show ((a + F : Nat) : Int) = (a : Int) + (F : Int) by omega)
      clear hst hgo hxa haj hr hb hT hF HI
      go_wp2_with (fail)
      refine (ref_second _ _ l b a _ (Kd.C_below H.out HB.out) HOK.out hlt hbs).mono ?_
      rintro e w1 ⟨rfl, hb1⟩
      rw [HF.out]
      have HB1 := Lib.hid (Ints.bel_trans HB.out HB.out.size hb1)
      have HR1 := Lib.hid (Kd.R_below HR.out hb1)
      clear hb1 HB HR
      go_wp2_with (fail)
      refine (ref_token _ _ l b a F _ (Kd.C_below H.out HB1.out) HOK.out.1 hlt hf2 hbs).mono ?_
      rintro e w2 ⟨rfl, q, rfl⟩
      rw [HT.out]
      go_wp2_with (((with_reducible refine gate_builtin (b := .append) (xs := #[.tmp 16, .tmp 22]) rfl ?_); at_builtin; apply stopper))
      unfold Stopper
      refine Kd.R_append KI (w0 := w) w.heap.size rfl (.tmp 16) (.tmp 22) 27 3 (.int .i64 0) 8 rfl Try.underlying27 infoInt rfl (by decide) (by omega) (.slice A5 xs.length c5) xs T [.int .i64 T] (fun _ => True) (fun _ => False) rfl rfl rfl (fun _ hk => hk.elim) (fun _ _ => trivial) (Kd.R_drewN HR1.out q) (below_drewN HB1.out q) HB1.out.size (by have := HXA.out; omega) ?_
      intro v1 w3 ho hb2 hg2 hat2
      have HR2 := Lib.hid ho
      have HB2 := Lib.hid hb2
      clear ho hb2 hg2 hat2 HR1 HB1
      go_wp2
      go_roundg (b.size - (a + F))
      case measure => have := HAJ.out; omega
      case rel => exact ⟨a + F, xs ++ [T], by rw [S1.out], by omega, by rw [List.length_append]; have := HXA.out; simp; omega, by rw [HGO.out, List.append_assoc]; rfl, HR2.out, HB2.out⟩
    · have hge : (b.size : Int) ≤ (a : Int) := by omega
      rw [fromF_end l b a (by omega), List.append_nil] at hgo
      have HGO := Lib.hid hgo
      have HR := Lib.hid hr
      have HB := Lib.hid hb
      clear hgo hr hb HI haj hxa
      go_wp2_with (fail)
      go_ret
      exact ⟨_, rfl, by rw [HGO.out]; exact HR.out, HB.out⟩
end Go.Proofs.Ytnjenkjoeilhhaa.Flex
