/- Chapter 21: one symbol alone is a bit of 0; a bit of 1 begins none. -/
import Derived.Test.YtadijdcdonommaaReadL1
namespace Go.Proofs.Ytadijdcdonommaa.Read
set_option linter.unusedVariables false
set_option linter.unusedSimpArgs false
open Go.RowKit Go.Proofs.YtadijdcdonommaaW.PrintWords Go.Proofs.YtadijdcdonommaaW.PrintMore Go.Proofs.Ytadijdcdonommaa.L Go.Proofs.Ytadijdcdonommaa.Ints Go.Proofs.Ytadijdcdonommaa.Code Go.Proofs.Ytadijdcdonommaa.BP Go.Proofs.Ytadijdcdonommaa.Bits

/-- One symbol alone, of one bit. -/
def oneAt (N k : Nat) : List Int := (List.replicate N 0).set k 1
theorem oneAt_length (N k : Nat) : (oneAt N k).length = N := by simp [oneAt]
theorem oneAt_eq (N k : Nat) (h : k < N) : oneAt N k = List.replicate k 0 ++ (1 : Int) :: List.replicate (N - k - 1) 0 := by
  unfold oneAt
  rw [List.set_eq_take_append_cons_drop, if_pos (by simpa using h), List.take_replicate, List.drop_replicate, Nat.min_eq_left (by omega)]
  rw [show N - (k + 1) = N - k - 1 by omega]
theorem oneAt_here (N k : Nat) (h : k < N) : (oneAt N k).getD k 0 = 1 := by
  unfold oneAt
  rw [List.getD_eq_getElem?_getD, List.getElem?_set_self (by simpa using h)]
  rfl
theorem oneAt_mem {N k : Nat} (h : k < N) (x : Int) (hx : x ∈ oneAt N k) : x = 0 ∨ x = 1 := by
  rw [oneAt_eq N k h] at hx
  rcases List.mem_append.1 hx with h1 | h1
  · exact .inl (List.eq_of_mem_replicate h1)
  · rcases List.mem_cons.1 h1 with h1 | h1
    · exact .inr h1
    · exact .inl (List.eq_of_mem_replicate h1)
theorem oneAt_used (N k : Nat) (h : k < N) : used (oneAt N k) = 1 := by
  rw [oneAt_eq N k h]
  unfold used
  rw [List.countP_append, List.countP_cons, List.countP_replicate, List.countP_replicate]
  simp
theorem oneAt_most (N k : Nat) (h : k < N) : most (oneAt N k) = 1 := by
  have h1 := most_le (oneAt N k) 1 (fun x hx => by rcases oneAt_mem h x hx with rfl | rfl <;> decide)
  have h2 := most_getD (oneAt N k) k
  rw [oneAt_here N k h] at h2
  have : (1 : Int).toNat = 1 := rfl
  omega
theorem oneAt_right (N k : Nat) (h : k < N) : right (oneAt N k) = 0 := by
  have hw : ¬ wrong (oneAt N k) = true := by
    intro h1
    obtain ⟨x, hx, h2⟩ := List.any_eq_true.1 h1
    rw [Bool.or_eq_true, decide_eq_true_eq, decide_eq_true_eq] at h2
    rcases oneAt_mem h x hx with rfl | rfl <;> omega
  have ha : alone (oneAt N k) = true := by
    unfold alone
    rw [oneAt_used N k h, Bool.and_eq_true]
    exact ⟨by decide, List.any_eq_true.2 ⟨1, by rw [oneAt_eq N k h]; simp, by decide⟩⟩
  unfold right
  rw [if_neg hw, if_pos (.inr ha)]
theorem oneAt_code (N k : Nat) (h : k < N) : codeAt (oneAt N k) k = 0 := by
  rw [codeAt_some _ k 0 (by rw [oneAt_here N k h]; rfl) (by omega)]
  have : (oneAt N k).take k = List.replicate k 0 := by
    rw [oneAt_eq N k h, List.take_append_of_le_length (by simp), List.take_of_length_le (by simp)]
  rw [this]
  unfold cnt
  rw [List.countP_replicate]
  rfl
theorem code_one' {N k s : Nat} (h : k < N) (hs : s < (oneAt N k).length) (hl : (oneAt N k).getD s 0 = ((1 : Nat) : Int)) : s = k := by
  rcases Nat.lt_trichotomy s k with h1 | h1 | h1
  · exfalso
    unfold oneAt at hl
    rw [List.getD_eq_getElem?_getD, List.getElem?_set_ne (by omega), List.getElem?_replicate] at hl
    split at hl <;> simp at hl
  · exact h1
  · exfalso
    unfold oneAt at hl
    rw [List.getD_eq_getElem?_getD, List.getElem?_set_ne (by omega), List.getElem?_replicate] at hl
    split at hl <;> simp at hl
theorem oneAt_next (N k : Nat) (h : k < N) (bs : List Int) : next (oneAt N k) bs = if bs.length < 1 then (0, 2, 0) else if bs.getD 0 0 = 0 then ((k : Int), 0, 1) else (0, 8, 0) := by
  show nextR _ _ 1 (most (oneAt N k)) = _
  rw [oneAt_most N k h]
  by_cases hb : bs.length < 1
  · rw [if_pos hb, nextR_more hb]
  · rw [if_neg hb]
    have hv : valN bs 1 = bs.getD 0 0 := by simp [valN]
    by_cases h0 : bs.getD 0 0 = 0
    · rw [if_pos h0]
      refine nextR_hit (by omega) ?_
      rw [hv, h0]
      have := hit_of (l := oneAt N k) (n := 0) (s := k) (by rw [oneAt_here N k h]; rfl) (by omega)
      rw [oneAt_code N k h] at this
      exact this
    · rw [if_neg h0, nextR_on (by omega) ?_]
      · rfl
      · rw [hv]
        refine hit_none fun s hs hl he => ?_
        have : s = k := code_one' h hs hl
        subst this
        rw [oneAt_code N s h] at he
        exact h0 he.symm
theorem and_one8 (c m : Nat) (hc : c < 256) : Go.bits .and .u8 ((c : Int) / 2 ^ m) 1 = (c : Int) / 2 ^ m % 2 := by
  have h0 : (c : Int) / 2 ^ m = ((c / 2 ^ m : Nat) : Int) := by simp
  have h1 : c / 2 ^ m ≤ c := Nat.div_le_self _ _
  rw [h0]
  have := (bits_nat .u8 8 (by decide) (fun x a b => by simp [IntKind.wrap, IntKind.bits, IntKind.signed]; omega) (c / 2 ^ m) 1 (by omega) (by decide)).1
  rw [nat_mask1] at this
  simpa using this
set_option maxRecDepth 100000 in
set_option maxHeartbeats 4000000 in
theorem ReadOne_walk (n at_ : Int) (b : ByteArray) (w : World) (hn : (Lit.int .i64 n).wf = true) (ha : (Lit.int .i64 at_).wf = true) (hb : b.size ≤ 140737488351232) :
    Calls Try.prog 4 #[.int .i64 n, .int .i64 at_, .string b] w fun e w' => e = .returned (.bool true) ∧ Below w.heap.size w w' := by
  clear hn ha
  have hcase : (n < 1 ∨ (1 ≤ n ∧ (300 < n ∨ (n ≤ 300 ∧ (20 : Int) < (b.size : Int))))) ∨ (1 ≤ n ∧ n ≤ 300 ∧ (b.size : Int) ≤ 20) := by omega
  rcases hcase with hcase | ⟨h1, h2, h3⟩
  · rcases hcase with h | ⟨h0, h | ⟨h1, h2⟩⟩
    all_goals
      go_enter Try.func4, Try.ntmps4
      go_wp2_with (go_at_call 9; refine (alive_any _).mono ?_; rintro e w' ⟨rfl, hb⟩)
      go_ret
      exact ⟨rfl, hb⟩
  · obtain ⟨N, rfl⟩ := Int.eq_ofNat_of_zero_le (by omega : 0 ≤ n)
    have hlow : -(N : Int) < at_.tmod (N : Int) := by
      by_cases h : 0 ≤ at_
      · have := Int.tmod_nonneg (N : Int) h
        omega
      · have h1 := Int.tmod_lt_of_pos (-at_) (show (0 : Int) < N by omega)
        rw [Int.neg_tmod] at h1
        omega
    have hhigh := Int.tmod_lt_of_pos at_ (show (0 : Int) < N by omega)
    obtain ⟨k, hkv, hkl⟩ : ∃ k : Nat, (at_.tmod (N : Int) + (N : Int)).tmod (N : Int) = (k : Int) ∧ k < N := by
      have h1 := Int.tmod_nonneg (N : Int) (show 0 ≤ at_.tmod (N : Int) + (N : Int) by omega)
      have h2 := Int.tmod_lt_of_pos (at_.tmod (N : Int) + (N : Int)) (show (0 : Int) < N by omega)
      exact ⟨((at_.tmod (N : Int) + (N : Int)).tmod (N : Int)).toNat, by omega, by omega⟩
    have hw64 : wrap64 (at_.tmod (N : Int) + (N : Int)) = at_.tmod (N : Int) + (N : Int) := by
      unfold wrap64
      omega
    have hN0 : (N : Int) ≠ 0 := by omega
    clear hlow hhigh hb
    go_enter Try.func4, Try.ntmps4
    go_wp2_with (fail)
    refine (alive_any _).mono ?_
    rintro e w1 ⟨rfl, hb1⟩
    have HB1 := Lib.hid hb1
    clear hb1
    go_wp2_with ((with_reducible refine gate_dst (N := 34) rfl ?_); apply stopper)
    unfold Stopper
    refine Kd.R_make KI (w0 := w1) w1.heap.size 3 rfl (N := 34) rfl 22 _ _ rfl (N : Int) rfl rfl Try.underlying22 (.int .i64 0) 8 infoInt rfl (by decide) (by omega) 0 (ok := fun _ => True) (okp := fun _ => True) ?mM (fun _ hk => hk) trivial (by omega) ?mL (Below.refl _ _) (Nat.le_refl _) ?_
    case mM => exact rfl
    case mL => omega
    intro v1 w2 hr hb2 hg2 hat2
    rw [Int.toNat_natCast] at hr
    obtain ⟨g, cap, rfl, hge, hgl, cells, hcell⟩ := Kd.R_form hr (by rw [List.length_replicate]; omega)
    obtain ⟨y0, y1⟩ := Kd.R_cell (enc := Value.int .i64) (h1 := fun _ => rfl) (0 : Int) hr (k : Int) (by omega) (by rw [List.length_replicate]; omega)
    obtain ⟨p0, p1⟩ := Kd.R_put (enc := Value.int .i64) (h1 := fun _ => rfl) hr (k : Int) 1
    rw [Int.toNat_natCast] at p0 p1 y0 y1
    rw [List.length_replicate] at p0 ⊢
    obtain ⟨old, hold⟩ : ∃ old, w2.cell? ⟨g, k, none⟩ = some old := ⟨_, y0⟩
    have HC2 := Lib.hid (show KI.C (w2.setCell ⟨g, k, none⟩ (.int .i64 1)) (some ⟨g, 0, none⟩) N (oneAt N k) by
      have := (Kd.R_reads' p0).2.2
      rw [show ((List.replicate N (0 : Int)).set k 1).length = N by simp] at this
      exact this)
    have HB2 := Lib.hid (show Below w.heap.size w (w2.setCell ⟨g, k, none⟩ (.int .i64 1)) from Ints.bel_trans HB1.out HB1.out.size (hb2.grown p1 hb2.size (fun k hk => by injection hk with hk; omega)))
    have i0 : (0 : Int) ≤ k := by omega
    have i1 : (k : Int) < (N : Int) := by omega
    have i2 : ((k : Int)).toNat = k := by omega
    clear hr hb2 hg2 hat2 y0 p0 p1 hcell hge hgl HB1
    go_wp2_with (fail)
    generalize w2.setCell ⟨g, k, none⟩ (.int .i64 1) = W2 at *
    have hnew := new_ok (some ⟨g, 0, none⟩) cap (oneAt N k) W2 (by rw [oneAt_length]; exact HC2.out) (by rw [oneAt_length]; omega) (oneAt_right N k hkl)
    rw [oneAt_length] at hnew
    refine hnew.mono ?_
    rintro e w3 ⟨tb, rfl, ht, hb3⟩
    have HT := Lib.hid ht
    have HB3 := Lib.hid (Ints.bel_trans HB2.out HB2.out.size hb3)
    clear ht hb3 HB2 HC2 hnew
    go_wp2_with (fail)
    refine (newReader b _ (by omega)).mono ?_
    rintro e w4 ⟨rfl, rfl⟩
    have HR4 := Lib.hid (rr_new b w3 (by omega))
    have HT4 := Lib.hid (HT.out.below ((Below.refl w3.heap.size w3).alloc (Nat.le_refl _) (.cells #[.string b, .int .i64 0] 60 (0, 0))))
    have HB4 := Lib.hid (HB3.out.alloc HB3.out.size (.cells #[.string b, .int .i64 0] 60 (0, 0)))
    have HRB := Lib.hid HB3.out.size
    clear HT HB3
    generalize hW4 : w3.alloc (.cells #[.string b, .int .i64 0] 60 (0, 0)) = W4 at *
    obtain ⟨rb, hrb⟩ : ∃ x, w3.heap.size = x := ⟨_, rfl⟩
    rw [hrb] at HR4 HRB ⊢
    clear hW4 hrb hw64 hkv
    go_wp2_with (fail)
    refine (tlen_any _ _ _ HT4.out).mono ?_
    rintro e w5 ⟨rfl, rfl⟩
    rw [oneAt_used N k hkl]
    go_wp2_with (fail)
    refine (tmost_any _ _ _ HT4.out).mono ?_
    rintro e w5 ⟨rfl, rfl⟩
    rw [oneAt_most N k hkl]
    go_wp2_with (fail)
    go_loopg [12] (8 * b.size) (fun j i wr => ∃ q : Nat, q + j = 8 * b.size ∧ i = .int .i64 q ∧ Hid (RR wr rb b q ∧ TOK wr tb (oneAt N k) ∧ Below w.heap.size w wr))
    case atStart => exact ⟨0, by omega, rfl, HR4.out, HT4.out, HB4.out⟩
    case round =>
      obtain ⟨q, hq, rfl, HI⟩ := hrel
      clear HR4 HT4 HB4
      obtain ⟨hr, ht, hb⟩ := HI.out
      have HRG := Lib.hid (oneAt_right N k hkl)
      by_cases hlt : q < 8 * b.size
      · have hlti : (q : Int) < 8 * (b.size : Int) := by omega
        have hX := oneAt_next N k hkl (rem b q)
        rw [rem_length, if_neg (by omega)] at hX
        have i8 : q / 8 < b.size := by omega
        have hbit : bits BinOp.and IntKind.u8 (((b[q / 8]'i8).toNat : Int) / 2 ^ (7 - q % 8)) 1 = (rem b q).getD 0 0 := by
          rw [and_one8 _ _ (UInt8.toNat_lt _), rem_getD, Nat.add_zero, ← bt_at b _ (by rw [Int.toNat_natCast]; exact i8)]
          rfl
        have d0 : (0 : Int) ≤ (q : Int) / 8 := by omega
        have d1 : (q : Int) / 8 < (b.size : Int) := by omega
        have d2 : (0 : Int) ≤ 7 - (q : Int) % 8 := by omega
        have HR := Lib.hid hr
        have HT := Lib.hid ht
        have HB := Lib.hid hb
        have HQ := Lib.hid hq
        rcases rem_bit b q with h0 | h0
        · rw [if_pos h0] at hX
          rw [h0] at hbit
          have t1 : (bits BinOp.and IntKind.u8 (((b[q / 8]'i8).toNat : Int) / 2 ^ (7 - q % 8)) 1 == 1) = false := by rw [hbit]; rfl
          have t2 : ((k : Int) != (k : Int)) = false := by simp
          have HX := Lib.hid hX
          clear hX hbit hr ht hb hq HI h0
          go_wp2_with (fail)
          refine (next_any tb rb q b (oneAt N k) _ HT.out HR.out (by rw [oneAt_length]; omega) HRG.out).mono ?_
          rintro e w6 ⟨rfl, hr6, hc6⟩
          have HT6 := Lib.hid (RR.tab HT.out hc6 HR.out)
          have HB6 := Lib.hid (HB.out.trans (hc6.below (B := w.heap.size) HB.out.size (fun k hk => by have := HRB.out; omega)))
          rw [HX.out] at hr6 ⊢
          have HR6 := Lib.hid hr6
          clear hr6 hc6
          go_wp2_with (fail)
          go_roundg (8 * b.size - (q + 1))
          case measure => have := HQ.out; omega
          case rel => exact ⟨q + 1, by have := HQ.out; omega, by go_num, HR6.out, HT6.out, HB6.out⟩
        · rw [if_neg (by omega)] at hX
          rw [h0] at hbit
          have t1 : (bits BinOp.and IntKind.u8 (((b[q / 8]'i8).toNat : Int) / 2 ^ (7 - q % 8)) 1 == 1) = true := by rw [hbit]; rfl
          have HX := Lib.hid hX
          have t2 : (8 * (b.size : Int) - (q : Int) == 8 * (b.size : Int) - (q : Int)) = true := by simp
          have HL := Lib.hid (show ((8 * b.size - q : Nat) : Int) = 8 * (b.size : Int) - (q : Int) by omega)
          clear hX hbit hr ht hb hq HI h0
          go_wp2_with (fail)
          refine (next_any tb rb q b (oneAt N k) _ HT.out HR.out (by rw [oneAt_length]; omega) HRG.out).mono ?_
          rintro e w6 ⟨rfl, hr6, hc6⟩
          have HB6 := Lib.hid (HB.out.trans (hc6.below (B := w.heap.size) HB.out.size (fun k hk => by have := HRB.out; omega)))
          rw [HX.out] at hr6 ⊢
          have HR6 := Lib.hid hr6
          clear hr6 hc6
          go_wp2_with (fail)
          refine (left_any _ _ _ _ HR6.out).mono ?_
          rintro e w7 ⟨rfl, q7, rfl⟩
          rw [Nat.add_zero, HL.out]
          go_wp2_with (fail)
          go_ret
          exact ⟨rfl, below_drewN HB6.out q7⟩
      · obtain rfl : q = 8 * b.size := by omega
        have hX := oneAt_next N k hkl (rem b (8 * b.size))
        rw [rem_length, if_pos (by omega)] at hX
        have HX := Lib.hid hX
        have HR := Lib.hid hr
        have HT := Lib.hid ht
        have HB := Lib.hid hb
        have t1 : ¬ (((8 * b.size : Nat) : Int) < 8 * (b.size : Int)) := by omega
        clear hX hr ht hb hq HI
        go_wp2_with (fail)
        refine (next_any tb rb (8 * b.size) b (oneAt N k) _ HT.out HR.out (by rw [oneAt_length]; omega) HRG.out).mono ?_
        rintro e w6 ⟨rfl, hr6, hc6⟩
        have HB6 := Lib.hid (HB.out.trans (hc6.below (B := w.heap.size) HB.out.size (fun k hk => by have := HRB.out; omega)))
        rw [HX.out] at hr6 ⊢
        clear hr6 hc6
        go_wp2_with (fail)
        go_ret
        exact ⟨rfl, HB6.out⟩
end Go.Proofs.Ytadijdcdonommaa.Read
