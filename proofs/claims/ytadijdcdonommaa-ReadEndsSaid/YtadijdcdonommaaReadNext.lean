/- Chapter 21: the next symbol: the walk of Next; Len and Most. -/
import Derived.Test.YtadijdcdonommaaReadNew
import Derived.Test.YtadijdcdonommaaCodeSmall
namespace Go.Proofs.Ytadijdcdonommaa.Read
set_option linter.unusedVariables false
set_option linter.unusedSimpArgs false
open Go.RowKit Go.Proofs.YtadijdcdonommaaW.PrintWords Go.Proofs.YtadijdcdonommaaW.PrintMore Go.Proofs.Ytadijdcdonommaa.L Go.Proofs.Ytadijdcdonommaa.Ints Go.Proofs.Ytadijdcdonommaa.Code Go.Proofs.Ytadijdcdonommaa.BP Go.Proofs.Ytadijdcdonommaa.Bits

theorem tlen_nil (w : World) : Calls Try.prog 14 #[.pointer none] w fun e w' => e = .returned (.int .i64 0) ∧ w' = w := by
  go_enter Try.func14, Try.ntmps14
  go_wp2_with (fail)
  go_ret
  exact ⟨rfl, rfl⟩
theorem tmost_nil (w : World) : Calls Try.prog 15 #[.pointer none] w fun e w' => e = .returned (.int .i64 0) ∧ w' = w := by
  go_enter Try.func15, Try.ntmps15
  go_wp2_with (fail)
  go_ret
  exact ⟨rfl, rfl⟩
theorem tlen_any (b : Nat) (l : List Int) (w : World) (h : TOK w b l) : Calls Try.prog 14 #[.pointer (some ⟨b, 0, none⟩)] w fun e w' => e = .returned (.int .i64 (used l : Nat)) ∧ w' = w := by
  obtain ⟨base, A, c, f, h1, h2, h3⟩ := h
  have c0 := tb_used h1
  clear h1 h2 h3
  go_enter Try.func14, Try.ntmps14
  go_wp2_with (fail)
  go_ret
  exact ⟨rfl, rfl⟩
theorem tmost_any (b : Nat) (l : List Int) (w : World) (h : TOK w b l) : Calls Try.prog 15 #[.pointer (some ⟨b, 0, none⟩)] w fun e w' => e = .returned (.int .i64 (most l : Nat)) ∧ w' = w := by
  obtain ⟨base, A, c, f, h1, h2, h3⟩ := h
  have c0 := tb_most h1
  clear h1 h2 h3
  go_enter Try.func15, Try.ntmps15
  go_wp2_with (fail)
  go_ret
  exact ⟨rfl, rfl⟩
theorem next_nil (r : Option Addr) (w : World) : Calls Try.prog 13 #[.pointer none, .pointer r] w fun e w' => e = .returned (.tuple #[.int .i64 0, .int .i64 11]) ∧ w' = w := by
  go_enter Try.func13, Try.ntmps13
  go_wp2_with (fail)
  go_ret2
  exact ⟨rfl, rfl⟩
theorem next_nobody (b : Nat) (w : World) : Calls Try.prog 13 #[.pointer (some ⟨b, 0, none⟩), .pointer none] w fun e w' => e = .returned (.tuple #[.int .i64 0, .int .i64 11]) ∧ w' = w := by
  go_enter Try.func13, Try.ntmps13
  go_wp2_with (fail)
  go_ret2
  exact ⟨rfl, rfl⟩
/-- What a call of Next leaves. -/
def NextSays (l : List Int) (X : Int × Int × Nat) (rb at_ : Nat) (s : ByteArray) (w : World) (e : Ending) (w' : World) : Prop :=
  e = .returned (.tuple #[.int .i64 X.1, .int .i64 X.2.1]) ∧ RR w' rb s (at_ + X.2.2) ∧ Chg (fun k => k = rb) w w'
theorem used_pos {l : List Int} (hr : right l = 0) : 0 < used l := by
  rcases Nat.eq_zero_or_pos (used l) with h | h
  · exfalso
    have hk := used_zero_kraft l h
    have ha : ¬ alone l = true := by
      unfold alone
      rw [h]
      simp
    have hp : ¬ (kraft l = 32768 ∨ alone l = true) := by rintro (h2 | h2); omega; exact ha h2
    unfold right at hr
    by_cases hw : wrong l = true
    · rw [if_pos hw] at hr; omega
    · rw [if_neg hw, if_neg hp] at hr; omega
  · exact h
theorem most_15 {l : List Int} (hr : right l = 0) : most l ≤ 15 := most_le l 15 (fun x hx => by have := right_range hr x hx; omega)
theorem peek_eq (b at_ : Nat) (s : ByteArray) (n V : Int) (w : World) (h : RR w b s at_) (h0 : 0 ≤ n) (h1 : n ≤ 32) (hV : valN (rem s at_) n.toNat = V) :
    Calls Try.prog 26 #[.pointer (some ⟨b, 0, none⟩), .int .i64 n] w fun e w' => e = .returned (.int .i64 V) ∧ ∃ k, w' = w.drewN k := by
  subst hV
  exact peek_any b at_ s n w h h0 h1
set_option maxRecDepth 100000 in
set_option maxHeartbeats 4000000 in
theorem next_any (b rb at_ : Nat) (s : ByteArray) (l : List Int) (w : World) (h : TOK w b l) (hr : RR w rb s at_) (hl : l.length ≤ 400) (hrt : right l = 0) :
    Calls Try.prog 13 #[.pointer (some ⟨b, 0, none⟩), .pointer (some ⟨rb, 0, none⟩)] w (NextSays l (next l (rem s at_)) rb at_ s w) := by
  have HT := Lib.hid h
  have HR := Lib.hid hr
  obtain ⟨base, A, c, f, h1, h2, h3⟩ := h
  have c0 := tb_used h1
  have c1 := tb_most h1
  have HTB := Lib.hid h1
  have HFI := Lib.hid h2
  have HRW := Lib.hid h3
  obtain ⟨U, hU⟩ : ∃ U, used l = U := ⟨_, rfl⟩
  obtain ⟨M, hM⟩ : ∃ M, most l = M := ⟨_, rfl⟩
  have u0 := used_pos hrt
  have m15 := most_15 hrt
  have un := used_le l
  rw [hU] at c0 u0 un
  rw [hM] at c1 m15
  have u1 : ((U : Int) == 0) = false := beq_eq_false_iff_ne.2 (by omega)
  have HM := Lib.hid hM
  obtain ⟨L, hL⟩ : ∃ L, 8 * s.size - at_ = L := ⟨_, rfl⟩
  have hLL : (rem s at_).length = L := by rw [rem_length, hL]
  have HL := Lib.hid hL
  have HLL := Lib.hid hLL
  have hN : next l (rem s at_) = nextR l (rem s at_) 1 M := by rw [← hM]; rfl
  have HN := Lib.hid hN
  have hL9 : L ≤ 8000000000 := by have := hr.2; omega
  clear h1 h2 h3 hU hM hL hLL hN hr u0 un hrt
  go_enter Try.func13, Try.ntmps13
  go_wp2_with (fail)
  go_loopg [6] M (fun j i wr => ∃ n q : Nat, n + j = M ∧ i = .int .i64 ((n : Int) + 1) ∧ Hid (nextR l (rem s at_) (n + 1) (M - n) = next l (rem s at_)) ∧ wr = w.drewN q)
  case atStart => exact ⟨0, 0, by omega, rfl, by rw [HN.out]; rfl, rfl⟩
  case round =>
    obtain ⟨n, q, hn, rfl, HNX, rfl⟩ := hrel
    by_cases hlt : n < M
    · have n1 : (n : Int) + 1 ≤ (M : Int) := by omega
      have n15 : n + 1 ≤ 15 := by omega
      have HNN := Lib.hid hn
      clear hn
      by_cases hnl : L < n + 1
      · have n2 : (L : Int) < (n : Int) + 1 := by omega
        have HE := Lib.hid (show next l (rem s at_) = (0, 2, 0) by rw [← HNX.out, show M - n = (M - n - 1) + 1 by omega]; exact nextR_more (by rw [HLL.out]; exact hnl))
        clear hnl
        go_wp2_with (fail)
        refine (left_eq _ _ L _ _ (HR.out.drewN q) HL.out).mono ?_
        rintro e w2 ⟨rfl, q2, hw2⟩
        rw [World.drewN_drewN] at hw2
        subst hw2
        go_wp2_with (fail)
        go_ret2
        rw [HE.out]
        exact ⟨rfl, HR.out.drewN _, (Chg.refl _ w).drewN _⟩
      · have n2 : (n : Int) + 1 ≤ (L : Int) := by omega
        have hv := valN_range (rem_bits s at_) (n + 1)
        obtain ⟨V, hV⟩ : ∃ V, valN (rem s at_) (n + 1) = V := ⟨_, rfl⟩
        have HV := Lib.hid hV
        rw [hV] at hv
        obtain ⟨F, hF⟩ : ∃ F, f (n + 1) = F := ⟨_, rfl⟩
        have hf := HFI.out.2 (n + 1)
        have c2 := tb_first HTB.out (n + 1) (by omega)
        have c3 := tb_row HTB.out (n + 1) (by omega)
        rw [hF] at hf c2
        have HF := Lib.hid hF
        have hv2 : V < 32768 := by
          have h4 : (2 : Int) ^ (n + 1) ≤ 2 ^ 15 := by exact_mod_cast Nat.pow_le_pow_right (by decide : 0 < 2) n15
          omega
        obtain ⟨v0, _⟩ := hv
        obtain ⟨f0, f1⟩ := hf
        obtain ⟨S, hS⟩ : ∃ S, cnt l (n + 1) = S := ⟨_, rfl⟩
        rw [hS] at c3
        have HS := Lib.hid hS
        have hsl := cnt_le_length l (n + 1)
        have s400 : (S : Int) ≤ 400 := by omega
        obtain ⟨A1, hA1⟩ : ∃ x, A (n + 1) = x := ⟨_, rfl⟩
        obtain ⟨k1, hk1⟩ : ∃ x, c (n + 1) = x := ⟨_, rfl⟩
        rw [hA1, hk1] at c3
        have wv : IntKind.i64.wrap (V - F) = V - F := Code.i64_small _ (by omega) (by omega)
        have j2 : (((n : Int) + 1)).toNat = n + 1 := by omega
        have j3 : (0 : Int) ≤ (n : Int) + 1 := by omega
        have j4 : (n : Int) + 1 < 16 := by omega
        have n3 : ¬ ((L : Int) < (n : Int) + 1) := by omega
        clear hV hF hS hA1 hk1 hsl hnl
        have hcase : (F ≤ V ∧ V - F < (S : Int)) ∨ (V < F ∨ (F ≤ V ∧ (S : Int) ≤ V - F)) := by omega
        rcases hcase with ⟨k0, k2⟩ | hcase
        · have hF2 : F = ((2 * nx l n : Nat) : Int) := by rw [← HF.out]; exact HFI.out.1 n (by omega) (by rw [List.take_length, HS.out]; omega)
          obtain ⟨sy, g1, g2⟩ := hit_rank (l := l) (n := n) (v := V) n15 (by rw [← hF2]; omega) (by rw [← hF2, HS.out]; exact k2)
          rw [← hF2] at g2
          have HE := Lib.hid (show next l (rem s at_) = ((sy : Int), 0, n + 1) by rw [← HNX.out, show M - n = (M - n - 1) + 1 by omega]; exact nextR_hit (by rw [HLL.out]; omega) (by rw [HV.out]; exact g1))
          have HG2 := Lib.hid g2
          have k3 : 0 ≤ V - F := by omega
          clear hF2 g1 g2
          go_wp2_with (fail)
          refine (left_eq _ _ L _ _ (HR.out.drewN q) HL.out).mono ?_
          rintro e w2 ⟨rfl, q2, hw2⟩
          rw [World.drewN_drewN] at hw2
          subst hw2
          go_wp2_with (fail)
          go_quiet ((go_at_call 26; exact quiet2 (peek_eq rb at_ s _ V _ (by exact HR.out.drewN _) (by omega) (by omega) (by rw [j2]; exact HV.out))))
          go_wp2_with (fail)
          refine (skip_ok rb at_ s _ _ (by exact HR.out.drewN _) (by omega) (by rw [HL.out]; omega)).mono ?_
          rintro e w3 ⟨rfl, hr3, hc3⟩
          have HT3 := Lib.hid (RR.tab (HT.out.drewN _) hc3 (HR.out.drewN _))
          have HC3 := Lib.hid (((Chg.refl (fun k => k = rb) w).drewN _).trans hc3)
          have HR3 := Lib.hid hr3
          obtain ⟨base', A', c', f', t1, t2, t3⟩ := HT3.out
          have d3 := tb_row t1 (n + 1) (by omega)
          have d4 := (Kd.R_reads' (t3 (n + 1) (by omega))).2.2
          obtain ⟨A2, hA2⟩ : ∃ x, A' (n + 1) = x := ⟨_, rfl⟩
          obtain ⟨k4, hk4⟩ : ∃ x, c' (n + 1) = x := ⟨_, rfl⟩
          rw [HS.out, hA2, hk4] at d3
          rw [show (syms l (n + 1) l.length).length = S by rw [syms_length l (n + 1) l.length (Nat.le_refl _), List.take_length, HS.out], hA2] at d4
          obtain ⟨ad, rfl, x0⟩ := ints_at d4 (V - F).toNat (by omega)
          rw [HG2.out] at x0
          clear hr3 hc3 t1 t2 t3 d4 hA2 hk4 c0 c1 c2 c3
          go_wp2_with (fail)
          go_ret2
          rw [HE.out]
          exact ⟨rfl, by have := HR3.out; rwa [j2] at this, HC3.out⟩
        · have HE := Lib.hid (show nextR l (rem s at_) (n + 1 + 1) (M - (n + 1)) = next l (rem s at_) by
            rw [← HNX.out, show M - n = (M - (n + 1)) + 1 by omega]
            refine (nextR_on (by rw [HLL.out]; omega) ?_).symm
            rw [HV.out]
            by_cases hS0 : S = 0
            · refine hit_none fun t ht hlt he => ?_
              have := rank_lt l t n hlt
              rw [HS.out] at this
              omega
            · have hF2 : F = ((2 * nx l n : Nat) : Int) := by rw [← HF.out]; exact HFI.out.1 n (by omega) (by rw [List.take_length, HS.out]; omega)
              exact hit_norank n15 (by rw [← hF2, HS.out]; omega))
          rcases hcase with k0 | ⟨k0, k2⟩
          all_goals
            go_wp2_with (fail)
            refine (left_eq _ _ L _ _ (HR.out.drewN q) HL.out).mono ?_
            rintro e w2 ⟨rfl, q2, hw2⟩
            rw [World.drewN_drewN] at hw2
            subst hw2
            go_wp2_with (fail)
            go_quiet ((go_at_call 26; exact quiet2 (peek_eq rb at_ s _ V _ (by exact HR.out.drewN _) (by omega) (by omega) (by rw [j2]; exact HV.out))))
            go_wp2_with (fail)
            go_roundg (M - (n + 1))
            case measure => have := HNN.out; omega
            case rel => exact ⟨n + 1, _, by omega, by go_num, HE.out, rfl⟩
    · have HE := Lib.hid (show next l (rem s at_) = (0, 8, 0) by rw [← HNX.out, show M - n = 0 by omega]; rfl)
      have n1 : ¬ ((n : Int) + 1 ≤ (M : Int)) := by omega
      clear hn
      go_wp2_with (fail)
      go_ret2
      rw [HE.out]
      exact ⟨rfl, HR.out.drewN _, (Chg.refl _ w).drewN _⟩
end Go.Proofs.Ytadijdcdonommaa.Read
