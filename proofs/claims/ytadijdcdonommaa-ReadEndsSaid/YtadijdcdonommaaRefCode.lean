/- Chapter 19: the document's answer. -/
import Derived.Test.YtadijdcdonommaaCodeSmall
namespace Go.Proofs.Ytadijdcdonommaa.Code
set_option linter.unusedVariables false
set_option linter.unusedSimpArgs false
open Go.RowKit Go.Proofs.YtadijdcdonommaaW.PrintWords Go.Proofs.YtadijdcdonommaaW.PrintMore Go.Proofs.Ytadijdcdonommaa.L Go.Proofs.Ytadijdcdonommaa.Ints

theorem pow_termu (x : Int) (h1 : 1 ≤ x) (h15 : x ≤ 15) : wrap64 (2 ^ min (15 - x).toNat 64) = ((term x : Nat) : Int) := by
  rw [Nat.min_eq_left (by omega)]
  exact pow_term x h1 h15
set_option maxHeartbeats 1000000 in
theorem ref_kraft (A : Option Addr) (n c : Nat) (l : List Int) (w : World) (hh : KI.C w A n l) (h8 : n * 8 ≤ 140737488351232) :
    Calls Try.prog 33 #[.slice A n c] w fun e w' => e = .returned (.int .i64 (kraft l : Nat)) ∧ w' = w := by
  have H := Lib.hid hh
  have hnl := ki_len hh
  clear hh
  subst hnl
  go_enter Try.func33, Try.ntmps33
  go_wp2_with (fail)
  go_loopg [3, 4] l.length (fun j s i wr => ∃ k : Nat, k + j = l.length ∧ i = .int .i64 k ∧ s = .int .i64 (kraft (l.take k) : Nat) ∧ wr = w)
  case atStart => exact ⟨0, by omega, rfl, rfl, rfl⟩
  case round =>
    obtain ⟨k, hk, rfl, rfl, rfl⟩ := hrel
    by_cases hlt : k < l.length
    · obtain ⟨ad, rfl, x0⟩ := ints_at H.out k hlt
      have hn := kraft_take_succ l k hlt
      obtain ⟨x, hx⟩ : ∃ x, l.getD k 0 = x := ⟨_, rfl⟩
      rw [hx] at x0 hn
      have h1 := kraft_le (l.take k)
      have h3 := List.length_take_le k l
      obtain ⟨S, hS⟩ : ∃ S, kraft (l.take k) = S := ⟨_, rfl⟩
      rw [hS] at hn h1 ⊢
      have hs2 : (S : Int) ≤ 288230376151711744 := by omega
      have i0 : (0 : Int) ≤ k := by omega
      have i1 : (k : Int) < (l.length : Int) := by omega
      have i2 : ((k : Int)).toNat = k := by omega
      have HN := Lib.hid hn
      clear hn h1 h3 hx hS
      by_cases hp : 1 ≤ x ∧ x ≤ 15
      · obtain ⟨p1, p2⟩ := hp
        have hw := pow_term x p1 p2
        have hwu : IntKind.u64.wrap (15 - x) = 15 - x := u64_small _ (by omega) (by omega)
        have hw2 : IntKind.i64.wrap (2 ^ min (15 - x).toNat 64) = ((term x : Nat) : Int) := by
          obtain ⟨n, hn⟩ : ∃ n : Nat, (15 - x).toNat = n := ⟨_, rfl⟩
          have ht : term x = 2 ^ n := by unfold term; rw [if_pos ⟨p1, p2⟩, ← hn, show 15 - x.toNat = (15 - x).toNat by omega]
          rw [hn, pow_form n (by omega), ht]
        obtain ⟨T, hT⟩ : ∃ T, term x = T := ⟨_, rfl⟩
        have ht := term_le x
        rw [hT] at hw hw2 ht HN
        have ht2 : (T : Int) ≤ 16384 := by omega
        have ht3 : (0 : Int) ≤ (T : Int) := by omega
        have hg : (0 : Int) ≤ 15 - x := by omega
        clear hT
        go_wp2_with (fail)
        go_roundg (l.length - (k + 1))
        case measure => omega
        case rel => exact ⟨k + 1, by omega, by go_num, by rw [HN.out]; go_num, rfl⟩
      · have HT := Lib.hid (show term x = 0 by unfold term; rw [if_neg hp])
        by_cases p1 : x < 1
        · clear hp
          go_wp2_with (fail)
          go_roundg (l.length - (k + 1))
          case measure => omega
          case rel => exact ⟨k + 1, by omega, by go_num, by rw [HN.out, HT.out]; rfl, rfl⟩
        · have p2 : 15 < x := by omega
          have p3 : 1 ≤ x := by omega
          clear hp p1
          go_wp2_with (fail)
          go_roundg (l.length - (k + 1))
          case measure => omega
          case rel => exact ⟨k + 1, by omega, by go_num, by rw [HN.out, HT.out]; rfl, rfl⟩
    · obtain rfl : k = l.length := by omega
      go_wp2_with (fail)
      go_ret
      rw [List.take_length]
      exact ⟨rfl, rfl⟩
theorem alone_eq (l : List Int) : alone l = (decide (used l = 1) && decide (lastPos l = 1)) := by
  unfold alone
  by_cases h1 : used l = 1
  · have := lastPos_one l h1
    rw [decide_eq_true h1, Bool.true_and, Bool.true_and, Bool.eq_iff_iff, ← this, decide_eq_true_eq]
  · rw [decide_eq_false h1]
    rfl
theorem wrong_at {l : List Int} {k : Nat} (h : k < l.length) (hx : l.getD k 0 < 0 ∨ 15 < l.getD k 0) : wrong l = true := by
  unfold wrong
  rw [List.any_eq_true]
  refine ⟨_, getD_mem' h, ?_⟩
  rw [Bool.or_eq_true, decide_eq_true_eq, decide_eq_true_eq]
  exact hx
theorem wrong_not {l : List Int} (h : ∀ k, k < l.length → 0 ≤ l.getD k 0 ∧ l.getD k 0 ≤ 15) : wrong l = false := by
  cases hw : wrong l
  · rfl
  · unfold wrong at hw
    rw [List.any_eq_true] at hw
    obtain ⟨x, hx, h2⟩ := hw
    rw [Bool.or_eq_true, decide_eq_true_eq, decide_eq_true_eq] at h2
    obtain ⟨k, hk, rfl⟩ := List.getElem_of_mem hx
    have := h k hk
    rw [List.getD_eq_getElem?_getD, List.getElem?_eq_getElem hk, Option.getD_some] at this
    omega
set_option maxRecDepth 100000 in
set_option maxHeartbeats 2000000 in
theorem ref_right (A : Option Addr) (n c : Nat) (l : List Int) (w : World) (hh : KI.C w A n l) (h8 : n * 8 ≤ 140737488351232) :
    Calls Try.prog 25 #[.slice A n c] w fun e w' => e = .returned (.int .i64 (right l)) ∧ w' = w := by
  have H := Lib.hid hh
  have hnl := ki_len hh
  clear hh
  subst hnl
  go_enter Try.func25, Try.ntmps25
  go_wp2_with (fail)
  go_loopg [3, 4, 5] l.length (fun j s o i wr => ∃ k : Nat, k + j = l.length ∧ i = .int .i64 k ∧ s = .int .i64 (used (l.take k) : Nat) ∧ o = .int .i64 (lastPos (l.take k)) ∧ Hid (∀ q, q < k → 0 ≤ l.getD q 0 ∧ l.getD q 0 ≤ 15) ∧ wr = w)
  case atStart => exact ⟨0, by omega, rfl, rfl, rfl, fun q h => absurd h (Nat.not_lt_zero q), rfl⟩
  case round =>
    obtain ⟨k, hk, rfl, rfl, rfl, HI, rfl⟩ := hrel
    by_cases hlt : k < l.length
    · obtain ⟨ad, rfl, x0⟩ := ints_at H.out k hlt
      have hn := used_take_succ l k hlt
      have hp2 : lastPos (l.take (k + 1)) = if 0 < l.getD k 0 then l.getD k 0 else lastPos (l.take k) := by rw [take_succ_getD l k hlt, lastPos_snoc]
      have hwa := wrong_at hlt
      have hall : 0 ≤ l.getD k 0 ∧ l.getD k 0 ≤ 15 → ∀ q, q < k + 1 → 0 ≤ l.getD q 0 ∧ l.getD q 0 ≤ 15 := fun h q hq => by
        by_cases e : q = k
        · rw [e]; exact h
        · exact HI.out q (by omega)
      obtain ⟨x, hx⟩ : ∃ x, l.getD k 0 = x := ⟨_, rfl⟩
      rw [hx] at x0 hn hp2 hwa hall
      have h1 := used_le (l.take k)
      have h3 := List.length_take_le k l
      obtain ⟨S, hS⟩ : ∃ S, used (l.take k) = S := ⟨_, rfl⟩
      obtain ⟨Lp, hL⟩ : ∃ Lp, lastPos (l.take k) = Lp := ⟨_, rfl⟩
      rw [hS] at hn h1 ⊢
      rw [hL] at hp2 ⊢
      have hs2 : (S : Int) ≤ 9223372036854775806 := by omega
      have i0 : (0 : Int) ≤ k := by omega
      have i1 : (k : Int) < (l.length : Int) := by omega
      have i2 : ((k : Int)).toNat = k := by omega
      have HN := Lib.hid hn
      have HP2 := Lib.hid hp2
      have HWA := Lib.hid hwa
      have HALL := Lib.hid hall
      clear hn h1 h3 hx hS hL hp2 hwa hall
      by_cases hw0 : x < 0
      · have hr := Lib.hid (show right l = 1 by unfold right; rw [if_pos (HWA.out (.inl hw0))])
        go_wp2_with (fail)
        go_ret
        rw [hr.out]
        exact ⟨rfl, rfl⟩
      · have hw00 : 0 ≤ x := by omega
        by_cases hw1 : 15 < x
        · have hr := Lib.hid (show right l = 1 by unfold right; rw [if_pos (HWA.out (.inr hw1))])
          clear hw0
          go_wp2_with (fail)
          go_ret
          rw [hr.out]
          exact ⟨rfl, rfl⟩
        · have hw10 : x ≤ 15 := by omega
          have HAL := Lib.hid (HALL.out ⟨hw00, hw10⟩)
          by_cases hp : 0 < x
          · have HP := Lib.hid hp
            clear hw0 hw1
            go_wp2_with (fail)
            go_roundg (l.length - (k + 1))
            case measure => omega
            case rel => exact ⟨k + 1, by omega, by go_num, by rw [HN.out, if_pos HP.out]; go_num, by rw [HP2.out, if_pos HP.out], HAL, rfl⟩
          · obtain rfl : x = 0 := by omega
            clear hw0 hw1 hp
            go_wp2_with (fail)
            go_roundg (l.length - (k + 1))
            case measure => omega
            case rel => exact ⟨k + 1, by omega, by go_num, by rw [HN.out, if_neg (by omega)]; rfl, by rw [HP2.out, if_neg (by omega)], HAL, rfl⟩
    · obtain rfl : k = l.length := by omega
      rw [List.take_length]
      have hwr := wrong_not HI.out
      have hae := alone_eq l
      obtain ⟨S, hS⟩ : ∃ S, used l = S := ⟨_, rfl⟩
      obtain ⟨Lp, hL⟩ : ∃ Lp, lastPos l = Lp := ⟨_, rfl⟩
      obtain ⟨K, hK⟩ : ∃ K, kraft l = K := ⟨_, rfl⟩
      rw [hS, hL] at hae ⊢
      have hr : right l = if K = 32768 ∨ (decide (S = 1) && decide (Lp = 1)) = true then 0 else 8 := by
        unfold right
        rw [hwr, hae, hK, if_neg (by decide)]
      have HR := Lib.hid hr
      have HK := Lib.hid hK
      clear hwr hae hS hL hK hr
      go_wp2_with (fail)
      refine (ref_kraft _ _ _ l _ H.out h8).mono ?_
      rintro e w1 ⟨rfl, rfl⟩
      rw [HK.out]
      by_cases hk1 : K = 32768
      · subst hk1
        have hr := Lib.hid (show right l = 0 by rw [HR.out, if_pos (.inl rfl)])
        go_wp2_with (fail)
        go_ret
        rw [hr.out]
        exact ⟨rfl, rfl⟩
      · have hk2 : ((K : Int) == 32768) = false := by simpa using (show ¬ (K : Int) = 32768 by omega)
        by_cases hs1 : S = 1
        · subst hs1
          by_cases hl1 : Lp = 1
          · subst hl1
            have hr := Lib.hid (show right l = 0 by rw [HR.out, if_pos (.inr (by decide))])
            clear hk1
            go_wp2_with (fail)
            go_ret
            rw [hr.out]
            exact ⟨rfl, rfl⟩
          · have hr := Lib.hid (show right l = 8 by rw [HR.out, if_neg (by simp [hk1, hl1])])
            have hl2 : (Lp == 1) = false := by simpa using hl1
            clear hk1 hl1
            go_wp2_with (fail)
            go_ret
            rw [hr.out]
            exact ⟨rfl, rfl⟩
        · have hr := Lib.hid (show right l = 8 by rw [HR.out, if_neg (by simp [hk1, hs1])])
          have hs2 : ((S : Int) == 1) = false := by simpa using (show ¬ (S : Int) = 1 by omega)
          clear hk1 hs1
          go_wp2_with (fail)
          go_ret
          rw [hr.out]
          exact ⟨rfl, rfl⟩

/-! ### Codes -/
set_option maxRecDepth 100000 in
set_option maxHeartbeats 4000000 in
theorem ref_codes_ok (A : Option Addr) (c : Nat) (l : List Int) (w : World) (hh : KI.C w A l.length l) (hl : l.length ≤ 100000) (hr : right l = 0) :
    Calls Try.prog 11 #[.slice A l.length c] w fun e w' => ∃ v, e = .returned (.tuple #[v, .int .i64 0]) ∧ KI.R 3 w' w.heap.size (fun _ => True) v (codes l) ∧ Below w.heap.size w w' := by
  have H := Lib.hid hh
  have HR := Lib.hid hr
  have HK := Lib.hid (right_kraft hr)
  have HRG := Lib.hid (right_range hr)
  clear hh hr
  go_enter Try.func11, Try.ntmps11
  go_wp2_with (fail)
  refine (ref_right _ _ _ l _ H.out (by omega)).mono ?_
  rintro e w1 ⟨rfl, rfl⟩
  rw [HR.out]
  go_wp2_with ((with_reducible refine gate_dst (N := 16) rfl ?_); apply stopper)
  unfold Stopper
  refine Kd.R_make KI (w0 := w1) w1.heap.size 3 rfl (N := 16) rfl 22 _ _ rfl (l.length : Int) rfl rfl Try.underlying22 (.int .i64 0) 8 infoInt rfl (by decide) (by omega) 0 (ok := fun _ => True) (okp := fun _ => True) ?mM (fun _ hk => hk) trivial (by omega) ?mL (Below.refl _ _) (Nat.le_refl _) ?_
  case mM => exact rfl
  case mL => omega
  intro v1 w2 hr hb hg hat
  rw [Int.toNat_natCast] at hr
  obtain ⟨A1, c1, rfl⟩ := Kd.R_slice hr
  rw [List.length_replicate] at hr ⊢
  have HR1 := Lib.hid hr
  have HB1 := Lib.hid hb
  clear hr hb hg hat
  go_wp2_with (fail)
  go_loopg [6, 7] 15 (fun j nxt n wr => ∃ m : Nat, m + j = 15 ∧ n = .int .i64 ((m : Int) + 1) ∧ nxt = .int .i64 (nx l m : Nat) ∧ Hid ((∃ o, Filled l (m + 1) 0 o ∧ KI.R 3 wr w1.heap.size (fun _ => True) (.slice A1 l.length c1) o) ∧ Below w1.heap.size w1 wr))
  case atStart => exact ⟨0, by omega, rfl, rfl, ⟨_, filled_start l, HR1.out⟩, HB1.out⟩
  case round =>
    obtain ⟨wo, rfl⟩ : ∃ wo : World, wo = wr := ⟨_, rfl⟩
    obtain ⟨m, hm, rfl, rfl, HI⟩ := hrel
    by_cases hlt : m < 15
    · obtain ⟨⟨o, hf, hr⟩, hb⟩ := HI.out
      have hnb := nx_bound l HK.out m (by omega)
      have hpw : 2 ^ m ≤ 2 ^ 14 := Nat.pow_le_pow_right (by decide) (by omega)
      obtain ⟨X, hX⟩ : ∃ X, nx l m = X := ⟨_, rfl⟩
      rw [hX] at hnb ⊢
      have hx1 : (X : Int) ≤ 16384 := by omega
      have hx0 : (0 : Int) ≤ (X : Int) := by omega
      have hlti : (m : Int) + 1 ≤ 15 := by omega
      have HF := Lib.hid hf
      have HR2 := Lib.hid hr
      have HB2 := Lib.hid hb
      have HX := Lib.hid hX
      have HM := Lib.hid hm
      clear hf hr hb HI hnb hpw hX hm
      go_wp2_with (fail)
      go_loopg [6, 8] l.length (fun j nxt i wr => ∃ s : Nat, s + j = l.length ∧ i = .int .i64 s ∧ nxt = .int .i64 ((X : Int) * 2 + (cnt (l.take s) (m + 1) : Nat)) ∧ Hid ((∃ o, Filled l (m + 1) s o ∧ KI.R 3 wr w1.heap.size (fun _ => True) (.slice A1 l.length c1) o) ∧ Below w1.heap.size w1 wr))
      case atStart => exact ⟨0, by omega, rfl, by rw [List.take_zero, cnt_nil]; go_num, ⟨o, HF.out, HR2.out⟩, HB2.out⟩
      case round =>
        obtain ⟨s, hs, rfl, rfl, HJ⟩ := hrel
        obtain ⟨⟨o, hf, hr⟩, hb⟩ := HJ.out
        by_cases hst : s < l.length
        · obtain ⟨ad, rfl, x0⟩ := ints_at (Kd.C_below H.out hb) s hst
          have hcs := cnt_take_succ l s (m + 1) hst
          have hcl := cnt_le_length (l.take s) (m + 1)
          have hcl2 := List.length_take_le s l
          obtain ⟨x, hx⟩ : ∃ x, l.getD s 0 = x := ⟨_, rfl⟩
          rw [hx] at x0 hcs
          have i0 : (0 : Int) ≤ s := by omega
          have i1 : (s : Int) < (l.length : Int) := by omega
          have i2 : ((s : Int)).toNat = s := by omega
          have HB3 := Lib.hid hb
          by_cases he : x = (m : Int) + 1
          · subst he
            rw [if_pos (by omega)] at hcs
            have hfs := filled_set hf hst (by rw [hx]; omega) (by omega)
            have hol := hf.1
            obtain ⟨g, cap, hv, hge, hgl, cells, hcell⟩ := Kd.R_form hr (by rw [hol]; omega)
            rw [hol] at hv
            injection hv with hv1 hv2 hv3
            subst hv1 hv3
            have hr' := hr
            rw [← hol] at hr'
            obtain ⟨y0, y1⟩ := Kd.R_cell (enc := Value.int .i64) (h1 := fun _ => rfl) (0 : Int) hr' (s : Int) i0 (by rw [hol]; exact i1)
            obtain ⟨p0, p1⟩ := Kd.R_put (enc := Value.int .i64) (h1 := fun _ => rfl) hr' (s : Int) ((X : Int) * 2 + (cnt (l.take s) (m + 1) : Nat))
            rw [hol] at p0
            rw [i2] at p0 p1 y0 y1
            have hval : (((2 * nx l m + cnt (l.take s) (m + 1) : Nat)) : Int) = (X : Int) * 2 + (cnt (l.take s) (m + 1) : Nat) := by rw [HX.out]; omega
            rw [hval] at hfs
            obtain ⟨C, hC⟩ : ∃ C, cnt (l.take s) (m + 1) = C := ⟨_, rfl⟩
            rw [hC] at hcs hcl p0 p1 hfs ⊢
            obtain ⟨old, hold⟩ : ∃ old, wr.cell? ⟨g, s, none⟩ = some old := ⟨_, y0⟩
            have hCb : (C : Int) ≤ 100000 := by omega
            have hC0 : (0 : Int) ≤ (C : Int) := by omega
            have e1 : ((m : Int) + 1 == (m : Int) + 1) = true := by simp
            have P0 := Lib.hid p0
            have HFS := Lib.hid hfs
            have HCS := Lib.hid hcs
            have HBW := Lib.hid (hb.grown p1 hb.size (fun k hk => by injection hk with hk; omega))
            have HS := Lib.hid hs
            clear hr hr' hb HJ hf hol y0 p0 p1 hfs hcs hcl hcl2 hx hval hC hcell HB3 hs
            go_wp2_with (fail)
            go_roundg (l.length - (s + 1))
            case measure => have := HS.out; omega
            case rel => exact ⟨s + 1, by have := HS.out; omega, by go_num, by rw [HCS.out]; go_num, ⟨_, HFS.out, P0.out⟩, HBW.out⟩
          · have hne : (x == (m : Int) + 1) = false := by simpa using he
            rw [if_neg (by omega)] at hcs
            have HFS := Lib.hid (filled_skip hf (by rw [hx]; omega))
            have HR3 := Lib.hid hr
            have HCS := Lib.hid hcs
            have HS := Lib.hid hs
            generalize cnt (l.take s) (m + 1) = C at *
            have hCb : (C : Int) ≤ 100000 := by omega
            have hC0 : (0 : Int) ≤ (C : Int) := by omega
            clear hr hb HJ hf hcs hcl hcl2 hx he hs
            go_wp2_with (fail)
            go_roundg (l.length - (s + 1))
            case measure => have := HS.out; omega
            case rel => exact ⟨s + 1, by have := HS.out; omega, by go_num, by rw [HCS.out]; go_num, ⟨_, HFS.out, HR3.out⟩, HB3.out⟩
        · obtain rfl : s = l.length := by omega
          have HFS := Lib.hid (filled_next hf)
          have HR3 := Lib.hid hr
          have HB3 := Lib.hid hb
          have hnx : (X : Int) * 2 + ((cnt (l.take l.length) (m + 1) : Nat) : Int) = ((nx l (m + 1) : Nat) : Int) := by
            rw [List.take_length]
            show _ = ((2 * nx l m + cnt l (m + 1) : Nat) : Int)
            rw [HX.out]
            omega
          rw [hnx]
          have hnb := nx_bound l HK.out (m + 1) (by omega)
          clear hr hb HJ hf hnx
          generalize hN : nx l (m + 1) = Nx at *
          have HN := Lib.hid hN
          clear hN hnb
          go_wp2_with (fail)
          go_roundg (15 - (m + 1))
          case measure => have := HM.out; omega
          case rel => exact ⟨m + 1, by have := HM.out; omega, by go_num, by rw [HN.out], ⟨_, HFS.out, HR3.out⟩, HB3.out⟩
    · obtain rfl : m = 15 := by omega
      obtain ⟨⟨o, hf, hr⟩, hb⟩ := HI.out
      have ho := filled_end hf HRG.out
      rw [ho] at hr
      have HR2 := Lib.hid hr
      have HB2 := Lib.hid hb
      clear hf hr hb HI ho
      generalize nx l 15 = Nx
      go_wp2_with (fail)
      go_ret2
      exact ⟨_, rfl, HR2.out, HB2.out⟩
set_option maxRecDepth 100000 in
theorem ref_codes_no (A : Option Addr) (c : Nat) (l : List Int) (w : World) (hh : KI.C w A l.length l) (hl : l.length ≤ 100000) (hr : right l ≠ 0) :
    Calls Try.prog 11 #[.slice A l.length c] w fun e w' => e = .returned (.tuple #[.slice none 0 0, .int .i64 (right l)]) ∧ w' = w := by
  have H := Lib.hid hh
  obtain ⟨r, hR⟩ : ∃ r, right l = r := ⟨_, rfl⟩
  rw [hR] at hr ⊢
  have HR := Lib.hid hR
  have hne : (r != 0) = true := bne_iff_ne.2 hr
  clear hh hR hr
  go_enter Try.func11, Try.ntmps11
  go_wp2_with (fail)
  refine (ref_right _ _ _ l _ H.out (by omega)).mono ?_
  rintro e w1 ⟨rfl, rfl⟩
  rw [HR.out]
  go_wp2_with (fail)
  go_ret2
  exact ⟨rfl, rfl⟩
end Go.Proofs.Ytadijdcdonommaa.Code
