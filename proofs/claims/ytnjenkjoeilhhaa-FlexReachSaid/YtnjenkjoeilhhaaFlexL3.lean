/- Chapter 14: one comes no less far by what is taken than by any other token at that place. -/
import Derived.Test.YtnjenkjoeilhhaaFlexL2
import Derived.Test.YtnjenkjoeilhhaaRefParse
namespace Go.Proofs.Ytnjenkjoeilhhaa.Flex
set_option linter.unusedVariables false
set_option linter.unusedSimpArgs false
open Go.RowKit Go.Proofs.YtnjenkjoeilhhaaW.PrintWords Go.Proofs.YtnjenkjoeilhhaaW.PrintMore Go.Proofs.Ytnjenkjoeilhhaa.L Go.Proofs.Ytnjenkjoeilhhaa.Texts Go.Proofs.Ytnjenkjoeilhhaa.Dict Go.Proofs.Ytnjenkjoeilhhaa.Ints Go.Proofs.Ytnjenkjoeilhhaa.Greedy

theorem stands_cand (l : List ByteArray) (b : ByteArray) (a : Nat) (ha : a < b.size) (q : Nat) (hq : q < (stands_ l b a ++ [1]).length) : ∃ m : Nat, (stands_ l b a ++ [1]).getD q 0 = (m : Int) ∧ cand l b a m := by
  have hx : (stands_ l b a ++ [1]).getD q 0 ∈ stands_ l b a ++ [1] := by
    rw [List.getD_eq_getElem?_getD, List.getElem?_eq_getElem hq]
    exact List.getElem_mem hq
  generalize (stands_ l b a ++ [1]).getD q 0 = x at hx
  rcases List.mem_append.1 hx with h | h
  · obtain ⟨m, h1, h2, h3, h4⟩ := (standsDown_mem l b a x (min 40 (b.size - a))).1 h
    exact ⟨m, h1, h2, by omega, .inl h4⟩
  · rw [List.mem_singleton.1 h]
    exact ⟨1, rfl, cand_one l b a ha⟩
set_option maxRecDepth 100000 in
set_option maxHeartbeats 4000000 in
theorem FlexReach_walk (A : Option Addr) (l : List ByteArray) (c : Nat) (b : ByteArray) (w : World)
    (hl : KS.C w A l.length l) (hc : l.length ≤ c) (h16 : l.length * 16 ≤ 140737488351232) (hs : ∀ s ∈ l, s.size ≤ 140737488351232) (hbs : b.size ≤ 140737488351232) :
    Calls Try.prog 4 #[.slice A l.length c, .string b] w fun e w' => e = .returned (.bool true) ∧ Below w.heap.size w w' := by
  have HL := Lib.hid hl
  go_enter Try.func4, Try.ntmps4
  go_wp2_with (fail)
  refine (dict_any _ _ _ l _ _ hl hs).mono ?_
  clear hl hs
  rintro e w1 ⟨hb1, ⟨hin, bk, rfl, hd⟩ | ⟨hin, rfl⟩⟩
  · have HB1 := Lib.hid hb1
    have HD := Lib.hid (show DP w1 (some ⟨bk, 0, none⟩) l from .inr ⟨bk, rfl, hd⟩)
    have HOK := Lib.hid hin.2.2
    have H100 := Lib.hid hin.2.2.1
    have hb400 := hin.2.1
    clear hb1 hd hin
    go_wp2_with (fail)
    refine (alive_any _).mono ?_
    rintro e w2 ⟨rfl, hb2⟩
    have HB2 := Lib.hid (Ints.bel_trans HB1.out HB1.out.size hb2)
    have HD2 := Lib.hid (HD.out.below hb2)
    clear hb2 HB1 HD
    go_wp2_with (fail)
    go_loopg [7] b.size (fun j at_ wr => ∃ a : Nat, a + j = b.size ∧ at_ = .int .i64 a ∧ Hid (Below w2.heap.size w2 wr))
    case atStart => exact ⟨0, by omega, rfl, Below.refl _ _⟩
    case round =>
      obtain ⟨a, haj, rfl, HI⟩ := hrel
      have hb := HI.out
      by_cases ha : a < b.size
      · have hai : (a : Int) < (b.size : Int) := by omega
        have a0 : (0 : Int) ≤ (a : Int) := by omega
        have hN1 := best_pos l b a ha
        have hNf := best_fits l b a ha
        have hbst := (best_is l b a ha).2
        have hcd := stands_cand l b a ha
        obtain ⟨T, hT⟩ : ∃ T, tokenOf l b a (bestLen l b a) = T := ⟨_, rfl⟩
        obtain ⟨N, hN⟩ : ∃ N, bestLen l b a = N := ⟨_, rfl⟩
        rw [hN] at hN1 hNf hbst
        obtain ⟨RN, hRN⟩ : ∃ R, reach l b a N = R := ⟨_, rfl⟩
        rw [hRN] at hbst
        have f1 : (1 : Int) ≤ (N : Int) := by omega
        have f2 : (N : Int) ≤ (b.size : Int) - (a : Int) := by omega
        have HT := Lib.hid hT
        have HN := Lib.hid hN
        have HRN := Lib.hid hRN
        have HBST := Lib.hid hbst
        have HCD := Lib.hid hcd
        have HAJ := Lib.hid haj
        have HB := Lib.hid hb
        clear hT hN hRN hbst hcd haj hb HI
        go_wp2_with (fail)
        refine (nextF_some _ l b a _ (HD2.out.below HB.out) HOK.out ha (by omega)).mono ?_
        rintro e w3 ⟨hb3, rfl⟩
        rw [HT.out, HN.out]
        have HB3 := Lib.hid (Ints.bel_trans HB.out HB.out.size hb3)
        clear hb3 HB
        go_wp2_with (fail)
        refine (reach_in _ l b a N _ (HD2.out.below HB3.out) HOK.out (by omega) hNf).mono ?_
        rintro e w4 ⟨hb4, rfl⟩
        rw [HRN.out]
        have HB4 := Lib.hid (Ints.bel_trans HB3.out HB3.out.size hb4)
        clear hb4 HB3
        go_wp2_with (fail)
        refine (ref_stands _ _ l b a _ (Kd.C_below HL.out (Ints.bel_trans HB2.out HB2.out.size HB4.out)) (by omega) (by omega)).mono ?_
        rintro e w5 ⟨v5, rfl, hr5, hb5⟩
        obtain ⟨A5, c5, rfl⟩ := Kd.R_slice hr5
        have hsl : (stands_ l b a).length ≤ 40 := Nat.le_trans (standsDown_len l b a _) (Nat.min_le_left _ _)
        have HR5 := Lib.hid hr5
        have HB5 := Lib.hid (Ints.bel_trans HB4.out HB4.out.size hb5)
        have hs45 : w2.heap.size ≤ w4.heap.size := HB4.out.size
        clear hb5 hr5
        go_wp2_with (((with_reducible refine gate_builtin (b := .append) (xs := #[.tmp 59, .tmp 60]) rfl ?_); at_builtin; apply stopper))
        unfold Stopper
        refine Kd.R_append KI (w0 := w2) w2.heap.size rfl (.tmp 59) (.tmp 60) 27 3 (.int .i64 0) 8 rfl Try.underlying27 infoInt rfl (by decide) (by omega) (.slice A5 (stands_ l b a).length c5) (stands_ l b a) 1 [.int .i64 1] (fun _ => True) (fun _ => False) rfl rfl rfl (fun _ hk => hk.elim) (fun _ _ => trivial) (Kd.R_lower HR5.out hs45) HB5.out HB5.out.size (by omega) ?_
        intro v6 w6 hr6 hb6 hg6 hat6
        obtain ⟨A6, c6, rfl⟩ := Kd.R_slice hr6
        have hzl : (stands_ l b a ++ [1]).length ≤ 41 := by rw [List.length_append, List.length_singleton]; omega
        have hcd := HCD.out
        generalize stands_ l b a ++ [1] = zs at hr6 hcd hzl ⊢
        have HC6 := Lib.hid (Kd.R_reads' hr6).2.2
        have HB6 := Lib.hid hb6
        have HZ := Lib.hid hcd
        clear hr6 hb6 hg6 hat6 hcd HCD HR5 HB5 HB4
        go_wp2_with (fail)
        obtain ⟨w6, rfl⟩ : ∃ x : World, x = w6 := ⟨_, rfl⟩
        go_loopg [63] zs.length (fun j i wr => ∃ q : Nat, q + j = zs.length ∧ i = .int .i64 q ∧ Hid (Below w6.heap.size w6 wr))
        case atStart => exact ⟨0, by omega, rfl, Below.refl _ _⟩
        case round =>
          obtain ⟨q, hq, rfl, HI⟩ := hrel
          have hb := HI.out
          by_cases hlt : q < zs.length
          · obtain ⟨ad, rfl, x0⟩ := ints_at (Kd.C_below HC6.out hb) q hlt
            obtain ⟨m, hm, hcm⟩ := HZ.out q hlt
            rw [hm] at x0
            have hbs2 := HBST.out m hcm
            have hmf := hcm.2.1
            obtain ⟨RX, hRX⟩ : ∃ R, reach l b a m = R := ⟨_, rfl⟩
            rw [hRX] at hbs2
            have i0 : (0 : Int) ≤ q := by omega
            have i1 : (q : Int) < (zs.length : Int) := by omega
            have i2 : ((q : Int)).toNat = q := by omega
            have g1 : decide ((RN : Int) < (RX : Int)) = false := decide_eq_false (by omega)
            have g1' : decide (RN < RX) = false := decide_eq_false (by omega)
            have g2 : ((RX : Int) == (RN : Int)) = decide (RX = RN) := by
              by_cases h : RX = RN
              · subst h; simp
              · rw [decide_eq_false h]
                simp
                omega
            have HQ := Lib.hid hq
            have HX := Lib.hid hRX
            have HB := Lib.hid (Ints.bel_trans HB6.out HB6.out.size hb)
            have HBI := Lib.hid hb
            clear hq hb HI hm hcm hRX
            go_wp2_with (fail)
            refine (reach_in _ l b a m _ (HD2.out.below HB.out) HOK.out (by omega) hmf).mono ?_
            rintro e w7 ⟨hb7, rfl⟩
            rw [HX.out]
            have HB7 := Lib.hid (Ints.bel_trans HB.out HB.out.size hb7)
            have HBI7 := Lib.hid (Ints.bel_trans HBI.out HBI.out.size hb7)
            clear hb7 HB HBI
            go_wp2_with (fail)
            refine (reach_in _ l b a m _ (HD2.out.below HB7.out) HOK.out (by omega) hmf).mono ?_
            rintro e w8 ⟨hb8, rfl⟩
            rw [HX.out]
            have HBI8 := Lib.hid (Ints.bel_trans HBI7.out HBI7.out.size hb8)
            clear hb8 HB7 HBI7
            by_cases hr : RX = RN
            · have hmn : (m : Int) ≤ (N : Int) := by omega
              subst hr
              have g3 : ((RX : Int) == (RX : Int)) = true := by simp
              clear g2 hbs2
              go_wp2_with (fail)
              go_roundg (zs.length - (q + 1))
              case measure => have := HQ.out; omega
              case rel => exact ⟨q + 1, by have := HQ.out; omega, by go_num, HBI8.out⟩
            · rw [decide_eq_false hr] at g2
              clear hbs2 hr
              go_wp2_with (fail)
              go_roundg (zs.length - (q + 1))
              case measure => have := HQ.out; omega
              case rel => exact ⟨q + 1, by have := HQ.out; omega, by go_num, HBI8.out⟩
          · obtain rfl : q = zs.length := by omega
            have HB := Lib.hid (Ints.bel_trans HB6.out HB6.out.size hb)
            clear hq hb HI hlt HB6
            go_wp2_with (fail)
            go_roundg (b.size - (a + 1))
            case measure => have := HAJ.out; omega
            case rel => exact ⟨a + 1, by have := HAJ.out; omega, by go_num, HB.out⟩
      · obtain rfl : a = b.size := by omega
        have HB := Lib.hid (Ints.bel_trans HB2.out HB2.out.size hb)
        clear hb haj HI ha
        go_wp2_with (fail)
        go_ret
        exact ⟨rfl, HB.out⟩
  · have HB1 := Lib.hid hb1
    clear hb1 hin
    go_wp2_with (go_at_call 9; refine (alive_any _).mono ?_; rintro e w' ⟨rfl, hb⟩)
    go_ret
    exact ⟨rfl, Ints.bel_trans HB1.out HB1.out.size hb⟩
end Go.Proofs.Ytnjenkjoeilhhaa.Flex
