/- Chapter 2: whatever is put, in every order, and read, looked at, passed by: each answer: the walk. -/
import Derived.Test.YthncomijfpbeeaaPlays
namespace Go.Proofs.Ythncomijfpbeeaa.Bits
set_option linter.unusedVariables false
set_option linter.unusedSimpArgs false
open Go.RowKit Go.Proofs.YthncomijfpbeeaaW.PrintWords Go.Proofs.YthncomijfpbeeaaW.PrintMore Go.Proofs.Ythncomijfpbeeaa.L Go.Proofs.Ythncomijfpbeeaa.BP Go.Proofs.Ythncomijfpbeeaa.Ops Go.Proofs.Ythncomijfpbeeaa.Ints

set_option maxRecDepth 100000 in
set_option maxHeartbeats 8000000 in
theorem BitsPlays_walk (A : Option Addr) (l : List OpT) (c : Nat) (b : ByteArray) (w : World) (hr : OpK.C w A l.length l) (hc : l.length ≤ c) (hm : l.length ≤ maxLen) (hbs : b.size ≤ 140737488351232) :
    Calls Try.prog 6 #[.slice A l.length c, .string b] w fun e w' => e = .returned (.bool true) ∧ Below w.heap.size w w' := by
  have HL := Lib.hid hr
  clear hr hc hm hbs
  have hcase : ((100 : Int) < (l.length : Int) ∨ ((l.length : Int) ≤ 100 ∧ (200 : Int) < (b.size : Int))) ∨ ((l.length : Int) ≤ 100 ∧ (b.size : Int) ≤ 200) := by omega
  rcases hcase with hcase | ⟨g1, g2⟩
  · rcases hcase with g1 | ⟨g0, g1⟩
    all_goals
      go_enter Try.func6, Try.ntmps6
      go_wp2_with (go_at_call 23; refine (alive_any _).mono ?_; rintro e w' ⟨rfl, hb⟩)
      go_ret
      exact ⟨rfl, hb⟩
  · go_enter Try.func6, Try.ntmps6
    go_wp2_with (fail)
    refine (alive_any _).mono ?_
    rintro e w1 ⟨rfl, hb1⟩
    have HBA := Lib.hid (hb1.alloc hb1.size (.cells #[.slice none 0 0, .int .i64 0] 47 (0, 0)))
    have HWA := Lib.hid (fun base => wr_new w1 base)
    have HLA := Lib.hid (show w1.heap.size < (w1.alloc (.cells #[.slice none 0 0, .int .i64 0] 47 (0, 0))).heap.size by simp)
    have HWB := Lib.hid (show w.heap.size ≤ w1.heap.size from hb1.size)
    clear hb1
    go_wp2_with (fail)
    generalize w1.alloc (.cells #[.slice none 0 0, .int .i64 0] 47 (0, 0)) = wa at *
    obtain ⟨wb, hwb⟩ : ∃ x, w1.heap.size = x := ⟨_, rfl⟩
    rw [hwb] at HWA HLA HWB ⊢
    clear hwb
    refine (newReader b _ (by omega)).mono ?_
    rintro e w2 ⟨rfl, hw2⟩
    have hR := rr_new b wa (by omega)
    rw [← hw2] at hR
    have HR2 := Lib.hid hR
    have HW2 := Lib.hid (show ∀ base, WR w2 wb base (.slice none 0 0) [] from fun base => by rw [hw2]; exact (HWA.out base).chg ((Chg.refl (fun _ => False) wa).alloc _) (fun h => h) (fun _ _ h => h))
    have HB2 := Lib.hid (show Below w.heap.size w w2 by rw [hw2]; exact HBA.out.alloc HBA.out.size _)
    have HL2 := Lib.hid (show wb < w2.heap.size ∧ wa.heap.size < w2.heap.size by rw [hw2]; have := HLA.out; simp; omega)
    have HRB := Lib.hid (show w.heap.size ≤ wa.heap.size from HBA.out.size)
    obtain ⟨rb, hrb⟩ : ∃ x, wa.heap.size = x := ⟨_, rfl⟩
    rw [hrb] at HR2 HL2 HRB ⊢
    clear hR hw2 hrb HWA HBA HLA
    obtain ⟨B4, hB4⟩ : ∃ x, w2.heap.size = x := ⟨_, rfl⟩
    have HBB := Lib.hid hB4
    clear hB4
    go_wp2_with (fail)
    go_loopg [8, 9] b.size (fun j v i wr => ∃ k : Nat, k + j = b.size ∧ i = .int .i64 k ∧ Hid (KI.R 3 wr B4 (fun _ => True) v ((unpack (bytesOf b)).take (8 * k)) ∧ Below B4 w2 wr))
    case atStart => exact ⟨0, by omega, rfl, by rw [Nat.mul_zero, List.take_zero]; exact Kd.R_nil _ _ _ _ _, by rw [← HBB.out]; exact Below.refl _ _⟩
    case round =>
      obtain ⟨w8, rfl⟩ : ∃ x : World, x = wr := ⟨_, rfl⟩
      obtain ⟨k, hk, rfl, HI⟩ := hrel
      by_cases hlt : k < b.size
      · have hlti : (k : Int) < (b.size : Int) := by omega
        have k0 : (0 : Int) ≤ k := by omega
        have HK := Lib.hid hk
        clear hk
        go_wp2_with (fail)
        go_loopg [8, 10] 8 (fun j v i wr => i = .int .i64 ((j : Int) - 1) ∧ j ≤ 8 ∧ Hid (KI.R 3 wr B4 (fun _ => True) v ((unpack (bytesOf b)).take (8 * k + (8 - j))) ∧ Below B4 w2 wr))
        case atStart => exact ⟨by go_num, Nat.le_refl _, HI.out.1, HI.out.2⟩
        case round =>
          obtain ⟨rfl, hj, HJ⟩ := hrel
          cases gk with
          | zero =>
            have HJ2 := Lib.hid HJ.out
            clear HI HJ
            go_wp2_with (fail)
            go_roundg (b.size - (k + 1))
            case measure => have := HK.out; omega
            case rel => exact ⟨k + 1, by have := HK.out; omega, by go_num, by have := HJ2.out.1; rwa [show 8 * k + (8 - 0) = 8 * (k + 1) by omega] at this, HJ2.out.2⟩
          | succ gk =>
            rw [show ((gk + 1 : Nat) : Int) - 1 = gk by omega]
            have e3 : 8 * k + (8 - (gk + 1)) = 8 * k + (7 - gk) := by omega
            rw [e3] at HJ
            have hlen := bit_len2 b k gk hlt (by omega)
            obtain ⟨hr, hb⟩ := HJ.out
            obtain ⟨A7, c7, rfl⟩ := Kd.R_slice hr
            have HP := Lib.hid (bit_at2 b k gk hlt (by omega))
            have HLEN := Lib.hid hlen
            have HR7 := Lib.hid hr
            have HB7 := Lib.hid hb
            have g0 : (0 : Int) ≤ gk := by omega
            have g7 : (gk : Int) ≤ 7 := by omega
            have HJJ := Lib.hid hj
            rw [hlen]
            clear HI HJ e3 hr hb hlen hj
            go_wp2_with (((with_reducible refine gate_builtin (b := .append) (xs := #[.tmp 57, .tmp 66]) rfl ?_); at_builtin; apply stopper))
            unfold Stopper
            refine Kd.R_append KI (w0 := w2) B4 rfl (.tmp 57) (.tmp 66) 22 3 (.int .i64 0) 8 rfl Try.underlying22 infoInt rfl (by decide) (by omega) (.slice A7 (8 * k + (7 - gk)) c7) ((unpack (bytesOf b)).take (8 * k + (7 - gk))) (bits BinOp.and IntKind.i64 (wrap64 ((b[k]'hlt).toNat : Int) / 2 ^ gk) 1) [.int .i64 (bits BinOp.and IntKind.i64 (wrap64 ((b[k]'hlt).toNat : Int) / 2 ^ gk) 1)] (fun _ => True) (fun _ => False) rfl rfl rfl (fun _ hk => hk.elim) (fun _ _ => trivial) (by have := HR7.out; rw [HLEN.out] at this; exact this) HB7.out ?aS (by rw [HLEN.out]; omega) ?_
            case aS => have := HB7.out.size; have := HBB.out; omega
            intro v9 w9 ho9 hb9 hg9 hat9
            rw [← HP.out] at ho9
            have HR9 := Lib.hid ho9
            have HB9 := Lib.hid hb9
            clear ho9 hb9 hg9 hat9 HR7 HB7
            go_wp2_with (fail)
            go_roundg gk
            case measure => omega
            case rel => exact ⟨by go_num, by have := HJJ.out; omega, HR9.out, HB9.out⟩
      · obtain rfl : k = b.size := by omega
        have hub : (unpack (bytesOf b)).take (8 * b.size) = rem b 0 := by
          rw [List.take_of_length_le (by rw [unpack_length, bytesOf_length]; omega)]
          rfl
        obtain ⟨hr, hb⟩ := HI.out
        rw [hub] at hr
        obtain ⟨A8, c8, rfl⟩ := Kd.R_slice hr
        have h8l : (rem b 0).length = 8 * b.size := by rw [rem_length]; omega
        have hb7 : Below w2.heap.size w2 w8 := by rw [HBB.out]; exact hb
        obtain ⟨_, hcap, _⟩ := Kd.R_reads' hr
        have hin : IN w8 wb rb b 0 (8 * b.size) c8 A8 := ⟨rfl, Nat.zero_le _, by rw [← h8l]; exact hcap, fun W hc => by
          have := (Kd.R_reads' (own_move2 hr (fun g hg => hc.block g (own_lt2 hr g hg) (by
            have h1 := own_base (Kd.own_of_R hr) g hg
            have h2 := HL2.out
            have h3 := HBB.out
            omega)))).2.2
          rw [h8l] at this
          exact this⟩
        have hs0 : S0 w8 w8 wb rb b [] [] 0 (.slice none 0 0) := by
          have hf := hb7.size
          have hg := HL2.out
          exact ⟨⟨_, (HW2.out w8.heap.size).chg (S := fun _ => False) ⟨hb7.os, hb7.tape, hb7.output, hb7.size, fun k hk _ => hb7.block k hk⟩ (fun h => h) (fun _ _ h => h)⟩, Kd.R_nil _ _ _ _ _, HR2.out.chg (S := fun _ => False) ⟨hb7.os, hb7.tape, hb7.output, hb7.size, fun k hk _ => hb7.block k hk⟩ (fun h => h), Chg.refl _ _, by omega, by omega⟩
        rw [h8l]
        have HIN := Lib.hid hin
        have HS0 := Lib.hid hs0
        have HB8 := Lib.hid (Ints.bel_trans HB2.out HB2.out.size hb7)
        have HWS := Lib.hid (show ∀ W, Chg (fun k => k = wb ∨ k = rb) w8 W → Below w.heap.size w W from fun W hc => (Ints.bel_trans HB2.out HB2.out.size hb7).trans (hc.below (B := w.heap.size) (Ints.bel_trans HB2.out HB2.out.size hb7).size (fun t ht => by
          rcases ht with rfl | rfl
          · exact HWB.out
          · exact HRB.out)))
        clear hr hb hb7 HI hub hin hs0 HR2 HW2 HL2 h8l hk hcap hlt
        go_wp2_with (fail)
        go_loopg [7, 8, 70] l.length (fun j o v i wr => ∃ (k pos M c' : Nat) (A' : Option Addr) (os : List Int), k + j = l.length ∧ i = .int .i64 k ∧ v = .slice A' M c' ∧ Hid (IN w8 wb rb b pos M c' A' ∧ BP.Bits os ∧ os.length ≤ 32 * k ∧ S0 w8 wr wb rb b os os pos o))
        case atStart => exact ⟨0, 0, _, _, _, [], by omega, rfl, rfl, HIN.out, bits_nil, Nat.zero_le _, HS0.out⟩
        case round =>
          obtain ⟨k, pos, M, c', A', os, hk, rfl, rfl, HI⟩ := hrel
          clear HIN HS0
          by_cases hlt : k < l.length
          · obtain ⟨hin, hbits, hlen, hs0⟩ := HI.out
            obtain ⟨ad, rfl, x0, x1, x2⟩ := ops_at (Kd.C_below HL.out (HWS.out _ hs0.chg)) k hlt
            obtain ⟨x, hx⟩ : ∃ x, at_ l k = x := ⟨_, rfl⟩
            rw [hx] at x0 x1 x2
            have HST := Lib.hid (ST.new hs0 x)
            have HIN := Lib.hid hin
            have HBI := Lib.hid hbits
            have HLE := Lib.hid hlen
            have HK := Lib.hid hk
            have i0 : (0 : Int) ≤ k := by omega
            have i1 : (k : Int) < (l.length : Int) := by omega
            have Mb : M ≤ 1600 := by have := hin.hM; omega
            obtain ⟨o0, o1, o2⟩ := x
            clear hin hbits hlen hs0 HI hx hk
            go_upto_region 17 with (fail)
            generalize wr.alloc (.cells #[.int .i64 o0, .int .i64 o1, .int .i64 o2] 52 (0, 0)) = wy at *
            obtain ⟨ob, hob⟩ : ∃ z, wr.heap.size = z := ⟨_, rfl⟩
            rw [hob] at HST ⊢
            clear x0 x1 x2 hob
            obtain ⟨y0, y1, y2⟩ := HST.out.cells
            simp only at y0 y1 y2
            go_cut [13] (fun gv wc => gv = .bool (good o2) ∧ wc = wy)
            case first =>
              by_cases n0 : 0 ≤ o2
              · by_cases n1 : o2 ≤ 32
                · have HG := Lib.hid (show good o2 = true from decide_eq_true ⟨n0, n1⟩)
                  go_wp2_with (fail)
                  go_meet
                  case rel => exact ⟨by rw [HG.out], rfl⟩
                · have n2 : 32 < o2 := by omega
                  have HG := Lib.hid (show good o2 = false from decide_eq_false (fun h => n1 h.2))
                  clear n1
                  go_wp2_with (fail)
                  go_meet
                  case rel => exact ⟨by rw [HG.out, decide_eq_false (by omega)], rfl⟩
              · have n2 : o2 < 0 := by omega
                have HG := Lib.hid (show good o2 = false from decide_eq_false (fun h => n0 h.1))
                clear n0
                go_wp2_with (fail)
                go_meet
                case rel => exact ⟨by rw [HG.out], rfl⟩
            case rest =>
              obtain ⟨rfl, rfl⟩ := hcut
              obtain ⟨G, hG⟩ : ∃ G, good o2 = G := ⟨_, rfl⟩
              have HG := Lib.hid hG
              rw [hG]
              clear hG
              go_upto_block 6 with (fail)
              go_cut [14] (fun vv wd => vv = .int .i64 (valG b pos o2) ∧ wd = wc)
              case first =>
                cases hGG : G
                · have HV := Lib.hid (show valG b pos o2 = 0 by unfold valG; rw [HG.out, hGG]; rfl)
                  subst hGG
                  go_wp2_with (fail)
                  go_loopg [14, 15] 0 (fun j v i wr => v = .int .i64 0 ∧ wr = wc)
                  case atStart => exact ⟨rfl, rfl⟩
                  case round =>
                    obtain ⟨rfl, rfl⟩ := hrel
                    go_wp2_with (fail)
                    go_meet
                    case rel => exact ⟨by rw [HV.out], rfl⟩
                · obtain ⟨n0, n1⟩ := of_decide_eq_true (show good o2 = true by rw [HG.out, hGG])
                  obtain ⟨N, rfl⟩ := Int.eq_ofNat_of_zero_le n0
                  have HV := Lib.hid (show valG b pos (N : Int) = valN (rem b pos) N by unfold valG; rw [HG.out, hGG]; rfl)
                  subst hGG
                  go_wp2_with (fail)
                  go_loopg [14, 15] N (fun j v i wr => ∃ q : Nat, q + j = N ∧ i = .int .i64 q ∧ v = .int .i64 (valN (rem b pos) q) ∧ wr = wc)
                  case atStart => exact ⟨0, by omega, rfl, rfl, rfl⟩
                  case round =>
                    obtain ⟨q, hq, rfl, rfl, rfl⟩ := hrel
                    by_cases hqN : q < N
                    · have q0 : (0 : Int) ≤ (q : Int) := by omega
                      have q1 : (q : Int) < (N : Int) := by omega
                      have q2 : ((q : Int)).toNat = q := by omega
                      have hvr := valN_range (rem_bits b pos) q
                      have hp32 := (pow_small (n := (q : Int)) (by omega)).2
                      rw [Int.toNat_natCast] at hp32
                      have hbt := bits_getD (rem_bits b pos) q
                      have hvs : valN (rem b pos) (q + 1) = valN (rem b pos) q * 2 + (rem b pos).getD q 0 := rfl
                      have hl : (rem b pos).length = M := by rw [rem_length]; exact HIN.out.hM
                      have hpast := getD_past (rem b pos) q
                      rw [hl] at hpast
                      obtain ⟨V, hV⟩ : ∃ V, valN (rem b pos) q = V := ⟨_, rfl⟩
                      have v0 : 0 ≤ V := by rw [← hV]; exact hvr.1
                      have v1 : V < 4294967296 := by rw [← hV]; omega
                      have HQ := Lib.hid hq
                      by_cases hqM : q < M
                      · obtain ⟨bd, rfl, z0⟩ := ints_at (HIN.out.rd _ HST.out.s0.chg) q hqM
                        obtain ⟨t, ht⟩ : ∃ t, (rem b pos).getD q 0 = t := ⟨_, rfl⟩
                        rw [ht] at z0 hbt hvs
                        rw [hV] at hvs ⊢
                        obtain ⟨t0, t1⟩ := hbt
                        have q3 : (q : Int) < (M : Int) := by omega
                        have HVS := Lib.hid hvs
                        clear hvr hp32 hvs hl hpast ht hV hq
                        go_wp2_with (fail)
                        go_roundg (N - (q + 1))
                        case measure => have := HQ.out; omega
                        case rel => exact ⟨q + 1, by have := HQ.out; omega, by go_num, by rw [HVS.out], rfl⟩
                      · have q3 : (M : Int) ≤ (q : Int) := by omega
                        rw [hpast (by omega), hV, Int.add_zero] at hvs
                        rw [hV]
                        have HVS := Lib.hid hvs
                        clear hvr hp32 hvs hl hpast hV hq hbt
                        go_wp2_with (fail)
                        go_roundg (N - (q + 1))
                        case measure => have := HQ.out; omega
                        case rel => exact ⟨q + 1, by have := HQ.out; omega, by go_num, by rw [HVS.out], rfl⟩
                    · obtain rfl : q = N := by omega
                      clear hq hqN
                      go_wp2_with (fail)
                      go_meet
                      case rel => exact ⟨by rw [HV.out], rfl⟩
              case rest =>
                obtain ⟨rfl, rfl⟩ := hcut
                obtain ⟨V, hV⟩ : ∃ V, valG b pos o2 = V := ⟨_, rfl⟩
                have HV := Lib.hid hV
                rw [hV]
                clear hV
                go_upto_block 8 with (fail)
                go_cut [7, 8] (fun o v wd => ∃ (pos' M' c2 : Nat) (A2 : Option Addr) (os' : List Int), v = .slice A2 M' c2 ∧ Hid (IN w8 wb rb b pos' M' c2 A2 ∧ BP.Bits os' ∧ os'.length ≤ 32 * (k + 1) ∧ ST w8 wd wb rb ob b os' os' pos' o (o0, o1, o2)))
                case first =>
                  by_cases k1 : o0 = 1
                  · have e1 : (o0 == 1) = true := beq_iff_eq.2 k1
                    clear k1
                    --K1
                    as_aux_lemma =>
                      go_upto_region 27 with (fail)
                      go_cut [16] (fun mv we => mv = .bool (mayPut o1 o2) ∧ we = wc)
                      case first =>
                        cases hGG : G
                        · have HM := Lib.hid (show mayPut o1 o2 = false from mayPut_good (by rw [HG.out, hGG]))
                          subst hGG
                          go_wp2_with (fail)
                          go_meet
                          case rel => exact ⟨by rw [HM.out], rfl⟩
                        · obtain ⟨n0, n1⟩ := of_decide_eq_true (show good o2 = true by rw [HG.out, hGG])
                          have hw := (pow_small (n := o2) n1).1
                          subst hGG
                          by_cases v0 : 0 ≤ o1
                          · have HM := Lib.hid (show mayPut o1 o2 = decide (o1 < 2 ^ o2.toNat) from decide_eq_decide.2 ⟨fun h => h.2.2.2, fun h => ⟨n0, n1, v0, h⟩⟩)
                            go_wp2_with (fail)
                            go_meet
                            case rel => exact ⟨by rw [HM.out], rfl⟩
                          · have v1 : o1 < 0 := by omega
                            have HM := Lib.hid (show mayPut o1 o2 = false from decide_eq_false (fun h => v0 h.2.2.1))
                            clear v0
                            go_wp2_with (fail)
                            go_meet
                            case rel => exact ⟨by rw [HM.out], rfl⟩
                      case rest =>
                        obtain ⟨rfl, rfl⟩ := hcut
                        obtain ⟨m, hm⟩ : ∃ m, mayPut o1 o2 = m := ⟨_, rfl⟩
                        have HM := Lib.hid hm
                        rw [hm]
                        have e5 : (m != m) = false := by simp
                        clear hm
                        go_wp2_with (fail)
                        refine (HST.out.put_call o1 o2 (by have := HLE.out; omega)).mono ?_
                        rintro e w5 ⟨rfl, hst⟩
                        rw [HM.out]
                        have HS5 := Lib.hid hst.out
                        obtain ⟨z0, z1, z2⟩ := HS5.out.cells
                        simp only at z0 z1 z2
                        clear hst HST y0 y1 y2
                        cases hmm : m
                        · have hpb := putB_no (show mayPut o1 o2 = false by rw [HM.out, hmm])
                          rw [hpb, List.append_nil] at HS5
                          subst hmm
                          clear hpb
                          go_wp2_with (fail)
                          go_loopg [7, 17] 0 (fun j o i wr => o = u7 ∧ wr = w5)
                          case atStart => exact ⟨rfl, rfl⟩
                          case round =>
                            obtain ⟨rfl, rfl⟩ := hrel
                            go_wp2_with (fail)
                            go_meet
                            case rel => exact ⟨pos, M, c', A', os, rfl, HIN.out, HBI.out, by have := HLE.out; omega, HS5.out⟩
                        · have hmp : mayPut o1 o2 = true := by rw [HM.out, hmm]
                          have hpb := putB_yes hmp
                          simp only [mayPut, decide_eq_true_eq] at hmp
                          obtain ⟨n0, n1, v0, v1⟩ := hmp
                          obtain ⟨N, rfl⟩ := Int.eq_ofNat_of_zero_le n0
                          rw [hpb, Int.toNat_natCast] at HS5
                          have v2 : o1 < 4294967296 := by
                            have := (pow_small (n := (N : Int)) n1).2
                            omega
                          subst hmm
                          clear hpb v1
                          go_wp2_with (fail)
                          go_loopg [7, 17] N (fun j o i wr => i = .int .i64 ((j : Int) - 1) ∧ j ≤ N ∧ Hid (ST w8 wr wb rb ob b (os ++ bitsV N o1) (os ++ (bitsV N o1).take (N - j)) pos o (o0, o1, (N : Int))))
                          case atStart => exact ⟨by go_num, Nat.le_refl _, by rw [Nat.sub_self, List.take_zero, List.append_nil]; exact HS5.out⟩
                          case round =>
                            obtain ⟨rfl, hj, HJ⟩ := hrel
                            clear HS5 z0 z1 z2
                            cases gk with
                            | zero =>
                              have hst := HJ.out
                              rw [Nat.sub_zero, List.take_of_length_le (by rw [bitsV_length]; omega)] at hst
                              have HS6 := Lib.hid hst
                              clear hst HJ
                              go_wp2_with (fail)
                              go_meet
                              case rel => exact ⟨pos, M, c', A', os ++ bitsV N o1, rfl, HIN.out, HBI.out.append (bitsV_bits N o1), by rw [List.length_append, bitsV_length]; have := HLE.out; omega, HS6.out⟩
                            | succ gk =>
                              rw [show ((gk + 1 : Nat) : Int) - 1 = gk by omega]
                              have hst := HJ.out
                              have hnext : os ++ (bitsV N o1).take (N - gk) = (os ++ (bitsV N o1).take (N - (gk + 1))) ++ [o1 / 2 ^ gk % 2] := by
                                have := bitsV_take N o1 (N - (gk + 1)) (by omega)
                                rw [show N - gk = N - (gk + 1) + 1 from by omega, this, ← List.append_assoc]
                                rw [show N - 1 - (N - (gk + 1)) = gk from by omega]
                              obtain ⟨zs, hzs⟩ : ∃ zs, os ++ (bitsV N o1).take (N - (gk + 1)) = zs := ⟨_, rfl⟩
                              have zl : zs.length ≤ 4000 := by
                                rw [← hzs, List.length_append]
                                have h1 := HLE.out
                                have h2 := List.length_take_le' (N - (gk + 1)) (bitsV N o1)
                                rw [bitsV_length] at h2
                                omega
                              rw [hzs] at hst hnext
                              obtain ⟨A7, c7, rfl⟩ := Kd.R_slice hst.s0.out
                              obtain ⟨z0, z1, z2⟩ := hst.cells
                              simp only at z0 z1 z2
                              have HS6 := Lib.hid hst
                              have HNX := Lib.hid hnext
                              have HJJ := Lib.hid hj
                              have g0 : (0 : Int) ≤ (gk : Int) := by omega
                              have g32 : (gk : Int) ≤ 31 := by omega
                              have q6 : bits BinOp.and IntKind.i64 (o1 / 2 ^ gk) 1 = o1 / 2 ^ gk % 2 := by
                                have hpw : (0 : Int) < 2 ^ gk := Int.pow_pos (by omega)
                                exact and_one _ (Int.ediv_nonneg v0 (by omega)) (by have := Int.ediv_le_self (2 ^ gk) v0; omega)
                              clear hst hnext hzs HJ hj
                              go_wp2_with (((with_reducible refine gate_builtin (b := .append) (xs := #[.tmp 140, .tmp 147]) rfl ?_); at_builtin; apply stopper))
                              unfold Stopper
                              refine Kd.R_append KI (w0 := wr) w8.heap.size rfl (.tmp 140) (.tmp 147) 22 3 (.int .i64 0) 8 rfl Try.underlying22 infoInt rfl (by decide) (by omega) (.slice A7 zs.length c7) zs (o1 / 2 ^ gk % 2) [.int .i64 (o1 / 2 ^ gk % 2)] (fun _ => True) (fun _ => False) rfl rfl rfl (fun _ hk => hk.elim) (fun _ _ => trivial) HS6.out.s0.out (Below.refl _ _) HS6.out.s0.chg.size (by omega) ?_
                              intro v9 w9 ho9 hb9 hg9 hat9
                              have HS9 := Lib.hid (HS6.out.grow ho9 hg9)
                              rw [← HNX.out] at HS9
                              clear ho9 hb9 hg9 hat9 HS6 z0 z1 z2 q6
                              go_wp2_with (fail)
                              go_roundg gk
                              case measure => omega
                              case rel => exact ⟨by go_num, by have := HJJ.out; omega, HS9.out⟩
                    --K1END
                  · have e1 : (o0 == 1) = false := beq_eq_false_iff_ne.2 k1
                    by_cases k2 : o0 = 2
                    · have e2 : (o0 == 2) = true := beq_iff_eq.2 k2
                      clear k1 k2
                      --K2
                      as_aux_lemma =>
                        go_wp2_with (fail)
                        cases hok : okG M o2
                        · have hnn := of_decide_eq_false hok
                          refine (HST.out.get_no o2 HIN.out.hM hok).mono ?_
                          rintro e w5 ⟨rfl, hst⟩
                          have HS5 := Lib.hid hst.out
                          obtain ⟨z0, z1, z2⟩ := HS5.out.cells
                          simp only at z0 z1 z2
                          clear hst HST y0 y1 y2
                          cases hGG : G
                          · subst hGG
                            clear hnn
                            go_wp2_with (fail)
                            go_meet
                            case rel => exact ⟨pos, M, c', A', os, rfl, HIN.out, HBI.out, by have := HLE.out; omega, HS5.out⟩
                          · obtain ⟨n0, n1⟩ := of_decide_eq_true (show good o2 = true by rw [HG.out, hGG])
                            have n3 : (M : Int) < o2 := by omega
                            subst hGG
                            clear hnn
                            go_wp2_with (fail)
                            go_meet
                            case rel => exact ⟨pos, M, c', A', os, rfl, HIN.out, HBI.out, by have := HLE.out; omega, HS5.out⟩
                        · obtain ⟨n0, n1, n3⟩ := of_decide_eq_true hok
                          obtain ⟨N, rfl⟩ := Int.eq_ofNat_of_zero_le n0
                          have hgt : good (N : Int) = true := decide_eq_true ⟨n0, n1⟩
                          have hVN : valN (rem b pos) N = V := by
                            have := HV.out
                            unfold valG at this
                            rw [hgt] at this
                            exact this
                          refine (HST.out.get_yes N HIN.out.hM hok).mono ?_
                          rintro e w5 ⟨rfl, hst⟩
                          rw [hVN]
                          have HS5 := Lib.hid hst.out
                          obtain ⟨z0, z1, z2⟩ := HS5.out.cells
                          simp only at z0 z1 z2
                          obtain rfl : G = true := by rw [← HG.out, hgt]
                          obtain ⟨A2, hA2⟩ : ∃ A2, (if c' = N then A' else A'.map (·.add (N * 1))) = A2 := ⟨_, rfl⟩
                          have r1 := fun W => cut_in A' M c' N (by omega) hA2 W
                          have HIN2 := Lib.hid (HIN.out.cut (n := N) (by omega) hA2)
                          have e4 : (V != V) = false := by simp
                          have HNM := Lib.hid (show N ≤ M by omega)
                          clear hst HST y0 y1 y2 hgt hVN hA2
                          go_wp2_with (fail)
                          go_meet
                          case rel => exact ⟨pos + N, M - N, c' - N, A2, os, rfl, HIN2.out, HBI.out, by have := HLE.out; omega, HS5.out⟩
                      --K2END
                    · have e2 : (o0 == 2) = false := beq_eq_false_iff_ne.2 k2
                      by_cases k3 : o0 = 3
                      · have e3 : (o0 == 3) = true := beq_iff_eq.2 k3
                        have e4 : (V != V) = false := by simp
                        clear k1 k2 k3
                        go_wp2_with (fail)
                        refine (HST.out.peek_call o2).mono ?_
                        rintro e w5 ⟨rfl, hst⟩
                        rw [HV.out]
                        go_wp2_with (fail)
                        go_meet
                        case rel => exact ⟨pos, M, c', A', os, rfl, HIN.out, HBI.out, by have := HLE.out; omega, hst.out⟩
                      · have e3 : (o0 == 3) = false := beq_eq_false_iff_ne.2 k3
                        by_cases k4 : o0 = 4
                        · have e4 : (o0 == 4) = true := beq_iff_eq.2 k4
                          clear k1 k2 k3 k4
                          --K4
                          as_aux_lemma =>
                            cases hok : okS M o2
                            · have hnn := of_decide_eq_false hok
                              have hcs : o2 < 0 ∨ (0 ≤ o2 ∧ (M : Int) < o2) := by omega
                              rcases hcs with n0 | ⟨n0, n3⟩
                              all_goals
                                clear hnn
                                go_wp2_with (fail)
                                refine (HST.out.skip_no o2 HIN.out.hM hok).mono ?_
                                rintro e w5 ⟨rfl, hst⟩
                                have HS5 := Lib.hid hst.out
                                obtain ⟨z0, z1, z2⟩ := HS5.out.cells
                                simp only at z0 z1 z2
                                clear hst
                                go_wp2_with (fail)
                                go_meet
                                case rel => exact ⟨pos, M, c', A', os, rfl, HIN.out, HBI.out, by have := HLE.out; omega, HS5.out⟩
                            · obtain ⟨n0, n3⟩ := of_decide_eq_true hok
                              obtain ⟨N, rfl⟩ := Int.eq_ofNat_of_zero_le n0
                              obtain ⟨A2, hA2⟩ : ∃ A2, (if c' = N then A' else A'.map (·.add (N * 1))) = A2 := ⟨_, rfl⟩
                              have r1 := fun W => cut_in A' M c' N (by omega) hA2 W
                              have HIN2 := Lib.hid (HIN.out.cut (n := N) (by omega) hA2)
                              clear hA2
                              go_wp2_with (fail)
                              refine (HST.out.skip_yes N HIN.out.hM hok).mono ?_
                              rintro e w5 ⟨rfl, hst⟩
                              have HS5 := Lib.hid hst.out
                              obtain ⟨z0, z1, z2⟩ := HS5.out.cells
                              simp only at z0 z1 z2
                              clear hst
                              go_wp2_with (fail)
                              go_meet
                              case rel => exact ⟨pos + N, M - N, c' - N, A2, os, rfl, HIN2.out, HBI.out, by have := HLE.out; omega, HS5.out⟩
                          --K4END
                        · have e4 : (o0 == 4) = false := beq_eq_false_iff_ne.2 k4
                          clear k1 k2 k3 k4
                          go_wp2_with (fail)
                          go_meet
                          case rel => exact ⟨pos, M, c', A', os, rfl, HIN.out, HBI.out, by have := HLE.out; omega, HST.out⟩
                case rest =>
                  clear HIN HBI HLE HST
                  obtain ⟨pos', M', c2, A2, os', rfl, HJ⟩ := hcut
                  obtain ⟨hin, hbits, hlen, hst⟩ := HJ.out
                  have HIN := Lib.hid hin
                  have HBI := Lib.hid hbits
                  have HLE := Lib.hid hlen
                  have HST := Lib.hid hst
                  clear hin hbits hlen hst HJ y0 y1 y2
                  --KR
                  as_aux_lemma =>
                    have HLL := Lib.hid (show (rem b pos').length = M' by rw [rem_length]; exact HIN.out.hM)
                    have Mb2 : M' ≤ 1600 := by have := HIN.out.hM; omega
                    go_upto_block 11 with (fail)
                    go_cut [21] (fun rv wd => rv = .bool (isRest (rem b pos')) ∧ wd = wc)
                    case first =>
                      go_wp2_with (fail)
                      go_loopg [21, 225] M' (fun j r i wr => ∃ q : Nat, q + j = M' ∧ i = .int .i64 q ∧ r = .bool (restK (rem b pos') q) ∧ wr = wc)
                      case atStart => exact ⟨0, by omega, rfl, by rw [restK_zero, HLL.out]; exact congrArg Value.bool (decide_eq_decide.2 (by omega)), rfl⟩
                      case round =>
                        obtain ⟨q, hq, rfl, rfl, rfl⟩ := hrel
                        by_cases hqM : q < M'
                        · obtain ⟨bd, rfl, z0⟩ := ints_at (HIN.out.rd _ HST.out.s0.chg) q hqM
                          have hs := restK_succ (rem b pos') q (by rw [HLL.out]; exact hqM)
                          obtain ⟨t, ht⟩ : ∃ t, (rem b pos').getD q 0 = t := ⟨_, rfl⟩
                          rw [ht] at z0 hs
                          have q0 : (0 : Int) ≤ (q : Int) := by omega
                          have q1 : (q : Int) < (M' : Int) := by omega
                          have q2 : ((q : Int)).toNat = q := by omega
                          have HQ := Lib.hid hq
                          have HSS := Lib.hid hs
                          clear ht hs hq
                          cases hrk : restK (rem b pos') q
                          · rw [hrk] at HSS
                            clear hrk
                            go_wp2_with (fail)
                            go_roundg (M' - (q + 1))
                            case measure => have := HQ.out; omega
                            case rel => exact ⟨q + 1, by have := HQ.out; omega, by go_num, by rw [HSS.out]; rfl, rfl⟩
                          · rw [hrk] at HSS
                            clear hrk
                            go_wp2_with (fail)
                            go_roundg (M' - (q + 1))
                            case measure => have := HQ.out; omega
                            case rel => exact ⟨q + 1, by have := HQ.out; omega, by go_num, by rw [HSS.out]; rfl, rfl⟩
                        · obtain rfl : q = M' := by omega
                          have HRA := Lib.hid (restK_all (rem b pos'))
                          rw [HLL.out] at HRA
                          rw [HRA.out]
                          clear hq hqM
                          go_wp2_with (fail)
                          go_meet
                          case rel => exact ⟨rfl, rfl⟩
                    case rest =>
                      obtain ⟨rfl, rfl⟩ := hcut
                      obtain ⟨R, hR⟩ : ∃ R, isRest (rem b pos') = R := ⟨_, rfl⟩
                      have HR := Lib.hid hR
                      rw [hR]
                      obtain ⟨A7, c7, rfl⟩ := Kd.R_slice HST.out.s0.out
                      have e1 : ((os'.length : Int) != (os'.length : Int)) = false := by simp
                      have e2 : (R != R) = false := by simp
                      have e3 : ((M' : Int) != (M' : Int)) = false := by simp
                      clear hR
                      go_wp2_with (fail)
                      refine HST.out.len_call.mono ?_
                      rintro e w5 ⟨rfl, hst⟩
                      have HS5 := Lib.hid hst.out
                      clear hst HST
                      go_wp2_with (fail)
                      refine HS5.out.bytes_call.mono ?_
                      rintro e w6 ⟨rfl, hst⟩
                      have HS6 := Lib.hid hst.out
                      clear hst HS5
                      go_wp2_with (fail)
                      refine (HS6.out.pack_call HBI.out (by have := HLE.out; omega)).mono ?_
                      rintro e w7 ⟨rfl, hst⟩
                      have HS7 := Lib.hid hst.out
                      obtain ⟨st, hst2⟩ : ∃ st, strOfNums (pack os') = st := ⟨_, rfl⟩
                      rw [hst2]
                      clear hst HS6 hst2
                      go_wp2_with (fail)
                      refine (HS7.out.left_call HIN.out.hM).mono ?_
                      rintro e w9 ⟨rfl, hst⟩
                      have HS9 := Lib.hid hst.out
                      clear hst HS7
                      go_wp2_with (fail)
                      refine HS9.out.rest_call.mono ?_
                      rintro e w10 ⟨rfl, hst⟩
                      rw [HR.out]
                      have HS10 := Lib.hid hst.out
                      clear hst HS9
                      go_wp2_with (fail)
                      go_roundg (l.length - (k + 1))
                      case measure => have := HK.out; omega
                      case rel => exact ⟨k + 1, pos', M', c2, A2, os', by have := HK.out; omega, by go_num, rfl, HIN.out, HBI.out, HLE.out, HS10.out.s0⟩
                  --KREND
          · obtain ⟨hin, hbits, hlen, hs0⟩ := HI.out
            have HBW := Lib.hid (HWS.out _ hs0.chg)
            clear hin hbits hlen hs0 HI
            go_wp2_with (first
              | (go_at_call 26; refine (get_nil 0 _ (by decide) (by decide)).mono ?_; rintro e w' ⟨rfl, rfl⟩)
              | (go_at_call 25; refine (put_nil 0 0 _).mono ?_; rintro e w' ⟨rfl, rfl⟩)
              | (go_at_call 29; refine (wlen_nil _).mono ?_; rintro e w' ⟨rfl, rfl⟩)
              | (go_at_call 30; refine (bytes_nil _).mono ?_; rintro e w' ⟨rfl, rfl⟩)
              | (go_at_call 27; refine (peek_nil 3 _ (by decide) (by decide)).mono ?_; rintro e w' ⟨rfl, rfl⟩)
              | (go_at_call 28; refine (skip_nil 0 _).mono ?_; rintro e w' ⟨rfl, rfl⟩)
              | (go_at_call 32; refine (left_nil _).mono ?_; rintro e w' ⟨rfl, rfl⟩)
              | (go_at_call 33; refine (rest_nil _).mono ?_; rintro e w' ⟨rfl, rfl⟩))
            go_ret
            exact ⟨rfl, HBW.out⟩
end Go.Proofs.Ythncomijfpbeeaa.Bits
