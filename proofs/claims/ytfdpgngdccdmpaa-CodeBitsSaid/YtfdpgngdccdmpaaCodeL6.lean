/- Chapter 19: symbols' codes one behind the other take as many bits as their lengths. -/
import Derived.Test.YtfdpgngdccdmpaaCodeL2
namespace Go.Proofs.Ytfdpgngdccdmpaa.Code
set_option linter.unusedVariables false
set_option linter.unusedSimpArgs false
open Go.RowKit Go.Proofs.YtfdpgngdccdmpaaW.PrintWords Go.Proofs.YtfdpgngdccdmpaaW.PrintMore Go.Proofs.Ytfdpgngdccdmpaa.L Go.Proofs.Ytfdpgngdccdmpaa.Ints Go.Proofs.Ytfdpgngdccdmpaa.BP

/-- A symbol that has a code. -/
def coded (l : List Int) (s : Int) : Bool := decide (0 ≤ s ∧ s < (l.length : Int) ∧ 0 < l.getD s.toNat 0)
theorem coded_put {l : List Int} (hr : ∀ x ∈ l, 0 ≤ x ∧ x ≤ 15) (s : Int) : putOk l (codes l) s = coded l s := by
  unfold putOk coded
  apply decide_eq_decide.2
  rw [codes_length]
  constructor
  · rintro ⟨h1, h2, _, h3, _⟩
    exact ⟨h1, h2, by omega⟩
  · rintro ⟨h1, h2, h3⟩
    have := hr _ (getD_mem' (l := l) (k := s.toNat) (by omega))
    exact ⟨h1, h2, h2, by omega, by omega⟩
theorem coded_may {l : List Int} (hr : ∀ x ∈ l, 0 ≤ x ∧ x ≤ 15) (hk : kraft l ≤ 32768) (s : Int) (h : coded l s = true) : Bits.mayPut ((codes l).getD s.toNat 0) (l.getD s.toNat 0) = true := by
  obtain ⟨h1, h2, h3⟩ := of_decide_eq_true h
  have hlt : s.toNat < l.length := by omega
  have hx := hr _ (getD_mem' hlt)
  rw [codes_getD l s.toNat hlt]
  rcases len_case _ hx with h0 | ⟨n, hn, hn15⟩
  · omega
  · have hb := code_bound l hk s.toNat n hn hn15
    unfold Bits.mayPut
    refine decide_eq_true ⟨by omega, by omega, by omega, ?_⟩
    rw [hn, Int.toNat_natCast]
    exact_mod_cast hb
set_option maxRecDepth 100000 in
set_option maxHeartbeats 4000000 in
theorem CodeBits_walk (A : Option Addr) (l : List Int) (c : Nat) (B : Option Addr) (ss : List Int) (c' : Nat) (w : World) (hl : KI.C w A l.length l) (hc : l.length ≤ c) (h8 : l.length * 8 ≤ 140737488351232) (hwf : ∀ x ∈ l, (Lit.int .i64 x).wf = true)
    (hss : KI.C w B ss.length ss) (hc' : ss.length ≤ c') (h8' : ss.length * 8 ≤ 140737488351232) (hwf' : ∀ x ∈ ss, (Lit.int .i64 x).wf = true) :
    Calls Try.prog 9 #[.slice A l.length c, .slice B ss.length c'] w fun e w' => e = .returned (.bool true) ∧ Below w.heap.size w w' := by
  have HL := Lib.hid hl
  have HSS := Lib.hid hss
  clear hl hwf hss hwf'
  by_cases hg : l.length ≤ 200 ∧ ss.length ≤ 200
  · obtain ⟨g1, g2⟩ := hg
    have g1i : (l.length : Int) ≤ 200 := by omega
    have g2i : (ss.length : Int) ≤ 200 := by omega
    go_enter Try.func9, Try.ntmps9
    go_wp2_with (fail)
    refine (alive_any _).mono ?_
    rintro e w1 ⟨rfl, hb1⟩
    have HB1 := Lib.hid hb1
    have HL1 := Lib.hid (Kd.C_below HL.out hb1)
    clear hb1
    by_cases hr : right l = 0
    · have HRG := Lib.hid (right_range hr)
      have HK := Lib.hid (right_kraft hr)
      go_wp2_with (fail)
      refine (of_ok _ _ l _ HL1.out (by omega) hr).mono ?_
      clear hr
      rintro e w2 ⟨v, rfl, hrr, hb2⟩
      obtain ⟨A2, c2, rfl⟩ := Kd.R_slice hrr
      have HC2 := Lib.hid (Kd.R_reads' hrr).2.2
      rw [codes_length] at HC2 ⊢
      have HB2 := Lib.hid (Ints.bel_trans HB1.out HB1.out.size hb2)
      clear hrr hb2 HB1 HL1
      go_wp2_with (fail)
      have hw3 := Bits.wr_new w2 w2.heap.size
      have hb3 := (Below.refl w2.heap.size w2).alloc (Nat.le_refl _) (.cells #[.slice none 0 0, .int .i64 0] 49 (0, 0))
      have HW3 := Lib.hid hw3
      have HB3 := Lib.hid hb3
      clear hw3 hb3
      go_loopg [39, 8] ss.length (fun j i n wr => ∃ (k m : Nat), k + j = ss.length ∧ i = .int .i64 k ∧ n = .int .i64 m ∧ Hid (m ≤ 15 * k ∧ (∃ v bs, Bits.WR wr w2.heap.size w2.heap.size v bs ∧ bs.length = m) ∧ Below w2.heap.size w2 wr))
      case atStart => exact ⟨0, 0, by omega, rfl, rfl, by omega, ⟨_, [], HW3.out, rfl⟩, HB3.out⟩
      case round =>
        obtain ⟨k, m, hk, rfl, rfl, HI⟩ := hrel
        obtain ⟨hm, ⟨v, bs, hw, hbl⟩, hb⟩ := HI.out
        by_cases hlt : k < ss.length
        · have hsc := Kd.C_below (Kd.C_below HSS.out HB2.out) hb
          have hlc := Kd.C_below (Kd.C_below HL.out HB2.out) hb
          obtain ⟨ad, rfl, x0⟩ := ints_at hsc k hlt
          obtain ⟨s, hs⟩ : ∃ s, ss.getD k 0 = s := ⟨_, rfl⟩
          rw [hs] at x0
          have i0 : (0 : Int) ≤ k := by omega
          have i1 : (k : Int) < (ss.length : Int) := by omega
          have i2 : ((k : Int)).toNat = k := by omega
          have hm3 : (m : Int) ≤ 3000 := by omega
          have HLC := Lib.hid hlc
          have HCC := Lib.hid (show KI.C wr A2 (codes l).length (codes l) by rw [codes_length]; exact Kd.C_below HC2.out hb)
          have HW := Lib.hid hw
          have HBL := Lib.hid hbl
          have HB := Lib.hid hb
          have HM := Lib.hid hm
          have HKK := Lib.hid hk
          clear hs hsc hlc hw hbl hb HI hm hk
          cases hcd : coded l s
          · have HP := Lib.hid (show putOk l (codes l) s = false by rw [coded_put HRG.out, hcd])
            have hn : ¬ (0 ≤ s ∧ s < (l.length : Int) ∧ 0 < l.getD s.toNat 0) := of_decide_eq_false hcd
            have hlen : (codes l).length = l.length := codes_length l
            have HLEN := Lib.hid hlen
            clear hcd hlen
            go_wp2_with (fail)
            refine (by have := cput_no (some ⟨w2.heap.size, 0, none⟩) A A2 c c2 l (codes l) s wr HLC.out HCC.out HP.out; rw [HLEN.out] at this; exact this : Calls Try.prog 22 #[.pointer (some ⟨w2.heap.size, 0, none⟩), .slice A l.length c, .slice A2 l.length c2, .int .i64 s] wr _).mono ?_
            rintro e w4 ⟨rfl, rfl⟩
            by_cases h0 : s < 0
            · clear hn
              go_wp2_with (fail)
              go_roundg (ss.length - (k + 1))
              case measure => have := HKK.out; omega
              case rel => exact ⟨k + 1, m, by have := HKK.out; omega, by go_num, rfl, by have := HM.out; omega, ⟨v, bs, HW.out, HBL.out⟩, HB.out⟩
            · have h00 : 0 ≤ s := by omega
              by_cases h1 : (l.length : Int) ≤ s
              · clear hn h0
                go_wp2_with (fail)
                go_roundg (ss.length - (k + 1))
                case measure => have := HKK.out; omega
                case rel => exact ⟨k + 1, m, by have := HKK.out; omega, by go_num, rfl, by have := HM.out; omega, ⟨v, bs, HW.out, HBL.out⟩, HB.out⟩
              · have h10 : s < (l.length : Int) := by omega
                obtain ⟨t, rfl⟩ := Int.eq_ofNat_of_zero_le h00
                obtain ⟨bd, rfl, y0⟩ := ints_at HLC.out t (by omega)
                rw [Int.toNat_natCast] at hn
                obtain ⟨x, hx⟩ : ∃ x, l.getD t 0 = x := ⟨_, rfl⟩
                rw [hx] at y0 hn
                have hx0 : x ≤ 0 := by omega
                have t2 : ((t : Int)).toNat = t := by omega
                clear hn h0 h1 hx
                go_wp2_with (fail)
                go_roundg (ss.length - (k + 1))
                case measure => have := HKK.out; omega
                case rel => exact ⟨k + 1, m, by have := HKK.out; omega, by go_num, rfl, by have := HM.out; omega, ⟨v, bs, HW.out, HBL.out⟩, HB.out⟩
          · have HP := Lib.hid (show putOk l (codes l) s = true by rw [coded_put HRG.out, hcd])
            have HMY := Lib.hid (coded_may HRG.out HK.out s hcd)
            obtain ⟨h00, h10, hpos⟩ := of_decide_eq_true hcd
            obtain ⟨t, rfl⟩ := Int.eq_ofNat_of_zero_le h00
            obtain ⟨bd, rfl, y0⟩ := ints_at HLC.out t (by omega)
            rw [Int.toNat_natCast] at hpos
            have hx15 := (HRG.out _ (getD_mem' (l := l) (k := t) (by omega))).2
            obtain ⟨x, hx⟩ : ∃ x, l.getD t 0 = x := ⟨_, rfl⟩
            rw [hx] at y0 hpos hx15
            have t2 : ((t : Int)).toNat = t := by omega
            have HX := Lib.hid hx
            have HLEN := Lib.hid (codes_length l)
            obtain ⟨xn, hxn⟩ : ∃ xn : Nat, Hid (x = xn) := ⟨x.toNat, Lib.hid (by omega)⟩
            have hbase : w2.heap.size ≤ wr.heap.size := HB.out.size
            clear hcd hx
            go_wp2_with (fail)
            refine (by
              have := cput_go (Q := fun r w' => r = true ∧ (∃ v1, Bits.WR w' w2.heap.size w2.heap.size v1 (bs ++ bitsV x.toNat ((codes l).getD t 0))) ∧ Below w2.heap.size w2 w') (some ⟨w2.heap.size, 0, none⟩) (some bd) A2 c c2 l (codes l) (t : Int) wr HLC.out HCC.out HP.out (fun q => by
                rw [t2, HX.out]
                have hmy := HMY.out
                rw [t2, HX.out] at hmy
                refine (Bits.put_yes _ _ _ _ _ x _ (HW.out.chg ((Chg.refl (fun _ => False) _).drewN q) (fun h => h) (fun _ _ h => h)) hmy hbase (by have := HBL.out; have := HM.out; omega)).mono ?_
                rintro e w4 ⟨rfl, v1, hW4, hC4, _⟩
                refine ⟨true, rfl, rfl, ⟨v1, hW4⟩, (below_drewN HB.out q).trans (hC4.below (B := w2.heap.size) hbase (fun k hk => ?_))⟩
                rcases hk with rfl | hk
                · exact Nat.le_refl _
                · exact own_base (Kd.own_of_R HW.out.2.1) k hk.symm)
              rw [HLEN.out] at this
              exact this : Calls Try.prog 22 #[.pointer (some ⟨w2.heap.size, 0, none⟩), .slice (some bd) l.length c, .slice A2 l.length c2, .int .i64 t] wr _).mono ?_
            rintro e w4 ⟨r, rfl, HQ⟩
            obtain ⟨rfl, ⟨v1, hW4⟩, hB4⟩ := HQ.out
            obtain ⟨bd', hA', y1⟩ := ints_at (Kd.C_below (Kd.C_below HL.out HB2.out) hB4) t (by omega)
            injection hA' with hA'
            subst hA'
            rw [HX.out] at y1
            have HW4 := Lib.hid hW4
            have HB4 := Lib.hid hB4
            clear hW4 hB4 HQ y0
            go_wp2_with (fail)
            go_roundg (ss.length - (k + 1))
            case measure => have := HKK.out; omega
            case rel => exact ⟨k + 1, m + xn, by have := HKK.out; omega, by go_num, by rw [hxn.out]; go_num, by have := HM.out; have := hxn.out; omega, ⟨v1, _, HW4.out, by rw [List.length_append, bitsV_length, HBL.out, hxn.out, Int.toNat_natCast]⟩, HB4.out⟩
        · obtain rfl : k = ss.length := by omega
          have hm3 : (m : Int) ≤ 3000 := by omega
          have HB := Lib.hid (Ints.bel_trans HB2.out HB2.out.size hb)
          have HW := Lib.hid hw
          have HBL := Lib.hid hbl
          have e1 : ((m : Int) == (m : Int)) = true := by simp
          have hsz := Lib.hid (show (strOfNums (pack bs)).size = (m + 7) / 8 by rw [strOfNums_size, pack_length, hbl])
          have e2 : ((((m + 7) / 8 : Nat) : Int) == ((m : Int) + 7) / 8) = true := by
            have : (((m + 7) / 8 : Nat) : Int) = ((m : Int) + 7) / 8 := by omega
            rw [this]
            simp
          have e3 : (((m : Int) + 7) / 8 == ((m : Int) + 7) / 8) = true := by simp
          clear hw hbl hb HI hm hk
          go_wp2_with (fail)
          refine (Bits.wlen_any _ _ _ _ _ HW.out).mono ?_
          rintro e w4 ⟨rfl, rfl⟩
          rw [HBL.out]
          go_wp2_with (fail)
          refine (Bits.bytes_any _ _ _ _ _ HW.out).mono ?_
          rintro e w4 ⟨rfl, rfl⟩
          obtain ⟨st, hst⟩ : ∃ st, strOfNums (pack bs) = st := ⟨_, rfl⟩
          have hsz2 := hsz.out
          rw [hst] at hsz2 ⊢
          have hsz3 : ((st.size : Int)) = ((m : Int) + 7) / 8 := by rw [hsz2]; omega
          clear hst hsz2
          go_wp2_with (fail)
          go_ret
          exact ⟨rfl, HB.out⟩
    · go_wp2_with (fail)
      refine (of_no _ _ l _ HL1.out (by omega) hr).mono ?_
      rintro e w2 ⟨rfl, rfl⟩
      have hne : (right l != 0) = true := bne_iff_ne.2 hr
      clear hr
      generalize right l = r at *
      go_wp2_with (fail)
      go_ret
      exact ⟨rfl, HB1.out⟩
  · by_cases g1 : l.length ≤ 200
    · have g1i : (l.length : Int) ≤ 200 := by omega
      have g2i : (200 : Int) < (ss.length : Int) := by omega
      clear hg g1
      go_enter Try.func9, Try.ntmps9
      go_wp2_with (go_at_call 10; refine (alive_any _).mono ?_; rintro e w' ⟨rfl, hb⟩)
      go_ret
      exact ⟨rfl, hb⟩
    · have g1i : (200 : Int) < (l.length : Int) := by omega
      clear hg g1
      go_enter Try.func9, Try.ntmps9
      go_wp2_with (go_at_call 10; refine (alive_any _).mono ?_; rintro e w' ⟨rfl, hb⟩)
      go_ret
      exact ⟨rfl, hb⟩
end Go.Proofs.Ytfdpgngdccdmpaa.Code
