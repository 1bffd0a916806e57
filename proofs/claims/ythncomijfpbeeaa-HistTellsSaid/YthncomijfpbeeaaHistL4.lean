/- Chapter 17: every tokens counted, and more: each count; what is handed in stays; lists kept, marked, grown. -/
import Derived.Test.YthncomijfpbeeaaHistPure
import Derived.Test.YthncomijfpbeeaaBookApart
namespace Go.Proofs.Ythncomijfpbeeaa.Hist
set_option linter.unusedVariables false
set_option linter.unusedSimpArgs false
open Go.RowKit Go.Proofs.YthncomijfpbeeaaW.PrintWords Go.Proofs.YthncomijfpbeeaaW.PrintMore Go.Proofs.Ythncomijfpbeeaa.L Go.Proofs.Ythncomijfpbeeaa.Ints Go.Proofs.Ythncomijfpbeeaa.Book

/-- 0, or the token's fault. -/
def tokE (n : Nat) (l : List Int) : Int := if good n l then 0 else 9
def cntOr (h l : List Int) : List Int := if good h.length l then counted h l else []
theorem cntOr_len (h l : List Int) : (cntOr h l).length ≤ h.length := by
  unfold cntOr
  split
  · rw [counted_length]; exact Nat.le_refl _
  · exact Nat.zero_le _
theorem tokE_ok {n : Nat} {l : List Int} (h : good n l) : tokE n l = 0 := if_pos h
theorem tokE_no {n : Nat} {l : List Int} (h : ¬ good n l) : tokE n l = 9 := if_neg h
theorem good_take {n : Nat} {l : List Int} (h : good n l) (k : Nat) : good n (l.take k) := fun t ht => h t (List.mem_of_mem_take ht)
theorem good_snoc (n : Nat) (a : List Int) (t : Int) : good n (a ++ [t]) ↔ good n a ∧ inR n t := by
  rw [good_append]
  refine and_congr_right fun _ => ⟨fun h => h t (by simp), fun h u hu => ?_⟩
  rw [List.mem_singleton.1 hu]
  exact h
theorem add_or (A B : Option Addr) (n m c c' : Nat) (h l : List Int) (w : World) (hh : KI.C w A n h) (hl : KI.C w B m l) (h356 : h.length ≤ 356) (hb : ∀ x ∈ h, -(2 ^ 62) ≤ x ∧ x ≤ 2 ^ 62) (hm : m * 8 ≤ 140737488351232) :
    Calls Try.prog 17 #[.slice A n c, .slice B m c'] w fun e w' => ∃ v, e = .returned (.tuple #[v, .int .i64 (tokE h.length l)]) ∧ KI.R 3 w' w.heap.size (fun _ => True) v (cntOr h l) ∧ Below w.heap.size w w' := by
  refine (add_any A B n m c c' h l w hh hl h356 hb hm).mono ?_
  rintro e w' ⟨hb, ⟨hg, v, rfl, hr⟩ | ⟨hg, rfl⟩⟩
  · exact ⟨v, by rw [tokE_ok hg], by unfold cntOr; rw [if_pos hg]; exact hr, hb⟩
  · exact ⟨_, by rw [tokE_no hg], by unfold cntOr; rw [if_neg hg]; exact Kd.R_nil _ _ _ _ _, hb⟩
theorem of_or (B : Option Addr) (m c' : Nat) (N : Nat) (l : List Int) (w : World) (hl : KI.C w B m l) (hN : N ≤ 356) (hm : m * 8 ≤ 140737488351232) :
    Calls Try.prog 15 #[.int .i64 N, .slice B m c'] w fun e w' => ∃ v, e = .returned (.tuple #[v, .int .i64 (tokE N l)]) ∧ KI.R 3 w' w.heap.size (fun _ => True) v (cntOr (List.replicate N 0) l) ∧ Below w.heap.size w w' := by
  refine (of_any B m c' N l w hl (by omega) (by omega) hm).mono ?_
  rw [Int.toNat_natCast]
  rintro e w' ⟨hb, ⟨hg, v, rfl, hr⟩ | ⟨hg, rfl⟩⟩
  · exact ⟨v, by rw [tokE_ok hg], by unfold cntOr; rw [if_pos (by rw [List.length_replicate]; exact hg)]; exact hr, hb⟩
  · exact ⟨_, by rw [tokE_no hg], by unfold cntOr; rw [if_neg (by rw [List.length_replicate]; exact hg)]; exact Kd.R_nil _ _ _ _ _, hb⟩
theorem counted_small (N : Nat) (l : List Int) (hl : l.length ≤ 1000) : ∀ x ∈ counted (List.replicate N 0) l, -(2 ^ 62) ≤ x ∧ x ≤ 2 ^ 62 := by
  intro x hx
  obtain ⟨i, hi, rfl⟩ := List.getElem_of_mem hx
  rw [counted_length, List.length_replicate] at hi
  have hb := counted_le l (List.replicate N 0) 0 (fun x hx => by rw [List.eq_of_mem_replicate hx]; decide) i (by rw [List.length_replicate]; exact hi)
  rw [List.getD_eq_getElem?_getD, List.getElem?_eq_getElem (by rw [counted_length, List.length_replicate]; exact hi)] at hb
  simp only [Option.getD_some] at hb
  omega
set_option maxRecDepth 100000 in
set_option maxHeartbeats 4000000 in
theorem HistTells_walk (size : Int) (A : Option Addr) (l : List Int) (c : Nat) (B : Option Addr) (more : List Int) (d : Nat) (w : World) (hs : (Lit.int .i64 size).wf = true) (hl : KI.C w A l.length l) (hlc : l.length ≤ c) (h8 : l.length * 8 ≤ 140737488351232) (hlw : ∀ x ∈ l, (Lit.int .i64 x).wf = true)
    (hm : KI.C w B more.length more) (hmd : more.length ≤ d) (m8 : more.length * 8 ≤ 140737488351232) (hmw : ∀ x ∈ more, (Lit.int .i64 x).wf = true) :
    Calls Try.prog 3 #[.int .i64 size, .slice A l.length c, .slice B more.length d] w fun e w' => e = .returned (.bool true) ∧ Below w.heap.size w w' := by
  have HL := Lib.hid hl
  have HM := Lib.hid hm
  clear hl hm hlc hlw hmd hmw
  by_cases h400 : l.length ≤ 400
  · by_cases m400 : more.length ≤ 400
    · have h400i : (l.length : Int) ≤ 400 := by omega
      have m400i : (more.length : Int) ≤ 400 := by omega
      go_enter Try.func3, Try.ntmps3
      go_wp2_with (fail)
      refine (alive_any _).mono ?_
      rintro e w1 ⟨rfl, hb1⟩
      have HB1 := Lib.hid hb1
      have HL1 := Lib.hid (Kd.C_below HL.out hb1)
      have HM1 := Lib.hid (Kd.C_below HM.out hb1)
      clear hb1
      go_wp2_with (fail)
      refine (lent_ints _ _ _ l _ HL1.out h8).mono ?_
      rintro e w2 ⟨vm, rfl, hlm, hb2⟩
      obtain ⟨Am, cm, rfl⟩ := hlm.form
      obtain ⟨_, _, hmc⟩ := hlm.reads
      have HB2 := Lib.hid (Ints.bel_trans HB1.out HB1.out.size hb2)
      have HLM := Lib.hid hlm
      have HMC := Lib.hid hmc
      have HL2 := Lib.hid (Kd.C_below HL1.out hb2)
      have HM2 := Lib.hid (Kd.C_below HM1.out hb2)
      clear hlm hmc hb2 HB1 HL1 HM1
      go_wp2_with (fail)
      by_cases hsz : size < 0 ∨ 356 < size
      · refine (of_arg _ _ _ size _ hsz).mono ?_
        rintro e w2 ⟨rfl, rfl⟩
        go_wp2_with (fail)
        refine (stays_ints _ _ _ _ _ _ l _ _ HLM.out HL2.out).mono ?_
        rintro e w3 ⟨rfl, q3, rfl⟩
        have HB3 := Lib.hid (below_drewN HB2.out q3)
        obtain ⟨w3, hw3⟩ : ∃ w3, w2.drewN q3 = w3 := ⟨_, rfl⟩
        have HL3 := Lib.hid (Kd.C_drewN HL2.out q3)
        rw [hw3] at HB3 HL3 ⊢
        by_cases h0 : size < 0
        · clear hsz
          go_wp2_with (fail)
          go_loopg [10, 63] l.length (fun j s i wr => ∃ k : Nat, k + j = l.length ∧ i = .int .i64 k ∧ s = .int .i64 1 ∧ wr = w3)
          case atStart => exact ⟨0, by omega, rfl, rfl, rfl⟩
          case round =>
            obtain ⟨k, hk, rfl, rfl, rfl⟩ := hrel
            by_cases hlt : k < l.length
            · obtain ⟨ad, rfl, x0⟩ := ints_at HL3.out k hlt
              obtain ⟨t, ht⟩ : ∃ t, l.getD k 0 = t := ⟨_, rfl⟩
              rw [ht] at x0
              have i0 : (0 : Int) ≤ k := by omega
              have i1 : (k : Int) < (l.length : Int) := by omega
              have i2 : ((k : Int)).toNat = k := by omega
              go_wp2_with (fail)
              go_roundg (l.length - (k + 1))
              case measure => omega
              case rel => exact ⟨k + 1, by omega, by go_num, rfl, rfl⟩
            · obtain rfl : k = l.length := by omega
              go_wp2_with (fail)
              go_ret
              exact ⟨rfl, HB3.out⟩
        · have h1 : 356 < size := by omega
          clear hsz
          go_wp2_with (fail)
          go_loopg [10, 63] l.length (fun j s i wr => ∃ k : Nat, k + j = l.length ∧ i = .int .i64 k ∧ s = .int .i64 1 ∧ wr = w3)
          case atStart => exact ⟨0, by omega, rfl, rfl, rfl⟩
          case round =>
            obtain ⟨k, hk, rfl, rfl, rfl⟩ := hrel
            by_cases hlt : k < l.length
            · obtain ⟨ad, rfl, x0⟩ := ints_at HL3.out k hlt
              obtain ⟨t, ht⟩ : ∃ t, l.getD k 0 = t := ⟨_, rfl⟩
              rw [ht] at x0
              have i0 : (0 : Int) ≤ k := by omega
              have i1 : (k : Int) < (l.length : Int) := by omega
              have i2 : ((k : Int)).toNat = k := by omega
              go_wp2_with (fail)
              go_roundg (l.length - (k + 1))
              case measure => omega
              case rel => exact ⟨k + 1, by omega, by go_num, rfl, rfl⟩
            · obtain rfl : k = l.length := by omega
              go_wp2_with (fail)
              go_ret
              exact ⟨rfl, HB3.out⟩
      · obtain ⟨N, rfl⟩ := Int.eq_ofNat_of_zero_le (show 0 ≤ size by omega)
        have hN : N ≤ 356 := by omega
        have n0 : (0 : Int) ≤ (N : Int) := by omega
        have n1 : (N : Int) ≤ 356 := by omega
        clear hsz hs
        refine (of_or _ _ _ N l _ HMC.out hN h8).mono ?_
        rintro e w3 ⟨v3, rfl, hr3, hb3⟩
        obtain ⟨P, hP⟩ : ∃ P, cntOr (List.replicate N 0) l = P := ⟨_, rfl⟩
        rw [hP] at hr3
        have HP := Lib.hid hP
        obtain ⟨A3, c3, rfl⟩ := Kd.R_slice hr3
        have HR3 := Lib.hid hr3
        have HB3 := Lib.hid (Ints.bel_trans HB2.out HB2.out.size hb3)
        have HLM3 := Lib.hid (HLM.out.below hb3)
        have HL3 := Lib.hid (Kd.C_below HL2.out hb3)
        have HM3 := Lib.hid (Kd.C_below HM2.out hb3)
        have hs23 : w2.heap.size ≤ w3.heap.size := hb3.size
        clear hr3 hb3 hP HLM HL2 HM2 HMC
        go_wp2_with (fail)
        refine (stays_ints _ _ _ _ _ _ l _ _ HLM3.out HL3.out).mono ?_
        rintro e w4 ⟨rfl, q3, rfl⟩
        have HB4 := Lib.hid (below_drewN HB3.out q3)
        have HL4 := Lib.hid (Kd.C_drewN HL3.out q3)
        have HM4 := Lib.hid (Kd.C_drewN HM3.out q3)
        have HR4 := Lib.hid (Kd.R_drewN HR3.out q3)
        have hs24 : w2.heap.size ≤ (w3.drewN q3).heap.size := hs23
        obtain ⟨w4, hw4⟩ : ∃ w4, w3.drewN q3 = w4 := ⟨_, rfl⟩
        rw [hw4] at HB4 HL4 HM4 HR4 hs24 ⊢
        clear hw4 HB3 HL3 HM3 HR3 HLM3 hs23
        go_wp2_with ((with_reducible refine gate_dst (N := 60) rfl ?_); apply stopper)
        unfold Stopper
        refine Kd.R_make KI (w0 := w4) w4.heap.size 3 rfl (N := 60) rfl 22 _ _ rfl (N : Int) rfl rfl Try.underlying22 (.int .i64 0) 8 infoInt rfl (by decide) (by omega) 0 (ok := fun _ => True) (okp := fun _ => True) ?mM (fun _ hk => hk) trivial n0 ?mL (Below.refl _ _) (Nat.le_refl _) ?_
        case mM => exact rfl
        case mL => omega
        intro v5 w5 hr5 hb5 hg5 hat5
        rw [Int.toNat_natCast] at hr5
        obtain ⟨A5, c5, rfl⟩ := Kd.R_slice hr5
        rw [List.length_replicate] at hr5 ⊢
        have HR5 := Lib.hid hr5
        have HB5 := Lib.hid hb5
        clear hr5 hb5 hg5 hat5
        go_wp2_with (fail)
        go_loopg [10, 63] l.length (fun j s i wr => ∃ k : Nat, k + j = l.length ∧ i = .int .i64 k ∧ s = .int .i64 (tokE N (l.take k)) ∧ Hid (∃ cs : List Int, cs.length = N ∧ (good N (l.take k) → cs = counted (List.replicate N 0) (l.take k)) ∧ KI.R 3 wr w4.heap.size (fun _ => True) (.slice A5 N c5) cs ∧ Below w4.heap.size w4 wr))
        case atStart => exact ⟨0, by omega, rfl, rfl, _, by simp [counted], fun _ => rfl, HR5.out, HB5.out⟩
        case round =>
          obtain ⟨k, hk, rfl, rfl, HI⟩ := hrel
          obtain ⟨cs, hcl, hcg, hcr, hcb⟩ := HI.out
          by_cases hlt : k < l.length
          · obtain ⟨ad, rfl, x0⟩ := ints_at (Kd.C_below HL4.out hcb) k hlt
            obtain ⟨t, ht⟩ : ∃ t, l.getD k 0 = t := ⟨_, rfl⟩
            rw [ht] at x0
            have hsn : l.take (k + 1) = l.take k ++ [t] := by rw [take_succ_getD l k hlt, ht]
            have i0 : (0 : Int) ≤ k := by omega
            have i1 : (k : Int) < (l.length : Int) := by omega
            have i2 : ((k : Int)).toNat = k := by omega
            have HK := Lib.hid hk
            by_cases hg : good N (l.take k)
            · by_cases hin : inR N t
              · have hg2 : good N (l.take (k + 1)) := by rw [hsn]; exact (good_snoc _ _ _).2 ⟨hg, hin⟩
                rw [tokE_ok hg]
                obtain ⟨t0, t1⟩ := hin
                have hlk := List.length_take_le k l
                obtain ⟨g, cap, hv, hge, hgl, cells, hcell⟩ := Kd.R_form hcr (by rw [hcl]; omega)
                rw [hcl] at hv
                injection hv with hv1 hv2 hv3
                subst hv1 hv3
                have hr' := hcr
                rw [← hcl] at hr'
                obtain ⟨y0, y1⟩ := Kd.R_cell (enc := Value.int .i64) (h1 := fun _ => rfl) (0 : Int) hr' t t0 (by rw [hcl]; exact t1)
                obtain ⟨p0, p1⟩ := Kd.R_put (enc := Value.int .i64) (h1 := fun _ => rfl) hr' t (cs.getD t.toNat 0 + 1)
                rw [hcl] at p0
                obtain ⟨x, hxx⟩ : ∃ x, cs.getD t.toNat 0 = x := ⟨_, rfl⟩
                rw [show rdOf (0 : Int) cs t = x from hxx] at y0
                rw [hxx] at p0 p1
                have hxs : -(2 ^ 62) ≤ x ∧ x ≤ 2 ^ 62 := by
                  have h1 := counted_small N (l.take k) (by omega)
                  rw [← hcg hg] at h1
                  refine h1 x ?_
                  rw [← hxx, List.getD_eq_getElem?_getD, List.getElem?_eq_getElem (by omega)]
                  exact List.getElem_mem _
                have hbump : cs.set t.toNat (x + 1) = counted (List.replicate N 0) (l.take (k + 1)) := by rw [hsn, counted_snoc, ← hcg hg]; unfold bump; rw [hxx]
                rw [hbump] at p0
                have hw2 : wrap64 (x + 1) = x + 1 := by unfold wrap64; omega
                have P0 := Lib.hid p0
                have HG := Lib.hid hg2
                have HBW := Lib.hid (hcb.grown p1 hcb.size (fun k hk => by
                  injection hk with hk
                  omega))
                clear hcr hr' hcb HI p0 p1 hbump hxx hxs hlk hcg hcell hge hgl hsn ht hk hg hg2
                go_wp2_with (fail)
                go_roundg (l.length - (k + 1))
                case measure => have := HK.out; omega
                case rel => exact ⟨k + 1, by have := HK.out; omega, by go_num, by rw [tokE_ok HG.out], _, by rw [counted_length, List.length_replicate], fun _ => rfl, P0.out, HBW.out⟩
              · have hg2 : ¬ good N (l.take (k + 1)) := by rw [hsn]; exact fun h => hin ((good_snoc _ _ _).1 h).2
                rw [tokE_ok hg]
                have HG := Lib.hid hg2
                clear hcr hcb hcg hsn ht hk hg hg2 hcl
                by_cases t0 : t < 0
                · clear hin
                  go_wp2_with (fail)
                  go_roundg (l.length - (k + 1))
                  case measure => have := HK.out; omega
                  case rel =>
                    obtain ⟨cs, hcl, hcg, hcr, hcb⟩ := HI.out
                    exact ⟨k + 1, by have := HK.out; omega, by go_num, by rw [tokE_no HG.out], cs, hcl, fun h => absurd h HG.out, hcr, hcb⟩
                · have t1 : (N : Int) ≤ t := by
                    unfold inR at hin
                    omega
                  clear hin
                  go_wp2_with (fail)
                  go_roundg (l.length - (k + 1))
                  case measure => have := HK.out; omega
                  case rel =>
                    obtain ⟨cs, hcl, hcg, hcr, hcb⟩ := HI.out
                    exact ⟨k + 1, by have := HK.out; omega, by go_num, by rw [tokE_no HG.out], cs, hcl, fun h => absurd h HG.out, hcr, hcb⟩
            · have hg2 : ¬ good N (l.take (k + 1)) := by rw [hsn]; exact fun h => hg ((good_snoc _ _ _).1 h).1
              rw [tokE_no hg]
              have HG := Lib.hid hg2
              clear hcr hcb hcg hsn ht hk hg hg2 hcl
              go_wp2_with (fail)
              go_roundg (l.length - (k + 1))
              case measure => have := HK.out; omega
              case rel =>
                obtain ⟨cs, hcl, hcg, hcr, hcb⟩ := HI.out
                exact ⟨k + 1, by have := HK.out; omega, by go_num, by rw [tokE_no HG.out], cs, hcl, fun h => absurd h HG.out, hcr, hcb⟩
          · obtain rfl : k = l.length := by omega
            rw [List.take_length] at hcg ⊢
            by_cases hg : good N l
            · rw [tokE_ok hg]
              have hP2 : counted (List.replicate N 0) l = P := by
                rw [← HP.out]
                unfold cntOr
                rw [if_pos (by rw [List.length_replicate]; exact hg)]
              obtain rfl : cs = P := (hcg hg).trans hP2
              subst hcl
              have hz := counted_small cs.length l (by omega)
              rw [hP2] at hz
              have htot : total cs = l.length := by
                rw [← hP2, total_counted _ _ (by rw [List.length_replicate]; exact hg), total_zeros]
                omega
              have hnn : ∀ x ∈ cs, 0 ≤ x := by
                rw [← hP2]
                exact counted_nonneg _ _ (fun x hx => by rw [List.eq_of_mem_replicate hx]; decide)
              have HZ := Lib.hid hz
              have HTOT := Lib.hid htot
              have HNN := Lib.hid hnn
              have HR6 := Lib.hid hcr
              have HH6 := Lib.hid (Kd.R_below HR4.out hcb)
              have HB6 := Lib.hid (Ints.bel_trans HB4.out HB4.out.size hcb)
              have HM6 := Lib.hid (Kd.C_below HM4.out hcb)
              have hs46 : w4.heap.size ≤ wr.heap.size := hcb.size
              have hlt4 : ∀ k, (Value.slice A3 cs.length c3).ownBlock = some k → k < w4.heap.size := fun k hk => Kd.R_lt HR4.out k hk
              clear hcr hcb hcg HI hP2 hz htot hnn HP HR4 HL4 HM4 hg n0 n1
              obtain ⟨w6, rfl⟩ : ∃ w6 : World, w6 = wr := ⟨_, rfl⟩
              have hk3 := (Kd.R_reads' HH6.out).2.2
              have HC6 := Lib.hid hk3
              clear hk3
              go_wp2_with (fail)
              refine (lent_ints _ _ _ cs _ HC6.out (by omega)).mono ?_
              rintro e w7 ⟨vn, rfl, hln, hb7⟩
              obtain ⟨An, cn, rfl⟩ := hln.form
              obtain ⟨_, _, hnc⟩ := hln.reads
              have HLN7 := Lib.hid hln
              have HNC7 := Lib.hid hnc
              have HR7 := Lib.hid (Kd.R_below HR6.out hb7)
              have HH7 := Lib.hid (Kd.R_below HH6.out hb7)
              have HM7 := Lib.hid (Kd.C_below HM6.out hb7)
              have HB7 := Lib.hid (Ints.bel_trans HB6.out HB6.out.size hb7)
              have hs67 : w6.heap.size ≤ w7.heap.size := hb7.size
              clear hln hnc hb7 HC6
              go_wp2_with (fail)
              refine (add_or _ _ _ _ _ _ cs more _ HNC7.out HM7.out hN HZ.out m8).mono ?_
              rintro e w8 ⟨vg, rfl, hr8, hb8⟩
              obtain ⟨G, hG⟩ : ∃ G, cntOr cs more = G := ⟨_, rfl⟩
              have hgl := cntOr_len cs more
              rw [hG] at hr8 hgl
              have HG := Lib.hid hG
              obtain ⟨Ag, cg, rfl⟩ := Kd.R_slice hr8
              have HG8 := Lib.hid hr8
              have HLN8 := Lib.hid (HLN7.out.below hb8)
              have HR8 := Lib.hid (Kd.R_below HR7.out hb8)
              have HH8 := Lib.hid (Kd.R_below HH7.out hb8)
              have HM8 := Lib.hid (Kd.C_below HM7.out hb8)
              have HB8 := Lib.hid (Ints.bel_trans HB7.out HB7.out.size hb8)
              have HBK := Lib.hid (bk_new w8 w.heap.size)
              have hs78 : w7.heap.size ≤ w8.heap.size := hb8.size
              have hs02 : w.heap.size ≤ w2.heap.size := HB2.out.size
              clear hr8 hb8 hG HLN7 HNC7 HR7 HH7 HM7 HB7
              go_wp2_with (fail)
              have HA8 := Lib.hid (show Below w8.heap.size w8 (w8.alloc (.cells (bcells (.slice none 0 0) (.slice none 0 0) (.slice none 0 0) (.slice none 0 0)) 37 (0, 0))) from (Below.refl _ _).alloc (Nat.le_refl _) _)
              have hh8 := Kd.R_lower HH8.out hs02
              refine (ints_any2 _ w.heap.size w8.heap.size _ _ _ _ [] [] [] A3 cs.length c3 cs _ (by exact HBK.out) (by exact Kd.R_alloc hh8 _) (fun i hi => absurd hi (Nat.not_lt_zero i)) (by simp; omega) (by simp) (by simp) (by omega)).mono ?_
              rintro e w9 ⟨⟨V9, U9, u9, hbk9, hu9⟩, rfl, hb9⟩
              have HBK9 := Lib.hid hbk9
              have HU9 := Lib.hid (show ∀ k, (slv u9).ownBlock = some k → w8.heap.size ≤ k from fun k hk => Nat.le_trans HA8.out.size (hu9 k hk))
              have HB9 := Lib.hid (show Below w8.heap.size w8 w9 from HA8.out.trans hb9)
              have hs89 : w8.heap.size ≤ w9.heap.size := HB9.out.size
              clear hbk9 hu9 hb9 HBK HA8 hh8
              go_wp2_with (fail)
              have hh9 := Kd.R_below HH8.out HB9.out
              have hg9 := Kd.R_below HG8.out HB9.out
              have hap : ∀ i, i < ([cs] : List (List Int)).length → (slv (([(A3, cs.length, c3)] : List Sl).getD i z0)).ownBlock = none ∨ (slv (([(A3, cs.length, c3)] : List Sl).getD i z0)).ownBlock ≠ (Value.slice Ag G.length cg).ownBlock := by
                intro i hi
                obtain rfl : i = 0 := by simpa using hi
                cases ho : (slv (([(A3, cs.length, c3)] : List Sl).getD 0 z0)).ownBlock with
                | none => exact .inl rfl
                | some k =>
                  right
                  intro e
                  have h1 := Kd.R_lt HH6.out k ho
                  have h2 := Kd.R_base hg9 k e.symm
                  omega
              refine (ints_any2 _ w.heap.size w8.heap.size _ _ _ _ _ _ _ Ag G.length cg G _ HBK9.out (Kd.R_lower hg9 (by omega)) hap (by omega) (by omega) (by simp) (by omega)).mono ?_
              rintro e w10 ⟨⟨V10, U10, u10, hbk10, hu10⟩, rfl, hb10⟩
              have HBK10 := Lib.hid hbk10
              have HU10 := Lib.hid hu10
              have HB10 := Lib.hid (HB9.out.trans hb10)
              have e1 : ((0 : Int) == 0) = true := by simp
              clear hbk10 hb10 hu10 HBK9 HB9 hh9 hg9 hap
              go_wp2_with (fail)
              have hh10 := Kd.R_below HH8.out HB10.out
              have hc10 := Kd.R_below HR8.out HB10.out
              refine (same_true _ _ _ _ _ _ cs _ (Kd.R_reads' hh10).2.2 (Kd.R_reads' hc10).2.2).mono ?_
              rintro e w11 ⟨rfl, q8, rfl⟩
              have hc11 := Kd.R_drewN hc10 q8
              go_wp2_with (fail)
              refine (stays_ints _ _ _ _ _ _ cs _ _ ((HLN8.out.below HB10.out).below (below_drewN (Below.refl _ _) q8)) (Kd.R_reads' hc11).2.2).mono ?_
              rintro e w12 ⟨rfl, q9, rfl⟩
              have hbk12 := (HBK10.out.below (below_drewN (Below.refl _ _) q8)).below (below_drewN (Below.refl _ _) q9)
              have hb12 := below_drewN (below_drewN HB10.out q8) q9
              have hr12 := Kd.R_drewN hc11 q9
              have hm12 := Kd.C_below HM8.out hb12
              rw [World.drewN_drewN] at hbk12 hb12 hr12 hm12
              obtain ⟨w12, hw12⟩ : ∃ w12, w10.drewN (q8 + q9) = w12 := ⟨_, rfl⟩
              rw [hw12] at hbk12 hb12 hr12 hm12
              have hS8 : ∀ k, some k = (Value.slice A5 cs.length c5).ownBlock → k < w6.heap.size := fun k hk => Kd.R_lt HR6.out k hk.symm
              have hS4 : ∀ k, some k = (Value.slice A5 cs.length c5).ownBlock → w4.heap.size ≤ k := fun k hk => Kd.R_base HR6.out k hk.symm
              have hSg : ∀ k, (Value.slice Ag G.length cg).ownBlock = some k → w7.heap.size ≤ k := fun k hk => Kd.R_base HG8.out k hk
              have hbk13 : ∀ W, L.Chg (fun k => some k = (Value.slice A5 cs.length c5).ownBlock) w12 W → BK W w8.heap.size w.heap.size w8.heap.size V10 U10 (.slice none 0 0) (.slice none 0 0) (([] ++ [(A3, cs.length, c3)]) ++ [(Ag, G.length, cg)]) (([] ++ [u9]) ++ [u10]) (([] ++ [cs]) ++ [G]) := by
                intro W hW
                refine hbk12.chg (fun k hk => by have := hS8 k hk; omega) ?_ ?_ hW
                · intro i hi k hk hs
                  have h1 := hS8 k hs
                  have h2 := hS4 k hs
                  rcases i with _ | _ | i
                  · have := hlt4 k hk
                    omega
                  · have := hSg k hk
                    omega
                  · have h2 : (([] ++ [cs]) ++ [G] : List (List Int)).length = 2 := rfl
                    omega
                · intro i hi k hk hs
                  have h1 := hS8 k hs
                  rcases i with _ | _ | i
                  · have := HU9.out k hk
                    omega
                  · have := HU10.out k hk
                    omega
                  · have h2 : (([] ++ [cs]) ++ [G] : List (List Int)).length = 2 := rfl
                    omega
              have HBK13 := Lib.hid hbk13
              have HB12 := Lib.hid (Ints.bel_trans HB8.out HB8.out.size hb12)
              have HR12 := Lib.hid hr12
              have HM12 := Lib.hid hm12
              have hs812 : w8.heap.size ≤ w12.heap.size := hb12.size
              have e2 : (true == true) = true := rfl
              clear hbk13 hbk12 hb12 hr12 hm12 hh10 hc10 hc11 HU9 HU10 HBK10 HB10 HLN8 HR8 HH8 HM8 HG8 HR6 HH6 HB6 HM6 HB8 HB5 HR5 HB4 HB2
              go_wp2_with (fail)
              go_loopg [19, 130] more.length (fun j s i wr => ∃ k : Nat, k + j = more.length ∧ i = .int .i64 k ∧ s = .int .i64 (tokE cs.length (more.take k)) ∧ wr = w12)
              case atStart => exact ⟨0, by omega, rfl, rfl, by first | rfl | exact hw12⟩
              case round =>
                obtain ⟨k, hk, rfl, rfl, rfl⟩ := hrel
                by_cases hlt : k < more.length
                · obtain ⟨ad, rfl, x0⟩ := ints_at HM12.out k hlt
                  obtain ⟨t, ht⟩ : ∃ t, more.getD k 0 = t := ⟨_, rfl⟩
                  rw [ht] at x0
                  have hsn : more.take (k + 1) = more.take k ++ [t] := by rw [take_succ_getD more k hlt, ht]
                  have i0 : (0 : Int) ≤ k := by omega
                  have i1 : (k : Int) < (more.length : Int) := by omega
                  have i2 : ((k : Int)).toNat = k := by omega
                  have HK := Lib.hid hk
                  by_cases hin : inR cs.length t
                  · have hx : tokE cs.length (more.take (k + 1)) = tokE cs.length (more.take k) := by
                      unfold tokE
                      rw [hsn]
                      simp only [good_snoc, hin, and_true]
                    have HX := Lib.hid hx
                    obtain ⟨t0, t1⟩ := hin
                    clear hx hsn ht hk
                    go_wp2_with (fail)
                    go_roundg (more.length - (k + 1))
                    case measure => have := HK.out; omega
                    case rel => exact ⟨k + 1, by have := HK.out; omega, by go_num, by rw [HX.out], rfl⟩
                  · have HX := Lib.hid (show tokE cs.length (more.take (k + 1)) = 9 from by
                      rw [hsn]
                      exact tokE_no (fun h => hin ((good_snoc _ _ _).1 h).2))
                    clear hsn ht hk
                    by_cases t0 : t < 0
                    · clear hin
                      go_wp2_with (fail)
                      go_roundg (more.length - (k + 1))
                      case measure => have := HK.out; omega
                      case rel => exact ⟨k + 1, by have := HK.out; omega, by go_num, by rw [HX.out], rfl⟩
                    · have t1 : (cs.length : Int) ≤ t := by
                        unfold inR at hin
                        omega
                      clear hin
                      go_wp2_with (fail)
                      go_roundg (more.length - (k + 1))
                      case measure => have := HK.out; omega
                      case rel => exact ⟨k + 1, by have := HK.out; omega, by go_num, by rw [HX.out], rfl⟩
                · obtain rfl : k = more.length := by omega
                  rw [List.take_length]
                  clear hk
                  by_cases hg : good cs.length more
                  · rw [tokE_ok hg]
                    obtain rfl : counted cs more = G := by
                      rw [← HG.out]
                      unfold cntOr
                      rw [if_pos hg]
                    have hgl2 : (counted cs more).length = cs.length := counted_length _ _
                    have htot2 : total (counted cs more) = (l.length : Int) + (more.length : Int) := by rw [total_counted _ _ hg, HTOT.out]
                    have hnn2 := counted_nonneg more cs HNN.out
                    have HTT := Lib.hid htot2
                    have HTB := Lib.hid (fun k => total_take (counted cs more) hnn2 k)
                    have HGD := Lib.hid hg
                    clear HG hg hnn2 htot2
                    rw [hgl2]
                    obtain ⟨w12, rfl⟩ : ∃ x : World, x = wr := ⟨_, rfl⟩
                    go_wp2_with (fail)
                    go_loopg [152] more.length (fun j i wr => ∃ k : Nat, k + j = more.length ∧ i = .int .i64 k ∧ Hid (KI.R 3 wr w4.heap.size (fun _ => True) (.slice A5 cs.length c5) (counted cs (more.take k)) ∧ L.Chg (fun k => some k = (Value.slice A5 cs.length c5).ownBlock) w12 wr))
                    case atStart => exact ⟨0, by omega, rfl, HR12.out, L.Chg.refl _ _⟩
                    case round =>
                      obtain ⟨k, hk, rfl, HI⟩ := hrel
                      obtain ⟨hcr, hcc⟩ := HI.out
                      have hbr : Below w.heap.size w wr := HB12.out.trans (hcc.below HB12.out.size (fun k hk => by have := hS4 k hk; omega))
                      by_cases hlt : k < more.length
                      · obtain ⟨ad, rfl, x0⟩ := ints_at (Kd.C_below HM.out hbr) k hlt
                        obtain ⟨t, ht⟩ : ∃ t, more.getD k 0 = t := ⟨_, rfl⟩
                        rw [ht] at x0
                        have hsn : more.take (k + 1) = more.take k ++ [t] := by rw [take_succ_getD more k hlt, ht]
                        have i0 : (0 : Int) ≤ k := by omega
                        have i1 : (k : Int) < (more.length : Int) := by omega
                        have i2 : ((k : Int)).toNat = k := by omega
                        have HK := Lib.hid hk
                        have htm : t ∈ more := by
                          rw [← ht, List.getD_eq_getElem?_getD, List.getElem?_eq_getElem hlt]
                          exact List.getElem_mem hlt
                        obtain ⟨t0, t1⟩ := HGD.out t htm
                        have hcl : (counted cs (more.take k)).length = cs.length := counted_length _ _
                        have hlk := List.length_take_le k more
                        have hxs := counted_le (more.take k) cs (2 ^ 62) HZ.out t.toNat (by omega)
                        obtain ⟨g, cap, hv, hge, hgl, cells, hcell⟩ := Kd.R_form hcr (by rw [hcl]; omega)
                        rw [hcl] at hv
                        injection hv with hv1 hv2 hv3
                        subst hv1 hv3
                        have hr' := hcr
                        rw [← hcl] at hr'
                        obtain ⟨y0, y1⟩ := Kd.R_cell (enc := Value.int .i64) (h1 := fun _ => rfl) (0 : Int) hr' t t0 (by rw [hcl]; exact t1)
                        obtain ⟨p0, p1⟩ := Kd.R_put (enc := Value.int .i64) (h1 := fun _ => rfl) hr' t ((counted cs (more.take k)).getD t.toNat 0 + 1)
                        rw [hcl] at p0
                        obtain ⟨x, hxx⟩ : ∃ x, (counted cs (more.take k)).getD t.toNat 0 = x := ⟨_, rfl⟩
                        rw [show rdOf (0 : Int) (counted cs (more.take k)) t = x from hxx] at y0
                        rw [hxx] at p0 p1 hxs
                        have hbump : (counted cs (more.take k)).set t.toNat (x + 1) = counted cs (more.take (k + 1)) := by rw [hsn, counted_snoc]; unfold bump; rw [hxx]
                        rw [hbump] at p0
                        have hw2 : wrap64 (x + 1) = x + 1 := by unfold wrap64; omega
                        have P0 := Lib.hid p0
                        have HCC := Lib.hid (hcc.grown p1 (fun k hk _ => by rw [← hk]; rfl))
                        clear hcr hr' hcc hbr HI p0 p1 hbump hxx hxs hlk hcl hcell hge hgl hsn ht hk htm
                        go_wp2_with (fail)
                        go_roundg (more.length - (k + 1))
                        case measure => have := HK.out; omega
                        case rel => exact ⟨k + 1, by have := HK.out; omega, by go_num, P0.out, HCC.out⟩
                      · obtain rfl : k = more.length := by omega
                        rw [List.take_length] at hcr
                        have HCR := Lib.hid hcr
                        have HBR := Lib.hid hbr
                        have HBK := Lib.hid (HBK13.out wr hcc)
                        obtain ⟨w13, rfl⟩ : ∃ x : World, x = wr := ⟨_, rfl⟩
                        have hgc := (Kd.R_reads' (HBK.out.fv 1 (by simp))).2.2
                        have hcc2 := (Kd.R_reads' hcr).2.2
                        rw [show (([] ++ [cs]) ++ [counted cs more] : List (List Int)).getD 1 [] = counted cs more from rfl, hgl2] at hgc
                        rw [hgl2] at hcc2
                        have HGC := Lib.hid hgc
                        have HC2 := Lib.hid hcc2
                        clear hcr hcc hbr hgc hcc2 HI hk HBK13
                        go_wp2_with (fail)
                        go_loopg [18, 165] cs.length (fun j s i wr => ∃ k : Nat, k + j = cs.length ∧ i = .int .i64 k ∧ s = .int .i64 (used ((counted cs more).take k)) ∧ wr = w13)
                        case atStart => exact ⟨0, by omega, rfl, rfl, rfl⟩
                        case round =>
                          obtain ⟨k, hk, rfl, rfl, rfl⟩ := hrel
                          by_cases hlt : k < cs.length
                          · obtain ⟨ad, rfl, x0⟩ := ints_at HC2.out k hlt
                            obtain ⟨x, hx⟩ : ∃ x, (counted cs more).getD k 0 = x := ⟨_, rfl⟩
                            rw [hx] at x0
                            have hn : used ((counted cs more).take (k + 1)) = if 0 < x then used ((counted cs more).take k) + 1 else used ((counted cs more).take k) := by rw [take_succ_getD _ k (by omega), used_snoc, hx]
                            have h1 := used_range ((counted cs more).take k)
                            have h3 := List.length_take_le k (counted cs more)
                            have h2 : wrap64 (used ((counted cs more).take k) + 1) = used ((counted cs more).take k) + 1 := by unfold wrap64; omega
                            have i0 : (0 : Int) ≤ k := by omega
                            have i1 : (k : Int) < (cs.length : Int) := by omega
                            have i2 : ((k : Int)).toNat = k := by omega
                            have HN := Lib.hid hn
                            have H2 := Lib.hid h2
                            have HK := Lib.hid hk
                            clear hn h1 h3 hx hk h2
                            by_cases hp : 0 < x
                            · have HP := Lib.hid hp
                              go_wp2_with (fail)
                              go_roundg (cs.length - (k + 1))
                              case measure => have := HK.out; omega
                              case rel => exact ⟨k + 1, by have := HK.out; omega, by go_num, by rw [HN.out, if_pos (by have := HP.out; omega), H2.out], rfl⟩
                            · have HP := Lib.hid hp
                              go_wp2_with (fail)
                              go_roundg (cs.length - (k + 1))
                              case measure => have := HK.out; omega
                              case rel => exact ⟨k + 1, by have := HK.out; omega, by go_num, by rw [HN.out, if_neg (by have := HP.out; omega)], rfl⟩
                          · obtain rfl : k = cs.length := by omega
                            obtain ⟨w13, rfl⟩ : ∃ x : World, x = wr := ⟨_, rfl⟩
                            have huu : used ((counted cs more).take cs.length) = used (counted cs more) := by rw [List.take_of_length_le (by omega)]
                            rw [huu]
                            obtain ⟨u, hu⟩ : ∃ u, used (counted cs more) = u := ⟨_, rfl⟩
                            rw [hu]
                            have HU := Lib.hid hu
                            have e3 : (u == u) = true := by simp
                            clear huu hu hk
                            go_wp2_with (fail)
                            refine (same_true _ _ _ _ _ _ (counted cs more) _ HGC.out HC2.out).mono ?_
                            rintro e w14 ⟨rfl, q14, rfl⟩
                            go_wp2_with (fail)
                            refine (total_any _ _ _ (counted cs more) _ (Kd.C_drewN HGC.out _) (fun k _ => ?_)).mono ?_
                            · have h1 := HTB.out k
                              have h2 := HTT.out
                              omega
                            rintro e w15 ⟨rfl, rfl⟩
                            rw [HTT.out]
                            go_wp2_with (fail)
                            refine (used_any _ _ _ (counted cs more) _ (Kd.C_drewN HGC.out _)).mono ?_
                            rintro e w16 ⟨rfl, rfl⟩
                            rw [HU.out]
                            go_wp2_with (fail)
                            refine (apart_any _ w.heap.size w8.heap.size _ _ _ _ _ _ (by exact HBK.out.below (below_drewN (Below.refl _ _) _)) (by simp) (fun i hi => by rcases i with _ | _ | i; (show cs.length ≤ 10000; omega); (show (counted cs more).length ≤ 10000; omega); (exfalso; have h2 : (([] ++ [cs]) ++ [counted cs more] : List (List Int)).length = 2 := rfl; omega)) (by exact HBR.out.size)).mono ?_
                            rintro e w17 ⟨rfl, hb17⟩
                            have HB17 := Lib.hid (((below_drewN HBR.out _)).trans hb17)
                            go_wp2_with (fail)
                            go_ret
                            exact ⟨rfl, HB17.out⟩
                  · rw [tokE_no hg]
                    obtain rfl : [] = G := by
                      rw [← HG.out]
                      unfold cntOr
                      rw [if_neg hg]
                    go_wp2_with (fail)
                    go_ret
                    exact ⟨rfl, HB12.out⟩
            · rw [tokE_no hg]
              have HBW := Lib.hid hcb
              obtain rfl : [] = P := by
                rw [← HP.out]
                unfold cntOr
                rw [if_neg (by rw [List.length_replicate]; exact hg)]
              clear hcr hcb hcg HI hcl HP HR4
              go_wp2_with (fail)
              go_ret
              exact ⟨rfl, Ints.bel_trans HB4.out HB4.out.size HBW.out⟩
    · have m400i : (400 : Int) < (more.length : Int) := by omega
      by_cases h400b : (400 : Int) < (l.length : Int)
      · omega
      go_enter Try.func3, Try.ntmps3
      go_wp2_with (go_at_call 13; refine (alive_any _).mono ?_; rintro e w' ⟨rfl, hb⟩)
      go_ret
      exact ⟨rfl, hb⟩
  · have h400i : (400 : Int) < (l.length : Int) := by omega
    go_enter Try.func3, Try.ntmps3
    go_wp2_with (go_at_call 13; refine (alive_any _).mono ?_; rintro e w' ⟨rfl, hb⟩)
    go_ret
    exact ⟨rfl, hb⟩
end Go.Proofs.Ythncomijfpbeeaa.Hist
