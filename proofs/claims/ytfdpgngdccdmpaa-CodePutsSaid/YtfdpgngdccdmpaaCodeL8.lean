/- Chapter 19: of every lengths and codes: a symbol's code in just so many bits; what may not be is not written. -/
import Derived.Test.YtfdpgngdccdmpaaCodePut
import Derived.Test.YtfdpgngdccdmpaaRefPack
namespace Go.Proofs.Ytfdpgngdccdmpaa.Code
set_option linter.unusedVariables false
set_option linter.unusedSimpArgs false
open Go.RowKit Go.Proofs.YtfdpgngdccdmpaaW.PrintWords Go.Proofs.YtfdpgngdccdmpaaW.PrintMore Go.Proofs.Ytfdpgngdccdmpaa.L Go.Proofs.Ytfdpgngdccdmpaa.Ints Go.Proofs.Ytfdpgngdccdmpaa.BP

/-- What may be written. -/
def mayC (l cs : List Int) (s : Int) : Bool := putOk l cs s && Bits.mayPut (cs.getD s.toNat 0) (l.getD s.toNat 0)
def symB (l cs : List Int) (s : Int) : List Int := if mayC l cs s = true then bitsV (l.getD s.toNat 0).toNat (cs.getD s.toNat 0) else []
theorem symB_yes {l cs : List Int} {s : Int} (h : mayC l cs s = true) : symB l cs s = bitsV (l.getD s.toNat 0).toNat (cs.getD s.toNat 0) := if_pos h
theorem symB_no {l cs : List Int} {s : Int} (h : mayC l cs s = false) : symB l cs s = [] := if_neg (by rw [h]; decide)
theorem symB_bits (l cs : List Int) (s : Int) : Bits (symB l cs s) := by
  unfold symB
  split
  · exact bitsV_bits _ _
  · exact bits_nil
theorem mayC_put {l cs : List Int} {s : Int} (h : mayC l cs s = true) : putOk l cs s = true ∧ Bits.mayPut (cs.getD s.toNat 0) (l.getD s.toNat 0) = true := by
  unfold mayC at h
  rw [Bool.and_eq_true] at h
  exact h
theorem symB_le (l cs : List Int) (s : Int) : (symB l cs s).length ≤ 15 := by
  cases h : mayC l cs s
  · rw [symB_no h]; exact Nat.zero_le _
  · rw [symB_yes h, bitsV_length]
    obtain ⟨h1, h2, h3, h4, h5⟩ := of_decide_eq_true (mayC_put h).1
    omega
def allB (l cs ss : List Int) : List Int := ss.flatMap (symB l cs)
theorem allB_bits (l cs ss : List Int) : Bits (allB l cs ss) := by
  intro x hx
  obtain ⟨s, _, hs⟩ := List.mem_flatMap.1 hx
  exact symB_bits l cs s x hs
theorem allB_snoc (l cs ss : List Int) (s : Int) : allB l cs (ss ++ [s]) = allB l cs ss ++ symB l cs s := by
  unfold allB
  rw [List.flatMap_append]
  simp
theorem allB_le (l cs : List Int) : ∀ ss, (allB l cs ss).length ≤ 15 * ss.length
  | [] => Nat.zero_le _
  | s :: ss => by
    have h1 := allB_le l cs ss
    have h2 := symB_le l cs s
    have h3 : allB l cs (s :: ss) = symB l cs s ++ allB l cs ss := by unfold allB; rw [List.flatMap_cons]
    rw [h3, List.length_append, List.length_cons]
    omega
theorem allB_succ (l cs ss : List Int) (k : Nat) (h : k < ss.length) : allB l cs (ss.take (k + 1)) = allB l cs (ss.take k) ++ symB l cs (ss.getD k 0) := by
  rw [Ints.take_succ_getD ss k h, allB_snoc]
theorem allB_take_le (l cs ss : List Int) (k : Nat) (h : ss.length ≤ 100) : (allB l cs (ss.take k)).length ≤ 1500 := by
  have h1 := allB_le l cs (ss.take k)
  have h2 := List.length_take_le k ss
  have h3 := List.length_take_le' k ss
  omega

/-- A symbol's code is put, as it may be. -/
theorem put_may (A B : Option Addr) (c c2 : Nat) (l cs : List Int) (s : Int) (wb base : Nat) (v : Value) (bs : List Int) (w : World)
    (hl : KI.C w A l.length l) (hc : KI.C w B cs.length cs) (hW : Bits.WR w wb base v bs) (hbase : base ≤ w.heap.size) (hlen : bs.length ≤ 1000000000) :
    Calls Try.prog 22 #[.pointer (some ⟨wb, 0, none⟩), .slice A l.length c, .slice B cs.length c2, .int .i64 s] w fun e w' =>
      e = .returned (.bool (mayC l cs s)) ∧ Hid (∃ v1, Bits.WR w' wb base v1 (bs ++ symB l cs s) ∧ Chg (fun k => k = wb ∨ some k = v.ownBlock) w w') := by
  cases hp : putOk l cs s
  · have hm : mayC l cs s = false := by unfold mayC; rw [hp]; rfl
    refine (cput_no (some ⟨wb, 0, none⟩) A B c c2 l cs s w hl hc hp).mono ?_
    rintro e w1 ⟨rfl, rfl⟩
    refine ⟨by rw [hm], v, ?_, Chg.refl _ _⟩
    rw [symB_no hm, List.append_nil]
    exact hW
  · have h := cput_go (Q := fun r w' => r = mayC l cs s ∧ ∃ v1, Bits.WR w' wb base v1 (bs ++ symB l cs s) ∧ Chg (fun k => k = wb ∨ some k = v.ownBlock) w w') (some ⟨wb, 0, none⟩) A B c c2 l cs s w hl hc hp (fun q => by
      cases hmp : Bits.mayPut (cs.getD s.toNat 0) (l.getD s.toNat 0)
      · have hm : mayC l cs s = false := by unfold mayC; rw [hp, hmp]; rfl
        refine (Bits.put_no _ _ _ _ hmp).mono ?_
        rintro e w4 ⟨rfl, rfl⟩
        refine ⟨false, rfl, hm.symm, v, ?_, (Chg.refl _ w).drewN q⟩
        rw [symB_no hm, List.append_nil]
        exact hW.chg ((Chg.refl (fun _ => False) _).drewN q) (fun h => h) (fun _ _ h => h)
      · have hm : mayC l cs s = true := by unfold mayC; rw [hp, hmp]; rfl
        refine (Bits.put_yes _ _ _ _ _ _ _ (hW.chg ((Chg.refl (fun _ => False) _).drewN q) (fun h => h) (fun _ _ h => h)) hmp hbase hlen).mono ?_
        rintro e w4 ⟨rfl, v1, hW4, hC4, _⟩
        refine ⟨true, rfl, hm.symm, v1, ?_, ((Chg.refl _ w).drewN q).trans hC4⟩
        rw [symB_yes hm]
        exact hW4)
    refine h.mono ?_
    rintro e w1 ⟨r, rfl, HQ⟩
    obtain ⟨rfl, h2⟩ := HQ.out
    exact ⟨rfl, h2⟩
theorem put_nobody (A B : Option Addr) (c c2 : Nat) (l cs : List Int) (s : Int) (w : World) (hl : KI.C w A l.length l) (hc : KI.C w B cs.length cs) :
    Calls Try.prog 22 #[.pointer none, .slice A l.length c, .slice B cs.length c2, .int .i64 s] w fun e w' => e = .returned (.bool false) ∧ Hid (∃ q, w' = w.drewN q) := by
  cases hp : putOk l cs s
  · refine (cput_no none A B c c2 l cs s w hl hc hp).mono ?_
    rintro e w1 ⟨rfl, rfl⟩
    exact ⟨rfl, 0, rfl⟩
  · refine (cput_go (Q := fun r w' => r = false ∧ ∃ q, w' = w.drewN q) none A B c c2 l cs s w hl hc hp (fun q => by
      refine (Bits.put_nil _ _ _).mono ?_
      rintro e w4 ⟨rfl, rfl⟩
      exact ⟨false, rfl, rfl, q, rfl⟩)).mono ?_
    rintro e w1 ⟨r, rfl, HQ⟩
    obtain ⟨rfl, h2⟩ := HQ.out
    exact ⟨rfl, h2⟩
theorem sym_at {l cs : List Int} {s : Int} {k : Nat} (h : k < (symB l cs s).length) : mayC l cs s = true ∧ ∃ (t x : Nat) (y : Int), s = (t : Int) ∧ t < l.length ∧ t < cs.length ∧ l.getD t 0 = (x : Int) ∧ k < x ∧ x ≤ 15 ∧ cs.getD t 0 = y ∧ 0 ≤ y ∧ y < 4294967296 ∧
    (symB l cs s).take (k + 1) = (symB l cs s).take k ++ [y / 2 ^ (x - 1 - k) % 2] := by
  cases hm : mayC l cs s
  · rw [symB_no hm] at h
    exact absurd h (Nat.not_lt_zero k)
  · obtain ⟨h1, h2⟩ := mayC_put hm
    obtain ⟨g1, g2, g3, g4, g5⟩ := of_decide_eq_true h1
    obtain ⟨f1, f2, f3, f4⟩ := of_decide_eq_true h2
    obtain ⟨t, rfl⟩ := Int.eq_ofNat_of_zero_le g1
    rw [Int.toNat_natCast] at *
    obtain ⟨x, hx⟩ := Int.eq_ofNat_of_zero_le (by omega : 0 ≤ l.getD t 0)
    have hS := symB_yes hm
    rw [Int.toNat_natCast, hx, Int.toNat_natCast] at hS
    rw [hS, bitsV_length] at h
    have h32 := (Bits.pow_small (n := (x : Int)) (by omega)).2
    rw [hx] at f4
    refine ⟨rfl, t, x, cs.getD t 0, rfl, by omega, by omega, hx, h, by omega, rfl, f3, by omega, ?_⟩
    rw [hS]
    exact bitsV_take x _ k h
theorem sym_end {l cs : List Int} {s : Int} (hm : mayC l cs s = true) : ∃ (t x : Nat), s = (t : Int) ∧ t < l.length ∧ l.getD t 0 = (x : Int) ∧ (symB l cs s).length = x := by
  obtain ⟨h1, h2⟩ := mayC_put hm
  obtain ⟨g1, g2, g3, g4, g5⟩ := of_decide_eq_true h1
  obtain ⟨t, rfl⟩ := Int.eq_ofNat_of_zero_le g1
  rw [Int.toNat_natCast] at *
  obtain ⟨x, hx⟩ := Int.eq_ofNat_of_zero_le (by omega : 0 ≤ l.getD t 0)
  refine ⟨t, x, rfl, by omega, hx, ?_⟩
  rw [symB_yes hm, bitsV_length, Int.toNat_natCast, hx, Int.toNat_natCast]
/-- A list of numbers stays where a writer turns. -/
theorem out_stays {w w1 : World} {base base' b : Nat} {ok : Nat → Prop} {v v0 : Value} {xs bs : List Int} (h : KI.R 3 w base ok v xs)
    (hw : Bits.WR w b base' v0 bs) (hc : Chg (fun k => k = b ∨ some k = v0.ownBlock) w w1) : KI.R 3 w1 base ok v xs := Bits.R_wr h hw hc (by decide) (by decide)
/-- A writer stays where a list of numbers turns. -/
theorem wr_out {w w1 : World} {base base' b : Nat} {ok : Nat → Prop} {v v0 : Value} {xs bs : List Int} (h : KI.R 3 w base ok v xs)
    (hw : Bits.WR w b base' v0 bs) (hg : w.grownBy w1 v.ownBlock) : Bits.WR w1 b base' v0 bs :=
  hw.chg (S := fun t => some t = v.ownBlock) ⟨hg.os, hg.tape, hg.output, hg.size, fun k hk hn => hg.block k hk (fun e => hn e)⟩ (fun e => Kd.R_ne h hw.1 (by decide) e) (fun t ht e => by
    obtain ⟨c1, g1⟩ := own_typed (Kd.own_of_R hw.2.1) t ht
    exact Kd.R_ne h g1 (by decide) e)

set_option maxRecDepth 100000 in
set_option maxHeartbeats 4000000 in
theorem CodePuts_walk (A : Option Addr) (l : List Int) (c : Nat) (B : Option Addr) (cs : List Int) (c' : Nat) (D : Option Addr) (ss : List Int) (c'' : Nat) (w : World)
    (hl : KI.C w A l.length l) (hc : l.length ≤ c) (h8 : l.length * 8 ≤ 140737488351232) (hwf : ∀ x ∈ l, (Lit.int .i64 x).wf = true)
    (hcs : KI.C w B cs.length cs) (hc' : cs.length ≤ c') (h8' : cs.length * 8 ≤ 140737488351232) (hwf' : ∀ x ∈ cs, (Lit.int .i64 x).wf = true)
    (hss : KI.C w D ss.length ss) (hc'' : ss.length ≤ c'') (h8'' : ss.length * 8 ≤ 140737488351232) (hwf'' : ∀ x ∈ ss, (Lit.int .i64 x).wf = true) :
    Calls Try.prog 8 #[.slice A l.length c, .slice B cs.length c', .slice D ss.length c''] w fun e w' => e = .returned (.bool true) ∧ Below w.heap.size w w' := by
  have HL := Lib.hid hl
  have HCS := Lib.hid hcs
  have HSS := Lib.hid hss
  clear hl hwf hss hwf' hcs hwf'' hc hc' hc'' h8 h8' h8''
  have hcase : ((400 : Int) < (l.length : Int) ∨ ((l.length : Int) ≤ 400 ∧ (400 : Int) < (cs.length : Int)) ∨ ((l.length : Int) ≤ 400 ∧ (cs.length : Int) ≤ 400 ∧ (100 : Int) < (ss.length : Int))) ∨ ((l.length : Int) ≤ 400 ∧ (cs.length : Int) ≤ 400 ∧ (ss.length : Int) ≤ 100) := by omega
  rcases hcase with hcase | ⟨g1, g2, g3⟩
  · rcases hcase with g1 | ⟨g0, g1⟩ | ⟨g0, g2, g1⟩
    all_goals
      go_enter Try.func8, Try.ntmps8
      go_wp2_with (go_at_call 10; refine (alive_any _).mono ?_; rintro e w' ⟨rfl, hb⟩)
      go_ret
      exact ⟨rfl, hb⟩
  · go_enter Try.func8, Try.ntmps8
    go_wp2_with (fail)
    refine (alive_any _).mono ?_
    rintro e w1 ⟨rfl, hb1⟩
    have HW := Lib.hid (Bits.wr_new w1 w.heap.size)
    have HB := Lib.hid (hb1.alloc hb1.size (.cells #[.slice none 0 0, .int .i64 0] 49 (0, 0)))
    have HSZ := Lib.hid hb1.size
    clear hb1
    go_wp2_with (fail)
    go_loopg [8, 35] ss.length (fun j o i wr => ∃ k : Nat, k + j = ss.length ∧ i = .int .i64 k ∧ Hid ((∃ v, Bits.WR wr w1.heap.size w.heap.size v (allB l cs (ss.take k))) ∧ KI.R 3 wr w.heap.size (fun _ => True) o (allB l cs (ss.take k)) ∧ Below w.heap.size w wr))
    case atStart => exact ⟨0, by omega, rfl, ⟨_, HW.out⟩, Kd.R_nil _ _ _ _ _, HB.out⟩
    case round =>
      obtain ⟨k, hk, rfl, HI⟩ := hrel
      clear HW HB
      by_cases hlt : k < ss.length
      · obtain ⟨⟨v, hW⟩, hO, hB⟩ := HI.out
        obtain ⟨ad, rfl, x0⟩ := ints_at (Kd.C_below HSS.out hB) k hlt
        have hsucc := allB_succ l cs ss k hlt
        obtain ⟨s, hs⟩ : ∃ s, ss.getD k 0 = s := ⟨_, rfl⟩
        rw [hs] at x0 hsucc
        have hle := allB_take_le l cs ss k (by omega)
        have HLC := Lib.hid (Kd.C_below HL.out hB)
        have HCC := Lib.hid (Kd.C_below HCS.out hB)
        have HW := Lib.hid hW
        have HO := Lib.hid hO
        have HB := Lib.hid hB
        have HSU := Lib.hid hsucc
        have HLE := Lib.hid hle
        have HK := Lib.hid hk
        have i0 : (0 : Int) ≤ k := by omega
        have i1 : (k : Int) < (ss.length : Int) := by omega
        have i2 : ((k : Int)).toNat = k := by omega
        clear hs hsucc hle hW hO hB HI hk
        go_wp2_with (fail)
        go_cut [11] (fun mv wc => mv = .bool (mayC l cs s) ∧ Hid (∃ q, wc = wr.drewN q))
        case first =>
          by_cases h0 : s < 0
          · have d0 : decide (0 ≤ s) = false := decide_eq_false (by omega)
            have HM := Lib.hid (show mayC l cs s = false by unfold mayC putOk; rw [decide_eq_false (by omega)]; rfl)
            go_region
            go_wp2_with (fail)
            go_meet
            case rel => exact ⟨by rw [HM.out], 1, rfl⟩
          · have d0 : decide (0 ≤ s) = true := decide_eq_true (by omega)
            by_cases h1 : s < (l.length : Int)
            · have d1 : decide (s < (l.length : Int)) = true := decide_eq_true h1
              by_cases h2 : s < (cs.length : Int)
              · have d2 : decide (s < (cs.length : Int)) = true := decide_eq_true h2
                obtain ⟨t, rfl⟩ := Int.eq_ofNat_of_zero_le (by omega : 0 ≤ s)
                obtain ⟨bd, rfl, y0⟩ := ints_at HLC.out t (by omega)
                obtain ⟨cd, rfl, z0⟩ := ints_at HCC.out t (by omega)
                obtain ⟨x, hx⟩ : ∃ x, l.getD t 0 = x := ⟨_, rfl⟩
                obtain ⟨y, hy⟩ : ∃ y, cs.getD t 0 = y := ⟨_, rfl⟩
                rw [hx] at y0
                rw [hy] at z0
                have t0 : (0 : Int) ≤ (t : Int) := by omega
                have t2 : ((t : Int)).toNat = t := by omega
                have HMAY := Lib.hid (show mayC l cs (t : Int) = decide (1 ≤ x ∧ x ≤ 15 ∧ 0 ≤ y ∧ y < 2 ^ x.toNat) by
                  unfold mayC putOk Bits.mayPut
                  rw [t2, hx, hy, ← Bool.decide_and]
                  exact decide_eq_decide.2 ⟨fun ⟨⟨_, _, _, h4, h5⟩, _, _, h6, h7⟩ => ⟨h4, h5, h6, h7⟩, fun ⟨h4, h5, h6, h7⟩ => ⟨⟨t0, h1, h2, h4, h5⟩, by omega, by omega, h6, h7⟩⟩)
                clear hx hy h0
                by_cases hx1 : 1 ≤ x
                · have e1 : decide (1 ≤ x) = true := decide_eq_true hx1
                  by_cases hx2 : x ≤ 15
                  · have e2 : decide (x ≤ 15) = true := decide_eq_true hx2
                    by_cases hy1 : 0 ≤ y
                    · have e3 : decide (0 ≤ y) = true := decide_eq_true hy1
                      have HM := Lib.hid (show mayC l cs (t : Int) = decide (y < wrap64 (2 ^ x.toNat)) by
                        rw [HMAY.out, (Bits.pow_small (n := x) (by omega)).1]
                        exact decide_eq_decide.2 ⟨fun h => h.2.2.2, fun h => ⟨hx1, hx2, hy1, h⟩⟩)
                      go_region
                      go_wp2_with (fail)
                      go_meet
                      case rel => exact ⟨by rw [HM.out], 1, rfl⟩
                    · have e3 : decide (0 ≤ y) = false := decide_eq_false hy1
                      have HM := Lib.hid (show mayC l cs (t : Int) = false by rw [HMAY.out]; exact decide_eq_false (by omega))
                      go_region
                      go_wp2_with (fail)
                      go_meet
                      case rel => exact ⟨by rw [HM.out], 1, rfl⟩
                  · have e2 : decide (x ≤ 15) = false := decide_eq_false hx2
                    have HM := Lib.hid (show mayC l cs (t : Int) = false by rw [HMAY.out]; exact decide_eq_false (by omega))
                    go_region
                    go_wp2_with (fail)
                    go_meet
                    case rel => exact ⟨by rw [HM.out], 1, rfl⟩
                · have e1 : decide (1 ≤ x) = false := decide_eq_false hx1
                  have HM := Lib.hid (show mayC l cs (t : Int) = false by rw [HMAY.out]; exact decide_eq_false (by omega))
                  go_region
                  go_wp2_with (fail)
                  go_meet
                  case rel => exact ⟨by rw [HM.out], 1, rfl⟩
              · have d2 : decide (s < (cs.length : Int)) = false := decide_eq_false h2
                have HM := Lib.hid (show mayC l cs s = false by unfold mayC putOk; rw [decide_eq_false (by omega)]; rfl)
                go_region
                go_wp2_with (fail)
                go_meet
                case rel => exact ⟨by rw [HM.out], 1, rfl⟩
            · have d1 : decide (s < (l.length : Int)) = false := decide_eq_false h1
              have HM := Lib.hid (show mayC l cs s = false by unfold mayC putOk; rw [decide_eq_false (by omega)]; rfl)
              go_region
              go_wp2_with (fail)
              go_meet
              case rel => exact ⟨by rw [HM.out], 1, rfl⟩
        case rest =>
          obtain ⟨rfl, HQ⟩ := hcut
          obtain ⟨q, rfl⟩ := HQ.out
          have HW2 := Lib.hid (HW.out.chg ((Chg.refl (fun _ => False) _).drewN q) (fun h => h) (fun _ _ h => h))
          have HO2 := Lib.hid (Kd.R_drewN HO.out q)
          have HB2 := Lib.hid (below_drewN HB.out q)
          have HLC2 := Lib.hid (Kd.C_drewN HLC.out q)
          have HCC2 := Lib.hid (Kd.C_drewN HCC.out q)
          clear HQ HW HO HB HLC HCC
          generalize wr.drewN q = wq at *
          obtain ⟨mb, hmb⟩ : ∃ mb, mayC l cs s = mb := ⟨_, rfl⟩
          have HMB := Lib.hid hmb
          rw [hmb]
          have e1 : (mb != mb) = false := by cases mb <;> rfl
          clear hmb
          go_wp2_with (fail)
          refine (put_may _ _ _ _ l cs s _ _ _ _ _ HLC2.out HCC2.out HW2.out HB2.out.size (by have := HLE.out; omega)).mono ?_
          rintro e w4 ⟨rfl, HQ4⟩
          rw [HMB.out]
          obtain ⟨v1, hW4, hC4⟩ := HQ4.out
          have HO4 := Lib.hid (out_stays HO2.out HW2.out hC4)
          have HB4 := Lib.hid (show Below w.heap.size w w4 from HB2.out.trans (hC4.below (B := w.heap.size) HB2.out.size (fun t ht => by
            rcases ht with rfl | ht
            · exact HSZ.out
            · exact own_base (Kd.own_of_R HW2.out.2.1) t ht.symm)))
          have HW4 := Lib.hid hW4
          clear HQ4 hW4 hC4 HW2 HO2 HB2 HLC2 HCC2
          go_wp2_with (fail)
          refine (put_nobody _ _ _ _ l cs s _ (Kd.C_below HL.out HB4.out) (Kd.C_below HCS.out HB4.out)).mono ?_
          rintro e w5 ⟨rfl, HQ5⟩
          obtain ⟨q5, rfl⟩ := HQ5.out
          have HW5 := Lib.hid (HW4.out.chg ((Chg.refl (fun _ => False) _).drewN q5) (fun h => h) (fun _ _ h => h))
          have HO5 := Lib.hid (Kd.R_drewN HO4.out q5)
          have HB5 := Lib.hid (below_drewN HB4.out q5)
          clear HQ5 HW4 HO4 HB4
          generalize w4.drewN q5 = w5 at *
          rw [← HSU.out] at HW5
          go_wp2_with (fail)
          go_loopg [8, 12] (symB l cs s).length (fun j o i wq => ∃ p : Nat, p + j = (symB l cs s).length ∧ i = .int .i64 p ∧ Hid ((∃ v, Bits.WR wq w1.heap.size w.heap.size v (allB l cs (ss.take (k + 1)))) ∧ KI.R 3 wq w.heap.size (fun _ => True) o (allB l cs (ss.take k) ++ (symB l cs s).take p) ∧ Below w.heap.size w wq))
          case atStart => exact ⟨0, by omega, rfl, ⟨_, HW5.out⟩, by rw [List.take_zero, List.append_nil]; exact HO5.out, HB5.out⟩
          case round =>
            obtain ⟨p, hp, rfl, HJ⟩ := hrel
            clear HW5 HO5 HB5
            obtain ⟨⟨v2, hW⟩, hO, hB⟩ := HJ.out
            by_cases hpl : p < (symB l cs s).length
            · obtain ⟨hmt, t, x, y, rfl, tl, tc, hx, px, x15, hy, y0, y32, hsn⟩ := sym_at hpl
              obtain rfl : mb = true := by rw [← HMB.out, hmt]
              obtain ⟨bd, rfl, z0⟩ := ints_at (Kd.C_below HL.out hB) t tl
              obtain ⟨cd, rfl, z1⟩ := ints_at (Kd.C_below HCS.out hB) t tc
              rw [hx] at z0
              rw [hy] at z1
              have HW := Lib.hid hW
              have HO := Lib.hid hO
              have HB := Lib.hid hB
              have HSN := Lib.hid hsn
              have HPL := Lib.hid hp
              have t0 : (0 : Int) ≤ (t : Int) := by omega
              have t1 : (t : Int) < (l.length : Int) := by omega
              have t3 : (t : Int) < (cs.length : Int) := by omega
              have t2 : ((t : Int)).toNat = t := by omega
              have p1 : (p : Int) < (x : Int) := by omega
              have x15i : (x : Int) ≤ 15 := by omega
              obtain ⟨r, hr⟩ : ∃ r, x - 1 - p = r := ⟨_, rfl⟩
              have hri : (x : Int) - 1 - (p : Int) = (r : Int) := by omega
              rw [hr] at HSN
              obtain ⟨zs, hzs⟩ : ∃ zs, allB l cs (ss.take k) ++ (symB l cs (t : Int)).take p = zs := ⟨_, rfl⟩
              rw [hzs] at HO
              have zl : zs.length ≤ 2000 := by
                rw [← hzs, List.length_append]
                have h1 := HLE.out
                have h2 := symB_le l cs (t : Int)
                have h3 := List.length_take_le' p (symB l cs (t : Int))
                omega
              have HZS := Lib.hid hzs
              obtain ⟨A7, c7, rfl⟩ := Kd.R_slice HO.out
              clear hW hO hB HJ hx hy hsn hmt hp hr hzs
              go_wp2_with (fail)
              have hr3 : r ≤ 14 := by omega
              have q1 : IntKind.i64.wrap ((x : Int) - 1) = (x : Int) - 1 := by rw [IntKind.wrap_i64]; omega
              have q2 : IntKind.i64.wrap (r : Int) = (r : Int) := by rw [IntKind.wrap_i64]; omega
              have q3 : IntKind.u64.wrap (r : Int) = (r : Int) := by unfold IntKind.wrap; simp [IntKind.signed, IntKind.bits]; omega
              have q4 : min r 64 = r := by omega
              have q5 : min (r : Int).toNat 64 = r := by omega
              have q6 : bits BinOp.and IntKind.i64 (y / 2 ^ r) 1 = y / 2 ^ r % 2 := by
                have hpw : (0 : Int) < 2 ^ r := Int.pow_pos (by omega)
                exact and_one _ (Int.ediv_nonneg y0 (by omega)) (by have := Int.ediv_le_self (2 ^ r) y0; omega)
              go_region_law (first
                | (refine Kd.R_append_step KI (w0 := w) w.heap.size (by rfl) (.tmp 111) (.tmp 126) 22 3 (.int .i64 0) 8 (by rfl) Try.underlying22 infoInt rfl (by decide) (by omega) (.slice A7 zs.length c7) zs (y / 2 ^ r % 2) [.int .i64 (y / 2 ^ r % 2)] (fun _ => True) (fun _ => False) (by simp [Act.eval, Act.put]) (by simp [Act.eval, Act.put]) rfl (fun _ hk => hk.elim) (fun _ _ => trivial) (Kd.R_drew HO.out) (show Below w.heap.size w wr.drew from HB.out.drew) HB.out.size (by omega) ?_; intro v3 wa ho3 hb3 hg3 hat3; have HO3 := Lib.hid ho3; have HB3 := Lib.hid hb3; have HW3 := Lib.hid (wr_out (Kd.R_drew HO.out) (HW.out.chg (Chg.refl (fun _ => False) _).drew (fun h => h) (fun _ _ h => h)) hg3); clear ho3 hb3 hg3 hat3))
              all_goals
                clear q1 q2 q3 q4 q5 q6
                go_wp2_with (fail)
                go_roundg ((symB l cs (t : Int)).length - (p + 1))
                case measure => have := HPL.out; omega
                case rel => exact ⟨p + 1, by have := HPL.out; omega, by go_num, ⟨_, HW3.out⟩, by rw [HSN.out, ← List.append_assoc, HZS.out]; exact HO3.out, HB3.out⟩
            · obtain rfl : p = (symB l cs s).length := by omega
              rw [List.take_length, ← HSU.out] at hO
              have hle := allB_take_le l cs ss (k + 1) (by omega)
              obtain ⟨zs, hzs⟩ : ∃ zs, allB l cs (ss.take (k + 1)) = zs := ⟨_, rfl⟩
              rw [hzs] at hle
              obtain ⟨A7, c7, rfl⟩ : ∃ A7 c7, u8 = Value.slice A7 zs.length c7 := by rw [hzs] at hO; exact Kd.R_slice hO
              have HZ := Lib.hid hzs
              have HW := Lib.hid hW
              have HO := Lib.hid hO
              have HB := Lib.hid hB
              have e2 : ((zs.length : Int) != (zs.length : Int)) = false := by simp
              cases hm : mb
              case' true =>
                obtain ⟨t, x, rfl, tl, hx, hsl⟩ := sym_end (show mayC l cs s = true by rw [HMB.out, hm])
                obtain ⟨bd, rfl, z0⟩ := ints_at (Kd.C_below HL.out hB) t tl
                rw [hx] at z0
                have t0 : (0 : Int) ≤ (t : Int) := by omega
                have t1 : (t : Int) < (l.length : Int) := by omega
                have t2 : ((t : Int)).toNat = t := by omega
                rw [hsl]
                clear hx hsl
              all_goals
                subst hm
                clear hW hO hB HJ hp hpl hle hzs
                go_wp2_with (fail)
                refine (Bits.wlen_any _ _ _ _ _ HW.out).mono ?_
                rintro e w6 ⟨rfl, rfl⟩
                rw [HZ.out]
                go_wp2_with (fail)
                go_roundg (ss.length - (k + 1))
                case measure => have := HK.out; omega
                case rel => exact ⟨k + 1, by have := HK.out; omega, by go_num, ⟨_, HW.out⟩, HO.out, HB.out⟩
      · obtain rfl : k = ss.length := by omega
        obtain ⟨⟨v, hW⟩, hO, hB⟩ := HI.out
        rw [List.take_length] at hW hO
        have hle := allB_take_le l cs ss ss.length (by omega)
        rw [List.take_length] at hle
        obtain ⟨A9, c9, rfl⟩ := Kd.R_slice hO
        have HW := Lib.hid hW
        have HC9 := Lib.hid (Kd.R_reads' hO).2.2
        have HB := Lib.hid hB
        clear hW hO hB HI hk
        go_wp2_with (fail)
        refine (Bits.bytes_any _ _ _ _ _ HW.out).mono ?_
        rintro e w4 ⟨rfl, rfl⟩
        go_wp2_with (fail)
        refine (Bits.ref_pack _ _ _ _ HC9.out (allB_bits l cs ss) (by omega)).mono ?_
        rintro e w5 ⟨rfl, hb5⟩
        have HB5 := Lib.hid (Ints.bel_trans HB.out HB.out.size hb5)
        obtain ⟨st, hst⟩ : ∃ st, strOfNums (pack (allB l cs ss)) = st := ⟨_, rfl⟩
        rw [hst]
        clear hst hb5 HW HC9 HB
        go_wp2_with (fail)
        go_ret
        exact ⟨rfl, HB5.out⟩
end Go.Proofs.Ytfdpgngdccdmpaa.Code
