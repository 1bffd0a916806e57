/- The first that is wrong is told, from the left: a token that is none, or that there is too much. -/
import Derived.Test.YtdmilmmfibmofaaMeanL2
namespace Go.Proofs.Ytdmilmmfibmofaa.Mean
set_option linter.unusedVariables false
set_option linter.unusedSimpArgs false
open Go.RowKit Go.Proofs.YtdmilmmfibmofaaW.PrintWords Go.Proofs.YtdmilmmfibmofaaW.PrintMore Go.Proofs.Ytdmilmmfibmofaa.L Go.Proofs.Ytdmilmmfibmofaa.Texts Go.Proofs.Ytdmilmmfibmofaa.Dict Go.Proofs.Ytdmilmmfibmofaa.Ints

/-- What goes wrong ahead goes wrong just so with more behind it. -/
theorem mean_ahead (l : List ByteArray) (most : Int) : ∀ (a b : List Int) (acc : ByteArray), (meanGo l most acc a).2 ≠ 0 → meanGo l most acc (a ++ b) = meanGo l most acc a
  | [], b, acc, h => absurd rfl h
  | t :: a, b, acc, h => by
    rw [List.cons_append, meanGo_cons, meanGo_cons]
    rw [meanGo_cons] at h
    by_cases h0 : (means l t).size = 0
    · rw [if_pos h0, if_pos h0]
    · rw [if_neg h0] at h ⊢
      rw [if_neg h0]
      by_cases h1 : max most 0 - (acc.size : Int) < ((means l t).size : Int)
      · rw [if_pos h1, if_pos h1]
      · rw [if_neg h1] at h ⊢
        rw [if_neg h1]
        exact mean_ahead l most a b _ h
set_option maxRecDepth 100000 in
set_option maxHeartbeats 1000000 in
theorem MeanFirst_walk (A : Option Addr) (l : List ByteArray) (c : Nat) (most : Int) (B : Option Addr) (ts : List Int) (c' : Nat) (w : World)
    (hl : KS.C w A l.length l) (hc : l.length ≤ c) (h16 : l.length * 16 ≤ 140737488351232) (hs : ∀ s ∈ l, s.size ≤ 140737488351232) (hmost : (Lit.int .i64 most).wf = true)
    (ht : KI.C w B ts.length ts) (hc' : ts.length ≤ c') (h8 : ts.length * 8 ≤ 140737488351232) (hw : ∀ x ∈ ts, (Lit.int .i64 x).wf = true) :
    Calls Try.prog 6 #[.slice A l.length c, .int .i64 most, .slice B ts.length c'] w fun e w' => e = .returned (.bool true) ∧ Below w.heap.size w w' := by
  have HT := Lib.hid ht
  have HW := Lib.hid (wf_range hw)
  have HM := Lib.hid (wf_one hmost)
  clear ht hw hmost
  go_enter Try.func6, Try.ntmps6
  go_wp2_with (fail)
  refine (dict_any _ _ _ l _ _ hl hs).mono ?_
  clear hl hs
  rintro e w1 ⟨hb1, ⟨hin, b, rfl, hd⟩ | ⟨hin, rfl⟩⟩
  · have HB1 := Lib.hid hb1
    by_cases g1 : ts.length ≤ 200
    · have g1i : (ts.length : Int) ≤ 200 := by omega
      have HD := Lib.hid (show DP w1 (some ⟨b, 0, none⟩) l from .inr ⟨b, rfl, hd⟩)
      have H40 := Lib.hid (okTexts_40 hin.2.2)
      clear hb1 hd hin
      go_wp2_with (fail)
      refine (alive_any _).mono ?_
      rintro e w2 ⟨rfl, hb2⟩
      have HB2 := Lib.hid (Ints.bel_trans HB1.out HB1.out.size hb2)
      have HD2 := Lib.hid (HD.out.below hb2)
      clear hb2 HB1 HD
      go_wp2_with (fail)
      refine (of_any _ _ _ _ l most ts _ HD2.out (Kd.C_below HT.out HB2.out) H40.out HW.out (by omega) HM.out).mono ?_
      rintro e w3 ⟨rfl, hb3⟩
      obtain ⟨x, hx⟩ : ∃ x, (meanGo l most no ts).2 = x := ⟨_, rfl⟩
      rw [hx]
      have HX := Lib.hid hx
      generalize (meanGo l most no ts).1 = sx
      have HB3 := Lib.hid (Ints.bel_trans HB2.out HB2.out.size hb3)
      have HD3 := Lib.hid (HD2.out.below hb3)
      clear hb3 HB2 HD2 hx
      go_wp2_with (fail)
      go_loopg [42] ts.length (fun j i wr => ∃ k : Nat, k + j = ts.length ∧ i = .int .i64 k ∧ Hid ((0 < k → (meanGo l most no (ts.take k)).2 = 0) ∧ DP wr (some ⟨b, 0, none⟩) l ∧ Below w.heap.size w wr))
      case atStart => exact ⟨0, by omega, rfl, fun h => absurd h (by omega), HD3.out, HB3.out⟩
      case round =>
        obtain ⟨k, hk, rfl, HI⟩ := hrel
        obtain ⟨h0, hd, hb⟩ := HI.out
        by_cases hlt : k < ts.length
        · have r2 : ∀ W : World, (Instr.slice 23 (.slice B ts.length c') none (some (.int .i64 ((k : Int) + 1))) none).run Try.prog W = .ok (.slice B (k + 1) c') W := by
            intro W
            obtain ⟨i0, hi, hz⟩ := Option.map_eq_some_iff.1 infoInt
            have := cut_to (P := Try.prog) 23 3 .i64 Try.underlying23 hi B ts.length c' ((k : Int) + 1) (by omega) (by omega) hc' W
            rw [show ((k : Int) + 1).toNat = k + 1 by omega] at this
            exact this
          have CT := Kd.C_take HT.out (show k + 1 ≤ ts.length from hlt)
          rw [List.length_take, Nat.min_eq_left (show k + 1 ≤ ts.length from hlt)] at CT
          have HCT := Lib.hid CT
          have HB := Lib.hid hb
          have HD := Lib.hid hd
          have i0 : (0 : Int) ≤ k := by omega
          have i1 : (k : Int) < (ts.length : Int) := by omega
          clear CT hb hd HI h0
          go_wp2_with (fail)
          refine (of_any _ _ _ _ l most (ts.take (k + 1)) _ HD.out (Kd.C_below HCT.out HB.out) H40.out (fun t ht => HW.out t (List.mem_of_mem_take ht)) (by rw [List.length_take]; omega) HM.out).mono ?_
          rintro e w4 ⟨rfl, hb4⟩
          obtain ⟨y, hy⟩ : ∃ y, (meanGo l most no (ts.take (k + 1))).2 = y := ⟨_, rfl⟩
          rw [hy]
          generalize (meanGo l most no (ts.take (k + 1))).1 = sy
          have HB4 := Lib.hid (Ints.bel_trans HB.out HB.out.size hb4)
          have HD4 := Lib.hid (HD.out.below hb4)
          have HY := Lib.hid hy
          clear hb4 HB HD hy
          by_cases hy0 : y = 0
          · subst hy0
            go_wp2_with (fail)
            go_roundg (ts.length - (k + 1))
            case measure => omega
            case rel => exact ⟨k + 1, by omega, by go_num, fun _ => HY.out, HD4.out, HB4.out⟩
          · have hn : (y != 0) = true := bne_iff_ne.2 hy0
            have hxy : x = y := by
              have := mean_ahead l most (ts.take (k + 1)) (ts.drop (k + 1)) no (by rw [HY.out]; exact hy0)
              rw [List.take_append_drop] at this
              rw [← HX.out, ← HY.out, this]
            subst hxy
            have n1 : (x == x) = true := by simp
            go_wp2_with (fail)
            go_ret
            exact ⟨rfl, HB4.out⟩
        · obtain rfl : k = ts.length := by omega
          have hx0 : x = 0 := by
            rw [List.take_length] at h0
            by_cases hp : 0 < ts.length
            · rw [← HX.out]; exact h0 hp
            · obtain rfl : ts = [] := List.eq_nil_of_length_eq_zero (by omega)
              rw [← HX.out]; rfl
          subst hx0
          have HB4 := Lib.hid hb
          clear hb hd h0 HI
          go_wp2_with (fail)
          go_ret
          exact ⟨rfl, HB4.out⟩
    · clear hb1 hd hin
      go_wp2_with (go_at_call 13; refine (alive_any _).mono ?_; rintro e w' ⟨rfl, hb⟩)
      all_goals first
        | (exfalso; omega)
        | (go_ret; exact ⟨rfl, Ints.bel_trans HB1.out HB1.out.size hb⟩)
  · have HB1 := Lib.hid hb1
    clear hb1 hin
    go_wp2_with (go_at_call 13; refine (alive_any _).mono ?_; rintro e w' ⟨rfl, hb⟩)
    go_ret
    exact ⟨rfl, Ints.bel_trans HB1.out HB1.out.size hb⟩
end Go.Proofs.Ytdmilmmfibmofaa.Mean
