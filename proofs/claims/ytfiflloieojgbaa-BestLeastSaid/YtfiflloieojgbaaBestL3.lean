/- Chapter 15: what is behind a place costs what it costs by itself. -/
import Derived.Test.YtfiflloieojgbaaBestUse
namespace Go.Proofs.Ytfiflloieojgbaa.Best
set_option linter.unusedVariables false
set_option linter.unusedSimpArgs false
open Go.RowKit Go.Proofs.YtfiflloieojgbaaW.PrintWords Go.Proofs.YtfiflloieojgbaaW.PrintMore Go.Proofs.Ytfiflloieojgbaa.L Go.Proofs.Ytfiflloieojgbaa.Texts Go.Proofs.Ytfiflloieojgbaa.Dict Go.Proofs.Ytfiflloieojgbaa.Ints Go.Proofs.Ytfiflloieojgbaa.Greedy Go.Proofs.Ytfiflloieojgbaa.Cost Go.Proofs.Ytfiflloieojgbaa.Fl

set_option maxRecDepth 100000 in
set_option maxHeartbeats 1000000 in
theorem same_costs (A B : Addr) (n c c' : Nat) (f : Nat → Cst) (w : World) (hn : n ≤ 100000) (hf : ∀ j, j < n → (f j).1 < big ∧ (f j).2 < big) (hA : ∀ j, j < n → w.cell? (A.add j) = some (Cost.cx (f j).1 (f j).2)) (hB : ∀ j, j < n → w.cell? (B.add j) = some (Cost.cx (f j).1 (f j).2)) :
    Calls Try.prog 29 #[.slice (some A) n c, .slice (some B) n c'] w fun e w' => e = .returned (.bool true) ∧ ∃ q, w' = w.drewN q := by
  have HF := Lib.hid hf
  have HA := Lib.hid hA
  have HB := Lib.hid hB
  have n1 : ((n : Int) != (n : Int)) = false := by simp
  clear hf hA hB
  go_enter Try.func29, Try.ntmps29
  go_wp2_with (fail)
  go_loopg [5] n (fun j i wr => ∃ k : Nat, k + j = n ∧ i = .int .i64 k ∧ Hid (∃ q, wr = w.drewN q))
  case atStart => exact ⟨0, by omega, rfl, 0, rfl⟩
  case round =>
    obtain ⟨k, hk, rfl, HI⟩ := hrel
    obtain ⟨q, rfl⟩ := HI.out
    clear HI
    by_cases hlt : k < n
    · have i0 : (0 : Int) ≤ k := by omega
      have i1 : (k : Int) < (n : Int) := by omega
      have i2 : ((k : Int)).toNat = k := by omega
      have x0 := HA.out k hlt
      have x1 := HB.out k hlt
      have hb := HF.out k hlt
      obtain ⟨⟨T, B1⟩, hT⟩ : ∃ x, f k = x := ⟨_, rfl⟩
      rw [hT] at x0 x1 hb
      simp only at x0 x1 hb
      unfold cx at x0 x1
      have e0 : (FloatKind.f64.format.order (fl T) (fl T) == some Ordering.eq) = true := (eq_fl hb.1 hb.1).trans (decide_eq_true rfl)
      have e1 : (FloatKind.f64.format.order (fl B1) (fl B1) == some Ordering.eq) = true := (eq_fl hb.2 hb.2).trans (decide_eq_true rfl)
      clear hb hT
      go_wp2_with (fail)
      go_quiet (fail)
      go_wp2_with (fail)
      go_roundg (n - (k + 1))
      case measure => omega
      case rel => exact ⟨k + 1, by omega, by go_num, q + nq, rfl⟩
    · have hge : (n : Int) ≤ (k : Int) := by omega
      go_wp2_with (fail)
      go_ret
      exact ⟨rfl, q, rfl⟩
theorem addr_at (g a k : Nat) : (⟨g, a, none⟩ : Addr).add k = ⟨g, a + k, none⟩ := by
  unfold Addr.add
  by_cases h : k = 0
  · subst h; simp
  · simp [h]
theorem turn_ok (k : Int) (L : Nat) : 0 ≤ ((k.tmod ((L : Int) + 1)) + L + 1).tmod ((L : Int) + 1) ∧ ((k.tmod ((L : Int) + 1)) + L + 1).tmod ((L : Int) + 1) ≤ L := by
  have h1 : -(L : Int) ≤ k.tmod ((L : Int) + 1) := by
    have := Int.lt_tmod_of_pos k (show (0 : Int) < (L : Int) + 1 by omega)
    omega
  have h2 := Int.tmod_lt_of_pos k (show (0 : Int) < (L : Int) + 1 by omega)
  have h3 : 0 ≤ k.tmod ((L : Int) + 1) + L + 1 := by omega
  have h4 := Int.tmod_lt_of_pos (k.tmod ((L : Int) + 1) + L + 1) (show (0 : Int) < (L : Int) + 1 by omega)
  exact ⟨Int.tmod_nonneg _ h3, by omega⟩
theorem turn_at (k : Int) (L : Nat) (hL : L ≤ 400) : ∃ N : Nat, (wrap64 (wrap64 (k.tmod ((L : Int) + 1) + L) + 1)).tmod ((L : Int) + 1) = (N : Int) ∧ N ≤ L := by
  have a1 := Int.lt_tmod_of_pos k (show (0 : Int) < (L : Int) + 1 by omega)
  have a2 := Int.tmod_lt_of_pos k (show (0 : Int) < (L : Int) + 1 by omega)
  have h1 : wrap64 (k.tmod ((L : Int) + 1) + L) = k.tmod ((L : Int) + 1) + L := by unfold wrap64; omega
  have h2 : wrap64 (k.tmod ((L : Int) + 1) + L + 1) = k.tmod ((L : Int) + 1) + L + 1 := by unfold wrap64; omega
  rw [h1, h2]
  obtain ⟨N, hN⟩ := Int.eq_ofNat_of_zero_le (turn_ok k L).1
  exact ⟨N, hN, by have := (turn_ok k L).2; omega⟩
theorem dict_split {e : Ending} {w1 : World} {l : List ByteArray} {b : ByteArray} (h : (dictIn l b ∧ ∃ k, e = .returned (.tuple #[.pointer (some ⟨k, 0, none⟩), .bool true]) ∧ DC w1 k l) ∨ (¬ dictIn l b ∧ e = .returned (.tuple #[.pointer none, .bool false]))) :
    (∃ k, e = .returned (.tuple #[.pointer (some ⟨k, 0, none⟩), .bool true]) ∧ Hid (DP w1 (some ⟨k, 0, none⟩) l) ∧ Hid (okTexts l) ∧ b.size ≤ 400) ∨ e = .returned (.tuple #[.pointer none, .bool false]) := by
  rcases h with ⟨hin, k, rfl, hd⟩ | ⟨_, rfl⟩
  · exact .inl ⟨k, rfl, .inr ⟨k, rfl, hd⟩, hin.2.2, hin.2.1⟩
  · exact .inr rfl
set_option maxRecDepth 100000 in
set_option maxHeartbeats 2000000 in
theorem BestEnds_walk (A : Option Addr) (l : List ByteArray) (c : Nat) (b : ByteArray) (at_ : Int) (w : World)
    (hl : KS.C w A l.length l) (hc : l.length ≤ c) (h16 : l.length * 16 ≤ 140737488351232) (hs : ∀ s ∈ l, s.size ≤ 140737488351232) (hbs : b.size ≤ 140737488351232) (hat : (Lit.int .i64 at_).wf = true) :
    Calls Try.prog 9 #[.slice A l.length c, .string b, .int .i64 at_] w fun e w' => e = .returned (.bool true) ∧ Below w.heap.size w w' := by
  go_enter Try.func9, Try.ntmps9
  go_wp2_with (fail)
  refine (dict_any _ _ _ l _ _ hl hs).mono ?_
  clear hl hs
  rintro e w1 ⟨hb1, hcase⟩
  have HB1 := Lib.hid hb1
  clear hb1
  rcases dict_split hcase with ⟨dk, rfl, HD, HOK, hb400⟩ | rfl
  · clear hcase
    go_wp2_with (fail)
    refine (alive_any _).mono ?_
    rintro e w2 ⟨rfl, hb2⟩
    have HB2 := Lib.hid (Ints.bel_trans HB1.out HB1.out.size hb2)
    have HD2 := Lib.hid (HD.out.below hb2)
    obtain ⟨N, hN, hNl⟩ := turn_at at_ b.size hb400
    have hbi : (b.size : Int) ≤ 400 := by omega
    clear hb2 HB1 HD
    go_wp2_with (fail)
    have hsl : (b.extract N b.size).size = b.size - N := by rw [ByteArray.size_extract]; omega
    have n0 : (0 : Int) ≤ (N : Int) := by omega
    have n1 : (N : Int) ≤ (b.size : Int) := by omega
    have n2 : ((N : Int)).toNat = N := by omega
    obtain ⟨t, ht⟩ : ∃ t, b.extract N b.size = t := ⟨_, rfl⟩
    rw [ht] at hsl
    have hvv : ∀ j, VV l t j = VV l b (N + j) := fun j => by rw [← ht]; exact tail_VV HOK.out (by omega) N j hNl
    have HVV := Lib.hid hvv
    have HSL := Lib.hid hsl
    have HNL := Lib.hid hNl
    clear hN hvv hsl
    have HW1 := Lib.hid (costs_any _ l b w2.drew (HD2.out.below (below_drew (Below.refl _ _))) HOK.out (by omega))
    go_region_law (first
      | (go_simp; go_at_call 16; (with_reducible refine Calls.mono HW1.out ?_); rintro e w3 ⟨g, rfl, hg, hc3, hb3⟩; have HC3 := Lib.hid hc3; have HB3 := Lib.hid (Ints.bel_trans (below_drew HB2.out) HB2.out.size hb3); have HW2 := Lib.hid (costs_any _ l t w3 ((HD2.out.below (below_drew (Below.refl _ _))).below hb3) HOK.out (by have := HSL.out; omega)); clear hg hc3 hb3)
      | (go_simp; go_at_call 16; (with_reducible refine Calls.mono HW2.out ?_); rintro e w4 ⟨g', rfl, hg, hc4, hb4⟩; have HC4 := Lib.hid hc4; have HC34 := Lib.hid (HC3.out.bel hb4); have HB4 := Lib.hid (Ints.bel_trans HB3.out HB3.out.size hb4); clear hg hc4 hb4))
    all_goals
      have hsl2 : (t.size : Int) = (b.size : Int) - (N : Int) := by have := HSL.out; have := HNL.out; omega
      have w1' : wrap64 ((b.size : Int) - (N : Int)) = (b.size : Int) - (N : Int) := by unfold wrap64; omega
      have w2' : wrap64 ((b.size : Int) - (N : Int) + 1) = (b.size : Int) - (N : Int) + 1 := by unfold wrap64; omega
      have n3 : (N : Int) ≤ (b.size : Int) + 1 := by omega
      have r1 : ∀ W : World, (Instr.slice 33 (.slice (some ⟨g, 0, none⟩) (b.size + 1) (b.size + 1)) (some (.int .i64 N)) none none).run Try.prog W = .ok (.slice (some ⟨g, N, none⟩) (t.size + 1) (b.size + 1 - N)) W := by
        intro W
        obtain ⟨i0, hi, hz⟩ := Option.map_eq_some_iff.1 infoCost
        simp only [Prod.mk.injEq] at hz
        have h1 := HSL.out
        have h2 := HNL.out
        have := cut_from (P := Try.prog) 33 47 .i64 Try.underlying33 hi 1 hz.2.1 (some ⟨g, 0, none⟩) (b.size + 1) (b.size + 1) N (by omega) (by omega) W
        rw [Int.toNat_natCast, if_neg (by omega), show b.size + 1 - N = t.size + 1 by omega] at this
        rw [show b.size + 1 - N = t.size + 1 by omega]
        rw [Option.map_some, Nat.mul_one, addr_at, Nat.zero_add] at this
        exact this
      have HNV := Lib.hid (same_costs ⟨g, N, none⟩ ⟨g', 0, none⟩ (t.size + 1) (b.size + 1 - N) (t.size + 1) (VV l t) w4 (by have := HSL.out; omega) (fun j hj => by
        have := VV_bound HOK.out (b := t) (by have := HSL.out; omega) j
        have hbg : big = 9007199254740992 := rfl
        omega) (fun j hj => by
        have := HC34.out.cell (N + j) (by have := HSL.out; have := HNL.out; omega)
        rw [HVV.out j, addr_at]
        exact this) (fun j hj => by
        have := HC4.out.cell j hj
        rw [addr_at, Nat.zero_add]
        exact this))
      go_wp2_with (fail)
      refine HNV.out.mono ?_
      rintro e w5 ⟨rfl, q, rfl⟩
      go_wp2_with (fail)
      go_ret
      exact ⟨rfl, below_drewN HB4.out q⟩
  · go_wp2_with (go_at_call 12; refine (alive_any _).mono ?_; rintro e w5 ⟨rfl, hb5⟩)
    go_ret
    exact ⟨rfl, Ints.bel_trans HB1.out HB1.out.size hb5⟩
end Go.Proofs.Ytfiflloieojgbaa.Best
