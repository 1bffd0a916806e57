/- Chapter 19: of lengths that may be all bits of the longest are the beginning of just one code. -/
import Derived.Test.YtfdpgngdccdmpaaCodeL2
namespace Go.Proofs.Ytfdpgngdccdmpaa.Code
set_option linter.unusedVariables false
set_option linter.unusedSimpArgs false
open Go.RowKit Go.Proofs.YtfdpgngdccdmpaaW.PrintWords Go.Proofs.YtfdpgngdccdmpaaW.PrintMore Go.Proofs.Ytfdpgngdccdmpaa.L Go.Proofs.Ytfdpgngdccdmpaa.Ints

/-- The last length above nought. -/
def lastPos (l : List Int) : Int := l.foldl (fun x v => if 0 < v then v else x) 0
theorem lastPos_snoc (l : List Int) (v : Int) : lastPos (l ++ [v]) = if 0 < v then v else lastPos l := by simp [lastPos]
theorem lastPos_none : ∀ (l : List Int) (x0 : Int), used l = 0 → l.foldl (fun x v => if 0 < v then v else x) x0 = x0
  | [], _, _ => rfl
  | v :: l, x0, h => by
    unfold used at h
    rw [List.countP_cons] at h
    by_cases hv : 0 < v
    · simp [hv] at h
    · rw [List.foldl_cons, if_neg hv]
      exact lastPos_none l x0 (by unfold used; omega)
theorem used_none : ∀ (l : List Int), used l = 0 → ¬ l.any (fun x => decide (x = 1)) = true
  | [], _ => by simp
  | v :: l, h => by
    unfold used at h
    rw [List.countP_cons] at h
    by_cases hv : 0 < v
    · simp [hv] at h
    · have := used_none l (by unfold used; omega)
      rw [List.any_cons, Bool.or_eq_true, decide_eq_true_eq]
      rintro (h1 | h1)
      · omega
      · exact this h1
theorem lastPos_gen : ∀ (l : List Int) (x0 : Int), used l = 1 → (l.foldl (fun x v => if 0 < v then v else x) x0 = 1 ↔ l.any (fun x => decide (x = 1)) = true)
  | [], _, h => by simp [used] at h
  | v :: l, x0, h => by
    unfold used at h
    rw [List.countP_cons] at h
    rw [List.foldl_cons, List.any_cons, Bool.or_eq_true, decide_eq_true_eq]
    by_cases hv : 0 < v
    · have h0 : used l = 0 := by unfold used; simp [hv] at h; simpa using h
      rw [if_pos hv, lastPos_none l v h0]
      have := used_none l h0
      constructor
      · exact .inl
      · rintro (h1 | h1)
        · exact h1
        · exact absurd h1 this
    · have h1 : used l = 1 := by unfold used; simp [hv] at h; exact h
      rw [if_neg hv, lastPos_gen l x0 h1]
      constructor
      · exact .inr
      · rintro (h2 | h2)
        · omega
        · exact h2
theorem lastPos_one (l : List Int) (h : used l = 1) : lastPos l = 1 ↔ l.any (fun x => decide (x = 1)) = true := lastPos_gen l 0 h
theorem tmod_low (v : Int) : -32768 < v.tmod 32768 := by
  by_cases h : 0 ≤ v
  · have := Int.tmod_nonneg 32768 h
    omega
  · have h1 := Int.tmod_lt_of_pos (-v) (by decide : (0 : Int) < 32768)
    rw [Int.neg_tmod] at h1
    omega
set_option maxHeartbeats 1000000 in
theorem one_any (A : Option Addr) (n c : Nat) (h : List Int) (w : World) (hh : KI.C w A n h) :
    Calls Try.prog 21 #[.slice A n c] w fun e w' => e = .returned (.bool (alone h)) ∧ w' = w := by
  have H := Lib.hid hh
  have hmx := Kd.C_max hh
  have hnl := ki_len hh
  clear hh
  subst hnl
  go_enter Try.func21, Try.ntmps21
  go_wp2_with (fail)
  go_loopg [3, 4, 9] h.length (fun j s x i wr => ∃ k : Nat, k + j = h.length ∧ i = .int .i64 k ∧ s = .int .i64 (used (h.take k) : Nat) ∧ x = .int .i64 (lastPos (h.take k)) ∧ wr = w)
  case atStart => exact ⟨0, by omega, rfl, rfl, rfl, rfl⟩
  case round =>
    obtain ⟨k, hk, rfl, rfl, rfl, rfl⟩ := hrel
    by_cases hlt : k < h.length
    · obtain ⟨ad, rfl, x0⟩ := ints_at H.out k hlt
      have hn := used_take_succ h k hlt
      have hp2 : lastPos (h.take (k + 1)) = if 0 < h.getD k 0 then h.getD k 0 else lastPos (h.take k) := by rw [take_succ_getD h k hlt, lastPos_snoc]
      obtain ⟨x, hx⟩ : ∃ x, h.getD k 0 = x := ⟨_, rfl⟩
      rw [hx] at x0 hn hp2
      have h1 := used_le (h.take k)
      have h3 := List.length_take_le k h
      obtain ⟨S, hS⟩ : ∃ S, used (h.take k) = S := ⟨_, rfl⟩
      obtain ⟨L, hL⟩ : ∃ L, lastPos (h.take k) = L := ⟨_, rfl⟩
      rw [hS] at hn h1 ⊢
      rw [hL] at hp2 ⊢
      have hs2 : (S : Int) ≤ 9223372036854775806 := by omega
      have i0 : (0 : Int) ≤ k := by omega
      have i1 : (k : Int) < (h.length : Int) := by omega
      have i2 : ((k : Int)).toNat = k := by omega
      have HN := Lib.hid hn
      have HP2 := Lib.hid hp2
      clear hn h1 h3 hx hS hL hp2
      by_cases hp : 0 < x
      · have HP := Lib.hid hp
        go_wp2_with (fail)
        go_roundg (h.length - (k + 1))
        case measure => omega
        case rel => exact ⟨k + 1, by omega, by go_num, by rw [HN.out, if_pos HP.out]; go_num, by rw [HP2.out, if_pos HP.out], rfl⟩
      · have HP := Lib.hid hp
        have hp2 : x ≤ 0 := by omega
        clear hp
        go_wp2_with (fail)
        go_roundg (h.length - (k + 1))
        case measure => omega
        case rel => exact ⟨k + 1, by omega, by go_num, by rw [HN.out, if_neg (by have := HP.out; omega)]; rfl, by rw [HP2.out, if_neg (by have := HP.out; omega)], rfl⟩
    · obtain rfl : k = h.length := by omega
      rw [List.take_length]
      obtain ⟨S, hS⟩ : ∃ S, used h = S := ⟨_, rfl⟩
      obtain ⟨L, hL⟩ : ∃ L, lastPos h = L := ⟨_, rfl⟩
      have ha : alone h = (decide (S = 1) && decide (L = 1)) := by
        unfold alone
        rw [hS]
        by_cases h1 : S = 1
        · have := lastPos_one h (by rw [hS]; exact h1)
          rw [hL] at this
          rw [decide_eq_true h1, Bool.true_and, Bool.true_and, Bool.eq_iff_iff, ← this, decide_eq_true_eq]
        · rw [decide_eq_false h1]
          rfl
      rw [hS, hL]
      have HA := Lib.hid ha
      clear ha hS hL
      by_cases h1 : S = 1
      · subst h1
        have hr := Lib.hid (show alone h = (L == 1) by rw [HA.out]; rfl)
        go_wp2_with (fail)
        go_ret
        rw [hr.out]
        exact ⟨rfl, rfl⟩
      · have hs1 : ((S : Int) == 1) = false := by simpa using (show ¬ (S : Int) = 1 by omega)
        have hr := Lib.hid (show alone h = false by rw [HA.out, decide_eq_false h1]; rfl)
        clear h1
        go_wp2_with (fail)
        go_ret
        rw [hr.out]
        exact ⟨rfl, rfl⟩
theorem right_alone {l : List Int} (h : right l = 0) (hk : kraft l ≠ 32768) : alone l = true := by
  unfold right at h
  by_cases hw : wrong l = true
  · rw [if_pos hw] at h; omega
  · rw [if_neg hw] at h
    by_cases ha : kraft l = 32768 ∨ alone l = true
    · rcases ha with ha | ha
      · exact absurd ha hk
      · exact ha
    · rw [if_neg ha] at h; omega
set_option maxRecDepth 100000 in
set_option maxHeartbeats 4000000 in
theorem CodeFills_walk (A : Option Addr) (l : List Int) (c : Nat) (v : Int) (w : World) (hl : KI.C w A l.length l) (hc : l.length ≤ c) (h8 : l.length * 8 ≤ 140737488351232) (hwf : ∀ x ∈ l, (Lit.int .i64 x).wf = true) (hv : (Lit.int .i64 v).wf = true) :
    Calls Try.prog 7 #[.slice A l.length c, .int .i64 v] w fun e w' => e = .returned (.bool true) ∧ Below w.heap.size w w' := by
  have HL := Lib.hid hl
  have hvr : -(2 ^ 63) ≤ v ∧ v < 2 ^ 63 := by
    simp [Lit.wf, IntKind.min, IntKind.max, IntKind.signed, IntKind.bits] at hv
    omega
  obtain ⟨hv1, hv2⟩ := hvr
  clear hl hwf hv
  by_cases h100 : l.length ≤ 100
  · have h100i : (l.length : Int) ≤ 100 := by omega
    go_enter Try.func7, Try.ntmps7
    go_wp2_with (fail)
    refine (alive_any _).mono ?_
    rintro e w1 ⟨rfl, hb1⟩
    have HB1 := Lib.hid hb1
    have HL1 := Lib.hid (Kd.C_below HL.out hb1)
    clear hb1
    by_cases hr : right l = 0
    · have HRG := Lib.hid (right_range hr)
      have HRA := Lib.hid (right_alone hr)
      go_wp2_with (fail)
      refine (of_ok _ _ l _ HL1.out (by omega) hr).mono ?_
      clear hr
      rintro e w2 ⟨v2, rfl, hrr, hb2⟩
      obtain ⟨A2, c2, rfl⟩ := Kd.R_slice hrr
      have HC2 := Lib.hid (Kd.R_reads' hrr).2.2
      rw [codes_length] at HC2 ⊢
      have HB2 := Lib.hid (Ints.bel_trans HB1.out HB1.out.size hb2)
      have HL2 := Lib.hid (Kd.C_below HL1.out hb2)
      have e0 : ((l.length : Int) != (l.length : Int)) = false := by simp
      clear hrr hb2 HB1 HL1
      go_wp2_with (fail)
      refine (kraft_any _ _ _ l _ HL2.out (by omega)).mono ?_
      rintro e w3 ⟨rfl, rfl⟩
      by_cases hk : kraft l = 32768
      · rw [hk]
        obtain ⟨x, hx, hxl⟩ : ∃ x : Nat, (v.tmod 32768 + 32768).tmod 32768 = (x : Int) ∧ x < 32768 := by
          have h1 := Int.tmod_lt_of_pos v (by decide : (0 : Int) < 32768)
          have h2 := tmod_low v
          refine ⟨((v.tmod 32768 + 32768).tmod 32768).toNat, ?_, ?_⟩
          · have := Int.tmod_nonneg 32768 (show 0 ≤ v.tmod 32768 + 32768 by omega)
            omega
          · have := Int.tmod_lt_of_pos (v.tmod 32768 + 32768) (by decide : (0 : Int) < 32768)
            omega
        obtain ⟨i0, hi0, hfit⟩ := fits_some l x hk hxl
        have HFIT := Lib.hid hfit
        have HONE := Lib.hid (fun j hj => fits_one l x j i0 hj hfit)
        have HK := Lib.hid hk
        have hx0 : (0 : Int) ≤ (x : Int) := by omega
        have hx1 : (x : Int) < 32768 := by omega
        have hw64 : wrap64 (v.tmod 32768 + 32768) = v.tmod 32768 + 32768 := by
          have h1 := Int.tmod_lt_of_pos v (by decide : (0 : Int) < 32768)
          have h2 := tmod_low v
          unfold wrap64
          omega
        clear hfit hk
        go_wp2_with (fail)
        clear hx hw64
        go_loopg [45, 8] l.length (fun j i n wr => ∃ k : Nat, k + j = l.length ∧ i = .int .i64 k ∧ Hid (n = .int .i64 (if i0 < k then 1 else 0)) ∧ ∃ q, wr = w3.drewN q)
        case atStart => exact ⟨0, by omega, rfl, rfl, 0, rfl⟩
        case round =>
          obtain ⟨k, hk, rfl, HN, q, rfl⟩ := hrel
          by_cases hlt : k < l.length
          · obtain ⟨ad, rfl, x0⟩ := ints_at HL2.out k hlt
            obtain ⟨bd, rfl, y0⟩ := ints_at HC2.out k hlt
            rw [codes_getD l k hlt] at y0
            have k0 : (0 : Int) ≤ k := by omega
            have k1 : (k : Int) < (l.length : Int) := by omega
            have k2 : ((k : Int)).toNat = k := by omega
            have hrg := HRG.out _ (getD_mem' hlt)
            have hnn := HN.out
            rcases len_case _ hrg with hz | ⟨n, hz, hn⟩
            · have hki : k ≠ i0 := by
                intro e
                obtain ⟨n, _, h2, _⟩ := HFIT.out
                rw [← e, hz] at h2
                omega
              have HNX := Lib.hid (show (if i0 < k + 1 then (1 : Int) else 0) = if i0 < k then 1 else 0 by
                by_cases h : i0 < k
                · rw [if_pos h, if_pos (by omega)]
                · rw [if_neg h, if_neg (by omega)])
              rw [hz] at x0
              obtain ⟨N, hN⟩ : ∃ N : Int, (if i0 < k then (1 : Int) else 0) = N := ⟨_, rfl⟩
              rw [hN] at hnn HNX
              subst hnn
              have hlt0 : decide ((0 : Int) < 0) = false := by decide
              generalize codeAt l k = Ck at y0
              clear hz hrg hki hN HN
              go_wp2_with (fail)
              go_quiet (fail)
              go_wp2_with (fail)
              go_roundg (l.length - (k + 1))
              case measure => omega
              case rel => exact ⟨k + 1, by omega, by go_num, Lib.hid (by rw [HNX.out]), _, rfl⟩
            · obtain ⟨z, hzz⟩ : ∃ z, l.getD k 0 = z := ⟨_, rfl⟩
              obtain ⟨Ck, hCk⟩ : ∃ Ck, codeAt l k = Ck := ⟨_, rfl⟩
              rw [hzz] at x0
              rw [hCk] at y0
              obtain ⟨d, hd⟩ : ∃ d : Nat, 14 - n = d := ⟨_, rfl⟩
              have hzd : 15 - z = (d : Int) := by omega
              have f1 : IntKind.i64.wrap (15 - z) = (d : Int) := by rw [hzd]; exact i64_small _ (by omega) (by omega)
              have f2 : IntKind.u64.wrap (d : Int) = (d : Int) := u64_small _ (by omega) (by omega)
              have f3 := div_form x d (by omega)
              obtain ⟨Z, hZ⟩ : ∃ Z, x / 2 ^ d = Z := ⟨_, rfl⟩
              rw [hZ] at f3
              have f5 : ((d : Int)).toNat = d := by omega
              have f6 : (0 : Int) ≤ (d : Int) := by omega
              have f7 : 0 < z := by omega
              by_cases hf : Z = Ck
              · have hki : k = i0 := HONE.out k ⟨n, hn, hz, by rw [hd, hZ, hCk]; exact hf⟩
                rw [if_neg (by omega)] at hnn
                subst hnn
                have f4 : ((Z : Int) == (Ck : Int)) = true := by rw [hf]; simp
                have HKI := Lib.hid hki
                clear hf hki hz hrg hzz hCk hd hzd hZ hn HN
                go_wp2_with (fail)
                go_quiet (fail)
                go_wp2_with (fail)
                go_roundg (l.length - (k + 1))
                case measure => omega
                case rel => exact ⟨k + 1, by omega, by go_num, Lib.hid (by rw [if_pos (by have := HKI.out; omega)]), _, rfl⟩
              · have hki : k ≠ i0 := by
                  intro e
                  obtain ⟨n', h1, h2, h3⟩ := HFIT.out
                  rw [← e] at h2 h3
                  have e2 : n' = n := by omega
                  rw [e2, hd, hZ, hCk] at h3
                  exact hf h3
                have HNX := Lib.hid (show (if i0 < k + 1 then (1 : Int) else 0) = if i0 < k then 1 else 0 by
                  by_cases h : i0 < k
                  · rw [if_pos h, if_pos (by omega)]
                  · rw [if_neg h, if_neg (by omega)])
                obtain ⟨N, hN⟩ : ∃ N : Int, (if i0 < k then (1 : Int) else 0) = N := ⟨_, rfl⟩
                rw [hN] at hnn HNX
                subst hnn
                have f4 : ((Z : Int) == (Ck : Int)) = false := by simpa using (show ¬ (Z : Int) = (Ck : Int) by omega)
                clear hf hki hz hrg hzz hCk hd hzd hZ hn hN HN
                go_wp2_with (fail)
                go_quiet (fail)
                go_wp2_with (fail)
                go_roundg (l.length - (k + 1))
                case measure => omega
                case rel => exact ⟨k + 1, by omega, by go_num, Lib.hid (by rw [HNX.out]), _, rfl⟩
          · obtain rfl : k = l.length := by omega
            have hnn := HN.out
            rw [if_pos hi0] at hnn
            subst hnn
            clear HN
            go_wp2_with (fail)
            go_ret
            exact ⟨rfl, below_drewN HB2.out _⟩
      · have hne : (((kraft l : Nat) : Int) != 32768) = true := bne_iff_ne.2 (by omega)
        have HAL := Lib.hid (HRA.out hk)
        clear hk
        generalize kraft l = K at *
        go_wp2_with (fail)
        refine (one_any _ _ _ l _ HL2.out).mono ?_
        rintro e w3 ⟨rfl, rfl⟩
        rw [HAL.out]
        go_wp2_with (fail)
        go_ret
        exact ⟨rfl, HB2.out⟩
    · go_wp2_with (fail)
      refine (of_no _ _ l _ HL1.out (by omega) hr).mono ?_
      rintro e w2 ⟨rfl, rfl⟩
      have hne : (right l != 0) = true := bne_iff_ne.2 hr
      clear hr
      generalize right l = r at *
      go_wp2_with (fail)
      go_ret
      exact ⟨rfl, HB1.out⟩
  · have h100i : (100 : Int) < (l.length : Int) := by omega
    clear h100
    go_enter Try.func7, Try.ntmps7
    go_wp2_with (go_at_call 10; refine (alive_any _).mono ?_; rintro e w' ⟨rfl, hb⟩)
    go_ret
    exact ⟨rfl, hb⟩
end Go.Proofs.Ytfdpgngdccdmpaa.Code
