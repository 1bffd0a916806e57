/- Chapter 15: of every dictionary, every bytes, every window: the tokens, which mean these bytes; what it costs from each place on; lists kept, marked, grown: the walk. -/
import Derived.Test.YtfiflloieojgbaaRefAll
import Derived.Test.YtfiflloieojgbaaBookTwo
namespace Go.Proofs.Ytfiflloieojgbaa.Best
set_option linter.unusedVariables false
set_option linter.unusedSimpArgs false
open Go.RowKit Go.Proofs.YtfiflloieojgbaaW.PrintWords Go.Proofs.YtfiflloieojgbaaW.PrintMore Go.Proofs.Ytfiflloieojgbaa.L Go.Proofs.Ytfiflloieojgbaa.Texts Go.Proofs.Ytfiflloieojgbaa.Dict Go.Proofs.Ytfiflloieojgbaa.Ints Go.Proofs.Ytfiflloieojgbaa.Greedy Go.Proofs.Ytfiflloieojgbaa.Cost Go.Proofs.Ytfiflloieojgbaa.Fl Go.Proofs.Ytfiflloieojgbaa.Say Go.Proofs.Ytfiflloieojgbaa.Book Go.Proofs.Ytfiflloieojgbaa.BookI Go.Proofs.Ytfiflloieojgbaa.BookB
theorem dict_has {e : Ending} {w1 : World} {l : List ByteArray} {b : ByteArray} (h : (dictIn l b ∧ ∃ k, e = .returned (.tuple #[.pointer (some ⟨k, 0, none⟩), .bool true]) ∧ DC w1 k l) ∨ (¬ dictIn l b ∧ e = .returned (.tuple #[.pointer none, .bool false]))) :
    (∃ k, e = .returned (.tuple #[.pointer (some ⟨k, 0, none⟩), .bool true]) ∧ Hid (DP w1 (some ⟨k, 0, none⟩) l) ∧ Hid (okTexts l) ∧ b.size ≤ 400) ∨ e = .returned (.tuple #[.pointer none, .bool false]) := by
  rcases h with ⟨hin, k, rfl, hd⟩ | ⟨_, rfl⟩
  · exact .inl ⟨k, rfl, .inr ⟨k, rfl, hd⟩, hin.2.2, hin.2.1⟩
  · exact .inr rfl

/-- The tokens; of no window, or of too great a one, there are none. -/
def pw (l : List ByteArray) (win : Int) (b : ByteArray) : List Int := if 1 ≤ win ∧ win ≤ 1024 then best l win.toNat b else []
theorem pw_yes {l : List ByteArray} {W : Nat} {b : ByteArray} (h1 : 1 ≤ W) (h2 : W ≤ 1024) : pw l (W : Int) b = best l W b := by unfold pw; rw [if_pos (by omega), Int.toNat_natCast]
theorem pw_no {l : List ByteArray} {win : Int} {b : ByteArray} (h : ¬ (1 ≤ win ∧ win ≤ 1024)) : pw l win b = [] := if_neg h
theorem parse_all (p : Option Addr) (l : List ByteArray) (b : ByteArray) (win : Int) (w : World) (h : DP w p l) (hok : okTexts l) (hbs : b.size ≤ 1024) :
    Calls Try.prog 13 #[.pointer p, .string b, .int .i64 win] w fun e w' => ∃ v, e = .returned v ∧ KI.R 3 w' w.heap.size (fun _ => True) v (pw l win b) ∧ Below w.heap.size w w' := by
  by_cases hw : 1 ≤ win ∧ win ≤ 1024
  · obtain ⟨W, rfl⟩ := Int.eq_ofNat_of_zero_le (by omega : 0 ≤ win)
    rw [pw_yes (by omega) (by omega)]
    exact parse_any p l b W w h hok hbs (by omega) (by omega)
  · rw [pw_no hw]
    refine (parse_none p b win w (by omega)).mono ?_
    rintro e w1 ⟨rfl, rfl⟩
    exact ⟨_, rfl, Kd.R_nil _ _ _ _ _, Below.refl _ _⟩
theorem pw_few {l : List ByteArray} (hok : okTexts l) {b : ByteArray} (hb : b.size ≤ 400) (win : Int) : (pw l win b).length ≤ 400 := by
  by_cases hw : 1 ≤ win ∧ win ≤ 1024
  · obtain ⟨W, rfl⟩ := Int.eq_ofNat_of_zero_le (by omega : 0 ≤ win)
    rw [pw_yes (by omega) (by omega)]
    have := (tiles_few hok.1 _ (best_tiles hok (win := W) (by omega) b.size b (Nat.le_refl _) (by omega))).1
    omega
  · rw [pw_no hw]
    exact Nat.zero_le _
/-- The costs as they lie. -/
def CXs (l : List ByteArray) (b : ByteArray) : List BookX.CX := (List.range (b.size + 1)).map fun j => (fl (VV l b j).1, fl (VV l b j).2)
theorem CXs_len (l : List ByteArray) (b : ByteArray) : (CXs l b).length = b.size + 1 := by unfold CXs; rw [List.length_map, List.length_range]
theorem CXs_at (l : List ByteArray) (b : ByteArray) (j : Nat) (h : j ≤ b.size) : (CXs l b).getD j (0, 0) = (fl (VV l b j).1, fl (VV l b j).2) := by
  unfold CXs
  rw [List.getD_eq_getElem?_getD, List.getElem?_map, List.getElem?_range (by omega)]
  rfl
theorem CXs_ok {l : List ByteArray} (hok : okTexts l) {b : ByteArray} (hb : b.size ≤ 1024) : ∀ x ∈ CXs l b, BookX.okX x := by
  intro x hx
  obtain ⟨j, _, rfl⟩ := List.mem_map.1 hx
  have hv := VV_bound hok hb j
  have hbg : big = 9007199254740992 := rfl
  exact ⟨(eq_fl (by omega) (by omega)).trans (decide_eq_true rfl), (eq_fl (by omega) (by omega)).trans (decide_eq_true rfl)⟩
theorem cblk_R {w : World} {base g : Nat} {l : List ByteArray} {b : ByteArray} (h : CBlk w g (b.size + 1) (VV l b)) (hg : base ≤ g) (hb : b.size ≤ 1024) : BookX.KX.R 47 w base (fun _ => True) (.slice (some ⟨g, 0, none⟩) (CXs l b).length (b.size + 1)) (CXs l b) := by
  obtain ⟨cs, hc, hr, hsz⟩ := h
  refine Kd.R_of_own ⟨by rw [encs_length, Nat.mul_one], .inr ⟨g, b.size + 1, cs, rfl, hg, hc, by rw [CXs_len]; exact Nat.le_refl _, by simp only [maxLen]; omega, by rw [Nat.mul_one]; exact hsz, ?_⟩⟩ (fun _ _ => trivial)
  rw [CXs_len, Nat.mul_one, List.take_of_length_le (by rw [Array.length_toList, hsz]; exact Nat.le_refl _)]
  refine List.ext_getElem? (fun j => ?_)
  by_cases hj : j < b.size + 1
  · rw [encs_at (enc := BookX.encX) (0, 0) (by rw [CXs_len]; exact hj), CXs_at l b j (by omega), Array.getElem?_toList, hr j hj]
    rfl
  · rw [List.getElem?_eq_none (by rw [Array.length_toList, hsz]; omega), List.getElem?_eq_none (by rw [encs_length, CXs_len]; omega)]
theorem cblk_R' {w : World} {base g : Nat} {l : List ByteArray} {b : ByteArray} {xs : List BookX.CX} (h : CBlk w g (b.size + 1) (VV l b)) (hg : base ≤ g) (hb : b.size ≤ 1024) (hx : CXs l b = xs) : BookX.KX.R 47 w base (fun _ => True) (.slice (some ⟨g, 0, none⟩) (b.size + 1) (b.size + 1)) xs := by
  have := cblk_R h hg hb
  rw [CXs_len, hx] at this
  exact this
theorem bkx_new {w : World} {b base bb : Nat} {V U : Value} (hb : BkY w b V U (.slice none 0 0) (.slice none 0 0)) (hbb : bb ≤ b) : BookX.BK w b base bb (.slice none 0 0) (.slice none 0 0) V U [] [] [] :=
  ⟨⟨hb, hbb, Kd.R_nil _ _ _ _ _, rfl, fun i h => absurd h (Nat.not_lt_zero i), fun i j _ h => absurd h (Nat.not_lt_zero j)⟩, Kd.R_nil _ _ _ _ _, .inl rfl, rfl, fun i h => absurd h (Nat.not_lt_zero i)⟩
set_option maxRecDepth 100000 in
set_option maxHeartbeats 8000000 in
theorem BestTells_walk (A : Option Addr) (l : List ByteArray) (c : Nat) (b : ByteArray) (win : Int) (w : World)
    (hl : KS.C w A l.length l) (hc : l.length ≤ c) (h16 : l.length * 16 ≤ 140737488351232) (hs : ∀ s ∈ l, s.size ≤ 140737488351232) (hbs : b.size ≤ 140737488351232) (hwin : (Lit.int .i64 win).wf = true) :
    Calls Try.prog 5 #[.slice A l.length c, .string b, .int .i64 win] w fun e w' => e = .returned (.bool true) ∧ Below w.heap.size w w' := by
  have HL := Lib.hid hl
  go_enter Try.func5, Try.ntmps5
  go_wp2_with (fail)
  refine (dict_any _ _ _ l _ _ hl hs).mono ?_
  clear hl hs hwin
  rintro e w1 ⟨hb1, hcase⟩
  have HB1 := Lib.hid hb1
  have HL1 := Lib.hid (Kd.C_below HL.out hb1)
  clear hb1 HL
  rcases dict_has hcase with ⟨dk, rfl, HD, HOK, hb400⟩ | rfl
  · clear hcase hbs
    have hbi : (b.size : Int) ≤ 400 := by omega
    go_wp2_with (fail)
    refine (alive_any _).mono ?_
    rintro e w2 ⟨rfl, hb2⟩
    have HB2 := Lib.hid (Ints.bel_trans HB1.out HB1.out.size hb2)
    have HD2 := Lib.hid (HD.out.below hb2)
    have HL2 := Lib.hid (Kd.C_below HL1.out hb2)
    clear hb2 HB1 HD HL1
    have hPl := pw_few HOK.out hb400 win
    obtain ⟨P, hP⟩ : ∃ P, pw l win b = P := ⟨_, rfl⟩
    rw [hP] at hPl
    have HP := Lib.hid hP
    have HPL := Lib.hid hPl
    clear hP hPl
    go_wp2_with (fail)
    refine (parse_all _ l b win _ HD2.out HOK.out (by omega)).mono ?_
    rintro e w3 ⟨v, rfl, hr, hb3⟩
    rw [HP.out] at hr
    obtain ⟨A3, c3, rfl⟩ := Kd.R_slice hr
    have HB3 := Lib.hid (Ints.bel_trans HB2.out HB2.out.size hb3)
    have HD3 := Lib.hid (HD2.out.below hb3)
    have HL3 := Lib.hid (Kd.C_below HL2.out hb3)
    have HR3 := Lib.hid (Kd.R_lower hr HB2.out.size)
    clear hr hb3 HB2 HD2 HL2
    go_wp2_with (fail)
    refine (costs_any _ l b _ HD3.out HOK.out (by omega)).mono ?_
    rintro e w4 ⟨g, rfl, hg, hc4, hb4⟩
    obtain ⟨C, hC⟩ : ∃ C, CXs l b = C := ⟨_, rfl⟩
    have hCl : C.length = b.size + 1 := by rw [← hC, CXs_len]
    have HC := Lib.hid hC
    have HX4 := Lib.hid (cblk_R' (base := w.heap.size) hc4 (Nat.le_trans HB3.out.size hg) (by omega) hC)
    clear hC
    have HB4 := Lib.hid (Ints.bel_trans HB3.out HB3.out.size hb4)
    have HD4 := Lib.hid (HD3.out.below hb4)
    have HL4 := Lib.hid (Kd.C_below HL3.out hb4)
    have HR4 := Lib.hid (Kd.R_below HR3.out hb4)
    have HG4 := Lib.hid (show g < w4.heap.size from hc4.lt)
    have HBK := Lib.hid (bk_new w4 w.heap.size)
    have hsz4 : w.heap.size ≤ w4.heap.size := HB4.out.size
    clear hg hc4 hb4 HB3 HD3 HL3 HR3
    go_wp2_with (fail)
    have HA4 := Lib.hid (show Below w4.heap.size w4 (w4.alloc (.cells (bcells (.slice none 0 0) (.slice none 0 0) (.slice none 0 0) (.slice none 0 0)) 42 (0, 0))) from (Below.refl _ _).alloc (Nat.le_refl _) _)
    refine (ints_any _ w.heap.size w4.heap.size _ _ _ _ [] [] [] A3 P.length c3 P _ (by exact HBK.out) (by exact Kd.R_alloc HR4.out _) (fun i hi => absurd hi (Nat.not_lt_zero i)) (by simp; omega) (by simp) (by simp) (by have := HPL.out; omega)).mono ?_
    rintro e w5 ⟨⟨V5, U5, u5, hbk5⟩, rfl, hb5⟩
    have HBK5 := Lib.hid hbk5
    have HB5 := Lib.hid (show Below w4.heap.size w4 w5 from HA4.out.trans hb5)
    clear hbk5 hb5 HBK HA4
    go_wp2_with (fail)
    refine (parse_all _ l b win _ (HD4.out.below HB5.out) HOK.out (by omega)).mono ?_
    rintro e w6 ⟨v, rfl, hr, hb6⟩
    rw [HP.out] at hr
    obtain ⟨A6, c6, rfl⟩ := Kd.R_slice hr
    have HBK6 := Lib.hid (HBK5.out.below hb6)
    have hsz5 : w4.heap.size ≤ w5.heap.size := HB5.out.size
    have hap : ∀ i, i < ([P] : List (List Int)).length → (slv (([(A3, P.length, c3)] : List Sl).getD i z0)).ownBlock = none ∨ (slv (([(A3, P.length, c3)] : List Sl).getD i z0)).ownBlock ≠ (Value.slice A6 P.length c6).ownBlock := by
      intro i hi
      obtain rfl : i = 0 := by simpa using hi
      cases ho : (slv (([(A3, P.length, c3)] : List Sl).getD 0 z0)).ownBlock with
      | none => exact .inl rfl
      | some k =>
        right
        intro e
        have h1 := Kd.R_lt (HBK5.out.fv 0 (by simp)) k ho
        have h2 := Kd.R_base hr k e.symm
        omega
    have HAP := Lib.hid hap
    have HR6 := Lib.hid (Kd.R_lower hr (Nat.le_trans hsz4 hsz5))
    have HB6 := Lib.hid (Ints.bel_trans HB5.out HB5.out.size hb6)
    have hsz6 : w5.heap.size ≤ w6.heap.size := hb6.size
    clear hr hb6 hap HB5 HBK5
    go_wp2_with (fail)
    refine (ints_any _ w.heap.size w4.heap.size _ _ _ _ _ _ _ A6 P.length c6 P _ HBK6.out HR6.out HAP.out (by omega) (by omega) (by simp) (by have := HPL.out; omega)).mono ?_
    rintro e w7 ⟨⟨V7, U7, u7', hbk7⟩, rfl, hb7⟩
    have HBK7 := Lib.hid hbk7
    have HB7 := Lib.hid (HB6.out.trans hb7)
    have HBX7 := Lib.hid (bkx_new (base := w.heap.size) (bb := w4.heap.size) hbk7.blk (Nat.le_refl _))
    have HX7 := Lib.hid (Kd.R_below HX4.out HB7.out)
    have hsz7 : w4.heap.size ≤ w7.heap.size := HB7.out.size
    clear hbk7 hb7 HBK6 HB6 HAP HR6
    go_wp2_with (fail)
    refine (BookX.costs_any2 _ w.heap.size w4.heap.size _ _ _ _ [] [] [] (some ⟨g, 0, none⟩) (b.size + 1) (b.size + 1) C _ HBX7.out HX7.out (fun i hi => absurd hi (Nat.not_lt_zero i)) (by omega) (by omega) (by simp) (by omega)).mono ?_
    rintro e w8 ⟨⟨X8, Y8, u8', hbx8, _, hkp8⟩, rfl, hb8⟩
    have HBX8 := Lib.hid hbx8
    have HBK8 := Lib.hid (bk_keep HBK7.out hbx8.blk hkp8 (by decide) (by decide))
    have HB8 := Lib.hid (HB7.out.trans hb8)
    have hsz8 : w4.heap.size ≤ w8.heap.size := HB8.out.size
    clear hbx8 hkp8 hb8 HBK7 HBX7 HB7 HX7
    go_wp2_with (fail)
    refine (costs_any _ l b _ (HD4.out.below HB8.out) HOK.out (by omega)).mono ?_
    rintro e w9 ⟨g9, rfl, hg9, hc9, hb9⟩
    have HX9 := Lib.hid (cblk_R' (base := w.heap.size) hc9 (by omega) (by omega) HC.out)
    have HBX9 := Lib.hid (HBX8.out.below hb9)
    have HBK9 := Lib.hid (HBK8.out.below hb9)
    have HB9 := Lib.hid (Ints.bel_trans HB8.out HB8.out.size hb9)
    have hap9 : ∀ i, i < ([C] : List (List BookX.CX)).length → (slv (([(some ⟨g, 0, none⟩, b.size + 1, b.size + 1)] : List Sl).getD i z0)).ownBlock = none ∨ (slv (([(some ⟨g, 0, none⟩, b.size + 1, b.size + 1)] : List Sl).getD i z0)).ownBlock ≠ (Value.slice (some ⟨g9, 0, none⟩) (b.size + 1) (b.size + 1)).ownBlock := by
      intro i hi
      obtain rfl : i = 0 := by simpa using hi
      right
      intro e
      have e : some g = some g9 := e
      injection e with e
      have := HG4.out
      omega
    have HAP := Lib.hid hap9
    have hsz9 : w8.heap.size ≤ w9.heap.size := hb9.size
    clear hap9 hg9 hc9 hb9 HBX8 HBK8 HB8
    go_wp2_with (fail)
    refine (BookX.costs_any2 _ w.heap.size w4.heap.size _ _ _ _ _ _ _ (some ⟨g9, 0, none⟩) (b.size + 1) (b.size + 1) C _ HBX9.out HX9.out HAP.out (by omega) (by omega) (by simp) (by omega)).mono ?_
    rintro e w10 ⟨⟨X10, Y10, u10', hbx10, _, hkp10⟩, rfl, hb10⟩
    have HBX10 := Lib.hid hbx10
    have HBK10 := Lib.hid (bk_keep HBK9.out hbx10.blk hkp10 (by decide) (by decide))
    have HB10 := Lib.hid (HB9.out.trans hb10)
    clear hbx10 hkp10 hb10 HBX9 HBK9 HB9 HX9 HAP
    go_wp2_with (fail)
    refine (ref_costs A c l b _ (Kd.C_below HL4.out HB10.out) hc HOK.out (by omega)).mono ?_
    rintro e w11 ⟨vt, vu, rfl, ht, hu, hb11⟩
    obtain ⟨A11, c11, rfl⟩ := Kd.R_slice ht
    obtain ⟨A12, c12, rfl⟩ := Kd.R_slice hu
    have hct := (Kd.R_reads' ht).2.2
    have hcu := (Kd.R_reads' hu).2.2
    rw [CT_len] at hct ⊢
    rw [CB_len] at hcu ⊢
    have HCT := Lib.hid hct
    have HCU := Lib.hid hcu
    have HBX11 := Lib.hid (HBX10.out.below hb11)
    have HBK11 := Lib.hid (HBK10.out.below hb11)
    have HB11 := Lib.hid (Ints.bel_trans HB10.out HB10.out.size hb11)
    have HXC := Lib.hid (show BookX.KX.C w11 (some ⟨g, 0, none⟩) (b.size + 1) C by
      have hx : BookX.KX.R 47 w11 w.heap.size (fun _ => True) (.slice (some ⟨g, 0, none⟩) (b.size + 1) (b.size + 1)) C := HBX11.out.fv 0 (by simp)
      have := Kd.R_reads' hx
      rw [this.1]
      exact this.2.2)
    have n3 : (((b.size : Int) + 1) != ((b.size : Int) + 1)) = false := by simp
    clear ht hu hb11 hct hcu HBX10 HBK10 HB10
    go_wp2_with (fail)
    go_loopg [69] (b.size + 1) (fun j i wr => ∃ k : Nat, k + j = b.size + 1 ∧ i = .int .i64 k ∧ Hid (∃ q, wr = w11.drewN q))
    case atStart => exact ⟨0, by omega, rfl, 0, rfl⟩
    case round =>
      obtain ⟨k, hk, rfl, HI⟩ := hrel
      obtain ⟨q, rfl⟩ := HI.out
      clear HI
      by_cases hlt : k < b.size + 1
      · have HK := Lib.hid hk
        obtain ⟨d1, hd1, x0⟩ := BookX.costs_at HXC.out k hlt
        injection hd1 with hd1
        subst hd1
        obtain ⟨d2, rfl, x1⟩ := ints_at HCT.out k hlt
        obtain ⟨d3, rfl, x2⟩ := ints_at HCU.out k hlt
        have hv := VV_bound HOK.out (b := b) (by omega) k
        rw [← HC.out, CXs_at l b k (by omega)] at x0
        rw [CT_at l b k (by omega)] at x1
        rw [CB_at l b k (by omega)] at x2
        obtain ⟨⟨T, Bt⟩, hV⟩ : ∃ z, VV l b k = z := ⟨_, rfl⟩
        rw [hV] at x0 x1 x2 hv
        unfold BookX.encX at x0
        simp only at x0 x1 x2 hv
        rw [addr_at2, Nat.zero_add] at x0
        have hbg : big = 9007199254740992 := rfl
        have nT : floatOfInt .f64 (T : Int) = fl T := near_fl T
        have nB : floatOfInt .f64 (Bt : Int) = fl Bt := near_fl Bt
        have e0 : (FloatKind.f64.format.order (fl T) (fl T) == some Ordering.eq) = true := (eq_fl (by omega) (by omega)).trans (decide_eq_true rfl)
        have e1 : (FloatKind.f64.format.order (fl Bt) (fl Bt) == some Ordering.eq) = true := (eq_fl (by omega) (by omega)).trans (decide_eq_true rfl)
        have i0 : (0 : Int) ≤ k := by omega
        have i1 : (k : Int) < (b.size : Int) + 1 := by omega
        have i2 : ((k : Int)).toNat = k := by omega
        clear hV hv hbg hk
        go_wp2_with (fail)
        go_quiet (fail)
        go_wp2_with (fail)
        go_roundg (b.size + 1 - (k + 1))
        case measure => have := HK.out; omega
        case rel => exact ⟨k + 1, by have := HK.out; omega, by go_num, q + nq, rfl⟩
      · have hge : (b.size : Int) + 1 ≤ (k : Int) := by omega
        have HBX := Lib.hid (HBX11.out.below (below_drewN (Below.refl _ _) q))
        have HBKK := Lib.hid (HBK11.out.below (below_drewN (Below.refl _ _) q))
        have HBD := Lib.hid (below_drewN HB11.out q)
        have hnP : ∀ i, i < (([] ++ [P]) ++ [P] : List (List Int)).length → ((([] ++ [P]) ++ [P] : List (List Int)).getD i []).length ≤ 10000 := by
          intro i hi
          have := HPL.out
          obtain rfl | rfl : i = 0 ∨ i = 1 := by simp at hi; omega
          · show P.length ≤ 10000; omega
          · show P.length ≤ 10000; omega
        have hnC : ∀ i, i < (([] ++ [C]) ++ [C] : List (List BookX.CX)).length → ((([] ++ [C]) ++ [C] : List (List BookX.CX)).getD i []).length ≤ 402 := by
          intro i hi
          obtain rfl | rfl : i = 0 ∨ i = 1 := by simp at hi; omega
          · show C.length ≤ 402; omega
          · show C.length ≤ 402; omega
        have hkC : ∀ i, i < (([] ++ [C]) ++ [C] : List (List BookX.CX)).length → ∀ x ∈ (([] ++ [C]) ++ [C] : List (List BookX.CX)).getD i [], BookX.okX x := by
          intro i hi x hx
          have hall := CXs_ok HOK.out (b := b) (by omega)
          rw [HC.out] at hall
          obtain rfl | rfl : i = 0 ∨ i = 1 := by simp at hi; omega
          · exact hall x hx
          · exact hall x hx
        have HNP := Lib.hid hnP
        have HNC := Lib.hid hnC
        have HKC := Lib.hid hkC
        generalize w11.drewN q = wd at *
        clear HBX11 HBK11 HB11 HXC HCT HCU hnP hnC hkC hk hlt n3
        by_cases hwn : 1 ≤ win ∧ win ≤ 1024
        · obtain ⟨wn1, wn2⟩ := hwn
          obtain ⟨W, rfl⟩ := Int.eq_ofNat_of_zero_le (by omega : 0 ≤ win)
          have hPb : best l W b = P := by rw [← HP.out, pw_yes (by omega) (by omega)]
          have htl := best_tiles HOK.out (win := W) (by omega) b.size b (Nat.le_refl _) (by omega)
          rw [hPb] at htl
          have HPB := Lib.hid hPb
          have HTL := Lib.hid htl
          have HSY := Lib.hid (says_of htl.1 htl.2)
          have HRG := Lib.hid (tiles_few HOK.out.1 P htl).2
          clear hPb htl
          go_wp2_with (fail)
          refine (ref_best A c l b W _ (Kd.C_below HL4.out HBD.out) hc HOK.out hb400 (by omega) (by omega)).mono ?_
          rintro e w12 ⟨v12, rfl, hr12, hb12⟩
          rw [HPB.out] at hr12
          obtain ⟨A13, c13, rfl⟩ := Kd.R_slice hr12
          have HC12 := Lib.hid (Kd.R_reads' hr12).2.2
          have HBX12 := Lib.hid (HBX.out.below hb12)
          have HBK12 := Lib.hid (HBKK.out.below hb12)
          have HB12 := Lib.hid (Ints.bel_trans HBD.out HBD.out.size hb12)
          have HPC := Lib.hid (show KI.C w12 A3 P.length P by
            have hx : KI.R 3 w12 w.heap.size (fun _ => True) (.slice A3 P.length c3) P := HBK12.out.fv 0 (by simp)
            exact (Kd.R_reads' hx).2.2)
          clear hr12 hb12 HBX HBKK HBD
          go_wp2_with (fail)
          refine (same_ints _ _ _ _ _ _ P P _ HPC.out HC12.out).mono ?_
          rintro e w13 ⟨rfl, q13, rfl⟩
          rw [decide_eq_true (rfl : P = P)]
          have HBX13 := Lib.hid (HBX12.out.below (below_drewN (Below.refl _ _) q13))
          have HBK13 := Lib.hid (HBK12.out.below (below_drewN (Below.refl _ _) q13))
          have HB13 := Lib.hid (below_drewN HB12.out q13)
          have HPC13 := Lib.hid (Kd.C_drewN HPC.out q13)
          generalize w12.drewN q13 = w13 at *
          clear HBX12 HBK12 HB12 HPC HC12
          go_wp2_with (fail)
          refine (says_any _ _ _ _ _ l P b _ (Kd.C_below HL4.out HB13.out) HOK.out HPC13.out HRG.out (by have := HPL.out; omega) (by omega)).mono ?_
          rintro e w14 ⟨rfl, hb14⟩
          rw [HSY.out]
          have HB14 := Lib.hid (Ints.bel_trans HB13.out HB13.out.size hb14)
          have hsz14 : w4.heap.size ≤ w14.heap.size := HB14.out.size
          have HBX14 := Lib.hid (HBX13.out.below hb14)
          have HBK14 := Lib.hid (HBK13.out.below hb14)
          clear hb14 HBX13 HBK13 HB13 HPC13
          go_wp2_with (fail)
          refine (apart_both _ w.heap.size w4.heap.size 0 _ _ _ _ _ _ _ _ _ _ _ HBK14.out HBX14.out (by simp) HNP.out (by simp) HNC.out HKC.out (by omega)).mono ?_
          rintro e w15 ⟨rfl, hb15⟩
          have HBF := Lib.hid ((Ints.bel_trans HB4.out HB4.out.size HB14.out).trans hb15)
          clear hb15
          go_wp2_with (fail)
          go_ret
          exact ⟨rfl, HBF.out⟩
        · have hp0 : P.length = 0 := by rw [← HP.out, pw_no hwn]; rfl
          have p0 : ((P.length : Int) == 0) = true := by rw [hp0]; rfl
          have hszd : w4.heap.size ≤ wd.heap.size := HBD.out.size
          have hcw : win < 1 ∨ (1 ≤ win ∧ 1024 < win) := by omega
          clear hp0 hwn
          rcases hcw with h | ⟨h', h⟩
          all_goals
            go_wp2_with (fail)
            refine (apart_both _ w.heap.size w4.heap.size 0 _ _ _ _ _ _ _ _ _ _ _ HBKK.out HBX.out (by simp) HNP.out (by simp) HNC.out HKC.out (by omega)).mono ?_
            rintro e w15 ⟨rfl, hb15⟩
            have HBF := Lib.hid ((Ints.bel_trans HB4.out HB4.out.size HBD.out).trans hb15)
            clear hb15
            go_wp2_with (fail)
            go_ret
            exact ⟨rfl, HBF.out⟩
  · go_wp2_with (go_at_call 12; refine (alive_any _).mono ?_; rintro e w5 ⟨rfl, hb5⟩)
    go_ret
    exact ⟨rfl, Ints.bel_trans HB1.out HB1.out.size hb5⟩
end Go.Proofs.Ytfiflloieojgbaa.Best
