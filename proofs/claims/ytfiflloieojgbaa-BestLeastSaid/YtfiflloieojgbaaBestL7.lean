/- Chapter 15: no tokens that mean the same bytes cost less: not greedy's, not flex's, not any that are drawn; within each window: what greedy's and flex's tokens mean, pieces joined, and the walk. -/
import Derived.Test.YtfiflloieojgbaaBestL3
import Derived.Test.YtfiflloieojgbaaBestL6
import Derived.Test.YtfiflloieojgbaaFlexNext
namespace Go.Proofs.Ytfiflloieojgbaa.Greedy
set_option linter.unusedVariables false
set_option linter.unusedSimpArgs false
open Go.RowKit Go.Proofs.YtfiflloieojgbaaW.PrintWords Go.Proofs.YtfiflloieojgbaaW.PrintMore Go.Proofs.Ytfiflloieojgbaa.L Go.Proofs.Ytfiflloieojgbaa.Texts Go.Proofs.Ytfiflloieojgbaa.Dict Go.Proofs.Ytfiflloieojgbaa.Ints Go.Proofs.Ytfiflloieojgbaa.Say

theorem means_token (l : List ByteArray) (b : ByteArray) (a n : Nat) (ha : a < b.size) (h : has (piece b a n) l = true ∨ n = 1) : means l (tokenOf l b a n) = piece b a n := by
  unfold tokenOf
  by_cases hh : has (piece b a n) l = true
  · have hi := (idx_mem _ _).2 ((has_iff _ _).1 hh)
    rw [if_pos hh, means_phrase l _ hi, idx_get _ _ hi]
  · have hn : n = 1 := h.resolve_left hh
    subst hn
    have h1 := byteAt_lt b a
    rw [if_neg hh, piece_one b a ha]
    have := means_byte l (byteAt b a).toNat (by omega)
    rw [show (((byteAt b a).toNat : Nat) : Int) = byteAt b a by omega] at this
    exact this
theorem first_has (l : List ByteArray) (b : ByteArray) (a : Nat) : has (piece b a (firstLen l b a)) l = true ∨ firstLen l b a = 1 := by
  by_cases h : longest l b a = 0
  · right
    unfold firstLen
    rw [if_pos h]
  · left
    obtain ⟨h1, h2, _⟩ := token_phrase l b a h
    rw [h1]
    exact h2
theorem means_first (l : List ByteArray) (b : ByteArray) (a : Nat) (ha : a < b.size) : means l (tokenOf l b a (firstLen l b a)) = piece b a (firstLen l b a) := means_token l b a _ ha (first_has l b a)
theorem piece_join (b : ByteArray) (a n m : Nat) (h : a + n + m ≤ b.size) : piece b a n ++ piece b (a + n) m = piece b a (n + m) := by
  unfold piece
  apply ByteArray.ext
  rw [ByteArray.data_append, ByteArray.data_extract, ByteArray.data_extract, ByteArray.data_extract, Array.extract_append_extract, Nat.min_eq_left (by omega), Nat.max_eq_right (by omega), Nat.add_assoc]
theorem from_means (l : List ByteArray) (hok : okTexts l) (b : ByteArray) : ∀ n a, a + n = b.size → allTok l (from_ l b a) ∧ allMean l (from_ l b a) = piece b a n := by
  intro n
  induction n using Nat.strongRecOn with
  | _ n ih =>
    intro a h
    by_cases ha : a < b.size
    · have h1 := firstLen_pos l b a
      have h2 := firstLen_fits l b a ha
      obtain ⟨i1, i2⟩ := ih (n - firstLen l b a) (by omega) (a + firstLen l b a) (by omega)
      rw [from_step l b a ha]
      constructor
      · intro t ht
        rcases List.mem_cons.1 ht with rfl | ht
        · rw [means_first l b a ha, piece_size b a _ h2]
          omega
        · exact i1 t ht
      · show means l (tokenOf l b a (firstLen l b a)) ++ allMean l (from_ l b (a + firstLen l b a)) = _
        rw [i2, means_first l b a ha, piece_join b a _ _ (by omega), show firstLen l b a + (n - firstLen l b a) = n by omega]
    · obtain rfl : n = 0 := by omega
      rw [from_end l b a (by omega)]
      refine ⟨fun t ht => by simp at ht, ?_⟩
      exact (empty_of (piece_size b a 0 (by omega))).symm
end Go.Proofs.Ytfiflloieojgbaa.Greedy
namespace Go.Proofs.Ytfiflloieojgbaa.Flex
set_option linter.unusedVariables false
set_option linter.unusedSimpArgs false
open Go.RowKit Go.Proofs.YtfiflloieojgbaaW.PrintWords Go.Proofs.YtfiflloieojgbaaW.PrintMore Go.Proofs.Ytfiflloieojgbaa.L Go.Proofs.Ytfiflloieojgbaa.Texts Go.Proofs.Ytfiflloieojgbaa.Dict Go.Proofs.Ytfiflloieojgbaa.Ints Go.Proofs.Ytfiflloieojgbaa.Greedy Go.Proofs.Ytfiflloieojgbaa.Say

theorem fromF_means (l : List ByteArray) (hok : okTexts l) (b : ByteArray) : ∀ n a, a + n = b.size → allTok l (fromF l b a) ∧ allMean l (fromF l b a) = piece b a n := by
  intro n
  induction n using Nat.strongRecOn with
  | _ n ih =>
    intro a h
    by_cases ha : a < b.size
    · have h1 := best_pos l b a ha
      have h2 := best_fits l b a ha
      obtain ⟨i1, i2⟩ := ih (n - bestLen l b a) (by omega) (a + bestLen l b a) (by omega)
      rw [fromF_step l b a ha]
      constructor
      · intro t ht
        rcases List.mem_cons.1 ht with rfl | ht
        · rw [means_token l b a _ ha (best_has l b a ha), piece_size b a _ h2]
          omega
        · exact i1 t ht
      · show means l (tokenOf l b a (bestLen l b a)) ++ allMean l (fromF l b (a + bestLen l b a)) = _
        rw [i2, means_token l b a _ ha (best_has l b a ha), piece_join b a _ _ (by omega), show bestLen l b a + (n - bestLen l b a) = n by omega]
    · obtain rfl : n = 0 := by omega
      rw [fromF_end l b a (by omega)]
      refine ⟨fun t ht => by simp at ht, ?_⟩
      exact (empty_of (piece_size b a 0 (by omega))).symm
end Go.Proofs.Ytfiflloieojgbaa.Flex
namespace Go.Proofs.Ytfiflloieojgbaa.Best
set_option linter.unusedVariables false
set_option linter.unusedSimpArgs false
open Go.RowKit Go.Proofs.YtfiflloieojgbaaW.PrintWords Go.Proofs.YtfiflloieojgbaaW.PrintMore Go.Proofs.Ytfiflloieojgbaa.L Go.Proofs.Ytfiflloieojgbaa.Texts Go.Proofs.Ytfiflloieojgbaa.Dict Go.Proofs.Ytfiflloieojgbaa.Ints Go.Proofs.Ytfiflloieojgbaa.Greedy Go.Proofs.Ytfiflloieojgbaa.Cost Go.Proofs.Ytfiflloieojgbaa.Fl Go.Proofs.Ytfiflloieojgbaa.Say

/-- One window more. -/
theorem best_from (l : List ByteArray) (win : Nat) (hw : 1 ≤ win) (b : ByteArray) (a : Nat) (ha : a < b.size) : best l win (b.extract a b.size) = toks l (b.extract a (min (a + win) b.size)) 0 ++ best l win (b.extract (min (a + win) b.size) b.size) := by
  have hs : (b.extract a b.size).size = b.size - a := by rw [ByteArray.size_extract]; omega
  rw [best_step l win hw _ (by omega), hs, ByteArray.extract_extract, ByteArray.extract_extract, Nat.add_zero, show min (a + min win (b.size - a)) b.size = min (a + win) b.size by omega, show a + min win (b.size - a) = min (a + win) b.size by omega, show min (a + (b.size - a)) b.size = b.size by omega]
theorem best_from_end (l : List ByteArray) (win : Nat) (b : ByteArray) (a : Nat) (ha : b.size ≤ a) : best l win (b.extract a b.size) = [] := best_end _ _ _ (by rw [ByteArray.size_extract]; omega)
/-- A step that may be taken goes on with what is tiled. -/
theorem tiles_snoc {l : List ByteArray} (hok : okTexts l) {s : ByteArray} {a : Nat} (ha : a < s.size) {ts : List Int} (h : Tiles l (s.extract 0 a) ts) {x : Stp} (hx : x ∈ steps l s a) : Tiles l (s.extract 0 (a + x.2)) (ts ++ [x.1]) := by
  obtain ⟨h1, h2, h3, h4⟩ := step_means hok ha hx
  have h5 : Tiles l (s.extract a (a + x.2)) [x.1] := by
    refine ⟨fun t ht => ?_, ?_⟩
    · rw [List.mem_singleton] at ht
      subst ht
      omega
    · show means l x.1 ++ no = _
      rw [← h1]
      apply ByteArray.ext
      rw [ByteArray.data_append]
      show _ ++ #[] = _
      simp
  have := tiles_append h h5
  rwa [join_ext s 0 a _ (Nat.zero_le _) (by omega)] at this
theorem tiles_byte {l : List ByteArray} (hok : okTexts l) {s : ByteArray} {a : Nat} (ha : a < s.size) {ts : List Int} (h : Tiles l (s.extract 0 a) ts) : Tiles l (s.extract 0 (a + 1)) (ts ++ [byteAt s a]) :=
  tiles_snoc hok ha h (x := (byteAt s a, 1)) (List.mem_append_right _ List.mem_cons_self)
theorem tiles_pick {l : List ByteArray} (hok : okTexts l) {s : ByteArray} {a m : Nat} (h1 : 1 ≤ m) (h2 : a + m ≤ s.size) (h3 : has (piece s a m) l = true) {ts : List Int} (h : Tiles l (s.extract 0 a) ts) : Tiles l (s.extract 0 (a + m)) (ts ++ [tokenOf l s a m]) :=
  tiles_snoc hok (by omega) h (pick_step h1 h2 h3)
theorem tiles_zero (l : List ByteArray) (s : ByteArray) : Tiles l (s.extract 0 0) [] :=
  ⟨fun t ht => by simp at ht, (empty_of (by rw [ByteArray.size_extract]; omega)).symm⟩
end Go.Proofs.Ytfiflloieojgbaa.Best
namespace Go.Proofs.Ytfiflloieojgbaa.Best
set_option linter.unusedVariables false
set_option linter.unusedSimpArgs false
open Go.RowKit Go.Proofs.YtfiflloieojgbaaW.PrintWords Go.Proofs.YtfiflloieojgbaaW.PrintMore Go.Proofs.Ytfiflloieojgbaa.L Go.Proofs.Ytfiflloieojgbaa.Texts Go.Proofs.Ytfiflloieojgbaa.Dict Go.Proofs.Ytfiflloieojgbaa.Ints Go.Proofs.Ytfiflloieojgbaa.Greedy Go.Proofs.Ytfiflloieojgbaa.Cost Go.Proofs.Ytfiflloieojgbaa.Fl Go.Proofs.Ytfiflloieojgbaa.Say

theorem tiles_greedy {l : List ByteArray} (hok : okTexts l) (s : ByteArray) : Tiles l s (Greedy.parse l s) := by
  have h := Greedy.from_means l hok s s.size 0 (by omega)
  have e : Greedy.parse l s = from_ l s 0 := by unfold Greedy.parse from_; rw [Nat.sub_zero]
  rw [e]
  exact ⟨h.1, by rw [h.2, piece_all]⟩
theorem tiles_flex {l : List ByteArray} (hok : okTexts l) (s : ByteArray) : Tiles l s (Flex.parseF l s) := by
  have h := Flex.fromF_means l hok s s.size 0 (by omega)
  have h2 := h.2
  rw [piece_all] at h2
  exact ⟨h.1, h2⟩
theorem csum_eta (ts : List Int) : csum ts = (sumT ts, sumB ts) := rfl
set_option maxRecDepth 100000 in
set_option maxHeartbeats 8000000 in
theorem BestLeast_walk (A : Option Addr) (l : List ByteArray) (c : Nat) (b : ByteArray) (win : Int) (B : Option Addr) (ps : List Int) (c' : Nat) (w : World)
    (hl : KS.C w A l.length l) (hc : l.length ≤ c) (h16 : l.length * 16 ≤ 140737488351232) (hs : ∀ s ∈ l, s.size ≤ 140737488351232) (hbs : b.size ≤ 140737488351232) (hwin : (Lit.int .i64 win).wf = true)
    (hp : KI.C w B ps.length ps) (hc' : ps.length ≤ c') (h8 : ps.length * 8 ≤ 140737488351232) (hwf : ∀ x ∈ ps, (Lit.int .i64 x).wf = true) :
    Calls Try.prog 10 #[.slice A l.length c, .string b, .int .i64 win, .slice B ps.length c'] w fun e w' => e = .returned (.bool true) ∧ Below w.heap.size w w' := by
  have HL := Lib.hid hl
  have HP := Lib.hid hp
  clear hp hwf hwin hc'
  go_enter Try.func10, Try.ntmps10
  go_wp2_with (fail)
  refine (dict_any _ _ _ l _ _ hl hs).mono ?_
  clear hl hs
  rintro e w1 ⟨hb1, hcase⟩
  have HB1 := Lib.hid hb1
  have HL1 := Lib.hid (Kd.C_below HL.out hb1)
  have HP1 := Lib.hid (Kd.C_below HP.out hb1)
  clear hb1 HL HP
  rcases dict_has hcase with ⟨dk, rfl, HD, HOK, hb400⟩ | rfl
  · clear hcase hbs
    have hbi : (b.size : Int) ≤ 400 := by omega
    by_cases hwn : 1 ≤ win ∧ win ≤ 1024
    · obtain ⟨wn1, wn2⟩ := hwn
      obtain ⟨W, rfl⟩ := Int.eq_ofNat_of_zero_le (by omega : 0 ≤ win)
      have W1 : 1 ≤ W := by omega
      have W2 : W ≤ 1024 := by omega
      go_wp2_with (fail)
      refine (alive_any _).mono ?_
      rintro e w2 ⟨rfl, hb2⟩
      have HB2 := Lib.hid (Ints.bel_trans HB1.out HB1.out.size hb2)
      have HD2 := Lib.hid (HD.out.below hb2)
      have HL2 := Lib.hid (Kd.C_below HL1.out hb2)
      have HP2 := Lib.hid (Kd.C_below HP1.out hb2)
      clear hb2 HB1 HD HL1 HP1
      go_wp2_with (fail)
      refine (parse_any _ l b W _ HD2.out HOK.out (by omega) W1 W2).mono ?_
      rintro e w3 ⟨va, rfl, hra, hb3⟩
      obtain ⟨A3, c3, rfl⟩ := Kd.R_slice hra
      have HA3 := Lib.hid (Kd.R_reads' hra).2.2
      have HB3 := Lib.hid (Ints.bel_trans HB2.out HB2.out.size hb3)
      have HD3 := Lib.hid (HD2.out.below hb3)
      have HL3 := Lib.hid (Kd.C_below HL2.out hb3)
      have HP3 := Lib.hid (Kd.C_below HP2.out hb3)
      clear hra hb3 HB2 HD2 HL2 HP2
      go_wp2_with (fail)
      go_loopg [12, 13] b.size (fun j v i wr => ∃ (a : Nat) (xs : List Int), i = .int .i64 a ∧ Hid (b.size ≤ a + j ∧ xs.length ≤ a ∧ best l W b = xs ++ best l W (b.extract a b.size) ∧ KI.R 3 wr w3.heap.size (fun _ => True) v xs ∧ Below w3.heap.size w3 wr))
      case atStart => exact ⟨0, [], rfl, by omega, Nat.le_refl _, by rw [ext_all b b.size (Nat.le_refl _), List.nil_append], Kd.R_nil _ _ _ _ _, Below.refl _ _⟩
      case round =>
        obtain ⟨a, xs, rfl, HI⟩ := hrel
        by_cases hlt : a < b.size
        · obtain ⟨wo, rfl⟩ : ∃ x : World, x = wr := ⟨_, rfl⟩
          obtain ⟨hj, hxa, hgo, hr, hbw⟩ := HI.out
          have hst := best_from l W W1 b a hlt
          obtain ⟨E, hE⟩ : ∃ E, min (a + W) b.size = E := ⟨_, rfl⟩
          rw [hE] at hst
          have hEi : min ((a : Int) + (W : Int)) (b.size : Int) = (E : Int) := by omega
          have aE : a < E := by omega
          have Eb : E ≤ b.size := by omega
          have eE : b.extract E b.size = b.extract (a + W) b.size := by
            by_cases h : a + W ≤ b.size
            · rw [show E = a + W by omega]
            · rw [empty_of (s := b.extract E b.size) (by rw [ByteArray.size_extract]; omega), empty_of (s := b.extract (a + W) b.size) (by rw [ByteArray.size_extract]; omega)]
          rw [eE] at hst
          obtain ⟨s, hs⟩ : ∃ s, b.extract a E = s := ⟨_, rfl⟩
          have hss : s.size = E - a := by rw [← hs, ByteArray.size_extract]; omega
          rw [hs] at hst
          rw [hst] at hgo
          obtain ⟨p, hp⟩ : ∃ p, toks l s 0 = p := ⟨_, rfl⟩
          have htt := toks_tiles HOK.out (s := s) (by omega)
          rw [hp] at hgo htt
          have hpf := tiles_few HOK.out.1 p htt.1
          have hbo := best_one (l := l) (win := s.size) (b := s) (by omega) (Nat.le_refl _)
          rw [hp] at hbo
          have HGO := Lib.hid hgo
          have HTT := Lib.hid htt
          have HPF := Lib.hid hpf.2
          have HBO := Lib.hid hbo
          have HJ := Lib.hid hj
          have HXA := Lib.hid hxa
          obtain ⟨A4, c4, rfl⟩ := Kd.R_slice hr
          have HR := Lib.hid hr
          have HBW := Lib.hid hbw
          have HTL := Lib.hid (fun (ts : List Int) (h : Tiles l s ts) => by have := toks_least HOK.out (s := s) (by omega) h; rw [hp] at this; exact this)
          have i0 : (0 : Int) ≤ (a : Int) := by omega
          have i1 : (a : Int) < (b.size : Int) := by omega
          have i2 : ((a : Int)).toNat = a := by omega
          have j0 : (0 : Int) ≤ (E : Int) := by omega
          have j1 : (E : Int) ≤ (b.size : Int) := by omega
          have j2 : ((E : Int)).toNat = E := by omega
          have j3 : (a : Int) ≤ (E : Int) := by omega
          have pl : p.length ≤ 400 := by have := hpf.1; omega
          have pW : p.length ≤ W := by have := hpf.1; omega
          have xl : xs.length ≤ 400 := by omega
          have sl1 : 1 ≤ s.size := by omega
          have sl2 : s.size ≤ 400 := by omega
          have sl3 : (s.size : Int) ≤ 400 := by omega
          clear hj hxa hgo hr hbw HI hst hE eE hp htt hpf hbo hss
          go_wp2_with (fail)
          refine (parse_any _ l s s.size _ (HD3.out.below HBW.out) HOK.out (by omega) (by omega) (by omega)).mono ?_
          rintro e w4 ⟨vp, rfl, hrp, hb4⟩
          rw [HBO.out] at hrp
          obtain ⟨A5, c5, rfl⟩ := Kd.R_slice hrp
          have HB4 := Lib.hid (Ints.bel_trans HBW.out HBW.out.size hb4)
          have HR4 := Lib.hid (Kd.R_below HR.out hb4)
          have HNE := Lib.hid (show ∀ q, Value.ownBlock (.slice A5 p.length c5) = some q → some q ≠ Value.ownBlock (.slice A4 xs.length c4) from fun q hq he => by
            have h1 := own_lt HR.out q he.symm
            have h2 := own_base (Kd.own_of_R hrp) q hq
            omega)
          have HRP := Lib.hid hrp
          clear hrp hb4 HR HBW HBO
          go_wp2_with (((with_reducible refine gate_builtin (b := .append) (xs := #[.tmp 73, .tmp 74]) rfl ?_); at_builtin; apply stopper))
          unfold Stopper
          refine Kd.R_append_row (Value.int .i64) 0 (h1 := fun _ => rfl) (w0 := w3) w3.heap.size rfl (.tmp 73) (.tmp 74) 27 3 (.int .i64 0) 8 rfl Try.underlying27 infoInt rfl (by decide) (.slice A4 xs.length c4) xs p A5 p.length c5 (fun _ => True) rfl rfl (fun _ _ => trivial) HR4.out (Kd.R_reads' HRP.out).2.2 HB4.out HB4.out.size (by omega) ?_
          intro v5 w5 ho hb5 hg5 hat5
          have HR5 := Lib.hid ho
          have HB5 := Lib.hid hb5
          have HC5 := Lib.hid (Kd.R_reads' (own_move' HRP.out (w1 := w5) (fun q hq => hg5.block q (own_lt HRP.out q hq) (HNE.out q hq)))).2.2
          have HL5 := Lib.hid (Kd.C_below HL3.out hb5)
          have HD5 := Lib.hid (HD3.out.below hb5)
          have HP5 := Lib.hid (Kd.C_below HP3.out hb5)
          clear ho hb5 hg5 hat5 HR4 HB4 HRP HNE
          go_wp2_with (fail)
          go_loopg [16, 17, 18] s.size (fun j v i q wr => ∃ (x y : Nat) (ys : List Int), i = .int .i64 x ∧ q = .int .i64 y ∧ Hid (x + j = s.size ∧ y ≤ x ∧ Tiles l (s.extract 0 x) ys ∧ KI.R 3 wr w5.heap.size (fun _ => True) v ys ∧ Below w5.heap.size w5 wr))
          case atStart => exact ⟨0, 0, [], rfl, rfl, by omega, Nat.le_refl _, tiles_zero l s, Kd.R_nil _ _ _ _ _, Below.refl _ _⟩
          case round =>
            obtain ⟨x, y, ys, rfl, rfl, HX⟩ := hrel
            obtain ⟨hxj, hyx, hti, hry, hby⟩ := HX.out
            by_cases hxs : x < s.size
            · have HTI := Lib.hid hti
              have hyl := (tiles_few HOK.out.1 ys hti).1
              have HXJ := Lib.hid hxj
              have HYX := Lib.hid hyx
              obtain ⟨A6, c6, rfl⟩ := Kd.R_slice hry
              have HRY := Lib.hid hry
              have HBY := Lib.hid hby
              rw [ByteArray.size_extract] at hyl
              have yl : ys.length ≤ 400 := by omega
              have x0 : (0 : Int) ≤ (x : Int) := by omega
              have x1 : (x : Int) < (s.size : Int) := by omega
              have x2 : ((x : Int)).toNat = x := by omega
              have xi : (x : Int) ≤ 400 := by omega
              have y0 : (0 : Int) ≤ (y : Int) := by omega
              have y2 : ((y : Int)).toNat = y := by omega
              have yi : (y : Int) ≤ 400 := by omega
              clear hti hry hby HX hxj hyl hyx
              go_wp2_with (fail)
              refine (ref_stands _ _ l s x _ (Kd.C_below HL5.out HBY.out) (by omega) (by omega)).mono ?_
              rintro e w6 ⟨v6, rfl, hr6, hb6⟩
              obtain ⟨A7, c7, rfl⟩ := Kd.R_slice hr6
              have HC6 := Lib.hid (Kd.R_reads' hr6).2.2
              have HNE6 := Lib.hid (show ∀ q, Value.ownBlock (.slice A7 (stands_ l s x).length c7) = some q → some q ≠ Value.ownBlock (.slice A6 ys.length c6) from fun q hq he => by
                have h1 := own_lt HRY.out q he.symm
                have h2 := own_base (Kd.own_of_R hr6) q hq
                omega)
              have HRN := Lib.hid hr6
              obtain ⟨S, hS⟩ : ∃ S, (stands_ l s x).length = S := ⟨_, rfl⟩
              have hS40 : S ≤ 40 := by
                have := standsDown_len l s x (min 40 (s.size - x))
                have h2 : (stands_ l s x).length = (standsDown l s x (min 40 (s.size - x))).length := rfl
                omega
              rw [hS] at HC6 HRN HNE6 ⊢
              have HS := Lib.hid hS
              have hSi : (S : Int) ≤ 40 := by omega
              have HB6 := Lib.hid (Ints.bel_trans HBY.out HBY.out.size hb6)
              have HR6 := Lib.hid (Kd.R_below HRY.out hb6)
              clear hr6 hb6 hS HRY HBY
              go_upto_if 91 with (fail)
              go_cut [20] (fun kv wc => wc = w6 ∧ ∃ K : Nat, kv = .int .i64 K ∧ K ≤ S)
              case first =>
                by_cases hyp : y < ps.length
                · obtain ⟨ad, rfl, z0⟩ := ints_at (Kd.C_below HP5.out HB6.out) y hyp
                  obtain ⟨z, hz⟩ : ∃ z, ps.getD y 0 = z := ⟨_, rfl⟩
                  rw [hz] at z0
                  obtain ⟨N, hN, hNl⟩ := turn_at z S (by omega)
                  have y1 : (y : Int) < (ps.length : Int) := by omega
                  have sne : (S : Int) + 1 ≠ 0 := by omega
                  clear hz
                  go_wp2_with (fail)
                  go_meet
                  case rel => exact ⟨rfl, N, rfl, hNl⟩
                · have y1 : (ps.length : Int) ≤ (y : Int) := by omega
                  go_wp2_with (fail)
                  go_meet
                  case rel => exact ⟨rfl, S, rfl, Nat.le_refl _⟩
              case rest =>
                obtain ⟨rfl, K, rfl, hKS⟩ := hcut
                have k0 : (0 : Int) ≤ (K : Int) := by omega
                have k2 : ((K : Int)).toNat = K := by omega
                by_cases hK : K = S
                · subst hK
                  have hz := bt_byteAt s x hxs
                  have hti2 := tiles_byte HOK.out hxs HTI.out
                  have hby := byteAt_lt s x
                  have hww : wrap64 (byteAt s x) = byteAt s x := by unfold wrap64; omega
                  have hwk := wrap_byte s x hxs
                  have HT2 := Lib.hid hti2
                  have e1 : ((K : Int) == (K : Int)) = true := by simp
                  clear hti2
                  go_wp2_with (((with_reducible refine gate_builtin (b := .append) (xs := #[.tmp 112, .tmp 117]) rfl ?_); at_builtin; apply stopper))
                  unfold Stopper
                  refine Kd.R_append KI (w0 := w5) w5.heap.size rfl (.tmp 112) (.tmp 117) 27 3 (.int .i64 0) 8 rfl Try.underlying27 infoInt rfl (by decide) (by omega) (.slice A6 ys.length c6) ys (byteAt s x) [.int .i64 (byteAt s x)] (fun _ => True) (fun _ => False) rfl rfl rfl (fun _ hk => hk.elim) (fun _ _ => trivial) HR6.out HB6.out HB6.out.size (by omega) ?_
                  intro v8 w8 ho8 hb8 hg8 hat8
                  have HR8 := Lib.hid ho8
                  have HB8 := Lib.hid hb8
                  clear ho8 hb8 hg8 hat8 HR6 HB6 HC6 HRN HNE6
                  go_wp2_with (fail)
                  go_roundg (s.size - (x + 1))
                  case measure => have := HXJ.out; omega
                  case rel => exact ⟨x + 1, y + 1, _, by go_num, by go_num, by have := HXJ.out; omega, by have := HYX.out; omega, HT2.out, HR8.out, HB8.out⟩
                · have hK2 : K < S := by omega
                  have kS : (K : Int) < (S : Int) := by omega
                  have e1 : ((K : Int) == (S : Int)) = false := by simpa using (show ¬ (K : Int) = (S : Int) by omega)
                  obtain ⟨m, hm, m1, m40, mb, mh⟩ := stands_mem l s x K (by have := HS.out; omega)
                  obtain ⟨ad, rfl, z1⟩ := ints_at HC6.out K hK2
                  rw [hm] at z1
                  have hti2 := tiles_pick HOK.out m1 (by omega) mh HTI.out
                  obtain ⟨Tk, hT⟩ : ∃ t, tokenOf l s x m = t := ⟨_, rfl⟩
                  rw [hT] at hti2
                  have HT2 := Lib.hid hti2
                  have HTK := Lib.hid (show ∀ W : World, KS.C W A l.length l → Calls Try.prog 25 #[.slice A l.length c, .string s, .int .i64 x, .int .i64 m] W fun e w' => e = .returned (.int .i64 Tk) ∧ ∃ q, w' = W.drewN q from fun W h => by
                    have := ref_token A c l s x m W h HOK.out.1 hxs (by omega) (by omega)
                    rw [hT] at this
                    exact this)
                  have mi : (m : Int) ≤ 40 := by omega
                  have HM := Lib.hid hm
                  have HXM := Lib.hid (show x + m ≤ s.size by omega)
                  have SM := Lib.hid (show ((x + m : Nat) : Int) = (x : Int) + (m : Int) by omega)
                  clear hm mh hti2 hT
                  go_wp2_with (fail)
                  refine (HTK.out _ (Kd.C_below HL5.out HB6.out)).mono ?_
                  rintro e w7 ⟨rfl, q7, rfl⟩
                  have HR7 := Lib.hid (Kd.R_drewN HR6.out q7)
                  have HB7 := Lib.hid (below_drewN HB6.out q7)
                  have HRN7 := Lib.hid (Kd.R_drewN HRN.out q7)
                  clear HR6 HB6 HRN HC6 z1
                  generalize wc.drewN q7 = w7 at *
                  go_wp2_with (((with_reducible refine gate_builtin (b := .append) (xs := #[.tmp 121, .tmp 130]) rfl ?_); at_builtin; apply stopper))
                  unfold Stopper
                  refine Kd.R_append KI (w0 := w5) w5.heap.size rfl (.tmp 121) (.tmp 130) 27 3 (.int .i64 0) 8 rfl Try.underlying27 infoInt rfl (by decide) (by omega) (.slice A6 ys.length c6) ys Tk [.int .i64 Tk] (fun _ => True) (fun _ => False) rfl rfl rfl (fun _ hk => hk.elim) (fun _ _ => trivial) HR7.out HB7.out HB7.out.size (by omega) ?_
                  intro v8 w8 ho8 hb8 hg8 hat8
                  have hc8 := (Kd.R_reads' (own_move' HRN7.out (w1 := w8) (fun q hq => hg8.block q (own_lt HRN7.out q hq) (HNE6.out q hq)))).2.2
                  obtain ⟨ad', hA', z2⟩ := ints_at hc8 K (by have := HS.out; omega)
                  injection hA' with hA'
                  subst hA'
                  rw [HM.out] at z2
                  have HR8 := Lib.hid ho8
                  have HB8 := Lib.hid hb8
                  clear ho8 hb8 hg8 hat8 HR7 HB7 hc8 HRN7 HNE6
                  go_wp2_with (fail)
                  go_roundg (s.size - (x + m))
                  case measure => have := HXJ.out; omega
                  case rel => exact ⟨x + m, y + 1, _, by rw [SM.out], by go_num, by have := HXJ.out; have := HXM.out; omega, by have := HYX.out; omega, HT2.out, HR8.out, HB8.out⟩
            · obtain rfl : x = s.size := by omega
              rw [ext_all s s.size (Nat.le_refl _)] at hti
              have hyf := tiles_few HOK.out.1 ys hti
              obtain ⟨A6, c6, rfl⟩ := Kd.R_slice hry
              have HC6 := Lib.hid (Kd.R_reads' hry).2.2
              have HB6 := Lib.hid hby
              have HTI := Lib.hid hti
              have yl : ys.length ≤ 400 := by omega
              have s1 := sumT_le p
              have s2 := sumB_le p
              clear hti hry hby HX hxj hyx hyf
              go_wp2_with (fail)
              refine (sum_any _ _ p _ (Kd.C_below HC5.out HB6.out) (by omega)).mono ?_
              rintro e w7 ⟨rfl, hb7⟩
              have HB7 := Lib.hid (Ints.bel_trans HB6.out HB6.out.size hb7)
              have HC7 := Lib.hid (Kd.C_below HC6.out hb7)
              have hcs := HTT.out.2
              obtain ⟨T, hT⟩ : ∃ T, sumT p = T := ⟨_, rfl⟩
              obtain ⟨C, hC⟩ : ∃ C, sumB p = C := ⟨_, rfl⟩
              unfold csum at hcs
              rw [hT] at s1
              rw [hC] at s2
              rw [hT, hC] at hcs ⊢
              have HT := Lib.hid hT
              have HC := Lib.hid hC
              have HCS := Lib.hid hcs
              have Tb : T < big := by have : big = 9007199254740992 := rfl; omega
              have Cb : C < big := by have : big = 9007199254740992 := rfl; omega
              unfold cx
              clear hb7 HB6 HC6 hT hC hcs s1 s2
              go_wp2_with (fail)
              refine (Greedy.parse_any _ l s _ (HD5.out.below HB7.out) HOK.out (by omega)).mono ?_
              rintro e w8 ⟨vg, rfl, hrg, hb8⟩
              have HTG := Lib.hid (tiles_greedy HOK.out s)
              obtain ⟨gl, hgl⟩ : ∃ gl, Greedy.parse l s = gl := ⟨_, rfl⟩
              rw [hgl] at hrg HTG
              obtain ⟨A8, c8, rfl⟩ := Kd.R_slice hrg
              have HG8 := Lib.hid (Kd.R_reads' hrg).2.2
              have HB8 := Lib.hid (Ints.bel_trans HB7.out HB7.out.size hb8)
              have HC8 := Lib.hid (Kd.C_below HC7.out hb8)
              clear hrg hb8 HB7 HC7 hgl
              go_wp2_with (fail)
              refine (Flex.parseF_any _ l s _ (HD5.out.below HB8.out) HOK.out (by omega)).mono ?_
              rintro e w9 ⟨vf, rfl, hrf, hb9⟩
              have HTF := Lib.hid (tiles_flex HOK.out s)
              obtain ⟨fl', hfl⟩ : ∃ fl', Flex.parseF l s = fl' := ⟨_, rfl⟩
              rw [hfl] at hrf HTF
              obtain ⟨A9, c9, rfl⟩ := Kd.R_slice hrf
              have HF9 := Lib.hid (Kd.R_reads' hrf).2.2
              have HB9 := Lib.hid (Ints.bel_trans HB8.out HB8.out.size hb9)
              have HC9 := Lib.hid (Kd.C_below HC8.out hb9)
              have HG9 := Lib.hid (Kd.C_below HG8.out hb9)
              clear hrf hb9 HB8 HC8 HG8 hfl
              have HO3 := Lib.hid (show ∀ k, k < 3 → ∃ (A : Option Addr) (ts : List Int) (c : Nat), (w9.alloc (.cells #[.slice A6 ys.length c6, .slice A8 gl.length c8, .slice A9 fl'.length c9] 27 (0, 0))).cell? ⟨w9.heap.size, k, none⟩ = some (.slice A ts.length c) ∧ KI.C (w9.alloc (.cells #[.slice A6 ys.length c6, .slice A8 gl.length c8, .slice A9 fl'.length c9] 27 (0, 0))) A ts.length ts ∧ Tiles l s ts by
                have h3 := three_cells (heap_alloc_self w9 (.cells #[.slice A6 ys.length c6, .slice A8 gl.length c8, .slice A9 fl'.length c9] 27 (0, 0)))
                intro k hk
                obtain rfl | rfl | rfl : k = 0 ∨ k = 1 ∨ k = 2 := by omega
                · exact ⟨A6, ys, c6, h3.1, Kd.C_alloc HC9.out _, HTI.out⟩
                · exact ⟨A8, gl, c8, h3.2.1, Kd.C_alloc HG9.out _, HTG.out⟩
                · exact ⟨A9, fl', c9, h3.2.2.1, Kd.C_alloc HF9.out _, HTF.out⟩)
              have HB10 := Lib.hid (HB9.out.alloc HB9.out.size (.cells #[.slice A6 ys.length c6, .slice A8 gl.length c8, .slice A9 fl'.length c9] 27 (0, 0)))
              have HHS := Lib.hid (show w9.heap.size < (w9.alloc (.cells #[.slice A6 ys.length c6, .slice A8 gl.length c8, .slice A9 fl'.length c9] 27 (0, 0))).heap.size by simp)
              clear HTI HTG HTF HC9 HG9 HF9
              go_wp2_with (fail)
              generalize (w9.alloc (.cells #[.slice A6 ys.length c6, .slice A8 gl.length c8, .slice A9 fl'.length c9] 27 (0, 0))) = w10 at *
              obtain ⟨B9, hB9⟩ : ∃ x, w9.heap.size = x := ⟨_, rfl⟩
              rw [hB9] at HO3 HHS ⊢
              clear hB9 HB9
              go_loopg [149] 3 (fun j i wr => ∃ k : Nat, k + j = 3 ∧ i = .int .i64 k ∧ Hid (Below w10.heap.size w10 wr))
              case atStart => exact ⟨0, by omega, rfl, Below.refl _ _⟩
              case round =>
                obtain ⟨k, hk, rfl, HK⟩ := hrel
                by_cases hk3 : k < 3
                · obtain ⟨Ak, tk, ck, hcell, hck, htk⟩ := HO3.out k hk3
                  have x0 := (HK.out.cell (p := ⟨B9, k, none⟩) HHS.out).trans hcell
                  have HCK := Lib.hid (Kd.C_below hck HK.out)
                  have HBK := Lib.hid (Ints.bel_trans HB10.out HB10.out.size HK.out)
                  have hle := HTL.out tk htk
                  have htf := tiles_few HOK.out.1 tk htk
                  have tl : tk.length ≤ 400 := by omega
                  have pt : (p.length : Int) ≤ (tk.length : Int) := by omega
                  have HSY := Lib.hid (says_of htk.1 htk.2)
                  have HNL := Lib.hid (show lessB (sumT tk) (sumB tk) T C = false by
                    have := lessB_no hle.2
                    rw [← HT.out, ← HC.out]
                    exact this)
                  have HTF := Lib.hid htf.2
                  have k0 : (0 : Int) ≤ (k : Int) := by omega
                  have k1 : (k : Int) < 3 := by omega
                  have k2 : ((k : Int)).toNat = k := by omega
                  have HKK := Lib.hid hk
                  clear hcell hck htk hle htf hk
                  go_wp2_with (fail)
                  refine (says_any _ _ _ _ _ l tk s _ (Kd.C_below HL5.out HBK.out) HOK.out HCK.out HTF.out (by omega) (by omega)).mono ?_
                  rintro e w11 ⟨rfl, hb11⟩
                  rw [HSY.out]
                  have HB11 := Lib.hid (HK.out.trans (hb11.mono HK.out.size))
                  have HC11 := Lib.hid (Kd.C_below HCK.out hb11)
                  clear hb11 HCK HBK HK x0
                  go_wp2_with (fail)
                  refine (sum_any _ _ tk _ HC11.out (by omega)).mono ?_
                  rintro e w12 ⟨rfl, hb12⟩
                  have HB12 := Lib.hid (HB11.out.trans (hb12.mono HB11.out.size))
                  clear hb12 HC11 HB11
                  have s3 := sumT_le tk
                  have s4 := sumB_le tk
                  have s5 : sumT tk < big := by have : big = 9007199254740992 := rfl; omega
                  have s6 : sumB tk < big := by have : big = 9007199254740992 := rfl; omega
                  clear s3 s4
                  go_wp2_with (fail)
                  refine (less_any _ _ T C _ s5 s6 Tb Cb).mono ?_
                  rintro e w13 ⟨rfl, rfl⟩
                  rw [HNL.out]
                  clear s5 s6
                  go_wp2_with (fail)
                  go_roundg (3 - (k + 1))
                  case measure => have := HKK.out; omega
                  case rel => exact ⟨k + 1, by have := HKK.out; omega, by go_num, HB12.out⟩
                · obtain rfl : k = 3 := by omega
                  have HB11 := Lib.hid (Ints.bel_trans HB10.out HB10.out.size HK.out)
                  clear HK hk HB10 HO3
                  go_wp2_with (fail)
                  refine (costs_any _ l s _ (HD5.out.below HB11.out) HOK.out (by omega)).mono ?_
                  rintro e w12 ⟨g, rfl, hg, hc12, hb12⟩
                  have HB12 := Lib.hid (Ints.bel_trans HB11.out HB11.out.size hb12)
                  have y0 := hc12.cell 0 (by omega)
                  rw [← HCS.out] at y0
                  simp only at y0
                  unfold cx at y0
                  have e0 : (FloatKind.f64.format.order (fl T) (fl T) == some Ordering.eq) = true := (eq_fl Tb Tb).trans (by simp)
                  have e1 : (FloatKind.f64.format.order (fl C) (fl C) == some Ordering.eq) = true := (eq_fl Cb Cb).trans (by simp)
                  have e2 : (((s.size : Int) + 1) != ((s.size : Int) + 1)) = false := by simp
                  have HRW := Lib.hid (Kd.R_below HR5.out HB12.out)
                  have HBW := Lib.hid (Ints.bel_trans HB5.out HB5.out.size HB12.out)
                  clear hg hc12 hb12 HB11 HB12 HR5 HB5
                  go_wp2_with (fail)
                  go_roundg (b.size - (a + W))
                  case measure => have := HJ.out; omega
                  case rel => exact ⟨a + W, xs ++ p, by go_num, by have := HJ.out; omega, by rw [List.length_append]; have := HXA.out; omega, by rw [HGO.out, List.append_assoc], HRW.out, HBW.out⟩
        · obtain ⟨hj, hxa, hgo, hr, hbw⟩ := HI.out
          rw [best_from_end l W b a (by omega), List.append_nil] at hgo
          obtain ⟨A4, c4, rfl⟩ := Kd.R_slice hr
          have HC4 := Lib.hid (Kd.R_reads' hr).2.2
          have HA4 := Lib.hid (Kd.C_below HA3.out hbw)
          have HBW := Lib.hid (Ints.bel_trans HB3.out HB3.out.size hbw)
          have hae : (b.size : Int) ≤ (a : Int) := by omega
          have HGO := Lib.hid hgo
          clear hj hxa hgo hr hbw HI
          go_wp2_with (fail)
          refine (same_ints _ _ _ _ _ _ (best l W b) xs _ HA4.out HC4.out).mono ?_
          rintro e w6 ⟨rfl, q6, rfl⟩
          rw [decide_eq_true HGO.out]
          go_wp2_with (fail)
          go_ret
          exact ⟨rfl, below_drewN HBW.out q6⟩
    · have hcw : win < 1 ∨ (1 ≤ win ∧ 1024 < win) := by omega
      rcases hcw with h | ⟨h', h⟩
      all_goals
        clear hwn
        go_wp2_with (go_at_call 12; refine (alive_any _).mono ?_; rintro e w5 ⟨rfl, hb5⟩)
        go_ret
        exact ⟨rfl, Ints.bel_trans HB1.out HB1.out.size hb5⟩
  · go_wp2_with (go_at_call 12; refine (alive_any _).mono ?_; rintro e w5 ⟨rfl, hb5⟩)
    go_ret
    exact ⟨rfl, Ints.bel_trans HB1.out HB1.out.size hb5⟩
end Go.Proofs.Ytfiflloieojgbaa.Best
