/- Chapter 15: Costs and Parse: the walks. -/
import Derived.Test.YtfiflloieojgbaaBestLeast
namespace Go.Proofs.Ytfiflloieojgbaa.Best
set_option linter.unusedVariables false
set_option linter.unusedSimpArgs false
open Go.RowKit Go.Proofs.YtfiflloieojgbaaW.PrintWords Go.Proofs.YtfiflloieojgbaaW.PrintMore Go.Proofs.Ytfiflloieojgbaa.L Go.Proofs.Ytfiflloieojgbaa.Texts Go.Proofs.Ytfiflloieojgbaa.Dict Go.Proofs.Ytfiflloieojgbaa.Ints Go.Proofs.Ytfiflloieojgbaa.Greedy Go.Proofs.Ytfiflloieojgbaa.Cost Go.Proofs.Ytfiflloieojgbaa.Fl

/-! ### the tokens of a piece, and of all pieces -/
/-- The tokens of a piece from a place on. -/
def toks (l : List ByteArray) (s : ByteArray) (a : Nat) : List Int := (parse (stq l s) oc (s.size - a) (s.size - a)).map Prod.fst
theorem toks_end (l : List ByteArray) (s : ByteArray) (a : Nat) (h : s.size ≤ a) : toks l s a = [] := by
  unfold toks
  rw [show s.size - a = 0 by omega]
  rfl
theorem FF_fit {l : List ByteArray} (hok : okTexts l) {s : ByteArray} (hs : s.size ≤ 1024) {a : Nat} (ha : a < s.size) : 1 ≤ (FF l s a).2 ∧ (FF l s a).2 ≤ s.size - a ∧ 0 ≤ (FF l s a).1 ∧ (FF l s a).1 ≤ 1000 := by
  have h1 := (taken (fine hok hs) (s.size - a) (by omega) (by omega)).1
  unfold stq at h1
  rw [if_neg (by omega), show s.size - (s.size - a) = a by omega] at h1
  exact steps_fit hok ha h1
theorem toks_step {l : List ByteArray} (hok : okTexts l) {s : ByteArray} (hs : s.size ≤ 1024) {a : Nat} (ha : a < s.size) : toks l s a = (FF l s a).1 :: toks l s (a + (FF l s a).2) := by
  have hf := FF_fit hok hs ha
  unfold toks
  obtain ⟨f, hfq⟩ : ∃ f, s.size - a = f + 1 := ⟨s.size - a - 1, by omega⟩
  have hF : F (stq l s) oc (f + 1) = FF l s a := by unfold FF; rw [hfq]
  rw [hfq, parse, if_neg (by omega), hF, List.map_cons, parse_fuel (fine hok hs) f (s.size - (a + (FF l s a).2)) (f + 1 - (FF l s a).2) (by omega) (by omega) (by omega), show f + 1 - (FF l s a).2 = s.size - (a + (FF l s a).2) by omega]
def pieces (l : List ByteArray) (win : Nat) : Nat → ByteArray → List Int
  | 0, _ => []
  | f + 1, c => if c.size = 0 then [] else toks l (c.extract 0 (min win c.size)) 0 ++ pieces l win f (c.extract (min win c.size) c.size)
theorem ext_size (c : ByteArray) (m : Nat) (hm : m ≤ c.size) : (c.extract 0 m).size = m ∧ (c.extract m c.size).size = c.size - m := by
  rw [ByteArray.size_extract, ByteArray.size_extract]
  omega
theorem pieces_fuel (l : List ByteArray) (win : Nat) (hw : 1 ≤ win) : ∀ (f g : Nat) (c : ByteArray), c.size ≤ f → c.size ≤ g → pieces l win f c = pieces l win g c
  | 0, 0, c, _, _ => rfl
  | 0, g + 1, c, hf, _ => by rw [pieces, pieces, if_pos (by omega)]
  | f + 1, 0, c, _, hg => by rw [pieces, pieces, if_pos (by omega)]
  | f + 1, g + 1, c, hf, hg => by
    rw [pieces, pieces]
    by_cases h : c.size = 0
    · rw [if_pos h, if_pos h]
    · rw [if_neg h, if_neg h]
      have := (ext_size c (min win c.size) (by omega)).2
      rw [pieces_fuel l win hw f g _ (by omega) (by omega)]
/-- All tokens. -/
def best (l : List ByteArray) (win : Nat) (c : ByteArray) : List Int := pieces l win c.size c
theorem best_end (l : List ByteArray) (win : Nat) (c : ByteArray) (h : c.size = 0) : best l win c = [] := by unfold best; rw [h]; rfl
theorem best_step (l : List ByteArray) (win : Nat) (hw : 1 ≤ win) (c : ByteArray) (h : c.size ≠ 0) : best l win c = toks l (c.extract 0 (min win c.size)) 0 ++ best l win (c.extract (min win c.size) c.size) := by
  unfold best
  obtain ⟨f, hf⟩ : ∃ f, c.size = f + 1 := ⟨c.size - 1, by omega⟩
  have := (ext_size c (min win c.size) (by omega)).2
  rw [show pieces l win c.size c = pieces l win (f + 1) c by rw [hf], pieces, if_neg h, pieces_fuel l win hw f _ _ (by omega) (Nat.le_refl _)]
set_option maxRecDepth 100000 in
set_option maxHeartbeats 1000000 in
theorem costs_any (p : Option Addr) (l : List ByteArray) (b : ByteArray) (w : World) (h : DP w p l) (hok : okTexts l) (hb : b.size ≤ 1024) :
    Calls Try.prog 16 #[.pointer p, .string b] w fun e w' => ∃ g, e = .returned (.slice (some ⟨g, 0, none⟩) (b.size + 1) (b.size + 1)) ∧ w.heap.size ≤ g ∧ CBlk w' g (b.size + 1) (VV l b) ∧ Below w.heap.size w w' := by
  have hbi : (b.size : Int) ≤ 1024 := by omega
  go_enter Try.func16, Try.ntmps16
  go_wp2_with (fail)
  refine (least_any _ _ _ _ h hok hb).mono ?_
  rintro e w1 ⟨g, g', rfl, hg, _, hc, _, hb1⟩
  go_wp2_with (fail)
  go_ret
  refine ⟨g, rfl, hg, hc.congr (fun j hj => ?_), hb1⟩
  unfold costFrom
  rw [if_pos (Nat.zero_le _)]
set_option maxRecDepth 100000 in
set_option maxHeartbeats 2000000 in
theorem parse_any (p : Option Addr) (l : List ByteArray) (b : ByteArray) (win : Nat) (w : World) (h : DP w p l) (hok : okTexts l) (hbs : b.size ≤ 1024) (hw : 1 ≤ win) (hw2 : win ≤ 1024) :
    Calls Try.prog 13 #[.pointer p, .string b, .int .i64 win] w fun e w' => ∃ v, e = .returned v ∧ KI.R 3 w' w.heap.size (fun _ => True) v (best l win b) ∧ Below w.heap.size w w' := by
  have H := Lib.hid h
  have HOK := Lib.hid hok
  have hbi : (b.size : Int) ≤ 1024 := by omega
  have hwi : (1 : Int) ≤ (win : Int) := by omega
  have hwi2 : (win : Int) ≤ 1024 := by omega
  clear h hok
  go_enter Try.func13, Try.ntmps13
  go_wp2_with (fail)
  go_loopg [1, 7] b.size (fun j x v wr => ∃ (c : ByteArray) (xs : List Int), x = .string c ∧ Hid (c.size ≤ j ∧ c.size + xs.length ≤ b.size ∧ best l win b = xs ++ best l win c ∧ KI.R 3 wr w.heap.size (fun _ => True) v xs ∧ Below w.heap.size w wr))
  case atStart => exact ⟨b, [], rfl, Nat.le_refl _, by simp, rfl, Kd.R_nil _ _ _ _ _, Below.refl _ _⟩
  case round =>
    obtain ⟨c, xs, rfl, HI⟩ := hrel
    obtain ⟨hcj, hcx, hgo, hr, hb⟩ := HI.out
    by_cases h0 : c.size = 0
    · have : c = ⟨#[]⟩ := by
        apply ByteArray.ext
        exact Array.eq_empty_of_size_eq_zero h0
      subst this
      rw [best_end _ _ (⟨#[]⟩ : ByteArray) rfl, List.append_nil] at hgo
      have e0 : (⟨#[]⟩ : ByteArray).toList.isEmpty = true := by rw [ByteArray.toList_eq]; rfl
      have HGO := Lib.hid hgo
      have HR := Lib.hid hr
      have HB := Lib.hid hb
      clear hgo hr hb HI hcx hcj
      go_wp2_with (fail)
      go_ret
      exact ⟨_, rfl, by rw [HGO.out]; exact HR.out, HB.out⟩
    · have hne := isEmpty_no h0
      obtain ⟨m, hm⟩ : ∃ m, min win c.size = m := ⟨_, rfl⟩
      have hmi : min (win : Int) (c.size : Int) = (m : Int) := by omega
      have hmm : min m c.size = m := by omega
      have hst := best_step l win hw c h0
      rw [hm] at hst
      obtain ⟨z1, z2⟩ := ext_size c m (by omega)
      have m0 : (0 : Int) ≤ (m : Int) := by omega
      have m1 : (m : Int) ≤ (c.size : Int) := by omega
      have mle : m ≤ c.size := by omega
      obtain ⟨s, hs⟩ : ∃ s, c.extract 0 m = s := ⟨_, rfl⟩
      obtain ⟨c', hc'⟩ : ∃ c', c.extract m c.size = c' := ⟨_, rfl⟩
      rw [hs, hc'] at hst
      rw [hst] at hgo
      rw [hs] at z1
      rw [hc'] at z2
      rw [← z1] at hc'
      have m4 : (s.size : Int) ≤ (c.size : Int) := by omega
      have HGO := Lib.hid hgo
      have HR := Lib.hid hr
      have HB := Lib.hid hb
      have HZ1 := Lib.hid z1
      have HZ2 := Lib.hid z2
      have HCX := Lib.hid hcx
      have HCJ := Lib.hid hcj
      have HM1 := Lib.hid (show 1 ≤ m by omega)
      have hsl : s.size ≤ 1024 := by omega
      obtain ⟨A5, c5, rfl⟩ := Kd.R_slice hr
      clear hst hgo hr hb HI hcx hcj z1 hm h0
      go_wp2_with (fail)
      refine (least_any _ _ _ _ (H.out.below HB.out) HOK.out hsl).mono ?_
      rintro e w1 ⟨g, h, rfl, hg, hh, _, hsb, hb1⟩
      have HSB := Lib.hid hsb
      have HHL := Lib.hid (show w.heap.size ≤ h by have := HB.out.size; omega)
      have HB1 := Lib.hid (Ints.bel_trans HB.out HB.out.size hb1)
      have HR1 := Lib.hid (Kd.R_below HR.out hb1)
      have HOW := Lib.hid (show ∀ k, Value.ownBlock (.slice A5 xs.length c5) = some k → k ≠ h from fun k hk => by have := own_lt HR.out k hk; omega)
      have HG2 := Lib.hid (show best l win b = xs ++ (toks l s 0 ++ best l win c') from HGO.out)
      clear hsb hg hh hb1 HB HR HGO
      go_wp2_with (fail)
      go_loopg [7, 11] s.size (fun j v i wq => ∃ (a : Nat) (ys : List Int), i = .int .i64 a ∧ Hid (a + j = s.size ∧ ys.length ≤ xs.length + a ∧ best l win b = ys ++ (toks l s a ++ best l win c') ∧ (∀ k, v.ownBlock = some k → k ≠ h) ∧ KI.R 3 wq w.heap.size (fun _ => True) v ys ∧ SBlk wq h s.size (stepFrom l s 0) ∧ Below w.heap.size w wq))
      case atStart => exact ⟨0, xs, rfl, by omega, Nat.le_refl _, HG2.out, HOW.out, HR1.out, HSB.out, HB1.out⟩
      case round =>
        obtain ⟨a, ys, rfl, HJ⟩ := hrel
        clear HOW HR1 HSB HB1 HG2
        obtain ⟨haj, hya, hgo, how, hr, hsb, hb⟩ := HJ.out
        by_cases hlt : a < s.size
        · have hlti : (a : Int) < (s.size : Int) := by omega
          have hf := FF_fit HOK.out hsl hlt
          have ht := toks_step HOK.out hsl hlt
          have x0 := hsb.tok a hlt
          have x1 := hsb.len a hlt
          have hsf : stepFrom l s 0 a = FF l s a := by unfold stepFrom; rw [if_pos (Nat.zero_le _)]
          rw [hsf] at x0 x1
          obtain ⟨⟨T, F⟩, hT⟩ : ∃ x, FF l s a = x := ⟨_, rfl⟩
          rw [hT] at hf ht x0 x1
          simp only at hf ht x0 x1
          rw [ht] at hgo
          have HGO := Lib.hid hgo
          have HYA := Lib.hid hya
          have HAJ := Lib.hid haj
          have HOW := Lib.hid how
          have HR := Lib.hid hr
          have HSB := Lib.hid hsb
          have HB := Lib.hid hb
          obtain ⟨A6, c6, rfl⟩ := Kd.R_slice hr
          have s1 : ((a + F : Nat) : Int) = (a : Int) + (F : Int) := by omega
          have S1 := Lib.hid s1
          obtain ⟨f1, f2, f3, f4⟩ := hf
          have i0 : (0 : Int) ≤ (a : Int) := by omega
          have i2 : ((a : Int)).toNat = a := by omega
          have HT := Lib.hid hT
          clear hgo hya haj how hr hsb hb HJ hsf hT ht s1
          go_wp2_with (((with_reducible refine gate_builtin (b := .append) (xs := #[.tmp 52, .tmp 58]) rfl ?_); at_builtin; apply stopper))
          unfold Stopper
          refine Kd.R_append KI (w0 := w) w.heap.size rfl (.tmp 52) (.tmp 58) 27 3 (.int .i64 0) 8 rfl Try.underlying27 infoInt rfl (by decide) (by have := HYA.out; have := HCX.out; omega) (.slice A6 ys.length c6) ys T [.int .i64 T] (fun _ => True) (fun _ => False) rfl rfl rfl (fun _ hk => hk.elim) (fun _ _ => trivial) HR.out HB.out HB.out.size (by have := HYA.out; have := HCX.out; omega) ?_
          intro v1 w2 ho hb2 hg2 hat2
          have HR2 := Lib.hid ho
          have HB2 := Lib.hid hb2
          have HSB2 := Lib.hid (HSB.out.heap (hg2.block h HSB.out.lt (fun e => HOW.out h e.symm rfl)))
          have HOW2 := Lib.hid (show ∀ k, v1.ownBlock = some k → k ≠ h from fun k hk => by
            rcases hat2 with e | ⟨b', e, hb'⟩
            · exact HOW.out k (e ▸ hk)
            · rw [e] at hk
              injection hk with hk
              have := HSB.out.lt
              omega)
          have x2 := HSB2.out.len a hlt
          have hsf : stepFrom l s 0 a = FF l s a := by unfold stepFrom; rw [if_pos (Nat.zero_le _)]
          rw [hsf, HT.out] at x2
          simp only at x2
          clear ho hb2 hg2 hat2 HR HB HSB HOW x0 x1 hsf
          go_wp2_with (fail)
          go_roundg (s.size - (a + F))
          case measure => have := HAJ.out; omega
          case rel => exact ⟨a + F, ys ++ [T], by rw [S1.out], by omega, by rw [List.length_append]; have := HYA.out; simp; omega, by rw [HGO.out, List.append_assoc]; rfl, HOW2.out, HR2.out, HSB2.out, HB2.out⟩
        · have hge : (s.size : Int) ≤ (a : Int) := by omega
          rw [toks_end l s a (by omega), List.nil_append] at hgo
          have HGO := Lib.hid hgo
          have HYA := Lib.hid hya
          have HR := Lib.hid hr
          have HB := Lib.hid hb
          clear hgo hr hb HJ hya how hsb
          go_wp2_with (fail)
          go_roundg c'.size
          case measure => have := HCJ.out; have := HM1.out; have := HZ2.out; omega
          case rel => exact ⟨c', ys, rfl, Nat.le_refl _, by have := HYA.out; have := HCX.out; have := HZ1.out; have := HZ2.out; omega, HGO.out, HR.out, HB.out⟩
set_option maxRecDepth 100000 in
set_option maxHeartbeats 2000000 in
/-- Of no window, or of too great a one, there are no tokens. -/
theorem parse_none (p : Option Addr) (b : ByteArray) (win : Int) (w : World) (hw : win < 1 ∨ 1024 < win) :
    Calls Try.prog 13 #[.pointer p, .string b, .int .i64 win] w fun e w' => e = .returned (.slice none 0 0) ∧ w' = w := by
  rcases hw with h1 | h2
  · go_enter Try.func13, Try.ntmps13
    go_wp2_with (fail)
    go_ret
    exact ⟨rfl, rfl⟩
  · have h3 : (1 : Int) ≤ win := by omega
    go_enter Try.func13, Try.ntmps13
    go_wp2_with (fail)
    go_ret
    exact ⟨rfl, rfl⟩
set_option maxRecDepth 100000 in
set_option maxHeartbeats 1000000 in
theorem alive_any (w : World) : Calls Try.prog 12 #[] w fun e w' => e = .returned (.bool true) ∧ Below w.heap.size w w' := by
  have E0 := Lib.hid (show okTexts [⟨#[97, 98]⟩, ⟨#[98, 99, 100]⟩, ⟨#[97]⟩] by decide +kernel)
  have e1 := Lib.hid (show best [⟨#[97, 98]⟩, ⟨#[98, 99, 100]⟩, ⟨#[97]⟩] 4 ⟨#[97, 98, 99, 100]⟩ = [97, 257] by decide +kernel)
  go_enter Try.func12, Try.ntmps12
  go_wp2_with (fail)
  refine (make_any _ _ _ [⟨#[97, 98]⟩, ⟨#[98, 99, 100]⟩, ⟨#[97]⟩] _ (lit_texts w 9 [⟨#[97, 98]⟩, ⟨#[98, 99, 100]⟩, ⟨#[97]⟩] (by decide)) E0.out).mono ?_
  rintro e w1 ⟨hb1, b, rfl, hd⟩
  have HD := Lib.hid (show DP w1 (some ⟨b, 0, none⟩) [⟨#[97, 98]⟩, ⟨#[98, 99, 100]⟩, ⟨#[97]⟩] from .inr ⟨b, rfl, hd⟩)
  have HB := Lib.hid (Ints.bel_trans ((Below.refl w.heap.size w).alloc (Nat.le_refl _) (.cells #[.string ⟨#[97, 98]⟩, .string ⟨#[98, 99, 100]⟩, .string ⟨#[97]⟩] 9 (0, 0))) (by simp) hb1)
  clear hb1 hd
  go_wp2_with (fail)
  refine (parse_any _ [⟨#[97, 98]⟩, ⟨#[98, 99, 100]⟩, ⟨#[97]⟩] ⟨#[97, 98, 99, 100]⟩ 4 _ HD.out E0.out (by decide) (by decide) (by decide)).mono ?_
  rintro e w2 ⟨v, rfl, hr, hb2⟩
  rw [e1.out] at hr
  obtain ⟨A2, c2, rfl⟩ := Kd.R_slice hr
  have HC := Lib.hid (Kd.R_reads' hr).2.2
  have HB2 := Lib.hid (Ints.bel_trans HB.out HB.out.size hb2)
  clear hr hb2 HB HD
  go_wp2_with (fail)
  refine (same_ints _ _ _ _ _ _ [97, 257] [97, 257] _ (Kd.C_alloc HC.out _) (lit_ints w2 3 [97, 257] (by decide))).mono ?_
  rintro e w3 ⟨rfl, q, rfl⟩
  rw [show decide (([97, 257] : List Int) = [97, 257]) = true by decide]
  have HB3 := Lib.hid (below_drewN (HB2.out.alloc HB2.out.size (.cells #[.int .i64 97, .int .i64 257] 3 (0, 0))) q)
  clear HB2 HC
  go_wp2_with (fail)
  refine (parse_none _ _ _ _ (.inl (by decide))).mono ?_
  rintro e w4 ⟨rfl, rfl⟩
  go_wp2_with (fail)
  go_ret
  exact ⟨rfl, HB3.out⟩
end Go.Proofs.Ytfiflloieojgbaa.Best
