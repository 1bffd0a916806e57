/- Of the parts FlexNext, Float, Cost: what the rows use. -/
import Derived.Test.YtfbbcfhdjhiejaaGreatZa1
import Derived.Test.YtfbbcfhdjhiejaaGreatZa3
import Derived.Test.YtfbbcfhdjhiejaaGreatZa4
import Derived.Test.YtfbbcfhdjhiejaaGreatZa7
import GoSem.Core.Float
import Derived.Laws.ComplexArith
/- Chapter 14: the token at a place; the tokens. -/
namespace Go.Proofs.YtfbbcfhdjhiejaaGreat.Flex
set_option linter.unusedVariables false
set_option linter.unusedSimpArgs false
open Go.RowKit Go.Proofs.YtfbbcfhdjhiejaaGreatW.PrintWords Go.Proofs.YtfbbcfhdjhiejaaGreatW.PrintMore Go.Proofs.YtfbbcfhdjhiejaaGreat.L Go.Proofs.YtfbbcfhdjhiejaaGreat.Texts Go.Proofs.YtfbbcfhdjhiejaaGreat.Dict Go.Proofs.YtfbbcfhdjhiejaaGreat.Ints Go.Proofs.YtfbbcfhdjhiejaaGreat.Greedy
/-! ### what is chosen -/
def lexLe (r n r' n' : Nat) : Prop := r < r' ∨ (r = r' ∧ n ≤ n')
theorem lexLe_refl (r n : Nat) : lexLe r n r n := .inr ⟨rfl, Nat.le_refl _⟩
theorem better_iff (r n r' n' : Nat) : betterB (r : Int) (n : Int) (r' : Int) (n' : Int) = true ↔ ¬ lexLe r n r' n' := by
 unfold betterB lexLe
 by_cases h : (r : Int) = (r' : Int)
 ·rw [if_pos h, decide_eq_true_eq]
  constructor <;> intro h2 <;> omega
 ·rw [if_neg h, decide_eq_true_eq]
  constructor <;> intro h2 <;> omega
/-- What is held behind the first k phrases. -/
def FInv (l : List ByteArray) (b : ByteArray) (a k : Nat) (T : Int) (N R : Nat) : Prop :=
 ((T = 0 ∧ N = 0 ∧ R = 0 ∧ ∀ i, i < k → stands l b a i = false) ∨ ∃ j, j < k ∧ stands l b a j = true ∧ T = 256 + (j : Int) ∧ N = (l.getD j no).size ∧ R = reach l b a N) ∧
 ∀ i, i < k → stands l b a i = true → lexLe (reach l b a (l.getD i no).size) (l.getD i no).size R N
def SInv (l : List ByteArray) (b : ByteArray) (a k : Nat) (sg : Bool) : Prop := sg = true ↔ ∃ i, i < k ∧ stands l b a i = true ∧ (l.getD i no).size = 1
theorem finv_start (l : List ByteArray) (b : ByteArray) (a : Nat) : FInv l b a 0 0 0 0 ∧ SInv l b a 0 false :=
 ⟨⟨.inl ⟨rfl, rfl, rfl, fun i h => absurd h (Nat.not_lt_zero i)⟩, fun i h => absurd h (Nat.not_lt_zero i)⟩, ⟨fun h => (by cases h), fun ⟨i, h, _⟩ => absurd h (Nat.not_lt_zero i)⟩⟩
theorem finv_skip {l : List ByteArray} {b : ByteArray} {a k : Nat} {T : Int} {N R : Nat} {sg : Bool} (h : FInv l b a k T N R) (hs : SInv l b a k sg) (hk : stands l b a k = false) : FInv l b a (k + 1) T N R ∧ SInv l b a (k + 1) sg := by
 have ne : ∀ i, stands l b a i = true → i < k + 1 → i < k := by
  intro i h1 h2
  rcases Nat.lt_or_ge i k with h3 | h3
  ·exact h3
  ·obtain rfl : i = k := by omega
   rw [hk] at h1
   cases h1
 refine ⟨⟨?_, fun i hi h1 => h.2 i (ne i h1 hi) h1⟩, hs.trans ⟨fun ⟨i, h1, h2⟩ => ⟨i, by omega, h2⟩, fun ⟨i, h1, h2, h3⟩ => ⟨i, ne i h2 h1, h2, h3⟩⟩⟩
 rcases h.1 with ⟨h1, h2, h3, h4⟩ | ⟨j, h1, h2⟩
 ·refine .inl ⟨h1, h2, h3, fun i hi => ?_⟩
  by_cases hik : i = k
  ·rw [hik]; exact hk
  ·exact h4 i (by omega)
 ·exact .inr ⟨j, by omega, h2⟩
theorem sinv_step {l : List ByteArray} {b : ByteArray} {a k : Nat} {sg : Bool} (hs : SInv l b a k sg) (hk : stands l b a k = true) : SInv l b a (k + 1) (sg || decide ((l.getD k no).size = 1)) := by
 unfold SInv at *
 rw [Bool.or_eq_true, decide_eq_true_eq, hs]
 constructor
 ·rintro (⟨i, h1, h2⟩ | h)
  ·exact ⟨i, by omega, h2⟩
  ·exact ⟨k, by omega, hk, h⟩
 ·rintro ⟨i, h1, h2, h3⟩
  by_cases hik : i = k
  ·subst hik; exact .inr h3
  ·exact .inl ⟨i, by omega, h2, h3⟩
theorem finv_take {l : List ByteArray} {b : ByteArray} {a k : Nat} {T : Int} {N R : Nat} (h : FInv l b a k T N R) (hk : stands l b a k = true) (hb : ¬ lexLe (reach l b a (l.getD k no).size) (l.getD k no).size R N) : FInv l b a (k + 1) (256 + (k : Int)) (l.getD k no).size (reach l b a (l.getD k no).size) := by
 refine ⟨.inr ⟨k, by omega, hk, rfl, rfl, rfl⟩, fun i hi h1 => ?_⟩
 by_cases hik : i = k
 ·subst hik; exact lexLe_refl _ _
 ·have := h.2 i (by omega) h1
  unfold lexLe at *
  omega
theorem finv_leave {l : List ByteArray} {b : ByteArray} {a k : Nat} {T : Int} {N R : Nat} (h : FInv l b a k T N R) (hk : stands l b a k = true) (hn : (l.getD k no).size ≠ 0) (hb : lexLe (reach l b a (l.getD k no).size) (l.getD k no).size R N) : FInv l b a (k + 1) T N R := by
 refine ⟨?_, fun i hi h1 => ?_⟩
 ·rcases h.1 with ⟨h1, h2, h3, h4⟩ | ⟨j, h1, h2⟩
  ·exfalso
   unfold lexLe reach at hb
   omega
  ·exact .inr ⟨j, by omega, h2⟩
 ·by_cases hik : i = k
  ·subst hik; exact hb
  ·exact h.2 i (by omega) h1
theorem cand_stands {l : List ByteArray} {b : ByteArray} {a m : Nat} (hm : a + m ≤ b.size) (h : has (piece b a m) l = true) : ∃ i, i < l.length ∧ stands l b a i = true ∧ (l.getD i no).size = m := by
 have hi := (idx_mem _ _).2 ((has_iff _ _).1 h)
 have hg := idx_get _ _ hi
 have hp := piece_size b a m hm
 refine ⟨_, hi, (stands_iff l b a _ (by omega)).2 ?_, by rw [hg, hp]⟩
 rw [hg, hp]
 exact ⟨by omega, rfl⟩
/-- The phrase that is held, at the end. -/
theorem finv_phrase {l : List ByteArray} {b : ByteArray} {a j : Nat} (hok : okTexts l) (ha : a < b.size) (hj : j < l.length) (hs : stands l b a j = true) : cand l b a (l.getD j no).size ∧ tokenOf l b a (l.getD j no).size = 256 + (j : Int) := by
 obtain ⟨s1, s2⟩ := (stands_iff l b a j (by omega)).1 hs
 have hm := getD_mem l j hj
 have hn := (hok.2 j hj).1
 have hh : has (piece b a (l.getD j no).size) l = true := (has_iff _ _).2 (by rw [s2]; exact hm)
 refine ⟨⟨by omega, by omega, .inl hh⟩, ?_⟩
 unfold tokenOf
 rw [if_pos hh, s2]
 have h3 := (hok.2 j hj).2.2.2
 have h4 := idx_self l j hj
 congr 1
 omega
/-- The best is the phrase that is held. -/
theorem end_phrase {l : List ByteArray} {b : ByteArray} {a : Nat} {T : Int} {N R : Nat} {sg : Bool} (hok : okTexts l) (ha : a < b.size) (h : FInv l b a l.length T N R) (hs : SInv l b a l.length sg) (hone : sg = true ∨ lexLe (reach l b a 1) 1 R N) :
  bestLen l b a = N ∧ tokenOf l b a N = T := by
 have hN : N ≠ 0 := by
  intro h0
  rcases hone with h1 | h1
  ·obtain ⟨i, h2, h3, h4⟩ := hs.1 h1
   have := h.2 i h2 h3
   rw [h4] at this
   unfold lexLe reach at this
   rcases h.1 with ⟨_, _, h5, h6⟩ | ⟨j, h5, h6, _, h7, _⟩
   ·rw [h6 i h2] at h3; cases h3
   ·have := (hok.2 j h5).1
    omega
  ·unfold lexLe reach at h1
   rcases h.1 with ⟨_, _, h5, _⟩ | ⟨j, h5, h6, _, h7, _⟩
   ·omega
   ·have := (hok.2 j h5).1
    omega
 rcases h.1 with ⟨_, h2, _⟩ | ⟨j, h2, h3, h4, h5, h6⟩
 ·exact absurd h2 hN
 ·obtain ⟨p1, p2⟩ := finv_phrase hok ha h2 h3
  rw [← h5] at p1 p2
  refine ⟨isBest_one (best_is l b a ha) ⟨p1, fun m hm => ?_⟩, by rw [p2, h4]⟩
  rw [← h6]
  have key : lexLe (reach l b a m) m R N := by
   rcases hm.2.2 with hh | hh
   ·obtain ⟨i, i1, i2, i3⟩ := cand_stands hm.2.1 hh
    have := h.2 i i1 i2
    rwa [i3] at this
   ·subst hh
    rcases hone with h1 | h1
    ·obtain ⟨i, i1, i2, i3⟩ := hs.1 h1
     have := h.2 i i1 i2
     rwa [i3] at this
    ·exact h1
  exact key
/-- The best is the byte. -/
theorem end_byte {l : List ByteArray} {b : ByteArray} {a : Nat} {T : Int} {N R : Nat} (hok : okTexts l) (ha : a < b.size) (h : FInv l b a l.length T N R) (hs : SInv l b a l.length false) (hone : ¬ lexLe (reach l b a 1) 1 R N) :
  bestLen l b a = 1 ∧ tokenOf l b a 1 = byteAt b a := by
 refine ⟨isBest_one (best_is l b a ha) ⟨cand_one l b a ha, fun m hm => ?_⟩, ?_⟩
 ·rcases hm.2.2 with hh | hh
  ·obtain ⟨i, i1, i2, i3⟩ := cand_stands hm.2.1 hh
   have := h.2 i i1 i2
   rw [i3] at this
   unfold lexLe at *
   omega
  ·subst hh
   exact .inr ⟨rfl, Nat.le_refl _⟩
 ·unfold tokenOf
  by_cases hh : has (piece b a 1) l = true
  ·obtain ⟨i, i1, i2, i3⟩ := cand_stands (by omega : a + 1 ≤ b.size) hh
   have := hs.2 ⟨i, i1, i2, i3⟩
   cases this
  ·rw [if_neg hh]
/-! ### Next -/
set_option maxRecDepth 100000 in
set_option maxHeartbeats 8000000 in
theorem nextF_some (p : Option Addr) (l : List ByteArray) (b : ByteArray) (a : Nat) (w : World) (h : DP w p l) (hok : okTexts l) (ha : a < b.size) (hbs : b.size ≤ 1000000) :
  Calls Tryz.prog 60 #[.pointer p, .string b, .int .i64 a] w fun e w' => Below w.heap.size w w' ∧ e = .returned (.tuple #[.int .i64 (tokenOf l b a (bestLen l b a)), .int .i64 (bestLen l b a : Nat)]) := by
 have H := Lib.hid h
 have HOK := Lib.hid hok
 have h100 := hok.1
 have ha0 : (0 : Int) ≤ (a : Int) := by omega
 have ha1 : (a : Int) < (b.size : Int) := by omega
 have ha2 : (a : Int) ≤ (b.size : Int) := by omega
 have ha3 : ((a : Int)).toNat = a := by omega
 have hes : (b.extract a b.size).size ≤ 140737488351232 := by rw [ByteArray.size_extract]; omega
 clear h hok
 go_enter Tryz.func60, Tryz.ntmps60
 go_wp2_with (fail)
 have hfb : (w.alloc (.cells #[.int .i64 0, .int .i64 0, .int .i64 0] 150 (0, 0))).heap[w.heap.size]? = some (.cells #[.int .i64 0, .int .i64 0, .int .i64 0] 150 (0, 0)) := heap_alloc_self _ _
 have HFB := Lib.hid hfb
 have HB0 := Lib.hid (show Below w.heap.size w (w.alloc (.cells #[.int .i64 0, .int .i64 0, .int .i64 0] 150 (0, 0))) from (Below.refl _ _).alloc (Nat.le_refl _) _)
 clear hfb
 generalize hW : w.alloc (.cells #[.int .i64 0, .int .i64 0, .int .i64 0] 150 (0, 0)) = w0 at *
 clear hW
 refine (all_any _ l _ (H.out.below HB0.out) h100).mono ?_
 rintro e w1 ⟨v, rfl, hr, hb1⟩
 obtain ⟨A1, c1, rfl⟩ := Kd.R_slice hr
 have HRL0 := Lib.hid (Kd.R_lower hr HB0.out.size)
 have HB := Lib.hid (Ints.bel_trans HB0.out HB0.out.size hb1)
 have HF1 := Lib.hid ((hb1.block _ (blk_lt HFB.out)).trans HFB.out)
 clear hr hb1 HFB
 go_wp2_with (fail)
 go_loopg [9, 25] l.length (fun j sg i wr => ∃ (k : Nat) (T : Int) (N R : Nat) (s : Bool), k + j = l.length ∧ i = .int .i64 k ∧ sg = .bool s ∧ Hid (FInv l b a k T N R ∧ SInv l b a k s ∧ N ≤ 1000000 ∧ R ≤ 1000000 ∧ wr.heap[w.heap.size]? = some (.cells #[.int .i64 T, .int .i64 N, .int .i64 R] 150 (0, 0)) ∧ KS.R 9 wr w.heap.size (fun _ => True) (.slice A1 l.length c1) l ∧ Below w.heap.size w wr))
 case atStart => exact ⟨0, 0, 0, 0, false, by omega, rfl, rfl, (finv_start l b a).1, (finv_start l b a).2, by omega, by omega, HF1.out, HRL0.out, HB.out⟩
 case round =>
  obtain ⟨wo, rfl⟩ : ∃ wo : World, wo = wr := ⟨_, rfl⟩
  obtain ⟨k, T, N, R, sg, hk, rfl, rfl, HI⟩ := hrel
  obtain ⟨hinv, hsinv, hN, hR, hblk, hb1, hb⟩ := HI.out
  by_cases hlt : k < l.length
  ·obtain ⟨ad, rfl, x0⟩ := strs_at (Kd.R_reads' hb1).2.2 k hlt
   have hokk := HOK.out.2 k hlt
   have h40 := hokk.2.1
   have hne := hokk.1
   have hst : stands l b a k = isPre (b.extract a b.size) (l.getD k no) := rfl
   obtain ⟨s, hs⟩ : ∃ s, l.getD k no = s := ⟨_, rfl⟩
   have i0 : (0 : Int) ≤ k := by omega
   have i1 : (k : Int) < (l.length : Int) := by omega
   have i2 : ((k : Int)).toNat = k := by omega
   have HINV := Lib.hid hinv
   have HSINV := Lib.hid hsinv
   have HBLK := Lib.hid hblk
   have HB1 := Lib.hid hb1
   have HBW := Lib.hid hb
   have HS := Lib.hid hs
   have HK := Lib.hid hk
   have hk100 : k ≤ 100 := by omega
   clear HI hinv hsinv hblk hb1 hb hokk hk
   rw [hs] at x0 h40 hne hst
   cases hpre : isPre (b.extract a b.size) s
   ·have HP := Lib.hid hpre
    have HST := Lib.hid (show stands l b a k = false by rw [hst, hpre])
    clear hs hst hpre
    go_wp2_with (go_at_call 90; refine (prefix_any _ _ _ hes (by omega)).mono ?_; rintro e w2 ⟨rfl, rfl⟩; rw [HP.out])
    have hfs := finv_skip HINV.out HSINV.out HST.out
    have HF := Lib.hid hfs
    clear hfs
    go_roundg (l.length - (k + 1))
    case measure => have := HK.out; omega
    case rel => exact ⟨k + 1, T, N, R, sg, by have := HK.out; omega, by go_num, rfl, HF.out.1, HF.out.2, hN, hR, HBLK.out, HB1.out, HBW.out⟩
   ·have HP := Lib.hid hpre
    have HST := Lib.hid (show stands l b a k = true by rw [hst, hpre])
    obtain ⟨q1, _⟩ := (stands_iff l b a k (by omega)).1 HST.out
    rw [HS.out] at q1
    have hfit : a + s.size ≤ b.size := by omega
    have hrle : reach l b a s.size ≤ b.size := reach_le l b a _ hfit
    obtain ⟨RS, hRS⟩ : ∃ RS, reach l b a s.size = RS := ⟨_, rfl⟩
    rw [hRS] at hrle
    have HRS := Lib.hid hRS
    have hone : ((s.size : Int) == 1) = decide (s.size = 1) := by
     by_cases h1 : s.size = 1
     ·rw [h1]; rfl
     ·rw [decide_eq_false h1]; simpa using (show ¬ (s.size : Int) = 1 by omega)
    have HONE := Lib.hid hone
    have hss := sinv_step HSINV.out HST.out
    rw [HS.out] at hss
    have HSS := Lib.hid hss
    have hrle2 : RS ≤ 1000000 := by omega
    have hsz0 : (0 : Int) ≤ (s.size : Int) := by omega
    clear hs hst hpre hRS hone hss q1 hrle
    cases sg
    all_goals
     go_wp2_with (go_at_call 90; refine (prefix_any _ _ _ hes (by omega)).mono ?_; rintro e w2 ⟨rfl, rfl⟩; rw [HP.out])
     refine (reach_in _ l b a s.size _ (H.out.below HBW.out) HOK.out hbs hfit).mono ?_
     rintro e w3 ⟨hb3, rfl⟩
     rw [HRS.out]
     have hblk3 := (hb3.block _ (blk_lt HBLK.out)).trans HBLK.out
     have HBLK3 := Lib.hid hblk3
     have HB13 := Lib.hid (Kd.R_below HB1.out hb3)
     have HBW3 := Lib.hid (Ints.bel_trans HBW.out HBW.out.size hb3)
     obtain ⟨t0, t1, t2, t3, t4, t5⟩ := three_cells hblk3
     have t6 := blk_lt hblk3
     clear hb3 hblk3
     go_wp2_with (fail)
     have hcb : (w3.alloc (.cells #[.int .i64 (256 + (k : Int)), .int .i64 s.size, .int .i64 RS] 150 (0, 0))).heap[w3.heap.size]? = some (.cells #[.int .i64 (256 + (k : Int)), .int .i64 s.size, .int .i64 RS] 150 (0, 0)) := heap_alloc_self _ _
     have hfb := L.heap_alloc_old HBLK3.out (.cells #[.int .i64 (256 + (k : Int)), .int .i64 s.size, .int .i64 RS] 150 (0, 0))
     have hb14 := Kd.R_alloc HB13.out (.cells #[.int .i64 (256 + (k : Int)), .int .i64 s.size, .int .i64 RS] 150 (0, 0))
     have hbw4 := HBW3.out.alloc HBW3.out.size (.cells #[.int .i64 (256 + (k : Int)), .int .i64 s.size, .int .i64 RS] 150 (0, 0))
     have hne3 : w.heap.size ≠ w3.heap.size := by omega
     have HCB := Lib.hid hcb
     have HFBB := Lib.hid hfb
     have HB14 := Lib.hid hb14
     have HBW4 := Lib.hid hbw4
     clear hcb hfb hb14 hbw4 t0 t1 t2 t3 t4 t5
     generalize w3.alloc (.cells #[.int .i64 (256 + (k : Int)), .int .i64 s.size, .int .i64 RS] 150 (0, 0)) = w4 at *
     refine (better_any (256 + (k : Int)) s.size RS T N R w4).mono ?_
     rintro e w5 ⟨rfl, hb5⟩
     have hcb5 := (hb5.block _ (blk_lt HCB.out)).trans HCB.out
     have hfb5 := (hb5.block _ (blk_lt HFBB.out)).trans HFBB.out
     have HB15 := Lib.hid (Kd.R_below HB14.out hb5)
     have HBW5 := Lib.hid (Ints.bel_trans HBW4.out HBW4.out.size hb5)
     obtain ⟨t0, t1, t2, t3, t4, t5⟩ := three_cells hfb5
     obtain ⟨u0, u1, u2, _, _, _⟩ := three_cells hcb5
     have HFB5 := Lib.hid hfb5
     cases hbt : betterB (RS : Int) (s.size : Int) (R : Int) (N : Int)
     ·have hlx : lexLe RS s.size R N := by
       rcases Nat.lt_or_ge 0 1 with _ | _
       ·by_cases hx : lexLe RS s.size R N
        ·exact hx
        ·have := (better_iff RS s.size R N).2 hx
         rw [hbt] at this
         cases this
       ·omega
      have HLV := Lib.hid (finv_leave HINV.out HST.out (by rw [HS.out]; exact hne) (by rw [HS.out, HRS.out]; exact hlx))
      clear hcb5 hfb5 hb5 hbt hlx
      go_wp2_with (fail)
      go_roundg (l.length - (k + 1))
      case measure => have := HK.out; omega
      case rel => exact ⟨k + 1, T, N, R, _, by have := HK.out; omega, by go_num, by first | (rw [HONE.out]; exact congrArg Value.bool (Bool.false_or _).symm) | exact congrArg Value.bool (Bool.true_or _).symm, HLV.out, HSS.out, hN, hR, HFB5.out, HB15.out, HBW5.out⟩
     ·have hlx : ¬ lexLe RS s.size R N := (better_iff RS s.size R N).1 hbt
      have e1 : (w5.setCell ⟨w.heap.size, 0, none⟩ (.int .i64 (256 + (k : Int)))).heap[w.heap.size]? = some (.cells #[.int .i64 (256 + (k : Int)), .int .i64 N, .int .i64 R] 150 (0, 0)) := by rw [heap_setCell_same _ _ 0 _ _ _ hfb5]; rfl
      have e2 : ((w5.setCell ⟨w.heap.size, 0, none⟩ (.int .i64 (256 + (k : Int)))).setCell ⟨w.heap.size, 1, none⟩ (.int .i64 s.size)).heap[w.heap.size]? = some (.cells #[.int .i64 (256 + (k : Int)), .int .i64 s.size, .int .i64 R] 150 (0, 0)) := by rw [heap_setCell_same _ _ 1 _ _ _ e1]; rfl
      have hst5 : (((w5.setCell ⟨w.heap.size, 0, none⟩ (.int .i64 (256 + (k : Int)))).setCell ⟨w.heap.size, 1, none⟩ (.int .i64 s.size)).setCell ⟨w.heap.size, 2, none⟩ (.int .i64 RS)).heap[w.heap.size]? = some (.cells #[.int .i64 (256 + (k : Int)), .int .i64 s.size, .int .i64 RS] 150 (0, 0)) := by rw [heap_setCell_same _ _ 2 _ _ _ e2]; rfl
      have HB16 := Lib.hid (Kd.R_set (Kd.R_set (Kd.R_set HB15.out hfb5 (by decide) 0 (.int .i64 (256 + (k : Int)))) e1 (by decide) 1 (.int .i64 s.size)) e2 (by decide) 2 (.int .i64 RS))
      have htk := finv_take HINV.out HST.out (by rw [HS.out, HRS.out]; exact hlx)
      rw [HS.out, HRS.out] at htk
      have HTK := Lib.hid htk
      have HST5 := Lib.hid hst5
      have HBW6 := Lib.hid (((HBW5.out.setCell (p := ⟨w.heap.size, 0, none⟩) (Nat.le_refl w.heap.size) (.int .i64 (256 + (k : Int)))).setCell (p := ⟨w.heap.size, 1, none⟩) (Nat.le_refl w.heap.size) (.int .i64 s.size)).setCell (p := ⟨w.heap.size, 2, none⟩) (Nat.le_refl w.heap.size) (.int .i64 RS))
      clear hcb5 hfb5 hb5 hbt hlx htk hst5 e1 e2
      go_wp2_with (fail)
      go_roundg (l.length - (k + 1))
      case measure => have := HK.out; omega
      case rel => exact ⟨k + 1, _, s.size, RS, _, by have := HK.out; omega, by go_num, by first | (rw [HONE.out]; exact congrArg Value.bool (Bool.false_or _).symm) | exact congrArg Value.bool (Bool.true_or _).symm, HTK.out, HSS.out, by omega, hrle2, HST5.out, HB16.out, HBW6.out⟩
  ·obtain rfl : k = l.length := by omega
   have hrle : reach l b a 1 ≤ b.size := reach_le l b a 1 (by omega)
   obtain ⟨R1, hR1⟩ : ∃ R1, reach l b a 1 = R1 := ⟨_, rfl⟩
   rw [hR1] at hrle
   have HR1 := Lib.hid hR1
   have hr1 : R1 ≤ 1000000 := by omega
   have HINV := Lib.hid hinv
   have HSINV := Lib.hid hsinv
   have HBLK := Lib.hid hblk
   have HBW := Lib.hid hb
   have hbt := bt_byteAt' b a ha
   have HBT := Lib.hid hbt
   obtain ⟨t0, t1, t2, t3, t4, t5⟩ := three_cells hblk
   have hbsz := blk_lt hblk
   clear HI hinv hsinv hblk hb1 hb hR1 hrle hbt
   cases sg
   ·skip
    go_wp2_with (fail)
    have hzz := heap_alloc_self wo (.cells #[.int .i64 0, .int .i64 0, .int .i64 0] 150 (0, 0))
    have HZZ := Lib.hid hzz
    have HBLZ := Lib.hid (L.heap_alloc_old HBLK.out (.cells #[.int .i64 0, .int .i64 0, .int .i64 0] 150 (0, 0)))
    have HBWZ := Lib.hid (HBW.out.alloc HBW.out.size (.cells #[.int .i64 0, .int .i64 0, .int .i64 0] 150 (0, 0)))
    have HFG := Lib.hid (show w.heap.size ≠ wo.heap.size by omega)
    clear hzz
    obtain ⟨BV, HBA⟩ : ∃ BV, Hid (byteAt b a = BV) := ⟨_, rfl⟩
    have hBV : IntKind.i64.wrap (((b[a]'ha).toNat : Nat) : Int) = BV := by
     rw [← HBA.out, bt_byteAt b a ha]
     have := byteAt_lt b a
     simp [IntKind.wrap, IntKind.bits, IntKind.signed]
     omega
    go_region_law (first
     | (go_simp; go_at_call 91; refine (reach_in _ l b a 1 _ ((H.out.below HBW.out).below (below_drew (Below.refl _ _))) HOK.out hbs (by omega)).mono ?_; rintro e w3 ⟨hb3, rfl⟩; rw [HR1.out]; have HBLK3 := Lib.hid ((hb3.block _ (blk_lt HBLK.out)).trans HBLK.out); have HBW3 := Lib.hid (Ints.bel_trans (below_drew HBW.out) HBW.out.size hb3); have t6 := blk_lt HBLK3.out; clear hb3)
     | (go_simp; go_at_call 91; refine (reach_in _ l b a 1 _ ((H.out.below HBWZ.out).below (below_drew (Below.refl _ _))) HOK.out hbs (by omega)).mono ?_; rintro e w3 ⟨hb3, rfl⟩; rw [HR1.out]; have HBLK3 := Lib.hid ((hb3.block _ (blk_lt HBLZ.out)).trans HBLZ.out); have HBW3 := Lib.hid (Ints.bel_trans (below_drew HBWZ.out) HBWZ.out.size hb3); have hz3 := (hb3.block _ (blk_lt HZZ.out)).trans HZZ.out; obtain ⟨z0, z1, z2, z3, z4, z5⟩ := three_cells hz3; have HZ3 := Lib.hid hz3; have t6 := blk_lt HBLK3.out; clear hb3 hz3))
    all_goals
     first
      | (have hz := HZ3.out
         have z6 := blk_lt hz
         have e1 : (w3.setCell ⟨wo.heap.size, 0, none⟩ (.int .i64 BV)).heap[wo.heap.size]? = some (.cells #[.int .i64 BV, .int .i64 0, .int .i64 0] 150 (0, 0)) := by rw [heap_setCell_same _ _ 0 _ _ _ hz]; rfl
         have e2 : ((w3.setCell ⟨wo.heap.size, 0, none⟩ (.int .i64 BV)).setCell ⟨wo.heap.size, 1, none⟩ (.int .i64 1)).heap[wo.heap.size]? = some (.cells #[.int .i64 BV, .int .i64 1, .int .i64 0] 150 (0, 0)) := by rw [heap_setCell_same _ _ 1 _ _ _ e1]; rfl
         have HG9 := Lib.hid (show (((w3.setCell ⟨wo.heap.size, 0, none⟩ (.int .i64 BV)).setCell ⟨wo.heap.size, 1, none⟩ (.int .i64 1)).setCell ⟨wo.heap.size, 2, none⟩ (.int .i64 R1)).heap[wo.heap.size]? = some (.cells #[.int .i64 BV, .int .i64 1, .int .i64 R1] 150 (0, 0)) by rw [heap_setCell_same _ _ 2 _ _ _ e2]; rfl)
         have HF9 := Lib.hid (setCell_far (setCell_far (setCell_far HBLK3.out (p := ⟨wo.heap.size, 0, none⟩) HFG.out (.int .i64 BV)) (p := ⟨wo.heap.size, 1, none⟩) HFG.out (.int .i64 1)) (p := ⟨wo.heap.size, 2, none⟩) HFG.out (.int .i64 R1))
         have HB9 := Lib.hid (((HBW3.out.setCell (p := ⟨wo.heap.size, 0, none⟩) HBW.out.size (.int .i64 BV)).setCell (p := ⟨wo.heap.size, 1, none⟩) HBW.out.size (.int .i64 1)).setCell (p := ⟨wo.heap.size, 2, none⟩) HBW.out.size (.int .i64 R1))
         clear e1 e2 z0 z1 z2 z3 z4 z5 hz HZ3 HBLK3 HBW3
         generalize ((w3.setCell ⟨wo.heap.size, 0, none⟩ (.int .i64 BV)).setCell ⟨wo.heap.size, 1, none⟩ (.int .i64 1)).setCell ⟨wo.heap.size, 2, none⟩ (.int .i64 R1) = w9 at *
         generalize hGG : wo.heap.size = G at *
         clear hGG)
      | (have HG9 := Lib.hid (L.heap_alloc_self w3 (.cells #[.int .i64 BV, .int .i64 1, .int .i64 R1] 150 (0, 0)))
         have HF9 := Lib.hid (L.heap_alloc_old HBLK3.out (.cells #[.int .i64 BV, .int .i64 1, .int .i64 R1] 150 (0, 0)))
         have HB9 := Lib.hid (HBW3.out.alloc HBW3.out.size (.cells #[.int .i64 BV, .int .i64 1, .int .i64 R1] 150 (0, 0)))
         clear HBLK3 HBW3
         generalize w3.alloc (.cells #[.int .i64 BV, .int .i64 1, .int .i64 R1] 150 (0, 0)) = w9 at *
         generalize hGG : w3.heap.size = G at *
         clear hGG)
     clear t0 t1 t2 t3 t4 t5 HBT hBV
     obtain ⟨t0, t1, t2, t3, t4, t5⟩ := three_cells HF9.out
     obtain ⟨y0, y1, y2, _, _, _⟩ := three_cells HG9.out
     go_wp2_with (fail)
     refine (better_any BV 1 R1 T N R _).mono ?_
     rintro e w5 ⟨rfl, hb5⟩
     have hf5 := (hb5.block _ (blk_lt HF9.out)).trans HF9.out
     have hg5 := (hb5.block _ (blk_lt HG9.out)).trans HG9.out
     have HB10 := Lib.hid (Ints.bel_trans HB9.out HB9.out.size hb5)
     have HF10 := Lib.hid hf5
     clear t0 t1 t2 t3 t4 t5 y0 y1 y2
     obtain ⟨t0, t1, t2, t3, t4, t5⟩ := three_cells hf5
     obtain ⟨y0, y1, y2, _, _, _⟩ := three_cells hg5
     have hbi := better_iff R1 1 R N
     cases hbt : betterB (R1 : Int) ((1 : Nat) : Int) (R : Int) (N : Int)
     ·have hlx : lexLe R1 1 R N := by
       by_cases hx : lexLe R1 1 R N
       ·exact hx
       ·have := hbi.2 hx
        rw [hbt] at this
        cases this
      have hbt' : betterB (R1 : Int) 1 (R : Int) (N : Int) = false := hbt
      obtain ⟨r1, r2⟩ := end_phrase HOK.out ha HINV.out HSINV.out (.inr (by rw [HR1.out]; exact hlx))
      have HRR := Lib.hid r1
      have HRT := Lib.hid r2
      clear hb5 hf5 hg5 hbi hbt hbt' hlx r1 r2
      go_wp2_with (fail)
      go_quiet (fail)
      go_wp2_with (fail)
      go_ret2
      rw [HRR.out, HRT.out]
      exact ⟨below_drewN HB10.out _, rfl⟩
     ·have hlx : ¬ lexLe R1 1 R N := hbi.1 hbt
      have hbt' : betterB (R1 : Int) 1 (R : Int) (N : Int) = true := hbt
      obtain ⟨r1, r2⟩ := end_byte HOK.out ha HINV.out HSINV.out (by rw [HR1.out]; exact hlx)
      have HRR := Lib.hid r1
      have HRT := Lib.hid r2
      have e1 : (w5.setCell ⟨w.heap.size, 0, none⟩ (.int .i64 BV)).heap[w.heap.size]? = some (.cells #[.int .i64 BV, .int .i64 N, .int .i64 R] 150 (0, 0)) := by rw [heap_setCell_same _ _ 0 _ _ _ hf5]; rfl
      have e2 : ((w5.setCell ⟨w.heap.size, 0, none⟩ (.int .i64 BV)).setCell ⟨w.heap.size, 1, none⟩ (.int .i64 1)).heap[w.heap.size]? = some (.cells #[.int .i64 BV, .int .i64 1, .int .i64 R] 150 (0, 0)) := by rw [heap_setCell_same _ _ 1 _ _ _ e1]; rfl
      have e3 : (((w5.setCell ⟨w.heap.size, 0, none⟩ (.int .i64 BV)).setCell ⟨w.heap.size, 1, none⟩ (.int .i64 1)).setCell ⟨w.heap.size, 2, none⟩ (.int .i64 R1)).heap[w.heap.size]? = some (.cells #[.int .i64 BV, .int .i64 1, .int .i64 R1] 150 (0, 0)) := by rw [heap_setCell_same _ _ 2 _ _ _ e2]; rfl
      have HB11 := Lib.hid (((HB10.out.setCell (p := ⟨w.heap.size, 0, none⟩) (Nat.le_refl w.heap.size) (.int .i64 BV)).setCell (p := ⟨w.heap.size, 1, none⟩) (Nat.le_refl w.heap.size) (.int .i64 1)).setCell (p := ⟨w.heap.size, 2, none⟩) (Nat.le_refl w.heap.size) (.int .i64 R1))
      have HE3 := Lib.hid e3
      clear hb5 hf5 hg5 hbi hbt hbt' hlx r1 r2 e1 e2 e3
      go_wp2_with (fail)
      generalize ((w5.setCell ⟨w.heap.size, 0, none⟩ (.int .i64 BV)).setCell ⟨w.heap.size, 1, none⟩ (.int .i64 1)).setCell ⟨w.heap.size, 2, none⟩ (.int .i64 R1) = w11 at *
      clear t0 t1 t2 t3 t4 t5
      obtain ⟨t0, t1, t2, t3, t4, t5⟩ := three_cells HE3.out
      go_quiet (fail)
      go_wp2_with (fail)
      go_ret2
      rw [HRR.out, HRT.out, HBA.out]
      exact ⟨below_drewN HB11.out _, rfl⟩
   ·skip
    go_wp2_with (fail)
    have hzz := heap_alloc_self wo (.cells #[.int .i64 0, .int .i64 0, .int .i64 0] 150 (0, 0))
    have HZZ := Lib.hid hzz
    have HBLZ := Lib.hid (L.heap_alloc_old HBLK.out (.cells #[.int .i64 0, .int .i64 0, .int .i64 0] 150 (0, 0)))
    have HBWZ := Lib.hid (HBW.out.alloc HBW.out.size (.cells #[.int .i64 0, .int .i64 0, .int .i64 0] 150 (0, 0)))
    have HFG := Lib.hid (show w.heap.size ≠ wo.heap.size by omega)
    clear hzz
    obtain ⟨BV, HBA⟩ : ∃ BV, Hid (byteAt b a = BV) := ⟨_, rfl⟩
    have hBV : IntKind.i64.wrap (((b[a]'ha).toNat : Nat) : Int) = BV := by
     rw [← HBA.out, bt_byteAt b a ha]
     have := byteAt_lt b a
     simp [IntKind.wrap, IntKind.bits, IntKind.signed]
     omega
    go_region_law (first
     | (go_simp; go_at_call 91; refine (reach_in _ l b a 1 _ ((H.out.below HBW.out).below (below_drew (Below.refl _ _))) HOK.out hbs (by omega)).mono ?_; rintro e w3 ⟨hb3, rfl⟩; rw [HR1.out]; have HBLK3 := Lib.hid ((hb3.block _ (blk_lt HBLK.out)).trans HBLK.out); have HBW3 := Lib.hid (Ints.bel_trans (below_drew HBW.out) HBW.out.size hb3); have t6 := blk_lt HBLK3.out; clear hb3)
     | (go_simp; go_at_call 91; refine (reach_in _ l b a 1 _ ((H.out.below HBWZ.out).below (below_drew (Below.refl _ _))) HOK.out hbs (by omega)).mono ?_; rintro e w3 ⟨hb3, rfl⟩; rw [HR1.out]; have HBLK3 := Lib.hid ((hb3.block _ (blk_lt HBLZ.out)).trans HBLZ.out); have HBW3 := Lib.hid (Ints.bel_trans (below_drew HBWZ.out) HBWZ.out.size hb3); have hz3 := (hb3.block _ (blk_lt HZZ.out)).trans HZZ.out; obtain ⟨z0, z1, z2, z3, z4, z5⟩ := three_cells hz3; have HZ3 := Lib.hid hz3; have t6 := blk_lt HBLK3.out; clear hb3 hz3))
    all_goals
     first
      | (have hz := HZ3.out
         have z6 := blk_lt hz
         have e1 : (w3.setCell ⟨wo.heap.size, 0, none⟩ (.int .i64 BV)).heap[wo.heap.size]? = some (.cells #[.int .i64 BV, .int .i64 0, .int .i64 0] 150 (0, 0)) := by rw [heap_setCell_same _ _ 0 _ _ _ hz]; rfl
         have e2 : ((w3.setCell ⟨wo.heap.size, 0, none⟩ (.int .i64 BV)).setCell ⟨wo.heap.size, 1, none⟩ (.int .i64 1)).heap[wo.heap.size]? = some (.cells #[.int .i64 BV, .int .i64 1, .int .i64 0] 150 (0, 0)) := by rw [heap_setCell_same _ _ 1 _ _ _ e1]; rfl
         have HG9 := Lib.hid (show (((w3.setCell ⟨wo.heap.size, 0, none⟩ (.int .i64 BV)).setCell ⟨wo.heap.size, 1, none⟩ (.int .i64 1)).setCell ⟨wo.heap.size, 2, none⟩ (.int .i64 R1)).heap[wo.heap.size]? = some (.cells #[.int .i64 BV, .int .i64 1, .int .i64 R1] 150 (0, 0)) by rw [heap_setCell_same _ _ 2 _ _ _ e2]; rfl)
         have HF9 := Lib.hid (setCell_far (setCell_far (setCell_far HBLK3.out (p := ⟨wo.heap.size, 0, none⟩) HFG.out (.int .i64 BV)) (p := ⟨wo.heap.size, 1, none⟩) HFG.out (.int .i64 1)) (p := ⟨wo.heap.size, 2, none⟩) HFG.out (.int .i64 R1))
         have HB9 := Lib.hid (((HBW3.out.setCell (p := ⟨wo.heap.size, 0, none⟩) HBW.out.size (.int .i64 BV)).setCell (p := ⟨wo.heap.size, 1, none⟩) HBW.out.size (.int .i64 1)).setCell (p := ⟨wo.heap.size, 2, none⟩) HBW.out.size (.int .i64 R1))
         clear e1 e2 z0 z1 z2 z3 z4 z5 hz HZ3 HBLK3 HBW3
         generalize ((w3.setCell ⟨wo.heap.size, 0, none⟩ (.int .i64 BV)).setCell ⟨wo.heap.size, 1, none⟩ (.int .i64 1)).setCell ⟨wo.heap.size, 2, none⟩ (.int .i64 R1) = w9 at *
         generalize hGG : wo.heap.size = G at *
         clear hGG)
      | (have HG9 := Lib.hid (L.heap_alloc_self w3 (.cells #[.int .i64 BV, .int .i64 1, .int .i64 R1] 150 (0, 0)))
         have HF9 := Lib.hid (L.heap_alloc_old HBLK3.out (.cells #[.int .i64 BV, .int .i64 1, .int .i64 R1] 150 (0, 0)))
         have HB9 := Lib.hid (HBW3.out.alloc HBW3.out.size (.cells #[.int .i64 BV, .int .i64 1, .int .i64 R1] 150 (0, 0)))
         clear HBLK3 HBW3
         generalize w3.alloc (.cells #[.int .i64 BV, .int .i64 1, .int .i64 R1] 150 (0, 0)) = w9 at *
         generalize hGG : w3.heap.size = G at *
         clear hGG)
     clear t0 t1 t2 t3 t4 t5 HBT hBV
     obtain ⟨t0, t1, t2, t3, t4, t5⟩ := three_cells HF9.out
     obtain ⟨y0, y1, y2, _, _, _⟩ := three_cells HG9.out
     obtain ⟨r1, r2⟩ := end_phrase HOK.out ha HINV.out HSINV.out (.inl rfl)
     have HRR := Lib.hid r1
     have HRT := Lib.hid r2
     clear r1 r2
     go_wp2_with (fail)
     go_quiet (fail)
     go_wp2_with (fail)
     go_ret2
     rw [HRR.out, HRT.out]
     exact ⟨below_drewN HB9.out _, rfl⟩
end Go.Proofs.YtfbbcfhdjhiejaaGreat.Flex
namespace Go.Proofs.YtfbbcfhdjhiejaaGreat.Flex
set_option linter.unusedVariables false
set_option linter.unusedSimpArgs false
open Go.RowKit Go.Proofs.YtfbbcfhdjhiejaaGreatW.PrintWords Go.Proofs.YtfbbcfhdjhiejaaGreatW.PrintMore Go.Proofs.YtfbbcfhdjhiejaaGreat.L Go.Proofs.YtfbbcfhdjhiejaaGreat.Texts Go.Proofs.YtfbbcfhdjhiejaaGreat.Dict Go.Proofs.YtfbbcfhdjhiejaaGreat.Ints Go.Proofs.YtfbbcfhdjhiejaaGreat.Greedy
set_option maxRecDepth 100000 in
set_option maxHeartbeats 1000000 in
theorem parseF_any (p : Option Addr) (l : List ByteArray) (b : ByteArray) (w : World) (h : DP w p l) (hok : okTexts l) (hbs : b.size ≤ 1024) :
  Calls Tryz.prog 25 #[.pointer p, .string b] w fun e w' => ∃ v, e = .returned v ∧ KI.R 3 w' w.heap.size (fun _ => True) v (parseF l b) ∧ Below w.heap.size w w' := by
 have H := Lib.hid h
 have HOK := Lib.hid hok
 have hbi : (b.size : Int) ≤ 1024 := by omega
 clear h hok
 go_enter Tryz.func25, Tryz.ntmps25
 go_wp2_with (fail)
 go_loopg [5, 6] b.size (fun j v i wr => ∃ (a : Nat) (xs : List Int), i = .int .i64 a ∧ Hid (a + j = b.size ∧ xs.length ≤ a ∧ parseF l b = xs ++ fromF l b a ∧ KI.R 3 wr w.heap.size (fun _ => True) v xs ∧ Below w.heap.size w wr))
 case atStart => exact ⟨0, [], rfl, by omega, Nat.le_refl _, rfl, Kd.R_nil _ _ _ _ _, Below.refl _ _⟩
 case round =>
  obtain ⟨a, xs, rfl, HI⟩ := hrel
  obtain ⟨haj, hxa, hgo, hr, hb⟩ := HI.out
  by_cases hlt : a < b.size
  ·have hlti : (a : Int) < (b.size : Int) := by omega
   have hst := fromF_step l b a hlt
   have hf1 := best_pos l b a hlt
   have hf2 := best_fits l b a hlt
   obtain ⟨F, hF⟩ : ∃ F, bestLen l b a = F := ⟨_, rfl⟩
   rw [hF] at hst hf1 hf2
   obtain ⟨T, hT⟩ : ∃ T, tokenOf l b a F = T := ⟨_, rfl⟩
   rw [hT] at hst
   rw [hst] at hgo
   have HT := Lib.hid hT
   have HF := Lib.hid hF
   have HGO := Lib.hid hgo
   have HXA := Lib.hid hxa
   have HAJ := Lib.hid haj
   have HR := Lib.hid hr
   have HB := Lib.hid hb
   obtain ⟨A5, c5, rfl⟩ := Kd.R_slice hr
   have S1 := Lib.hid (show ((a + F : Nat) : Int) = (a : Int) + (F : Int) by omega)
   clear hst hgo hxa haj hr hb hT hF HI
   go_wp2_with (fail)
   refine (nextF_some _ l b a _ (H.out.below HB.out) HOK.out hlt (by omega)).mono ?_
   rintro e w1 ⟨hb1, rfl⟩
   rw [HF.out, HT.out]
   have HB1 := Lib.hid (Ints.bel_trans HB.out HB.out.size hb1)
   have HR1 := Lib.hid (Kd.R_below HR.out hb1)
   clear hb1 HB HR
   go_wp2_with (((with_reducible refine gate_builtin (b := .append) (xs := #[.tmp 23, .tmp 25]) rfl ?_); at_builtin; apply stopper))
   unfold Stopper
   refine Kd.R_append KI (w0 := w) w.heap.size rfl (.tmp 23) (.tmp 25) 26 3 (.int .i64 0) 8 rfl Tryz.underlying26 infoInt rfl (by decide) (by omega) (.slice A5 xs.length c5) xs T [.int .i64 T] (fun _ => True) (fun _ => False) rfl rfl rfl (fun _ hk => hk.elim) (fun _ _ => trivial) HR1.out HB1.out HB1.out.size (by have := HXA.out; omega) ?_
   intro v1 w2 ho hb2 hg2 hat2
   have HR2 := Lib.hid ho
   have HB2 := Lib.hid hb2
   clear ho hb2 hg2 hat2 HR1 HB1
   go_wp2
   go_roundg (b.size - (a + F))
   case measure => have := HAJ.out; omega
   case rel => exact ⟨a + F, xs ++ [T], by rw [S1.out], by omega, by rw [List.length_append]; have := HXA.out; simp; omega, by rw [HGO.out, List.append_assoc]; rfl, HR2.out, HB2.out⟩
  ·have hge : (b.size : Int) ≤ (a : Int) := by omega
   rw [fromF_end l b a (by omega), List.append_nil] at hgo
   have HGO := Lib.hid hgo
   have HR := Lib.hid hr
   have HB := Lib.hid hb
   clear hgo hr hb HI haj hxa
   go_wp2_with (fail)
   go_ret
   exact ⟨_, rfl, by rw [HGO.out]; exact HR.out, HB.out⟩
end Go.Proofs.YtfbbcfhdjhiejaaGreat.Flex

/- Whole numbers below 2^53 as floats: adding, comparing and turning back are exact. No program in sight. -/
namespace Go.Proofs.YtfbbcfhdjhiejaaGreat.Fl
set_option linter.unusedVariables false
set_option linter.unusedSimpArgs false
open Ieee
abbrev D : Format := double
/-- The word of a whole number. -/
def fl (n : Nat) : Nat := D.nearest false n 0
def big : Nat := 9007199254740992
theorem big_eq : big = 2 ^ 53 := by decide
theorem cut_zero_gap (way : Toward) (m : Nat) (hz : way = .even ∨ way = .zero) : way.cut false m 0 = m := by
 have h1 : Nat.min 0 (m.log2 + 2) = 0 := Nat.min_eq_left (Nat.zero_le _)
 unfold Toward.cut
 rcases hz with rfl | rfl <;> simp [Nat.mod_one]
theorem cut_exact (way : Toward) (n d : Nat) (hz : way = .even ∨ way = .zero) : way.cut false (n * 2 ^ d) d = n := by
 by_cases hn : n = 0
 ·subst hn
  have hg : 0 < 1 <<< min d ((0 * 2 ^ d).log2 + 2) := by rw [Nat.shiftLeft_eq, Nat.one_mul]; exact Nat.two_pow_pos _
  unfold Toward.cut
  rcases hz with rfl | rfl <;> simp
 ·have hpos : n * 2 ^ d ≠ 0 := by have := Nat.two_pow_pos d; exact Nat.mul_ne_zero hn (by omega)
  have hl : d ≤ (n * 2 ^ d).log2 := (Nat.le_log2 hpos).2 (Nat.le_mul_of_pos_left _ (by omega))
  have hm : min d ((n * 2 ^ d).log2 + 2) = d := Nat.min_eq_left (by omega)
  have hd : n * 2 ^ d / 2 ^ d = n := Nat.mul_div_cancel _ (Nat.two_pow_pos d)
  have hr : n * 2 ^ d % 2 ^ d = 0 := Nat.mul_mod_left _ _
  unfold Toward.cut
  rw [hm, Nat.shiftLeft_eq, Nat.one_mul]
  simp only [hd, hr]
  have hp := Nat.two_pow_pos d
  rcases hz with rfl | rfl
  ·have h1 : decide (2 ^ d < 2 * 0) = false := decide_eq_false (by omega)
   have h2 : (2 ^ d == 2 * 0) = false := by simp
   simp [h1, h2]
  ·simp
theorem log2_mul_pow (n j : Nat) (hn : n ≠ 0) : (n * 2 ^ j).log2 = n.log2 + j := by
 have hpos : n * 2 ^ j ≠ 0 := Nat.mul_ne_zero hn (by have := Nat.two_pow_pos j; omega)
 have h1 : n.log2 + j ≤ (n * 2 ^ j).log2 := (Nat.le_log2 hpos).2 (by rw [Nat.pow_add]; exact Nat.mul_le_mul_right _ (Nat.log2_self_le hn))
 have h2 : (n * 2 ^ j).log2 < n.log2 + j + 1 := (Nat.log2_lt hpos).2 (by
  rw [show n.log2 + j + 1 = n.log2 + 1 + j by omega, Nat.pow_add]
  exact Nat.mul_lt_mul_of_pos_right Nat.lt_log2_self (Nat.two_pow_pos j))
 omega
theorem least_eq : D.leastPlace = -1074 := by decide
/-- The rung of a whole number. -/
def rungOf (n : Nat) : Nat := if n = 0 then 0 else (n.log2 + 1022) * 4503599627370496 + n * 2 ^ (52 - n.log2)
theorem log2_lt {n : Nat} (h : n < big) (hn : n ≠ 0) : n.log2 < 53 := (Nat.log2_lt hn).2 (by rw [← big_eq]; exact h)
theorem norm_bounds {n : Nat} (h : n < big) (hn : n ≠ 0) : 4503599627370496 ≤ n * 2 ^ (52 - n.log2) ∧ n * 2 ^ (52 - n.log2) < 9007199254740992 := by
 have hl := log2_lt h hn
 have h1 : 2 ^ n.log2 ≤ n := Nat.log2_self_le hn
 have h2 : n < 2 ^ (n.log2 + 1) := Nat.lt_log2_self
 have hp := Nat.two_pow_pos (52 - n.log2)
 constructor
 ·calc 4503599627370496 = 2 ^ n.log2 * 2 ^ (52 - n.log2) := by rw [← Nat.pow_add, show n.log2 + (52 - n.log2) = 52 by omega]
   _ ≤ n * 2 ^ (52 - n.log2) := Nat.mul_le_mul_right _ h1
 ·calc n * 2 ^ (52 - n.log2) < 2 ^ (n.log2 + 1) * 2 ^ (52 - n.log2) := Nat.mul_lt_mul_of_pos_right h2 hp
   _ = 9007199254740992 := by rw [← Nat.pow_add, show n.log2 + 1 + (52 - n.log2) = 53 by omega]
theorem rung_lt {n : Nat} (h : n < big) : rungOf n < 2047 * 4503599627370496 := by
 unfold rungOf
 by_cases hn : n = 0
 ·rw [if_pos hn]; decide
 ·rw [if_neg hn]
  have hl := log2_lt h hn
  have := (norm_bounds h hn).2
  have h2 : (n.log2 + 1022) * 4503599627370496 ≤ (52 + 1022) * 4503599627370496 := Nat.mul_le_mul_right _ (by omega)
  omega
/-- A whole number is written alike, however many places it is given with. -/
theorem write_whole (n j : Nat) (h : n < big) : D.nearest false (n * 2 ^ j) (-(j : Int)) = rungOf n := by
 by_cases hn : n = 0
 ·subst hn
  simp [Format.nearest, rungOf, Format.word]
 ·have hpos : n * 2 ^ j ≠ 0 := Nat.mul_ne_zero hn (by have := Nat.two_pow_pos j; omega)
  have hl := log2_lt h hn
  have hlog := log2_mul_pow n j hn
  have hf : (D.fractionBits : Int) = 52 := rfl
  have hb : D.binade = 4503599627370496 := by decide
  have hinf : D.infRung = 2047 * 4503599627370496 := by decide
  have hlast : max (-(j : Int) + ((n * 2 ^ j).log2 : Int) - (D.fractionBits : Int)) D.leastPlace = (n.log2 : Int) - 52 := by
   rw [hlog, hf, least_eq]
   omega
  have hkept : Toward.even.cut false ((n * 2 ^ j) <<< (-(j : Int) - ((n.log2 : Int) - 52)).toNat) (((n.log2 : Int) - 52) - -(j : Int)).toNat = n * 2 ^ (52 - n.log2) := by
   by_cases hj : j ≤ 52 - n.log2
   ·rw [show (-(j : Int) - ((n.log2 : Int) - 52)).toNat = 52 - n.log2 - j by omega, show (((n.log2 : Int) - 52) - -(j : Int)).toNat = 0 by omega, cut_zero_gap _ _ (.inl rfl), Nat.shiftLeft_eq, Nat.mul_assoc, ← Nat.pow_add, show j + (52 - n.log2 - j) = 52 - n.log2 by omega]
   ·rw [show (-(j : Int) - ((n.log2 : Int) - 52)).toNat = 0 by omega, show (((n.log2 : Int) - 52) - -(j : Int)).toNat = j - (52 - n.log2) by omega, Nat.shiftLeft_zero]
    rw [show n * 2 ^ j = n * 2 ^ (52 - n.log2) * 2 ^ (j - (52 - n.log2)) by rw [Nat.mul_assoc, ← Nat.pow_add, show 52 - n.log2 + (j - (52 - n.log2)) = j by omega]]
    exact cut_exact _ _ _ (.inl rfl)
  unfold Format.nearest
  rw [if_neg hpos]
  simp only [hlast, hkept]
  have hr := rung_lt h
  have hro : rungOf n = (n.log2 + 1022) * 4503599627370496 + n * 2 ^ (52 - n.log2) := by unfold rungOf; rw [if_neg hn]
  have hlp : (((n.log2 : Int) - 52) - D.leastPlace).toNat = n.log2 + 1022 := by rw [least_eq]; omega
  rw [hlp, hb, hinf, ← hro]
  unfold Format.word
  rw [if_neg (by decide)]
  exact Nat.min_eq_left (by omega)
theorem fl_eq {n : Nat} (h : n < big) : fl n = rungOf n := by
 have := write_whole n 0 h
 simpa [fl] using this
set_option exponentiation.threshold 2000 in
theorem read_fl {n : Nat} (h : n < big) : ∃ j : Nat, D.read (fl n) = .number false (n * 2 ^ j) (-(j : Int)) := by
 rw [fl_eq h]
 have hr := rung_lt h
 have hsw : D.signWeight = 9223372036854775808 := by decide
 have hb : D.binade = 4503599627370496 := by decide
 have hinf : D.infRung = 2047 * 4503599627370496 := by decide
 have hdiv : rungOf n / D.signWeight = 0 := Nat.div_eq_of_lt (by rw [hsw]; omega)
 have hmod : rungOf n % D.signWeight = rungOf n := Nat.mod_eq_of_lt (by rw [hsw]; omega)
 unfold Format.read
 simp only [hdiv, hmod, hb, hinf, least_eq]
 by_cases hn : n = 0
 ·subst hn
  refine ⟨1074, ?_⟩
  rw [show rungOf 0 = 0 from rfl, if_pos (by decide), Nat.zero_mul]
  rfl
 ·have hl := log2_lt h hn
  obtain ⟨h1, h2⟩ := norm_bounds h hn
  have hro : rungOf n = (n.log2 + 1022) * 4503599627370496 + n * 2 ^ (52 - n.log2) := by unfold rungOf; rw [if_neg hn]
  obtain ⟨M, hM⟩ : ∃ M, n * 2 ^ (52 - n.log2) = M := ⟨_, rfl⟩
  rw [hM] at h1 h2 hro
  have d1 : rungOf n / 4503599627370496 = n.log2 + 1023 := by omega
  have d2 : rungOf n % 4503599627370496 = M - 4503599627370496 := by omega
  have g1 : ¬ rungOf n < 4503599627370496 := by omega
  refine ⟨52 - n.log2, ?_⟩
  rw [if_neg g1, if_pos hr, d1, d2, hM]
  have e1 : 4503599627370496 + (M - 4503599627370496) = M := by omega
  have e2 : ((-1074 : Int) + ((n.log2 + 1023 - 1 : Nat) : Int)) = -((52 - n.log2 : Nat) : Int) := by omega
  rw [e1, e2]
  rfl
theorem shift_mul (a i k : Nat) (h : i ≤ k) : (a * 2 ^ i) <<< (k - i) = a * 2 ^ k := by
 rw [Nat.shiftLeft_eq, Nat.mul_assoc, ← Nat.pow_add, show i + (k - i) = k by omega]
theorem add_fl {a b : Nat} (h : a + b < big) : D.add (fl a) (fl b) = some (fl (a + b)) := by
 obtain ⟨i, hi⟩ := read_fl (n := a) (by omega)
 obtain ⟨j, hj⟩ := read_fl (n := b) (by omega)
 unfold Format.add
 rw [hi, hj]
 simp only [Datum.sum, Option.map_some]
 have hb : min (-(i : Int)) (-(j : Int)) = -((max i j : Nat) : Int) := by omega
 have e1 : (-(i : Int) - -((max i j : Nat) : Int)).toNat = max i j - i := by omega
 have e2 : (-(j : Int) - -((max i j : Nat) : Int)).toNat = max i j - j := by omega
 rw [hb, e1, e2]
 simp only [signed, Bool.false_eq_true, if_false]
 rw [shift_mul a i _ (by omega), shift_mul b j _ (by omega)]
 have hs : ((a * 2 ^ (max i j) : Nat) : Int) + ((b * 2 ^ (max i j) : Nat) : Int) = (((a + b) * 2 ^ (max i j) : Nat) : Int) := by rw [Nat.add_mul]; omega
 rw [hs, Int.natAbs_natCast]
 have hneg : (if (((a + b) * 2 ^ (max i j) : Nat) : Int) = 0 then (false && false) else decide ((((a + b) * 2 ^ (max i j) : Nat) : Int) < 0)) = false := by
  split
  ·rfl
  ·exact decide_eq_false (by omega)
 rw [hneg]
 show some (D.nearest false ((a + b) * 2 ^ (max i j)) (-((max i j : Nat) : Int))) = _
 rw [write_whole _ _ h, fl_eq h]
theorem order_fl {a b : Nat} (ha : a < big) (hb : b < big) : D.order (fl a) (fl b) = some (compare a b) := by
 obtain ⟨i, hi⟩ := read_fl ha
 obtain ⟨j, hj⟩ := read_fl hb
 unfold Format.order
 rw [hi, hj]
 simp only [Datum.order]
 have hb : min (-(i : Int)) (-(j : Int)) = -((max i j : Nat) : Int) := by omega
 have e1 : (-(i : Int) - -((max i j : Nat) : Int)).toNat = max i j - i := by omega
 have e2 : (-(j : Int) - -((max i j : Nat) : Int)).toNat = max i j - j := by omega
 rw [hb, e1, e2]
 simp only [signed, Bool.false_eq_true, if_false]
 rw [shift_mul a i _ (by omega), shift_mul b j _ (by omega)]
 have hp := Nat.two_pow_pos (max i j)
 congr 1
 rcases Nat.lt_trichotomy a b with h | h | h
 ·have h2 : a * 2 ^ (max i j) < b * 2 ^ (max i j) := Nat.mul_lt_mul_of_pos_right h hp
  rw [Nat.compare_eq_lt.2 h]
  exact Int.compare_eq_lt.2 (by omega)
 ·subst h
  rw [Nat.compare_eq_eq.2 rfl]
  exact Int.compare_eq_eq.2 rfl
 ·have h2 : b * 2 ^ (max i j) < a * 2 ^ (max i j) := Nat.mul_lt_mul_of_pos_right h hp
  rw [Nat.compare_eq_gt.2 h]
  exact Int.compare_eq_gt.2 (by omega)
theorem near_fl (a : Nat) : Go.FloatKind.f64.nearest (a : Int) = fl a := by
 unfold Go.FloatKind.nearest Go.FloatKind.encode
 have : decide ((a : Int) < 0) = false := decide_eq_false (by omega)
 rw [this, Int.natAbs_natCast]
 rfl
theorem eq_fl {a b : Nat} (ha : a < big) (hb : b < big) : (D.order (fl a) (fl b) == some Ordering.eq) = decide (a = b) := by
 rw [order_fl ha hb]
 by_cases h : a = b
 ·subst h; simp
 ·rw [decide_eq_false h]
  have : compare a b ≠ .eq := fun e => h (Nat.compare_eq_eq.1 e)
  simpa using this
theorem lt_fl {a b : Nat} (ha : a < big) (hb : b < big) : (D.order (fl a) (fl b) == some Ordering.lt) = decide (a < b) := by
 rw [order_fl ha hb]
 by_cases h : a < b
 ·rw [decide_eq_true h, Nat.compare_eq_lt.2 h]; rfl
 ·rw [decide_eq_false h]
  have : compare a b ≠ .lt := fun e => h (Nat.compare_eq_lt.1 e)
  simpa using this
end Go.Proofs.YtfbbcfhdjhiejaaGreat.Fl

/- Chapter 12: what tokens cost (over an own contract of vari.Len). -/
namespace Go.Proofs.YtfbbcfhdjhiejaaGreat.Cost
set_option linter.unusedVariables false
set_option linter.unusedSimpArgs false
open Go.RowKit Go.Proofs.YtfbbcfhdjhiejaaGreatW.PrintWords Go.Proofs.YtfbbcfhdjhiejaaGreatW.PrintMore Go.Proofs.YtfbbcfhdjhiejaaGreatW.PrintLast Go.Proofs.YtfbbcfhdjhiejaaGreat.L Go.Proofs.YtfbbcfhdjhiejaaGreat.Ints Go.Proofs.YtfbbcfhdjhiejaaGreat.Fl Go.Proofs.YtfbbcfhdjhiejaaGreat.VariSpec
def vlen (n : Int) : Nat := if 0 ≤ n ∧ n ≤ 4294967295 then (encN 4 n).length else 0
theorem vlen_le (n : Int) : vlen n ≤ 5 := by
 unfold vlen
 split
 ·exact (encN_len 4 n).2
 ·omega
theorem vlen_pos (n : Int) : 0 < vlen n ↔ 0 ≤ n ∧ n ≤ 4294967295 := by
 unfold vlen
 split
 ·rename_i h
  exact ⟨fun _ => h, fun _ => (encN_len 4 n).1⟩
 ·rename_i h
  exact ⟨fun h2 => absurd h2 (by decide), fun h2 => absurd h2 h⟩
theorem len_any (n : Int) (w : World) : Calls Tryz.prog 124 #[.int .i64 n] w fun e w' => e = .returned (.int .i64 (vlen n : Nat)) ∧ Below w.heap.size w w' := by
 have h : ((Vari.numS n).size : Nat) = vlen n := by
  have := Vari.vlen_size n
  unfold vlen
  split
  ·rename_i h; rw [if_pos h] at this; omega
  ·rename_i h; rw [if_neg h] at this; omega
 rw [← h]
 exact Vari.len_any n w
/-- A cost as the program has it. -/
def cx (T B : Nat) : Value := .complex .f64 (fl T) (fl B)
def cT (n : Int) : Nat := if vlen n = 0 then 0 else 1
theorem fl_zero : fl 0 = 0 := by decide
theorem fl_one : fl 1 = 4607182418800017408 := by decide +kernel
theorem fl_most : fl 1099511627776 = 4787326403894837248 := by decide +kernel
theorem of_any (n : Int) (w : World) : Calls Tryz.prog 95 #[.int .i64 n] w fun e w' => e = .returned (cx (cT n) (8 * vlen n)) ∧ Below w.heap.size w w' := by
 have hl := vlen_le n
 obtain ⟨v, hv⟩ : ∃ v, vlen n = v := ⟨_, rfl⟩
 rw [hv] at hl
 have HV := Lib.hid hv
 by_cases h0 : v = 0
 ·subst h0
  have hr := Lib.hid (show cx (cT n) (8 * vlen n) = .complex .f64 0 0 by unfold cx cT; rw [hv, if_pos rfl]; rfl)
  clear hv
  go_enter Tryz.func95, Tryz.ntmps95
  go_wp2_with (fail)
  refine (len_any n _).mono ?_
  rintro e w1 ⟨rfl, hb⟩
  rw [HV.out]
  go_wp2_with (fail)
  go_ret
  rw [hr.out]
  exact ⟨rfl, hb⟩
 ·have hr := Lib.hid (show cx (cT n) (8 * vlen n) = .complex .f64 4607182418800017408 (fl (8 * v)) by unfold cx cT; rw [hv, if_neg h0, fl_one])
  have e0 : ((v : Int) == 0) = false := beq_eq_false_iff_ne.2 (by omega)
  have hf := Lib.hid (show floatOfInt .f64 (8 * (v : Int)) = fl (8 * v) from near_fl (8 * v))
  clear hv
  go_enter Tryz.func95, Tryz.ntmps95
  go_wp2_with (fail)
  refine (len_any n _).mono ?_
  rintro e w1 ⟨rfl, hb⟩
  rw [HV.out]
  go_wp2_with (fail)
  go_ret
  rw [hr.out, ← hf.out]
  exact ⟨rfl, hb⟩
theorem most_any (w : World) : Calls Tryz.prog 93 #[] w fun e w' => e = .returned (cx 1099511627776 1099511627776) ∧ w' = w := by
 have hr := Lib.hid (show cx 1099511627776 1099511627776 = .complex .f64 4787326403894837248 4787326403894837248 by unfold cx; rw [fl_most])
 go_enter Tryz.func93, Tryz.ntmps93
 go_wp2_with (fail)
 go_ret
 rw [hr.out]
 exact ⟨rfl, rfl⟩
def lessB (T B U C : Nat) : Bool := if T = U then decide (B < C) else decide (T < U)
theorem less_any (T B U C : Nat) (w : World) (h1 : T < big) (h2 : B < big) (h3 : U < big) (h4 : C < big) : Calls Tryz.prog 96 #[cx T B, cx U C] w fun e w' => e = .returned (.bool (lessB T B U C)) ∧ w' = w := by
 have e0 : (FloatKind.f64.format.order (fl T) (fl U) == some Ordering.eq) = decide (T = U) := eq_fl h1 h3
 have e1 : (FloatKind.f64.format.order (fl T) (fl U) != some Ordering.eq) = !decide (T = U) := by rw [bne, e0]
 have e2 : (FloatKind.f64.format.order (fl T) (fl U) == some Ordering.lt) = decide (T < U) := lt_fl h1 h3
 have e3 : (FloatKind.f64.format.order (fl B) (fl C) == some Ordering.lt) = decide (B < C) := lt_fl h2 h4
 have E2 := Lib.hid e2
 have E3 := Lib.hid e3
 clear e0 e2 e3
 by_cases h : T = U
 ·have hr := Lib.hid (show lessB T B U C = decide (B < C) from if_pos h)
  rw [decide_eq_true h] at e1
  clear h
  go_enter Tryz.func96, Tryz.ntmps96
  unfold cx
  go_wp2_with (fail)
  go_ret
  rw [hr.out, ← E3.out]
  exact ⟨rfl, rfl⟩
 ·have hr := Lib.hid (show lessB T B U C = decide (T < U) from if_neg h)
  rw [decide_eq_false h] at e1
  clear h
  go_enter Tryz.func96, Tryz.ntmps96
  unfold cx
  go_wp2_with (fail)
  go_ret
  rw [hr.out, ← E2.out]
  exact ⟨rfl, rfl⟩
/-! ### sums -/
def sumT (l : List Int) : Nat := l.foldl (fun n x => n + cT x) 0
def sumB (l : List Int) : Nat := l.foldl (fun n x => n + 8 * vlen x) 0
theorem foldl_shift (f : Int → Nat) : ∀ (l : List Int) (n : Nat), l.foldl (fun n x => n + f x) n = n + l.foldl (fun n x => n + f x) 0
 | [], n => by simp
 | x :: l, n => by
   simp only [List.foldl_cons]
   rw [foldl_shift f l (n + f x), foldl_shift f l (0 + f x)]
   omega
theorem sumT_append (a b : List Int) : sumT (a ++ b) = sumT a + sumT b := by
 unfold sumT
 rw [List.foldl_append, foldl_shift]
theorem sumB_append (a b : List Int) : sumB (a ++ b) = sumB a + sumB b := by
 unfold sumB
 rw [List.foldl_append, foldl_shift]
theorem addc_fl {T B U C : Nat} (h1 : T + U < big) (h2 : B + C < big) (W : World) : (binOp .add 154 (.complex .f64 (fl T) (fl B)) (.complex .f64 (fl U) (fl C))).run Tryz.prog W = .ok (.complex .f64 (fl (T + U)) (fl (B + C))) W := by
 refine run_complex_sum W .add (.inl rfl) _ .f64 _ _ _ _ _ _ ?_
 have e1 : floatBits .add .f64 (fl T) (fl U) = some (fl (T + U)) := add_fl h1
 have e2 : floatBits .add .f64 (fl B) (fl C) = some (fl (B + C)) := add_fl h2
 unfold cSumBits
 rw [e1, e2]
 rfl
end Go.Proofs.YtfbbcfhdjhiejaaGreat.Cost
