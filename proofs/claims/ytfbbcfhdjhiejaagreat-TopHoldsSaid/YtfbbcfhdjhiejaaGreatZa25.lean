/- Of the parts Works, TopBest, OpenTexts, TopHolds: what the rows use. -/
import Derived.Test.YtfbbcfhdjhiejaaGreatZa1
import Derived.Test.YtfbbcfhdjhiejaaGreatZa5
import Derived.Test.YtfbbcfhdjhiejaaGreatZa23
import Derived.Test.YtfbbcfhdjhiejaaGreatZa24
import Derived.SliceStrings
import Derived.SizedLaws
import Derived.ChangeSlices
/- The piece of all that matters works. -/
namespace Go.Proofs.YtfbbcfhdjhiejaaGreat.Top
set_option linter.unusedVariables false
open Go.RowKit Go.Proofs.YtfbbcfhdjhiejaaGreatW.PrintWords Go.Proofs.YtfbbcfhdjhiejaaGreatW.PrintMore Go.Proofs.YtfbbcfhdjhiejaaGreat.L Go.Proofs.YtfbbcfhdjhiejaaGreat.Texts
theorem lens_all : LensAll := fun ts hc h2 hl W A c hK => by
 have h := Srt.ref_lens A c (Blk.hst l5 ts) W (by rw [Blk.hst_length]; exact hK) (by rw [Blk.hst_length]; decide) (Blk.hst_ok l5 ts hl) h2
 rw [Blk.hst_length] at h
 exact h
theorem works (w : World) : Calls Tryz.prog 13 #[] w fun e w' => e = .returned (.bool true) ∧ Below w.heap.size w w' := works_any lens_all w
end Go.Proofs.YtfbbcfhdjhiejaaGreat.Top

/- The whole: of all ways of parsing best takes the fewest tokens; each means what was written; within each window. -/
namespace Go.Proofs.YtfbbcfhdjhiejaaGreat.Top
set_option linter.unusedVariables false
set_option linter.unusedSimpArgs false
open Go.RowKit Go.Proofs.YtfbbcfhdjhiejaaGreatW.PrintWords Go.Proofs.YtfbbcfhdjhiejaaGreatW.PrintMore Go.Proofs.YtfbbcfhdjhiejaaGreat.L Go.Proofs.YtfbbcfhdjhiejaaGreat.Texts Go.Proofs.YtfbbcfhdjhiejaaGreat.Dict Go.Proofs.YtfbbcfhdjhiejaaGreat.Ints Go.Proofs.YtfbbcfhdjhiejaaGreat.Greedy Go.Proofs.YtfbbcfhdjhiejaaGreat.Best Go.Proofs.YtfbbcfhdjhiejaaGreat.Say
theorem dict_has {e : Ending} {w1 : World} {l : List ByteArray} {b : ByteArray} (h : (dictIn l b ∧ ∃ k, e = .returned (.tuple #[.pointer (some ⟨k, 0, none⟩), .bool true]) ∧ DC w1 k l) ∨ (¬ dictIn l b ∧ e = .returned (.tuple #[.pointer none, .bool false]))) :
  (∃ k, e = .returned (.tuple #[.pointer (some ⟨k, 0, none⟩), .bool true]) ∧ Hid (DC w1 k l) ∧ Hid (DP w1 (some ⟨k, 0, none⟩) l) ∧ Hid (okTexts l) ∧ b.size ≤ 400) ∨ e = .returned (.tuple #[.pointer none, .bool false]) := by
 rcases h with ⟨hin, k, rfl, hd⟩ | ⟨_, rfl⟩
 ·exact .inl ⟨k, rfl, hd, .inr ⟨k, rfl, hd⟩, hin.2.2, hin.2.1⟩
 ·exact .inr rfl
set_option maxRecDepth 100000 in
set_option maxHeartbeats 8000000 in
theorem TopBest_walk (A : Option Addr) (l : List ByteArray) (c : Nat) (b : ByteArray) (win : Int) (w : World)
  (hl : KS.C w A l.length l) (hc : l.length ≤ c) (h16 : l.length * 16 ≤ 140737488351232) (hs : ∀ s ∈ l, s.size ≤ 140737488351232) (hbs : b.size ≤ 140737488351232) (hwin : (Lit.int .i64 win).wf = true) :
  Calls Tryz.prog 6 #[.slice A l.length c, .string b, .int .i64 win] w fun e w' => e = .returned (.bool true) ∧ Below w.heap.size w w' := by
 have HL := Lib.hid hl
 have HS := Lib.hid hs
 clear hl hs hwin
 go_enter Tryz.func6, Tryz.ntmps6
 go_wp2_with (fail)
 refine (works _).mono ?_
 rintro e w0 ⟨rfl, hb0⟩
 have HB0 := Lib.hid hb0
 have HL0 := Lib.hid (Kd.C_below HL.out hb0)
 clear hb0 HL
 go_wp2_with (fail)
 refine (dict_any _ _ _ l _ _ HL0.out HS.out).mono ?_
 rintro e w1 ⟨hb1, hcase⟩
 have HB1 := Lib.hid (Ints.bel_trans HB0.out HB0.out.size hb1)
 have HL1 := Lib.hid (Kd.C_below HL0.out hb1)
 clear hb1 HB0 HL0 HS
 rcases dict_has hcase with ⟨dk, rfl, -, HD, HOK, hb400⟩ | rfl
 ·clear hcase hbs
  have hbi : (b.size : Int) ≤ 400 := by omega
  by_cases hwn : 1 ≤ win ∧ win ≤ 1024
  ·obtain ⟨wn1, wn2⟩ := hwn
   obtain ⟨W, rfl⟩ := Int.eq_ofNat_of_zero_le (by omega : 0 ≤ win)
   have W1 : 1 ≤ W := by omega
   have W2 : W ≤ 1024 := by omega
   obtain ⟨M, hM⟩ : ∃ M, max b.size 1 = M := ⟨_, rfl⟩
   have hMi : max (b.size : Int) 1 = (M : Int) := by omega
   have M1 : 1 ≤ M := by omega
   have M2 : M ≤ 1024 := by omega
   have MB : b.size ≤ M := by omega
   clear hM
   have HTG := Lib.hid (tiles_greedy HOK.out b)
   have HTF := Lib.hid (tiles_flex HOK.out b)
   have HTY := Lib.hid (best_tiles HOK.out W1 b.size b (Nat.le_refl _) (by omega))
   have htx := toks_tiles HOK.out (s := b) (by omega)
   have HTL := Lib.hid (fun (ts : List Int) (h : Tiles l b ts) => (toks_least HOK.out (s := b) (by omega) h).1)
   have hbo := best_one (l := l) (win := M) (b := b) M1 MB
   obtain ⟨g, hg⟩ : ∃ x, Greedy.parse l b = x := ⟨_, rfl⟩
   obtain ⟨f, hf⟩ : ∃ x, Flex.parseF l b = x := ⟨_, rfl⟩
   obtain ⟨x, hx⟩ : ∃ x, toks l b 0 = x := ⟨_, rfl⟩
   obtain ⟨y, hy⟩ : ∃ x, best l W b = x := ⟨_, rfl⟩
   rw [hg] at HTG
   rw [hf] at HTF
   rw [hy] at HTY
   rw [hx] at htx HTL hbo
   have lgf := tiles_few HOK.out.1 g HTG.out
   have lff := tiles_few HOK.out.1 f HTF.out
   have lxf := tiles_few HOK.out.1 x htx.1
   have lyf := tiles_few HOK.out.1 y HTY.out
   have HSG := Lib.hid (says_of HTG.out.1 HTG.out.2)
   have HSF := Lib.hid (says_of HTF.out.1 HTF.out.2)
   have HSX := Lib.hid (says_of htx.1.1 htx.1.2)
   have HSY := Lib.hid (says_of HTY.out.1 HTY.out.2)
   have HFG := Lib.hid lgf.2
   have HFF := Lib.hid lff.2
   have HFX := Lib.hid lxf.2
   have HFY := Lib.hid lyf.2
   have xg : ¬ ((g.length : Int) < (x.length : Int)) := by have := HTL.out g HTG.out; omega
   have xf : ¬ ((f.length : Int) < (x.length : Int)) := by have := HTL.out f HTF.out; omega
   have xy : (x.length : Int) ≤ (y.length : Int) := by have := HTL.out y HTY.out; omega
   have lg : g.length ≤ 400 := by omega
   have lf : f.length ≤ 400 := by omega
   have lx : x.length ≤ 400 := by omega
   have ly : y.length ≤ 400 := by omega
   have HG := Lib.hid hg
   have HF := Lib.hid hf
   have HBO := Lib.hid hbo
   have HY := Lib.hid hy
   clear hg hf hbo hy hx htx lgf lff lxf lyf HTG HTF HTY HTL
   go_wp2_with (fail)
   refine (Greedy.parse_any _ l b _ HD.out HOK.out (by omega)).mono ?_
   rintro e w2 ⟨vg, rfl, hr, hb2⟩
   rw [HG.out] at hr
   obtain ⟨A2, c2, rfl⟩ := Kd.R_slice hr
   have HC2 := Lib.hid (Kd.R_reads' hr).2.2
   have HB2 := Lib.hid (Ints.bel_trans HB1.out HB1.out.size hb2)
   have HD2 := Lib.hid (HD.out.below hb2)
   have HL2 := Lib.hid (Kd.C_below HL1.out hb2)
   clear hr hb2 HB1 HD HL1
   go_wp2_with (fail)
   refine (Flex.parseF_any _ l b _ HD2.out HOK.out (by omega)).mono ?_
   rintro e w3 ⟨vf, rfl, hr, hb3⟩
   rw [HF.out] at hr
   obtain ⟨A3, c3, rfl⟩ := Kd.R_slice hr
   have HF3 := Lib.hid (Kd.R_reads' hr).2.2
   have HC3 := Lib.hid (Kd.C_below HC2.out hb3)
   have HB3 := Lib.hid (Ints.bel_trans HB2.out HB2.out.size hb3)
   have HD3 := Lib.hid (HD2.out.below hb3)
   have HL3 := Lib.hid (Kd.C_below HL2.out hb3)
   clear hr hb3 HB2 HD2 HL2 HC2
   go_wp2_with (fail)
   refine (Best.parse_any _ l b M _ HD3.out HOK.out (by omega) M1 M2).mono ?_
   rintro e w4 ⟨vx, rfl, hr, hb4⟩
   rw [HBO.out] at hr
   obtain ⟨A4, c4, rfl⟩ := Kd.R_slice hr
   have HX4 := Lib.hid (Kd.R_reads' hr).2.2
   have HF4 := Lib.hid (Kd.C_below HF3.out hb4)
   have HC4 := Lib.hid (Kd.C_below HC3.out hb4)
   have HB4 := Lib.hid (Ints.bel_trans HB3.out HB3.out.size hb4)
   have HD4 := Lib.hid (HD3.out.below hb4)
   have HL4 := Lib.hid (Kd.C_below HL3.out hb4)
   clear hr hb4 HB3 HD3 HL3 HC3 HF3
   go_wp2_with (fail)
   refine (says_any _ _ _ _ _ l g b _ HL4.out HOK.out HC4.out HFG.out (by omega) (by omega)).mono ?_
   rintro e w5 ⟨rfl, hb5⟩
   rw [HSG.out]
   have HX5 := Lib.hid (Kd.C_below HX4.out hb5)
   have HF5 := Lib.hid (Kd.C_below HF4.out hb5)
   have HB5 := Lib.hid (Ints.bel_trans HB4.out HB4.out.size hb5)
   have HD5 := Lib.hid (HD4.out.below hb5)
   have HL5 := Lib.hid (Kd.C_below HL4.out hb5)
   clear hb5 HB4 HD4 HL4 HC4 HF4 HX4
   go_wp2_with (fail)
   refine (says_any _ _ _ _ _ l f b _ HL5.out HOK.out HF5.out HFF.out (by omega) (by omega)).mono ?_
   rintro e w6 ⟨rfl, hb6⟩
   rw [HSF.out]
   have HX6 := Lib.hid (Kd.C_below HX5.out hb6)
   have HB6 := Lib.hid (Ints.bel_trans HB5.out HB5.out.size hb6)
   have HD6 := Lib.hid (HD5.out.below hb6)
   have HL6 := Lib.hid (Kd.C_below HL5.out hb6)
   clear hb6 HB5 HD5 HL5 HF5 HX5
   go_wp2_with (fail)
   refine (says_any _ _ _ _ _ l x b _ HL6.out HOK.out HX6.out HFX.out (by omega) (by omega)).mono ?_
   rintro e w7 ⟨rfl, hb7⟩
   rw [HSX.out]
   have HB7 := Lib.hid (Ints.bel_trans HB6.out HB6.out.size hb7)
   have HD7 := Lib.hid (HD6.out.below hb7)
   have HL7 := Lib.hid (Kd.C_below HL6.out hb7)
   clear hb7 HB6 HD6 HL6 HX6
   go_wp2_with (fail)
   refine (Best.parse_any _ l b W _ HD7.out HOK.out (by omega) W1 W2).mono ?_
   rintro e w8 ⟨vy, rfl, hr, hb8⟩
   rw [HY.out] at hr
   obtain ⟨A8, c8, rfl⟩ := Kd.R_slice hr
   have HY8 := Lib.hid (Kd.R_reads' hr).2.2
   have HB8 := Lib.hid (Ints.bel_trans HB7.out HB7.out.size hb8)
   have HD8 := Lib.hid (HD7.out.below hb8)
   have HL8 := Lib.hid (Kd.C_below HL7.out hb8)
   clear hr hb8 HB7 HD7 HL7
   go_wp2_with (fail)
   go_loopg [13, 14] b.size (fun j n i wr => ∃ (a N : Nat), n = .int .i64 N ∧ i = .int .i64 a ∧ Hid (b.size ≤ a + j ∧ a ≤ b.size + 1024 ∧ N + (best l W (b.extract a b.size)).length = y.length ∧ Below w8.heap.size w8 wr))
   case atStart => exact ⟨0, 0, rfl, rfl, by omega, by omega, by rw [ext_all b b.size (Nat.le_refl _), HY.out, Nat.zero_add], Below.refl _ _⟩
   case round =>
    obtain ⟨a, N, rfl, rfl, HI⟩ := hrel
    obtain ⟨hj, haw, hn, hbw⟩ := HI.out
    by_cases hlt : a < b.size
    ·obtain ⟨wo, rfl⟩ : ∃ x : World, x = wr := ⟨_, rfl⟩
     have hst := best_from l W W1 b a hlt
     obtain ⟨E, hE⟩ : ∃ E, min (a + W) b.size = E := ⟨_, rfl⟩
     rw [hE] at hst
     have hEi : min ((a : Int) + (W : Int)) (b.size : Int) = (E : Int) := by omega
     have aE : a < E := by omega
     have Eb : E ≤ b.size := by omega
     have eE : b.extract E b.size = b.extract (a + W) b.size := by
      by_cases h : a + W ≤ b.size
      ·rw [show E = a + W by omega]
      ·rw [empty_of (s := b.extract E b.size) (by rw [ByteArray.size_extract]; omega), empty_of (s := b.extract (a + W) b.size) (by rw [ByteArray.size_extract]; omega)]
     rw [eE] at hst
     obtain ⟨s, hs⟩ : ∃ s, b.extract a E = s := ⟨_, rfl⟩
     have hss : s.size = E - a := by rw [← hs, ByteArray.size_extract]; omega
     rw [hs] at hst
     have hbo := best_one (l := l) (win := W) (b := s) W1 (by omega)
     obtain ⟨p, hp⟩ : ∃ p, toks l s 0 = p := ⟨_, rfl⟩
     rw [hp] at hbo hst
     rw [hst, List.length_append] at hn
     have hnp : N + p.length + (best l W (b.extract (a + W) b.size)).length = y.length := by omega
     have pl : p.length ≤ 400 := by omega
     have nl : N ≤ 400 := by omega
     have HBO2 := Lib.hid hbo
     have HN := Lib.hid hnp
     have HJ := Lib.hid hj
     have HBW := Lib.hid hbw
     have HSS := Lib.hid (show s.size ≤ 400 by omega)
     have i0 : (0 : Int) ≤ (a : Int) := by omega
     have i1 : (a : Int) < (b.size : Int) := by omega
     have i2 : ((a : Int)).toNat = a := by omega
     have j0 : (0 : Int) ≤ (E : Int) := by omega
     have j1 : (E : Int) ≤ (b.size : Int) := by omega
     have j2 : ((E : Int)).toNat = E := by omega
     have j3 : (a : Int) ≤ (E : Int) := by omega
     clear hj hn hnp hbw HI hst hE eE hp hbo hss
     go_wp2_with (fail)
     refine (Best.parse_any _ l s W _ (HD8.out.below HBW.out) HOK.out (by have := HSS.out; omega) W1 W2).mono ?_
     rintro e w9 ⟨vp, rfl, hrp, hb9⟩
     rw [HBO2.out] at hrp
     obtain ⟨A9, c9, rfl⟩ := Kd.R_slice hrp
     have HB9 := Lib.hid (Ints.bel_trans HBW.out HBW.out.size hb9)
     clear hrp hb9 HBW
     go_wp2_with (fail)
     go_roundg (b.size - (a + W))
     case measure => have := HJ.out; omega
     case rel => exact ⟨a + W, N + p.length, by go_num, by go_num, by omega, by omega, HN.out, HB9.out⟩
    ·rw [best_from_end l W b a (by omega)] at hn
     obtain rfl : N = y.length := by simpa using hn
     have hlt2 : ¬ ((a : Int) < (b.size : Int)) := by omega
     have HBW := Lib.hid hbw
     have e1 : ((y.length : Int) == (y.length : Int)) = true := by simp
     clear hj hn hbw HI
     go_wp2_with (fail)
     refine (says_any _ _ _ _ _ l y b _ (Kd.C_below HL8.out HBW.out) HOK.out (Kd.C_below HY8.out HBW.out) HFY.out (by omega) (by omega)).mono ?_
     rintro e w9 ⟨rfl, hb9⟩
     rw [HSY.out]
     have HB9 := Lib.hid (Ints.bel_trans HB8.out HB8.out.size (Ints.bel_trans HBW.out HBW.out.size hb9))
     clear hb9 HBW
     go_wp2_with (fail)
     go_ret
     exact ⟨rfl, HB9.out⟩
  ·by_cases h1 : win < 1
   ·go_wp2_with (fail)
    go_ret
    exact ⟨rfl, HB1.out⟩
   ·have h2 : (1024 : Int) < win := by omega
    go_wp2_with (fail)
    go_ret
    exact ⟨rfl, HB1.out⟩
 ·clear hcase
  go_wp2_with (fail)
  go_ret
  exact ⟨rfl, HB1.out⟩
end Go.Proofs.YtfbbcfhdjhiejaaGreat.Top

/- A list of strings that came in: what a row knows of it. -/
namespace Go.Proofs.YtfbbcfhdjhiejaaGreat.Texts
set_option linter.unusedVariables false
set_option linter.unusedSimpArgs false
open Go.RowKit Go.ChangeShapes Go.WideShapes Go.Proofs.YtfbbcfhdjhiejaaGreatW.PrintWords Go.Proofs.YtfbbcfhdjhiejaaGreatW.PrintMore Go.Proofs.YtfbbcfhdjhiejaaGreat.L
theorem mem_weightsAll {H : Type} {P : Program} {e : TypeId} {d : DataW H} {n : Nat} (hn : n ∈ d.weights P e) : ∀ {l : List (DataW H)}, d ∈ l → n ∈ DataW.weightsAll P e l
 | [], h => by simp at h
 | x :: l, h => by
   simp only [DataW.weightsAll, List.mem_append]
   rcases List.mem_cons.1 h with rfl | h
   ·exact .inl hn
   ·exact .inr (mem_weightsAll hn h)
theorem open_texts {H : Type} {enc : TypeId × Value → H} {W : World} {base : Nat} {spare : Nat → Bool} {held : Bool} {a : Option Addr} {len cap : Nat} {d : DataW H} {ps : List MemPlace} {ts : List TypeId} {ds : List (DataW H)} {j : Nat}
  (hsz : (DataW.weightsEach Tryz.prog ts ds).all (· ≤ reachBytes) = true) (ht : ts[j]? = some 22) (hd : ds[j]? = some d)
  (h : DataW.Trod enc Tryz.prog W base spare held 22 (.slice a len cap) d ps) :
  ∃ l : List ByteArray, len = l.length ∧ KS.C W a l.length l ∧ l.length ≤ cap ∧ l.length * 16 ≤ 140737488351232 ∧ ∀ s ∈ l, s.size ≤ 140737488351232 := by
 obtain ⟨fuel, hf⟩ := h
 rcases open_strings Tryz.underlying22 Tryz.underlying9 (by kernel_rfl) hf with ⟨hcs, _⟩ | ⟨x, l, c, ss, hcs, _, hl, hm, hz, hx, hcell, hw⟩
 ·simp [Value.cells] at hcs
  obtain ⟨rfl, rfl, rfl⟩ := hcs
  exact ⟨[], rfl, Kd.C_nil _ _, by simp, by simp, by simp⟩
 ·simp [Value.cells] at hcs
  obtain ⟨rfl, rfl, rfl⟩ := hcs
  obtain ⟨hx, _⟩ := Prod.mk.inj hx
  subst hx
  have hl2 : len ≤ ss.length := by
   rw [hz]
   split
   ·exact hl
   ·exact Nat.le_refl _
  have z := sized_slice hsz ht hd Tryz.underlying22
  rw [show Tryz.prog.bytesOf 9 = 16 from by kernel_rfl] at z
  have hlt : (ss.take len).length = len := by rw [List.length_take]; omega
  refine ⟨ss.take len, hlt.symm, ?_, by omega, ?_, ?_⟩
  ·rw [hlt]
   refine Kd.C_of_reads (d := no) (h1 := fun _ => rfl) ⟨hlt, ?_, fun hn => ⟨x, rfl, fun i hi => ?_⟩⟩
   ·unfold maxLen at hm; omega
   ·rw [hcell i (by omega)]
    rw [List.getD_eq_getElem?_getD, List.getD_eq_getElem?_getD, List.getElem?_take_of_lt hi]
    rfl
  ·rw [hlt]
   have h1 : (strs (H := H) (ss.take len)).length = len := by simp [strs]; omega
   have h2 : len * 16 ≤ ((strs (H := H) (ss.take len)).length + (strs (H := H) (ss.drop len)).length) * 16 := Nat.mul_le_mul_right _ (by omega)
   exact Nat.le_trans h2 (Nat.le_trans z (by decide))
  ·intro s hs
   have hmem : (DataW.lit (.string s.data.toList) : DataW H) ∈ strs (H := H) (ss.take len) := List.mem_map.2 ⟨s, hs, rfl⟩
   have h1 := List.all_eq_true.1 hsz _ (DataW.weights_mem_each ht hd s.data.toList.length (by
    simp only [DataW.weights, Tryz.underlying22]
    refine List.mem_cons_of_mem _ (List.mem_append_left _ (mem_weightsAll ?_ hmem))
    simp [DataW.weights]))
   rw [decide_eq_true_eq, Array.length_toList] at h1
   exact h1
end Go.Proofs.YtfbbcfhdjhiejaaGreat.Texts

/- The whole: a decoder never holds more than a frame and its payload; greater lengths are refused ahead of the payload. -/
namespace Go.Proofs.YtfbbcfhdjhiejaaGreat.Co
open Go.Proofs.YtfbbcfhdjhiejaaGreat.De Go.Proofs.YtfbbcfhdjhiejaaGreat.Fr
set_option linter.unusedVariables false
/-- A frame's nine bytes, of a block by tokens. -/
def nine (raw len : Nat) : ByteArray := big 2 1 ++ (big raw 2 ++ (big len 2 ++ big 0 4))
theorem nine_eq (H : ByteArray) (raw len : Nat) : H ++ ⟨#[2]⟩ ++ big raw 2 ++ big len 2 ++ ⟨#[0, 0, 0, 0]⟩ = H ++ nine raw len := by
 unfold nine
 rw [show big 2 1 = ⟨#[2]⟩ by decide +kernel, show big 0 4 = ⟨#[0, 0, 0, 0]⟩ by decide +kernel]
 simp only [ByteArray.append_assoc]
theorem nine_is (raw len : Nat) (hr : raw ≤ 65535) (hl : len ≤ 65535) : (nine raw len).size = 9 ∧ frKind (nine raw len) = 2 ∧ frRaw (nine raw len) = raw ∧ frLen (nine raw len) = len := by
 have h1 := big_size 2 1
 have h2 := big_size raw 2
 have h3 := big_size len 2
 have h4 := big_size 0 4
 have hk : frKind (nine raw len) = 2 := at8_big 2 _ (by omega)
 refine ⟨by unfold nine; simp only [ByteArray.size_append, h1, h2, h3, h4], hk, ?_, ?_⟩
 ·unfold frRaw
  rw [hk, if_neg (by decide)]
  unfold nine
  rw [ext_skip _ _ _ _ (by omega), h1, show 3 - 1 = 2 from rfl, show 1 - 1 = 0 from rfl, ext_first _ _ _ h2, num_big _ _ (by omega)]
 ·unfold frLen nine
  rw [ext_skip _ _ _ _ (by omega), h1, ext_skip _ _ _ _ (by omega), h2, show 5 - 1 - 2 = 2 from rfl, show 3 - 1 - 2 = 0 from rfl, ext_first _ _ _ h3, num_big _ _ (by omega)]
def holds_ (bs raw len : Nat) : Bool := decide (1 ≤ raw ∧ raw ≤ bs ∧ 1 ≤ len ∧ len < raw)
theorem nine_E (bs raw len : Nat) (hb : bs ≤ 1024) (hr : raw ≤ 65535) (hl : len ≤ 65535) : frE (nine raw len) bs = if holds_ bs raw len = true then 2 else 10 := by
 obtain ⟨h0, h1, h2, h3⟩ := nine_is raw len hr hl
 unfold frE
 rw [h0, h1, h2, h3, if_neg (by decide), if_neg (by decide), if_neg (by simp), if_neg (by decide)]
 by_cases h : holds_ bs raw len = true
 ·have h' := of_decide_eq_true h
  rw [if_pos h, if_neg, if_pos (by omega)]
  rintro (h5 | h5)
  ·omega
  ·have h6 := of_decide_eq_false h5
   exact h6 ⟨h'.1, by omega, h'.2.2.1, .inr ⟨rfl, h'.2.2.2⟩⟩
 ·rw [if_neg h, if_pos]
  by_cases hlt : bs < raw
  ·exact .inl hlt
  ·refine .inr (decide_eq_false (fun h5 => h (decide_eq_true ?_)))
   obtain ⟨q1, q2, q3, q4⟩ := h5
   rcases q4 with ⟨q5, _⟩ | ⟨_, q5⟩
   ·exact absurd q5 (by decide)
   ·exact ⟨q1, by omega, q3, q5⟩
def nineD (E : Env) (bs raw len : Nat) : DS := { d0 with begun := true, code := 0, block := bs, hid := E.id, held := nine raw len, pos := 17 }
theorem run_nine (E : Env) (bs raw len : Nat) (hi : E.id < 18446744073709551616) (h1 : 1 ≤ bs) (hb : bs ≤ 1024) (hr : raw ≤ 65535) (hl : len ≤ 65535) :
  run E (add d0 (headB 0 bs E.id ++ nine raw len)) = (no, if holds_ bs raw len = true then nineD E bs raw len else wrong (nineD E bs raw len) 10) := by
 have h0 : add d0 (headB 0 bs E.id ++ nine raw len) = { d0 with held := headB 0 bs E.id ++ nine raw len } := by
  unfold add
  rw [show d0.held = no from rfl, no_app]
 have hn := next_head E 0 bs E.id (nine raw len) (by decide) h1 hb hi
 rw [if_neg (by simp)] at hn
 rw [h0, run_true (E := E) rfl (by rw [hn]), hn]
 dsimp only
 rw [no_app]
 have hz := (nine_is raw len hr hl).1
 have hE := nine_E bs raw len hb hr hl
 have hx : next E (nineD E bs raw len) = (no, false, if holds_ bs raw len = true then nineD E bs raw len else wrong (nineD E bs raw len) 10) := by
  unfold next
  have e1 : (nineD E bs raw len).held = nine raw len := rfl
  have e2 : (nineD E bs raw len).begun = true := rfl
  have e3 : (nineD E bs raw len).done = false := rfl
  have e4 : (nineD E bs raw len).block = bs := rfl
  rw [e1, e2, e3, e4, hE, if_neg (by decide), if_neg (by omega), if_neg (by decide)]
  by_cases h : holds_ bs raw len = true
  ·rw [if_pos h, if_pos rfl, if_pos h]
  ·rw [if_neg h, if_neg (by decide), if_neg h, if_pos (by decide)]
 have hr2 := run_false (E := E) (d := nineD E bs raw len) rfl (by rw [hx])
 rw [hx] at hr2
 have e5 : ({ d0 with begun := true, code := 0, block := bs, hid := E.id, held := nine raw len, pos := 17 } : DS) = nineD E bs raw len := rfl
 rw [e5, hr2]
end Go.Proofs.YtfbbcfhdjhiejaaGreat.Co
namespace Go.Proofs.YtfbbcfhdjhiejaaGreat.Top
set_option linter.unusedVariables false
set_option linter.unusedSimpArgs false
open Go.RowKit Go.Proofs.YtfbbcfhdjhiejaaGreatW.PrintWords Go.Proofs.YtfbbcfhdjhiejaaGreatW.PrintMore Go.Proofs.YtfbbcfhdjhiejaaGreat.L Go.Proofs.YtfbbcfhdjhiejaaGreat.Texts Go.Proofs.YtfbbcfhdjhiejaaGreat.Dict Go.Proofs.YtfbbcfhdjhiejaaGreat.Ints Go.Proofs.YtfbbcfhdjhiejaaGreat.Co Go.Proofs.YtfbbcfhdjhiejaaGreat.De Go.Proofs.YtfbbcfhdjhiejaaGreat.Fr
/-- law24's dictionaries. -/
theorem dict24 (A : Option Addr) (c : Nat) (l : List ByteArray) (w : World) (h : KS.C w A l.length l) (hs : ∀ s ∈ l, s.size ≤ 140737488351232) :
  Calls Tryz.prog 19 #[.slice A l.length c] w fun e w' => Below w.heap.size w w' ∧
   ((∃ k, e = .returned (.tuple #[.pointer (some ⟨k, 0, none⟩), .bool true]) ∧ Hid (DC w' k l) ∧ Hid (okTexts l)) ∨ e = .returned (.tuple #[.pointer none, .bool false])) := by
 have H := Lib.hid h
 have HS := Lib.hid hs
 clear h hs
 go_enter Tryz.func19, Tryz.ntmps19
 go_wp2_with (fail)
 refine (dict_any _ _ _ l _ _ H.out HS.out).mono ?_
 rintro e w1 ⟨hb1, hcase⟩
 have HB1 := Lib.hid hb1
 clear hb1
 rcases dict_has hcase with ⟨dk, rfl, HD, -, HOK, -⟩ | rfl
 ·clear hcase
  go_wp2_with (fail)
  go_ret2
  exact ⟨HB1.out, .inl ⟨dk, rfl, HD, HOK⟩⟩
 ·clear hcase
  go_wp2_with (fail)
  go_ret2
  exact ⟨HB1.out, .inr rfl⟩
set_option maxRecDepth 100000 in
set_option maxHeartbeats 8000000 in
theorem TopHolds_walk (A : Option Addr) (l : List ByteArray) (c : Nat) (bs raw len : Int) (w : World)
  (hl : KS.C w A l.length l) (hc : l.length ≤ c) (h16 : l.length * 16 ≤ 140737488351232) (hs : ∀ s ∈ l, s.size ≤ 140737488351232) (hb : (Lit.int .i64 bs).wf = true) (hr : (Lit.int .i64 raw).wf = true) (hn : (Lit.int .i64 len).wf = true) :
  Calls Tryz.prog 10 #[.slice A l.length c, .int .i64 bs, .int .i64 raw, .int .i64 len] w fun e w' => e = .returned (.bool true) ∧ Below w.heap.size w w' := by
 have HL := Lib.hid hl
 have HS := Lib.hid hs
 clear hl hs hb hr hn
 go_enter Tryz.func10, Tryz.ntmps10
 go_wp2_with (fail)
 refine (works _).mono ?_
 rintro e w0 ⟨rfl, hb0⟩
 have HB0 := Lib.hid hb0
 have HL0 := Lib.hid (Kd.C_below HL.out hb0)
 clear hb0 HL
 go_wp2_with (fail)
 refine (dict24 _ _ l _ HL0.out HS.out).mono ?_
 rintro e w1 ⟨hb1, hcase⟩
 have HB1 := Lib.hid (Ints.bel_trans HB0.out HB0.out.size hb1)
 clear hb1 HB0 HL0 HS
 rcases hcase with ⟨dk, rfl, HD, HOK⟩ | rfl
 ·by_cases hb : 1 ≤ bs ∧ bs ≤ 1024
  ·by_cases hr : 0 ≤ raw ∧ raw ≤ 65535
   ·by_cases hn : 0 ≤ len ∧ len ≤ 65535
    ·obtain ⟨b1, b2⟩ := hb
     obtain ⟨r1, r2⟩ := hr
     obtain ⟨n1, n2⟩ := hn
     obtain ⟨B, rfl⟩ := Int.eq_ofNat_of_zero_le (by omega : 0 ≤ bs)
     obtain ⟨R, rfl⟩ := Int.eq_ofNat_of_zero_le r1
     obtain ⟨N, rfl⟩ := Int.eq_ofNat_of_zero_le n1
     have f1 : ¬ ((B : Int) < 1) := by omega
     have f2 : ¬ ((1024 : Int) < (B : Int)) := by omega
     have f3 : ¬ ((R : Int) < 0) := by omega
     have f4 : ¬ ((65535 : Int) < (R : Int)) := by omega
     have f5 : ¬ ((N : Int) < 0) := by omega
     have f6 : ¬ ((65535 : Int) < (N : Int)) := by omega
     have uR : IntKind.u64.wrap (R : Int) = (R : Int) := by rw [IntKind.wrap_u64]; omega
     have uN : IntKind.u64.wrap (N : Int) = (N : Int) := by rw [IntKind.wrap_u64]; omega
     have hid := id_big l
     have HRN := Lib.hid (run_nine (env l) B R N hid (by omega) (by omega) (by omega) (by omega))
     have q1 := eql_nil
     have q2 := neq_nil
     have q3 := eql_some
     go_wp2_with (fail)
     refine (De.new_any ⟨dk, 0, none⟩ _).mono ?_
     rintro e w2 ⟨rfl, hd2, hb2⟩
     obtain ⟨X, hX⟩ : ∃ X, w1.heap.size = X := ⟨_, rfl⟩
     rw [hX] at hd2 ⊢
     have HX := Lib.hid hX
     have HD2 := Lib.hid hd2
     have HB2 := Lib.hid hb2
     have HDC2 := Lib.hid (HD.out.below hb2)
     clear hd2 hb2 hX
     go_wp2_with (fail)
     refine (id_any dk l _ HDC2.out HOK.out).mono ?_
     rintro e w3 ⟨rfl, hb3⟩
     have HB3 := Lib.hid (Ints.bel_trans HB2.out HB2.out.size hb3)
     have HD3 := Lib.hid (HD2.out.below hb3)
     clear hb3 HD2 HDC2
     go_wp2_with (fail)
     refine (ref_head 0 B (idD l) _ (by decide) (by omega) (by omega) (by first | exact hid | (unfold big64; omega))).mono ?_
     rintro e w4 ⟨rfl, hb4⟩
     obtain ⟨H, hH⟩ : ∃ H, headB 0 B (idD l) = H := ⟨_, rfl⟩
     have hz := headB_size 0 B (idD l)
     rw [show headB 0 B (env l).id = H from hH] at HRN
     rw [hH] at hz ⊢
     have hbs := big_size
     clear hH
     have HB4 := Lib.hid (Ints.bel_trans HB3.out HB3.out.size hb4)
     have HD4 := Lib.hid (HD3.out.below hb4)
     clear hb4 HD3 HB3 HB2
     go_wp2_with (fail)
     refine (rbig_int R 2 _ (by omega) (by decide) (by decide)).mono ?_
     rintro e w5 ⟨rfl, hb5⟩
     rw [Int.toNat_natCast]
     have HB5 := Lib.hid (Ints.bel_trans HB4.out HB4.out.size hb5)
     have HD5 := Lib.hid (HD4.out.below hb5)
     clear hb5 HD4 HB4
     go_wp2_with (fail)
     refine (rbig_int N 2 _ (by omega) (by decide) (by decide)).mono ?_
     rintro e w6 ⟨rfl, hb6⟩
     rw [Int.toNat_natCast]
     have HB6 := Lib.hid (Ints.bel_trans HB5.out HB5.out.size hb6)
     have HD6 := Lib.hid (HD5.out.below hb6)
     clear hb6 HD5 HB5
     go_wp2_with (fail)
     rw [nine_eq]
     have HFD := Lib.hid (fun (W : World) (h : Dec W X ⟨dk, 0, none⟩ d0) (h2 : Below w1.heap.size w1 W) => feed_any X dk l d0 (H ++ nine R N) w1 W h HD.out h2 (Nat.le_of_eq HX.out) HOK.out rfl ⟨by show (Co.no ++ (H ++ nine R N)).size ≤ _; rw [no_app, ByteArray.size_append, hz, (nine_is R N (by omega) (by omega)).1]; decide, by show 0 + (Co.no ++ (H ++ nine R N)).size < _; rw [no_app, ByteArray.size_append, hz, (nine_is R N (by omega) (by omega)).1]; decide, by show 0 + 1024 * (Co.no ++ (H ++ nine R N)).size < _; rw [no_app, ByteArray.size_append, hz, (nine_is R N (by omega) (by omega)).1]; decide, by show 0 ≤ 100000; decide⟩ (by rw [HRN.out]; show 0 ≤ _; decide) (by
      intro a
      rw [HRN.out]
      by_cases hg : holds_ B R N = true
      ·rw [if_pos hg]; intro h; cases h
      ·rw [if_neg hg]; intro h; injection h with h; injection h with h; exact absurd h (by decide)))
     rw [HRN.out] at HFD
     dsimp only at HFD
     have HT := Lib.hid (fun W => Fa.told_same 10 17 W (by decide))
     by_cases hg : holds_ B R N = true
     ·have hg' := of_decide_eq_true hg
      rw [if_pos hg, show Fa.errV (nineD (env l) B R N).err = .nilIface from rfl] at HFD
      have g1 : (1 : Int) ≤ (R : Int) := by omega
      have g2 : (R : Int) ≤ (B : Int) := by omega
      have g3 : (1 : Int) ≤ (N : Int) := by omega
      have g4 : (N : Int) < (R : Int) := by omega
      have hz9 := (nine_is R N (by omega) (by omega)).1
      have HZ9 := Lib.hid (show ((nineD (env l) B R N).held.size : Int) = 9 by show ((nine R N).size : Int) = 9; rw [hz9]; rfl)
      clear hg hg' hz9
      refine (HFD.out _ HD6.out HB6.out).mono ?_
      rintro e w7 ⟨rfl, hd7, hc7⟩
      have HD7 := Lib.hid hd7
      have HB7 := Lib.hid (show Below w1.heap.size w1 w7 from HB6.out.trans (hc7.below HB6.out.size (fun q hq => by rw [hq]; exact Nat.le_of_eq HX.out)))
      clear hd7 hc7 HFD HRN hz
      go_wp2_with (fail)
      refine (held_any X _ _ _ HD7.out).mono ?_
      rintro e w8 ⟨rfl, rfl⟩
      rw [HZ9.out]
      go_wp2_with (fail)
      go_ret
      exact ⟨rfl, Ints.bel_trans HB1.out HB1.out.size HB7.out⟩
     ·rw [if_neg hg, show Fa.errV (wrong (nineD (env l) B R N) 10).err = Fa.errV (some (10, 17)) from rfl] at HFD
      have hbad : (¬ (1 : Int) ≤ (R : Int)) ∨ ((1 : Int) ≤ (R : Int) ∧ ¬ (R : Int) ≤ (B : Int)) ∨ ((1 : Int) ≤ (R : Int) ∧ (R : Int) ≤ (B : Int) ∧ ¬ (1 : Int) ≤ (N : Int)) ∨ ((1 : Int) ≤ (R : Int) ∧ (R : Int) ≤ (B : Int) ∧ (1 : Int) ≤ (N : Int) ∧ ¬ (N : Int) < (R : Int)) := by
       have hg' := of_decide_eq_false (Bool.eq_false_iff.2 hg)
       omega
      have HZ0 := Lib.hid (show ((wrong (nineD (env l) B R N) 10).held.size : Int) = 0 from rfl)
      clear hg
      refine (HFD.out _ HD6.out HB6.out).mono ?_
      rintro e w7 ⟨rfl, hd7, hc7⟩
      have HD7 := Lib.hid hd7
      have HB7 := Lib.hid (show Below w1.heap.size w1 w7 from HB6.out.trans (hc7.below HB6.out.size (fun q hq => by rw [hq]; exact Nat.le_of_eq HX.out)))
      rw [show Fa.errV (some ((10 : Int), 17)) = .iface 105 (.agg #[.int .i64 10, .int .i64 17]) from rfl] at HT ⊢
      clear hd7 hc7 HFD HRN hz
      rcases hbad with g1 | ⟨g1, g2⟩ | ⟨g1, g2, g3⟩ | ⟨g1, g2, g3, g4⟩
      all_goals
       go_wp2_with (fail)
       refine (held_any X _ _ _ HD7.out).mono ?_
       rintro e w8 ⟨rfl, rfl⟩
       rw [HZ0.out]
       go_wp2_with (fail)
       refine (HT.out _).mono ?_
       rintro e w9 ⟨rfl, hb9⟩
       have HB9 := Lib.hid (Ints.bel_trans HB1.out HB1.out.size (Ints.bel_trans HB7.out HB7.out.size hb9))
       clear hb9
       go_wp2_with (fail)
       go_ret
       exact ⟨rfl, HB9.out⟩
    ·obtain ⟨b1, b2⟩ := hb
     obtain ⟨r1, r2⟩ := hr
     have f1 : ¬ (bs < 1) := by omega
     have f2 : ¬ ((1024 : Int) < bs) := by omega
     have f3 : ¬ (raw < 0) := by omega
     have f4 : ¬ ((65535 : Int) < raw) := by omega
     by_cases f5 : len < 0
     ·go_wp2_with (fail)
      go_ret
      exact ⟨rfl, HB1.out⟩
     ·have f6 : (65535 : Int) < len := by omega
      go_wp2_with (fail)
      go_ret
      exact ⟨rfl, HB1.out⟩
   ·obtain ⟨b1, b2⟩ := hb
    have f1 : ¬ (bs < 1) := by omega
    have f2 : ¬ ((1024 : Int) < bs) := by omega
    by_cases f3 : raw < 0
    ·go_wp2_with (fail)
     go_ret
     exact ⟨rfl, HB1.out⟩
    ·have f4 : (65535 : Int) < raw := by omega
     go_wp2_with (fail)
     go_ret
     exact ⟨rfl, HB1.out⟩
  ·by_cases f1 : bs < 1
   ·go_wp2_with (fail)
    go_ret
    exact ⟨rfl, HB1.out⟩
   ·have f2 : (1024 : Int) < bs := by omega
    go_wp2_with (fail)
    go_ret
    exact ⟨rfl, HB1.out⟩
 ·go_wp2_with (fail)
  go_ret
  exact ⟨rfl, HB1.out⟩
end Go.Proofs.YtfbbcfhdjhiejaaGreat.Top
