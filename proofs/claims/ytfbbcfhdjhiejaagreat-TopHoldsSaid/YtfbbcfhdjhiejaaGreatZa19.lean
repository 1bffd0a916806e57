/- Of the parts RefBestU, RefFlexT, Tiles, Toks: what the rows use. -/
import Derived.Test.YtfbbcfhdjhiejaaGreatZa1
import Derived.Test.YtfbbcfhdjhiejaaGreatZa7
import Derived.Test.YtfbbcfhdjhiejaaGreatZa8
import Derived.Test.YtfbbcfhdjhiejaaGreatZa15
import Derived.Test.YtfbbcfhdjhiejaaGreatZa16
import Derived.Test.YtfbbcfhdjhiejaaGreatZa18
import Derived.Deep.RegionHeld3
/- Chapter 15: the document's tokens: the contract of its function. -/
namespace Go.Proofs.YtfbbcfhdjhiejaaGreat.Best
set_option linter.unusedVariables false
set_option linter.unusedSimpArgs false
open Go.RowKit Go.Proofs.YtfbbcfhdjhiejaaGreatW.PrintWords Go.Proofs.YtfbbcfhdjhiejaaGreatW.PrintMore Go.Proofs.YtfbbcfhdjhiejaaGreatW.PrintLast Go.Proofs.YtfbbcfhdjhiejaaGreat.L Go.Proofs.YtfbbcfhdjhiejaaGreat.Texts Go.Proofs.YtfbbcfhdjhiejaaGreat.Dict Go.Proofs.YtfbbcfhdjhiejaaGreat.Ints Go.Proofs.YtfbbcfhdjhiejaaGreat.Greedy Go.Proofs.YtfbbcfhdjhiejaaGreat.Cost Go.Proofs.YtfbbcfhdjhiejaaGreat.Fl Go.Proofs.YtfbbcfhdjhiejaaGreat.Say Go.Proofs.YtfbbcfhdjhiejaaGreat.VariSpec Go.Proofs.YtfbbcfhdjhiejaaGreat.PBestTells
/-- The tables of a piece: they stay while blocks B0 .. B1 do. -/
structure TBS (wq : World) (B0 B1 : Nat) (A5 A6 : Option Addr) (l : List ByteArray) (s : ByteArray) : Prop where
 keep : ∀ W : World, (∀ k, B0 ≤ k → k < B1 → W.heap[k]? = wq.heap[k]?) → KI.C W A5 (s.size + 1) (CT l s) ∧ KI.C W A6 (s.size + 1) (CB l s)
theorem tbs_new {w w5 : World} {A5 A6 : Option Addr} {c5 c6 : Nat} {l : List ByteArray} {s : ByteArray} {ok ok' : Nat → Prop} (h5 : KI.R 3 w5 w.heap.size ok (.slice A5 (CT l s).length c5) (CT l s)) (h6 : KI.R 3 w5 w.heap.size ok' (.slice A6 (CB l s).length c6) (CB l s)) : TBS w5 w.heap.size w5.heap.size A5 A6 l s := by
 refine ⟨fun W hW => ⟨?_, ?_⟩⟩
 ·have := (Kd.R_reads' (own_move' h5 (w1 := W) (fun g hg => hW g (own_base (Kd.own_of_R h5) g hg) (own_lt h5 g hg)))).2.2
  rwa [CT_len] at this
 ·have := (Kd.R_reads' (own_move' h6 (w1 := W) (fun g hg => hW g (own_base (Kd.own_of_R h6) g hg) (own_lt h6 g hg)))).2.2
  rwa [CB_len] at this
theorem chs_cells {w : World} {A : Option Addr} {n : Nat} {xs : List S219} (h : Kd.C k219 w A n xs) (i : Nat) (hi : i < n) {t : Int} {m : Nat} (hx : xs.getD i z219 = ⟨t, m⟩) :
  ∃ ad, A = some ad ∧ w.cell? (ad.add (i * 2)) = some (.int .i64 t) ∧ w.cell? ⟨(ad.add (i * 2)).block, (ad.add (i * 2)).off + 1, none⟩ = some (.int .i64 m) := by
 have := at_T219 h (i : Int) (by omega) (by omega)
 unfold rd_T219 at this
 rw [Int.toNat_natCast, hx] at this
 exact this
theorem addr_at2 (g a k : Nat) : (⟨g, a, none⟩ : Addr).add k = ⟨g, a + k, none⟩ := by
 unfold Addr.add
 by_cases h : k = 0
 ·subst h; simp
 ·simp [h]
theorem eq_nat (X T : Nat) : ((X : Int) == (T : Int)) = decide (X = T) := by
 by_cases h : X = T
 ·rw [h]; simp
 ·rw [decide_eq_false h]
  simp only [beq_eq_false_iff_ne, ne_eq]
  omega
set_option maxRecDepth 100000 in
set_option maxHeartbeats 4000000 in
theorem ref_best (A : Option Addr) (c : Nat) (l : List ByteArray) (b : ByteArray) (W : Nat) (w : World) (h : KS.C w A l.length l) (hc : l.length ≤ c) (hok : okTexts l) (hb : b.size ≤ 400) (W1 : 1 ≤ W) (W2 : W ≤ 1024) :
  Calls Tryz.prog 143 #[.slice A l.length c, .string b, .int .i64 W] w fun e w' => ∃ v : Value, e = .returned v ∧ KI.R 3 w' w.heap.size (fun _ => True) v (best l W b) ∧ Below w.heap.size w w' := by
 have HL := Lib.hid h
 have HOK := Lib.hid hok
 have hbi : (b.size : Int) ≤ 400 := by omega
 have wi : (W : Int) ≤ 1024 := by omega
 clear h hok
 go_enter Tryz.func143, Tryz.ntmps143
 go_wp2_with (fail)
 go_loopg [7, 8] b.size (fun j v i wr => ∃ (a : Nat) (xs : List Int), i = .int .i64 a ∧ Hid (b.size ≤ a + j ∧ xs.length ≤ a ∧ best l W b = xs ++ best l W (b.extract a b.size) ∧ KI.R 3 wr w.heap.size (fun _ => True) v xs ∧ Below w.heap.size w wr))
 case atStart => exact ⟨0, [], rfl, by omega, Nat.le_refl _, by rw [ext_all b b.size (Nat.le_refl _), List.nil_append], Kd.R_nil _ _ _ _ _, Below.refl _ _⟩
 case round =>
  obtain ⟨a, xs, rfl, HI⟩ := hrel
  by_cases hlt : a < b.size
  ·obtain ⟨wo, rfl⟩ : ∃ x : World, x = wr := ⟨_, rfl⟩
   obtain ⟨hj, hxa, hgo, hr, hbw⟩ := HI.out
   have hst := best_fromR l W W1 b a hlt
   obtain ⟨E, hE⟩ : ∃ E, min (a + W) b.size = E := ⟨_, rfl⟩
   rw [hE] at hst
   have hEi : min ((a : Int) + (W : Int)) (b.size : Int) = (E : Int) := by omega
   have aE : a < E := by omega
   have Eb : E ≤ b.size := by omega
   have eE : b.extract E b.size = b.extract (a + W) b.size := by
    by_cases h : a + W ≤ b.size
    ·rw [show E = a + W by omega]
    ·rw [empty_of (s := b.extract E b.size) (by rw [ByteArray.size_extract]; omega), empty_of (s := b.extract (a + W) b.size) (by rw [ByteArray.size_extract]; omega)]
   rw [eE] at hst
   obtain ⟨s, hs⟩ : ∃ s, b.extract a E = s := ⟨_, rfl⟩
   have hss : s.size = E - a := by rw [← hs, ByteArray.size_extract]; omega
   rw [hs] at hst
   rw [hst] at hgo
   obtain ⟨A4, c4, rfl⟩ := Kd.R_slice hr
   have HGO := Lib.hid hgo
   have HJ := Lib.hid hj
   have HXA := Lib.hid hxa
   have HR := Lib.hid hr
   have HBW := Lib.hid hbw
   have i0 : (0 : Int) ≤ (a : Int) := by omega
   have i1 : (a : Int) < (b.size : Int) := by omega
   have i2 : ((a : Int)).toNat = a := by omega
   have j0 : (0 : Int) ≤ (E : Int) := by omega
   have j1 : (E : Int) ≤ (b.size : Int) := by omega
   have j2 : ((E : Int)).toNat = E := by omega
   have j3 : (a : Int) ≤ (E : Int) := by omega
   have sl1 : 1 ≤ s.size := by omega
   have sl2 : s.size ≤ 400 := by omega
   have sl3 : (s.size : Int) ≤ 400 := by omega
   have HSW := Lib.hid (show s.size ≤ W by omega)
   clear hj hxa hgo hr hbw HI hst hE eE hss
   go_wp2_with (fail)
   refine (ref_costs A c l s _ (Kd.C_below HL.out HBW.out) hc HOK.out (by omega)).mono ?_
   rintro e w5 ⟨vt, vu, rfl, ht, hu, hb5⟩
   obtain ⟨A5, c5, rfl⟩ := Kd.R_slice ht
   obtain ⟨A6, c6, rfl⟩ := Kd.R_slice hu
   have HT := Lib.hid (tbs_new ht hu)
   have HB5 := Lib.hid (Ints.bel_trans HBW.out HBW.out.size hb5)
   have HR5 := Lib.hid (Kd.R_below HR.out hb5)
   have HOW := Lib.hid (show ∀ q, Value.ownBlock (.slice A4 xs.length c4) = some q → q < wo.heap.size ∨ w5.heap.size ≤ q from fun q hq => .inl (own_lt HR.out q hq))
   have HB0 := Lib.hid (show w.heap.size ≤ wo.heap.size from HBW.out.size)
   rw [CT_len, CB_len]
   obtain ⟨B0, hB0⟩ : ∃ x, wo.heap.size = x := ⟨_, rfl⟩
   obtain ⟨B1, hB1⟩ : ∃ x, w5.heap.size = x := ⟨_, rfl⟩
   rw [hB0, hB1] at HT HOW
   rw [hB0] at HB0
   have HB1 := Lib.hid hB1
   clear ht hu hb5 hB0 hB1 HR HBW
   go_wp2_with (fail)
   go_loopg [7, 12] s.size (fun j v i wq => ∃ (x : Nat) (ys : List Int), i = .int .i64 x ∧ Hid (s.size ≤ x + j ∧ x ≤ s.size ∧ ys.length ≤ xs.length + x ∧ best l W b = ys ++ (toks l s x ++ best l W (b.extract (a + W) b.size)) ∧ KI.R 3 wq w.heap.size (fun _ => True) v ys ∧ (∀ k, B0 ≤ k → k < B1 → wq.heap[k]? = w5.heap[k]?) ∧ (∀ q, v.ownBlock = some q → q < B0 ∨ B1 ≤ q) ∧ B1 ≤ wq.heap.size ∧ Below w.heap.size w wq))
   case atStart => exact ⟨0, xs, rfl, by omega, Nat.zero_le _, Nat.le_refl _, HGO.out, HR5.out, fun _ _ _ => rfl, HOW.out, Nat.le_of_eq HB1.out.symm, HB5.out⟩
   case round =>
    obtain ⟨x, ys, rfl, HX⟩ := hrel
    clear HR5 HOW HB5 HGO
    obtain ⟨hxj, hxs', hyl, hgo, hry, hkp, how, hbz, hby⟩ := HX.out
    by_cases hxs : x < s.size
    ·obtain ⟨wi', rfl⟩ : ∃ q : World, q = wr := ⟨_, rfl⟩
     have HXJ := Lib.hid hxj
     have HYL := Lib.hid hyl
     have HGO := Lib.hid hgo
     obtain ⟨A7, c7, rfl⟩ := Kd.R_slice hry
     have HRY := Lib.hid hry
     have HKP := Lib.hid hkp
     have HOW := Lib.hid how
     have HBZ := Lib.hid hbz
     have HBY := Lib.hid hby
     have yl : ys.length ≤ 800 := by have := HXA.out; omega
     have x0 : (0 : Int) ≤ (x : Int) := by omega
     have x1 : (x : Int) < (s.size : Int) := by omega
     have x2 : ((x : Int)).toNat = x := by omega
     have xi : (x : Int) ≤ 400 := by omega
     have hcl := chs_le l s x
     have HFF := Lib.hid (FF_fit HOK.out (s := s) (by omega) hxs)
     have HTS := Lib.hid (toks_step HOK.out (s := s) (by omega) hxs)
     have HSI := Lib.hid (some_is HOK.out (b := s) (by omega) hxs)
     have HFI := Lib.hid (fun i hi hv hf => first_is HOK.out (b := s) (by omega) hxs i hi hv hf)
     have HCA := Lib.hid (fun i hi => chs_at HOK.out hxs i hi)
     have HSF := Lib.hid (fun z hz => steps_fit HOK.out hxs (s := z) hz)
     have HCF := Lib.hid (choices_f l s x (by have := HOK.out.1; omega) (by omega) hxs 300 (by have := HOK.out.1; omega))
     clear hxj hxs' hyl hgo hry hkp how hbz hby HX
     go_wp2_with (fail)
     refine (lexiphaneref1_choices.calls 300 A c l s (x : Int) _ _ (Kd.C_below HL.out HBY.out) hc HCF.out).mono ?_
     rintro e w6 ⟨v6, rfl, hr6, hb6⟩
     obtain ⟨g8, c8, rfl, hg8a, hg8b, cells8, hg8c⟩ := Kd.R_form hr6 (by rw [chs_len]; omega)
     have HC6 := Lib.hid (Kd.R_reads' hr6).2.2
     have HG8 := Lib.hid (show g8 < w6.heap.size from hg8b)
     have HGO8 := Lib.hid (show Value.ownBlock (.slice A7 ys.length c7) ≠ some g8 from fun e => by have := own_lt HRY.out g8 e; omega)
     have HB6 := Lib.hid hb6
     have HR6 := Lib.hid (Kd.R_below HRY.out hb6)
     obtain ⟨L, hL⟩ : ∃ L, (chs l s x).length = L := ⟨_, rfl⟩
     rw [hL] at HC6 hcl ⊢
     have HLL := Lib.hid hL
     clear hr6 hb6 hL hg8a hg8b hg8c
     go_wp2_with (fail)
     go_loopg [7, 12, 14] L (fun j o y i wr => o = .slice A7 ys.length c7 ∧ y = .int .i64 x ∧ ∃ q : Nat, q + j = L ∧ i = .int .i64 q ∧ Hid ((∀ j', j' < q → val l s x ((chs l s x).getD j' z219) ≠ VV l s x) ∧ Below w6.heap.size w6 wr))
     case atStart => exact ⟨rfl, rfl, 0, by omega, rfl, fun j' h => absurd h (Nat.not_lt_zero j'), Below.refl _ _⟩
     case round =>
      obtain ⟨rfl, rfl, q, hq, rfl, HQ⟩ := hrel
      by_cases hqL : q < L
      ·obtain ⟨hnot, hbq⟩ := HQ.out
       obtain ⟨t, n, hct, hstp⟩ := HCA.out q (by rw [HLL.out]; exact hqL)
       have hf := HSF.out _ hstp
       simp only at hf
       obtain ⟨f1, f2, f3, f4⟩ := hf
       have hch : ∀ W : World, W.heap[g8]? = w6.heap[g8]? → W.cell? ⟨g8, q * 2, none⟩ = some (.int .i64 t) ∧ W.cell? ⟨g8, q * 2 + 1, none⟩ = some (.int .i64 (n : Int)) := fun W hW => by
        obtain ⟨ad, ha, z0, z1⟩ := chs_cells HC6.out q hqL hct
        injection ha with ha
        subst ha
        rw [addr_at2, Nat.zero_add] at z0 z1
        have hW1 : W.cell? ⟨g8, q * 2, none⟩ = w6.cell? ⟨g8, q * 2, none⟩ := World.cell?_of_block (w := w6) hW
        have hW2 : W.cell? ⟨g8, q * 2 + 1, none⟩ = w6.cell? ⟨g8, q * 2 + 1, none⟩ := World.cell?_of_block (w := w6) hW
        exact ⟨hW1.trans z0, hW2.trans z1⟩
       have HCH := Lib.hid hch
       have htc : ∀ W : World, Below w6.heap.size w6 W → KI.C W A5 (s.size + 1) (CT l s) ∧ KI.C W A6 (s.size + 1) (CB l s) := fun W hW => HT.out.keep W (fun k h1 h2 => by
        have h3 := HBZ.out
        have h4 := HB6.out.size
        exact (hW.block k (by omega)).trans ((HB6.out.block k (by omega)).trans (HKP.out k h1 h2)))
       have HTC := Lib.hid htc
       obtain ⟨P, hP⟩ : ∃ P, x + n = P := ⟨_, rfl⟩
       have hPs : P ≤ s.size := by omega
       obtain ⟨⟨V1, V2⟩, hV⟩ : ∃ z, VV l s P = z := ⟨_, rfl⟩
       obtain ⟨⟨T0, B0'⟩, hV0⟩ : ∃ z, VV l s x = z := ⟨_, rfl⟩
       obtain ⟨B8, hB8⟩ : ∃ z, 8 * vlen t = z := ⟨_, rfl⟩
       have hval : val l s x ⟨t, (n : Int)⟩ = (1 + V1, B8 + V2) := by
        rw [val_step, hP, hV]
        have ho1 : cT t = 1 := (oc_tok t f3 f4).1
        unfold add oc
        rw [ho1, hB8]
       have hvb : V1 ≤ 1024 ∧ V2 ≤ 40960 := by have := VV_bound HOK.out (b := s) (by omega) P; rw [hV] at this; exact this
       have hob : B8 ≤ 40 := by have := (oc_tok t f3 f4).2; unfold oc at this; rw [hB8] at this; exact this
       have ct1 := CT_at l s P hPs
       have ct2 := CT_at l s x (by omega)
       have cb1 := CB_at l s P hPs
       have cb2 := CB_at l s x (by omega)
       rw [hV] at ct1 cb1
       rw [hV0] at ct2 cb2
       simp only at ct1 ct2 cb1 cb2
       obtain ⟨bd, rfl, -⟩ := ints_at (htc wr hbq).1 P (by omega)
       obtain ⟨ed, rfl, -⟩ := ints_at (htc wr hbq).2 P (by omega)
       have hld : ∀ W : World, Below w6.heap.size w6 W → W.cell? (bd.add P) = some (.int .i64 (V1 : Int)) ∧ W.cell? (bd.add x) = some (.int .i64 (T0 : Int)) ∧ W.cell? (ed.add P) = some (.int .i64 (V2 : Int)) ∧ W.cell? (ed.add x) = some (.int .i64 (B0' : Int)) := fun W hW => by
        obtain ⟨h1, h2⟩ := HTC.out W hW
        obtain ⟨d1, e1, k1⟩ := ints_at h1 P (by omega)
        obtain ⟨d2, e2, k2⟩ := ints_at h1 x (by omega)
        obtain ⟨d3, e3, k3⟩ := ints_at h2 P (by omega)
        obtain ⟨d4, e4, k4⟩ := ints_at h2 x (by omega)
        injection e1 with e1
        injection e2 with e2
        injection e3 with e3
        injection e4 with e4
        subst e1 e2 e3 e4
        rw [ct1] at k1
        rw [ct2] at k2
        rw [cb1] at k3
        rw [cb2] at k4
        exact ⟨k1, k2, k3, k4⟩
       have HLD := Lib.hid hld
       have hbf := fun W => lexiphaneref1_Bits.calls 10 t ((8 * vlen t : Nat) : Int) W (bits_f 10 t (Nat.le_refl _))
       rw [hB8] at hbf
       have HBF := Lib.hid hbf
       have HNOT := Lib.hid hnot
       have HBQ := Lib.hid hbq
       have HCT := Lib.hid hct
       have HVAL := Lib.hid hval
       have HV0 := Lib.hid hV0
       have HPP := Lib.hid hP
       have HN1 := Lib.hid f1
       have HQ2 := Lib.hid hq
       clear hch htc hval hct hV hV0 hB8 hld hbf hnot hbq ct1 ct2 cb1 cb2 HQ hstp hq
       obtain ⟨z0, z1⟩ := HCH.out wr (HBQ.out.block g8 HG8.out)
       obtain ⟨y1, y2, y3, y4⟩ := HLD.out wr HBQ.out
       have q0 : (0 : Int) ≤ (q : Int) := by omega
       have q1 : (q : Int) < (L : Int) := by omega
       have q2 : ((q : Int)).toNat = q := by omega
       have p0 : (0 : Int) ≤ (P : Int) := by omega
       have p1 : (P : Int) < (s.size : Int) + 1 := by omega
       have p2 : ((P : Int)).toNat = P := by omega
       have p3 : (x : Int) < (s.size : Int) + 1 := by omega
       obtain ⟨X, hX⟩ : ∃ X, 1 + V1 = X := ⟨_, rfl⟩
       obtain ⟨Y, hY⟩ : ∃ Y, B8 + V2 = Y := ⟨_, rfl⟩
       have pe : (x : Int) + (n : Int) = (P : Int) := by omega
       have pw : IntKind.i64.wrap (P : Int) = (P : Int) := by rw [IntKind.wrap_i64]; omega
       have xe : 1 + (V1 : Int) = (X : Int) := by omega
       have xw : IntKind.i64.wrap (X : Int) = (X : Int) := by rw [IntKind.wrap_i64]; omega
       have ye : (B8 : Int) + (V2 : Int) = (Y : Int) := by omega
       have yw : IntKind.i64.wrap (Y : Int) = (Y : Int) := by rw [IntKind.wrap_i64]; omega
       rw [hX, hY] at HVAL
       have HX1 := Lib.hid hX
       have HY1 := Lib.hid hY
       have ni : (n : Int) ≤ 400 := by omega
       have li : (L : Int) ≤ 41 := by omega
       clear hP hX hY hvb hob f1 f2 hPs hcl
       go_wp2_with (fail)
       go_cut [90] (fun bv wc => bv = .bool (decide (val l s x ⟨t, (n : Int)⟩ = VV l s x)) ∧ Hid (Below w6.heap.size w6 wc))
       case first =>
        by_cases h1 : X = T0
        ·have e1 : ((X : Int) == (T0 : Int)) = true := by rw [eq_nat]; exact decide_eq_true h1
         have HD := Lib.hid (show decide (val l s x ⟨t, (n : Int)⟩ = VV l s x) = ((Y : Int) == (B0' : Int)) by
          rw [HVAL.out, HV0.out, eq_nat]
          exact decide_eq_decide.2 ⟨fun h => congrArg Prod.snd h, fun h => by rw [h1, h]⟩)
         clear h1
         go_region_held3 (fun w' => w'.cell? ⟨g8, q * 2, none⟩ = some (.int .i64 t) ∧ w'.cell? ⟨g8, q * 2 + 1, none⟩ = some (.int .i64 (n : Int)) ∧ w'.cell? (bd.add P) = some (.int .i64 (V1 : Int)) ∧ w'.cell? (bd.add x) = some (.int .i64 (T0 : Int)) ∧ w'.cell? (ed.add P) = some (.int .i64 (V2 : Int)) ∧ w'.cell? (ed.add x) = some (.int .i64 (B0' : Int))) (first | exact ⟨z0, z1, y1, y2, y3, y4⟩ | exact ⟨zz0, zz1, yy1, yy2, yy3, yy4⟩ | go_keep)
          (first
           | (go_at_call 168; (with_reducible refine Calls.mono (HBF.out _) ?_); rintro e w7 ⟨rfl, hb7⟩; have HB7 := Lib.hid (show Below w6.heap.size w6 w7 from HBQ.out.trans (((below_drew (Below.refl wr.heap.size wr)).trans hb7).mono HBQ.out.size)); obtain ⟨zz0, zz1⟩ := HCH.out w7 (HB7.out.block g8 HG8.out); obtain ⟨yy1, yy2, yy3, yy4⟩ := HLD.out w7 HB7.out; clear hb7))
         all_goals
          go_wp2_with (fail)
          go_meet
          case rel => exact ⟨by rw [HD.out], HB7.out⟩
        ·have e1 : ((X : Int) == (T0 : Int)) = false := by rw [eq_nat]; exact decide_eq_false h1
         have HD := Lib.hid (show decide (val l s x ⟨t, (n : Int)⟩ = VV l s x) = false by
          rw [HVAL.out, HV0.out]
          exact decide_eq_false (fun h => h1 (congrArg Prod.fst h)))
         clear h1
         go_region
         go_wp2_with (fail)
         go_meet
         case rel => exact ⟨by rw [HD.out], below_drew HBQ.out⟩
       case rest =>
        obtain ⟨rfl, HBC⟩ := hcut
        clear z0 z1 y1 y2 y3 y4 pw xe xw ye yw HLD
        obtain ⟨z0, z1⟩ := HCH.out wc (HBC.out.block g8 HG8.out)
        by_cases hv : val l s x ⟨t, (n : Int)⟩ = VV l s x
        ·rw [decide_eq_true hv]
         have hfi := HFI.out q (by have := HLL.out; omega) (by rw [HCT.out]; exact hv) HNOT.out
         rw [HCT.out] at hfi
         injection hfi with e1 e2
         have e3 : (FF l s x).2 = n := by omega
         have hts := HTS.out
         rw [← e1, e3, HPP.out] at hts
         have hgo := HGO.out
         rw [hts] at hgo
         have HGO2 := Lib.hid hgo
         have HRC := Lib.hid (Kd.R_below HR6.out HBC.out)
         have HBYC := Lib.hid (Ints.bel_trans (Ints.bel_trans HBY.out HBY.out.size HB6.out) (Ints.bel_trans HBY.out HBY.out.size HB6.out).size HBC.out)
         have HSZ := Lib.hid (show w6.heap.size ≤ wc.heap.size from HBC.out.size)
         have HGC := Lib.hid (show wc.heap[g8]? = w6.heap[g8]? from HBC.out.block g8 HG8.out)
         have HZC := Lib.hid (show B1 ≤ wc.heap.size by have h1 := HBZ.out; have h2 := HB6.out.size; have h3 := HBC.out.size; omega)
         have HKC := Lib.hid (show ∀ k, B0 ≤ k → k < B1 → wc.heap[k]? = w5.heap[k]? from fun k h1 h2 => by
          have h3 := HBZ.out
          have h4 := HB6.out.size
          exact (HBC.out.block k (by omega)).trans ((HB6.out.block k (by omega)).trans (HKP.out k h1 h2)))
         have hnx : P ≤ s.size := by omega
         have HNP := Lib.hid (show 1 ≤ n from HN1.out)
         clear hv e1 e2 e3 hts hgo HBQ HBC
         go_wp2_with (((with_reducible refine gate_builtin (b := .append) (xs := #[.tmp 91, .tmp 97]) rfl ?_); at_builtin; apply stopper))
         unfold Stopper
         refine Kd.R_append KI (w0 := w) w.heap.size rfl (.tmp 91) (.tmp 97) 26 3 (.int .i64 0) 8 rfl Tryz.underlying26 infoInt rfl (by decide) (by omega) (.slice A7 ys.length c7) ys t [.int .i64 t] (fun _ => True) (fun _ => False) rfl rfl rfl (fun _ hk => hk.elim) (fun _ _ => trivial) HRC.out HBYC.out HBYC.out.size (by omega) ?_
         intro v9 w9 ho9 hb9 hg9 hat9
         have HR9 := Lib.hid ho9
         have HB9 := Lib.hid hb9
         have HK9 := Lib.hid (show ∀ k, B0 ≤ k → k < B1 → w9.heap[k]? = w5.heap[k]? from fun k h1 h2 => (hg9.block k (by have := HZC.out; omega) (fun e => by have := HOW.out k e.symm; omega)).trans (HKC.out k h1 h2))
         have HO9 := Lib.hid (show ∀ z, v9.ownBlock = some z → z < B0 ∨ B1 ≤ z from fun z hz => by
          rcases hat9 with e | ⟨b', e, hb'⟩
          ·exact HOW.out z (e ▸ hz)
          ·rw [e] at hz
           injection hz with hz
           have := HZC.out
           omega)
         have HZ9 := Lib.hid (show B1 ≤ w9.heap.size from Nat.le_trans HZC.out hg9.size)
         have hgw : w9.heap[g8]? = wc.heap[g8]? := hg9.block g8 (by exact Nat.lt_of_lt_of_le HG8.out HSZ.out) (fun e => HGO8.out e.symm)
         obtain ⟨zz0, zz1⟩ := HCH.out w9 (hgw.trans HGC.out)
         clear ho9 hb9 hg9 hat9 hgw z0 z1
         go_wp2_with (fail)
         go_roundg (s.size - P)
         case measure => have := HXJ.out; have := HPP.out; have := HNP.out; omega
         case rel => exact ⟨P, ys ++ [t], by go_num, by omega, by omega, by rw [List.length_append]; have := HYL.out; have := HPP.out; have := HNP.out; simp; omega, by rw [HGO2.out, List.append_assoc]; rfl, HR9.out, HK9.out, HO9.out, HZ9.out, HB9.out⟩
        ·rw [decide_eq_false hv]
         have HNV := Lib.hid hv
         clear hv
         go_wp2_with (fail)
         go_roundg (L - (q + 1))
         case measure => have := HQ2.out; omega
         case rel => exact ⟨rfl, rfl, q + 1, by have := HQ2.out; omega, by go_num, fun j' hj' => by
          by_cases hjq : j' = q
          ·rw [hjq, HCT.out]; exact HNV.out
          ·exact HNOT.out j' (by omega), HBC.out⟩
      ·exfalso
       obtain ⟨j', hj', hv⟩ := HSI.out
       exact HQ.out.1 j' (by have := HLL.out; omega) hv
    ·obtain rfl : x = s.size := by omega
     rw [toks_end l s s.size (Nat.le_refl _), List.nil_append] at hgo
     have HGO := Lib.hid hgo
     have HRY := Lib.hid hry
     have HBY := Lib.hid hby
     have HYL := Lib.hid hyl
     clear hxj hxs' hyl hgo hry hkp how hbz hby HX
     go_wp2_with (fail)
     go_roundg (b.size - (a + W))
     case measure => have := HJ.out; omega
     case rel => exact ⟨a + W, ys, by go_num, by have := HJ.out; omega, by have := HYL.out; have := HXA.out; have := HSW.out; omega, HGO.out, HRY.out, HBY.out⟩
  ·obtain ⟨hj, hxa, hgo, hr, hbw⟩ := HI.out
   rw [best_from_endR l W b a (by omega), List.append_nil] at hgo
   have hae : (b.size : Int) ≤ (a : Int) := by omega
   have HGO := Lib.hid hgo
   have HR := Lib.hid hr
   have HBW := Lib.hid hbw
   clear hj hxa hgo hr hbw HI
   go_wp2_with (fail)
   go_ret
   exact ⟨_, rfl, by rw [HGO.out]; exact HR.out, HBW.out⟩
end Go.Proofs.YtfbbcfhdjhiejaaGreat.Best

/- The document's own parse that looks ahead: how far one comes, how many bytes are taken, all tokens. -/
namespace Go.Proofs.YtfbbcfhdjhiejaaGreat.Flex
set_option linter.unusedVariables false
set_option linter.unusedSimpArgs false
open Go.RowKit Go.Proofs.YtfbbcfhdjhiejaaGreatW.PrintWords Go.Proofs.YtfbbcfhdjhiejaaGreatW.PrintMore Go.Proofs.YtfbbcfhdjhiejaaGreat.L Go.Proofs.YtfbbcfhdjhiejaaGreat.Texts Go.Proofs.YtfbbcfhdjhiejaaGreat.Dict Go.Proofs.YtfbbcfhdjhiejaaGreat.Ints Go.Proofs.YtfbbcfhdjhiejaaGreat.Greedy
set_option maxRecDepth 100000 in
set_option maxHeartbeats 1000000 in
theorem ref_reach (A : Option Addr) (c : Nat) (l : List ByteArray) (b : ByteArray) (a n : Nat) (w : World) (h : KS.C w A l.length l) (han : a + n ≤ b.size) (hbs : b.size ≤ 1000000) :
  Calls Tryz.prog 179 #[.slice A l.length c, .string b, .int .i64 a, .int .i64 n] w fun e w' => e = .returned (.int .i64 (reach l b a n : Nat)) ∧ Below w.heap.size w w' := by
 have H := Lib.hid h
 have a0 : (0 : Int) ≤ (a : Int) := by omega
 have n0 : (0 : Int) ≤ (n : Int) := by omega
 have a1 : (a : Int) ≤ (b.size : Int) := by omega
 have a2 : (n : Int) ≤ (b.size : Int) - (a : Int) := by omega
 clear h
 by_cases he : a + n = b.size
 ·have hr := Lib.hid (show reach l b a n = b.size by unfold reach nl; rw [if_neg (by omega)]; omega)
  have e1 : (a : Int) + (n : Int) = (b.size : Int) := by omega
  have e2 : ((b.size : Int) == (b.size : Int)) = true := by simp
  clear he
  go_enter Tryz.func179, Tryz.ntmps179
  go_wp2_with (fail)
  go_ret
  rw [hr.out]
  exact ⟨rfl, Below.refl _ _⟩
 ·have hr := Lib.hid (show reach l b a n = a + n + firstLen l b (a + n) by unfold reach nl; rw [if_pos (by omega)])
  have e1 : ((a : Int) + (n : Int) == (b.size : Int)) = false := by simp; omega
  have hf := firstLen_fits l b (a + n) (by omega)
  obtain ⟨F, hF⟩ : ∃ F, firstLen l b (a + n) = F := ⟨_, rfl⟩
  rw [hF] at hf
  have HF := Lib.hid hF
  have hle : a + n ≤ b.size := by omega
  have S1 := Lib.hid (show (a : Int) + (n : Int) = ((a + n : Nat) : Int) by omega)
  clear he hF
  go_enter Tryz.func179, Tryz.ntmps179
  go_wp2_with (fail)
  rw [S1.out]
  refine (ref_first _ _ l b (a + n) _ H.out hle hbs).mono ?_
  rintro e w1 ⟨rfl, hb1⟩
  rw [HF.out]
  have HB1 := Lib.hid hb1
  clear hb1
  go_wp2_with (fail)
  go_ret
  rw [hr.out, HF.out]
  exact ⟨by go_num, HB1.out⟩
/-! ### the candidates, the greatest first -/
def downC (l : List ByteArray) (b : ByteArray) (a : Nat) : Nat → List Int
 | 0 => []
 | n + 1 => if has (piece b a (n + 1)) l = true ∨ n + 1 = 1 then ((n + 1 : Nat) : Int) :: downC l b a n else downC l b a n
def needs1 (zs : List Int) : Prop := zs = [] ∨ 1 < zs.getD (zs.length - 1) 0
theorem needs1_cons (x : Int) (t : List Int) (ht : t ≠ []) : needs1 (x :: t) ↔ needs1 t := by
 unfold needs1
 have hl : 0 < t.length := List.length_pos_iff.2 ht
 have h1 : (x :: t).getD ((x :: t).length - 1) 0 = t.getD (t.length - 1) 0 := by
  rw [List.length_cons, show t.length + 1 - 1 = (t.length - 1) + 1 by omega]
  rfl
 rw [h1]
 simp [ht]
theorem down_stands (l : List ByteArray) (b : ByteArray) (a : Nat) : ∀ n, (needs1 (standsDown l b a (n + 1)) → standsDown l b a (n + 1) ++ [1] = downC l b a (n + 1)) ∧ (¬ needs1 (standsDown l b a (n + 1)) → standsDown l b a (n + 1) = downC l b a (n + 1))
 | 0 => by
   have hC : downC l b a (0 + 1) = [1] := if_pos (Or.inr rfl)
   have hD : standsDown l b a (0 + 1) = if has (piece b a (0 + 1)) l = true then [1] else [] := rfl
   rw [hC, hD]
   by_cases hh : has (piece b a (0 + 1)) l = true
   ·rw [if_pos hh]
    refine ⟨fun h => ?_, fun _ => rfl⟩
    rcases h with h | h
    ·cases h
    ·exact absurd h (by show ¬ (1 : Int) < 1; decide)
   ·rw [if_neg hh]
    exact ⟨fun _ => rfl, fun h => absurd (.inl rfl) h⟩
 | n + 1 => by
   have ih := down_stands l b a n
   have hD : standsDown l b a (n + 1 + 1) = if has (piece b a (n + 1 + 1)) l = true then ((n + 1 + 1 : Nat) : Int) :: standsDown l b a (n + 1) else standsDown l b a (n + 1) := rfl
   have hC : downC l b a (n + 1 + 1) = if has (piece b a (n + 1 + 1)) l = true ∨ n + 1 + 1 = 1 then ((n + 1 + 1 : Nat) : Int) :: downC l b a (n + 1) else downC l b a (n + 1) := rfl
   rw [hD, hC]
   by_cases hh : has (piece b a (n + 1 + 1)) l = true
   ·rw [if_pos hh, if_pos (.inl hh)]
    by_cases ht : standsDown l b a (n + 1) = []
    ·have h1 := ih.1 (.inl ht)
     rw [ht] at h1 ⊢
     rw [← h1]
     refine ⟨fun _ => rfl, fun h => absurd (.inr ?_) h⟩
     show (1 : Int) < ((n + 1 + 1 : Nat) : Int)
     omega
    ·rw [needs1_cons _ _ ht]
     exact ⟨fun h => by rw [← ih.1 h]; rfl, fun h => by rw [← ih.2 h]⟩
   ·rw [if_neg hh, if_neg (by rintro (h | h); exact hh h; omega)]
    exact ih
theorem downC_mem (l : List ByteArray) (b : ByteArray) (a : Nat) (x : Int) : ∀ n, x ∈ downC l b a n ↔ ∃ m : Nat, x = m ∧ 1 ≤ m ∧ m ≤ n ∧ (has (piece b a m) l = true ∨ m = 1)
 | 0 => by
   constructor
   ·intro h; simp [downC] at h
   ·rintro ⟨m, _, h1, h2, _⟩; omega
 | n + 1 => by
   have ih := downC_mem l b a x n
   unfold downC
   by_cases hh : has (piece b a (n + 1)) l = true ∨ n + 1 = 1
   ·rw [if_pos hh, List.mem_cons, ih]
    constructor
    ·rintro (h | ⟨m, h1, h2, h3, h4⟩)
     ·exact ⟨n + 1, h, by omega, Nat.le_refl _, hh⟩
     ·exact ⟨m, h1, h2, by omega, h4⟩
    ·rintro ⟨m, h1, h2, h3, h4⟩
     by_cases he : m = n + 1
     ·subst he
      exact .inl h1
     ·exact .inr ⟨m, h1, h2, by omega, h4⟩
   ·rw [if_neg hh, ih]
    constructor
    ·rintro ⟨m, h1, h2, h3, h4⟩
     exact ⟨m, h1, h2, by omega, h4⟩
    ·rintro ⟨m, h1, h2, h3, h4⟩
     by_cases he : m = n + 1
     ·subst he
      exact absurd h4 hh
     ·exact ⟨m, h1, h2, by omega, h4⟩
theorem downC_falls (l : List ByteArray) (b : ByteArray) (a : Nat) : ∀ n i j, i < j → j < (downC l b a n).length → (downC l b a n).getD j 0 < (downC l b a n).getD i 0
 | 0, i, j, _, hj => by simp [downC] at hj
 | n + 1, i, j, hij, hj => by
   have ih := downC_falls l b a n
   unfold downC at hj ⊢
   by_cases hh : has (piece b a (n + 1)) l = true ∨ n + 1 = 1
   ·rw [if_pos hh] at hj ⊢
    rw [List.length_cons] at hj
    cases j with
    | zero => omega
    | succ j =>
      cases i with
      | zero =>
        have hx : (downC l b a n).getD j 0 ∈ downC l b a n := by
         rw [List.getD_eq_getElem?_getD, List.getElem?_eq_getElem (by omega)]
         exact List.getElem_mem _
        obtain ⟨m, h1, _, h3, _⟩ := (downC_mem l b a _ n).1 hx
        show (downC l b a n).getD j 0 < ((n + 1 : Nat) : Int)
        omega
      | succ i => exact ih i j (by omega) (by omega)
   ·rw [if_neg hh] at hj ⊢
    exact ih i j hij hj
def BInv (l : List ByteArray) (b : ByteArray) (a : Nat) (zs : List Int) (q B : Nat) : Prop := ∃ p, p < q ∧ zs.getD p 0 = (B : Int) ∧ ∀ i, i < q → ∀ m : Nat, zs.getD i 0 = (m : Int) → lexLe (reach l b a m) m (reach l b a B) B
theorem binv_start {l : List ByteArray} {b : ByteArray} {a : Nat} {zs : List Int} {m : Nat} (h : zs.getD 0 0 = (m : Int)) : BInv l b a zs 1 m := by
 refine ⟨0, by omega, h, fun i hi k hk => ?_⟩
 obtain rfl : i = 0 := by omega
 obtain rfl : k = m := by omega
 exact lexLe_refl _ _
theorem binv_take {l : List ByteArray} {b : ByteArray} {a : Nat} {zs : List Int} {q B m : Nat} (h : BInv l b a zs q B) (hm : zs.getD q 0 = (m : Int)) (hr : reach l b a B < reach l b a m) : BInv l b a zs (q + 1) m := by
 obtain ⟨p, hp, hB, hall⟩ := h
 refine ⟨q, by omega, hm, fun i hi k hk => ?_⟩
 by_cases he : i = q
 ·subst he
  obtain rfl : k = m := by omega
  exact lexLe_refl _ _
 ·have := hall i (by omega) k hk
  unfold lexLe at *
  omega
theorem binv_leave {l : List ByteArray} {b : ByteArray} {a : Nat} {zs : List Int} {q B m : Nat} (h : BInv l b a zs q B) (hm : zs.getD q 0 = (m : Int)) (hq : q < zs.length) (hz : ∀ i j, i < j → j < zs.length → zs.getD j 0 < zs.getD i 0) (hr : reach l b a m ≤ reach l b a B) : BInv l b a zs (q + 1) B := by
 obtain ⟨p, hp, hB, hall⟩ := h
 refine ⟨p, by omega, hB, fun i hi k hk => ?_⟩
 by_cases he : i = q
 ·subst he
  obtain rfl : k = m := by omega
  have := hz p i hp hq
  unfold lexLe
  omega
 ·exact hall i (by omega) k hk
theorem binv_end {l : List ByteArray} {b : ByteArray} {a B : Nat} (hok : okTexts l) (ha : a < b.size) (h : BInv l b a (downC l b a (min 40 (b.size - a))) (downC l b a (min 40 (b.size - a))).length B) : B = bestLen l b a := by
 obtain ⟨p, hp, hB, hall⟩ := h
 refine isBest_one ⟨?_, fun m hm => ?_⟩ (best_is l b a ha)
 ·have hx : (B : Int) ∈ downC l b a (min 40 (b.size - a)) := by
   rw [← hB, List.getD_eq_getElem?_getD, List.getElem?_eq_getElem hp]
   exact List.getElem_mem _
  obtain ⟨m, h1, h2, h3, h4⟩ := (downC_mem l b a _ _).1 hx
  obtain rfl : B = m := by omega
  exact ⟨h2, by omega, h4⟩
 ·have h40 : m ≤ 40 := by
   rcases hm.2.2 with hh | hh
   ·obtain ⟨k, hk, he⟩ := List.getElem_of_mem ((has_iff _ _).1 hh)
    have := (hok.2 k hk).2.1
    rw [List.getD_eq_getElem?_getD, List.getElem?_eq_getElem hk, Option.getD_some, he, piece_size b a m hm.2.1] at this
    exact this
   ·omega
  have hx : (m : Int) ∈ downC l b a (min 40 (b.size - a)) := (downC_mem l b a _ _).2 ⟨m, rfl, hm.1, by have := hm.2.1; omega, hm.2.2⟩
  obtain ⟨i, hi, he⟩ := List.getElem_of_mem hx
  exact hall i hi m (by rw [List.getD_eq_getElem?_getD, List.getElem?_eq_getElem hi]; exact he)
theorem downC_len (l : List ByteArray) (b : ByteArray) (a : Nat) : ∀ n, (downC l b a n).length ≤ n
 | 0 => Nat.le_refl _
 | n + 1 => by
   have := downC_len l b a n
   unfold downC
   split
   ·rw [List.length_cons]; omega
   ·omega
theorem downC_pos (l : List ByteArray) (b : ByteArray) (a : Nat) (n : Nat) (hn : 1 ≤ n) : 1 ≤ (downC l b a n).length := List.length_pos_of_mem ((downC_mem l b a 1 n).2 ⟨1, rfl, Nat.le_refl _, hn, .inr rfl⟩)
set_option maxRecDepth 100000 in
set_option maxHeartbeats 4000000 in
theorem ref_second (A : Option Addr) (c : Nat) (l : List ByteArray) (b : ByteArray) (a : Nat) (w : World) (h : KS.C w A l.length l) (hok : okTexts l) (ha : a < b.size) (hbs : b.size ≤ 1000000) :
  Calls Tryz.prog 165 #[.slice A l.length c, .string b, .int .i64 a] w fun e w' => e = .returned (.int .i64 (bestLen l b a : Nat)) ∧ Below w.heap.size w w' := by
 have H := Lib.hid h
 have HOK := Lib.hid hok
 have hds := down_stands l b a (min 40 (b.size - a) - 1)
 rw [show min 40 (b.size - a) - 1 + 1 = min 40 (b.size - a) by omega] at hds
 have hfin := fun B => binv_end (B := B) hok ha
 have hmem := fun x => downC_mem l b a x (min 40 (b.size - a))
 have hfall := downC_falls l b a (min 40 (b.size - a))
 have hlen := downC_len l b a (min 40 (b.size - a))
 have hpos := downC_pos l b a (min 40 (b.size - a)) (by omega)
 have hsl : (stands_ l b a).length ≤ 40 := Nat.le_trans (standsDown_len l b a _) (Nat.min_le_left _ _)
 have hst : stands_ l b a = standsDown l b a (min 40 (b.size - a)) := rfl
 rw [← hst] at hds
 obtain ⟨zs, hzs⟩ : ∃ zs, downC l b a (min 40 (b.size - a)) = zs := ⟨_, rfl⟩
 rw [hzs] at hds hfin hmem hfall hlen hpos
 have hzc : ∀ q, q < zs.length → ∃ m : Nat, zs.getD q 0 = (m : Int) ∧ a + m ≤ b.size := by
  intro q hq
  have hx : zs.getD q 0 ∈ zs := by
   rw [List.getD_eq_getElem?_getD, List.getElem?_eq_getElem hq]
   exact List.getElem_mem _
  obtain ⟨m, h1, _, h3, _⟩ := (hmem _).1 hx
  exact ⟨m, h1, by omega⟩
 have hz41 : zs.length ≤ 40 := by omega
 have HFIN := Lib.hid hfin
 have HFALL := Lib.hid hfall
 have HZC := Lib.hid hzc
 have HDS := Lib.hid hds
 have a0 : (0 : Int) ≤ (a : Int) := by omega
 have a1 : (a : Int) < (b.size : Int) := by omega
 clear h hok hfin hfall hzc hds hmem hzs hlen hst
 go_enter Tryz.func165, Tryz.ntmps165
 go_wp2_with (fail)
 refine (ref_stands _ _ l b a _ H.out (by omega) hbs).mono ?_
 rintro e w1 ⟨v1, rfl, hr1, hb1⟩
 have HDS2 := Lib.hid HDS.out
 generalize stands_ l b a = ss at hr1 HDS HDS2 hsl
 obtain ⟨A1, c1, rfl⟩ := Kd.R_slice hr1
 have HR1 := Lib.hid hr1
 have HB1 := Lib.hid hb1
 clear hr1 hb1 HDS2
 have hcase : ss = [] ∨ (0 < ss.length ∧ 1 < ss.getD (ss.length - 1) 0) ∨ (0 < ss.length ∧ ss.getD (ss.length - 1) 0 ≤ 1) := by
  by_cases h0 : ss = []
  ·exact .inl h0
  ·have := List.length_pos_iff.2 h0
   by_cases h1 : 1 < ss.getD (ss.length - 1) 0
   ·exact .inr (.inl ⟨this, h1⟩)
   ·exact .inr (.inr ⟨this, by omega⟩)
 rcases hcase with h0 | ⟨h0, h1⟩ | ⟨h0, h1⟩
 case' inl =>
  have hz := HDS.out.1 (.inl h0)
  subst h0
  have HZ := Lib.hid hz
  have HR2 := Lib.hid HR1.out
  clear hz
  go_wp2_with (((with_reducible refine gate_builtin (b := .append) (xs := #[.tmp 26, .tmp 27]) rfl ?_); at_builtin; apply stopper))
  unfold Stopper
  refine Kd.R_append KI (w0 := w) w.heap.size rfl (.tmp 26) (.tmp 27) 26 3 (.int .i64 0) 8 rfl Tryz.underlying26 infoInt rfl (by decide) (by omega) _ [] 1 [.int .i64 1] (fun _ => True) (fun _ => False) rfl rfl rfl (fun _ hk => hk.elim) (fun _ _ => trivial) (by exact HR2.out) HB1.out HB1.out.size (by first | omega | (simp only [List.length_nil]; omega)) ?_
  intro v2 w2 hr2 hb2 hg2 hat2
  rw [HZ.out] at hr2
  obtain ⟨A2, c2, rfl⟩ := Kd.R_slice hr2
  have HC := Lib.hid (Kd.R_reads' hr2).2.2
  have HB := Lib.hid hb2
  clear hr2 hb2 hg2 hat2 HR1 HB1 HR2 HZ
  obtain ⟨wx, rfl⟩ : ∃ x : World, x = w2 := ⟨_, rfl⟩
 case' inr.inl =>
  have hz := HDS.out.1 (.inr h1)
  have HZ := Lib.hid hz
  obtain ⟨x, hx⟩ : ∃ x, ss.getD (ss.length - 1) 0 = x := ⟨_, rfl⟩
  obtain ⟨L, hL⟩ : ∃ L, ss.length = L := ⟨_, rfl⟩
  obtain ⟨ad, rfl, x0⟩ := ints_at (Kd.R_reads' HR1.out).2.2 (ss.length - 1) (by omega)
  have hr2 := HR1.out
  rw [hL] at hr2
  rw [hx] at x0 h1
  rw [hL] at x0 h0 hsl ⊢
  have HLL := Lib.hid hL
  have HR2 := Lib.hid hr2
  have i0 : (0 : Int) ≤ (L : Int) - 1 := by omega
  have i1 : (L : Int) - 1 < (L : Int) := by omega
  have i2 : ((L : Int) - 1).toNat = L - 1 := by omega
  have i3 : ((L : Int) == 0) = false := by simp; omega
  clear hz hx hr2
  go_wp2_with (((with_reducible refine gate_builtin (b := .append) (xs := #[.tmp 26, .tmp 27]) rfl ?_); at_builtin; apply stopper))
  unfold Stopper
  refine Kd.R_append KI (w0 := w) w.heap.size rfl (.tmp 26) (.tmp 27) 26 3 (.int .i64 0) 8 rfl Tryz.underlying26 infoInt rfl (by decide) (by omega) _ ss 1 [.int .i64 1] (fun _ => True) (fun _ => False) rfl rfl rfl (fun _ hk => hk.elim) (fun _ _ => trivial) (by exact HR2.out) HB1.out HB1.out.size (by first | omega | (simp only [List.length_nil]; omega)) ?_
  intro v2 w2 hr2 hb2 hg2 hat2
  rw [HZ.out] at hr2
  obtain ⟨A2, c2, rfl⟩ := Kd.R_slice hr2
  have HC := Lib.hid (Kd.R_reads' hr2).2.2
  have HB := Lib.hid hb2
  clear hr2 hb2 hg2 hat2 HR1 HB1 HR2 HZ
  obtain ⟨wx, rfl⟩ : ∃ x : World, x = w2 := ⟨_, rfl⟩
 case' inr.inr =>
  have hz := HDS.out.2 (by rintro (h | h); (rw [h] at h0; exact absurd h0 (by decide)); exact Int.not_lt.2 h1 h)
  subst hz
  obtain ⟨x, hx⟩ : ∃ x, ss.getD (ss.length - 1) 0 = x := ⟨_, rfl⟩
  obtain ⟨ad, rfl, x0⟩ := ints_at (Kd.R_reads' HR1.out).2.2 (ss.length - 1) (by omega)
  rw [hx] at x0 h1
  have HC := Lib.hid (Kd.R_reads' HR1.out).2.2
  have HB := Lib.hid HB1.out
  have i0 : (0 : Int) ≤ (ss.length : Int) - 1 := by omega
  have i1 : (ss.length : Int) - 1 < (ss.length : Int) := by omega
  have i2 : ((ss.length : Int) - 1).toNat = ss.length - 1 := by omega
  have i3 : ((ss.length : Int) == 0) = false := beq_eq_false_iff_ne.2 (by omega)
  clear hx HR1 HB1
  obtain ⟨zs, rfl⟩ : ∃ x : List Int, x = ss := ⟨_, rfl⟩
  obtain ⟨wx, rfl⟩ : ∃ x : World, x = w1 := ⟨_, rfl⟩
  skip
 all_goals
  obtain ⟨m0, hm0, hf0⟩ := HZC.out 0 (by omega)
  obtain ⟨ad, had, y0⟩ := ints_at HC.out 0 (by omega)
  first | subst had | (injection had with had; subst had)
  rw [hm0] at y0
  have y1 : wx.cell? ad = some (.int .i64 m0) := by
   have h0 : ad.add 0 = ad := by cases ad; simp [Addr.add]
   rw [h0] at y0
   exact y0
  have hzp : (0 : Int) < (zs.length : Int) := by omega
  have HBI := Lib.hid (binv_start (l := l) (b := b) (a := a) hm0)
  clear hm0 HDS hsl
  go_wp2_with (fail)
  go_loopg [8, 9] (zs.length - 1) (fun j best i wr => ∃ q B : Nat, q + j = zs.length ∧ best = .int .i64 B ∧ i = .int .i64 q ∧ Hid (1 ≤ q ∧ BInv l b a zs q B ∧ a + B ≤ b.size ∧ Below w.heap.size w wr ∧ Below wx.heap.size wx wr))
  case atStart => exact ⟨1, m0, by omega, rfl, rfl, by omega, HBI.out, hf0, HB.out, Below.refl _ _⟩
  case round =>
   obtain ⟨q, B, hq, rfl, rfl, HI⟩ := hrel
   obtain ⟨hq1, hbi, hfb, hb, hbx⟩ := HI.out
   by_cases hlt : q < zs.length
   ·obtain ⟨m, hm, hf⟩ := HZC.out q hlt
    obtain ⟨ad2, had, x0⟩ := ints_at (Kd.C_below HC.out hbx) q hlt
    injection had with had
    subst had
    rw [hm] at x0
    obtain ⟨RM, hRM⟩ : ∃ R, reach l b a m = R := ⟨_, rfl⟩
    obtain ⟨RB, hRB⟩ : ∃ R, reach l b a B = R := ⟨_, rfl⟩
    have i0 : (0 : Int) ≤ q := by omega
    have i1 : (q : Int) < (zs.length : Int) := by omega
    have i2 : ((q : Int)).toNat = q := by omega
    have HQ := Lib.hid hq
    have HRM := Lib.hid hRM
    have HRB := Lib.hid hRB
    have HM := Lib.hid hm
    have HBV := Lib.hid hbi
    have HB5 := Lib.hid hb
    have HX5 := Lib.hid hbx
    clear hq hRM hRB hm hbi hb hbx HI
    go_wp2_with (fail)
    refine (ref_reach _ _ l b a m _ (Kd.C_below H.out HB5.out) hf hbs).mono ?_
    rintro e w6 ⟨rfl, hb6⟩
    rw [HRM.out]
    have HB6 := Lib.hid (Ints.bel_trans HB5.out HB5.out.size hb6)
    have HX6 := Lib.hid (Ints.bel_trans HX5.out HX5.out.size hb6)
    clear hb6 HB5 HX5
    go_wp2_with (fail)
    refine (ref_reach _ _ l b a B _ (Kd.C_below H.out HB6.out) hfb hbs).mono ?_
    rintro e w7 ⟨rfl, hb7⟩
    rw [HRB.out]
    have HB7 := Lib.hid (Ints.bel_trans HB6.out HB6.out.size hb7)
    have HX7 := Lib.hid (Ints.bel_trans HX6.out HX6.out.size hb7)
    clear hb7 HB6 HX6
    obtain ⟨ad2, had, x7⟩ := ints_at (Kd.C_below HC.out HX7.out) q hlt
    injection had with had
    subst had
    rw [HM.out] at x7
    by_cases hr : RB < RM
    ·have g1 : decide ((RB : Int) < (RM : Int)) = true := decide_eq_true (by omega)
     have g1' : decide (RB < RM) = true := decide_eq_true hr
     have g2 : (RB : Int) < (RM : Int) := by omega
     have HN := Lib.hid (binv_take HBV.out HM.out (by rw [HRB.out, HRM.out]; exact hr))
     clear hr
     go_wp2_with (fail)
     go_roundg (zs.length - (q + 1))
     case measure => have := HQ.out; omega
     case rel => exact ⟨q + 1, m, by have := HQ.out; omega, rfl, by go_num, by omega, HN.out, hf, HB7.out, HX7.out⟩
    ·have g1 : decide ((RB : Int) < (RM : Int)) = false := decide_eq_false (by omega)
     have g1' : decide (RB < RM) = false := decide_eq_false hr
     have g2 : (RM : Int) ≤ (RB : Int) := by omega
     have HN := Lib.hid (binv_leave HBV.out HM.out hlt HFALL.out (by rw [HRB.out, HRM.out]; omega))
     clear hr
     go_wp2_with (fail)
     go_roundg (zs.length - (q + 1))
     case measure => have := HQ.out; omega
     case rel => exact ⟨q + 1, B, by have := HQ.out; omega, rfl, by go_num, by omega, HN.out, hfb, HB7.out, HX7.out⟩
   ·obtain rfl : q = zs.length := by omega
    have hB := Lib.hid (HFIN.out B hbi)
    have HB5 := Lib.hid hb
    clear hq hbi hb hbx HI
    go_wp2_with (fail)
    go_ret
    rw [← hB.out]
    exact ⟨rfl, HB5.out⟩
set_option maxRecDepth 100000 in
set_option maxHeartbeats 1000000 in
theorem ref_flex (A : Option Addr) (c : Nat) (l : List ByteArray) (b : ByteArray) (w : World) (h : KS.C w A l.length l) (hok : okTexts l) (hbs : b.size ≤ 1000000) :
  Calls Tryz.prog 142 #[.slice A l.length c, .string b] w fun e w' => ∃ v, e = .returned v ∧ KI.R 3 w' w.heap.size (fun _ => True) v (parseF l b) ∧ Below w.heap.size w w' := by
 have H := Lib.hid h
 have HOK := Lib.hid hok
 clear h hok
 go_enter Tryz.func142, Tryz.ntmps142
 go_wp2_with (fail)
 go_loopg [5, 6] b.size (fun j v i wr => ∃ (a : Nat) (xs : List Int), i = .int .i64 a ∧ Hid (a + j = b.size ∧ xs.length ≤ a ∧ parseF l b = xs ++ fromF l b a ∧ KI.R 3 wr w.heap.size (fun _ => True) v xs ∧ Below w.heap.size w wr))
 case atStart => exact ⟨0, [], rfl, by omega, Nat.le_refl _, rfl, Kd.R_nil _ _ _ _ _, Below.refl _ _⟩
 case round =>
  obtain ⟨a, xs, rfl, HI⟩ := hrel
  obtain ⟨haj, hxa, hgo, hr, hb⟩ := HI.out
  by_cases hlt : a < b.size
  ·have hlti : (a : Int) < (b.size : Int) := by omega
   have hst := fromF_step l b a hlt
   have hf1 := best_pos l b a hlt
   have hf2 := best_fits l b a hlt
   obtain ⟨F, hF⟩ : ∃ F, bestLen l b a = F := ⟨_, rfl⟩
   rw [hF] at hst hf1 hf2
   obtain ⟨T, hT⟩ : ∃ T, tokenOf l b a F = T := ⟨_, rfl⟩
   rw [hT] at hst
   rw [hst] at hgo
   have HT := Lib.hid hT
   have HF := Lib.hid hF
   have HGO := Lib.hid hgo
   have HXA := Lib.hid hxa
   have HAJ := Lib.hid haj
   have HR := Lib.hid hr
   have HB := Lib.hid hb
   obtain ⟨A5, c5, rfl⟩ := Kd.R_slice hr
   have S1 := Lib.hid (show ((a + F : Nat) : Int) = (a : Int) + (F : Int) by omega)
   clear hst hgo hxa haj hr hb hT hF HI
   go_wp2_with (fail)
   refine (ref_second _ _ l b a _ (Kd.C_below H.out HB.out) HOK.out hlt hbs).mono ?_
   rintro e w1 ⟨rfl, hb1⟩
   rw [HF.out]
   have HB1 := Lib.hid (Ints.bel_trans HB.out HB.out.size hb1)
   have HR1 := Lib.hid (Kd.R_below HR.out hb1)
   clear hb1 HB HR
   go_wp2_with (fail)
   refine (ref_token _ _ l b a F _ (Kd.C_below H.out HB1.out) HOK.out.1 hlt hf2 hbs).mono ?_
   rintro e w2 ⟨rfl, q, rfl⟩
   rw [HT.out]
   go_wp2_with (((with_reducible refine gate_builtin (b := .append) (xs := #[.tmp 16, .tmp 22]) rfl ?_); at_builtin; apply stopper))
   unfold Stopper
   refine Kd.R_append KI (w0 := w) w.heap.size rfl (.tmp 16) (.tmp 22) 26 3 (.int .i64 0) 8 rfl Tryz.underlying26 infoInt rfl (by decide) (by omega) (.slice A5 xs.length c5) xs T [.int .i64 T] (fun _ => True) (fun _ => False) rfl rfl rfl (fun _ hk => hk.elim) (fun _ _ => trivial) (Kd.R_drewN HR1.out q) (below_drewN HB1.out q) HB1.out.size (by have := HXA.out; omega) ?_
   intro v1 w3 ho hb2 hg2 hat2
   have HR2 := Lib.hid ho
   have HB2 := Lib.hid hb2
   clear ho hb2 hg2 hat2 HR1 HB1
   go_wp2
   go_roundg (b.size - (a + F))
   case measure => have := HAJ.out; omega
   case rel => exact ⟨a + F, xs ++ [T], by rw [S1.out], by omega, by rw [List.length_append]; have := HXA.out; simp; omega, by rw [HGO.out, List.append_assoc]; rfl, HR2.out, HB2.out⟩
  ·have hge : (b.size : Int) ≤ (a : Int) := by omega
   rw [fromF_end l b a (by omega), List.append_nil] at hgo
   have HGO := Lib.hid hgo
   have HR := Lib.hid hr
   have HB := Lib.hid hb
   clear hgo hr hb HI haj hxa
   go_wp2_with (fail)
   go_ret
   exact ⟨_, rfl, by rw [HGO.out]; exact HR.out, HB.out⟩
end Go.Proofs.YtfbbcfhdjhiejaaGreat.Flex

/- Chapter 15, plain: no tokens that mean the same bytes cost less: not greedy's, not flex's, not any that are drawn; within each window: what greedy's and flex's tokens mean, pieces joined, and the walk. -/
namespace Go.Proofs.YtfbbcfhdjhiejaaGreat.Greedy
set_option linter.unusedVariables false
set_option linter.unusedSimpArgs false
open Go.RowKit Go.Proofs.YtfbbcfhdjhiejaaGreatW.PrintWords Go.Proofs.YtfbbcfhdjhiejaaGreatW.PrintMore Go.Proofs.YtfbbcfhdjhiejaaGreat.L Go.Proofs.YtfbbcfhdjhiejaaGreat.Texts Go.Proofs.YtfbbcfhdjhiejaaGreat.Dict Go.Proofs.YtfbbcfhdjhiejaaGreat.Ints Go.Proofs.YtfbbcfhdjhiejaaGreat.Say
theorem means_token (l : List ByteArray) (b : ByteArray) (a n : Nat) (ha : a < b.size) (h : has (piece b a n) l = true ∨ n = 1) : means l (tokenOf l b a n) = piece b a n := by
 unfold tokenOf
 by_cases hh : has (piece b a n) l = true
 ·have hi := (idx_mem _ _).2 ((has_iff _ _).1 hh)
  rw [if_pos hh, means_phrase l _ hi, idx_get _ _ hi]
 ·have hn : n = 1 := h.resolve_left hh
  subst hn
  have h1 := byteAt_lt b a
  rw [if_neg hh, piece_one b a ha]
  have := means_byte l (byteAt b a).toNat (by omega)
  rw [show (((byteAt b a).toNat : Nat) : Int) = byteAt b a by omega] at this
  exact this
theorem first_has (l : List ByteArray) (b : ByteArray) (a : Nat) : has (piece b a (firstLen l b a)) l = true ∨ firstLen l b a = 1 := by
 by_cases h : longest l b a = 0
 ·right
  unfold firstLen
  rw [if_pos h]
 ·left
  obtain ⟨h1, h2, _⟩ := token_phrase l b a h
  rw [h1]
  exact h2
theorem means_first (l : List ByteArray) (b : ByteArray) (a : Nat) (ha : a < b.size) : means l (tokenOf l b a (firstLen l b a)) = piece b a (firstLen l b a) := means_token l b a _ ha (first_has l b a)
theorem piece_join (b : ByteArray) (a n m : Nat) (h : a + n + m ≤ b.size) : piece b a n ++ piece b (a + n) m = piece b a (n + m) := by
 unfold piece
 apply ByteArray.ext
 rw [ByteArray.data_append, ByteArray.data_extract, ByteArray.data_extract, ByteArray.data_extract, Array.extract_append_extract, Nat.min_eq_left (by omega), Nat.max_eq_right (by omega), Nat.add_assoc]
theorem from_means (l : List ByteArray) (hok : okTexts l) (b : ByteArray) : ∀ n a, a + n = b.size → allTok l (from_ l b a) ∧ allMean l (from_ l b a) = piece b a n := by
 intro n
 induction n using Nat.strongRecOn with
 | _ n ih =>
   intro a h
   by_cases ha : a < b.size
   ·have h1 := firstLen_pos l b a
    have h2 := firstLen_fits l b a ha
    obtain ⟨i1, i2⟩ := ih (n - firstLen l b a) (by omega) (a + firstLen l b a) (by omega)
    rw [from_step l b a ha]
    constructor
    ·intro t ht
     rcases List.mem_cons.1 ht with rfl | ht
     ·rw [means_first l b a ha, piece_size b a _ h2]
      omega
     ·exact i1 t ht
    ·show means l (tokenOf l b a (firstLen l b a)) ++ allMean l (from_ l b (a + firstLen l b a)) = _
     rw [i2, means_first l b a ha, piece_join b a _ _ (by omega), show firstLen l b a + (n - firstLen l b a) = n by omega]
   ·obtain rfl : n = 0 := by omega
    rw [from_end l b a (by omega)]
    refine ⟨fun t ht => by simp at ht, ?_⟩
    exact (empty_of (piece_size b a 0 (by omega))).symm
end Go.Proofs.YtfbbcfhdjhiejaaGreat.Greedy
namespace Go.Proofs.YtfbbcfhdjhiejaaGreat.Flex
set_option linter.unusedVariables false
set_option linter.unusedSimpArgs false
open Go.RowKit Go.Proofs.YtfbbcfhdjhiejaaGreatW.PrintWords Go.Proofs.YtfbbcfhdjhiejaaGreatW.PrintMore Go.Proofs.YtfbbcfhdjhiejaaGreat.L Go.Proofs.YtfbbcfhdjhiejaaGreat.Texts Go.Proofs.YtfbbcfhdjhiejaaGreat.Dict Go.Proofs.YtfbbcfhdjhiejaaGreat.Ints Go.Proofs.YtfbbcfhdjhiejaaGreat.Greedy Go.Proofs.YtfbbcfhdjhiejaaGreat.Say
theorem fromF_means (l : List ByteArray) (hok : okTexts l) (b : ByteArray) : ∀ n a, a + n = b.size → allTok l (fromF l b a) ∧ allMean l (fromF l b a) = piece b a n := by
 intro n
 induction n using Nat.strongRecOn with
 | _ n ih =>
   intro a h
   by_cases ha : a < b.size
   ·have h1 := best_pos l b a ha
    have h2 := best_fits l b a ha
    obtain ⟨i1, i2⟩ := ih (n - bestLen l b a) (by omega) (a + bestLen l b a) (by omega)
    rw [fromF_step l b a ha]
    constructor
    ·intro t ht
     rcases List.mem_cons.1 ht with rfl | ht
     ·rw [means_token l b a _ ha (best_has l b a ha), piece_size b a _ h2]
      omega
     ·exact i1 t ht
    ·show means l (tokenOf l b a (bestLen l b a)) ++ allMean l (fromF l b (a + bestLen l b a)) = _
     rw [i2, means_token l b a _ ha (best_has l b a ha), piece_join b a _ _ (by omega), show bestLen l b a + (n - bestLen l b a) = n by omega]
   ·obtain rfl : n = 0 := by omega
    rw [fromF_end l b a (by omega)]
    refine ⟨fun t ht => by simp at ht, ?_⟩
    exact (empty_of (piece_size b a 0 (by omega))).symm
end Go.Proofs.YtfbbcfhdjhiejaaGreat.Flex
namespace Go.Proofs.YtfbbcfhdjhiejaaGreat.Best
set_option linter.unusedVariables false
set_option linter.unusedSimpArgs false
open Go.RowKit Go.Proofs.YtfbbcfhdjhiejaaGreatW.PrintWords Go.Proofs.YtfbbcfhdjhiejaaGreatW.PrintMore Go.Proofs.YtfbbcfhdjhiejaaGreat.L Go.Proofs.YtfbbcfhdjhiejaaGreat.Texts Go.Proofs.YtfbbcfhdjhiejaaGreat.Dict Go.Proofs.YtfbbcfhdjhiejaaGreat.Ints Go.Proofs.YtfbbcfhdjhiejaaGreat.Greedy Go.Proofs.YtfbbcfhdjhiejaaGreat.Cost Go.Proofs.YtfbbcfhdjhiejaaGreat.Fl Go.Proofs.YtfbbcfhdjhiejaaGreat.Say
/-- One window more. -/
theorem best_from (l : List ByteArray) (win : Nat) (hw : 1 ≤ win) (b : ByteArray) (a : Nat) (ha : a < b.size) : best l win (b.extract a b.size) = toks l (b.extract a (min (a + win) b.size)) 0 ++ best l win (b.extract (min (a + win) b.size) b.size) := by
 have hs : (b.extract a b.size).size = b.size - a := by rw [ByteArray.size_extract]; omega
 rw [best_step l win hw _ (by omega), hs, ByteArray.extract_extract, ByteArray.extract_extract, Nat.add_zero, show min (a + min win (b.size - a)) b.size = min (a + win) b.size by omega, show a + min win (b.size - a) = min (a + win) b.size by omega, show min (a + (b.size - a)) b.size = b.size by omega]
theorem best_from_end (l : List ByteArray) (win : Nat) (b : ByteArray) (a : Nat) (ha : b.size ≤ a) : best l win (b.extract a b.size) = [] := best_end _ _ _ (by rw [ByteArray.size_extract]; omega)
end Go.Proofs.YtfbbcfhdjhiejaaGreat.Best
namespace Go.Proofs.YtfbbcfhdjhiejaaGreat.Best
set_option linter.unusedVariables false
set_option linter.unusedSimpArgs false
open Go.RowKit Go.Proofs.YtfbbcfhdjhiejaaGreatW.PrintWords Go.Proofs.YtfbbcfhdjhiejaaGreatW.PrintMore Go.Proofs.YtfbbcfhdjhiejaaGreat.L Go.Proofs.YtfbbcfhdjhiejaaGreat.Texts Go.Proofs.YtfbbcfhdjhiejaaGreat.Dict Go.Proofs.YtfbbcfhdjhiejaaGreat.Ints Go.Proofs.YtfbbcfhdjhiejaaGreat.Greedy Go.Proofs.YtfbbcfhdjhiejaaGreat.Cost Go.Proofs.YtfbbcfhdjhiejaaGreat.Fl Go.Proofs.YtfbbcfhdjhiejaaGreat.Say
theorem tiles_greedy {l : List ByteArray} (hok : okTexts l) (s : ByteArray) : Tiles l s (Greedy.parse l s) := by
 have h := Greedy.from_means l hok s s.size 0 (by omega)
 have e : Greedy.parse l s = from_ l s 0 := by unfold Greedy.parse from_; rw [Nat.sub_zero]
 rw [e]
 exact ⟨h.1, by rw [h.2, piece_all]⟩
theorem tiles_flex {l : List ByteArray} (hok : okTexts l) (s : ByteArray) : Tiles l s (Flex.parseF l s) := by
 have h := Flex.fromF_means l hok s s.size 0 (by omega)
 have h2 := h.2
 rw [piece_all] at h2
 exact ⟨h.1, h2⟩
end Go.Proofs.YtfbbcfhdjhiejaaGreat.Best

/- Chapter 22, plain: each way's tokens mean the bytes. -/
namespace Go.Proofs.YtfbbcfhdjhiejaaGreat.Blk
set_option linter.unusedVariables false
set_option linter.unusedSimpArgs false
open Go.RowKit Go.Proofs.YtfbbcfhdjhiejaaGreatW.PrintWords Go.Proofs.YtfbbcfhdjhiejaaGreatW.PrintMore Go.Proofs.YtfbbcfhdjhiejaaGreat.L Go.Proofs.YtfbbcfhdjhiejaaGreat.Texts Go.Proofs.YtfbbcfhdjhiejaaGreat.Dict
theorem means_same (l : List ByteArray) (t : Int) : Mean.means l t = Say.means l t := rfl
theorem meanAll_same (l : List ByteArray) : ∀ ts, meanAll l ts = Say.allMean l ts
 | [] => rfl
 | t :: ts => by show Mean.means l t ++ meanAll l ts = Say.means l t ++ Say.allMean l ts; rw [meanAll_same l ts, means_same]
theorem toks_tile {l : List ByteArray} (hok : okTexts l) (c : Cf) (hc : c.ok) (b : ByteArray) (hb : b.size ≤ 1024) : Best.Tiles l b (toksP l c b) := by
 unfold toksP
 split
 ·exact Best.tiles_greedy hok b
 split
 ·exact Best.tiles_flex hok b
 ·exact Best.best_tiles hok hc.2.2.2.2.1 b.size b (Nat.le_refl _) hb
theorem tok_range {l : List ByteArray} {t : Int} (h : (Say.means l t).size ≠ 0) : 0 ≤ t ∧ t < 256 + (l.length : Int) := by
 by_cases h0 : t < 0 ∨ 256 + (l.length : Int) ≤ t
 ·rw [Say.means_past l t h0] at h
  exact absurd rfl h
 ·omega
theorem toks_all {l : List ByteArray} (hok : okTexts l) (c : Cf) (hc : c.ok) (b : ByteArray) (h0 : b.size ≠ 0) (hb : b.size ≤ 1024) :
  (toksP l c b).length ≤ b.size ∧ (toksP l c b).length ≠ 0 ∧ allTk l (toksP l c b) ∧ meanAll l (toksP l c b) = b := by
 have h := toks_tile hok c hc b hb
 refine ⟨(Best.tiles_few hok.1 _ h).1, fun hn => ?_, fun t ht => tok_range (h.1 t ht), by rw [meanAll_same]; exact h.2⟩
 have h1 := List.eq_nil_of_length_eq_zero hn
 have h2 := h.2
 rw [h1] at h2
 rw [← h2] at h0
 exact h0 rfl
theorem ready {l : List ByteArray} (hok : okTexts l) (c : Cf) (hc : c.ok) (b : ByteArray) (h0 : b.size ≠ 0) (hb : b.size ≤ 1024) (hco : c.code = 1 → CodesOk l (toksP l c b)) : Ready l c b := by
 obtain ⟨h1, h2, h3, _⟩ := toks_all hok c hc b h0 hb
 exact ⟨by omega, h2, h3, hco⟩
end Go.Proofs.YtfbbcfhdjhiejaaGreat.Blk
