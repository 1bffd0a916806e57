/- Of the parts RefPut, DecB, DecC, Round, RefEnc: what the rows use. -/
import Derived.Test.YtfbbcfhdjhiejaaGreatZa1
import Derived.Test.YtfbbcfhdjhiejaaGreatZa15
import Derived.Test.YtfbbcfhdjhiejaaGreatZa20
import Derived.Deep.RegionHeld3
/- The document's own: a block. -/
namespace Go.Proofs.YtfbbcfhdjhiejaaGreat.Blk
set_option linter.unusedVariables false
set_option linter.unusedSimpArgs false
open Go.RowKit Go.Proofs.YtfbbcfhdjhiejaaGreatW.PrintWords Go.Proofs.YtfbbcfhdjhiejaaGreatW.PrintMore Go.Proofs.YtfbbcfhdjhiejaaGreat.L Go.Proofs.YtfbbcfhdjhiejaaGreat.Texts Go.Proofs.YtfbbcfhdjhiejaaGreat.Dict Go.Proofs.YtfbbcfhdjhiejaaGreat.Ints
/-- A block that the document's own can write as well. -/
def RefOk (l : List ByteArray) (c : Cf) (b : ByteArray) : Prop := c.code = 1 → CodesOk l (toksP l c b) ∧ LensTold (256 + l.length) (hst l (toksP l c b)) (lns l (toksP l c b))
set_option maxRecDepth 100000 in
set_option maxHeartbeats 4000000 in
theorem ref_put (A : Option Addr) (cc : Nat) (l : List ByteArray) (c : Cf) (b : ByteArray) (w : World) (h : KS.C w A l.length l) (hcc : l.length ≤ cc) (hok : okTexts l) (hc : c.ok) (h0 : b.size ≠ 0) (hb : b.size ≤ c.block) (h400 : b.size ≤ 400) (hr : RefOk l c b) :
  Calls Tryz.prog 74 #[.slice A l.length cc, c.val, .string b] w fun e w' => e = .returned (.tuple #[.int .i64 (putK l c b), .string (putB l c b), .int .i64 0]) ∧ Below w.heap.size w w' := by
 have HTK := Lib.hid (fun W hW => ref_tokens A cc l c b W hW hcc hok hc h0 hb h400)
 obtain ⟨t1, t2, t3, t4⟩ := toks_all hok c hc b h0 (by omega)
 have HPK := Lib.hid (show putK l c b = if (layP l c.code (toksP l c b)).size < b.size then 2 else 1 from rfl)
 have HPB := Lib.hid (show putB l c b = if (layP l c.code (toksP l c b)).size < b.size then layP l c.code (toksP l c b) else b from rfl)
 obtain ⟨ts, hts⟩ : ∃ ts, toksP l c b = ts := ⟨_, rfl⟩
 have hr2 : c.code = 1 → CodesOk l (toksP l c b) ∧ LensTold (256 + l.length) (hst l (toksP l c b)) (lns l (toksP l c b)) := hr
 rw [hts] at HTK HPK HPB t1 t2 t3 hr2
 have HLY := Lib.hid (fun W B c2 hW hB => ref_lay A B cc c.code ts.length c2 l ts W hW hok hB (by omega) t2 t3 hc.2.1 hr2)
 have HV : c.val = .agg #[.int .i64 c.parse, .int .i64 c.code, .int .i64 c.block, .int .i64 c.window] := rfl
 rw [HV] at HTK ⊢
 obtain ⟨P, hP⟩ : ∃ P, layP l c.code ts = P := ⟨_, rfl⟩
 rw [hP] at HLY HPK HPB
 have H := Lib.hid h
 clear h hcc hok hc h0 hb h400 hr hr2 t1 t2 t3 t4 hts HV hP
 go_enter Tryz.func74, Tryz.ntmps74
 go_wp2_with (fail)
 have HB0 := Lib.hid ((Below.refl _ w).alloc (Nat.le_refl _) (.cells #[.int .i64 c.parse, .int .i64 c.code, .int .i64 c.block, .int .i64 c.window] 24 (0, 0)))
 refine (HTK.out _ (Kd.C_below H.out HB0.out)).mono ?_
 rintro e w1 ⟨v1, rfl, hr1, hb1⟩
 obtain ⟨B, c2, rfl⟩ := Kd.R_slice hr1
 have hblk : w1.heap[w.heap.size]? = some (.cells #[.int .i64 c.parse, .int .i64 c.code, .int .i64 c.block, .int .i64 c.window] 24 (0, 0)) := (hb1.block _ (by simp)).trans (heap_alloc_self w _)
 obtain ⟨k0, k1, k2, k3⟩ := four hblk
 have HR1 := Lib.hid (Kd.R_reads' hr1).2.2
 have HB1 := Lib.hid (Ints.bel_trans HB0.out (by simp) hb1)
 clear hr1 hb1 hblk HTK HB0
 go_wp2_with (fail)
 refine (HLY.out _ _ _ (Kd.C_below H.out HB1.out) HR1.out).mono ?_
 rintro e w2 ⟨rfl, hb2⟩
 have HB2 := Lib.hid (Ints.bel_trans HB1.out HB1.out.size hb2)
 clear hb2 k0 k1 k2 k3
 by_cases hlt : P.size < b.size
 ·have hl2 : (P.size : Int) < (b.size : Int) := by omega
  have HK := Lib.hid (show putK l c b = 2 by rw [HPK.out, if_pos hlt])
  have HBB := Lib.hid (show putB l c b = P by rw [HPB.out, if_pos hlt])
  clear HPK HPB
  go_wp2_with (fail)
  exact bodyPost_ret (v := .tuple #[.int .i64 2, .string P, .int .i64 0]) (by simp [results, Tryz.results74, go_sem]) rfl ⟨by rw [HK.out, HBB.out]; rfl, HB2.out⟩
 ·have hl2 : ¬ ((P.size : Int) < (b.size : Int)) := by omega
  have HK := Lib.hid (show putK l c b = 1 by rw [HPK.out, if_neg hlt])
  have HBB := Lib.hid (show putB l c b = b by rw [HPB.out, if_neg hlt])
  clear HPK HPB
  go_wp2_with (fail)
  exact bodyPost_ret (v := .tuple #[.int .i64 1, .string b, .int .i64 0]) (by simp [results, Tryz.results74, go_sem]) rfl ⟨by rw [HK.out, HBB.out]; rfl, HB2.out⟩
end Go.Proofs.YtfbbcfhdjhiejaaGreat.Blk

/- Chapter 24: the decoder: begin. -/
namespace Go.Proofs.YtfbbcfhdjhiejaaGreat.De
set_option linter.unusedVariables false
set_option linter.unusedSimpArgs false
open Go.RowKit Go.Proofs.YtfbbcfhdjhiejaaGreatW.PrintWords Go.Proofs.YtfbbcfhdjhiejaaGreatW.PrintMore Go.Proofs.YtfbbcfhdjhiejaaGreat.L Go.Proofs.YtfbbcfhdjhiejaaGreat.Texts Go.Proofs.YtfbbcfhdjhiejaaGreat.Dict Go.Proofs.YtfbbcfhdjhiejaaGreat.Co Go.Proofs.YtfbbcfhdjhiejaaGreat.Fa Go.Proofs.YtfbbcfhdjhiejaaGreat.Fr
/-- What a part of the decoder leaves: it is in the state d1, and nothing else that was there has changed. -/
def Left (x : Nat) (p : Addr) (d1 : DS) (w w' : World) : Prop := Dec w' x p d1 ∧ Chg (fun k => k = x) w w'
theorem three {w : World} {b t : Nat} {x0 x1 x2 : Value} (h : w.heap[b]? = some (.cells #[x0, x1, x2] t (0, 0))) :
  w.cell? ⟨b, 0, none⟩ = some x0 ∧ w.cell? ⟨b, 1, none⟩ = some x1 ∧ w.cell? ⟨b, 2, none⟩ = some x2 := by
 refine ⟨?_, ?_, ?_⟩ <;> simp [World.cell?, h]
theorem begin_no (x : Nat) (p : Addr) (d : DS) (w : World) (h : Dec w x p d) (hz : d.held.size ≤ 140737488351232) (he : headE d.held ≠ 0) :
  Calls Tryz.prog 99 #[.pointer (some ⟨x, 0, none⟩)] w fun e w' => e = .returned (.bool false) ∧ Left x p (if headE d.held = 2 then d else wrong d (headE d.held)) w w' := by
 have c6 := h.at.c6
 have H := Lib.hid h
 have HZ := Lib.hid hz
 have HV := Lib.hid (show headV (headE d.held) (at8 d.held 5) (headBlock d.held) (headId d.held) = .agg #[.int .i64 0, .int .i64 0, .int .u64 0] from if_neg he)
 obtain ⟨E, hE⟩ : ∃ E, headE d.held = E := ⟨_, rfl⟩
 have HG := Lib.hid (Fr.getHead d.held w hz)
 rw [hE] at HV HG he ⊢
 rw [HV.out] at HG
 clear h hz hE
 go_enter Tryz.func99, Tryz.ntmps99
 go_wp2_with (fail)
 refine Calls.mono HG.out ?_
 rintro e w1 ⟨rfl, hb1⟩
 have H1 := Lib.hid (H.out.below hb1)
 have HB1 := Lib.hid hb1
 clear hb1 HG
 by_cases h2 : E = 2
 ·subst h2
  go_wp2_with (fail)
  go_ret
  exact ⟨rfl, H1.out.below ((Below.refl _ w1).alloc (Nat.le_refl _) _), Chg.of_below (HB1.out.alloc HB1.out.size _)⟩
 ·have e2 : (E == 2) = false := beq_eq_false_iff_ne.2 h2
  have e0 : (E == 0) = false := beq_eq_false_iff_ne.2 he
  have HE := Lib.hid he
  have H2 := Lib.hid h2
  clear h2 he
  have H3 := Lib.hid (H1.out.below ((Below.refl _ w1).alloc (Nat.le_refl _) (.cells #[.int .i64 0, .int .i64 0, .int .u64 0] 71 (0, 0))))
  have HB3 := Lib.hid (HB1.out.alloc HB1.out.size (.cells #[.int .i64 0, .int .i64 0, .int .u64 0] 71 (0, 0)))
  go_wp2_with (fail)
  go_quiet (fail)
  go_wp2_with (fail)
  refine (wrong_any x p d E _ (by exact H3.out) HE.out).mono ?_
  rintro e w4 ⟨rfl, hd4, hc4⟩
  have HL := Lib.hid (show Left x p (wrong d E) w w4 from ⟨hd4, ((Chg.of_below HB3.out).drewN _).trans hc4⟩)
  clear hd4 hc4
  go_wp2_with (fail)
  go_ret
  exact ⟨rfl, HL.out⟩
set_option maxRecDepth 100000 in
set_option maxHeartbeats 4000000 in
theorem begin_yes (x db : Nat) (l : List ByteArray) (d : DS) (w : World) (h : Dec w x ⟨db, 0, none⟩ d) (hD : DC w db l) (hok : okTexts l) (hz : d.held.size ≤ 140737488351232) (he : headE d.held = 0) (hp : d.pos < 4611686018427387) :
  Calls Tryz.prog 99 #[.pointer (some ⟨x, 0, none⟩)] w fun e w' => e = .returned (.bool (decide (headId d.held = idD l))) ∧ Left x ⟨db, 0, none⟩ (if headId d.held = idD l then took (begin_ d) 17 else wrong d 6) w w' := by
 have c6 := h.at.c6
 have H := Lib.hid h
 have HD := Lib.hid hD
 have HOK := Lib.hid hok
 have HPP := Lib.hid hp
 have H17 := Lib.hid (headE_size (s := d.held) (by rw [he]; decide))
 have HZ := Lib.hid hz
 have HV := Lib.hid (show headV 0 (at8 d.held 5) (headBlock d.held) (headId d.held) = .agg #[.int .i64 (at8 d.held 5), .int .i64 (headBlock d.held), .int .u64 (headId d.held)] from if_pos rfl)
 have HG := Lib.hid (Fr.getHead d.held w hz)
 have HBE := Lib.hid (show begin_ d = { d with begun := true, code := at8 d.held 5, block := headBlock d.held, hid := headId d.held } from rfl)
 rw [he] at HG
 rw [HV.out] at HG
 obtain ⟨C, hC⟩ : ∃ C, at8 d.held 5 = C := ⟨_, rfl⟩
 obtain ⟨B, hB⟩ : ∃ B, headBlock d.held = B := ⟨_, rfl⟩
 obtain ⟨I, hI⟩ : ∃ I, headId d.held = I := ⟨_, rfl⟩
 rw [hC, hB, hI] at HG HBE
 rw [hI]
 obtain ⟨J, hJ⟩ : ∃ J, idD l = J := ⟨_, rfl⟩
 have HID := Lib.hid (fun (W : World) (hW : DC W db l) => id_any db l W hW hok)
 rw [hJ] at HID ⊢
 clear h hD hok hz he HV hC hB hI hJ hp
 go_enter Tryz.func99, Tryz.ntmps99
 go_wp2_with (fail)
 refine Calls.mono HG.out ?_
 rintro e w1 ⟨rfl, hb1⟩
 have H1 := Lib.hid (H.out.below hb1)
 have HB1 := Lib.hid hb1
 clear hb1 HG
 go_upto_region 4 with (fail)
 obtain ⟨W1, hW1⟩ : ∃ W, W = w1.alloc (.cells #[.int .i64 C, .int .i64 B, .int .u64 I] 71 (0, 0)) := ⟨_, rfl⟩
 rw [← hW1]
 have hblk : W1.heap[w1.heap.size]? = some (.cells #[.int .i64 C, .int .i64 B, .int .u64 I] 71 (0, 0)) := by rw [hW1]; exact heap_alloc_self _ _
 have HBL := Lib.hid hblk
 have HB2 := Lib.hid (show Below w.heap.size w W1 by rw [hW1]; exact HB1.out.alloc HB1.out.size _)
 have H2 := Lib.hid (show Dec W1 x ⟨db, 0, none⟩ d by rw [hW1]; exact H1.out.below ((Below.refl _ w1).alloc (Nat.le_refl _) _))
 have HD2 := Lib.hid (HD.out.below HB2.out)
 clear hW1
 have HK := Lib.hid (show ∀ W' : World, Below W1.heap.size W1 W' → W'.cell? ⟨w1.heap.size, 2, none⟩ = some (.int .u64 I) ∧ W'.cell? ⟨x, 0, none⟩ = some (.pointer (some ⟨db, 0, none⟩)) from fun W' hb => ⟨(three ((hb.block _ (blk_lt HBL.out)).trans HBL.out)).2.2, (H2.out.below hb).at.c0⟩)
 clear hblk
 have HB := Lib.hid (Below.refl W1.heap.size W1)
 obtain ⟨k0, k1⟩ := HK.out _ HB.out
 go_region_held3 (fun w' => w'.cell? ⟨w1.heap.size, 2, none⟩ = some (.int .u64 I) ∧ w'.cell? ⟨x, 0, none⟩ = some (.pointer (some ⟨db, 0, none⟩))) (first | exact ⟨k0, k1⟩ | exact HK.out _ HB.out | exact HK.out _ (below_drew HB.out) | go_keep)
  (first
   | (go_at_call 30; (with_reducible refine Calls.mono (HID.out _ (HD2.out.below (by first | exact HB.out | exact below_drew HB.out))) ?_); rintro e w7 ⟨rfl, hb7⟩; have HB7 := Lib.hid (bel_on (show Below W1.heap.size W1 _ from (by first | exact HB.out | exact below_drew HB.out)) hb7); clear HB k0 k1 hb7; have HB := HB7; obtain ⟨k0, k1⟩ := HK.out _ HB7.out; clear HB7))
 have H7 := Lib.hid (H2.out.below HB.out)
 have HB9 := Lib.hid (bel_on HB2.out HB.out)
 obtain ⟨m0, m1, m2⟩ := three ((HB.out.block _ (blk_lt HBL.out)).trans HBL.out)
 have HA := H7.out.at
 have f1 := HA.fr 1
 have f2 := HA.fr 2
 have f3 := HA.fr 3
 have f4 := HA.fr 4
 have n1 := HA.c1
 have n2 := HA.c2
 have n3 := HA.c3
 have n4 := HA.c4
 clear k0 HA
 by_cases hij : I = J
 ·have hne : ((I : Int) != (J : Int)) = false := by subst hij; simp
  have HIJ := Lib.hid hij
  clear hij
  go_wp2_with (fail)
  have h1 := blk_put H7.out 1 (.int .i64 C) rfl
  have h2 := blk_put h1 2 (.int .i64 B) rfl
  have h3 := blk_put h2 3 (.int .u64 I) rfl
  have h4 := blk_put h3 4 (.bool true) rfl
  have HD8 := Lib.hid (show Dec _ x ⟨db, 0, none⟩ (begin_ d) from by rw [HBE.out]; exact h4)
  have HC8 := Lib.hid (((((Chg.refl (fun k => k = x) w7).setCell (p := ⟨x, 1, none⟩) (fun _ => rfl) (.int .i64 C)).setCell (p := ⟨x, 2, none⟩) (fun _ => rfl) (.int .i64 B)).setCell (p := ⟨x, 3, none⟩) (fun _ => rfl) (.int .u64 I)).setCell (p := ⟨x, 4, none⟩) (fun _ => rfl) (.bool true))
  clear h1 h2 h3 h4
  refine (take_any x _ (begin_ d) 17 _ HD8.out H17.out (by have := HPP.out; show d.pos + 17 < _; omega) HZ.out).mono ?_
  rintro e w4 ⟨rfl, hd4, hc4⟩
  have HL := Lib.hid (show Left x ⟨db, 0, none⟩ (took (begin_ d) 17) w w4 from ⟨hd4, ((Chg.of_below HB9.out).trans HC8.out).trans hc4⟩)
  clear hd4 hc4
  go_wp2_with (fail)
  go_ret
  exact ⟨rfl, HL.out⟩
 ·have hne : ((I : Int) != (J : Int)) = true := by simp; omega
  have HIJ := Lib.hid hij
  clear hij
  go_wp2_with (fail)
  refine (wrong_any x _ d 6 _ (by exact H7.out) (by decide)).mono ?_
  rintro e w4 ⟨rfl, hd4, hc4⟩
  have HL := Lib.hid (show Left x ⟨db, 0, none⟩ (wrong d 6) w w4 from ⟨hd4, (Chg.of_below HB9.out).trans hc4⟩)
  clear hd4 hc4
  go_wp2_with (fail)
  go_ret
  exact ⟨rfl, HL.out⟩
end Go.Proofs.YtfbbcfhdjhiejaaGreat.De

/- Chapter 24: the decoder: what a frame means. -/
namespace Go.Proofs.YtfbbcfhdjhiejaaGreat.De
set_option linter.unusedVariables false
set_option linter.unusedSimpArgs false
open Go.RowKit Go.Proofs.YtfbbcfhdjhiejaaGreatW.PrintWords Go.Proofs.YtfbbcfhdjhiejaaGreatW.PrintMore Go.Proofs.YtfbbcfhdjhiejaaGreat.L Go.Proofs.YtfbbcfhdjhiejaaGreat.Texts Go.Proofs.YtfbbcfhdjhiejaaGreat.Dict Go.Proofs.YtfbbcfhdjhiejaaGreat.Co Go.Proofs.YtfbbcfhdjhiejaaGreat.Fa Go.Proofs.YtfbbcfhdjhiejaaGreat.Fr
/-- A payload that means b. -/
def Good (l : List ByteArray) (code kind raw : Nat) (pay b : ByteArray) : Prop :=
 1 ≤ raw ∧ raw ≤ 1024 ∧ code ≤ 1 ∧ raw = b.size ∧ ((kind = 1 ∧ b = pay) ∨ (kind = 2 ∧ code = 0 ∧ ∃ ts, pay = Blk.numsC ts ∧ Blk.allTk l ts ∧ b = Blk.meanAll l ts ∧ ts.length ≤ 1024))
open Classical in
noncomputable def getP (l : List ByteArray) (code kind raw : Nat) (pay : ByteArray) : ByteArray × Int :=
 if h : ∃ b, Good l code kind raw pay b then (Classical.choose h, 0) else (Co.no, 99)
theorem getP_good {l : List ByteArray} {code kind raw : Nat} {pay : ByteArray} (h : (getP l code kind raw pay).2 ≠ 99) : Good l code kind raw pay (getP l code kind raw pay).1 ∧ (getP l code kind raw pay).2 = 0 := by
 unfold getP at h ⊢
 split
 ·rename_i hx
  exact ⟨Classical.choose_spec hx, rfl⟩
 ·rename_i hx
  rw [dif_neg hx] at h
  exact absurd rfl h
noncomputable def env (l : List ByteArray) : Env := ⟨idD l, getP l, Sums.crc⟩
theorem get_any (p : Option Addr) (l : List ByteArray) (code kind raw : Nat) (pay b : ByteArray) (w : World) (hD : DP w p l) (hok : okTexts l) (hg : Good l code kind raw pay b) :
  Calls Tryz.prog 127 #[.pointer p, .int .i64 code, .int .i64 kind, .int .i64 raw, .string pay] w fun e w' => e = .returned (.tuple #[.string b, .int .i64 0]) ∧ Below w.heap.size w w' := by
 obtain ⟨h1, h2, h3, h4, ⟨rfl, rfl⟩ | ⟨rfl, rfl, ts, rfl, hk, rfl, hl⟩⟩ := hg
 ·subst h4
  refine (Blk.get_stored p code b w h3 h1 h2).mono ?_
  rintro e w1 ⟨rfl, rfl⟩
  exact ⟨rfl, Below.refl _ _⟩
 ·refine Blk.get_coded p 0 raw _ _ w h3 h1 h2 ?_
  rintro W rfl
  subst h4
  exact Blk.meant_num p l ts W hD hok hk h2 hl
theorem bel_drewN {B : Nat} {w w' : World} (h : Below B w w') (n : Nat) : Below B w (w'.drewN n) := ⟨h.os, h.tape, h.output, h.size, h.block⟩
/-- A frame as a value. -/
def frame (s : ByteArray) : Value := .agg #[.int .i64 (frKind s), .int .i64 (frRaw s), .int .u32 (frSum s), .string (frPay s)]
set_option maxRecDepth 100000 in
set_option maxHeartbeats 4000000 in
theorem meant_end (x : Nat) (p : Addr) (l : List ByteArray) (d : DS) (w : World) (h : Dec w x p d) (hk : frKind d.held = 0) (hr : frRaw d.held < 4294967296) :
  Calls Tryz.prog 102 #[.pointer (some ⟨x, 0, none⟩), frame d.held] w fun e w' => e = .returned (.tuple #[.string (meant (env l) d).1, .int .i64 (meant (env l) d).2]) ∧ Below w.heap.size w w' := by
 have hm : meant (env l) d = (Co.no, if frRaw d.held = d.told % 4294967296 then 0 else 12) := by unfold meant; rw [if_pos hk]
 rw [hm]
 unfold frame
 rw [hk]
 obtain ⟨R, hR⟩ : ∃ R, frRaw d.held = R := ⟨_, rfl⟩
 obtain ⟨T, hT⟩ : ∃ T, d.told % 4294967296 = T := ⟨_, rfl⟩
 rw [hR] at hr ⊢
 rw [hT]
 have hw1 : IntKind.u32.wrap (d.told : Int) = (T : Int) := by rw [IntKind.wrap_u32, ← hT]; omega
 have hw2 : IntKind.i64.wrap (T : Int) = (T : Int) := by rw [IntKind.wrap_i64]; first | (unfold wrap64; omega) | omega
 have H := Lib.hid h
 have HT := Lib.hid (show T < 4294967296 by omega)
 clear h hm hk hR hT
 by_cases hRT : R = T
 ·subst hRT
  have hne : ((R : Int) != (R : Int)) = false := by simp
  go_enter Tryz.func102, Tryz.ntmps102
  go_upto_region 2 with (fail)
  have HB := Lib.hid ((Below.refl _ w).alloc (Nat.le_refl _) (.cells #[.int .i64 0, .int .i64 R, .int .u32 (frSum d.held), .string (frPay d.held)] 99 (0, 0)))
  have HD := Lib.hid (H.out.below HB.out)
  have c8 := HD.out.at.c8
  go_quiet (fail)
  go_wp2_with (fail)
  go_ret2
  exact ⟨rfl, bel_drewN HB.out _⟩
 ·have hne : ((R : Int) != (T : Int)) = true := by simp; omega
  go_enter Tryz.func102, Tryz.ntmps102
  go_upto_region 2 with (fail)
  have HB := Lib.hid ((Below.refl _ w).alloc (Nat.le_refl _) (.cells #[.int .i64 0, .int .i64 R, .int .u32 (frSum d.held), .string (frPay d.held)] 99 (0, 0)))
  have HD := Lib.hid (H.out.below HB.out)
  have c8 := HD.out.at.c8
  go_quiet (fail)
  go_wp2_with (fail)
  go_ret2
  exact ⟨by rfl, bel_drewN HB.out _⟩
/-- What a block's frame means. -/
theorem meant_get {l : List ByteArray} {d : DS} (hk : frKind d.held ≠ 0) (h99 : (meant (env l) d).2 ≠ 99) :
  ∃ b, Good l d.code (frKind d.held) (frRaw d.held) (frPay d.held) b ∧ meant (env l) d = (b, if Sums.crc b = frSum d.held then 0 else 7) := by
 have hg : (getP l d.code (frKind d.held) (frRaw d.held) (frPay d.held)).2 ≠ 99 := by
  intro h
  apply h99
  unfold meant
  rw [if_neg hk]
  have e : (env l).get d.code (frKind d.held) (frRaw d.held) (frPay d.held) = getP l d.code (frKind d.held) (frRaw d.held) (frPay d.held) := rfl
  rw [e, h, if_neg (by intro hx; exact absurd hx.1 (by decide))]
  exact h
 obtain ⟨h1, h2⟩ := getP_good hg
 refine ⟨_, h1, ?_⟩
 unfold meant
 rw [if_neg hk]
 have e : (env l).get d.code (frKind d.held) (frRaw d.held) (frPay d.held) = getP l d.code (frKind d.held) (frRaw d.held) (frPay d.held) := rfl
 have e2 : (env l).crc = Sums.crc := rfl
 rw [e, e2, h2]
 by_cases hc : Sums.crc (getP l d.code (frKind d.held) (frRaw d.held) (frPay d.held)).1 = frSum d.held
 ·rw [if_neg (by intro hx; exact hx.2 hc), if_pos hc, ← h2]
 ·rw [if_pos ⟨rfl, hc⟩, if_neg hc]
set_option maxRecDepth 100000 in
set_option maxHeartbeats 4000000 in
theorem meant_block (x db : Nat) (l : List ByteArray) (d : DS) (w : World) (h : Dec w x ⟨db, 0, none⟩ d) (hD : DC w db l) (hok : okTexts l) (hk : frKind d.held ≠ 0) (h99 : (meant (env l) d).2 ≠ 99) :
  Calls Tryz.prog 102 #[.pointer (some ⟨x, 0, none⟩), frame d.held] w fun e w' => e = .returned (.tuple #[.string (meant (env l) d).1, .int .i64 (meant (env l) d).2]) ∧ Below w.heap.size w w' := by
 obtain ⟨b, hg, hm⟩ := meant_get hk h99
 rw [hm]
 clear hm h99
 unfold frame
 obtain ⟨K, hK⟩ : ∃ K, frKind d.held = K := ⟨_, rfl⟩
 obtain ⟨R, hR⟩ : ∃ R, frRaw d.held = R := ⟨_, rfl⟩
 obtain ⟨S, hS⟩ : ∃ S, frSum d.held = S := ⟨_, rfl⟩
 obtain ⟨P, hP⟩ : ∃ P, frPay d.held = P := ⟨_, rfl⟩
 rw [hK, hR, hP] at hg
 rw [hK] at hk
 rw [hK, hR, hS, hP]
 have H := Lib.hid h
 have HD := Lib.hid hD
 have k0 : ((K : Int) == 0) = false := by simp; omega
 have HG := Lib.hid (fun (W : World) (hW : DC W db l) => get_any (some ⟨db, 0, none⟩) l d.code K R P b W (.inr ⟨db, rfl, hW⟩) hok hg)
 have HBS := Lib.hid (show b.size ≤ 140737488351232 by have := hg.2.1; have := hg.2.2.2.1; omega)
 clear h hD hok hk hg hK hR hS hP
 have HC := Lib.hid (fun (W : World) => Sums.crc_of b W HBS.out)
 obtain ⟨C, hC⟩ : ∃ C, Sums.crc b = C := ⟨_, rfl⟩
 rw [hC] at HC ⊢
 clear hC
 go_enter Tryz.func102, Tryz.ntmps102
 go_upto_region 5 with (fail)
 obtain ⟨W1, hW1⟩ : ∃ W, W = w.alloc (.cells #[.int .i64 K, .int .i64 R, .int .u32 S, .string P] 99 (0, 0)) := ⟨_, rfl⟩
 rw [← hW1]
 have HBL := Lib.hid (show W1.heap[w.heap.size]? = some (.cells #[.int .i64 K, .int .i64 R, .int .u32 S, .string P] 99 (0, 0)) by rw [hW1]; exact heap_alloc_self _ _)
 have HB2 := Lib.hid (show Below w.heap.size w W1 by rw [hW1]; exact (Below.refl _ w).alloc (Nat.le_refl _) _)
 clear hW1
 have HK := Lib.hid (show ∀ W' : World, Below W1.heap.size W1 W' → (W'.cell? ⟨w.heap.size, 0, none⟩ = some (.int .i64 K) ∧ W'.cell? ⟨w.heap.size, 1, none⟩ = some (.int .i64 R) ∧ W'.cell? ⟨w.heap.size, 2, none⟩ = some (.int .u32 S) ∧ W'.cell? ⟨w.heap.size, 3, none⟩ = some (.string P)) ∧ W'.cell? ⟨x, 0, none⟩ = some (.pointer (some ⟨db, 0, none⟩)) ∧ W'.cell? ⟨x, 1, none⟩ = some (.int .i64 d.code) from fun W' hb =>
  ⟨Blk.four ((hb.block _ (blk_lt HBL.out)).trans HBL.out), ((H.out.below HB2.out).below hb).at.c0, ((H.out.below HB2.out).below hb).at.c1⟩)
 have HB := Lib.hid (Below.refl W1.heap.size W1)
 obtain ⟨⟨k0', k1, k2, k3⟩, k4, k5⟩ := HK.out _ HB.out
 go_region_held3 (fun w' => w'.cell? ⟨w.heap.size, 0, none⟩ = some (.int .i64 K) ∧ w'.cell? ⟨w.heap.size, 1, none⟩ = some (.int .i64 R) ∧ w'.cell? ⟨w.heap.size, 3, none⟩ = some (.string P) ∧ w'.cell? ⟨x, 0, none⟩ = some (.pointer (some ⟨db, 0, none⟩)) ∧ w'.cell? ⟨x, 1, none⟩ = some (.int .i64 d.code)) (first | exact ⟨k0', k1, k3, k4, k5⟩ | go_keep)
  (first
   | (go_at_call 127; (with_reducible refine Calls.mono (HG.out _ ((HD.out.below HB2.out).below (by first | exact HB.out | exact below_drew HB.out))) ?_); rintro e w7 ⟨rfl, hb7⟩; have HB7 := Lib.hid (bel_on (show Below W1.heap.size W1 _ from (by first | exact HB.out | exact below_drew HB.out)) hb7); clear HB k0' k1 k2 k3 k4 k5 hb7; have HB := HB7; obtain ⟨⟨k0', k1, k2, k3⟩, k4, k5⟩ := HK.out _ HB7.out; clear HB7))
 clear k0' k1 k3 k4 k5
 by_cases hcs : C = S
 ·subst hcs
  have hne : ((C : Int) != (C : Int)) = false := by simp
  go_upto_region 6 with (fail)
  go_region_held3 (fun w' => w'.cell? ⟨w.heap.size, 2, none⟩ = some (.int .u32 C)) (first | exact k2 | exact (HK.out _ HB.out).1.2.2.1 | exact (HK.out _ (below_drew HB.out)).1.2.2.1 | go_keep)
   (first
    | (go_at_call 118; (with_reducible refine Calls.mono (HC.out _) ?_); rintro e w8 ⟨rfl, hb8⟩; have HB8 := Lib.hid (bel_on (show Below W1.heap.size W1 _ from (by first | exact HB.out | exact below_drew HB.out)) hb8); clear HB k2 hb8; have HB := HB8; have k2 := (HK.out _ HB8.out).1.2.2.1; clear HB8))
  go_wp2_with (fail)
  go_ret2
  exact ⟨rfl, bel_on HB2.out HB.out⟩
 ·have hne : ((C : Int) != (S : Int)) = true := by simp; omega
  go_upto_region 6 with (fail)
  go_region_held3 (fun w' => w'.cell? ⟨w.heap.size, 2, none⟩ = some (.int .u32 S)) (first | exact k2 | exact (HK.out _ HB.out).1.2.2.1 | exact (HK.out _ (below_drew HB.out)).1.2.2.1 | go_keep)
   (first
    | (go_at_call 118; (with_reducible refine Calls.mono (HC.out _) ?_); rintro e w8 ⟨rfl, hb8⟩; have HB8 := Lib.hid (bel_on (show Below W1.heap.size W1 _ from (by first | exact HB.out | exact below_drew HB.out)) hb8); clear HB k2 hb8; have HB := HB8; have k2 := (HK.out _ HB8.out).1.2.2.1; clear HB8))
  go_wp2_with (fail)
  go_ret2
  exact ⟨rfl, bel_on HB2.out HB.out⟩
end Go.Proofs.YtfbbcfhdjhiejaaGreat.De

/- Chapter 24, plain: a stream that was made is read as it was. -/
namespace Go.Proofs.YtfbbcfhdjhiejaaGreat.De
set_option linter.unusedVariables false
set_option linter.unusedSimpArgs false
open Go.RowKit Go.Proofs.YtfbbcfhdjhiejaaGreatW.PrintWords Go.Proofs.YtfbbcfhdjhiejaaGreatW.PrintMore Go.Proofs.YtfbbcfhdjhiejaaGreat.L Go.Proofs.YtfbbcfhdjhiejaaGreat.Texts Go.Proofs.YtfbbcfhdjhiejaaGreat.Dict Go.Proofs.YtfbbcfhdjhiejaaGreat.Co Go.Proofs.YtfbbcfhdjhiejaaGreat.Fa Go.Proofs.YtfbbcfhdjhiejaaGreat.Fr
theorem ext_skip (s t : ByteArray) (a b : Nat) (h : s.size ≤ a) : (s ++ t).extract a b = t.extract (a - s.size) (b - s.size) := by
 rw [ByteArray.extract_append]
 have : s.extract a b = ByteArray.empty := by rw [ByteArray.extract_eq_empty_iff]; omega
 rw [this, ByteArray.empty_append]
theorem ext_first (s t : ByteArray) (n : Nat) (h : s.size = n) : (s ++ t).extract 0 n = s := by
 rw [ext_left _ _ _ _ (by omega), ← h, ByteArray.extract_zero_size]
theorem at8_skip (s t : ByteArray) (i n : Nat) (h : s.size = n) : at8 (s ++ t) (n + i) = at8 t i := by rw [← h]; exact at8_right s t i
theorem at8_big (n : Nat) (r : ByteArray) (h : n < 256) : at8 (big n 1 ++ r) 0 = n := by
 rw [at8_app _ _ _ (by rw [big_size]; omega)]
 show ((bigL n 1).getD 0 0).toNat = n
 simp [bigL]
 omega
theorem next_head (E : Env) (code block id : Nat) (rest : ByteArray) (hc : code ≤ 1) (h1 : 1 ≤ block) (h2 : block ≤ 1024) (hi : id < 18446744073709551616) :
  next E { d0 with held := headB code block id ++ rest } = if id ≠ E.id then (Co.no, false, wrong { d0 with held := headB code block id ++ rest } 6) else (Co.no, true, { d0 with begun := true, code := code, block := block, hid := id, held := rest, pos := 17 }) := by
 have e : headB code block id ++ rest = magic ++ (big 1 1 ++ (big code 1 ++ (big block 3 ++ (big id 8 ++ rest)))) := by
  unfold headB
  simp only [ByteArray.append_assoc]
 obtain ⟨s, hs⟩ : ∃ s, headB code block id ++ rest = s := ⟨_, rfl⟩
 rw [hs] at e ⊢
 have hm : magic.size = 4 := rfl
 have hb1 := big_size 1 1
 have hbc := big_size code 1
 have hbb := big_size block 3
 have hbi := big_size id 8
 have hz : s.size = 17 + rest.size := by rw [e]; simp only [ByteArray.size_append, hm, hb1, hbc, hbb, hbi]; omega
 have a4 : at8 s 4 = 1 := by rw [e, at8_skip magic _ 0 4 hm, at8_big 1 _ (by omega)]
 have a5 : at8 s 5 = code := by rw [e, at8_skip magic _ 1 4 hm, show (1 : Nat) = 1 + 0 from rfl, at8_skip (big 1 1) _ 0 1 hb1, at8_big code _ (by omega)]
 have x0 : s.extract 0 4 = magic := by rw [e, ext_first _ _ _ hm]
 have xb : headBlock s = block := by
  unfold headBlock
  rw [e, ext_skip _ _ _ _ (by omega), hm, ext_skip _ _ _ _ (by omega), hb1, ext_skip _ _ _ _ (by omega), hbc, show 9 - 4 - 1 - 1 = 3 from rfl, show 6 - 4 - 1 - 1 = 0 from rfl, ext_first _ _ _ hbb, num_big _ _ (by omega)]
 have xi : headId s = id := by
  unfold headId
  rw [e, ext_skip _ _ _ _ (by omega), hm, ext_skip _ _ _ _ (by omega), hb1, ext_skip _ _ _ _ (by omega), hbc, ext_skip _ _ _ _ (by omega), hbb, show 17 - 4 - 1 - 1 - 3 = 8 from rfl, show 9 - 4 - 1 - 1 - 3 = 0 from rfl, ext_first _ _ _ hbi, num_big _ _ (by omega)]
 have xr : s.extract 17 s.size = rest := by
  rw [hz, e, ext_skip _ _ _ _ (by omega), hm, ext_skip _ _ _ _ (by omega), hb1, ext_skip _ _ _ _ (by omega), hbc, ext_skip _ _ _ _ (by omega), hbb, ext_skip _ _ _ _ (by omega), hbi]
  have : 17 + rest.size - 4 - 1 - 1 - 3 - 8 = rest.size := by omega
  rw [this, show 17 - 4 - 1 - 1 - 3 - 8 = 0 from rfl, ByteArray.extract_zero_size]
 have he : headE s = 0 := by
  unfold headE
  rw [if_neg (by omega), if_neg (by rw [x0, a4]; simp), if_neg (by omega), if_neg (by rw [xb]; omega)]
 have hq : next E ⟨false, 0, 0, 0, false, s, 0, 0, none⟩ = if id ≠ E.id then (Co.no, false, wrong ⟨false, 0, 0, 0, false, s, 0, 0, none⟩ 6) else (Co.no, true, ⟨true, code, block, id, false, rest, 17, 0, none⟩) := by
  unfold next
  dsimp only
  rw [if_pos rfl, he, if_neg (by decide), if_neg (by decide), xi]
  unfold took begin_
  dsimp only
  rw [a5, xb, xi, xr]
 exact hq
theorem next_block (E : Env) (d : DS) (kind raw sum : Nat) (p rest b : ByteArray) (hh : d.held = frameB kind raw sum p ++ rest) (hb : d.begun = true) (hd : d.done = false) (hf : fits kind raw p.size = true) (hbl : raw ≤ d.block) (hs : sum < 4294967296) (hg : E.get d.code kind raw p = (b, 0)) (hcr : E.crc b = sum) :
  next E d = (b, true, { d with held := rest, pos := d.pos + (9 + p.size), told := d.told + b.size }) := by
 have hf2 := hf
 unfold fits at hf2
 have hf2 := of_decide_eq_true hf2
 have e : d.held = big kind 1 ++ (big raw 2 ++ (big p.size 2 ++ (big sum 4 ++ (p ++ rest)))) := by
  rw [hh]
  unfold frameB
  simp only [ByteArray.append_assoc]
 have hk1 := big_size kind 1
 have hr2 := big_size raw 2
 have hp2 := big_size p.size 2
 have hs4 := big_size sum 4
 obtain ⟨s, hsd⟩ : ∃ s, d.held = s := ⟨_, rfl⟩
 rw [hsd] at e
 have hz : s.size = 9 + p.size + rest.size := by rw [e]; simp only [ByteArray.size_append, hk1, hr2, hp2, hs4]; omega
 have fk : frKind s = kind := by unfold frKind; rw [e, at8_big kind _ (by omega)]
 have k0 : ¬ kind = 0 := by omega
 have fr : frRaw s = raw := by
  unfold frRaw
  rw [fk, if_neg k0, e, ext_skip _ _ _ _ (by omega), hk1, show 3 - 1 = 2 from rfl, show 1 - 1 = 0 from rfl, ext_first _ _ _ hr2, num_big _ _ (by omega)]
 have fl : frLen s = p.size := by
  unfold frLen
  rw [e, ext_skip _ _ _ _ (by omega), hk1, ext_skip _ _ _ _ (by omega), hr2, show 5 - 1 - 2 = 2 from rfl, show 3 - 1 - 2 = 0 from rfl, ext_first _ _ _ hp2, num_big _ _ (by omega)]
 have fs : frSum s = sum := by
  unfold frSum
  rw [fk, if_neg k0, e, ext_skip _ _ _ _ (by omega), hk1, ext_skip _ _ _ _ (by omega), hr2, ext_skip _ _ _ _ (by omega), hp2, show 9 - 1 - 2 - 2 = 4 from rfl, show 5 - 1 - 2 - 2 = 0 from rfl, ext_first _ _ _ hs4, num_big _ _ (by omega)]
 have fp : frPay s = p := by
  unfold frPay
  rw [fk, if_neg k0, fl, e, ext_skip _ _ _ _ (by omega), hk1, ext_skip _ _ _ _ (by omega), hr2, ext_skip _ _ _ _ (by omega), hp2, ext_skip _ _ _ _ (by omega), hs4, show 9 - 1 - 2 - 2 - 4 = 0 from rfl]
  have : 9 + p.size - 1 - 2 - 2 - 4 = p.size := by omega
  rw [this, ext_first _ _ _ rfl]
 have fn : frN s = 9 + p.size := by unfold frN; rw [fk, if_neg k0, fl]
 have xr : s.extract (9 + p.size) s.size = rest := by
  rw [hz, e, ext_skip _ _ _ _ (by omega), hk1, ext_skip _ _ _ _ (by omega), hr2, ext_skip _ _ _ _ (by omega), hp2, ext_skip _ _ _ _ (by omega), hs4, ext_skip _ _ _ _ (by omega)]
  have e1 : 9 + p.size - 1 - 2 - 2 - 4 - p.size = 0 := by omega
  have e2 : 9 + p.size + rest.size - 1 - 2 - 2 - 4 - p.size = rest.size := by omega
  rw [e1, e2, ByteArray.extract_zero_size]
 have he : frE s d.block = 0 := by
  unfold frE
  rw [if_neg (by omega), fk, if_neg (by omega), if_neg (by omega), if_neg k0, fr, fl, if_neg (by rw [hf]; simp; omega), if_neg (by omega)]
 have hm : meant E d = (b, 0) := by
  unfold meant
  rw [hsd, fk, if_neg k0, fr, fp, fs, hg]
  dsimp only
  rw [if_neg (by simp [hcr])]
 unfold next
 rw [if_neg (by rw [hb]; decide), hsd, if_neg (by omega), if_neg (by rw [hd]; decide), he, if_neg (by decide), if_neg (by decide), hm]
 dsimp only
 rw [if_neg (by decide), fn]
 refine congrArg (fun x => (b, true, x)) ?_
 unfold took fin
 dsimp only
 rw [hsd, fk, xr]
 have : decide (kind = 0) = false := by simp [k0]
 rw [this, ← hd]
theorem next_over (E : Env) (d : DS) (hh : d.held = endB (d.told % 4294967296)) (hb : d.begun = true) (hd : d.done = false) :
  next E d = (Co.no, true, { d with held := Co.no, pos := d.pos + 5, done := true }) := by
 have h1 := big_size 0 1
 have h4 := big_size (d.told % 4294967296) 4
 obtain ⟨s, hsd⟩ : ∃ s, d.held = s := ⟨_, rfl⟩
 have e : s = big 0 1 ++ big (d.told % 4294967296) 4 := by rw [← hsd, hh]; rfl
 have hz : s.size = 5 := by rw [e, ByteArray.size_append, h1, h4]
 have fk : frKind s = 0 := by unfold frKind; rw [e, at8_big 0 _ (by omega)]
 have fr : frRaw s = d.told % 4294967296 := by
  unfold frRaw
  have hx : (big 0 1 ++ big (d.told % 4294967296) 4).extract 1 5 = big (d.told % 4294967296) 4 := ext_right _ _ _ _ (by rw [h1]) (by rw [h1, h4])
  rw [fk, if_pos rfl, e, hx, num_big _ _ (by omega)]
 have he : frE s d.block = 0 := by
  unfold frE
  rw [if_neg (by omega), fk, if_neg (by omega), if_neg (by omega), if_pos rfl]
 have hm : meant E d = (Co.no, 0) := by
  unfold meant
  rw [hsd, fk, if_pos rfl, fr, if_pos rfl]
 have fn : frN s = 5 := by unfold frN; rw [fk, if_pos rfl]
 unfold next
 rw [if_neg (by rw [hb]; decide), hsd, if_neg (by omega), if_neg (by rw [hd]; decide), he, if_neg (by decide), if_neg (by decide), hm]
 dsimp only
 rw [if_neg (by decide), fn]
 refine congrArg (fun x => (Co.no, true, x)) ?_
 unfold took fin
 dsimp only
 rw [hsd, fk]
 have hx : s.extract 5 s.size = Co.no := Co.eq_no (by rw [ByteArray.size_extract]; omega)
 rw [hx]
 rfl
/-! ### what a payload means is told by it alone -/
theorem nums_inj (l : List ByteArray) (hl : l.length ≤ 100) : ∀ ts us, Blk.allTk l ts → Blk.allTk l us → Blk.numsC ts = Blk.numsC us → ts = us
 | [], [], _, _, _ => rfl
 | [], u :: us, _, h2, h => by
   exfalso
   have h3 := Blk.getN_num (t := u) ⟨(h2 u (by simp)).1, by have := (h2 u (by simp)).2; omega⟩ (Blk.numsC us)
   have h4 : Vari.numS u ++ Blk.numsC us = Co.no := h.symm
   rw [h4] at h3
   have h5 : Vari.getN Co.no = (0, 0, 2) := by decide
   rw [h5] at h3
   simp at h3
 | t :: ts, [], h1, _, h => by
   exfalso
   have h3 := Blk.getN_num (t := t) ⟨(h1 t (by simp)).1, by have := (h1 t (by simp)).2; omega⟩ (Blk.numsC ts)
   have h4 : Vari.numS t ++ Blk.numsC ts = Co.no := h
   rw [h4] at h3
   have h5 : Vari.getN Co.no = (0, 0, 2) := by decide
   rw [h5] at h3
   simp at h3
 | t :: ts, u :: us, h1, h2, h => by
   have h3 := Blk.getN_num (t := t) ⟨(h1 t (by simp)).1, by have := (h1 t (by simp)).2; omega⟩ (Blk.numsC ts)
   have h4 := Blk.getN_num (t := u) ⟨(h2 u (by simp)).1, by have := (h2 u (by simp)).2; omega⟩ (Blk.numsC us)
   have h5 : Vari.numS t ++ Blk.numsC ts = Vari.numS u ++ Blk.numsC us := h
   rw [h5, h4] at h3
   have h6 : u = t := congrArg Prod.fst h3
   subst h6
   have h7 : Blk.numsC ts = Blk.numsC us := ByteArray.append_right_inj _ |>.1 h5
   rw [nums_inj l hl ts us (fun x hx => h1 x (by simp [hx])) (fun x hx => h2 x (by simp [hx])) h7]
theorem good_one {l : List ByteArray} {code kind raw : Nat} {pay b c : ByteArray} (hl : l.length ≤ 100) (h : Good l code kind raw pay b) (g : Good l code kind raw pay c) : b = c := by
 obtain ⟨_, _, _, _, ⟨k1, e1⟩ | ⟨k1, c1, ts, p1, a1, m1, _⟩⟩ := h
 ·obtain ⟨_, _, _, _, ⟨k2, e2⟩ | ⟨k2, _⟩⟩ := g
  ·rw [e1, e2]
  ·omega
 ·obtain ⟨_, _, _, _, ⟨k2, e2⟩ | ⟨k2, c2, us, p2, a2, m2, _⟩⟩ := g
  ·omega
  ·rw [m1, m2, nums_inj l hl ts us a1 a2 (by rw [← p1, ← p2])]
theorem getP_of {l : List ByteArray} {code kind raw : Nat} {pay b : ByteArray} (hl : l.length ≤ 100) (h : Good l code kind raw pay b) : getP l code kind raw pay = (b, 0) := by
 have hx : ∃ b, Good l code kind raw pay b := ⟨b, h⟩
 unfold getP
 rw [dif_pos hx, good_one hl (Classical.choose_spec hx) h]
/-! ### all blocks -/
def catB : List ByteArray → ByteArray
 | [] => Co.no
 | b :: bs => b ++ catB bs
/-- A block that may be written, and is read as it was. -/
def BlkGood (l : List ByteArray) (c : Blk.Cf) (b : ByteArray) : Prop := En.BlkOk l c b ∧ Good l c.code (Blk.putK l c b) b.size (Blk.putB l c b) b
theorem run_blocks (l : List ByteArray) (c : Blk.Cf) (hl : l.length ≤ 100) : ∀ (bs : List ByteArray) (d : DS) (tot : Nat), d.begun = true → d.done = false → d.err = none → d.code = c.code → d.block = c.block → (∀ b ∈ bs, BlkGood l c b) →
  tot = d.told + (catB bs).size → d.held = catB (bs.map (En.blockF l c)) ++ endB (tot % 4294967296) → ∃ d', run (env l) d = (catB bs, d') ∧ d'.err = none ∧ d'.done = true ∧ d'.held = Co.no
 | [], d, tot, hb, hd, he, hc, hbl, _, ht, hh => by
   have ht2 : tot = d.told := by rw [ht]; rfl
   have hn := next_over (env l) d (by rw [hh, ht2]; exact no_app _) hb hd
   have hr := run_step (env l) he
   rw [hn] at hr
   dsimp only at hr
   rw [if_pos rfl] at hr
   obtain ⟨d2, hd2⟩ : ∃ x, ({ d with held := Co.no, pos := d.pos + 5, done := true } : DS) = x := ⟨_, rfl⟩
   rw [hd2] at hr
   have he2 : d2.err = none := by rw [← hd2]; exact he
   have hn2 : next (env l) d2 = (Co.no, false, d2) := by
    unfold next
    rw [if_neg (by rw [← hd2]; show ¬ d.begun = false; rw [hb]; decide), if_pos (by rw [← hd2]; rfl)]
   have hr2 := run_step (env l) he2
   rw [hn2] at hr2
   dsimp only at hr2
   rw [if_neg (by decide)] at hr2
   rw [hr2] at hr
   exact ⟨d2, hr, he2, by rw [← hd2], by rw [← hd2]⟩
 | b :: bs, d, tot, hb, hd, he, hc, hbl, hg, ht, hh => by
   obtain ⟨⟨g0, g1, g2, g3⟩, hgd⟩ := hg b (by simp)
   have hcat : (catB (b :: bs)).size = b.size + (catB bs).size := ByteArray.size_append ..
   have hn := next_block (env l) d (Blk.putK l c b) b.size (Sums.crc b) (Blk.putB l c b) (catB (bs.map (En.blockF l c)) ++ endB (tot % 4294967296)) b (by
    rw [hh]
    show (En.blockF l c b ++ catB (bs.map (En.blockF l c))) ++ _ = _
    rw [ByteArray.append_assoc]
    rfl) hb hd g3 (by omega) (Sums.crc_lt b) (by rw [hc]; exact getP_of hl hgd) rfl
   have hr := run_step (env l) he
   rw [hn] at hr
   dsimp only at hr
   rw [if_pos rfl] at hr
   obtain ⟨d', h1, h2, h3, h4⟩ := run_blocks l c hl bs { d with held := catB (bs.map (En.blockF l c)) ++ endB (tot % 4294967296), pos := d.pos + (9 + (Blk.putB l c b).size), told := d.told + b.size } tot hb hd he hc hbl (fun x hx => hg x (by simp [hx])) (by rw [ht, hcat]; show _ = d.told + b.size + _; omega) rfl
   rw [h1] at hr
   exact ⟨d', hr, h2, h3, h4⟩
/-- The stream of blocks. -/
def strm (l : List ByteArray) (c : Blk.Cf) (bs : List ByteArray) : ByteArray := headB c.code c.block (idD l) ++ (catB (bs.map (En.blockF l c)) ++ endB ((catB bs).size % 4294967296))
theorem run_stream (l : List ByteArray) (c : Blk.Cf) (hl : l.length ≤ 100) (hc : c.ok) (bs : List ByteArray) (hg : ∀ b ∈ bs, BlkGood l c b) :
  ∃ d', run (env l) (add d0 (strm l c bs)) = (catB bs, d') ∧ d'.err = none ∧ d'.done = true ∧ d'.held = Co.no := by
 have h0 : add d0 (strm l c bs) = { d0 with held := strm l c bs } := by
  unfold add
  rw [show d0.held = Co.no from rfl, no_app]
 rw [h0]
 have hn := next_head (env l) c.code c.block (idD l) (catB (bs.map (En.blockF l c)) ++ endB ((catB bs).size % 4294967296)) hc.2.1 hc.2.2.1 hc.2.2.2.1 (id_big l)
 rw [if_neg (by simp [env])] at hn
 have hr := run_step (env l) (d := { d0 with held := strm l c bs }) rfl
 unfold strm at hr ⊢
 rw [hn] at hr
 dsimp only at hr
 rw [if_pos rfl] at hr
 obtain ⟨d', h1, h2⟩ := run_blocks l c hl bs { d0 with begun := true, code := c.code, block := c.block, hid := idD l, held := catB (bs.map (En.blockF l c)) ++ endB ((catB bs).size % 4294967296), pos := 17 } (catB bs).size rfl rfl rfl rfl rfl hg (by show _ = 0 + _; omega) rfl
 rw [h1, no_app] at hr
 exact ⟨d', hr, h2⟩
end Go.Proofs.YtfbbcfhdjhiejaaGreat.De

/- The document's own: streams. -/
namespace Go.Proofs.YtfbbcfhdjhiejaaGreat.De
set_option linter.unusedVariables false
set_option linter.unusedSimpArgs false
open Go.RowKit Go.Proofs.YtfbbcfhdjhiejaaGreatW.PrintWords Go.Proofs.YtfbbcfhdjhiejaaGreatW.PrintMore Go.Proofs.YtfbbcfhdjhiejaaGreat.L Go.Proofs.YtfbbcfhdjhiejaaGreat.Texts Go.Proofs.YtfbbcfhdjhiejaaGreat.Dict Go.Proofs.YtfbbcfhdjhiejaaGreat.Fr
/-! ### plain -/
/-- A piece's blocks. -/
def cutsN (bl : Nat) : Nat → ByteArray → List ByteArray
 | 0, _ => []
 | f + 1, b => if b.size = 0 then [] else b.extract 0 (min b.size bl) :: cutsN bl f (b.extract (min b.size bl) b.size)
def cuts (bl : Nat) (b : ByteArray) : List ByteArray := cutsN bl b.size b
theorem cutsN_fuel (bl : Nat) (hb : 1 ≤ bl) : ∀ (f g : Nat) (b : ByteArray), b.size ≤ f → b.size ≤ g → cutsN bl f b = cutsN bl g b
 | 0, 0, b, _, _ => rfl
 | 0, g + 1, b, h1, _ => by unfold cutsN; rw [if_pos (by omega)]
 | f + 1, 0, b, _, h2 => by unfold cutsN; rw [if_pos (by omega)]
 | f + 1, g + 1, b, h1, h2 => by
   unfold cutsN
   by_cases h0 : b.size = 0
   ·rw [if_pos h0, if_pos h0]
   ·have hz : (b.extract (min b.size bl) b.size).size = b.size - min b.size bl := by rw [ByteArray.size_extract]; omega
    rw [if_neg h0, if_neg h0, cutsN_fuel bl hb f g _ (by omega) (by omega)]
theorem cuts_end (bl : Nat) (b : ByteArray) (h : b.size = 0) : cuts bl b = [] := by unfold cuts; rw [h]; rfl
theorem cuts_step (bl : Nat) (hb : 1 ≤ bl) (b : ByteArray) (h : b.size ≠ 0) : cuts bl b = b.extract 0 (min b.size bl) :: cuts bl (b.extract (min b.size bl) b.size) := by
 have hz : (b.extract (min b.size bl) b.size).size = b.size - min b.size bl := by rw [ByteArray.size_extract]; omega
 unfold cuts
 obtain ⟨n, hn⟩ : ∃ n, b.size = n + 1 := ⟨b.size - 1, by omega⟩
 rw [hn]
 rw [cutsN, if_neg (by omega), ← hn]
 rw [cutsN_fuel bl hb n _ _ (by omega) (Nat.le_refl _)]
theorem catB_append : ∀ a b, catB (a ++ b) = catB a ++ catB b
 | [], b => (Co.no_app _).symm
 | x :: a, b => by show x ++ catB (a ++ b) = (x ++ catB a) ++ catB b; rw [catB_append a b, ByteArray.append_assoc]
theorem catB_cuts (bl : Nat) (hb : 1 ≤ bl) : ∀ (n : Nat) (b : ByteArray), b.size ≤ n → catB (cuts bl b) = b
 | n, b, hn => by
   by_cases h0 : b.size = 0
   ·rw [cuts_end bl b h0, Co.eq_no h0]; rfl
   ·have hz : (b.extract (min b.size bl) b.size).size = b.size - min b.size bl := by rw [ByteArray.size_extract]; omega
    rw [cuts_step bl hb b h0]
    show b.extract 0 _ ++ catB _ = b
    cases n with
    | zero => omega
    | succ n =>
      rw [catB_cuts bl hb n _ (by omega), ByteArray.extract_append_extract]
      have e1 : min 0 (min b.size bl) = 0 := by omega
      have e2 : max (min b.size bl) b.size = b.size := by omega
      rw [e1, e2, ByteArray.extract_zero_size]
def blks (bl : Nat) (ps : List ByteArray) : List ByteArray := ps.flatMap (cuts bl)
theorem catB_blks (bl : Nat) (hb : 1 ≤ bl) : ∀ ps, catB (blks bl ps) = catB ps
 | [] => rfl
 | p :: ps => by
   show catB (cuts bl p ++ blks bl ps) = p ++ catB ps
   rw [catB_append, catB_cuts bl hb _ p (Nat.le_refl _), catB_blks bl hb ps]
/-- A block that both write. -/
def Both (l : List ByteArray) (c : Blk.Cf) (b : ByteArray) : Prop := En.BlkOk l c b ∧ Blk.RefOk l c b
set_option maxRecDepth 100000 in
set_option maxHeartbeats 8000000 in
theorem ref_encode (A P : Option Addr) (cc n c2 : Nat) (l : List ByteArray) (c : Blk.Cf) (ps : List ByteArray) (w : World) (h : KS.C w A l.length l) (hcc : l.length ≤ cc) (hok : okTexts l) (hc : c.ok) (h400 : c.block ≤ 400) (hp : KS.C w P n ps) (hn : n ≤ 1000) (hz : (catB ps).size ≤ 1000000000000) (hb : ∀ b ∈ blks c.block ps, Both l c b) (hcz : (strm l c (blks c.block ps)).size ≤ 1000000000000000) :
  Calls Tryz.prog 42 #[.slice A l.length cc, c.val, .slice P n c2] w fun e w' => e = .returned (.string (strm l c (blks c.block ps))) ∧ Below w.heap.size w w' := by
 have hnl := ks_len hp
 subst hnl
 have HPT := Lib.hid (fun (W : World) (b : ByteArray) (hW : KS.C W A l.length l) (hg : En.BlkOk l c b) (hr : Blk.RefOk l c b) => Blk.ref_put A cc l c b W hW hcc hok hc hg.1 hg.2.1 (by have := hg.2.1; omega) hr)
 have HBY := Lib.hid (fun W (hW : KS.C W A l.length l) => ref_bytes A l.length cc l W hW hok)
 have hbz : (bytesD l).size ≤ 10000 := by
  have := bytesTo_size l (ok_short hok) l.length (Nat.le_refl _)
  have := hok.1
  show (bytesTo l l.length).size ≤ _
  omega
 have HFN := Lib.hid (fun W => Sums.ref_fnv (bytesD l) W (by omega))
 have hJ : Sums.fnv (bytesD l) = idD l := rfl
 rw [hJ] at HFN
 have HHD := Lib.hid (fun W => ref_head c.code c.block (idD l) W hc.2.1 hc.2.2.1 hc.2.2.2.1 (id_big l))
 obtain ⟨J, hJJ⟩ : ∃ J, idD l = J := ⟨_, rfl⟩
 obtain ⟨D, hD⟩ : ∃ D, bytesD l = D := ⟨_, rfl⟩
 have hst : strm l c (blks c.block ps) = headB c.code c.block J ++ (catB ((blks c.block ps).map (En.blockF l c)) ++ endB ((catB ps).size % 4294967296)) := by
  unfold strm
  rw [catB_blks _ hc.2.2.1, hJJ]
 rw [hJJ] at HFN HHD
 rw [hD] at HFN HBY
 obtain ⟨OUT, hOUT⟩ : ∃ OUT, strm l c (blks c.block ps) = OUT := ⟨_, rfl⟩
 rw [hOUT] at hst hcz ⊢
 have HST := Lib.hid hst
 have HV : c.val = .agg #[.int .i64 c.parse, .int .i64 c.code, .int .i64 c.block, .int .i64 c.window] := rfl
 rw [HV] at HPT ⊢
 have H := Lib.hid h
 have HP := Lib.hid hp
 have HZ := Lib.hid hz
 have HB9 := Lib.hid hb
 have HCZ := Lib.hid hcz
 have HC := Lib.hid hc
 have HN := Lib.hid hn
 clear h hcc hok hc h400 hp hn hz hb hcz hbz hJ hJJ hD hst hOUT HV
 go_enter Tryz.func42, Tryz.ntmps42
 go_upto_region 1 with (fail)
 obtain ⟨W1, hW1⟩ : ∃ W, W = w.alloc (.cells #[.int .i64 c.parse, .int .i64 c.code, .int .i64 c.block, .int .i64 c.window] 24 (0, 0)) := ⟨_, rfl⟩
 rw [← hW1]
 have HB0 := Lib.hid (show Below w.heap.size w W1 by rw [hW1]; exact (Below.refl _ w).alloc (Nat.le_refl _) _)
 have hblk : W1.heap[w.heap.size]? = some (.cells #[.int .i64 c.parse, .int .i64 c.code, .int .i64 c.block, .int .i64 c.window] 24 (0, 0)) := by rw [hW1]; exact heap_alloc_self _ _
 have HK := Lib.hid (show ∀ W' : World, Below W1.heap.size W1 W' → (W'.cell? ⟨w.heap.size, 0, none⟩ = some (.int .i64 c.parse) ∧ W'.cell? ⟨w.heap.size, 1, none⟩ = some (.int .i64 c.code) ∧ W'.cell? ⟨w.heap.size, 2, none⟩ = some (.int .i64 c.block) ∧ W'.cell? ⟨w.heap.size, 3, none⟩ = some (.int .i64 c.window)) from fun W' hb => Blk.four ((hb.block _ (blk_lt hblk)).trans hblk))
 have HB := Lib.hid (Below.refl W1.heap.size W1)
 obtain ⟨k0, k1, k2, k3⟩ := HK.out _ HB.out
 have HH1 := Lib.hid (Kd.C_below H.out HB0.out)
 clear hblk hW1
 go_region_held3 (fun w' => w'.cell? ⟨w.heap.size, 0, none⟩ = some (.int .i64 c.parse) ∧ w'.cell? ⟨w.heap.size, 1, none⟩ = some (.int .i64 c.code) ∧ w'.cell? ⟨w.heap.size, 2, none⟩ = some (.int .i64 c.block) ∧ w'.cell? ⟨w.heap.size, 3, none⟩ = some (.int .i64 c.window)) (first | exact ⟨k0, k1, k2, k3⟩ | exact HK.out _ HB.out | exact HK.out _ (below_drew HB.out) | go_keep)
  (first
   | (go_at_call 52; (with_reducible refine Calls.mono (HBY.out _ (Kd.C_below HH1.out (by first | exact HB.out | exact below_drew HB.out))) ?_); rintro e w7 ⟨rfl, hb7⟩; have HB7 := Lib.hid (bel_on (show Below W1.heap.size W1 _ from (by first | exact HB.out | exact below_drew HB.out)) hb7); clear HB k0 k1 k2 k3 hb7; have HB := HB7; obtain ⟨k0, k1, k2, k3⟩ := HK.out _ HB7.out; clear HB7)
   | (go_at_call 51; (with_reducible refine Calls.mono (HFN.out _) ?_); rintro e w7 ⟨rfl, rfl⟩)
   | (go_at_call 32; (with_reducible refine Calls.mono (HHD.out _) ?_); rintro e w7 ⟨rfl, hb7⟩; have HB7 := Lib.hid (bel_on (show Below W1.heap.size W1 _ from (by first | exact HB.out | exact below_drew HB.out)) hb7); clear HB k0 k1 k2 k3 hb7; have HB := HB7; obtain ⟨k0, k1, k2, k3⟩ := HK.out _ HB7.out; clear HB7))
 have HBW := HB
 obtain ⟨W3, hW3⟩ : ∃ x : World, x = w7 := ⟨_, rfl⟩
 rw [← hW3] at HBW ⊢
 clear HB hW3 HBY HFN HHD HH1 k0 k1 k2 k3
 go_wp2_with (fail)
 go_loopg [7, 9, 10] ps.length (fun j o tt i wr => ∃ (k T : Nat) (s : ByteArray), o = .string s ∧ tt = .int .i64 (T : Int) ∧ i = .int .i64 (k : Int) ∧ Hid (k + j = ps.length ∧ OUT = s ++ (catB ((blks c.block (ps.drop k)).map (En.blockF l c)) ++ endB ((catB ps).size % 4294967296)) ∧ T + (catB (ps.drop k)).size = (catB ps).size ∧ Below W1.heap.size W1 wr))
 case atStart => exact ⟨0, 0, _, rfl, rfl, rfl, by omega, by rw [List.drop_zero]; exact HST.out, by rw [List.drop_zero]; omega, HBW.out⟩
 case round =>
  obtain ⟨k, T, s, rfl, rfl, rfl, HI⟩ := hrel
  obtain ⟨hkj, hout, htot, hb⟩ := HI.out
  by_cases hk : k < ps.length
  ·obtain ⟨ad, rfl, x0⟩ := strs_at (Kd.C_below HP.out (HB0.out.trans (hb.mono HB0.out.size))) k hk
   obtain ⟨p, hp⟩ : ∃ p, ps.getD k no = p := ⟨_, rfl⟩
   rw [hp] at x0
   have hdr : ps.drop k = p :: ps.drop (k + 1) := by
    rw [List.drop_eq_getElem_cons hk]
    congr 1
    rw [← hp]
    simp [hk]
   have hpm : p ∈ ps := by rw [← hp, List.getD_eq_getElem?_getD, List.getElem?_eq_getElem hk]; exact List.getElem_mem hk
   rw [hdr] at hout htot
   have htot2 : T + p.size + (catB (ps.drop (k + 1))).size = (catB ps).size := by
    rw [← htot]
    show _ = T + (p ++ catB (ps.drop (k + 1))).size
    rw [ByteArray.size_append]
    omega
   have hout2 : OUT = s ++ (catB ((cuts c.block p ++ blks c.block (ps.drop (k + 1))).map (En.blockF l c)) ++ endB ((catB ps).size % 4294967296)) := hout
   have HWW := Lib.hid (show wrap64 ((T : Int) + (p.size : Int)) = ((T + p.size : Nat) : Int) by have := HZ.out; unfold wrap64; omega)
   have hwk : wrap64 ((k : Int) + 1) = ((k + 1 : Nat) : Int) := by have := HN.out; unfold wrap64; omega
   have i0 : (0 : Int) ≤ k := by omega
   have i1 : (k : Int) < (ps.length : Int) := by omega
   have i2 : ((k : Int)).toNat = k := by omega
   have HOUT := Lib.hid hout2
   have HTOT := Lib.hid htot2
   have HKJ := Lib.hid hkj
   have HKP := Lib.hid hk
   have HBR := Lib.hid hb
   have HMEM := Lib.hid (show ∀ b ∈ cuts c.block p, b ∈ blks c.block ps from fun b hb => List.mem_flatMap.2 ⟨p, hpm, hb⟩)
   clear hkj hout htot hb HI hp hdr hpm htot2 hout2 hk
   obtain ⟨w8, hw8⟩ : ∃ x : World, x = wr := ⟨_, rfl⟩
   rw [← hw8] at x0 HBR ⊢
   clear hw8
   go_wp2_with (fail)
   go_loopg [7, 11] p.size (fun j o q wr => ∃ (cur s : ByteArray), o = .string s ∧ q = .string cur ∧ Hid (cur.size ≤ j ∧ OUT = s ++ (catB ((cuts c.block cur ++ blks c.block (ps.drop (k + 1))).map (En.blockF l c)) ++ endB ((catB ps).size % 4294967296)) ∧ (∀ b ∈ cuts c.block cur, b ∈ blks c.block ps) ∧ Below W1.heap.size W1 wr))
   case atStart => exact ⟨p, s, rfl, rfl, Nat.le_refl _, HOUT.out, HMEM.out, HBR.out⟩
   case round =>
    obtain ⟨cur, s, rfl, rfl, HI⟩ := hrel
    obtain ⟨hcj, hout, hmem, hb⟩ := HI.out
    by_cases h0 : cur.size = 0
    ·have e1 := empty_to h0
     rw [cuts_end _ _ h0, List.nil_append] at hout
     have HOUT2 := Lib.hid hout
     have HB2 := Lib.hid hb
     clear hcj hout hmem hb HI h0
     go_wp2_with (fail)
     go_roundg (ps.length - (k + 1))
     case measure => have := HKJ.out; have := HKP.out; omega
     case rel => exact ⟨k + 1, T + p.size, s, rfl, by rw [HWW.out], by first | rfl | rw [hwk], by have := HKP.out; omega, HOUT2.out, HTOT.out, HB2.out⟩
    ·have e1 := full_to h0
     obtain ⟨M, hM⟩ : ∃ M, min cur.size c.block = M := ⟨_, rfl⟩
     have hst := cuts_step c.block HC.out.2.2.1 cur h0
     rw [hM] at hst
     have hmn : min (cur.size : Int) (c.block : Int) = (M : Int) := by omega
     have m0 : (0 : Int) ≤ (M : Int) := by omega
     have m1 : (M : Int) ≤ (cur.size : Int) := by omega
     have hbl := HC.out.2.2.1
     have hbl2 := HC.out.2.2.2.1
     have hMB : 1 ≤ M ∧ M ≤ c.block ∧ M ≤ cur.size := by omega
     have hus : (cur.extract 0 M).size = M := by rw [ByteArray.size_extract]; omega
     have hvs : (cur.extract M cur.size).size = cur.size - M := by rw [ByteArray.size_extract]; omega
     have hbo := HB9.out (cur.extract 0 M) (hmem _ (by rw [hst]; exact List.mem_cons_self))
     have HOUT2 := Lib.hid (show OUT = (s ++ En.blockF l c (cur.extract 0 M)) ++ (catB ((cuts c.block (cur.extract M cur.size) ++ blks c.block (ps.drop (k + 1))).map (En.blockF l c)) ++ endB ((catB ps).size % 4294967296)) by
      rw [hout, hst]
      show s ++ ((En.blockF l c (cur.extract 0 M) ++ catB _) ++ _) = _
      simp only [ByteArray.append_assoc]
      rfl)
     have HMEM2 := Lib.hid (show ∀ b ∈ cuts c.block (cur.extract M cur.size), b ∈ blks c.block ps from fun b hb => hmem b (by rw [hst]; exact List.mem_cons_of_mem _ hb))
     have HPU := Lib.hid (fun W hW => HPT.out W (cur.extract 0 M) hW hbo.1 hbo.2)
     have HCRC := Lib.hid (fun W => Sums.ref_crc (cur.extract 0 M) W (by omega))
     have hff := hbo.1.2.2.2
     have HFR := Lib.hid (fun W => ref_frame (Blk.putK l c (cur.extract 0 M)) (cur.extract 0 M).size (Sums.crc (cur.extract 0 M)) (Blk.putB l c (cur.extract 0 M)) W hff (Sums.crc_lt _))
     have hbF : frameB (Blk.putK l c (cur.extract 0 M)) (cur.extract 0 M).size (Sums.crc (cur.extract 0 M)) (Blk.putB l c (cur.extract 0 M)) = En.blockF l c (cur.extract 0 M) := rfl
     rw [hbF, hus] at HFR
     obtain ⟨K, hK⟩ : ∃ K, Blk.putK l c (cur.extract 0 M) = K := ⟨_, rfl⟩
     obtain ⟨Pb, hPb⟩ : ∃ Pb, Blk.putB l c (cur.extract 0 M) = Pb := ⟨_, rfl⟩
     obtain ⟨C, hC⟩ : ∃ C, Sums.crc (cur.extract 0 M) = C := ⟨_, rfl⟩
     obtain ⟨Fb, hFb⟩ : ∃ Fb, En.blockF l c (cur.extract 0 M) = Fb := ⟨_, rfl⟩
     rw [hK, hPb] at HPU HFR
     rw [hC] at HFR HCRC
     rw [hFb] at HFR HOUT2
     have hzz : ¬ 9223372036854775807 < s.size + Fb.size := by
      have h1 := HCZ.out
      rw [HOUT2.out, ByteArray.size_append, ByteArray.size_append] at h1
      omega
     have HJ := Lib.hid (show (cur.extract M cur.size).size < gk by omega)
     have HBW2 := Lib.hid hb
     have HKW := Lib.hid (Kd.C_below H.out (HB0.out.trans (hb.mono HB0.out.size)))
     obtain ⟨k0, k1, k2, k3⟩ := HK.out _ hb
     clear hM hst hcj hout hmem hb HI h0 hbl hbl2 hMB hus hvs hbo hff hbF hK hPb hC hFb
     go_upto_region 10 with (fail)
     obtain ⟨W4, hW4⟩ : ∃ x : World, x = wr := ⟨_, rfl⟩
     rw [← hW4] at k0 k1 k2 k3 HBW2 HKW ⊢
     clear hW4
     have HK4 := Lib.hid (show ∀ W' : World, Below W4.heap.size W4 W' → (W'.cell? ⟨w.heap.size, 0, none⟩ = some (.int .i64 c.parse) ∧ W'.cell? ⟨w.heap.size, 1, none⟩ = some (.int .i64 c.code) ∧ W'.cell? ⟨w.heap.size, 2, none⟩ = some (.int .i64 c.block) ∧ W'.cell? ⟨w.heap.size, 3, none⟩ = some (.int .i64 c.window)) from fun W' hb => HK.out _ (HBW2.out.trans (hb.mono HBW2.out.size)))
     have HB := Lib.hid (Below.refl W4.heap.size W4)
     go_region_held3 (fun w' => w'.cell? ⟨w.heap.size, 0, none⟩ = some (.int .i64 c.parse) ∧ w'.cell? ⟨w.heap.size, 1, none⟩ = some (.int .i64 c.code) ∧ w'.cell? ⟨w.heap.size, 2, none⟩ = some (.int .i64 c.block) ∧ w'.cell? ⟨w.heap.size, 3, none⟩ = some (.int .i64 c.window)) (first | exact ⟨k0, k1, k2, k3⟩ | exact HK4.out _ HB.out | exact HK4.out _ (below_drew HB.out) | go_keep)
      (first
       | (go_at_call 74; (with_reducible refine Calls.mono (HPU.out _ (Kd.C_below HKW.out (by first | exact HB.out | exact below_drew HB.out))) ?_); rintro e w7 ⟨rfl, hb7⟩; have HB7 := Lib.hid (bel_on (show Below W4.heap.size W4 _ from (by first | exact HB.out | exact below_drew HB.out)) hb7); clear HB k0 k1 k2 k3 hb7; have HB := HB7; obtain ⟨k0, k1, k2, k3⟩ := HK4.out _ HB7.out; clear HB7))
     go_wp2_with (fail)
     refine (HCRC.out _).mono ?_
     rintro e w9 ⟨rfl, rfl⟩
     go_wp2_with (fail)
     refine (HFR.out _).mono ?_
     rintro e w10 ⟨rfl, hb10⟩
     have HB10 := Lib.hid (HBW2.out.trans ((bel_on HB.out hb10).mono HBW2.out.size))
     clear hb10 k0 k1 k2 k3
     go_wp2_with (fail)
     go_roundg (cur.extract M cur.size).size
     case measure => exact HJ.out
     case rel => exact ⟨_, _, rfl, rfl, Nat.le_refl _, HOUT2.out, HMEM2.out, HB10.out⟩
  ·have hk2 : k = ps.length := by omega
   rw [hk2, List.drop_length] at hout htot
   have hlt : ¬ ((k : Int) < (ps.length : Int)) := by omega
   have hout2 : OUT = s ++ endB ((catB ps).size % 4294967296) := by
    rw [hout]
    show s ++ (Co.no ++ _) = _
    rw [Co.no_app]
   have htot2 : T = (catB ps).size := by
    have : (catB ([] : List ByteArray)).size = 0 := rfl
    omega
   have hand : bits BinOp.and IntKind.i64 (T : Int) 4294967295 = ((T % 4294967296 : Nat) : Int) := by
    have hz1 := HZ.out
    have := (bits_nat .i64 62 (by decide) BP.i64_small T 4294967295 (by omega) (by decide)).1
    rw [show (4294967295 : Nat) = 2 ^ 32 - 1 from rfl, Nat.and_two_pow_sub_one_eq_mod] at this
    exact this
   obtain ⟨R, hR⟩ : ∃ R, T % 4294967296 = R := ⟨_, rfl⟩
   have HRE := Lib.hid (fun W => ref_end R W (by omega))
   rw [← htot2, hR] at hout2
   rw [hR] at hand
   have HOUT := Lib.hid hout2
   have hzz : ¬ 9223372036854775807 < s.size + (endB R).size := by
    have h1 := HCZ.out
    rw [hout2, ByteArray.size_append] at h1
    omega
   have HB2 := Lib.hid hb
   clear hkj hout htot hb HI hk2 hk hout2 htot2 hR
   go_wp2_with (fail)
   refine (HRE.out _).mono ?_
   rintro e w10 ⟨rfl, hb10⟩
   have HB10 := Lib.hid (HB0.out.trans ((bel_on HB2.out hb10).mono HB0.out.size))
   clear hb10
   go_wp2_with (fail)
   go_ret
   exact ⟨by rw [HOUT.out]; rfl, HB10.out⟩
end Go.Proofs.YtfbbcfhdjhiejaaGreat.De
