/- Of the parts DecH, WorksP, OkO, WorksW, LensR: what the rows use. -/
import Derived.Test.YtfbbcfhdjhiejaaGreatZa1
import Derived.Test.YtfbbcfhdjhiejaaGreatZa13
import Derived.Test.YtfbbcfhdjhiejaaGreatZa22
import Derived.Deep.RegionLaw
/- Chapter 24: the decoder: a stream that is told to be wrong. -/
namespace Go.Proofs.YtfbbcfhdjhiejaaGreat.De
set_option linter.unusedVariables false
set_option linter.unusedSimpArgs false
open Go.RowKit Go.Proofs.YtfbbcfhdjhiejaaGreatW.PrintWords Go.Proofs.YtfbbcfhdjhiejaaGreatW.PrintMore Go.Proofs.YtfbbcfhdjhiejaaGreat.L Go.Proofs.YtfbbcfhdjhiejaaGreat.Texts Go.Proofs.YtfbbcfhdjhiejaaGreat.Dict Go.Proofs.YtfbbcfhdjhiejaaGreat.Co Go.Proofs.YtfbbcfhdjhiejaaGreat.Fa Go.Proofs.YtfbbcfhdjhiejaaGreat.Fr
set_option maxRecDepth 100000 in
set_option maxHeartbeats 4000000 in
/-- A stream that is wrong: nothing but that. -/
theorem decode_err (db : Nat) (l : List ByteArray) (b : ByteArray) (c : Int) (a : Nat) (w : World) (hD : DC w db l) (hok : okTexts l) (hb : b.size ≤ 1000000) (he : (run (env l) (add d0 b)).2.err = some (c, a)) (hc : c ≠ 99) (hz : (run (env l) (add d0 b)).1.size ≤ 1000000000000000) :
  Calls Tryz.prog 41 #[.pointer (some ⟨db, 0, none⟩), .string b] w fun e w' => e = .returned (.tuple #[.string Co.no, errV (some (c, a))]) ∧ Below w.heap.size w w' := by
 have HF := Lib.hid (fun (W : World) (hW : Below w.heap.size w W) (hx : Dec W w.heap.size ⟨db, 0, none⟩ d0) => feed_any w.heap.size db l d0 b w W hx hD hW (Nat.le_refl _) hok rfl (small_new hb) hz (by rw [he]; intro a2 h; injection h with h; injection h with h; exact hc h))
 have HE := Lib.hid he
 obtain ⟨R, hR⟩ : ∃ R, run (env l) (add d0 b) = R := ⟨_, rfl⟩
 rw [hR] at HF HE
 have q1 := eql_some
 have q2 := neq_nil
 have q3 := eql_nil
 clear hD hok hb he hc hz hR
 go_enter Tryz.func41, Tryz.ntmps41
 go_wp2_with (fail)
 refine (De.new_any ⟨db, 0, none⟩ w).mono ?_
 rintro e w1 ⟨rfl, hd1, hb1⟩
 have HD1 := Lib.hid hd1
 have HB1 := Lib.hid hb1
 clear hd1 hb1
 go_wp2_with (fail)
 refine Calls.mono (HF.out w1 HB1.out HD1.out) ?_
 rintro e w2 ⟨rfl, hd2, hc2⟩
 rw [HE.out, show errV (some (c, a)) = .iface 105 (.agg #[.int .i64 c, .int .i64 a]) from rfl]
 have HB2 := Lib.hid (HB1.out.trans (hc2.below HB1.out.size (fun k hk => by rw [hk]; exact Nat.le_refl _)))
 clear hd2 hc2
 go_wp2_with (fail)
 refine (Fa.of_some c a _).mono ?_
 rintro e w4 ⟨rfl, hb4⟩
 have HB4 := Lib.hid (bel_on HB2.out hb4)
 clear hb4
 go_wp2_with (fail)
 go_quiet (fail)
 go_wp2_with (fail)
 go_ret2
 exact ⟨rfl, bel_drewN (HB4.out.alloc HB4.out.size _) _⟩
end Go.Proofs.YtfbbcfhdjhiejaaGreat.De

/- The piece of all that matters, plain: its dictionary, its text, its blocks. -/
namespace Go.Proofs.YtfbbcfhdjhiejaaGreat.Top
set_option linter.unusedVariables false
set_option linter.unusedSimpArgs false
open Go.RowKit Go.Proofs.YtfbbcfhdjhiejaaGreatW.PrintWords Go.Proofs.YtfbbcfhdjhiejaaGreatW.PrintMore Go.Proofs.YtfbbcfhdjhiejaaGreat.L Go.Proofs.YtfbbcfhdjhiejaaGreat.Texts Go.Proofs.YtfbbcfhdjhiejaaGreat.Dict Go.Proofs.YtfbbcfhdjhiejaaGreat.Co Go.Proofs.YtfbbcfhdjhiejaaGreat.Fr Go.Proofs.YtfbbcfhdjhiejaaGreat.De
def l5 : List ByteArray := [⟨#[97, 98, 114, 97]⟩, ⟨#[99, 97, 100]⟩, ⟨#[97, 98, 114, 97, 99, 97, 100, 97, 98, 114, 97]⟩, ⟨#[97]⟩, ⟨#[114, 97]⟩]
def l3 : List ByteArray := [⟨#[97, 98, 114, 97]⟩, ⟨#[99, 97, 100]⟩, ⟨#[97, 98, 114, 97, 99, 97, 100, 97, 98, 114, 97]⟩]
def b1 : ByteArray := ⟨#[97, 98, 114, 97, 99, 97, 100]⟩
def b2 : ByteArray := ⟨#[97, 98, 114, 97, 32, 97, 98, 114, 97, 99, 97, 100, 97, 98, 114, 97, 32, 99, 97, 100]⟩
def b3 : ByteArray := ⟨#[97, 98, 114, 97, 32, 120, 121, 122]⟩
def b23 : ByteArray := ⟨#[97, 98, 114, 97, 32, 97, 98, 114, 97, 99, 97, 100, 97, 98, 114, 97, 32, 99, 97, 100, 97, 98, 114, 97, 32, 120, 121, 122]⟩
def text : ByteArray := ⟨#[97, 98, 114, 97, 99, 97, 100, 97, 98, 114, 97, 32, 97, 98, 114, 97, 99, 97, 100, 97, 98, 114, 97, 32, 99, 97, 100, 97, 98, 114, 97, 32, 120, 121, 122]⟩
set_option maxRecDepth 100000 in
theorem ok5 : okTexts l5 := by decide +kernel
set_option maxRecDepth 100000 in
theorem ok3 : okTexts l3 := by decide +kernel
set_option maxRecDepth 100000 in
theorem cut7 : text.extract 0 7 = b1 ∧ text.extract 7 text.size = b23 := by decide +kernel
set_option maxRecDepth 100000 in
theorem blks20 : blks 20 [b1, b23] = [b1, b2, b3] := by decide +kernel
set_option maxRecDepth 100000 in
theorem cat123 : catB [b1, b2, b3] = text := by decide +kernel
set_option maxRecDepth 100000 in
theorem cuts40 : cuts 40 text = [text] := by decide +kernel
set_option maxRecDepth 100000 in
theorem ids : idD l5 ≠ idD l3 := by decide +kernel
def cf (p k : Nat) : Blk.Cf := ⟨p, k, 20, 20⟩
theorem cf_ok (p k : Nat) (hp : p ≤ 2) (hk : k ≤ 1) : (cf p k).ok := ⟨hp, hk, by show 1 ≤ 20; decide, by show 20 ≤ 1024; decide, by show 1 ≤ 20; decide, by show 20 ≤ 1024; decide⟩
def c40 : Blk.Cf := ⟨0, 0, 40, 40⟩
theorem c40_ok : c40.ok := by decide
set_option maxRecDepth 100000 in
theorem by1 : Blk.toksP l5 (cf 0 1) b1 = [256, 257] ∧ Blk.toksP l5 (cf 1 1) b1 = [256, 257] ∧ Blk.toksP l5 (cf 2 1) b1 = [256, 257] := by decide +kernel
set_option maxRecDepth 100000 in
theorem by2 : Blk.toksP l5 (cf 0 1) b2 = [256, 32, 258, 32, 257] ∧ Blk.toksP l5 (cf 1 1) b2 = [256, 32, 258, 32, 257] ∧ Blk.toksP l5 (cf 2 1) b2 = [256, 32, 258, 32, 257] := by decide +kernel
set_option maxRecDepth 100000 in
theorem by3 : Blk.toksP l5 (cf 0 1) b3 = [256, 32, 120, 121, 122] ∧ Blk.toksP l5 (cf 1 1) b3 = [256, 32, 120, 121, 122] ∧ Blk.toksP l5 (cf 2 1) b3 = [256, 32, 120, 121, 122] := by decide +kernel
def few (ts : List Int) : Prop := (2 * (Srt.onesTo (Blk.hst l5 ts) (Blk.hst l5 ts).length).length < 20 ∧ Code.right (Blk.lns l5 ts) = 0) ∧ 2 ≤ (Srt.firstP (Blk.hst l5 ts)).length
instance (ts : List Int) : Decidable (few ts) := by unfold few; exact inferInstance
theorem few_ok {ts : List Int} (h : few ts) : Blk.CodesOk l5 ts := h.1
set_option maxRecDepth 100000 in
theorem few1 : few [256, 257] ∧ ¬ (Blk.codesB l5 [256, 257]).size < b1.size := by decide +kernel
set_option maxRecDepth 100000 in
theorem few2 : few [256, 32, 258, 32, 257] ∧ ¬ (Blk.codesB l5 [256, 32, 258, 32, 257]).size < b2.size := by decide +kernel
set_option maxRecDepth 100000 in
theorem few3 : few [256, 32, 120, 121, 122] ∧ ¬ (Blk.codesB l5 [256, 32, 120, 121, 122]).size < b3.size := by decide +kernel
theorem three {p : Nat} (hp : p ≤ 2) {b : ByteArray} {ts : List Int} (h : Blk.toksP l5 (cf 0 1) b = ts ∧ Blk.toksP l5 (cf 1 1) b = ts ∧ Blk.toksP l5 (cf 2 1) b = ts) : Blk.toksP l5 (cf p 1) b = ts := by
 obtain rfl | rfl | rfl : p = 0 ∨ p = 1 ∨ p = 2 := by omega
 ·exact h.1
 ·exact h.2.1
 ·exact h.2.2
theorem by_codes {p : Nat} (hp : p ≤ 2) {b : ByteArray} {ts : List Int} (h : Blk.toksP l5 (cf 0 1) b = ts ∧ Blk.toksP l5 (cf 1 1) b = ts ∧ Blk.toksP l5 (cf 2 1) b = ts) (hf : few ts ∧ ¬ (Blk.codesB l5 ts).size < b.size) {k : Nat} (hk : (cf p k).code = 1) :
  Blk.CodesOk l5 (Blk.toksP l5 (cf p k) b) ∧ ¬ (Blk.layP l5 (cf p k).code (Blk.toksP l5 (cf p k) b)).size < b.size := by
 obtain rfl : k = 1 := hk
 rw [three hp h]
 exact ⟨few_ok hf.1, hf.2⟩
theorem good123 (p k : Nat) (hp : p ≤ 2) (hk : k ≤ 1) : ∀ b ∈ [b1, b2, b3], BlkGood l5 (cf p k) b ∧ ((cf p k).code = 1 → Blk.CodesOk l5 (Blk.toksP l5 (cf p k) b)) := by
 intro b hb
 have hc := cf_ok p k hp hk
 rcases List.mem_cons.1 hb with rfl | hb
 ·exact ⟨blk_good ok5 _ hc b1 (by decide) (by show 7 ≤ 20; decide) (by_codes hp by1 few1), fun h => (by_codes hp by1 few1 h).1⟩
 rcases List.mem_cons.1 hb with rfl | hb
 ·exact ⟨blk_good ok5 _ hc b2 (by decide) (by show 20 ≤ 20; decide) (by_codes hp by2 few2), fun h => (by_codes hp by2 few2 h).1⟩
 rcases List.mem_cons.1 hb with rfl | hb
 ·exact ⟨blk_good ok5 _ hc b3 (by decide) (by show 8 ≤ 20; decide) (by_codes hp by3 few3), fun h => (by_codes hp by3 few3 h).1⟩
 ·cases hb
theorem good2 (p k : Nat) (hp : p ≤ 2) (hk : k ≤ 1) : ∀ b ∈ [b1, b2, b3], (cf p k).code = 1 → 2 ≤ (Srt.firstP (Blk.hst l5 (Blk.toksP l5 (cf p k) b))).length := by
 intro b hb hc
 obtain rfl : k = 1 := hc
 rcases List.mem_cons.1 hb with rfl | hb
 ·rw [three hp by1]; exact few1.1.2
 rcases List.mem_cons.1 hb with rfl | hb
 ·rw [three hp by2]; exact few2.1.2
 rcases List.mem_cons.1 hb with rfl | hb
 ·rw [three hp by3]; exact few3.1.2
 ·cases hb
theorem good40 : BlkGood l5 c40 text := blk_good ok5 c40 c40_ok text (by decide) (by show 35 ≤ 40; decide) (fun h => absurd h (by decide))
/-- The stream, and what is read of it. -/
def sk (p k : Nat) : ByteArray := strm l5 (cf p k) [b1, b2, b3]
theorem sk_size (p k : Nat) : (sk p k).size ≤ 1000 := by
 have h := (strm_size l5 (cf p k) [b1, b2, b3]).1
 rw [cat123] at h
 show (strm l5 (cf p k) [b1, b2, b3]).size ≤ 1000
 have : text.size = 35 := rfl
 have : [b1, b2, b3].length = 3 := rfl
 omega
theorem sk_read (p k : Nat) (hp : p ≤ 2) (hk : k ≤ 1) : (run (env l5) (add d0 (sk p k))).1 = text ∧ (run (env l5) (add d0 (sk p k))).2.err = none ∧ (run (env l5) (add d0 (sk p k))).2.done = true := by
 obtain ⟨d', h1, h2, h3, _⟩ := run_stream l5 (cf p k) ok5.1 (cf_ok p k hp hk) [b1, b2, b3] (fun b hb => (good123 p k hp hk b hb).1)
 have h : run (env l5) (add d0 (sk p k)) = (catB [b1, b2, b3], d') := h1
 rw [h, cat123]
 exact ⟨rfl, h2, h3⟩
def s40 : ByteArray := strm l5 c40 [text]
theorem s40_size : s40.size ≤ 1000 := by
 have h := (strm_size l5 c40 [text]).1
 have h2 : (catB [text]).size = 35 := rfl
 show (strm l5 c40 [text]).size ≤ 1000
 have : [text].length = 1 := rfl
 omega
theorem s40_wrong : (run (env l3) (add d0 s40)).2.err = some (6, 0) ∧ (run (env l3) (add d0 s40)).1.size = 0 := by
 have h0 : add d0 s40 = { d0 with held := s40 } := by
  unfold add
  rw [show d0.held = Co.no from rfl, no_app]
 rw [h0]
 have hn := next_head (env l3) c40.code c40.block (idD l5) (catB ([text].map (En.blockF l5 c40)) ++ endB ((catB [text]).size % 4294967296)) c40_ok.2.1 c40_ok.2.2.1 c40_ok.2.2.2.1 (id_big l5)
 rw [if_pos (show idD l5 ≠ (env l3).id from ids)] at hn
 have hr := run_step (env l3) (d := { d0 with held := s40 }) rfl
 have hn2 : next (env l3) { d0 with held := s40 } = (Co.no, false, wrong { d0 with held := s40 } 6) := hn
 rw [hn2] at hr
 dsimp only at hr
 rw [if_neg (by decide)] at hr
 rw [hr]
 exact ⟨rfl, rfl⟩
end Go.Proofs.YtfbbcfhdjhiejaaGreat.Top

/- Chapter 24, plain: all may be done to an encoder whose blocks may be written. -/
namespace Go.Proofs.YtfbbcfhdjhiejaaGreat.En
set_option linter.unusedVariables false
set_option linter.unusedSimpArgs false
open Go.RowKit Go.Proofs.YtfbbcfhdjhiejaaGreatW.PrintWords Go.Proofs.YtfbbcfhdjhiejaaGreatW.PrintMore Go.Proofs.YtfbbcfhdjhiejaaGreat.L Go.Proofs.YtfbbcfhdjhiejaaGreat.Texts Go.Proofs.YtfbbcfhdjhiejaaGreat.Dict Go.Proofs.YtfbbcfhdjhiejaaGreat.Fr
theorem split_first (bl : Nat) (h : ByteArray) (hk : bl ≤ h.size) : h.extract 0 bl ++ h.extract bl h.size = h := by
 rw [ByteArray.extract_append_extract]
 have e1 : min 0 bl = 0 := by omega
 have e2 : max bl h.size = h.size := by omega
 rw [e1, e2, ByteArray.extract_zero_size]
theorem block_mem (bl : Nat) (hb : 1 ≤ bl) (os : List OpR) : ∀ (k : Nat) (h : ByteArray), (k + 1) * bl ≤ h.size → h.extract (k * bl) ((k + 1) * bl) ∈ De.blks bl (piecesP h os)
 | k, h, hk => by
   have hle : bl ≤ h.size := by
    have : 1 * bl ≤ (k + 1) * bl := Nat.mul_le_mul_right bl (by omega)
    omega
   have hu : (h.extract 0 bl).size = bl := by rw [ByteArray.size_extract]; omega
   have hz : (h.extract bl h.size).size = h.size - bl := by rw [ByteArray.size_extract]; omega
   have h1 := blks_ahead bl hb (h.extract 0 bl) hu os (h.extract bl h.size)
   rw [split_first bl h hle] at h1
   rw [h1]
   cases k with
   | zero => rw [Nat.zero_mul, Nat.zero_add, Nat.one_mul]; exact List.mem_cons_self
   | succ k =>
     have e1 : bl + k * bl = (k + 1) * bl := by rw [Nat.add_mul]; omega
     have e2 : bl + (k + 1) * bl = (k + 1 + 1) * bl := by rw [Nat.add_mul (k + 1)]; omega
     have ih := block_mem bl hb os k (h.extract bl h.size) (by omega)
     rw [ByteArray.extract_extract, e1, e2, Nat.min_eq_left hk] at ih
     exact List.mem_cons_of_mem _ ih
theorem held_mem (bl : Nat) (hb : 1 ≤ bl) (h : ByteArray) (h0 : h.size ≠ 0) (hs : h.size ≤ bl) : h ∈ De.cuts bl h := by
 rw [cuts_small bl hb h hs, if_neg h0]
 exact List.mem_cons_self
theorem okO_of (l : List ByteArray) (c : Blk.Cf) (hb : 1 ≤ c.block) (hbl : c.block ≤ 1024) : ∀ (os : List OpR) (d : ES), d.c = c → d.held.size < c.block → d.held.size ≤ d.written → d.written + sizeO os ≤ 1000000 → (∀ b ∈ De.blks c.block (piecesP d.held os), BlkOk l c b) → okO l d (os ++ [(3, ⟨#[]⟩)])
 | [], d, hc, hs, hw, ht, hbk => by
   refine ⟨fun h => absurd h (by decide), fun h => absurd h (by decide), fun _ h0 => ?_, fun h => absurd rfl h.2.2⟩
   have hm : d.held ∈ De.blks c.block (piecesP d.held []) := by
    show d.held ∈ De.cuts c.block d.held ++ []
    rw [List.append_nil]
    exact held_mem c.block hb d.held h0 (by omega)
   have := De.block_size l d.c d.held
   rw [hc] at this ⊢
   exact ⟨hbk _ hm, by omega⟩
 | o :: os, d, hc, hs, hw, ht, hbk => by
   unfold piecesP at hbk
   unfold sizeO at ht
   refine ⟨fun h1 => ?_, fun h2 => ?_, fun h3 => ?_, fun hn => ?_⟩
   ·rw [if_pos h1] at hbk ht
    have hz : (d.held ++ o.2).size = d.held.size + o.2.size := ByteArray.size_append ..
    refine ⟨fun k hk => ?_, by omega, by omega, ?_⟩
    ·rw [hc] at hk ⊢
     have hm := block_mem c.block hb os k (d.held ++ o.2) hk
     have := De.block_size l c ((d.held ++ o.2).extract (k * c.block) ((k + 1) * c.block))
     have hz2 : ((d.held ++ o.2).extract (k * c.block) ((k + 1) * c.block)).size ≤ (d.held ++ o.2).size := by rw [ByteArray.size_extract]; omega
     exact ⟨hbk _ hm, by have := (hbk _ hm).2.1; omega⟩
    ·obtain ⟨fs, f1, f2, f3⟩ := drain_blks l c hb os ((d.held ++ o.2).size + 1) (d.held ++ o.2) (Nat.lt_succ_self _)
     have hh : (wrote l d o.2).held = (drain l c ((d.held ++ o.2).size + 1) (d.held ++ o.2)).2 := by show (drainA l d.c _).2 = _; rw [hc]; rfl
     refine okO_of l c hb hbl os (wrote l d o.2) hc (by rw [hh]; exact f3) ?_ (by show d.written + o.2.size + _ ≤ _; omega) (fun b hb2 => hbk b ?_)
     ·rw [hh]
      have h5 := drain_le l c ((d.held ++ o.2).size + 1) (d.held ++ o.2)
      show _ ≤ d.written + o.2.size
      omega
     ·rw [f2]
      rw [hh] at hb2
      exact List.mem_append_right _ hb2
   ·have h1 : ¬ o.1 = 1 := by omega
    rw [if_neg h1, if_pos h2] at hbk ht
    refine ⟨fun h0 => ?_, ?_⟩
    ·have hm : d.held ∈ De.blks c.block (d.held :: piecesP Co.no os) := List.mem_append_left _ (held_mem c.block hb d.held h0 (by omega))
     have := De.block_size l d.c d.held
     rw [hc] at this ⊢
     exact ⟨hbk _ hm, by omega⟩
    ·exact okO_of l c hb hbl os (flushed d) hc (by show 0 < _; omega) (by show 0 ≤ _; omega) ht (fun b hb2 => hbk b (List.mem_append_right _ hb2))
   ·have h1 : ¬ o.1 = 1 := by omega
    have h2 : ¬ o.1 = 2 := by omega
    rw [if_neg h1, if_neg h2, if_pos h3] at hbk
    intro h0
    have hm : d.held ∈ De.blks c.block [d.held] := List.mem_append_left _ (held_mem c.block hb d.held h0 (by omega))
    have := De.block_size l d.c d.held
    rw [hc] at this ⊢
    exact ⟨hbk _ hm, by omega⟩
   ·rw [if_neg hn.1, if_neg hn.2.1, if_neg hn.2.2] at hbk ht
    exact okO_of l c hb hbl os d hc hs hw ht hbk
where
 drain_le (l : List ByteArray) (c : Blk.Cf) : ∀ (n : Nat) (h : ByteArray), (drain l c n h).2.size ≤ h.size
  | 0, h => Nat.le_refl _
  | n + 1, h => by
    unfold drain
    split
    ·have := drain_le l c n (h.extract c.block h.size)
     have hz : (h.extract c.block h.size).size ≤ h.size := by rw [ByteArray.size_extract]; omega
     exact Nat.le_trans this hz
    ·exact Nat.le_refl _
end Go.Proofs.YtfbbcfhdjhiejaaGreat.En

/- The piece of all that matters: the walk. -/
namespace Go.Proofs.YtfbbcfhdjhiejaaGreat.Top
set_option linter.unusedVariables false
set_option linter.unusedSimpArgs false
open Go.RowKit Go.Proofs.YtfbbcfhdjhiejaaGreatW.PrintWords Go.Proofs.YtfbbcfhdjhiejaaGreatW.PrintMore Go.Proofs.YtfbbcfhdjhiejaaGreat.L Go.Proofs.YtfbbcfhdjhiejaaGreat.Texts Go.Proofs.YtfbbcfhdjhiejaaGreat.Dict Go.Proofs.YtfbbcfhdjhiejaaGreat.Fr Go.Proofs.YtfbbcfhdjhiejaaGreat.De
theorem lit_ops3 (w : World) (e : Nat) (a b c : En.OpR) : En.OpK.C (w.alloc (.cells #[.int .i64 a.1, .string a.2, .int .i64 b.1, .string b.2, .int .i64 c.1, .string c.2] e (0, 0))) (some ⟨w.heap.size, 0, none⟩) 3 [a, b, c] := by
 refine ⟨rfl, by decide, fun _ => ⟨_, rfl, fun j p hj => ?_⟩⟩
 have hc : ∀ (i : Nat) (u : Value), (#[Value.int .i64 a.1, .string a.2, .int .i64 b.1, .string b.2, .int .i64 c.1, .string c.2] : Array Value)[i]? = some u → (w.alloc (.cells #[.int .i64 a.1, .string a.2, .int .i64 b.1, .string b.2, .int .i64 c.1, .string c.2] e (0, 0))).cell? ⟨w.heap.size, i, none⟩ = some u := by
  intro i u hu
  have := heap_alloc_self w (.cells #[.int .i64 a.1, .string a.2, .int .i64 b.1, .string b.2, .int .i64 c.1, .string c.2] e (0, 0))
  simp only [World.cell?, this]
  exact hu
 have hj3 : j < 3 := by
  have := (List.getElem?_eq_some_iff.1 hj).1
  simpa using this
 refine ⟨En.encO p, rfl, En.op_K.2 rfl, fun i u hu => ?_⟩
 have hi2 : i < 2 := by
  have := (List.getElem?_eq_some_iff.1 hu).1
  simpa [En.encO] using this
 have had : (⟨w.heap.size, 0, none⟩ : Addr).add (j * En.OpK.sz + i) = ⟨w.heap.size, j * 2 + i, none⟩ := by
  rw [show En.OpK.sz = 2 from rfl]
  unfold Addr.add
  split
  ·rename_i h0; rw [h0]
  ·simp
 rw [had]
 apply hc
 obtain rfl | rfl | rfl : j = 0 ∨ j = 1 ∨ j = 2 := by omega
 all_goals
  simp at hj
  subst hj
  obtain rfl | rfl : i = 0 ∨ i = 1 := by omega
  all_goals exact hu
/-- What is asked of the document's lengths. -/
def LensAll : Prop := ∀ ts : List Int, Blk.CodesOk l5 ts → 2 ≤ (Srt.firstP (Blk.hst l5 ts)).length → ts.length ≤ 1024 → Blk.LensTold (256 + l5.length) (Blk.hst l5 ts) (Blk.lns l5 ts)
theorem refok {hL : LensAll} (p k : Nat) (hp : p ≤ 2) (hk : k ≤ 1) : ∀ b ∈ [b1, b2, b3], Both l5 (cf p k) b := by
 intro b hb
 obtain ⟨h1, h2⟩ := good123 p k hp hk b hb
 have hz : b.size ≤ 1024 := by have := h1.1.2.1; have : (cf p k).block = 20 := rfl; omega
 refine ⟨h1.1, fun hc => ⟨h2 hc, hL _ (h2 hc) (good2 p k hp hk b hb hc) ?_⟩⟩
 have := (Blk.toks_all ok5 (cf p k) (cf_ok p k hp hk) b h1.1.1 hz).1
 omega
theorem ops_ok (p k : Nat) (hp : p ≤ 2) (hk : k ≤ 1) : En.okO l5 (En.e0 (cf p k)) ([(1, b1), (2, Co.no), (1, b23)] ++ [(3, ⟨#[]⟩)]) := by
 have hp2 : En.piecesP Co.no [((1 : Int), b1), (2, Co.no), (1, b23)] = [b1, b23] := by
  rw [En.piecesP, if_pos rfl, En.piecesP, if_neg (by decide), if_pos rfl, En.piecesP, if_pos rfl, En.piecesP, Co.no_app, Co.no_app]
 refine En.okO_of l5 (cf p k) (by show 1 ≤ 20; decide) (by show 20 ≤ 1024; decide) [(1, b1), (2, Co.no), (1, b23)] (En.e0 (cf p k)) rfl (by show 0 < 20; decide) (Nat.le_refl _) ?_ (fun b hb => ?_)
 ·rw [En.sizeO, if_pos rfl, En.sizeO, if_neg (by decide), if_pos rfl, En.sizeO, if_pos rfl, En.sizeO]
  show 0 + (7 + (28 + 0)) ≤ 1000000
  decide
 ·have hb2 : b ∈ blks 20 (En.piecesP Co.no [((1 : Int), b1), (2, Co.no), (1, b23)]) := hb
  rw [hp2, blks20] at hb2
  exact (good123 p k hp hk b hb2).1.1
theorem ops_strm (p k : Nat) : En.runO l5 (En.e0 (cf p k)) ([(1, b1), (2, Co.no), (1, b23)] ++ [(3, ⟨#[]⟩)]) = sk p k := by
 have hp2 : En.piecesP Co.no [((1 : Int), b1), (2, Co.no), (1, b23)] = [b1, b23] := by
  rw [En.piecesP, if_pos rfl, En.piecesP, if_neg (by decide), if_pos rfl, En.piecesP, if_pos rfl, En.piecesP, Co.no_app, Co.no_app]
 have h := En.runO_all l5 (cf p k) (by show 1 ≤ 20; decide) [(1, b1), (2, Co.no), (1, b23)]
 rw [h, hp2]
 show strm l5 (cf p k) (blks 20 [b1, b23]) = _
 rw [blks20]
 rfl
set_option maxRecDepth 100000 in
set_option maxHeartbeats 8000000 in
theorem works_any (hL : LensAll) (w : World) : Calls Tryz.prog 13 #[] w fun e w' => e = .returned (.bool true) ∧ Below w.heap.size w w' := by
 have HL := Lib.hid hL
 clear hL
 go_enter Tryz.func13, Tryz.ntmps13
 go_wp2_with (fail)
 have HLT := Lib.hid (lit_texts w 9 l5 (by decide))
 refine (make_any (some ⟨w.heap.size, 0, none⟩) 5 5 l5 _ HLT.out ok5).mono ?_
 rintro e w1 ⟨hb1, db, rfl, hd1⟩
 have HT1 := Lib.hid (show KS.C w1 (some ⟨w.heap.size, 0, none⟩) 5 l5 from Kd.C_below HLT.out hb1)
 have HB1 := Lib.hid (bel_on (Fa.bel_alloc w _) hb1)
 have HD1 := Lib.hid hd1
 clear hb1 hd1 HLT
 go_wp2_with ((with_reducible refine gate_dst (N := 24) rfl ?_); apply stopper)
 unfold Stopper
 generalize hT : (⟨#[97, 98, 114, 97, 99, 97, 100, 97, 98, 114, 97, 32, 97, 98, 114, 97, 99, 97, 100, 97, 98, 114, 97, 32, 99, 97, 100, 97, 98, 114, 97, 32, 120, 121, 122]⟩ : ByteArray) = T
 have hT2 : T = text := hT.symm
 clear hT
 subst hT2
 have hx1 : text.extract 0 7 = b1 := cut7.1
 have hx2 : text.extract 7 text.size = b23 := cut7.2
 have hts : (7 : Int) ≤ (text.size : Int) := by decide
 refine Kd.R_make Ints.KI (w0 := w1) w1.heap.size 3 rfl (N := 24) rfl 26 _ _ rfl 200 rfl rfl Tryz.underlying26 (.int .i64 0) 8 Ints.infoInt rfl (by decide) (by omega) 0 (ok := fun _ => True) (okp := fun _ => True) ?mM (fun _ hk => hk) trivial (by omega) ?mL (Below.refl _ _) (Nat.le_refl _) ?_
 case mM => exact rfl
 case mL => omega
 intro v1 w2 hr hb hg hat
 obtain ⟨A1, c1, rfl⟩ := Kd.R_slice hr
 rw [show (List.replicate (200 : Int).toNat (0 : Int)).length = 200 from rfl] at hr ⊢
 have HR1 := Lib.hid hr
 have HB2 := Lib.hid hb
 clear hr hb hg hat
 go_wp2_with (fail)
 go_loopg [27] 200 (fun j i wr => ∃ k : Nat, k + j = 200 ∧ i = .int .i64 k ∧ Hid ((∃ xs : List Int, xs.length = 200 ∧ Ints.KI.R 3 wr w1.heap.size (fun _ => True) (.slice A1 200 c1) xs) ∧ Below w1.heap.size w1 wr))
 case atStart => exact ⟨0, by omega, rfl, ⟨_, rfl, HR1.out⟩, HB2.out⟩
 case round =>
  obtain ⟨k, hk, rfl, HI⟩ := hrel
  obtain ⟨⟨xs, hxl, hr⟩, hb⟩ := HI.out
  by_cases hlt : k < 200
  ·obtain ⟨g, cap, hv, hge, hgl, cells, hcell⟩ := Kd.R_form hr (by omega)
   rw [hxl] at hv
   injection hv with hv1 hv2 hv3
   subst hv1 hv3
   have hr' := hr
   rw [← hxl] at hr'
   have i0 : (0 : Int) ≤ (k : Int) := by omega
   have i1 : (k : Int) < 200 := by omega
   have i2 : ((k : Int)).toNat = k := by omega
   obtain ⟨y0, y1⟩ := Kd.R_cell (enc := Value.int .i64) (h1 := fun _ => rfl) (0 : Int) hr' (k : Int) i0 (by rw [hxl]; exact i1)
   obtain ⟨p0, p1⟩ := Kd.R_put (enc := Value.int .i64) (h1 := fun _ => rfl) hr' (k : Int) 1
   rw [hxl] at p0
   rw [i2] at p0 p1 y0 y1
   have P0 := Lib.hid p0
   have HBW := Lib.hid (hb.grown p1 hb.size (fun q hq => by
    injection hq with hq
    omega))
   have HXL := Lib.hid (show (xs.set k 1).length = 200 by rw [List.length_set, hxl])
   have HKK := Lib.hid hk
   clear hr hr' hb HI p0 p1 hcell hge hgl hk hxl
   go_wp2_with (fail)
   go_roundg (200 - (k + 1))
   case measure => have := HKK.out; omega
   case rel => exact ⟨k + 1, by have := HKK.out; omega, by go_num, ⟨_, HXL.out, P0.out⟩, HBW.out⟩
  ·obtain rfl : k = 200 := by omega
   have hr9 := (Kd.R_reads' hr).2.2
   rw [hxl] at hr9
   obtain ⟨w3, hw3⟩ : ∃ x : World, x = wr := ⟨_, rfl⟩
   rw [← hw3] at hr9 hb ⊢
   have HC3 := Lib.hid hr9
   have HT3 := Lib.hid (Kd.C_below HT1.out hb)
   have HD3 := Lib.hid (HD1.out.below hb)
   have HB3 := Lib.hid (bel_on HB1.out hb)
   clear hw3 hr hb HI hk hxl hlt hr9 HR1 HB1 HB2 HT1 HD1
   go_wp2_with (fail)
   go_loopg [6] 3 (fun j i wr => ∃ p : Nat, p + j = 3 ∧ i = .int .i64 p ∧ Hid (Below w3.heap.size w3 wr))
   case atStart => exact ⟨0, by omega, rfl, Below.refl _ _⟩
   case round =>
    obtain ⟨p, hp, rfl, HI⟩ := hrel
    have HBP := Lib.hid HI.out
    obtain ⟨w4, hw4⟩ : ∃ x : World, x = wr := ⟨_, rfl⟩
    rw [← hw4] at HBP ⊢
    clear hw4 HI
    have HPJ := Lib.hid hp
    by_cases hlt : p < 3
    ·have hp2 : (p : Int) ≤ 2 := by omega
     have HPP := Lib.hid (show p ≤ 2 by omega)
     clear hp hlt
     go_wp2_with (fail)
     go_loopg [7] 2 (fun j i wr => ∃ k : Nat, k + j = 2 ∧ i = .int .i64 k ∧ Hid (Below w3.heap.size w3 wr))
     case atStart => exact ⟨0, by omega, rfl, HBP.out⟩
     case round =>
      obtain ⟨k, hk, rfl, HI⟩ := hrel
      have HBK := Lib.hid HI.out
      have HKJ := Lib.hid hk
      by_cases hlt : k < 2
      ·have hk1 : (k : Int) ≤ 1 := by omega
       have HKK := Lib.hid (show k ≤ 1 by omega)
       have HCV := Lib.hid (show (cf p k).val = .agg #[.int .i64 p, .int .i64 k, .int .i64 20, .int .i64 20] from rfl)
       have HEN := Lib.hid (fun (W : World) (A : Option Addr) (cc : Nat) (hD : DC W db l5) (hA : En.OpK.C W A 3 [(1, b1), (2, Co.no), (1, b23)]) => En.encode24 db l5 (cf p k) A 3 cc [(1, b1), (2, Co.no), (1, b23)] W hD ok5 (cf_ok p k HPP.out HKK.out) hA (by decide) (ops_ok p k HPP.out HKK.out) (by rw [ops_strm]; have := sk_size p k; omega))
       rw [ops_strm, HCV.out] at HEN
       obtain ⟨r1, r2, r3⟩ := sk_read p k HPP.out HKK.out
       have HFE := Lib.hid (fun (W : World) (A : Option Addr) (cc : Nat) (hD : DC W db l5) (hC : Ints.KI.C W A 200 xs) => feed_all db l5 (sk p k) A 200 cc xs W hD ok5 hC (by have := sk_size p k; omega) (by decide) r2 r3)
       rw [r1] at HFE
       have HRE := Lib.hid (fun (W : World) (A P : Option Addr) (cc c2 : Nat) (hcc : 5 ≤ cc) (hL : KS.C W A 5 l5) (hP : KS.C W P 2 [b1, b23]) => ref_encode A P cc 2 c2 l5 (cf p k) [b1, b23] W hL hcc ok5 (cf_ok p k HPP.out HKK.out) (by show 20 ≤ 400; decide) hP (by decide) (by decide) (by
        intro b hb
        have hb2 : b ∈ blks 20 [b1, b23] := hb
        rw [blks20] at hb2
        exact refok (hL := HL.out) p k HPP.out HKK.out b hb2) (by
        show (strm l5 (cf p k) (blks 20 [b1, b23])).size ≤ _
        rw [blks20]
        have := sk_size p k
        have h9 : (sk p k) = strm l5 (cf p k) [b1, b2, b3] := rfl
        rw [h9] at this
        omega))
       have hsk : strm l5 (cf p k) (blks (cf p k).block [b1, b23]) = sk p k := by
        show strm l5 (cf p k) (blks 20 [b1, b23]) = _
        rw [blks20]
        rfl
       rw [hsk, HCV.out] at HRE
       obtain ⟨S, hS⟩ : ∃ S, sk p k = S := ⟨_, rfl⟩
       rw [hS] at HEN HFE HRE
       clear hk HI hlt r1 r2 r3 hsk hS HCV
       go_upto_region 19 with (fail)
       obtain ⟨W4, hW4⟩ : ∃ W, W = wr.alloc (.cells #[.int .i64 p, .int .i64 k, .int .i64 20, .int .i64 20] 24 (0, 0)) := ⟨_, rfl⟩
       rw [← hW4]
       have HB4 := Lib.hid (show Below w3.heap.size w3 W4 by rw [hW4]; exact HBK.out.alloc HBK.out.size _)
       have hblk : W4.heap[wr.heap.size]? = some (.cells #[.int .i64 p, .int .i64 k, .int .i64 20, .int .i64 20] 24 (0, 0)) := by rw [hW4]; exact heap_alloc_self wr _
       have HK4 := Lib.hid (show ∀ W' : World, Below W4.heap.size W4 W' → (W'.cell? ⟨wr.heap.size, 0, none⟩ = some (.int .i64 p) ∧ W'.cell? ⟨wr.heap.size, 1, none⟩ = some (.int .i64 k) ∧ W'.cell? ⟨wr.heap.size, 2, none⟩ = some (.int .i64 20) ∧ W'.cell? ⟨wr.heap.size, 3, none⟩ = some (.int .i64 20)) from fun W' hb => Blk.four ((hb.block _ (blk_lt hblk)).trans hblk))
       obtain ⟨k0, k1, k2, k3⟩ := HK4.out _ (Below.refl _ W4)
       have xa := fun o : Obj => (HK4.out (W4.alloc o) (Fa.bel_alloc W4 o)).1
       have xb := fun o : Obj => (HK4.out (W4.alloc o) (Fa.bel_alloc W4 o)).2.1
       have xc := fun o : Obj => (HK4.out (W4.alloc o) (Fa.bel_alloc W4 o)).2.2.1
       have xd := fun o : Obj => (HK4.out (W4.alloc o) (Fa.bel_alloc W4 o)).2.2.2
       have HLA := Lib.hid (show En.OpK.C (W4.alloc (.cells #[.int .i64 1, .string b1, .int .i64 2, .string ⟨#[]⟩, .int .i64 1, .string b23] 58 (0, 0))) (some ⟨W4.heap.size, 0, none⟩) 3 [(1, b1), (2, Co.no), (1, b23)] from lit_ops3 W4 58 (1, b1) (2, Co.no) (1, b23))
       have HLB := Lib.hid (show En.OpK.C (W4.alloc (.cells #[.int .i64 1, .string b1, .int .i64 2, .string ⟨#[]⟩, .int .i64 1, .string b23] 58 (0, 0))).drew (some ⟨W4.heap.size, 0, none⟩) 3 [(1, b1), (2, Co.no), (1, b23)] from Kd.C_drew HLA.out)
       clear hblk hW4
       go_cut [9, 10] (fun v9 v10 wc => v9 = .string S ∧ v10 = .bool true ∧ Hid (Below W4.heap.size W4 wc))
       case first =>
        go_region_law (first
         | (go_simp; go_at_call 16; (with_reducible refine Calls.mono (HEN.out _ _ _ (HD3.out.below (bel_on HB4.out (by first | exact (Fa.bel_alloc W4 _).drew | exact Fa.bel_alloc W4 _))) (by first | exact HLB.out | exact HLA.out)) ?_); rintro e w7 ⟨rfl, hb7⟩; have HB7 := Lib.hid (bel_on (show Below W4.heap.size W4 _ from (by first | exact (Fa.bel_alloc W4 _).drew | exact Fa.bel_alloc W4 _)) hb7); clear hb7))
        all_goals
         go_wp2_with (fail)
         go_meet
         case rel => exact ⟨rfl, rfl, HB7.out⟩
       case rest =>
        obtain ⟨rfl, rfl, HX⟩ := hcut
        rename World => W5
        have HBX := Lib.hid (bel_on HB4.out HX.out)
        obtain ⟨k0, k1, k2, k3⟩ := HK4.out _ HX.out
        clear xa xb xc xd
        go_wp2_with (fail)
        refine (HFE.out _ A1 c1 (HD3.out.below HBX.out) (Kd.C_below HC3.out HBX.out)).mono ?_
        rintro e w6 ⟨rfl, hb6⟩
        have HX6 := Lib.hid (bel_on HX.out hb6)
        have HBX6 := Lib.hid (bel_on HB4.out HX6.out)
        obtain ⟨k0, k1, k2, k3⟩ := HK4.out _ HX6.out
        have xa := fun o : Obj => (HK4.out (w6.alloc o) (bel_on HX6.out (Fa.bel_alloc w6 o))).1
        have xb := fun o : Obj => (HK4.out (w6.alloc o) (bel_on HX6.out (Fa.bel_alloc w6 o))).2.1
        have xc := fun o : Obj => (HK4.out (w6.alloc o) (bel_on HX6.out (Fa.bel_alloc w6 o))).2.2.1
        have xd := fun o : Obj => (HK4.out (w6.alloc o) (bel_on HX6.out (Fa.bel_alloc w6 o))).2.2.2
        clear hb6
        go_upto_region 21 with (fail)
        have HPA := Lib.hid (show KS.C (w6.alloc (.cells #[.string b1, .string b23] 9 (0, 0))) (some ⟨w6.heap.size, 0, none⟩) 2 [b1, b23] from lit_texts w6 9 [b1, b23] (by decide))
        have HPB := Lib.hid (show KS.C (w6.alloc (.cells #[.string b1, .string b23] 9 (0, 0))).drew (some ⟨w6.heap.size, 0, none⟩) 2 [b1, b23] from Kd.C_drew HPA.out)
        have HTA := Lib.hid (show KS.C (w6.alloc (.cells #[.string b1, .string b23] 9 (0, 0))) (some ⟨w.heap.size, 0, none⟩) 5 l5 from Kd.C_below HT3.out (bel_on HBX6.out (Fa.bel_alloc w6 _)))
        have HTB := Lib.hid (show KS.C (w6.alloc (.cells #[.string b1, .string b23] 9 (0, 0))).drew (some ⟨w.heap.size, 0, none⟩) 5 l5 from Kd.C_drew HTA.out)
        have HB := Lib.hid (Below.refl w6.heap.size w6)
        have hneq : (S.toList == S.toList) = true := by simp
        go_region_held3 (fun w' => w'.cell? ⟨wr.heap.size, 0, none⟩ = some (.int .i64 p) ∧ w'.cell? ⟨wr.heap.size, 1, none⟩ = some (.int .i64 k) ∧ w'.cell? ⟨wr.heap.size, 2, none⟩ = some (.int .i64 20) ∧ w'.cell? ⟨wr.heap.size, 3, none⟩ = some (.int .i64 20)) (first | exact ⟨k0, k1, k2, k3⟩ | exact HK4.out _ (bel_on HX6.out HB.out) | exact HK4.out _ (bel_on HX6.out (below_drew HB.out)) | exact ⟨xa _, xb _, xc _, xd _⟩ | go_keep)
         (first
          | (go_at_call 42; (with_reducible refine Calls.mono (HRE.out _ _ _ _ _ (Nat.le_refl 5) (by first | exact HTB.out | exact HTA.out) (by first | exact HPB.out | exact HPA.out)) ?_); rintro e w8 ⟨rfl, hb8⟩; have HB8 := Lib.hid (bel_on (show Below w6.heap.size w6 _ from (by first | exact (Fa.bel_alloc w6 _).drew | exact Fa.bel_alloc w6 _)) hb8); clear HB k0 k1 k2 k3 hb8; have HB := HB8; obtain ⟨k0, k1, k2, k3⟩ := HK4.out _ (bel_on HX6.out HB8.out); clear HB8))
        have HB9 := Lib.hid (bel_on HBX6.out HB.out)
        clear HB k0 k1 k2 k3 xa xb xc xd
        go_wp2_with (fail)
        go_roundg (2 - (k + 1))
        case measure => have := HKJ.out; have := HKK.out; omega
        case rel => exact ⟨k + 1, by have := HKJ.out; have := HKK.out; omega, by go_num, HB9.out⟩
      ·have hk2 : k = 2 := by omega
       subst hk2
       have hlt9 : ¬ (((2 : Nat) : Int) ≤ 1) := by decide
       clear hk HI hlt
       go_wp2_with (fail)
       go_roundg (3 - (p + 1))
       case measure => have := HPJ.out; have := HPP.out; omega
       case rel => exact ⟨p + 1, by have := HPJ.out; have := HPP.out; omega, by go_num, HBK.out⟩
    ·have hp2 : p = 3 := by omega
     subst hp2
     have hlt9 : ¬ (((3 : Nat) : Int) ≤ 2) := by decide
     clear hp hlt
     have HE40 := Lib.hid (fun W (hD : DC W db l5) => En.encode_any db l5 c40 text W hD ok5 c40_ok (fun k hk => by
      exfalso
      have h1 : (k + 1) * 40 ≤ 35 := hk
      omega) (by decide) (by
      rw [En.drain_end l5 c40 text (by decide)]
      intro _
      have := block_size l5 c40 text
      have h35 : text.size = 35 := rfl
      exact ⟨good40.1, by dsimp only; omega⟩))
     have hs40 : En.allB l5 c40 text = s40 := by
      rw [En.allB_strm l5 c40 (by decide) text]
      show strm l5 c40 (cuts 40 text) = _
      rw [cuts40]
      rfl
     have hcv : c40.val = .agg #[.int .i64 0, .int .i64 0, .int .i64 40, .int .i64 40] := rfl
     rw [hs40, hcv] at HE40
     have HDE := Lib.hid (fun (W : World) (b2 : Nat) (hD : DC W b2 l3) => decode_err b2 l3 s40 6 0 W hD ok3 (by have := s40_size; omega) s40_wrong.1 (by decide) (by have := s40_wrong.2; omega))
     obtain ⟨S4, hS4⟩ : ∃ S, s40 = S := ⟨_, rfl⟩
     rw [hS4] at HE40 HDE
     have hcut : ∀ W : World, (Instr.slice 22 (.slice (some ⟨w.heap.size, 0, none⟩) 5 5) none (some (.int .i64 3)) none).run Tryz.prog W = .ok (.slice (some ⟨w.heap.size, 0, none⟩) 3 5) W := by
      intro W
      obtain ⟨i0, hi, hz⟩ := Option.map_eq_some_iff.1 infoStr
      have := cut_to (P := Tryz.prog) 22 9 .i64 Tryz.underlying22 hi (some ⟨w.heap.size, 0, none⟩) 5 5 3 (by decide) (by decide) (by decide) W
      exact this
     have q1 := eql_nil
     have e1 : Co.no.toList.isEmpty = true := En.empty_list rfl
     clear hs40 hcv hS4
     go_wp2_with (fail)
     refine (HE40.out _ (HD3.out.below HBP.out)).mono ?_
     rintro e w5 ⟨rfl, hb5⟩
     have HB5 := Lib.hid (bel_on HBP.out hb5)
     clear hb5
     go_wp2_with (fail)
     refine (make_any (some ⟨w.heap.size, 0, none⟩) 3 5 l3 _ (show KS.C w5 (some ⟨w.heap.size, 0, none⟩) 3 l3 from Kd.C_take (m := 3) (show KS.C w5 (some ⟨w.heap.size, 0, none⟩) l5.length l5 from Kd.C_below HT3.out HB5.out) (by decide)) ok3).mono ?_
     rintro e w6 ⟨hb6, db2, rfl, hd6⟩
     have HB6 := Lib.hid (bel_on HB5.out hb6)
     have HD6 := Lib.hid hd6
     clear hb6 hd6
     go_wp2_with (fail)
     refine (HDE.out _ db2 HD6.out).mono ?_
     rintro e w7 ⟨rfl, hb7⟩
     have HB7 := Lib.hid (bel_on HB6.out hb7)
     clear hb7
     have HTO := Lib.hid (fun W => Fa.told_same 6 0 W (by decide))
     rw [show Fa.errV (some ((6 : Int), 0)) = .iface 105 (.agg #[.int .i64 6, .int .i64 0]) from rfl] at HTO ⊢
     go_wp2_with (fail)
     refine (HTO.out _).mono ?_
     rintro e w8 ⟨rfl, hb8⟩
     have HB8 := Lib.hid (bel_on HB3.out (bel_on HB7.out hb8))
     clear hb8
     go_wp2_with (fail)
     go_ret
     exact ⟨rfl, HB8.out⟩
end Go.Proofs.YtfbbcfhdjhiejaaGreat.Top

/- Chapter 18, plain: coins put in at their places, lists that are merged: the document's own way to the same lists. -/
namespace Go.Proofs.YtfbbcfhdjhiejaaGreat.Srt
set_option linter.unusedVariables false
set_option linter.unusedSimpArgs false
open Go.RowKit Go.Proofs.YtfbbcfhdjhiejaaGreatW.PrintWords Go.Proofs.YtfbbcfhdjhiejaaGreatW.PrintMore Go.Proofs.YtfbbcfhdjhiejaaGreat.L Go.Proofs.YtfbbcfhdjhiejaaGreat.Ints Go.Shelf Go.Lib Go.Sort
theorem sink_pass {α : Type} (lt : α → α → Bool) (x : α) : ∀ P Q : List α, (∀ y ∈ P, lt x y = true) → sink lt x (P ++ Q) = P ++ sink lt x Q
 | [], Q, _ => rfl
 | y :: P, Q, h => by
   show sink lt x (y :: (P ++ Q)) = y :: (P ++ sink lt x Q)
   rw [sink, if_pos (h y (by simp)), sink_pass lt x P Q (fun z hz => h z (by simp [hz]))]
theorem sink_stop {α : Type} (lt : α → α → Bool) (x : α) (Q : List α) (h : ∀ y t, Q = y :: t → lt x y = false) : sink lt x Q = x :: Q := by
 cases Q with
 | nil => rfl
 | cons y t => rw [sink, if_neg (by rw [h y t rfl]; decide)]
theorem stabR_snoc {α : Type} (lt : α → α → Bool) (x : α) : ∀ (l r : List α), stabR lt r (l ++ [x]) = sink lt x (stabR lt r l)
 | [], r => rfl
 | y :: l, r => stabR_snoc lt x l (sink lt y r)
theorem stabR_app {α : Type} (lt : α → α → Bool) : ∀ (l m r : List α), stabR lt r (l ++ m) = stabR lt (stabR lt r l) m
 | [], m, r => rfl
 | y :: l, m, r => stabR_app lt l m (sink lt y r)
theorem stab_snoc {α : Type} (lt : α → α → Bool) (x : α) (l : List α) : stab lt (l ++ [x]) = (sink lt x (stab lt l).reverse).reverse := by
 unfold stab
 rw [stabR_snoc, List.reverse_reverse]
/-- A coin put in at its place. -/
theorem ins_at (acc : List Pc) (x z : Pc) (k : Nat) (hk : k ≤ acc.length) (h1 : ∀ j, k ≤ j → j < acc.length → ltP x (acc.getD j z) = true) (h2 : k = 0 ∨ ltP x (acc.getD (k - 1) z) = false) :
  (sink ltP x acc.reverse).reverse = acc.take k ++ x :: acc.drop k := by
 have e : acc.reverse = (acc.drop k).reverse ++ (acc.take k).reverse := by rw [← List.reverse_append, List.take_append_drop]
 rw [e, sink_pass ltP x _ _ (fun y hy => by
  obtain ⟨j, hj, rfl⟩ := List.getElem_of_mem (List.mem_reverse.1 hy)
  have hj2 : k + j < acc.length := by rw [List.length_drop] at hj; omega
  have := h1 (k + j) (by omega) hj2
  rw [List.getD_eq_getElem?_getD, List.getElem?_eq_getElem hj2] at this
  rw [List.getElem_drop]
  exact this)]
 rw [sink_stop ltP x _ (fun y t hy => by
  rcases h2 with rfl | h2
  ·simp at hy
  ·by_cases h0 : k = 0
   ·subst h0; simp at hy
   ·have hl : acc.take k = t.reverse ++ [y] := by
     have := congrArg List.reverse hy
     rwa [List.reverse_reverse, List.reverse_cons] at this
    have hg : (acc.take k).getD (k - 1) z = y := by
     have hll : (acc.take k).length = k := by rw [List.length_take]; omega
     rw [hl] at hll ⊢
     rw [List.length_append, List.length_reverse] at hll
     rw [List.getD_eq_getElem?_getD, List.getElem?_append_right (by rw [List.length_reverse]; simp at hll; omega)]
     have : k - 1 - t.reverse.length = 0 := by rw [List.length_reverse]; simp at hll; omega
     rw [this]
     rfl
    rw [← hg]
    rw [← h2]
    congr 1
    rw [List.getD_eq_getElem?_getD, List.getD_eq_getElem?_getD, List.getElem?_take, if_pos (by omega)])]
 simp
/-! ### in order -/
def Up (ps : List Pc) : Prop := ps.Pairwise (fun a b => a.1 ≤ b.1)
def Bnd (M : Int) (ps : List Pc) : Prop := ∀ p ∈ ps, 0 ≤ p.1 ∧ p.1 ≤ M
theorem lt_is {x y : Pc} {M : Int} (hM : M ≤ 1125899906842624) (hx : 0 ≤ x.1 ∧ x.1 ≤ M) (hy : 0 ≤ y.1 ∧ y.1 ≤ M) : ltP x y = decide (x.1 < y.1) := by
 unfold ltP
 have : wrap64 (x.1 - y.1) = x.1 - y.1 := by unfold wrap64; omega
 rw [this]
 congr 1
 apply propext
 omega
theorem sink_down {M : Int} (hM : M ≤ 1125899906842624) (x : Pc) (hx : 0 ≤ x.1 ∧ x.1 ≤ M) : ∀ r : List Pc, Bnd M r → r.Pairwise (fun a b => b.1 ≤ a.1) → (sink ltP x r).Pairwise (fun a b => b.1 ≤ a.1)
 | [], _, _ => List.pairwise_singleton _ _
 | y :: ys, hb, h => by
   obtain ⟨h1, h2⟩ := List.pairwise_cons.1 h
   rw [sink]
   split
   ·rename_i hlt
    rw [lt_is hM hx (hb y (by simp))] at hlt
    have hlt := of_decide_eq_true hlt
    refine List.pairwise_cons.2 ⟨fun z hz => ?_, sink_down hM x hx ys (fun p hp => hb p (by simp [hp])) h2⟩
    rcases sink_mem ltP x z ys hz with rfl | hz
    ·omega
    ·exact h1 z hz
   ·rename_i hlt
    rw [lt_is hM hx (hb y (by simp))] at hlt
    have hle : y.1 ≤ x.1 := by
     by_cases h9 : x.1 < y.1
     ·exact absurd (decide_eq_true h9) hlt
     ·omega
    refine List.pairwise_cons.2 ⟨fun z hz => ?_, h⟩
    rcases List.mem_cons.1 hz with rfl | hz
    ·exact hle
    ·have := h1 z hz; omega
theorem sink_bnd {M : Int} {x : Pc} (hx : 0 ≤ x.1 ∧ x.1 ≤ M) {r : List Pc} (hr : Bnd M r) : Bnd M (sink ltP x r) := fun p hp => by
 rcases sink_mem ltP x p r hp with rfl | h
 ·exact hx
 ·exact hr p h
theorem stabR_down {M : Int} (hM : M ≤ 1125899906842624) : ∀ l r : List Pc, Bnd M l → Bnd M r → r.Pairwise (fun a b => b.1 ≤ a.1) → (stabR ltP r l).Pairwise (fun a b => b.1 ≤ a.1)
 | [], r, _, _, h => h
 | x :: xs, r, hl, hr, h => stabR_down hM xs (sink ltP x r) (fun p hp => hl p (by simp [hp])) (sink_bnd (hl x (by simp)) hr) (sink_down hM x (hl x (by simp)) r hr h)
theorem stab_up {M : Int} (hM : M ≤ 1125899906842624) {l : List Pc} (hl : Bnd M l) : Up (stab ltP l) := by
 unfold Up stab
 rw [List.pairwise_reverse]
 exact stabR_down hM l [] hl (fun p hp => by cases hp) List.Pairwise.nil
theorem stab_bnd {M : Int} {l : List Pc} (hl : Bnd M l) : Bnd M (stab ltP l) := fun p hp => hl p (stab_mem ltP hp)
theorem stabR_up {M : Int} (hM : M ≤ 1125899906842624) : ∀ (f r : List Pc), Bnd M f → Bnd M r → Up (r.reverse ++ f) → stabR ltP r f = f.reverse ++ r
 | [], r, _, _, _ => rfl
 | x :: xs, r, hf, hr, h => by
   have hs : sink ltP x r = x :: r := sink_stop ltP x r (fun y t hy => by
    rw [lt_is hM (hf x (by simp)) (hr y (by rw [hy]; simp))]
    refine decide_eq_false ?_
    have h1 := (List.pairwise_append.1 h).2.2 y (by rw [hy]; simp) x (by simp)
    omega)
   show stabR ltP (sink ltP x r) xs = _
   rw [hs, stabR_up hM xs (x :: r) (fun p hp => hf p (by simp [hp])) (fun p hp => by
    rcases List.mem_cons.1 hp with rfl | hp
    ·exact hf _ (by simp)
    ·exact hr p hp) (by
    have : (x :: r).reverse ++ xs = r.reverse ++ x :: xs := by simp
    rw [this]; exact h)]
   simp
theorem tw_mem {α : Type} {q : α → Bool} {y : α} : ∀ f : List α, y ∈ f.takeWhile q → q y = true
 | [], h => by cases h
 | x :: xs, h => by
   rw [List.takeWhile_cons] at h
   split at h
   ·rename_i hx
    rcases List.mem_cons.1 h with rfl | h
    ·exact hx
    ·exact tw_mem xs h
   ·cases h
/-! ### merged -/
def mrg : List Pc → List Pc → List Pc
 | f, [] => f
 | f, p :: ps => f.takeWhile (fun y => decide (y.1 ≤ p.1)) ++ p :: mrg (f.dropWhile (fun y => decide (y.1 ≤ p.1))) ps
theorem mrg_take {y p : Pc} {f ps : List Pc} (h : y.1 ≤ p.1) : mrg (y :: f) (p :: ps) = y :: mrg f (p :: ps) := by
 unfold mrg
 rw [List.takeWhile_cons_of_pos (by simp [h]), List.dropWhile_cons_of_pos (by simp [h])]
 rfl
theorem mrg_put {p : Pc} {f ps : List Pc} (h : ∀ y t, f = y :: t → p.1 < y.1) : mrg f (p :: ps) = p :: mrg f ps := by
 cases f with
 | nil => rfl
 | cons y t =>
   have h1 := h y t rfl
   conv => lhs; unfold mrg
   rw [List.takeWhile_cons_of_neg (by simp; omega), List.dropWhile_cons_of_neg (by simp; omega)]
   rfl
theorem stabR_mrg {M : Int} (hM : M ≤ 1125899906842624) : ∀ (ps f A : List Pc), Bnd M ps → Bnd M f → Bnd M A → Up f → Up ps → (∀ a ∈ A, ∀ p ∈ ps, a.1 ≤ p.1) → (stabR ltP (A ++ f).reverse ps).reverse = A ++ mrg f ps
 | [], f, A, _, _, _, _, _, _ => by show (A ++ f).reverse.reverse = _; rw [List.reverse_reverse]; rfl
 | p :: ps, f, A, hb, hf, hA, uf, up, ha => by
   have hp := hb p (by simp)
   obtain ⟨up1, up2⟩ := List.pairwise_cons.1 up
   have hs : sink ltP p (A ++ f).reverse = (A ++ (f.takeWhile (fun y => decide (y.1 ≤ p.1)) ++ p :: f.dropWhile (fun y => decide (y.1 ≤ p.1)))).reverse := by
    obtain ⟨T, hT⟩ : ∃ T, f.takeWhile (fun y => decide (y.1 ≤ p.1)) = T := ⟨_, rfl⟩
    obtain ⟨D, hD⟩ : ∃ D, f.dropWhile (fun y => decide (y.1 ≤ p.1)) = D := ⟨_, rfl⟩
    have hTD : f = T ++ D := by rw [← hT, ← hD, List.takeWhile_append_dropWhile]
    have hTl : ∀ y ∈ T, y.1 ≤ p.1 := fun y hy => by
     rw [← hT] at hy
     exact (by have h9 := tw_mem (q := fun y : Pc => decide (y.1 ≤ p.1)) f hy; exact of_decide_eq_true h9)
    have hDg : ∀ y ∈ D, p.1 < y.1 := fun y hy => by
     cases hDD : D with
     | nil => rw [hDD] at hy; cases hy
     | cons z t =>
       have hz : ¬ (z.1 ≤ p.1) := by
        have := List.head?_dropWhile_not (p := fun y : Pc => decide (y.1 ≤ p.1)) (l := f)
        rw [hD, hDD] at this
        simpa using this
       rw [hTD, hDD] at uf
       have h1 := (List.pairwise_cons.1 (List.pairwise_append.1 uf).2.1).1
       rw [hDD] at hy
       rcases List.mem_cons.1 hy with rfl | hy
       ·omega
       ·have := h1 y hy; omega
    rw [hT, hD, hTD]
    have e : (A ++ (T ++ D)).reverse = D.reverse ++ (A ++ T).reverse := by simp
    rw [e, sink_pass ltP p _ _ (fun y hy => by
     have hy := List.mem_reverse.1 hy
     rw [lt_is hM hp (hf y (by rw [hTD]; simp [hy]))]
     exact decide_eq_true (hDg y hy)), sink_stop ltP p _ (fun y t hy => by
     have hm : y ∈ A ++ T := by
      have : y ∈ (A ++ T).reverse := by rw [hy]; simp
      exact List.mem_reverse.1 this
     rcases List.mem_append.1 hm with hm | hm
     ·rw [lt_is hM hp (hA y hm)]
      have := ha y hm p (by simp)
      exact decide_eq_false (by omega)
     ·rw [lt_is hM hp (hf y (by rw [hTD]; simp [hm]))]
      have := hTl y hm
      exact decide_eq_false (by omega))]
    simp
   show (stabR ltP (sink ltP p (A ++ f).reverse) ps).reverse = _
   have hTm : ∀ y ∈ f.takeWhile (fun y => decide (y.1 ≤ p.1)), y.1 ≤ p.1 ∧ y ∈ f := fun y hy => ⟨(by have h9 := tw_mem (q := fun y : Pc => decide (y.1 ≤ p.1)) f hy; exact of_decide_eq_true h9), (List.takeWhile_sublist _).subset hy⟩
   have hDs : ∀ y ∈ f.dropWhile (fun y => decide (y.1 ≤ p.1)), y ∈ f := fun y hy => (List.dropWhile_sublist _).subset hy
   have ih := stabR_mrg hM ps (f.dropWhile (fun y => decide (y.1 ≤ p.1))) (A ++ (f.takeWhile (fun y => decide (y.1 ≤ p.1)) ++ [p])) (fun q hq => hb q (by simp [hq])) (fun q hq => hf q (hDs q hq)) (fun q hq => by
    rcases List.mem_append.1 hq with hq | hq
    ·exact hA q hq
    ·rcases List.mem_append.1 hq with hq | hq
     ·exact hf q (hTm q hq).2
     ·rw [List.mem_singleton.1 hq]; exact hp) (uf.sublist (List.dropWhile_sublist _)) up2 (fun a ha2 q hq => by
    rcases List.mem_append.1 ha2 with ha2 | ha2
    ·exact ha a ha2 q (by simp [hq])
    ·have h9 := up1 q hq
     rcases List.mem_append.1 ha2 with ha2 | ha2
     ·have := (hTm a ha2).1; omega
     ·rw [List.mem_singleton.1 ha2]; exact h9)
   rw [hs]
   have e2 : A ++ (f.takeWhile (fun y => decide (y.1 ≤ p.1)) ++ p :: f.dropWhile (fun y => decide (y.1 ≤ p.1))) = (A ++ (f.takeWhile (fun y => decide (y.1 ≤ p.1)) ++ [p])) ++ f.dropWhile (fun y => decide (y.1 ≤ p.1)) := by simp
   rw [e2, ih]
   show _ = A ++ (f.takeWhile _ ++ p :: mrg (f.dropWhile _) ps)
   simp
theorem stab_mrg {M : Int} (hM : M ≤ 1125899906842624) (f ps : List Pc) (hf : Bnd M f) (hp : Bnd M ps) (uf : Up f) (up : Up ps) : stab ltP (f ++ ps) = mrg f ps := by
 unfold stab
 rw [stabR_app, stabR_up hM f [] hf (fun p hp => by cases hp) (by rw [List.reverse_nil, List.nil_append]; exact uf), List.append_nil]
 have := stabR_mrg hM ps f [] hp hf (fun p hp => by cases hp) uf up (fun a ha => by cases ha)
 simpa using this
/-! ### packages -/
theorem packs_bnd {M : Int} (hM : M ≤ 1125899906842624) : ∀ l : List Pc, Bnd M l → Bnd (2 * M) (packs l) ∧ (Up l → Up (packs l) ∧ ∀ a b r, l = a :: b :: r → ∀ q ∈ packs r, a.1 + b.1 ≤ q.1)
 | [], _ => ⟨fun p hp => (by cases hp), fun _ => ⟨List.Pairwise.nil, fun a b r h => (by cases h)⟩⟩
 | [a], _ => ⟨fun p hp => (by cases hp), fun _ => ⟨List.Pairwise.nil, fun a b r h => (by cases h)⟩⟩
 | a :: b :: r, hb => by
   obtain ⟨h1, h2⟩ := packs_bnd hM r (fun p hp => hb p (by simp [hp]))
   have ha := hb a (by simp)
   have hb2 := hb b (by simp)
   have hw : wrap64 (a.1 + b.1) = a.1 + b.1 := by unfold wrap64; omega
   have hq : Up (a :: b :: r) → ∀ q ∈ packs r, a.1 + b.1 ≤ q.1 := fun hu q hq => by
    cases r with
    | nil => cases hq
    | cons c r =>
      cases r with
      | nil => cases hq
      | cons d r =>
        obtain ⟨u1, u2⟩ := List.pairwise_cons.1 hu
        obtain ⟨u3, u4⟩ := List.pairwise_cons.1 u2
        have hc := hb c (by simp)
        have hd := hb d (by simp)
        have hw2 : wrap64 (c.1 + d.1) = c.1 + d.1 := by unfold wrap64; omega
        have e1 := u1 c (by simp)
        have e2 := u3 d (by simp)
        have e3 := u3 c (by simp)
        rcases List.mem_cons.1 hq with rfl | hq
        ·show _ ≤ wrap64 (c.1 + d.1)
         rw [hw2]; omega
        ·have := (h2 u4).2 c d r rfl q hq
         omega
   refine ⟨fun p hp => ?_, fun hu => ⟨?_, ?_⟩⟩
   ·rcases List.mem_cons.1 hp with rfl | hp
    ·show 0 ≤ wrap64 (a.1 + b.1) ∧ wrap64 (a.1 + b.1) ≤ 2 * M
     rw [hw]; omega
    ·exact h1 p hp
   ·refine List.pairwise_cons.2 ⟨fun q hq2 => ?_, (h2 (List.pairwise_cons.1 (List.pairwise_cons.1 hu).2).2).1⟩
    show wrap64 (a.1 + b.1) ≤ q.1
    rw [hw]
    exact hq hu q hq2
   ·intro a' b' r' e q hq2
    injection e with e1 e2
    injection e2 with e2 e3
    subst e1 e2 e3
    exact hq hu q hq2
theorem listAt_up (F : List Pc) (hF : Bnd 1073741824 F) (uF : Up F) : ∀ k, k ≤ 15 → Up (listAt F k) ∧ Bnd (1073741824 * 2 ^ k) (listAt F k)
 | 0, _ => ⟨uF, by show Bnd (1073741824 * 2 ^ 0) F; simpa using hF⟩
 | k + 1, hk => by
   obtain ⟨h1, h2⟩ := listAt_up F hF uF k (by omega)
   have hp : (2 : Int) ^ k ≤ 2 ^ 14 := by
    have := Nat.pow_le_pow_right (n := 2) (by decide) (show k ≤ 14 by omega)
    exact_mod_cast this
   have hp0 : (0 : Int) < 2 ^ k := Int.pow_pos (by omega)
   have e : (1073741824 : Int) * 2 ^ (k + 1) = 2 * (1073741824 * 2 ^ k) := by rw [Int.pow_succ]; omega
   have hb : Bnd (1073741824 * 2 ^ (k + 1)) (F ++ packs (listAt F k)) := fun p hp2 => by
    rcases List.mem_append.1 hp2 with hp2 | hp2
    ·have := hF p hp2
     rw [e]; omega
    ·rw [e]
     exact (packs_bnd (by omega) (listAt F k) h2).1 p hp2
   show Up (stab ltP (F ++ packs (listAt F k))) ∧ _
   exact ⟨stab_up (by rw [e]; omega) hb, stab_bnd hb⟩
/-- The next list is merged. -/
theorem listAt_mrg (F : List Pc) (hF : Bnd 1073741824 F) (uF : Up F) (k : Nat) (hk : k ≤ 14) : listAt F (k + 1) = mrg F (packs (listAt F k)) := by
 obtain ⟨h1, h2⟩ := listAt_up F hF uF k (by omega)
 have hp : (2 : Int) ^ k ≤ 2 ^ 14 := by
  have := Nat.pow_le_pow_right (n := 2) (by decide) (show k ≤ 14 by omega)
  exact_mod_cast this
 have hp0 : (0 : Int) < 2 ^ k := Int.pow_pos (by omega)
 have hpb := packs_bnd (M := 1073741824 * 2 ^ k) (by omega) (listAt F k) h2
 show stab ltP (F ++ packs (listAt F k)) = _
 exact stab_mrg (M := 2 * (1073741824 * 2 ^ k)) (by omega) F _ (fun p hp2 => by have := hF p hp2; omega) hpb.1 uF (hpb.2 h1).1
end Go.Proofs.YtfbbcfhdjhiejaaGreat.Srt
