/- Of the parts Strm, BlkOk, DecD, DecE, DecF, DecG, FeedP, FeedW: what the rows use. -/
import Derived.Test.YtfbbcfhdjhiejaaGreatZa1
import Derived.Test.YtfbbcfhdjhiejaaGreatZa16
import Derived.Test.YtfbbcfhdjhiejaaGreatZa21
/- Chapter 24, plain: what an encoder tells of all that is done to it: the stream of the pieces' blocks. -/
namespace Go.Proofs.YtfbbcfhdjhiejaaGreat.En
set_option linter.unusedVariables false
set_option linter.unusedSimpArgs false
open Go.RowKit Go.Proofs.YtfbbcfhdjhiejaaGreatW.PrintWords Go.Proofs.YtfbbcfhdjhiejaaGreatW.PrintMore Go.Proofs.YtfbbcfhdjhiejaaGreat.L Go.Proofs.YtfbbcfhdjhiejaaGreat.Texts Go.Proofs.YtfbbcfhdjhiejaaGreat.Dict Go.Proofs.YtfbbcfhdjhiejaaGreat.Fr
/-- What is written between flushes. -/
def piecesP : ByteArray → List OpR → List ByteArray
 | acc, [] => [acc]
 | acc, o :: os => if o.1 = 1 then piecesP (acc ++ o.2) os else if o.1 = 2 then acc :: piecesP Co.no os else if o.1 = 3 then [acc] else piecesP acc os
def sizeO : List OpR → Nat
 | [] => 0
 | o :: os => if o.1 = 1 then o.2.size + sizeO os else if o.1 = 2 then sizeO os else if o.1 = 3 then 0 else sizeO os
theorem pieces_size : ∀ (os : List OpR) (acc : ByteArray), (De.catB (piecesP acc os)).size = acc.size + sizeO os
 | [], acc => by show (acc ++ Co.no).size = _; rw [Co.app_no]; rfl
 | o :: os, acc => by
   unfold piecesP sizeO
   split
   ·rw [pieces_size os, ByteArray.size_append, Nat.add_assoc]
   split
   ·show (acc ++ De.catB _).size = _
    rw [ByteArray.size_append, pieces_size os]
    show acc.size + (0 + _) = _
    omega
   split
   ·show (acc ++ Co.no).size = _; rw [Co.app_no]; rfl
   ·exact pieces_size os acc
/-- A whole block ahead. -/
theorem blks_ahead (bl : Nat) (hb : 1 ≤ bl) (u : ByteArray) (hu : u.size = bl) : ∀ (os : List OpR) (acc : ByteArray), De.blks bl (piecesP (u ++ acc) os) = u :: De.blks bl (piecesP acc os)
 | [], acc => by
   show De.cuts bl (u ++ acc) ++ [] = u :: (De.cuts bl acc ++ [])
   rw [List.append_nil, List.append_nil]
   exact ahead acc
 | o :: os, acc => by
   unfold piecesP
   split
   ·rw [ByteArray.append_assoc]
    exact blks_ahead bl hb u hu os (acc ++ o.2)
   split
   ·show De.cuts bl (u ++ acc) ++ _ = u :: (De.cuts bl acc ++ _)
    rw [ahead acc]
    rfl
   split
   ·show De.cuts bl (u ++ acc) ++ [] = u :: (De.cuts bl acc ++ [])
    rw [List.append_nil, List.append_nil]
    exact ahead acc
   ·exact blks_ahead bl hb u hu os acc
where
 ahead (acc : ByteArray) : De.cuts bl (u ++ acc) = u :: De.cuts bl acc := by
  have hz : (u ++ acc).size = bl + acc.size := by rw [ByteArray.size_append, hu]
  rw [De.cuts_step bl hb (u ++ acc) (by omega), hz, show min (bl + acc.size) bl = bl by omega]
  have e1 : (u ++ acc).extract 0 bl = u := De.ext_first u acc bl hu
  have e2 : (u ++ acc).extract bl (bl + acc.size) = acc := Co.ext_right u acc _ _ hu.symm (by rw [hu])
  rw [e1, e2]
theorem drain_blks (l : List ByteArray) (c : Blk.Cf) (hb : 1 ≤ c.block) (os : List OpR) : ∀ (n : Nat) (h : ByteArray), h.size < n → ∃ fs, drain l c n h = (De.catB (fs.map (blockF l c)), (drain l c n h).2) ∧ De.blks c.block (piecesP h os) = fs ++ De.blks c.block (piecesP (drain l c n h).2 os) ∧ (drain l c n h).2.size < c.block
 | 0, h, hn => by omega
 | n + 1, h, hn => by
   by_cases hk : c.block ≤ h.size
   ·have hz : (h.extract c.block h.size).size = h.size - c.block := by rw [ByteArray.size_extract]; omega
    obtain ⟨fs, h1, h2, h3⟩ := drain_blks l c hb os n (h.extract c.block h.size) (by omega)
    have hd : drain l c (n + 1) h = (blockF l c (h.extract 0 c.block) ++ (drain l c n (h.extract c.block h.size)).1, (drain l c n (h.extract c.block h.size)).2) := by rw [drain, if_pos hk]
    have hu : (h.extract 0 c.block).size = c.block := by rw [ByteArray.size_extract]; omega
    have hj : h.extract 0 c.block ++ h.extract c.block h.size = h := by
     rw [ByteArray.extract_append_extract]
     have e1 : min 0 c.block = 0 := by omega
     have e2 : max c.block h.size = h.size := by omega
     rw [e1, e2, ByteArray.extract_zero_size]
    rw [hd]
    refine ⟨h.extract 0 c.block :: fs, ?_, ?_, h3⟩
    ·show (_, _) = (blockF l c (h.extract 0 c.block) ++ De.catB (fs.map (blockF l c)), _)
     rw [h1]
    ·have h4 := blks_ahead c.block hb (h.extract 0 c.block) hu os (h.extract c.block h.size)
     rw [hj] at h4
     rw [h4, h2]
     rfl
   ·have hd : drain l c (n + 1) h = (⟨#[]⟩, h) := by rw [drain, if_neg hk]
    rw [hd]
    exact ⟨[], rfl, rfl, by dsimp only; omega⟩
theorem cuts_small (bl : Nat) (hb : 1 ≤ bl) (h : ByteArray) (hs : h.size ≤ bl) : De.cuts bl h = if h.size = 0 then [] else [h] := by
 split
 ·exact De.cuts_end bl h (by assumption)
 ·rename_i h0
  rw [De.cuts_step bl hb h h0, show min h.size bl = h.size by omega, ByteArray.extract_zero_size, De.cuts_end bl _ (by rw [ByteArray.size_extract]; omega)]
theorem fl_blks (l : List ByteArray) (c : Blk.Cf) (hb : 1 ≤ c.block) (d : ES) (hdc : d.c = c) (hs : d.held.size ≤ c.block) : fl l d = hd l d ++ De.catB ((De.cuts c.block d.held).map (blockF l c)) := by
 unfold fl
 rw [cuts_small c.block hb d.held hs]
 split
 ·show hd l d = hd l d ++ Co.no
  rw [Co.app_no]
 ·show _ = hd l d ++ (blockF l c d.held ++ Co.no)
  rw [Co.app_no, hdc]
theorem runO_strm (l : List ByteArray) (c : Blk.Cf) (hb : 1 ≤ c.block) : ∀ (os : List OpR) (d : ES), d.c = c → d.held.size < c.block →
  runO l d (os ++ [(3, ⟨#[]⟩)]) = hd l d ++ (De.catB ((De.blks c.block (piecesP d.held os)).map (blockF l c)) ++ endB ((d.written + sizeO os) % 4294967296))
 | [], d, hc, hs => by
   show cl l d = _
   unfold cl
   rw [fl_blks l c hb d hc (by omega)]
   show _ = hd l d ++ (De.catB ((De.cuts c.block d.held ++ []).map _) ++ endB ((d.written + 0) % 4294967296))
   rw [List.append_nil, Nat.add_zero, ByteArray.append_assoc]
 | o :: os, d, hc, hs => by
   show (if o.1 = 1 then En.wr l d o.2 ++ runO l (wrote l d o.2) (os ++ _) else if o.1 = 2 then fl l d ++ runO l (flushed d) (os ++ _) else if o.1 = 3 then cl l d else runO l d (os ++ _)) = _
   unfold piecesP sizeO
   by_cases h1 : o.1 = 1
   ·rw [if_pos h1, if_pos h1, if_pos h1]
    obtain ⟨fs, f1, f2, f3⟩ := drain_blks l c hb os ((d.held ++ o.2).size + 1) (d.held ++ o.2) (Nat.lt_succ_self _)
    have ih := runO_strm l c hb os (wrote l d o.2) hc (by show (drainA l d.c (d.held ++ o.2)).2.size < _; rw [hc]; exact f3)
    rw [ih]
    have hh : (wrote l d o.2).held = (drain l c ((d.held ++ o.2).size + 1) (d.held ++ o.2)).2 := by show (drainA l d.c _).2 = _; rw [hc]; rfl
    have hw : (wrote l d o.2).written = d.written + o.2.size := rfl
    have hhd : hd l (wrote l d o.2) = Co.no := rfl
    rw [hh, hw, hhd, Co.no_app, f2]
    have h6 : (drainA l d.c (d.held ++ o.2)).1 = De.catB (fs.map (blockF l c)) := by
     rw [hc]
     show (drain l c ((d.held ++ o.2).size + 1) (d.held ++ o.2)).1 = _
     rw [f1]
    unfold En.wr
    rw [h6, List.map_append, De.catB_append, Nat.add_assoc]
    simp only [ByteArray.append_assoc]
   ·rw [if_neg h1, if_neg h1, if_neg h1]
    by_cases h2 : o.1 = 2
    ·rw [if_pos h2, if_pos h2, if_pos h2]
     have ih := runO_strm l c hb os (flushed d) hc (by show 0 < c.block; omega)
     rw [ih, fl_blks l c hb d hc (by omega)]
     have hh : (flushed d).held = Co.no := rfl
     have hw : (flushed d).written = d.written := rfl
     have hhd : hd l (flushed d) = Co.no := rfl
     rw [hh, hw, hhd, Co.no_app]
     show _ = hd l d ++ (De.catB ((De.cuts c.block d.held ++ De.blks c.block (piecesP Co.no os)).map _) ++ _)
     rw [List.map_append, De.catB_append]
     simp only [ByteArray.append_assoc]
    ·rw [if_neg h2, if_neg h2, if_neg h2]
     by_cases h3 : o.1 = 3
     ·rw [if_pos h3, if_pos h3, if_pos h3]
      unfold cl
      rw [fl_blks l c hb d hc (by omega)]
      show _ = hd l d ++ (De.catB ((De.cuts c.block d.held ++ []).map _) ++ endB ((d.written + 0) % 4294967296))
      rw [List.append_nil, Nat.add_zero, ByteArray.append_assoc]
     ·rw [if_neg h3, if_neg h3, if_neg h3]
      exact runO_strm l c hb os d hc hs
/-- The whole. -/
theorem runO_all (l : List ByteArray) (c : Blk.Cf) (hb : 1 ≤ c.block) (os : List OpR) : runO l (e0 c) (os ++ [(3, ⟨#[]⟩)]) = De.strm l c (De.blks c.block (piecesP Co.no os)) := by
 rw [runO_strm l c hb os (e0 c) rfl (by show 0 < _; omega)]
 unfold De.strm
 rw [De.catB_blks c.block hb, pieces_size]
 rfl
/-- All at once. -/
theorem allB_strm (l : List ByteArray) (c : Blk.Cf) (hb : 1 ≤ c.block) (b : ByteArray) : allB l c b = De.strm l c (De.cuts c.block b) := by
 have h := runO_all l c hb [(1, b)]
 have e : runO l (e0 c) ([(1, b)] ++ [(3, ⟨#[]⟩)]) = allB l c b := by
  rw [List.singleton_append]
  unfold allB
  rw [runO, if_pos rfl, runO, if_neg (by decide), if_neg (by decide), if_pos rfl]
 have e2 : piecesP Co.no [((1 : Int), b)] = [b] := by
  rw [piecesP, if_pos rfl, piecesP, Co.no_app]
 rw [e, e2] at h
 rw [h]
 show De.strm l c (De.cuts c.block b ++ []) = _
 rw [List.append_nil]
end Go.Proofs.YtfbbcfhdjhiejaaGreat.En

/- Chapters 22 to 24, plain: which blocks may be written, and are read as they were. -/
namespace Go.Proofs.YtfbbcfhdjhiejaaGreat.De
set_option linter.unusedVariables false
set_option linter.unusedSimpArgs false
open Go.RowKit Go.Proofs.YtfbbcfhdjhiejaaGreatW.PrintWords Go.Proofs.YtfbbcfhdjhiejaaGreatW.PrintMore Go.Proofs.YtfbbcfhdjhiejaaGreat.L Go.Proofs.YtfbbcfhdjhiejaaGreat.Texts Go.Proofs.YtfbbcfhdjhiejaaGreat.Dict Go.Proofs.YtfbbcfhdjhiejaaGreat.Co Go.Proofs.YtfbbcfhdjhiejaaGreat.Fr
theorem numS_pos {t : Int} (h : 0 ≤ t ∧ t ≤ 4294967295) : 1 ≤ (Vari.numS t).size := by
 refine Nat.pos_of_ne_zero fun h0 => ?_
 have h1 := Blk.getN_num h Co.no
 rw [Co.eq_no h0] at h1
 have h2 : Vari.getN (Co.no ++ Co.no) = (0, 0, 2) := by decide
 rw [h2] at h1
 simp at h1
theorem lay_pos (l : List ByteArray) (hl : l.length ≤ 100) (how : Nat) (ts : List Int) (h0 : ts.length ≠ 0) (hk : Blk.allTk l ts) : 1 ≤ (Blk.layP l how ts).size := by
 unfold Blk.layP
 split
 ·unfold Blk.codesB
  rw [ByteArray.size_append, strOfNums_size]
  cases hx : Blk.lns l ts with
  | nil =>
    have := Blk.lns_length l ts
    rw [hx] at this
    simp at this
    omega
  | cons x xs =>
    rw [Tb.tabL_cons]
    simp
    omega
 ·rw [Blk.numsB_C]
  cases ts with
  | nil => exact absurd rfl h0
  | cons t ts =>
    show 1 ≤ (Vari.numS t ++ Blk.numsC ts).size
    have := numS_pos (t := t) ⟨(hk t (by simp)).1, by have := (hk t (by simp)).2; omega⟩
    rw [ByteArray.size_append]
    omega
theorem blk_ok {l : List ByteArray} (hok : okTexts l) (c : Blk.Cf) (hc : c.ok) (b : ByteArray) (h0 : b.size ≠ 0) (hb : b.size ≤ c.block) (hco : c.code = 1 → Blk.CodesOk l (Blk.toksP l c b)) : En.BlkOk l c b := by
 have hb2 : b.size ≤ 1024 := by have := hc.2.2.2.1; omega
 obtain ⟨t1, t2, t3, t4⟩ := Blk.toks_all hok c hc b h0 hb2
 refine ⟨h0, hb, Blk.ready hok c hc b h0 hb2 hco, ?_⟩
 have hp := lay_pos l hok.1 c.code (Blk.toksP l c b) t2 t3
 unfold Co.fits
 refine decide_eq_true ?_
 unfold Blk.putK Blk.putB
 split
 ·rename_i h
  exact ⟨by omega, by omega, hp, .inr ⟨rfl, h⟩⟩
 ·exact ⟨by omega, by omega, by omega, .inl ⟨rfl, rfl⟩⟩
/-- By numbers every block is read as it was; by codes each that is stored. -/
theorem blk_good {l : List ByteArray} (hok : okTexts l) (c : Blk.Cf) (hc : c.ok) (b : ByteArray) (h0 : b.size ≠ 0) (hb : b.size ≤ c.block) (hco : c.code = 1 → Blk.CodesOk l (Blk.toksP l c b) ∧ ¬ (Blk.layP l c.code (Blk.toksP l c b)).size < b.size) : BlkGood l c b := by
 have hb2 : b.size ≤ 1024 := by have := hc.2.2.2.1; omega
 obtain ⟨t1, t2, t3, t4⟩ := Blk.toks_all hok c hc b h0 hb2
 refine ⟨blk_ok hok c hc b h0 hb (fun h => (hco h).1), ⟨by omega, hb2, hc.2.1, rfl, ?_⟩⟩
 unfold Blk.putK Blk.putB
 by_cases hlt : (Blk.layP l c.code (Blk.toksP l c b)).size < b.size
 ·rw [if_pos hlt, if_pos hlt]
  have h01 : c.code = 0 := by
   have := hc.2.1
   by_cases h1 : c.code = 1
   ·exact absurd hlt (hco h1).2
   ·omega
  refine .inr ⟨rfl, h01, Blk.toksP l c b, ?_, t3, t4.symm, by omega⟩
  rw [h01]
  show (if (0 : Nat) = 1 then _ else _) = _
  rw [if_neg (by decide), Blk.numsB_C]
 ·rw [if_neg hlt, if_neg hlt]
  exact .inl ⟨rfl, rfl⟩
/-- How long a block's frame is. -/
theorem block_size (l : List ByteArray) (c : Blk.Cf) (b : ByteArray) : (En.blockF l c b).size ≤ 9 + b.size := by
 unfold En.blockF frameB
 rw [ByteArray.size_append, ByteArray.size_append, ByteArray.size_append, ByteArray.size_append, big_size, big_size, big_size, big_size]
 unfold Blk.putB
 split <;> omega
theorem catF_size (l : List ByteArray) (c : Blk.Cf) : ∀ bs : List ByteArray, (catB (bs.map (En.blockF l c))).size ≤ 9 * bs.length + (catB bs).size
 | [] => Nat.zero_le _
 | b :: bs => by
   show (En.blockF l c b ++ catB _).size ≤ 9 * (bs.length + 1) + (b ++ catB bs).size
   rw [ByteArray.size_append, ByteArray.size_append]
   have := catF_size l c bs
   have := block_size l c b
   omega
theorem headB_size (code block id : Nat) : (headB code block id).size = 17 := by
 unfold headB
 rw [ByteArray.size_append, ByteArray.size_append, ByteArray.size_append, ByteArray.size_append, big_size, big_size, big_size, big_size]
 rfl
theorem endB_size (n : Nat) : (endB n).size = 5 := by unfold endB; rw [ByteArray.size_append, big_size, big_size]
theorem strm_size (l : List ByteArray) (c : Blk.Cf) (bs : List ByteArray) : (strm l c bs).size ≤ 22 + 9 * bs.length + (catB bs).size ∧ 22 ≤ (strm l c bs).size := by
 unfold strm
 rw [ByteArray.size_append, ByteArray.size_append, headB_size, endB_size]
 have := catF_size l c bs
 omega
end Go.Proofs.YtfbbcfhdjhiejaaGreat.De

/- Chapter 24: the decoder: next. -/
namespace Go.Proofs.YtfbbcfhdjhiejaaGreat.De
set_option linter.unusedVariables false
set_option linter.unusedSimpArgs false
open Go.RowKit Go.Proofs.YtfbbcfhdjhiejaaGreatW.PrintWords Go.Proofs.YtfbbcfhdjhiejaaGreatW.PrintMore Go.Proofs.YtfbbcfhdjhiejaaGreat.L Go.Proofs.YtfbbcfhdjhiejaaGreat.Texts Go.Proofs.YtfbbcfhdjhiejaaGreat.Dict Go.Proofs.YtfbbcfhdjhiejaaGreat.Co Go.Proofs.YtfbbcfhdjhiejaaGreat.Fa Go.Proofs.YtfbbcfhdjhiejaaGreat.Fr
def NextSays (x db : Nat) (R : ByteArray × Bool × DS) (w : World) (e : Ending) (w' : World) : Prop :=
 e = .returned (.tuple #[.string R.1, .bool R.2.1]) ∧ Left x ⟨db, 0, none⟩ R.2.2 w w'
/-- What must hold of a state, so that no sum is too great. -/
def Fine (d : DS) : Prop := d.held.size ≤ 140737488351232 ∧ d.pos + d.held.size < 4611686018427387 ∧ d.told < 4611686018427387 ∧ d.block ≤ 100000
theorem empty_list {s : ByteArray} (h : s.size = 0) : s.toList.isEmpty = true := by
 rw [ByteArray.toList_eq]
 have h1 : s.data.toList.length = 0 := by rw [Array.length_toList]; exact h
 rw [List.eq_nil_of_length_eq_zero h1]
 rfl
theorem alloc_lt (w : World) (o : Obj) : w.heap.size < (w.alloc o).heap.size := by simp
theorem next_begin (x db : Nat) (l : List ByteArray) (d : DS) (w : World) (h : Dec w x ⟨db, 0, none⟩ d) (hD : DC w db l) (hok : okTexts l) (hf : Fine d) (hb : d.begun = false) :
  Calls Tryz.prog 67 #[.pointer (some ⟨x, 0, none⟩)] w (NextSays x db (next (env l) d) w) := by
 have c4 := h.at.c4
 rw [hb] at c4
 have key : Calls Tryz.prog 99 #[.pointer (some ⟨x, 0, none⟩)] w fun e w' => e = .returned (.bool (next (env l) d).2.1) ∧ Left x ⟨db, 0, none⟩ (next (env l) d).2.2 w w' := by
  by_cases he : headE d.held = 0
  ·have := begin_yes x db l d w h hD hok hf.1 he (by have := hf.2.1; omega)
   by_cases hi : headId d.held = idD l
   ·have hn : next (env l) d = (Co.no, true, took (begin_ d) 17) := by
     unfold next; rw [if_pos hb, if_neg (by rw [he]; decide), if_neg (by simp [he]), if_neg (by intro hx; exact hx hi)]
    rw [if_pos hi, decide_eq_true hi] at this
    rw [hn]
    exact this
   ·have hn : next (env l) d = (Co.no, false, wrong d 6) := by
     unfold next; rw [if_pos hb, if_neg (by rw [he]; decide), if_neg (by simp [he]), if_pos (by exact hi)]
    rw [if_neg hi, decide_eq_false hi] at this
    rw [hn]
    exact this
  ·have := begin_no x ⟨db, 0, none⟩ d w h hf.1 he
   by_cases h2 : headE d.held = 2
   ·have hn : next (env l) d = (Co.no, false, d) := by unfold next; rw [if_pos hb, if_pos h2]
    rw [if_pos h2] at this
    rw [hn]
    exact this
   ·have hn : next (env l) d = (Co.no, false, wrong d (headE d.held)) := by unfold next; rw [if_pos hb, if_neg h2, if_pos he]
    rw [if_neg h2] at this
    rw [hn]
    exact this
 have HK := Lib.hid key
 have hno : (next (env l) d).1 = Co.no := by
  unfold next
  rw [if_pos hb]
  split
  ·rfl
  split
  ·rfl
  split <;> rfl
 have HN := Lib.hid (show next (env l) d = (Co.no, (next (env l) d).2.1, (next (env l) d).2.2) by rw [← hno])
 obtain ⟨R, hR⟩ : ∃ R, next (env l) d = R := ⟨_, rfl⟩
 rw [hR] at HK HN ⊢
 clear h hD hok hf hb key hno hR
 go_enter Tryz.func67, Tryz.ntmps67
 go_wp2_with (fail)
 refine Calls.mono HK.out ?_
 rintro e w1 ⟨rfl, hl⟩
 have HL := Lib.hid hl
 clear hl
 go_wp2_with (fail)
 go_ret2
 exact ⟨by rw [HN.out]; rfl, HL.out⟩
theorem next_empty (x db : Nat) (l : List ByteArray) (d : DS) (w : World) (h : Dec w x ⟨db, 0, none⟩ d) (hb : d.begun = true) (h0 : d.held.size = 0) :
  Calls Tryz.prog 67 #[.pointer (some ⟨x, 0, none⟩)] w (NextSays x db (next (env l) d) w) := by
 have hn : next (env l) d = (Co.no, false, d) := by unfold next; rw [if_neg (by rw [hb]; decide), if_pos h0]
 rw [hn]
 have c4 := h.at.c4
 have c6 := h.at.c6
 rw [hb] at c4
 have e1 := empty_list h0
 have H := Lib.hid h
 clear h hb h0 hn
 go_enter Tryz.func67, Tryz.ntmps67
 go_wp2_with (fail)
 go_ret2
 exact ⟨rfl, H.out, Chg.refl _ _⟩
theorem next_done (x db : Nat) (l : List ByteArray) (d : DS) (w : World) (h : Dec w x ⟨db, 0, none⟩ d) (hb : d.begun = true) (h0 : d.held.size ≠ 0) (hd : d.done = true) :
  Calls Tryz.prog 67 #[.pointer (some ⟨x, 0, none⟩)] w (NextSays x db (next (env l) d) w) := by
 have hn : next (env l) d = (Co.no, false, wrong d 13) := by unfold next; rw [if_neg (by rw [hb]; decide), if_neg h0, if_pos hd]
 rw [hn]
 have c4 := h.at.c4
 have c5 := h.at.c5
 have c6 := h.at.c6
 rw [hb] at c4
 rw [hd] at c5
 have e1 := Blk.filled h0
 have H := Lib.hid h
 clear h hb h0 hd hn
 go_enter Tryz.func67, Tryz.ntmps67
 go_wp2_with (fail)
 refine (wrong_any x _ d 13 _ H.out (by decide)).mono ?_
 rintro e w1 ⟨rfl, hd1, hc1⟩
 have HL := Lib.hid (And.intro hd1 hc1)
 clear hd1 hc1
 go_wp2_with (fail)
 go_ret2
 exact ⟨rfl, HL.out.1, HL.out.2⟩
set_option maxRecDepth 100000 in
set_option maxHeartbeats 4000000 in
theorem next_no (x db : Nat) (l : List ByteArray) (d : DS) (w : World) (h : Dec w x ⟨db, 0, none⟩ d) (hf : Fine d) (hb : d.begun = true) (h0 : d.held.size ≠ 0) (hd : d.done = false) (he : frE d.held d.block ≠ 0) :
  Calls Tryz.prog 67 #[.pointer (some ⟨x, 0, none⟩)] w (NextSays x db (next (env l) d) w) := by
 have hn : next (env l) d = (Co.no, false, if frE d.held d.block = 2 then d else wrong d (frE d.held d.block)) := by
  unfold next
  rw [if_neg (by rw [hb]; decide), if_neg h0, if_neg (by rw [hd]; decide)]
  by_cases h2 : frE d.held d.block = 2
  ·rw [if_pos h2, if_pos h2]
  ·rw [if_neg h2, if_neg h2, if_pos he]
 rw [hn]
 have HA := h.at
 have c2 := HA.c2
 have c4 := HA.c4
 have c5 := HA.c5
 have c6 := HA.c6
 rw [hb] at c4
 rw [hd] at c5
 have e1 := Blk.filled h0
 have H := Lib.hid h
 have HG := Lib.hid (fun W : World => getFrame d.held d.block W hf.1 hf.2.2.2)
 obtain ⟨E, hE⟩ : ∃ E, frE d.held d.block = E := ⟨_, rfl⟩
 have HF := Lib.hid (show ∀ W : World, Calls Tryz.prog 101 #[.string d.held, .int .i64 d.block] W fun e W' => e = .returned (.tuple #[.agg #[.int .i64 0, .int .i64 0, .int .u32 0, .string ⟨#[]⟩], .int .i64 0, .int .i64 E]) ∧ Below W.heap.size W W' from by
  intro W
  refine (HG.out W).mono ?_
  rintro e W' ⟨h1, h2⟩
  rw [hE] at h1 he
  unfold frV frNV at h1
  rw [if_neg he, if_neg he] at h1
  exact ⟨h1, h2⟩)
 clear HG
 rw [hE] at he ⊢
 have HK := Lib.hid (show ∀ W' : World, Below w.heap.size w W' → W'.cell? ⟨x, 6, none⟩ = some (.string d.held) ∧ W'.cell? ⟨x, 2, none⟩ = some (.int .i64 d.block) from fun W' hb => ⟨(H.out.below hb).at.c6, (H.out.below hb).at.c2⟩)
 clear h hb h0 hd hn HA hf hE
 go_enter Tryz.func67, Tryz.ntmps67
 go_upto_region 8 with (fail)
 have xa := fun o : Obj => (HK.out (w.alloc o) (Fa.bel_alloc w o)).1
 have xb := fun o : Obj => (HK.out (w.alloc o) (Fa.bel_alloc w o)).2
 go_cut [4, 5, 6] (fun v4 v5 v6 wc => ∃ g : Nat, v4 = .pointer (some ⟨g, 0, none⟩) ∧ v5 = .int .i64 0 ∧ v6 = .int .i64 E ∧ Hid (wc.heap[g]? = some (.cells #[.int .i64 0, .int .i64 0, .int .u32 0, .string ⟨#[]⟩] 99 (0, 0)) ∧ Below w.heap.size w wc))
 case first =>
  go_region_law (first
   | (go_simp; go_at_call 101; (with_reducible refine Calls.mono (HF.out _) ?_); rintro e w7 ⟨rfl, hb7⟩; have HB7 := Lib.hid (bel_on (show Below w.heap.size w _ from (by first | exact (Below.refl _ w).drew | exact (Fa.bel_alloc w _).drew | exact Below.refl _ _ | exact Fa.bel_alloc w _ | exact Fa.bel_alloc w.drew _)) hb7); obtain ⟨c6, c2⟩ := HK.out _ HB7.out; (first | (obtain ⟨z0, z1, z2, z3, z4, z5, z6, z7⟩ := four_all ((hb7.block w.heap.size (alloc_lt w _)).trans (heap_alloc_self w _)); have HZ7 := Lib.hid ((hb7.block w.heap.size (alloc_lt w _)).trans (heap_alloc_self w _)); clear hb7) | clear hb7)))
  all_goals
   go_wp2_with (fail)
   go_meet
   case rel => first
    | (have hz := HZ7.out; exact ⟨w.heap.size, rfl, rfl, rfl, blk_put (blk_put (blk_put (blk_put hz 0 _ rfl) 1 _ rfl) 2 _ rfl) 3 _ rfl, (((HB7.out.setCell (p := ⟨w.heap.size, 0, none⟩) (Nat.le_refl _) _).setCell (p := ⟨w.heap.size, 1, none⟩) (Nat.le_refl _) _).setCell (p := ⟨w.heap.size, 2, none⟩) (Nat.le_refl _) _).setCell (p := ⟨w.heap.size, 3, none⟩) (Nat.le_refl _) _⟩)
    | exact ⟨w7.heap.size, rfl, rfl, rfl, heap_alloc_self w7 _, HB7.out.alloc HB7.out.size _⟩
 case rest =>
  obtain ⟨g, rfl, rfl, rfl, HX⟩ := hcut
  have HD := Lib.hid (H.out.below HX.out.2)
  by_cases h2 : E = 2
  ·subst h2
   go_wp2_with (fail)
   go_ret2
   exact ⟨rfl, HD.out, Chg.of_below HX.out.2⟩
  ·have e2 : (E == 2) = false := beq_eq_false_iff_ne.2 h2
   have e0 : (E == 0) = false := beq_eq_false_iff_ne.2 he
   have e3 : (E != 0) = true := by rw [bne_iff_ne]; exact he
   have HE := Lib.hid he
   have H2 := Lib.hid h2
   clear h2 he
   go_wp2_with (fail)
   refine (wrong_any x _ d E _ HD.out HE.out).mono ?_
   rintro e w4 ⟨rfl, hd4, hc4⟩
   have HL := Lib.hid (show Left x ⟨db, 0, none⟩ (wrong d E) w w4 from ⟨hd4, (Chg.of_below HX.out.2).trans hc4⟩)
   clear hd4 hc4
   go_wp2_with (fail)
   go_ret2
   exact ⟨rfl, HL.out⟩
end Go.Proofs.YtfbbcfhdjhiejaaGreat.De

/- Chapter 24: the decoder: next, at a whole frame; all together. -/
namespace Go.Proofs.YtfbbcfhdjhiejaaGreat.De
set_option linter.unusedVariables false
set_option linter.unusedSimpArgs false
open Go.RowKit Go.Proofs.YtfbbcfhdjhiejaaGreatW.PrintWords Go.Proofs.YtfbbcfhdjhiejaaGreatW.PrintMore Go.Proofs.YtfbbcfhdjhiejaaGreat.L Go.Proofs.YtfbbcfhdjhiejaaGreat.Texts Go.Proofs.YtfbbcfhdjhiejaaGreat.Dict Go.Proofs.YtfbbcfhdjhiejaaGreat.Co Go.Proofs.YtfbbcfhdjhiejaaGreat.Fa Go.Proofs.YtfbbcfhdjhiejaaGreat.Fr
set_option maxRecDepth 100000 in
set_option maxHeartbeats 4000000 in
theorem next_frame (x db : Nat) (l : List ByteArray) (d : DS) (w : World) (h : Dec w x ⟨db, 0, none⟩ d) (hD : DC w db l) (hf : Fine d) (hb : d.begun = true) (h0 : d.held.size ≠ 0) (hd : d.done = false) (he : frE d.held d.block = 0) (hB : (meant (env l) d).1.size ≤ 1024)
  (hM : ∀ W : World, Dec W x ⟨db, 0, none⟩ d → DC W db l → Calls Tryz.prog 102 #[.pointer (some ⟨x, 0, none⟩), frame d.held] W fun e w' => e = .returned (.tuple #[.string (meant (env l) d).1, .int .i64 (meant (env l) d).2]) ∧ Below W.heap.size W w') :
  Calls Tryz.prog 67 #[.pointer (some ⟨x, 0, none⟩)] w (NextSays x db (next (env l) d) w) := by
 have hn : next (env l) d = if (meant (env l) d).2 = 0 then ((meant (env l) d).1, true, took (fin d (meant (env l) d).1) (frN d.held)) else (Co.no, false, wrong d (meant (env l) d).2) := by
  unfold next
  rw [if_neg (by rw [hb]; decide), if_neg h0, if_neg (by rw [hd]; decide), if_neg (by rw [he]; decide), if_neg (by simp [he])]
  by_cases hm : (meant (env l) d).2 = 0
  ·rw [if_neg (by simp [hm]), if_pos hm]
  ·rw [if_pos hm, if_neg hm]
 rw [hn]
 have HA := h.at
 have c2 := HA.c2
 have c4 := HA.c4
 have c5 := HA.c5
 have c6 := HA.c6
 rw [hb] at c4
 rw [hd] at c5
 have e1 := Blk.filled h0
 have H := Lib.hid h
 have HDC := Lib.hid hD
 have HZ := frE_zero he
 obtain ⟨hN, _, _, _⟩ := HZ
 have HN := Lib.hid hN
 have HFI := Lib.hid hf
 have HM := Lib.hid hM
 obtain ⟨B, hBB⟩ : ∃ B, (meant (env l) d).1 = B := ⟨_, rfl⟩
 obtain ⟨M, hMM⟩ : ∃ M, (meant (env l) d).2 = M := ⟨_, rfl⟩
 rw [hBB, hMM] at HM
 rw [hBB] at hB
 rw [hBB, hMM]
 unfold frame at HM
 have HF := Lib.hid (show ∀ W : World, Calls Tryz.prog 101 #[.string d.held, .int .i64 d.block] W fun e W' => e = .returned (.tuple #[.agg #[.int .i64 (frKind d.held), .int .i64 (frRaw d.held), .int .u32 (frSum d.held), .string (frPay d.held)], .int .i64 (frN d.held), .int .i64 0]) ∧ Below W.heap.size W W' from by
  intro W
  refine (getFrame d.held d.block W hf.1 hf.2.2.2).mono ?_
  rintro e W' ⟨h1, h2⟩
  rw [he] at h1
  unfold frV frNV at h1
  rw [if_pos rfl, if_pos rfl] at h1
  exact ⟨h1, h2⟩)
 have HK := Lib.hid (show ∀ W' : World, Below w.heap.size w W' → W'.cell? ⟨x, 6, none⟩ = some (.string d.held) ∧ W'.cell? ⟨x, 2, none⟩ = some (.int .i64 d.block) from fun W' hb => ⟨(H.out.below hb).at.c6, (H.out.below hb).at.c2⟩)
 have HFN := Lib.hid (show fin d B = { d with done := decide (frKind d.held = 0), told := d.told + B.size } from rfl)
 have hwt : wrap64 ((d.told : Int) + (B.size : Int)) = ((d.told + B.size : Nat) : Int) := by have := hf.2.2.1; unfold wrap64; omega
 obtain ⟨K, hK⟩ : ∃ K, frKind d.held = K := ⟨_, rfl⟩
 obtain ⟨R, hR⟩ : ∃ R, frRaw d.held = R := ⟨_, rfl⟩
 obtain ⟨S, hS⟩ : ∃ S, frSum d.held = S := ⟨_, rfl⟩
 obtain ⟨P, hP⟩ : ∃ P, frPay d.held = P := ⟨_, rfl⟩
 obtain ⟨N, hNN⟩ : ∃ N, frN d.held = N := ⟨_, rfl⟩
 rw [hK, hR, hS, hP] at HM
 rw [hK, hR, hS, hP, hNN] at HF
 rw [hK] at HFN
 rw [hNN] at HN ⊢
 obtain ⟨Z, hZ⟩ : ∃ Z, (if M = 0 then (B, true, took (fin d B) N) else (Co.no, false, wrong d M)) = Z := ⟨_, rfl⟩
 rw [hZ]
 have HZZ := Lib.hid hZ
 clear hZ
 have HFD := Lib.hid (show (fin d B).held = d.held from rfl)
 clear h hb h0 hd hn HA hf he hM hD hN hK hR hS hP hNN hMM hBB
 go_enter Tryz.func67, Tryz.ntmps67
 go_upto_region 8 with (fail)
 have xa := fun o : Obj => (HK.out (w.alloc o) (Fa.bel_alloc w o)).1
 have xb := fun o : Obj => (HK.out (w.alloc o) (Fa.bel_alloc w o)).2
 go_cut [4, 5, 6] (fun v4 v5 v6 wc => ∃ g : Nat, v4 = .pointer (some ⟨g, 0, none⟩) ∧ v5 = .int .i64 N ∧ v6 = .int .i64 0 ∧ Hid (wc.heap[g]? = some (.cells #[.int .i64 K, .int .i64 R, .int .u32 S, .string P] 99 (0, 0)) ∧ Below w.heap.size w wc))
 case first =>
  go_region_law (first
   | (go_simp; go_at_call 101; (with_reducible refine Calls.mono (HF.out _) ?_); rintro e w7 ⟨rfl, hb7⟩; have HB7 := Lib.hid (bel_on (show Below w.heap.size w _ from (by first | exact (Below.refl _ w).drew | exact (Fa.bel_alloc w _).drew | exact Below.refl _ _ | exact Fa.bel_alloc w _ | exact Fa.bel_alloc w.drew _)) hb7); obtain ⟨c6, c2⟩ := HK.out _ HB7.out; (first | (obtain ⟨z0, z1, z2, z3, z4, z5, z6, z7⟩ := four_all ((hb7.block w.heap.size (alloc_lt w _)).trans (heap_alloc_self w _)); have HZ7 := Lib.hid ((hb7.block w.heap.size (alloc_lt w _)).trans (heap_alloc_self w _)); clear hb7) | clear hb7)))
  all_goals
   go_wp2_with (fail)
   go_meet
   case rel => first
    | (have hz := HZ7.out; exact ⟨w.heap.size, rfl, rfl, rfl, blk_put (blk_put (blk_put (blk_put hz 0 _ rfl) 1 _ rfl) 2 _ rfl) 3 _ rfl, (((HB7.out.setCell (p := ⟨w.heap.size, 0, none⟩) (Nat.le_refl _) _).setCell (p := ⟨w.heap.size, 1, none⟩) (Nat.le_refl _) _).setCell (p := ⟨w.heap.size, 2, none⟩) (Nat.le_refl _) _).setCell (p := ⟨w.heap.size, 3, none⟩) (Nat.le_refl _) _⟩)
    | exact ⟨w7.heap.size, rfl, rfl, rfl, heap_alloc_self w7 _, HB7.out.alloc HB7.out.size _⟩
 case rest =>
  obtain ⟨g, rfl, rfl, rfl, HX⟩ := hcut
  have HD := Lib.hid (H.out.below HX.out.2)
  have HDD := Lib.hid (HDC.out.below HX.out.2)
  obtain ⟨m0, m1, m2, m3⟩ := Blk.four HX.out.1
  go_wp2_with (fail)
  refine Calls.mono (HM.out _ HD.out HDD.out) ?_
  rintro e w5 ⟨rfl, hb5⟩
  have HD5 := Lib.hid (HD.out.below hb5)
  have HB5 := Lib.hid (bel_on HX.out.2 hb5)
  have hbl5 := (hb5.block _ (blk_lt HX.out.1)).trans HX.out.1
  obtain ⟨p0, -, -, -⟩ := Blk.four hbl5
  have HXL := Lib.hid hbl5
  clear hb5 hbl5 m0 m1 m2 m3
  by_cases hm : M = 0
  ·subst hm
   have HZ9 := Lib.hid (show Z = (B, true, took (fin d B) N) by rw [← HZZ.out, if_pos rfl])
   have HA5 := HD5.out.at
   have f5 := HA5.fr 5
   have f8 := HA5.fr 8
   have d5 := HA5.c5
   have d8 := HA5.c8
   have hkd : ((K : Int) == 0) = decide (K = 0) := by
    by_cases hk : K = 0
    ·subst hk; rfl
    ·rw [decide_eq_false hk]; simp; exact hk
   clear HA5
   go_wp2_with (fail)
   have h1 := blk_put HD5.out 5 (.bool (decide (K = 0))) rfl
   have h2 := blk_put h1 8 (.int .i64 ((d.told : Int) + (B.size : Int))) rfl
   have HD6 := Lib.hid (show Dec _ x ⟨db, 0, none⟩ (fin d B) from by rw [HFN.out]; exact h2)
   have HC6 := Lib.hid (((Chg.refl (fun k => k = x) w5).setCell (p := ⟨x, 5, none⟩) (fun _ => rfl) (.bool (decide (K = 0)))).setCell (p := ⟨x, 8, none⟩) (fun _ => rfl) (.int .i64 ((d.told : Int) + (B.size : Int))))
   clear h1 h2
   refine (take_any x _ (fin d B) N _ HD6.out HN.out (by have h1 := HFI.out.2.1; have h2 := HN.out; show d.pos + N < _; omega) HFI.out.1).mono ?_
   rintro e w6 ⟨rfl, hd6, hc6⟩
   have HL := Lib.hid (show Left x ⟨db, 0, none⟩ (took (fin d B) N) w w6 from ⟨hd6, ((Chg.of_below HB5.out).trans HC6.out).trans hc6⟩)
   clear hd6 hc6
   go_wp2_with (fail)
   go_ret2
   exact ⟨by rw [HZ9.out]; rfl, by rw [HZ9.out]; exact HL.out⟩
  ·have e3 : (M != 0) = true := by rw [bne_iff_ne]; exact hm
   have HE := Lib.hid hm
   clear hm
   go_wp2_with (fail)
   refine (wrong_any x _ d M _ HD5.out HE.out).mono ?_
   rintro e w6 ⟨rfl, hd4, hc4⟩
   have HL := Lib.hid (show Left x ⟨db, 0, none⟩ (wrong d M) w w6 from ⟨hd4, (Chg.of_below HB5.out).trans hc4⟩)
   clear hd4 hc4
   have HZ9 := Lib.hid (show Z = (Co.no, false, wrong d M) by rw [← HZZ.out, if_neg HE.out])
   go_wp2_with (fail)
   go_ret2
   exact ⟨by rw [HZ9.out]; rfl, by rw [HZ9.out]; exact HL.out⟩
/-- What next does, if what it meets is told by a payload that it knows. -/
theorem next_any (x db : Nat) (l : List ByteArray) (d : DS) (w : World) (h : Dec w x ⟨db, 0, none⟩ d) (hD : DC w db l) (hok : okTexts l) (hf : Fine d) (h99 : ∀ a, (next (env l) d).2.2.err ≠ some (99, a)) :
  Calls Tryz.prog 67 #[.pointer (some ⟨x, 0, none⟩)] w (NextSays x db (next (env l) d) w) := by
 cases hb : d.begun
 ·exact next_begin x db l d w h hD hok hf hb
 ·by_cases h0 : d.held.size = 0
  ·exact next_empty x db l d w h hb h0
  ·cases hd : d.done
   ·by_cases he : frE d.held d.block = 0
    ·by_cases hk : frKind d.held = 0
     ·refine next_frame x db l d w h hD hf hb h0 hd he ?_ ?_
      ·unfold meant; rw [if_pos hk]; exact Nat.zero_le _
      ·intro W hW _
       refine meant_end x _ l d W hW hk ?_
       unfold frRaw
       rw [if_pos hk]
       have h1 := num_lt (d.held.extract 1 5)
       have h2 : (256 : Nat) ^ (d.held.extract 1 5).size ≤ 256 ^ 4 := Nat.pow_le_pow_right (by decide) (by rw [ByteArray.size_extract]; omega)
       exact Nat.lt_of_lt_of_le h1 h2
     ·have hm : (meant (env l) d).2 ≠ 99 := by
       intro hm
       have hn : next (env l) d = (Co.no, false, wrong d (meant (env l) d).2) := by
        unfold next
        rw [if_neg (by rw [hb]; decide), if_neg h0, if_neg (by rw [hd]; decide), if_neg (by rw [he]; decide), if_neg (by simp [he]), if_pos (by rw [hm]; decide)]
       apply h99 d.pos
       rw [hn, hm]
       rfl
      refine next_frame x db l d w h hD hf hb h0 hd he ?_ ?_
      ·obtain ⟨b, hg, he⟩ := meant_get hk hm
       rw [he]
       have := hg.2.1
       have := hg.2.2.2.1
       show b.size ≤ 1024
       omega
      ·intro W hW hWD
       exact meant_block x db l d W hW hWD hok hk hm
    ·exact next_no x db l d w h hf hb h0 hd he
   ·exact next_done x db l d w h hb h0 hd
end Go.Proofs.YtfbbcfhdjhiejaaGreat.De

/- Chapter 24: the decoder: Feed. -/
namespace Go.Proofs.YtfbbcfhdjhiejaaGreat.De
set_option linter.unusedVariables false
set_option linter.unusedSimpArgs false
open Go.RowKit Go.Proofs.YtfbbcfhdjhiejaaGreatW.PrintWords Go.Proofs.YtfbbcfhdjhiejaaGreatW.PrintMore Go.Proofs.YtfbbcfhdjhiejaaGreat.L Go.Proofs.YtfbbcfhdjhiejaaGreat.Texts Go.Proofs.YtfbbcfhdjhiejaaGreat.Dict Go.Proofs.YtfbbcfhdjhiejaaGreat.Co Go.Proofs.YtfbbcfhdjhiejaaGreat.Fa Go.Proofs.YtfbbcfhdjhiejaaGreat.Fr
/-- Sums stay small while bytes are read. -/
def Small (d : DS) : Prop := d.held.size ≤ 1000000000 ∧ d.pos + d.held.size < 1000000000000 ∧ d.told + 1024 * d.held.size < 1000000000000000 ∧ d.block ≤ 100000
theorem Small.fine {d : DS} (h : Small d) : Fine d := ⟨by have := h.1; omega, by have := h.2.1; omega, by have := h.2.2.1; omega, h.2.2.2⟩
theorem meant_small {l : List ByteArray} {d : DS} (h : (meant (env l) d).2 = 0) : (meant (env l) d).1.size ≤ 1024 := by
 by_cases hk : frKind d.held = 0
 ·unfold meant; rw [if_pos hk]; exact Nat.zero_le _
 ·obtain ⟨b, hg, he⟩ := meant_get hk (by rw [h]; decide)
  rw [he]
  have := hg.2.1
  have := hg.2.2.2.1
  show b.size ≤ 1024
  omega
theorem small_step {l : List ByteArray} {d d' : DS} {b : ByteArray} (hs : Small d) (h : next (env l) d = (b, true, d')) : Small d' := by
 obtain ⟨s1, s2, s3, s4⟩ := hs
 unfold next at h
 split at h
 ·split at h
  ·simp at h
  split at h
  ·simp at h
  split at h
  ·simp at h
  ·rename_i hb h2 h0 hi
   have he : headE d.held = 0 := by simpa using h0
   have h17 := headE_size h2
   simp only [Prod.mk.injEq, true_and] at h
   obtain ⟨_, rfl⟩ := h
   have hbl : headBlock d.held ≤ 1024 := by
    unfold headE at he
    split at he
    ·simp at he
    split at he
    ·simp at he
    split at he
    ·simp at he
    split at he
    ·simp at he
    ·omega
   have hz : ((took (begin_ d) 17).held).size = d.held.size - 17 := by show (d.held.extract 17 d.held.size).size = _; rw [ByteArray.size_extract]; omega
   refine ⟨by rw [hz]; omega, ?_, ?_, ?_⟩
   ·rw [hz]; show d.pos + 17 + _ < _; omega
   ·rw [hz]; show d.told + _ < _; omega
   ·show headBlock d.held ≤ _; omega
 ·split at h
  ·simp at h
  split at h
  ·simp at h
  split at h
  ·simp at h
  split at h
  ·simp at h
  split at h
  ·simp at h
  ·rename_i h2 h0 hm
   have he : frE d.held d.block = 0 := by simpa using h0
   have hm0 : (meant (env l) d).2 = 0 := by simpa using hm
   have hB := meant_small hm0
   obtain ⟨n1, n2, _, _⟩ := frE_zero he
   simp only [Prod.mk.injEq, true_and] at h
   obtain ⟨_, rfl⟩ := h
   have hz : ((took (fin d (meant (env l) d).1) (frN d.held)).held).size = d.held.size - frN d.held := by show (d.held.extract (frN d.held) d.held.size).size = _; rw [ByteArray.size_extract]; omega
   refine ⟨by rw [hz]; omega, ?_, ?_, s4⟩
   ·rw [hz]; show d.pos + frN d.held + _ < _; omega
   ·rw [hz]; show d.told + (meant (env l) d).1.size + _ < _; omega
theorem run_false {E : Env} {d : DS} (he : d.err = none) (h : (next E d).2.1 = false) : run E d = (Co.no, (next E d).2.2) := by
 rw [run_step E he, if_neg (by rw [h]; decide)]
theorem run_true {E : Env} {d : DS} (he : d.err = none) (h : (next E d).2.1 = true) : run E d = ((next E d).1 ++ (run E (next E d).2.2).1, (run E (next E d).2.2).2) := by
 rw [run_step E he, if_pos h]
set_option maxRecDepth 100000 in
set_option maxHeartbeats 4000000 in
theorem feed_any (x db : Nat) (l : List ByteArray) (d : DS) (b : ByteArray) (w0 w : World) (h : Dec w x ⟨db, 0, none⟩ d) (hD : DC w0 db l) (hb0 : Below w0.heap.size w0 w) (hx : w0.heap.size ≤ x) (hok : okTexts l) (he : d.err = none) (hs : Small (add d b)) (hz : (run (env l) (add d b)).1.size ≤ 1000000000000000)
  (h99 : ∀ a, (run (env l) (add d b)).2.err ≠ some (99, a)) :
  Calls Tryz.prog 33 #[.pointer (some ⟨x, 0, none⟩), .string b] w fun e w' => e = .returned (.tuple #[.string (run (env l) (add d b)).1, errV (run (env l) (add d b)).2.err]) ∧ Left x ⟨db, 0, none⟩ (run (env l) (add d b)).2 w w' := by
 have HA := h.at
 have c6 := HA.c6
 have f6 := HA.fr 6
 have c9 := HA.c9
 rw [he] at c9
 replace c9 : w.cell? ⟨x, 9, none⟩ = some .nilIface := c9
 have q1 := neq_nil
 have H := Lib.hid h
 have HE := Lib.hid he
 have HS := Lib.hid hs
 have hzz : ¬ 9223372036854775807 < d.held.size + b.size := by have := hs.1; show ¬ _; rw [show (add d b).held.size = d.held.size + b.size from ByteArray.size_append ..] at this; omega
 obtain ⟨R, hR⟩ : ∃ R, run (env l) (add d b) = R := ⟨_, rfl⟩
 rw [hR] at hz h99 ⊢
 have HR := Lib.hid hR
 have H99 := Lib.hid h99
 have HRZ := Lib.hid hz
 clear h HA he hs hR h99 hz
 go_enter Tryz.func33, Tryz.ntmps33
 go_wp2_with (fail)
 refine (none_any x _ d _ H.out).mono ?_
 rintro e w1 ⟨rfl, rfl⟩
 have HD0 := Lib.hid (show Dec (w1.setCell ⟨x, 6, none⟩ (.string (d.held ++ b))) x ⟨db, 0, none⟩ (add d b) from blk_put H.out 6 (.string (d.held ++ b)) rfl)
 have HC0 := Lib.hid ((Chg.refl (fun k => k = x) w1).setCell (p := ⟨x, 6, none⟩) (fun _ => rfl) (.string (d.held ++ b)))
 have HDC := Lib.hid hD
 have HB0 := Lib.hid hb0
 clear hD hb0
 go_wp2_with (fail)
 go_loopg [6] (add d b).held.size (fun j o wr => ∃ (d' : DS) (s : ByteArray), o = .string s ∧ Hid (d'.held.size ≤ j ∧ d'.err = none ∧ Small d' ∧ R = (s ++ (run (env l) d').1, (run (env l) d').2) ∧ Dec wr x ⟨db, 0, none⟩ d' ∧ Chg (fun k => k = x) w1 wr))
 case atStart => exact ⟨add d b, Co.no, rfl, Nat.le_refl _, HE.out, HS.out, by rw [HR.out, no_app], HD0.out, HC0.out⟩
 case round =>
  obtain ⟨d', s, rfl, HI⟩ := hrel
  obtain ⟨hj, he, hsm, hRR, hd, hc⟩ := HI.out
  have hDw : DC wr db l := HDC.out.below (HB0.out.trans (hc.below HB0.out.size (fun k hk => by rw [hk]; exact hx)))
  cases hm : (next (env l) d').2.1
  ·have hrun := run_false he hm
   have HNX := Lib.hid (next_any x db l d' wr hd hDw hok hsm.fine (by rw [hRR, hrun] at H99; exact H99.out))
   have HRR := Lib.hid (show R = (s, (next (env l) d').2.2) by rw [hRR, hrun, app_no])
   obtain ⟨N, hN⟩ : ∃ N, next (env l) d' = N := ⟨_, rfl⟩
   rw [hN] at HNX HRR hm
   obtain ⟨n1, n2, n3⟩ := N
   dsimp only at hm HRR
   subst hm
   have HC := Lib.hid hc
   clear hj he hsm hRR hd hc hDw hrun hN HI
   go_wp2_with (fail)
   refine Calls.mono HNX.out ?_
   rintro e w2 ⟨rfl, hd2, hc2⟩
   dsimp only at hd2
   have c9 := hd2.at.c9
   have HL := Lib.hid (show Left x ⟨db, 0, none⟩ n3 w1 w2 from ⟨hd2, HC.out.trans hc2⟩)
   clear hd2 hc2
   go_wp2_with (fail)
   go_quiet (fail)
   go_wp2_with (fail)
   go_ret2
   rw [HRR.out]
   exact ⟨rfl, HL.out.1, HL.out.2.drewN _⟩
  ·have hcs := next_cases (env l) d' he
   have hstep : ∃ b' d2, next (env l) d' = (b', true, d2) ∧ d2.err = none ∧ d2.held.size < d'.held.size := by
    rcases hcs with ⟨h1, _⟩ | ⟨e, h1, _⟩ | ⟨b', d2, h1, h2, h3, _⟩
    ·rw [h1] at hm; cases hm
    ·rw [h1] at hm; cases hm
    ·exact ⟨b', d2, h1, h2, h3⟩
   obtain ⟨b', d2, hn, he2, hlt⟩ := hstep
   have hrun := run_true he hm
   rw [hn] at hrun
   dsimp only at hrun
   have HNX := Lib.hid (next_any x db l d' wr hd hDw hok hsm.fine (by rw [hn]; intro a; show d2.err ≠ _; rw [he2]; intro h; cases h))
   have HRR := Lib.hid (show R = ((s ++ b') ++ (run (env l) d2).1, (run (env l) d2).2) by rw [hRR, hrun, ByteArray.append_assoc])
   have HSM := Lib.hid (small_step hsm hn)
   rw [hn] at HNX
   have hz2 : ¬ 9223372036854775807 < s.size + b'.size := by
    have h1 := HRZ.out
    rw [HRR.out] at h1
    have h2 : (s ++ b').size ≤ ((s ++ b') ++ (run (env l) d2).1).size := by have := @ByteArray.size_append (s ++ b') (run (env l) d2).1; omega
    have h3 : (s ++ b').size = s.size + b'.size := ByteArray.size_append ..
    dsimp only at h1
    omega
   have HC := Lib.hid hc
   have HJ := Lib.hid (show d2.held.size < gk by omega)
   have HE2 := Lib.hid he2
   clear hj he hsm hRR hd hc hDw hrun HI hcs hm hn hlt he2
   go_wp2_with (fail)
   refine Calls.mono HNX.out ?_
   rintro e w2 ⟨rfl, hd2, hc2⟩
   dsimp only at hd2
   have HD2 := Lib.hid hd2
   have HC2 := Lib.hid (HC.out.trans hc2)
   clear hd2 hc2
   go_wp2_with (fail)
   go_roundg d2.held.size
   case measure => exact HJ.out
   case rel => exact ⟨d2, _, rfl, Nat.le_refl _, HE2.out, HSM.out, HRR.out, HD2.out, HC2.out⟩
end Go.Proofs.YtfbbcfhdjhiejaaGreat.De

/- Chapter 24: the decoder: Finish, Decode. -/
namespace Go.Proofs.YtfbbcfhdjhiejaaGreat.De
set_option linter.unusedVariables false
set_option linter.unusedSimpArgs false
open Go.RowKit Go.Proofs.YtfbbcfhdjhiejaaGreatW.PrintWords Go.Proofs.YtfbbcfhdjhiejaaGreatW.PrintMore Go.Proofs.YtfbbcfhdjhiejaaGreat.L Go.Proofs.YtfbbcfhdjhiejaaGreat.Texts Go.Proofs.YtfbbcfhdjhiejaaGreat.Dict Go.Proofs.YtfbbcfhdjhiejaaGreat.Co Go.Proofs.YtfbbcfhdjhiejaaGreat.Fa Go.Proofs.YtfbbcfhdjhiejaaGreat.Fr
set_option maxRecDepth 100000 in
theorem finish_ok (x : Nat) (p : Addr) (d : DS) (w : World) (h : Dec w x p d) (he : d.err = none) (hd : d.done = true) : Calls Tryz.prog 48 #[.pointer (some ⟨x, 0, none⟩)] w fun e w' => e = .returned .nilIface ∧ w' = w := by
 have c5 := h.at.c5
 have c9 := h.at.c9
 rw [hd] at c5
 rw [he] at c9
 replace c9 : w.cell? ⟨x, 9, none⟩ = some .nilIface := c9
 have q1 := neq_nil
 have H := Lib.hid h
 clear h hd he
 go_enter Tryz.func48, Tryz.ntmps48
 go_wp2_with (fail)
 refine (none_any x p d _ H.out).mono ?_
 rintro e w1 ⟨rfl, rfl⟩
 go_wp2_with (fail)
 go_ret
 exact ⟨rfl, rfl⟩
theorem no_add (b : ByteArray) : add d0 b = { d0 with held := b } := by
 unfold add
 rw [show d0.held = Co.no from rfl, no_app]
theorem small_new {b : ByteArray} (h : b.size ≤ 1000000) : Small (add d0 b) := by
 rw [no_add]
 refine ⟨by show b.size ≤ _; omega, by show 0 + b.size < _; omega, by show 0 + 1024 * b.size < _; omega, Nat.zero_le _⟩
end Go.Proofs.YtfbbcfhdjhiejaaGreat.De

/- Chapter 24, plain: a decoder in pieces. -/
namespace Go.Proofs.YtfbbcfhdjhiejaaGreat.De
set_option linter.unusedVariables false
set_option linter.unusedSimpArgs false
open Go.RowKit Go.Proofs.YtfbbcfhdjhiejaaGreatW.PrintWords Go.Proofs.YtfbbcfhdjhiejaaGreatW.PrintMore Go.Proofs.YtfbbcfhdjhiejaaGreat.L Go.Proofs.YtfbbcfhdjhiejaaGreat.Texts Go.Proofs.YtfbbcfhdjhiejaaGreat.Dict Go.Proofs.YtfbbcfhdjhiejaaGreat.Co Go.Proofs.YtfbbcfhdjhiejaaGreat.Fa Go.Proofs.YtfbbcfhdjhiejaaGreat.Fr
/-- Small, by how many bytes came. -/
def Sm (k : Nat) (d : DS) : Prop := d.held.size ≤ k ∧ d.pos + d.held.size ≤ k ∧ d.told + 1024 * d.held.size ≤ 1024 * k ∧ d.block ≤ 100000
theorem Sm.small {k : Nat} {d : DS} (h : Sm k d) (hk : k ≤ 100000000) : Small d := ⟨by have := h.1; omega, by have := h.2.1; omega, by have := h.2.2.1; omega, h.2.2.2⟩
theorem Sm.plus {k : Nat} {d : DS} (h : Sm k d) (t : ByteArray) : Sm (k + t.size) (add d t) := by
 obtain ⟨h1, h2, h3, h4⟩ := h
 have hz : (add d t).held.size = d.held.size + t.size := ByteArray.size_append ..
 refine ⟨by rw [hz]; omega, by rw [hz]; show d.pos + _ ≤ _; omega, by rw [hz]; show d.told + _ ≤ _; omega, h4⟩
theorem sm_step {l : List ByteArray} {k : Nat} {d d' : DS} {b : ByteArray} (hs : Sm k d) (h : next (env l) d = (b, true, d')) : Sm k d' ∧ d'.told = d.told + b.size := by
 obtain ⟨s1, s2, s3, s4⟩ := hs
 unfold next at h
 split at h
 ·split at h
  ·simp at h
  split at h
  ·simp at h
  split at h
  ·simp at h
  ·rename_i hb h2 h0 hi
   have he : headE d.held = 0 := by simpa using h0
   have h17 := headE_size h2
   simp only [Prod.mk.injEq, true_and] at h
   obtain ⟨rfl, rfl⟩ := h
   have hbl : headBlock d.held ≤ 1024 := by
    unfold headE at he
    split at he
    ·simp at he
    split at he
    ·simp at he
    split at he
    ·simp at he
    split at he
    ·simp at he
    ·omega
   have hz : ((took (begin_ d) 17).held).size = d.held.size - 17 := by show (d.held.extract 17 d.held.size).size = _; rw [ByteArray.size_extract]; omega
   refine ⟨⟨by rw [hz]; omega, ?_, ?_, ?_⟩, rfl⟩
   ·rw [hz]; show d.pos + 17 + _ ≤ _; omega
   ·rw [hz]; show d.told + _ ≤ _; omega
   ·show headBlock d.held ≤ _; omega
 ·split at h
  ·simp at h
  split at h
  ·simp at h
  split at h
  ·simp at h
  split at h
  ·simp at h
  split at h
  ·simp at h
  ·rename_i h2 h0 hm
   have he : frE d.held d.block = 0 := by simpa using h0
   have hm0 : (meant (env l) d).2 = 0 := by simpa using hm
   have hB := meant_small hm0
   obtain ⟨n1, n2, _, _⟩ := frE_zero he
   simp only [Prod.mk.injEq, true_and] at h
   obtain ⟨rfl, rfl⟩ := h
   have hz : ((took (fin d (meant (env l) d).1) (frN d.held)).held).size = d.held.size - frN d.held := by show (d.held.extract (frN d.held) d.held.size).size = _; rw [ByteArray.size_extract]; omega
   refine ⟨⟨by rw [hz]; omega, ?_, ?_, s4⟩, rfl⟩
   ·rw [hz]; show d.pos + frN d.held + _ ≤ _; omega
   ·rw [hz]; show d.told + (meant (env l) d).1.size + _ ≤ _; omega
theorem sm_run {l : List ByteArray} {k : Nat} : ∀ (n : Nat) (d : DS), d.held.size ≤ n → Sm k d → d.err = none → (run (env l) d).2.err = none → Sm k (run (env l) d).2 ∧ (run (env l) d).2.told = d.told + (run (env l) d).1.size
 | n, d, hn, hs, he, hr => by
   rw [run_step (env l) he] at hr ⊢
   rcases next_cases (env l) d he with ⟨h, _⟩ | ⟨e, h, _⟩ | ⟨b, d', h, he', hl, _⟩
   ·rw [h] at hr ⊢
    dsimp only at hr ⊢
    rw [if_neg (by decide)]
    exact ⟨hs, rfl⟩
   ·rw [h] at hr
    dsimp only at hr
    rw [if_neg (by decide)] at hr
    cases hr
   ·rw [h] at hr ⊢
    dsimp only at hr ⊢
    rw [if_pos rfl] at hr ⊢
    obtain ⟨h1, h2⟩ := sm_step hs h
    cases n with
    | zero => omega
    | succ n =>
      obtain ⟨h3, h4⟩ := sm_run n d' (by omega) h1 he' hr
      refine ⟨h3, ?_⟩
      show (run (env l) d').2.told = d.told + (b ++ (run (env l) d').1).size
      rw [h4, h2, ByteArray.size_append, Nat.add_assoc]
/-- A decoder that was fed, and what is to come. -/
structure Way (l : List ByteArray) (R : ByteArray × DS) (all : Nat) (d : DS) (s rest : ByteArray) : Prop where
 err : d.err = none
 sm : Sm (all - rest.size) d
 le : rest.size ≤ all
 out : s.size = d.told
 stay : run (env l) d = (Co.no, d)
 go : R = (s ++ (run (env l) (add d rest)).1, (run (env l) (add d rest)).2)
theorem add_add (d : DS) (a b : ByteArray) : add (add d a) b = add d (a ++ b) := by
 unfold add
 dsimp only
 rw [ByteArray.append_assoc]
theorem add_none (d : DS) : add d Co.no = d := by
 unfold add
 rw [app_no]
theorem Way.begin (l : List ByteArray) (b : ByteArray) : Way l (run (env l) (add d0 b)) b.size d0 Co.no b := by
 refine ⟨rfl, ⟨by rw [Nat.sub_self]; exact Nat.le_refl _, by rw [Nat.sub_self]; exact Nat.le_refl _, by rw [Nat.sub_self]; exact Nat.le_refl _, Nat.zero_le _⟩, Nat.le_refl _, rfl, ?_, by rw [no_app]⟩
 have hn : next (env l) d0 = (Co.no, false, d0) := by
  unfold next
  rw [if_pos (show d0.begun = false from rfl), if_pos (by decide)]
 exact run_false rfl (by rw [hn]) |>.trans (by rw [hn])
theorem Way.end {l : List ByteArray} {R : ByteArray × DS} {all : Nat} {d : DS} {s rest : ByteArray} (h : Way l R all d s rest) (h0 : rest.size = 0) : R = (s, d) := by
 rw [h.go, eq_no h0, add_none, h.stay, app_no]
theorem Way.step {l : List ByteArray} {R : ByteArray × DS} {all : Nat} {d : DS} {s rest : ByteArray} (h : Way l R all d s rest) (hR : R.2.err = none) (n : Nat) (hn : n ≤ rest.size) (ha : all ≤ 100000000) :
  (run (env l) (add d (rest.extract 0 n))).2.err = none ∧ Small (add d (rest.extract 0 n)) ∧ (run (env l) (add d (rest.extract 0 n))).1.size ≤ 1000000000000000 ∧ (s ++ (run (env l) (add d (rest.extract 0 n))).1).size ≤ 1000000000000000 ∧ (run (env l) (add d (rest.extract 0 n))).2.held.size < 1033 ∧
  Way l R all (run (env l) (add d (rest.extract 0 n))).2 (s ++ (run (env l) (add d (rest.extract 0 n))).1) (rest.extract n rest.size) := by
 obtain ⟨h1, h2, h3, h6, h4, h5⟩ := h
 have hj : rest.extract 0 n ++ rest.extract n rest.size = rest := by
  rw [ByteArray.extract_append_extract]
  have e1 : min 0 n = 0 := by omega
  have e2 : max n rest.size = rest.size := by omega
  rw [e1, e2, ByteArray.extract_zero_size]
 have hp : (rest.extract 0 n).size = n := by rw [ByteArray.size_extract]; omega
 have hq : (rest.extract n rest.size).size = rest.size - n := by rw [ByteArray.size_extract]; omega
 obtain ⟨p, hpp⟩ : ∃ p, rest.extract 0 n = p := ⟨_, rfl⟩
 obtain ⟨q, hqq⟩ : ∃ q, rest.extract n rest.size = q := ⟨_, rfl⟩
 rw [hpp, hqq] at hj
 rw [hpp] at hp ⊢
 rw [hqq] at hq ⊢
 have hea : (add d p).err = none := h1
 have hra := run_add (env l) (add d p).held.size (add d p) q (Nat.le_refl _) hea
 rw [add_add, hj] at hra
 have hno : (run (env l) (add d p)).2.err = none := by
  cases hx : (run (env l) (add d p)).2.err with
  | none => rfl
  | some x =>
    rw [hx, if_pos (show (some x).isSome = true from rfl)] at hra
    rw [h5, hra] at hR
    rw [hx] at hR
    cases hR
 rw [if_neg (by rw [hno]; decide)] at hra
 have hsm := h2.plus p
 have hk : all - rest.size + p.size = all - q.size := by omega
 rw [hk] at hsm
 obtain ⟨hs1, hs2⟩ := sm_run _ (add d p) (Nat.le_refl _) hsm hea hno
 have hh := run_held (env l) _ (add d p) (Nat.le_refl _) hea
 have ht : (run (env l) (add d p)).1.size ≤ 1024 * all := by
  have := hs1.2.2.1
  omega
 have hst : run (env l) (run (env l) (add d p)).2 = (Co.no, (run (env l) (add d p)).2) := by
  have hn2 := hh.2 hno
  exact (run_false hno (by rw [hn2])).trans (by rw [hn2])
 refine ⟨hno, hsm.small (by omega), by omega, ?_, hh.1, hno, hs1, by omega, by rw [hs2, ByteArray.size_append, h6]; rfl, hst, ?_⟩
 ·rw [ByteArray.size_append, h6]
  have := hs1.2.2.1
  have e : (add d p).told = d.told := rfl
  omega
 ·rw [h5, hra, ByteArray.append_assoc]
end Go.Proofs.YtfbbcfhdjhiejaaGreat.De

/- Chapter 24: a decoder that is fed in pieces (the law's own). -/
namespace Go.Proofs.YtfbbcfhdjhiejaaGreat.De
set_option linter.unusedVariables false
set_option linter.unusedSimpArgs false
open Go.RowKit Go.Proofs.YtfbbcfhdjhiejaaGreatW.PrintWords Go.Proofs.YtfbbcfhdjhiejaaGreatW.PrintMore Go.Proofs.YtfbbcfhdjhiejaaGreat.L Go.Proofs.YtfbbcfhdjhiejaaGreat.Texts Go.Proofs.YtfbbcfhdjhiejaaGreat.Dict Go.Proofs.YtfbbcfhdjhiejaaGreat.Co Go.Proofs.YtfbbcfhdjhiejaaGreat.Fa Go.Proofs.YtfbbcfhdjhiejaaGreat.Fr
set_option maxRecDepth 100000 in
set_option maxHeartbeats 4000000 in
theorem feed_all (db : Nat) (l : List ByteArray) (b : ByteArray) (A : Option Addr) (m c : Nat) (cuts : List Int) (w : World) (hD : DC w db l) (hok : okTexts l) (hC : Ints.KI.C w A m cuts) (hb : b.size ≤ 1000000) (hm : m ≤ 1000000) (he : (run (env l) (add d0 b)).2.err = none) (hd : (run (env l) (add d0 b)).2.done = true) :
  Calls Tryz.prog 18 #[.pointer (some ⟨db, 0, none⟩), .string b, .slice A m c] w fun e w' => e = .returned (.tuple #[.string (run (env l) (add d0 b)).1, .nilIface, .bool true]) ∧ Below w.heap.size w w' := by
 have HW0 := Lib.hid (Way.begin l b)
 obtain ⟨R, hR⟩ : ∃ R, run (env l) (add d0 b) = R := ⟨_, rfl⟩
 rw [hR] at HW0 he hd ⊢
 have HE := Lib.hid he
 have HD := Lib.hid hd
 have HDC := Lib.hid hD
 have HC := Lib.hid hC
 have HML := Lib.hid (Ints.ki_len hC)
 have HBS := Lib.hid hb
 have HM := Lib.hid hm
 have HOK := Lib.hid hok
 have q1 := eql_nil
 have q2 := neq_nil
 clear hR he hd hD hC hb hm hok
 go_enter Tryz.func18, Tryz.ntmps18
 go_wp2_with (fail)
 refine (De.new_any ⟨db, 0, none⟩ w).mono ?_
 rintro e w1 ⟨rfl, hd1, hb1⟩
 have HD1 := Lib.hid hd1
 have HB1 := Lib.hid hb1
 clear hd1 hb1
 go_wp2_with (fail)
 go_loopg [1, 11, 12, 13] (b.size + m) (fun j x o f i wr => ∃ (d' : DS) (s rest : ByteArray) (k : Nat), x = .string rest ∧ o = .string s ∧ f = .nilIface ∧ i = .int .i64 (k : Int) ∧ Hid (rest.size + (m - k) ≤ j ∧ k ≤ m + 1 ∧ (m < k → rest.size = 0) ∧ Way l R b.size d' s rest ∧ Dec wr w.heap.size ⟨db, 0, none⟩ d' ∧ Below w.heap.size w wr))
 case atStart => exact ⟨d0, Co.no, b, 0, rfl, rfl, rfl, rfl, by omega, by omega, by omega, HW0.out, HD1.out, HB1.out⟩
 case round =>
  obtain ⟨d', s, rest, k, rfl, rfl, rfl, rfl, HI⟩ := hrel
  obtain ⟨hj, hk1, hk2, hway, hd, hbw⟩ := HI.out
  by_cases h0 : rest.size = 0
  ·have e1 := empty_to h0
   have HRR := Lib.hid (hway.end h0)
   have HDD := Lib.hid hd
   have HB := Lib.hid hbw
   have HFD := Lib.hid (show d'.err = none ∧ d'.done = true by have h1 := HE.out; have h2 := HD.out; rw [HRR.out] at h1 h2; exact ⟨h1, h2⟩)
   have HDN := Lib.hid (fun W hx => show Calls Tryz.prog 49 #[.pointer (some ⟨w.heap.size, 0, none⟩)] W fun e w' => e = .returned (.bool true) ∧ w' = W from (done_any w.heap.size ⟨db, 0, none⟩ d' W hx).mono (by
    rintro e w' ⟨rfl, rfl⟩
    exact ⟨by rw [HFD.out.1, HFD.out.2]; rfl, rfl⟩))
   clear hj hk1 hk2 hway hd hbw h0 HI
   go_wp2_with (fail)
   refine (finish_ok w.heap.size _ _ _ HDD.out HFD.out.1 HFD.out.2).mono ?_
   rintro e w3 ⟨rfl, rfl⟩
   go_upto_region 20 with (fail)
   go_quiet ((go_at_call 49; exact Calls.quiet_of_same (HDN.out _ (by exact HDD.out))))
   go_wp2_with (fail)
   rw [HRR.out]
   exact bodyPost_ret (v := .tuple #[.string s, .nilIface, .bool true]) (by simp [results, Tryz.results18, go_sem]) rfl ⟨rfl, bel_drewN HB.out _⟩
  ·have e1 := full_to h0
   have hkm : k ≤ m := by omega
   obtain ⟨nn, hnn⟩ : ∃ nn : Nat, nn = if k < m then (min (max (cuts.getD k 0) 0) (rest.size : Int)).toNat else rest.size := ⟨_, rfl⟩
   have hnl : nn ≤ rest.size := by rw [hnn]; split <;> omega
   obtain ⟨p1, p2, p3, p4, p5, p6⟩ := hway.step HE.out nn hnl (by have := HBS.out; omega)
   have hdcw : DC wr db l := HDC.out.below hbw
   have HFE := Lib.hid (feed_any w.heap.size db l d' (rest.extract 0 nn) w wr hd HDC.out hbw (Nat.le_refl _) HOK.out hway.err p2 p3 (by rw [p1]; intro a h; cases h))
   obtain ⟨R2, hR2⟩ : ∃ R2, run (env l) (add d' (rest.extract 0 nn)) = R2 := ⟨_, rfl⟩
   rw [hR2] at p1 p3 p4 p5 p6 HFE
   have HP1 := Lib.hid p1
   have HP6 := Lib.hid p6
   have hzz : ¬ 9223372036854775807 < s.size + R2.1.size := by rw [ByteArray.size_append] at p4; omega
   have hh1 : ¬ ((R2.2.held.size : Int) < 0) := by omega
   have hh2 : ¬ ((1033 : Int) < (R2.2.held.size : Int)) := by omega
   have HB := Lib.hid hbw
   have HDD := Lib.hid hd
   have hq : (rest.extract nn rest.size).size = rest.size - nn := by rw [ByteArray.size_extract]; omega
   have HJ := Lib.hid (show (rest.extract nn rest.size).size + (m - (k + 1)) < gk ∧ k + 1 ≤ m + 1 ∧ (m < k + 1 → (rest.extract nn rest.size).size = 0) by
    rw [hq]
    by_cases hlt : k < m
    ·rw [if_pos hlt] at hnn; omega
    ·rw [if_neg hlt] at hnn; omega)
   have n0 : (0 : Int) ≤ (nn : Int) := by omega
   have n1 : (nn : Int) ≤ (rest.size : Int) := by omega
   have hkw : wrap64 ((k : Int) + 1) = ((k + 1 : Nat) : Int) := by have := HM.out; unfold wrap64; omega
   clear hj hk1 hk2 hway hd hbw h0 HI p1 p2 p3 p4 p5 p6 hR2 hdcw hq
   by_cases hlt : k < m
   ·obtain ⟨ad, rfl, hcell⟩ := Ints.ints_at (Kd.C_below HC.out HB.out) k hlt
    have k0 : (0 : Int) ≤ (k : Int) := by omega
    have k1 : (k : Int) < (m : Int) := by omega
    rw [if_pos hlt] at hnn
    obtain ⟨v, hv⟩ : ∃ v, cuts.getD k 0 = v := ⟨_, rfl⟩
    rw [hv] at hnn hcell
    have hmm : min (max v 0) (rest.size : Int) = (nn : Int) := by omega
    clear hnn hlt hv
    go_wp2_with (fail)
    refine Calls.mono HFE.out ?_
    rintro e w5 ⟨rfl, hd5, hc5⟩
    rw [HP1.out, show errV none = .nilIface from rfl]
    have HD5 := Lib.hid hd5
    have HB5 := Lib.hid (HB.out.trans (hc5.below HB.out.size (fun k hk => by rw [hk]; exact Nat.le_refl _)))
    clear hd5 hc5 hcell
    go_wp2_with (first | (go_at_call 35; (with_reducible refine Calls.mono (held_any w.heap.size ⟨db, 0, none⟩ R2.2 _ HD5.out) ?_); rintro e w6 ⟨rfl, rfl⟩))
    go_roundg ((rest.extract nn rest.size).size + (m - (k + 1)))
    case measure => exact HJ.out.1
    case rel => exact ⟨R2.2, _, _, k + 1, rfl, rfl, rfl, by rw [hkw], Nat.le_refl _, HJ.out.2.1, HJ.out.2.2, HP6.out, HD5.out, HB5.out⟩
   ·have hlt2 : ¬ ((k : Int) < (m : Int)) := by omega
    rw [if_neg hlt] at hnn
    have hx1 : rest.extract 0 nn = rest := by rw [hnn, ByteArray.extract_zero_size]
    have hx2 : rest.extract nn rest.size = Co.no := Co.eq_no (by rw [ByteArray.size_extract]; omega)
    rw [hx1] at HFE
    rw [hx2] at HP6 HJ
    clear hnn hx1 hx2 hnl n0 n1
    go_wp2_with (fail)
    refine Calls.mono HFE.out ?_
    rintro e w5 ⟨rfl, hd5, hc5⟩
    rw [HP1.out, show errV none = .nilIface from rfl]
    have HD5 := Lib.hid hd5
    have HB5 := Lib.hid (HB.out.trans (hc5.below HB.out.size (fun k hk => by rw [hk]; exact Nat.le_refl _)))
    clear hd5 hc5
    go_wp2_with (first | (go_at_call 35; (with_reducible refine Calls.mono (held_any w.heap.size ⟨db, 0, none⟩ R2.2 _ HD5.out) ?_); rintro e w6 ⟨rfl, rfl⟩))
    go_roundg (Co.no.size + (m - (k + 1)))
    case measure => exact HJ.out.1
    case rel => exact ⟨R2.2, _, Co.no, k + 1, rfl, rfl, rfl, by rw [hkw], Nat.le_refl _, HJ.out.2.1, HJ.out.2.2, HP6.out, HD5.out, HB5.out⟩
end Go.Proofs.YtfbbcfhdjhiejaaGreat.De
