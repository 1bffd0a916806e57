/- Of the parts BlockD, BlockE, DecA, EncA, EncB, EncC, EncD, EncE, EncF, EncG, EncH: what the rows use. -/
import Derived.Test.YtfbbcfhdjhiejaaGreatZa1
import Derived.Test.YtfbbcfhdjhiejaaGreatZa3
import Derived.Test.YtfbbcfhdjhiejaaGreatZa5
import Derived.Test.YtfbbcfhdjhiejaaGreatZa6
import Derived.Test.YtfbbcfhdjhiejaaGreatZa14
import Derived.Deep.RegionHeld3
/- Chapter 22: what a payload of numbers means. -/
namespace Go.Proofs.YtfbbcfhdjhiejaaGreat.Blk
set_option linter.unusedVariables false
set_option linter.unusedSimpArgs false
open Go.RowKit Go.Proofs.YtfbbcfhdjhiejaaGreatW.PrintWords Go.Proofs.YtfbbcfhdjhiejaaGreatW.PrintMore Go.Proofs.YtfbbcfhdjhiejaaGreat.L Go.Proofs.YtfbbcfhdjhiejaaGreat.Texts Go.Proofs.YtfbbcfhdjhiejaaGreat.Dict Go.Proofs.YtfbbcfhdjhiejaaGreat.Ints
def numsC : List Int → ByteArray
 | [] => ⟨#[]⟩
 | t :: ts => Vari.numS t ++ numsC ts
theorem numsF_C : ∀ (ts : List Int) (s : ByteArray), ts.foldl (fun s t => s ++ Vari.numS t) s = s ++ numsC ts
 | [], s => (ByteArray.append_empty).symm
 | t :: ts, s => by
   rw [List.foldl_cons, numsF_C ts]
   show s ++ Vari.numS t ++ numsC ts = s ++ (Vari.numS t ++ numsC ts)
   rw [ByteArray.append_assoc]
theorem numsB_C (ts : List Int) : numsB ts = numsC ts := by
 unfold numsB
 rw [numsF_C]
 exact ByteArray.empty_append
theorem numsC_size (ts : List Int) : (numsC ts).size ≤ 5 * ts.length := by rw [← numsB_C]; exact numsB_size ts
theorem getN_num {t : Int} (h : 0 ≤ t ∧ t ≤ 4294967295) (r : ByteArray) : Vari.getN (Vari.numS t ++ r) = (t, (((Vari.numS t).size : Nat) : Int), 0) := by
 unfold Vari.getN
 have hc : t < VariSpec.cap 4 := by simp only [VariSpec.cap]; omega
 have hn : Vari.numS t = strOfNums (VariSpec.encN 4 t) := by
  unfold Vari.numS Vari.okN
  rw [if_pos (decide_eq_true h)]
 rw [hn, VariSpec.bytesOf_append, VariSpec.bytesOf_str _ (VariSpec.encN_bytes 4 t h.1 hc), VariSpec.dec_enc 4 0 t 0 _ rfl h.1 hc (fun h => by omega), strOfNums_size]
 simp
/-- A source of numbers. -/
def NS (w : World) (b : Nat) (ts : List Int) : Prop := w.heap[b]? = some (.cells #[.string (numsC ts), .pointer none, .pointer none, .int .i64 0] 230 (0, 0))
theorem NS.at {w : World} {b : Nat} {ts : List Int} (h : NS w b ts) : (w.cell? ⟨b, 0, none⟩ = some (.string (numsC ts)) ∧ w.cell? ⟨b, 1, none⟩ = some (.pointer none) ∧ w.cell? ⟨b, 2, none⟩ = some (.pointer none) ∧ w.cell? ⟨b, 3, none⟩ = some (.int .i64 0)) ∧
  (w.frozen? ⟨b, 0, none⟩ = false ∧ w.frozen? ⟨b, 3, none⟩ = false) := by
 refine ⟨four h, ?_, ?_⟩ <;> simp [World.frozen?, show w.heap[b]? = _ from h]
theorem NS.below {w w' : World} {b : Nat} {ts : List Int} (h : NS w b ts) (hb : Below w.heap.size w w') : NS w' b ts := (hb.block _ (blk_lt h)).trans h
set_option maxRecDepth 100000 in
set_option maxHeartbeats 2000000 in
theorem next_num (b : Nat) (t : Int) (ts : List Int) (w : World) (h : NS w b (t :: ts)) (ht : 0 ≤ t ∧ t ≤ 4294967295) (hl : ts.length ≤ 100000) :
  Calls Tryz.prog 170 #[.pointer (some ⟨b, 0, none⟩)] w fun e w' => e = .returned (.int .i64 t) ∧ NS w' b ts ∧ Chg (fun k => k = b) w w' := by
 obtain ⟨⟨c0, c1, c2, c3⟩, f0, f3⟩ := h.at
 have H := Lib.hid h
 have hc : numsC (t :: ts) = Vari.numS t ++ numsC ts := rfl
 have HG := Lib.hid (getN_num ht (numsC ts))
 have HE := Lib.hid (Co.ext_right (Vari.numS t) (numsC ts) (Vari.numS t).size (Vari.numS t ++ numsC ts).size rfl (by rw [ByteArray.size_append]))
 have hz := Vari.numS_size t
 have hz2 := numsC_size ts
 rw [hc] at c0
 obtain ⟨S, hS⟩ : ∃ S, Vari.numS t ++ numsC ts = S := ⟨_, rfl⟩
 have hss : S.size = (Vari.numS t).size + (numsC ts).size := by rw [← hS, ByteArray.size_append]
 rw [hS] at c0 HG HE
 obtain ⟨n, hn⟩ : ∃ n, (Vari.numS t).size = n := ⟨_, rfl⟩
 rw [hn] at HG HE hss hz
 have hn0 : (0 : Int) ≤ (n : Int) := by omega
 have hn1 : (n : Int) ≤ (S.size : Int) := by omega
 have hn2 : ((n : Int)).toNat = n := by omega
 have HSZ := Lib.hid (show S.size ≤ 140737488351232 by omega)
 clear h hc hS hn hz hz2 hss
 go_enter Tryz.func170, Tryz.ntmps170
 go_wp2_with (fail)
 refine (Vari.get_any S _ HSZ.out).mono ?_
 rintro e w1 ⟨rfl, rfl⟩
 rw [HG.out]
 dsimp only
 go_wp2_with (fail)
 have hB := H.out
 unfold NS at hB
 have h1 := blk_put hB 0 (.string (S.extract n S.size)) (cs' := #[.string (S.extract n S.size), .pointer none, .pointer none, .int .i64 0]) rfl
 have h2 := blk_put h1 3 (.int .i64 0) (cs' := #[.string (S.extract n S.size), .pointer none, .pointer none, .int .i64 0]) rfl
 rw [HE.out] at h1 h2 ⊢
 have HN := Lib.hid (show NS ((w1.setCell ⟨b, 0, none⟩ (.string (numsC ts))).setCell ⟨b, 3, none⟩ (.int .i64 0)) b ts from h2)
 clear hB h1 h2
 go_ret
 exact ⟨rfl, HN.out, ((Chg.refl (fun k => k = b) w1).setCell (p := ⟨b, 0, none⟩) (fun _ => rfl) _).setCell (p := ⟨b, 3, none⟩) (fun _ => rfl) _⟩
theorem over_num (b : Nat) (w : World) (h : NS w b []) : Calls Tryz.prog 172 #[.pointer (some ⟨b, 0, none⟩)] w fun e w' => e = .returned (.bool true) ∧ w' = w := by
 obtain ⟨⟨c0, c1, c2, c3⟩, f0, f3⟩ := h.at
 have hc : numsC [] = ⟨#[]⟩ := rfl
 rw [hc] at c0
 clear h hc
 go_enter Tryz.func172, Tryz.ntmps172
 go_wp2_with (fail)
 go_ret
 exact ⟨rfl, rfl⟩
theorem open_num (p : Option Addr) (ts : List Int) (w : World) : Calls Tryz.prog 169 #[.pointer p, .int .i64 0, .string (numsC ts)] w fun e w' => e = .returned (.tuple #[.pointer (some ⟨w.heap.size, 0, none⟩), .int .i64 0]) ∧ NS w' w.heap.size ts ∧ Below w.heap.size w w' := by
 go_enter Tryz.func169, Tryz.ntmps169
 go_wp2_with (fail)
 go_ret2
 exact ⟨rfl, heap_alloc_self w _, (Below.refl _ w).alloc (Nat.le_refl _) _⟩
/-! ### meant -/
def meanAll (l : List ByteArray) : List Int → ByteArray
 | [] => ⟨#[]⟩
 | t :: ts => Mean.means l t ++ meanAll l ts
theorem meanAll_append (l : List ByteArray) : ∀ a b, meanAll l (a ++ b) = meanAll l a ++ meanAll l b
 | [], b => ByteArray.empty_append.symm
 | t :: a, b => by
   show Mean.means l t ++ meanAll l (a ++ b) = Mean.means l t ++ meanAll l a ++ meanAll l b
   rw [meanAll_append l a b, ByteArray.append_assoc]
theorem mean_go (l : List ByteArray) (most : Int) (t : Int) (h0 : (Mean.means l t).size ≠ 0) (h1 : ((Mean.means l t).size : Int) ≤ most) : Mean.meanGo l most no [t] = (Mean.means l t, 0) := by
 rw [Mean.meanGo_cons, if_neg h0, if_neg (by rw [show (no : ByteArray).size = 0 from rfl]; omega)]
 show (no ++ Mean.means l t, (0 : Int)) = _
 rw [show no ++ Mean.means l t = Mean.means l t from ByteArray.empty_append]
theorem drop_cons {ts : List Int} {k : Nat} (h : k < ts.length) : ts.drop k = ts.getD k 0 :: ts.drop (k + 1) := by
 rw [List.drop_eq_getElem_cons h, List.getD_eq_getElem?_getD, List.getElem?_eq_getElem h]
 rfl
theorem one_int (w : World) (t : Int) : KI.C (w.alloc (.cells #[.int .i64 t] 3 (0, 0))) (some ⟨w.heap.size, 0, none⟩) 1 [t] :=
 (Kd.R_reads' (Kd.R_of_own (e := 3) (base := 0) (ok := fun _ => True) (enc := Value.int .i64) (h1 := fun _ => rfl) (v := .slice (some ⟨w.heap.size, 0, none⟩) 1 1) (xs := [t]) ⟨rfl, .inr ⟨w.heap.size, 1, #[.int .i64 t], rfl, Nat.zero_le _, heap_alloc_self w _, Nat.le_refl _, by decide, rfl, rfl⟩⟩ (fun _ _ => trivial))).2.2
set_option maxRecDepth 100000 in
set_option maxHeartbeats 4000000 in
theorem meant_num (p : Option Addr) (l : List ByteArray) (ts : List Int) (w : World) (h : DP w p l) (hok : okTexts l) (hk : allTk l ts) (hm : (meanAll l ts).size ≤ 1024) (hl : ts.length ≤ 1024) :
  Calls Tryz.prog 151 #[.pointer p, .int .i64 0, .int .i64 (meanAll l ts).size, .string (numsC ts)] w fun e w' => e = .returned (.tuple #[.string (meanAll l ts), .int .i64 0]) ∧ Below w.heap.size w w' := by
 have H := Lib.hid h
 have HOK := Lib.hid hok
 have HK := Lib.hid hk
 have HLE := Lib.hid hl
 have Mean40 := Lib.hid (show ∀ s ∈ l, s.size ≤ 40 from fun s hs => by
  obtain ⟨i, hi, he⟩ := List.getElem_of_mem hs
  have h1 := (hok.2 i hi).2.1
  rw [List.getD_eq_getElem?_getD, List.getElem?_eq_getElem hi] at h1
  rw [← he]; exact h1)
 have HTK := Lib.hid (show ts.take ts.length = ts from List.take_length)
 obtain ⟨B, hB⟩ : ∃ B, meanAll l ts = B := ⟨_, rfl⟩
 have HBB := Lib.hid hB
 rw [hB] at hm ⊢
 have hmi : (B.size : Int) ≤ 1024 := by omega
 clear h hok hk hB hl
 go_enter Tryz.func151, Tryz.ntmps151
 go_wp2_with (fail)
 refine (open_num p ts _).mono ?_
 rintro e w1 ⟨rfl, hn, hb⟩
 obtain ⟨g, hg⟩ : ∃ g, w.heap.size = g := ⟨_, rfl⟩
 have HB := Lib.hid hb
 have HD := Lib.hid (H.out.below hb)
 rw [hg] at hn ⊢
 have HN := Lib.hid hn
 have HG := Lib.hid hg
 clear hn hb hg
 go_wp2_with (fail)
 go_loopg [12] ts.length (fun j o wr => ∃ k : Nat, k + j = ts.length ∧ o = .string (meanAll l (ts.take k)) ∧ Hid (NS wr g (ts.drop k) ∧ Below g w wr))
 case atStart => exact ⟨0, by omega, rfl, HN.out, by rw [← HG.out]; exact HB.out⟩
 case round =>
  obtain ⟨k, hk, rfl, HI⟩ := hrel
  obtain ⟨hn, hb⟩ := HI.out
  by_cases hlt : k < ts.length
  ·have hd := drop_cons hlt
   have hin := HK.out (ts.getD k 0) (by rw [List.getD_eq_getElem?_getD, List.getElem?_eq_getElem hlt]; exact List.getElem_mem hlt)
   have htk : meanAll l (ts.take (k + 1)) = meanAll l (ts.take k) ++ Mean.means l (ts.getD k 0) := by
    rw [Ints.take_succ_getD ts k hlt, meanAll_append]
    congr 1
    exact ByteArray.append_empty
   have hsz : (meanAll l (ts.take k)).size + (Mean.means l (ts.getD k 0)).size ≤ B.size := by
    have h1 : meanAll l ts = meanAll l (ts.take (k + 1)) ++ meanAll l (ts.drop (k + 1)) := by rw [← meanAll_append, List.take_append_drop]
    rw [HBB.out, htk] at h1
    rw [h1, ByteArray.size_append, ByteArray.size_append]
    omega
   obtain ⟨t, ht⟩ : ∃ t, ts.getD k 0 = t := ⟨_, rfl⟩
   rw [ht] at hd hin htk hsz
   have hmp := of_decide_eq_true (means_pos HOK.out hin.1 hin.2)
   rw [hd] at hn
   obtain ⟨O, hO⟩ : ∃ O, meanAll l (ts.take k) = O := ⟨_, rfl⟩
   rw [hO] at htk hsz ⊢
   have HGO := Lib.hid (mean_go l ((B.size : Int) - (O.size : Int)) t (by omega) (by omega))
   obtain ⟨M, hM⟩ : ∃ M, Mean.means l t = M := ⟨_, rfl⟩
   rw [hM] at htk hsz hmp HGO
   have hlt2 : (O.size : Int) < (B.size : Int) := by omega
   have hw : IntKind.i64.wrap ((B.size : Int) - (O.size : Int)) = (B.size : Int) - (O.size : Int) := by rw [IntKind.wrap_i64]; first | (unfold wrap64; omega) | omega
   have hzz : ¬ 9223372036854775807 < O.size + M.size := by omega
   have HMO := Lib.hid (show -(2 ^ 63) ≤ (B.size : Int) - (O.size : Int) ∧ (B.size : Int) - (O.size : Int) < 2 ^ 63 by omega)
   have HTT := Lib.hid htk
   have HN := Lib.hid hn
   have HBR := Lib.hid hb
   have HKK := Lib.hid (And.intro hk hlt)
   have HIN := Lib.hid (show -(2 ^ 63) ≤ t ∧ t < 2 ^ 63 by have := HOK.out.1; omega)
   have HT4 := Lib.hid (show 0 ≤ t ∧ t ≤ 4294967295 by have := HOK.out.1; omega)
   have HDL := Lib.hid (show (ts.drop (k + 1)).length ≤ 100000 by rw [List.length_drop]; have := HLE.out; omega)
   clear hd hin htk hsz hmp hn hb HI hk ht hO hM hlt hm
   go_wp2_with (fail)
   refine (next_num g t _ _ HN.out HT4.out HDL.out).mono ?_
   rintro e w5 ⟨rfl, hn5, hc5⟩
   obtain ⟨⟨_, _, _, c3⟩, _⟩ := hn5.at
   have HN5 := Lib.hid hn5
   have HB5 := Lib.hid (HBR.out.trans (hc5.below (by have := HBR.out.size; have := HG.out; omega) (fun q hq => by rw [hq]; exact Nat.le_refl _)))
   clear hn5 hc5
   go_wp2_with (fail)
   have HA5 := Lib.hid (Below.alloc HB5.out (by have := HB5.out.size; have := HG.out; omega) (.cells #[.int .i64 t] 3 (0, 0)))
   refine (Mean.of_any p _ 1 1 l _ [t] _ (H.out.below (by rw [HG.out]; exact HA5.out)) (one_int w5 t) (Mean40.out) (by intro x hx; rw [List.mem_singleton.1 hx]; exact HIN.out) (by simp) HMO.out).mono ?_
   rintro e w6 ⟨rfl, hb6⟩
   rw [HGO.out]
   dsimp only
   have HN6 := Lib.hid ((HN5.out.below ((Below.refl _ w5).alloc (Nat.le_refl _) _)).below hb6)
   have HB6 := Lib.hid (Ints.bel_trans HA5.out (by simp; have := HB5.out.size; have := HG.out; omega) hb6)
   clear hb6 c3
   go_wp2_with (fail)
   go_roundg (ts.length - (k + 1))
   case measure => have := HKK.out.1; have := HKK.out.2; omega
   case rel => exact ⟨k + 1, by have := HKK.out.1; have := HKK.out.2; omega, by rw [HTT.out], HN6.out, HB6.out⟩
  ·obtain rfl : k = ts.length := by omega
   rw [HTK.out, HBB.out]
   rw [List.drop_length] at hn
   have HN := Lib.hid hn
   have HBR := Lib.hid hb
   clear hn hb HI hk
   go_wp2_with (fail)
   refine (over_num g _ HN.out).mono ?_
   rintro e w5 ⟨rfl, rfl⟩
   go_wp2_with (fail)
   go_ret2
   exact ⟨rfl, by rw [HG.out]; exact HBR.out⟩
end Go.Proofs.YtfbbcfhdjhiejaaGreat.Blk

/- Chapter 22: Get. -/
namespace Go.Proofs.YtfbbcfhdjhiejaaGreat.Blk
set_option linter.unusedVariables false
set_option linter.unusedSimpArgs false
open Go.RowKit Go.Proofs.YtfbbcfhdjhiejaaGreatW.PrintWords Go.Proofs.YtfbbcfhdjhiejaaGreatW.PrintMore Go.Proofs.YtfbbcfhdjhiejaaGreat.L Go.Proofs.YtfbbcfhdjhiejaaGreat.Texts Go.Proofs.YtfbbcfhdjhiejaaGreat.Dict Go.Proofs.YtfbbcfhdjhiejaaGreat.Ints
theorem get_stored (p : Option Addr) (how : Nat) (b : ByteArray) (w : World) (hh : how ≤ 1) (h0 : 1 ≤ b.size) (h1 : b.size ≤ 1024) :
  Calls Tryz.prog 127 #[.pointer p, .int .i64 how, .int .i64 1, .int .i64 b.size, .string b] w fun e w' => e = .returned (.tuple #[.string b, .int .i64 0]) ∧ w' = w := by
 have HH := Lib.hid hh
 have HS := Lib.hid (And.intro h0 h1)
 clear hh h0 h1
 go_enter Tryz.func127, Tryz.ntmps127
 go_wp2_with (fail)
 refine (coded_any _ _ HH.out).mono ?_
 rintro e w1 ⟨rfl, rfl⟩
 go_wp2_with (fail)
 refine (size_any _ _ HS.out.1 HS.out.2).mono ?_
 rintro e w1 ⟨rfl, rfl⟩
 go_wp2_with (fail)
 go_ret2
 exact ⟨rfl, rfl⟩
theorem get_coded (p : Option Addr) (how raw : Nat) (b P : ByteArray) (w : World) (hh : how ≤ 1) (h0 : 1 ≤ raw) (h1 : raw ≤ 1024)
  (hm : ∀ W : World, W = w → Calls Tryz.prog 151 #[.pointer p, .int .i64 how, .int .i64 raw, .string P] W fun e w' => e = .returned (.tuple #[.string b, .int .i64 0]) ∧ Below W.heap.size W w') :
  Calls Tryz.prog 127 #[.pointer p, .int .i64 how, .int .i64 2, .int .i64 raw, .string P] w fun e w' => e = .returned (.tuple #[.string b, .int .i64 0]) ∧ Below w.heap.size w w' := by
 have HH := Lib.hid hh
 have HS := Lib.hid (And.intro h0 h1)
 have HM := Lib.hid hm
 clear hh h0 h1 hm
 go_enter Tryz.func127, Tryz.ntmps127
 go_wp2_with (fail)
 refine (coded_any _ _ HH.out).mono ?_
 rintro e w1 ⟨rfl, rfl⟩
 go_wp2_with (fail)
 refine (size_any _ _ HS.out.1 HS.out.2).mono ?_
 rintro e w1 ⟨rfl, rfl⟩
 go_wp2_with (fail)
 refine Calls.mono (HM.out _ rfl) ?_
 rintro e w2 ⟨rfl, hb⟩
 have HB := Lib.hid hb
 clear hb
 go_wp2_with (fail)
 go_ret2
 exact ⟨rfl, HB.out⟩
end Go.Proofs.YtfbbcfhdjhiejaaGreat.Blk

/- Chapter 24: the decoder: how it lies; its small parts. -/
namespace Go.Proofs.YtfbbcfhdjhiejaaGreat.De
set_option linter.unusedVariables false
set_option linter.unusedSimpArgs false
open Go.RowKit Go.Proofs.YtfbbcfhdjhiejaaGreatW.PrintWords Go.Proofs.YtfbbcfhdjhiejaaGreatW.PrintMore Go.Proofs.YtfbbcfhdjhiejaaGreat.L Go.Proofs.YtfbbcfhdjhiejaaGreat.Texts Go.Proofs.YtfbbcfhdjhiejaaGreat.Dict Go.Proofs.YtfbbcfhdjhiejaaGreat.Co Go.Proofs.YtfbbcfhdjhiejaaGreat.Fa
def decC (p : Addr) (d : DS) : Array Value := #[.pointer (some p), .int .i64 d.code, .int .i64 d.block, .int .u64 d.hid, .bool d.begun, .bool d.done, .string d.held, .int .i64 d.pos, .int .i64 d.told, errV d.err]
/-- A decoder in block x. -/
def Dec (w : World) (x : Nat) (p : Addr) (d : DS) : Prop := w.heap[x]? = some (.cells (decC p d) 125 (0, 0))
theorem Dec.below {w w' : World} {x : Nat} {p : Addr} {d : DS} (h : Dec w x p d) (hb : Below w.heap.size w w') : Dec w' x p d := (hb.block _ (blk_lt h)).trans h
structure At (w : World) (x : Nat) (p : Addr) (d : DS) : Prop where
 c0 : w.cell? ⟨x, 0, none⟩ = some (.pointer (some p))
 c1 : w.cell? ⟨x, 1, none⟩ = some (.int .i64 d.code)
 c2 : w.cell? ⟨x, 2, none⟩ = some (.int .i64 d.block)
 c3 : w.cell? ⟨x, 3, none⟩ = some (.int .u64 d.hid)
 c4 : w.cell? ⟨x, 4, none⟩ = some (.bool d.begun)
 c5 : w.cell? ⟨x, 5, none⟩ = some (.bool d.done)
 c6 : w.cell? ⟨x, 6, none⟩ = some (.string d.held)
 c7 : w.cell? ⟨x, 7, none⟩ = some (.int .i64 d.pos)
 c8 : w.cell? ⟨x, 8, none⟩ = some (.int .i64 d.told)
 c9 : w.cell? ⟨x, 9, none⟩ = some (errV d.err)
 fr : ∀ k, w.frozen? ⟨x, k, none⟩ = false
theorem Dec.at {w : World} {x : Nat} {p : Addr} {d : DS} (h : Dec w x p d) : At w x p d := by
 have h : w.heap[x]? = some (.cells (decC p d) 125 (0, 0)) := h
 constructor <;> first | (intro k; simp [World.frozen?, h]) | (simp [World.cell?, h, decC])
theorem under_err : Tryz.prog.underlying 37 = some (.interface (Tryz.prog.methodsAt 37)) := by kernel_rfl
theorem eql_nil (W : World) : (binOp .eql 37 .nilIface .nilIface).run Tryz.prog W = .ok (.bool true) W := run_eql_nil_nil W _ under_err
theorem neq_nil (W : World) : (binOp .neq 37 .nilIface .nilIface).run Tryz.prog W = .ok (.bool false) W := run_neq_nil_nil W _ under_err
theorem eql_some (W : World) (u : Nat) (v : Value) : (binOp .eql 37 (.iface u v) .nilIface).run Tryz.prog W = .ok (.bool false) W := run_eql_held_nil W _ u v under_err
theorem none_any (x : Nat) (p : Addr) (d : DS) (w : World) (h : Dec w x p d) : Calls Tryz.prog 66 #[.pointer (some ⟨x, 0, none⟩)] w fun e w' => e = .returned (.bool false) ∧ w' = w := by
 have c0 := h.at.c0
 clear h
 go_enter Tryz.func66, Tryz.ntmps66
 go_wp2_with (fail)
 go_ret
 exact ⟨rfl, rfl⟩
theorem held_any (x : Nat) (p : Addr) (d : DS) (w : World) (h : Dec w x p d) : Calls Tryz.prog 35 #[.pointer (some ⟨x, 0, none⟩)] w fun e w' => e = .returned (.int .i64 d.held.size) ∧ w' = w := by
 have c6 := h.at.c6
 clear h
 go_enter Tryz.func35, Tryz.ntmps35
 go_wp2_with (fail)
 go_ret
 exact ⟨rfl, rfl⟩
theorem new_any (p : Addr) (w : World) : Calls Tryz.prog 31 #[.pointer (some p)] w fun e w' => e = .returned (.tuple #[.pointer (some ⟨w.heap.size, 0, none⟩), .nilIface]) ∧ Dec w' w.heap.size p d0 ∧ Below w.heap.size w w' := by
 go_enter Tryz.func31, Tryz.ntmps31
 go_wp2_with (fail)
 go_ret2
 exact ⟨rfl, heap_alloc_self w _, (Below.refl _ w).alloc (Nat.le_refl _) _⟩
set_option maxRecDepth 100000 in
theorem done_any (x : Nat) (p : Addr) (d : DS) (w : World) (h : Dec w x p d) : Calls Tryz.prog 49 #[.pointer (some ⟨x, 0, none⟩)] w fun e w' => e = .returned (.bool (d.done && d.err.isNone)) ∧ w' = w := by
 have c5 := h.at.c5
 have c9 := h.at.c9
 clear h
 cases hd : d.done
 ·rw [hd] at c5
  go_enter Tryz.func49, Tryz.ntmps49
  go_wp2_with (fail)
  go_ret
  exact ⟨rfl, rfl⟩
 ·rw [hd] at c5
  cases he : d.err with
  | none =>
    rw [he] at c9
    replace c9 : w.cell? ⟨x, 9, none⟩ = some .nilIface := c9
    have q1 := eql_nil
    go_enter Tryz.func49, Tryz.ntmps49
    go_wp2_with (fail)
    go_ret
    exact ⟨rfl, rfl⟩
  | some y =>
    rw [he] at c9
    replace c9 : w.cell? ⟨x, 9, none⟩ = some (.iface 105 (.agg #[.int .i64 y.1, .int .i64 y.2])) := c9
    have q1 := eql_some
    go_enter Tryz.func49, Tryz.ntmps49
    go_wp2_with (fail)
    go_ret
    exact ⟨rfl, rfl⟩
set_option maxRecDepth 100000 in
theorem wrong_any (x : Nat) (p : Addr) (d : DS) (e : Int) (w : World) (h : Dec w x p d) (he : e ≠ 0) : Calls Tryz.prog 100 #[.pointer (some ⟨x, 0, none⟩), .int .i64 e] w fun en w' => en = .returned (.tuple #[]) ∧ Dec w' x p (wrong d e) ∧ Chg (fun k => k = x) w w' := by
 have HA := h.at
 have c7 := HA.c7
 have c9 := HA.c9
 have c6 := HA.c6
 have f9 := HA.fr 9
 have f6 := HA.fr 6
 have H := Lib.hid h
 have HE := Lib.hid he
 clear h he HA
 go_enter Tryz.func100, Tryz.ntmps100
 go_wp2_with (fail)
 refine (Fa.new_any e d.pos w (by omega) HE.out).mono ?_
 rintro en w1 ⟨rfl, rfl⟩
 rw [Int.toNat_natCast, show errV (some (e, d.pos)) = .iface 105 (.agg #[.int .i64 e, .int .i64 d.pos]) from rfl]
 go_wp2_with (fail)
 have h1 := blk_put H.out 9 (errV (some (e, d.pos))) rfl
 have h2 := blk_put h1 6 (.string ⟨#[]⟩) rfl
 have HW := Lib.hid (show Dec ((w1.setCell ⟨x, 9, none⟩ (errV (some (e, d.pos)))).setCell ⟨x, 6, none⟩ (.string ⟨#[]⟩)) x p (wrong d e) from h2)
 clear h1 h2
 go_end0
 exact ⟨rfl, HW.out, ((Chg.refl (fun k => k = x) w1).setCell (p := ⟨x, 9, none⟩) (fun _ => rfl) _).setCell (p := ⟨x, 6, none⟩) (fun _ => rfl) _⟩
set_option maxRecDepth 100000 in
theorem take_any (x : Nat) (p : Addr) (d : DS) (n : Nat) (w : World) (h : Dec w x p d) (hn : n ≤ d.held.size) (hp : d.pos + n < 4611686018427387904) (hz : d.held.size ≤ 140737488351232) : Calls Tryz.prog 103 #[.pointer (some ⟨x, 0, none⟩), .int .i64 n] w fun en w' => en = .returned (.tuple #[]) ∧ Dec w' x p (took d n) ∧ Chg (fun k => k = x) w w' := by
 have HA := h.at
 have c6 := HA.c6
 have c7 := HA.c7
 have f7 := HA.fr 7
 have f6 := HA.fr 6
 have H := Lib.hid h
 have n0 : (0 : Int) ≤ (n : Int) := by omega
 have n1 : (n : Int) ≤ (d.held.size : Int) := by omega
 have n2 : ((n : Int)).toNat = n := by omega
 have hw : wrap64 ((d.pos : Int) + (n : Int)) = ((d.pos + n : Nat) : Int) := by unfold wrap64; omega
 clear h HA hn
 go_enter Tryz.func103, Tryz.ntmps103
 go_wp2_with (fail)
 have h1 := blk_put H.out 6 (.string (d.held.extract n d.held.size)) rfl
 have h2 := blk_put h1 7 (.int .i64 ((d.pos + n : Nat) : Int)) rfl
 have HW := Lib.hid (show Dec ((w.setCell ⟨x, 6, none⟩ (.string (d.held.extract n d.held.size))).setCell ⟨x, 7, none⟩ (.int .i64 ((d.pos + n : Nat) : Int))) x p (took d n) from h2)
 clear h1 h2
 go_end0
 exact ⟨rfl, HW.out, ((Chg.refl (fun k => k = x) w).setCell (p := ⟨x, 6, none⟩) (fun _ => rfl) _).setCell (p := ⟨x, 7, none⟩) (fun _ => rfl) _⟩
end Go.Proofs.YtfbbcfhdjhiejaaGreat.De

/- Chapter 24: the encoder: how it lies; its small parts. -/
namespace Go.Proofs.YtfbbcfhdjhiejaaGreat.En
set_option linter.unusedVariables false
set_option linter.unusedSimpArgs false
open Go.RowKit Go.Proofs.YtfbbcfhdjhiejaaGreatW.PrintWords Go.Proofs.YtfbbcfhdjhiejaaGreatW.PrintMore Go.Proofs.YtfbbcfhdjhiejaaGreat.L Go.Proofs.YtfbbcfhdjhiejaaGreat.Texts Go.Proofs.YtfbbcfhdjhiejaaGreat.Dict Go.Proofs.YtfbbcfhdjhiejaaGreat.Fr
structure ES where
 c : Blk.Cf
 held : ByteArray
 written : Nat
 begun : Bool
 closed : Bool
def encC (p : Addr) (d : ES) : Array Value := #[.pointer (some p), .int .i64 d.c.parse, .int .i64 d.c.code, .int .i64 d.c.block, .int .i64 d.c.window, .string d.held, .int .i64 d.written, .bool d.begun, .bool d.closed]
/-- An encoder in block x. -/
def Enc (w : World) (x : Nat) (p : Addr) (d : ES) : Prop := w.heap[x]? = some (.cells (encC p d) 137 (0, 0))
theorem Enc.below {w w' : World} {x : Nat} {p : Addr} {d : ES} (h : Enc w x p d) (hb : Below w.heap.size w w') : Enc w' x p d := (hb.block _ (blk_lt h)).trans h
structure At (w : World) (x : Nat) (p : Addr) (d : ES) : Prop where
 c0 : w.cell? ⟨x, 0, none⟩ = some (.pointer (some p))
 c1 : w.cell? ⟨x, 1, none⟩ = some (.int .i64 d.c.parse)
 c2 : w.cell? ⟨x, 2, none⟩ = some (.int .i64 d.c.code)
 c3 : w.cell? ⟨x, 3, none⟩ = some (.int .i64 d.c.block)
 c4 : w.cell? ⟨x, 4, none⟩ = some (.int .i64 d.c.window)
 c5 : w.cell? ⟨x, 5, none⟩ = some (.string d.held)
 c6 : w.cell? ⟨x, 6, none⟩ = some (.int .i64 d.written)
 c7 : w.cell? ⟨x, 7, none⟩ = some (.bool d.begun)
 c8 : w.cell? ⟨x, 8, none⟩ = some (.bool d.closed)
 fr : ∀ k, w.frozen? ⟨x, k, none⟩ = false
theorem Enc.at {w : World} {x : Nat} {p : Addr} {d : ES} (h : Enc w x p d) : At w x p d := by
 have h : w.heap[x]? = some (.cells (encC p d) 137 (0, 0)) := h
 constructor <;> first | (intro k; simp [World.frozen?, h]) | (simp [World.cell?, h, encC])
def e0 (c : Blk.Cf) : ES := ⟨c, ⟨#[]⟩, 0, false, false⟩
set_option maxRecDepth 100000 in
set_option maxHeartbeats 4000000 in
theorem new_any (p : Addr) (c : Blk.Cf) (w : World) (hc : c.ok) : Calls Tryz.prog 44 #[.pointer (some p), c.val] w fun e w' => ∃ x, e = .returned (.tuple #[.pointer (some ⟨x, 0, none⟩), .nilIface]) ∧ w.heap.size ≤ x ∧ Enc w' x p (e0 c) ∧ Below w.heap.size w w' := by
 have HR := Lib.hid (fun W => Blk.right_ok c W hc)
 have HV : c.val = .agg #[.int .i64 c.parse, .int .i64 c.code, .int .i64 c.block, .int .i64 c.window] := rfl
 rw [HV] at HR ⊢
 clear hc HV
 go_enter Tryz.func44, Tryz.ntmps44
 go_wp2_with (fail)
 refine (HR.out _).mono ?_
 rintro e w1 ⟨rfl, hb2⟩
 have hblk : w1.heap[w.heap.size]? = some (.cells #[.int .i64 c.parse, .int .i64 c.code, .int .i64 c.block, .int .i64 c.window] 24 (0, 0)) := (hb2.block _ (by simp)).trans (heap_alloc_self w _)
 obtain ⟨k0, k1, k2, k3⟩ := Blk.four hblk
 have HB2 := Lib.hid (Ints.bel_trans ((Below.refl _ w).alloc (Nat.le_refl _) (.cells #[.int .i64 c.parse, .int .i64 c.code, .int .i64 c.block, .int .i64 c.window] 24 (0, 0))) (by simp) hb2)
 clear hb2 hblk
 go_wp2_with (fail)
 go_ret2
 exact ⟨_, rfl, HB2.out.size, heap_alloc_self w1 _, HB2.out.alloc HB2.out.size _⟩
end Go.Proofs.YtfbbcfhdjhiejaaGreat.En

/- Chapter 24: the encoder: begin, frame. -/
namespace Go.Proofs.YtfbbcfhdjhiejaaGreat.En
set_option linter.unusedVariables false
set_option linter.unusedSimpArgs false
open Go.RowKit Go.Proofs.YtfbbcfhdjhiejaaGreatW.PrintWords Go.Proofs.YtfbbcfhdjhiejaaGreatW.PrintMore Go.Proofs.YtfbbcfhdjhiejaaGreat.L Go.Proofs.YtfbbcfhdjhiejaaGreat.Texts Go.Proofs.YtfbbcfhdjhiejaaGreat.Dict Go.Proofs.YtfbbcfhdjhiejaaGreat.Fr
def Left (x : Nat) (p : Addr) (d1 : ES) (w w' : World) : Prop := Enc w' x p d1 ∧ Chg (fun k => k = x) w w'
set_option maxRecDepth 100000 in
theorem begin_again (x : Nat) (p : Addr) (d : ES) (w : World) (h : Enc w x p d) (hb : d.begun = true) (hc : d.closed = false) : Calls Tryz.prog 76 #[.pointer (some ⟨x, 0, none⟩)] w fun e w' => e = .returned (.tuple #[.string ⟨#[]⟩, .nilIface]) ∧ w' = w := by
 have HA := h.at
 have c0 := HA.c0
 have c7 := HA.c7
 have c8 := HA.c8
 rw [hb] at c7
 rw [hc] at c8
 clear h hb hc HA
 go_enter Tryz.func76, Tryz.ntmps76
 go_wp2_with (fail)
 go_ret2
 exact ⟨rfl, rfl⟩
set_option maxRecDepth 100000 in
set_option maxHeartbeats 4000000 in
theorem begin_first (x db : Nat) (l : List ByteArray) (d : ES) (w : World) (h : Enc w x ⟨db, 0, none⟩ d) (hD : ∀ W, Chg (fun k => k = x) w W → DC W db l) (hok : okTexts l) (hcf : d.c.ok) (hb : d.begun = false) (hc : d.closed = false) :
  Calls Tryz.prog 76 #[.pointer (some ⟨x, 0, none⟩)] w fun e w' => e = .returned (.tuple #[.string (headB d.c.code d.c.block (idD l)), .nilIface]) ∧ Left x ⟨db, 0, none⟩ { d with begun := true } w w' := by
 have HA := h.at
 have c0 := HA.c0
 have c7 := HA.c7
 have c8 := HA.c8
 have f7 := HA.fr 7
 rw [hb] at c7
 rw [hc] at c8
 have H := Lib.hid h
 have HDC := Lib.hid hD
 have HID := Lib.hid (fun (W : World) (hW : DC W db l) => id_any db l W hW hok)
 obtain ⟨J, hJ⟩ : ∃ J, idD l = J := ⟨_, rfl⟩
 have HPH := Lib.hid (fun W : World => putHead d.c.code d.c.block (idD l) W hcf.2.1 hcf.2.2.1 hcf.2.2.2.1 (id_big l))
 rw [hJ] at HID HPH ⊢
 clear h hD hok hcf hb hc HA hJ
 go_enter Tryz.func76, Tryz.ntmps76
 go_upto_region 8 with (fail)
 obtain ⟨W1, hW1⟩ : ∃ W, W = w.setCell ⟨x, 7, none⟩ (.bool true) := ⟨_, rfl⟩
 rw [← hW1]
 have HC1 := Lib.hid (show Chg (fun k => k = x) w W1 by rw [hW1]; exact (Chg.refl (fun k => k = x) w).setCell (p := ⟨x, 7, none⟩) (fun _ => rfl) _)
 have H1 := Lib.hid (show Enc W1 x ⟨db, 0, none⟩ { d with begun := true } by rw [hW1]; exact blk_put H.out 7 (.bool true) rfl)
 have HD1 := Lib.hid (HDC.out W1 HC1.out)
 clear hW1 c0 c7 c8 f7
 have HK := Lib.hid (show ∀ W' : World, Below W1.heap.size W1 W' → W'.cell? ⟨x, 2, none⟩ = some (.int .i64 d.c.code) ∧ W'.cell? ⟨x, 3, none⟩ = some (.int .i64 d.c.block) ∧ W'.cell? ⟨x, 0, none⟩ = some (.pointer (some ⟨db, 0, none⟩)) from fun W' hb => ⟨(H1.out.below hb).at.c2, (H1.out.below hb).at.c3, (H1.out.below hb).at.c0⟩)
 have HB := Lib.hid (Below.refl W1.heap.size W1)
 obtain ⟨k0, k1, k2⟩ := HK.out _ HB.out
 go_region_held3 (fun w' => w'.cell? ⟨x, 2, none⟩ = some (.int .i64 d.c.code) ∧ w'.cell? ⟨x, 3, none⟩ = some (.int .i64 d.c.block) ∧ w'.cell? ⟨x, 0, none⟩ = some (.pointer (some ⟨db, 0, none⟩))) (first | exact ⟨k0, k1, k2⟩ | exact HK.out _ HB.out | exact HK.out _ (below_drew HB.out) | go_keep)
  (first
   | (go_at_call 30; (with_reducible refine Calls.mono (HID.out _ (HD1.out.below (by first | exact HB.out | exact below_drew HB.out))) ?_); rintro e w7 ⟨rfl, hb7⟩; have HB7 := Lib.hid (bel_on (show Below W1.heap.size W1 _ from (by first | exact HB.out | exact below_drew HB.out)) hb7); clear HB k0 k1 k2 hb7; have HB := HB7; obtain ⟨k0, k1, k2⟩ := HK.out _ HB7.out; clear HB7)
   | (go_at_call 117; (with_reducible refine Calls.mono (HPH.out _) ?_); rintro e w7 ⟨rfl, hb7⟩; have HB7 := Lib.hid (bel_on (show Below W1.heap.size W1 _ from (by first | exact HB.out | exact below_drew HB.out)) hb7); clear HB k0 k1 k2 hb7; have HB := HB7; obtain ⟨k0, k1, k2⟩ := HK.out _ HB7.out; clear HB7))
 have HL := Lib.hid (show Left x ⟨db, 0, none⟩ { d with begun := true } w _ from ⟨H1.out.below HB.out, HC1.out.trans (Chg.of_below HB.out)⟩)
 go_wp2_with (fail)
 go_ret2
 exact ⟨rfl, HL.out⟩
end Go.Proofs.YtfbbcfhdjhiejaaGreat.En

/- Chapter 24: the encoder: a block's frame. -/
namespace Go.Proofs.YtfbbcfhdjhiejaaGreat.En
set_option linter.unusedVariables false
set_option linter.unusedSimpArgs false
open Go.RowKit Go.Proofs.YtfbbcfhdjhiejaaGreatW.PrintWords Go.Proofs.YtfbbcfhdjhiejaaGreatW.PrintMore Go.Proofs.YtfbbcfhdjhiejaaGreat.L Go.Proofs.YtfbbcfhdjhiejaaGreat.Texts Go.Proofs.YtfbbcfhdjhiejaaGreat.Dict Go.Proofs.YtfbbcfhdjhiejaaGreat.Fr
/-- A block that may be written. -/
def BlkOk (l : List ByteArray) (c : Blk.Cf) (b : ByteArray) : Prop := b.size ≠ 0 ∧ b.size ≤ c.block ∧ Blk.Ready l c b ∧ Co.fits (Blk.putK l c b) b.size (Blk.putB l c b).size = true
/-- A block's frame. -/
def blockF (l : List ByteArray) (c : Blk.Cf) (b : ByteArray) : ByteArray := frameB (Blk.putK l c b) b.size (Sums.crc b) (Blk.putB l c b)
set_option maxRecDepth 100000 in
set_option maxHeartbeats 4000000 in
theorem frame_any (x db : Nat) (l : List ByteArray) (d : ES) (b : ByteArray) (w : World) (h : Enc w x ⟨db, 0, none⟩ d) (hD : DC w db l) (hok : okTexts l) (hcf : d.c.ok) (hb : BlkOk l d.c b) :
  Calls Tryz.prog 77 #[.pointer (some ⟨x, 0, none⟩), .string b] w fun e w' => e = .returned (.string (blockF l d.c b)) ∧ Below w.heap.size w w' := by
 obtain ⟨b0, b1, hr, hf⟩ := hb
 have hbs : b.size ≤ 1024 := by have := hcf.2.2.2.1; omega
 have HPU := Lib.hid (fun (W : World) (hW : DC W db l) => Blk.put_any (some ⟨db, 0, none⟩) l d.c b W (.inr ⟨db, rfl, hW⟩) hok hcf b0 b1 hr)
 have HV : d.c.val = .agg #[.int .i64 d.c.parse, .int .i64 d.c.code, .int .i64 d.c.block, .int .i64 d.c.window] := rfl
 rw [HV] at HPU
 have HBF := Lib.hid (show blockF l d.c b = frameB (Blk.putK l d.c b) b.size (Sums.crc b) (Blk.putB l d.c b) from rfl)
 obtain ⟨K, hK⟩ : ∃ K, Blk.putK l d.c b = K := ⟨_, rfl⟩
 obtain ⟨P, hP⟩ : ∃ P, Blk.putB l d.c b = P := ⟨_, rfl⟩
 rw [hK, hP] at HPU HBF
 rw [hK, hP] at hf
 have hsl := Sums.crc_lt b
 obtain ⟨C, hC⟩ : ∃ C, Sums.crc b = C := ⟨_, rfl⟩
 have HCR := Lib.hid (fun W : World => Sums.crc_of b W (by omega))
 rw [hC] at HBF HCR hsl
 have HPF := Lib.hid (fun W : World => putFrame K b.size C P W hf hsl)
 obtain ⟨F, hF⟩ : ∃ F, blockF l d.c b = F := ⟨_, rfl⟩
 rw [hF] at HBF ⊢
 have H := Lib.hid h
 have HD := Lib.hid hD
 clear h hD hok hcf b0 b1 hr hf HV hK hP hC hsl hF
 have HK := Lib.hid (show ∀ W' : World, Below w.heap.size w W' → (W'.cell? ⟨x, 0, none⟩ = some (.pointer (some ⟨db, 0, none⟩)) ∧ W'.cell? ⟨x, 1, none⟩ = some (.int .i64 d.c.parse) ∧ W'.cell? ⟨x, 2, none⟩ = some (.int .i64 d.c.code) ∧ W'.cell? ⟨x, 3, none⟩ = some (.int .i64 d.c.block) ∧ W'.cell? ⟨x, 4, none⟩ = some (.int .i64 d.c.window)) from fun W' hb => ⟨(H.out.below hb).at.c0, (H.out.below hb).at.c1, (H.out.below hb).at.c2, (H.out.below hb).at.c3, (H.out.below hb).at.c4⟩)
 have HB := Lib.hid (Below.refl w.heap.size w)
 go_enter Tryz.func77, Tryz.ntmps77
 go_upto_region 1 with (fail)
 obtain ⟨k0, k1, k2, k3, k4⟩ := HK.out _ HB.out
 go_region_held3 (fun w' => w'.cell? ⟨x, 0, none⟩ = some (.pointer (some ⟨db, 0, none⟩)) ∧ w'.cell? ⟨x, 1, none⟩ = some (.int .i64 d.c.parse) ∧ w'.cell? ⟨x, 2, none⟩ = some (.int .i64 d.c.code) ∧ w'.cell? ⟨x, 3, none⟩ = some (.int .i64 d.c.block) ∧ w'.cell? ⟨x, 4, none⟩ = some (.int .i64 d.c.window)) (first | exact ⟨k0, k1, k2, k3, k4⟩ | exact HK.out _ HB.out | exact HK.out _ (below_drew HB.out) | go_keep)
  (first
   | (go_at_call 36; (with_reducible refine Calls.mono (HPU.out _ (HD.out.below (by first | exact HB.out | exact below_drew HB.out))) ?_); rintro e w7 ⟨rfl, hb7⟩; have HB7 := Lib.hid (bel_on (show Below w.heap.size w _ from (by first | exact HB.out | exact below_drew HB.out)) hb7); clear HB k0 k1 k2 k3 k4 hb7; have HB := HB7; obtain ⟨k0, k1, k2, k3, k4⟩ := HK.out _ HB7.out; clear HB7))
 go_wp2_with (fail)
 refine Calls.mono (HCR.out _) ?_
 rintro e w8 ⟨rfl, hb8⟩
 have HB8 := Lib.hid (bel_on HB.out hb8)
 clear hb8
 go_wp2_with (fail)
 refine Calls.mono (HPF.out _) ?_
 rintro e w9 ⟨rfl, hb9⟩
 have HB9 := Lib.hid (bel_on HB8.out hb9)
 clear hb9
 go_wp2_with (fail)
 go_ret
 exact ⟨by rw [HBF.out]; rfl, HB9.out⟩
end Go.Proofs.YtfbbcfhdjhiejaaGreat.En

/- Chapter 24: the encoder: begin (both ways), Flush, Close. -/
namespace Go.Proofs.YtfbbcfhdjhiejaaGreat.En
set_option linter.unusedVariables false
set_option linter.unusedSimpArgs false
open Go.RowKit Go.Proofs.YtfbbcfhdjhiejaaGreatW.PrintWords Go.Proofs.YtfbbcfhdjhiejaaGreatW.PrintMore Go.Proofs.YtfbbcfhdjhiejaaGreat.L Go.Proofs.YtfbbcfhdjhiejaaGreat.Texts Go.Proofs.YtfbbcfhdjhiejaaGreat.Dict Go.Proofs.YtfbbcfhdjhiejaaGreat.Fr
theorem empty_list {s : ByteArray} (h : s.size = 0) : s.toList.isEmpty = true := by
 rw [ByteArray.toList_eq]
 have h1 : s.data.toList.length = 0 := by rw [Array.length_toList]; exact h
 rw [List.eq_nil_of_length_eq_zero h1]
 rfl
/-- The head, if it was not told yet. -/
def hd (l : List ByteArray) (d : ES) : ByteArray := if d.begun = true then ⟨#[]⟩ else headB d.c.code d.c.block (idD l)
def on (d : ES) : ES := { d with begun := true }
theorem begin_any (x db : Nat) (l : List ByteArray) (d : ES) (w : World) (h : Enc w x ⟨db, 0, none⟩ d) (hD : ∀ W, Chg (fun k => k = x) w W → DC W db l) (hok : okTexts l) (hcf : d.c.ok) (hc : d.closed = false) :
  Calls Tryz.prog 76 #[.pointer (some ⟨x, 0, none⟩)] w fun e w' => e = .returned (.tuple #[.string (hd l d), .nilIface]) ∧ Left x ⟨db, 0, none⟩ (on d) w w' := by
 unfold hd on
 cases hb : d.begun
 ·rw [if_neg (by decide)]
  exact begin_first x db l d w h hD hok hcf hb hc
 ·rw [if_pos rfl]
  refine (begin_again x _ d w h hb hc).mono ?_
  rintro e w1 ⟨rfl, rfl⟩
  refine ⟨rfl, ?_, Chg.refl _ _⟩
  have : ({ d with begun := true } : ES) = d := by rw [← hb]
  rw [this]
  exact h
/-- What a flush tells. -/
def fl (l : List ByteArray) (d : ES) : ByteArray := if d.held.size = 0 then hd l d else hd l d ++ blockF l d.c d.held
def flushed (d : ES) : ES := { d with begun := true, held := ⟨#[]⟩ }
theorem hd_size (l : List ByteArray) (d : ES) : (hd l d).size ≤ 17 := by
 unfold hd
 split
 ·exact Nat.zero_le _
 ·unfold headB
  rw [ByteArray.size_append, ByteArray.size_append, ByteArray.size_append, ByteArray.size_append, Co.big_size, Co.big_size, Co.big_size, Co.big_size]
  show 4 + 1 + 1 + 3 + 8 ≤ 17
  omega
set_option maxRecDepth 100000 in
set_option maxHeartbeats 4000000 in
theorem flush_any (x db : Nat) (l : List ByteArray) (d : ES) (w : World) (h : Enc w x ⟨db, 0, none⟩ d) (hD : ∀ W, Chg (fun k => k = x) w W → DC W db l) (hok : okTexts l) (hcf : d.c.ok) (hc : d.closed = false) (hb : d.held.size ≠ 0 → BlkOk l d.c d.held ∧ (blockF l d.c d.held).size ≤ 100000) :
  Calls Tryz.prog 46 #[.pointer (some ⟨x, 0, none⟩)] w fun e w' => e = .returned (.tuple #[.string (fl l d), .nilIface]) ∧ Left x ⟨db, 0, none⟩ (flushed d) w w' := by
 have HBE := Lib.hid (begin_any x db l d w h hD hok hcf hc)
 have HDC := Lib.hid hD
 have HFL := Lib.hid (show fl l d = if d.held.size = 0 then hd l d else hd l d ++ blockF l d.c d.held from rfl)
 have hz1 := hd_size l d
 obtain ⟨Hd, hHd⟩ : ∃ Hd, hd l d = Hd := ⟨_, rfl⟩
 rw [hHd] at HBE HFL hz1
 obtain ⟨F, hF⟩ : ∃ F, fl l d = F := ⟨_, rfl⟩
 rw [hF] at HFL ⊢
 have HFR := Lib.hid (fun (W : World) (hE : Enc W x ⟨db, 0, none⟩ (on d)) (hW : DC W db l) (h0 : d.held.size ≠ 0) => frame_any x db l (on d) d.held W hE hW hok hcf (hb h0).1)
 have HBS := Lib.hid (fun h0 => (hb h0).2)
 have q1 := De.neq_nil
 clear h hD hok hcf hc hb hHd hF
 go_enter Tryz.func46, Tryz.ntmps46
 go_wp2_with (fail)
 refine Calls.mono HBE.out ?_
 rintro e w1 ⟨rfl, h1, hc1⟩
 have H1 := Lib.hid h1
 have HC1 := Lib.hid hc1
 have c5 := h1.at.c5
 replace c5 : w1.cell? ⟨x, 5, none⟩ = some (.string d.held) := c5
 have f5 := h1.at.fr 5
 clear h1 hc1
 by_cases h0 : d.held.size = 0
 ·have e1 := empty_list h0
  have H0 := Lib.hid h0
  clear h0
  have HFF := Lib.hid (show F = Hd by rw [HFL.out, if_pos H0.out])
  have HL := Lib.hid (show Left x ⟨db, 0, none⟩ (flushed d) w w1 from ⟨by
   have : flushed d = on d := by unfold flushed on; rw [← show d.held = (⟨#[]⟩ : ByteArray) from Co.eq_no H0.out]
   rw [this]; exact H1.out, HC1.out⟩)
  go_wp2_with (fail)
  go_ret2
  exact ⟨by rw [HFF.out]; rfl, HL.out⟩
 ·have e1 := Blk.filled h0
  have HFF := Lib.hid (show F = Hd ++ blockF l d.c d.held by rw [HFL.out, if_neg h0])
  have hzz : ¬ 9223372036854775807 < Hd.size + (blockF l d.c d.held).size := by have := HBS.out h0; omega
  have HFA := Lib.hid (HFR.out w1 H1.out (HDC.out w1 HC1.out) h0)
  clear h0
  go_wp2_with (fail)
  refine Calls.mono HFA.out ?_
  rintro e w2 ⟨rfl, hb2⟩
  have H2 := Lib.hid (H1.out.below hb2)
  have HC2 := Lib.hid (HC1.out.trans (Chg.of_below hb2))
  have f5b := H2.out.at.fr 5
  have c5b := H2.out.at.c5
  replace c5b : w2.cell? ⟨x, 5, none⟩ = some (.string d.held) := c5b
  rw [show (on d).c = d.c from rfl]
  clear hb2
  go_wp2_with (fail)
  have HL := Lib.hid (show Left x ⟨db, 0, none⟩ (flushed d) w (w2.setCell ⟨x, 5, none⟩ (.string ⟨#[]⟩)) from ⟨blk_put H2.out 5 (.string ⟨#[]⟩) rfl, HC2.out.trans ((Chg.refl (fun k => k = x) w2).setCell (p := ⟨x, 5, none⟩) (fun _ => rfl) _)⟩)
  go_ret2
  exact ⟨by rw [HFF.out]; rfl, HL.out⟩
end Go.Proofs.YtfbbcfhdjhiejaaGreat.En

/- Chapter 24: the encoder: Close. -/
namespace Go.Proofs.YtfbbcfhdjhiejaaGreat.En
set_option linter.unusedVariables false
set_option linter.unusedSimpArgs false
open Go.RowKit Go.Proofs.YtfbbcfhdjhiejaaGreatW.PrintWords Go.Proofs.YtfbbcfhdjhiejaaGreatW.PrintMore Go.Proofs.YtfbbcfhdjhiejaaGreat.L Go.Proofs.YtfbbcfhdjhiejaaGreat.Texts Go.Proofs.YtfbbcfhdjhiejaaGreat.Dict Go.Proofs.YtfbbcfhdjhiejaaGreat.Fr
def closed (d : ES) : ES := { d with begun := true, held := ⟨#[]⟩, closed := true }
def cl (l : List ByteArray) (d : ES) : ByteArray := fl l d ++ endB (d.written % 4294967296)
set_option maxRecDepth 100000 in
set_option maxHeartbeats 4000000 in
theorem close_any (x db : Nat) (l : List ByteArray) (d : ES) (w : World) (h : Enc w x ⟨db, 0, none⟩ d) (hD : ∀ W, Chg (fun k => k = x) w W → DC W db l) (hok : okTexts l) (hcf : d.c.ok) (hc : d.closed = false) (hb : d.held.size ≠ 0 → BlkOk l d.c d.held ∧ (blockF l d.c d.held).size ≤ 100000) :
  Calls Tryz.prog 47 #[.pointer (some ⟨x, 0, none⟩)] w fun e w' => e = .returned (.tuple #[.string (cl l d), .nilIface]) ∧ Left x ⟨db, 0, none⟩ (closed d) w w' := by
 have HFL := Lib.hid (flush_any x db l d w h hD hok hcf hc hb)
 have hz1 : (fl l d).size ≤ 100017 := by
  have h1 := hd_size l d
  unfold fl
  split
  ·omega
  ·rename_i h0
   have := (hb h0).2
   rw [ByteArray.size_append]
   omega
 have HCL := Lib.hid (show cl l d = fl l d ++ endB (d.written % 4294967296) from rfl)
 obtain ⟨F, hF⟩ : ∃ F, fl l d = F := ⟨_, rfl⟩
 rw [hF] at HFL HCL hz1
 obtain ⟨C, hC⟩ : ∃ C, cl l d = C := ⟨_, rfl⟩
 rw [hC] at HCL ⊢
 obtain ⟨T, hT⟩ : ∃ T, d.written % 4294967296 = T := ⟨_, rfl⟩
 rw [hT] at HCL
 have hT2 : T < 4294967296 := by omega
 have HPE := Lib.hid (fun W : World => putEnd T W hT2)
 have hw1 : IntKind.u32.wrap (d.written : Int) = (T : Int) := by rw [IntKind.wrap_u32, ← hT]; omega
 have hw2 : IntKind.i64.wrap (T : Int) = (T : Int) := by rw [IntKind.wrap_i64]; first | (unfold wrap64; omega) | omega
 have he5 : (endB T).size = 5 := by unfold endB; rw [ByteArray.size_append, Co.big_size, Co.big_size]
 have hzz : ¬ 9223372036854775807 < F.size + (endB T).size := by omega
 have q1 := De.neq_nil
 clear h hD hok hcf hc hb hF hC hT he5
 go_enter Tryz.func47, Tryz.ntmps47
 go_wp2_with (fail)
 refine Calls.mono HFL.out ?_
 rintro e w1 ⟨rfl, h1, hc1⟩
 have H1 := Lib.hid h1
 have HC1 := Lib.hid hc1
 have c8 := h1.at.c8
 have f8 := h1.at.fr 8
 have c6 := h1.at.c6
 replace c6 : w1.cell? ⟨x, 6, none⟩ = some (.int .i64 d.written) := c6
 have H2 := Lib.hid (show Enc (w1.setCell ⟨x, 8, none⟩ (.bool true)) x ⟨db, 0, none⟩ (closed d) from blk_put h1 8 (.bool true) rfl)
 have HC2 := Lib.hid (hc1.trans ((Chg.refl (fun k => k = x) w1).setCell (p := ⟨x, 8, none⟩) (fun _ => rfl) (.bool true)))
 clear h1 hc1
 go_wp2_with (fail)
 refine Calls.mono (HPE.out _) ?_
 rintro e w3 ⟨rfl, hb3⟩
 have HL := Lib.hid (show Left x ⟨db, 0, none⟩ (closed d) w w3 from ⟨H2.out.below hb3, HC2.out.trans (Chg.of_below hb3)⟩)
 clear hb3
 go_wp2_with (fail)
 go_ret2
 exact ⟨by rw [HCL.out]; rfl, HL.out⟩
end Go.Proofs.YtfbbcfhdjhiejaaGreat.En

/- Chapter 24: the encoder: Write. -/
namespace Go.Proofs.YtfbbcfhdjhiejaaGreat.En
set_option linter.unusedVariables false
set_option linter.unusedSimpArgs false
open Go.RowKit Go.Proofs.YtfbbcfhdjhiejaaGreatW.PrintWords Go.Proofs.YtfbbcfhdjhiejaaGreatW.PrintMore Go.Proofs.YtfbbcfhdjhiejaaGreat.L Go.Proofs.YtfbbcfhdjhiejaaGreat.Texts Go.Proofs.YtfbbcfhdjhiejaaGreat.Dict Go.Proofs.YtfbbcfhdjhiejaaGreat.Fr
/-- The frames of all whole blocks; what is left. -/
def drain (l : List ByteArray) (c : Blk.Cf) : Nat → ByteArray → ByteArray × ByteArray
 | 0, h => (⟨#[]⟩, h)
 | n + 1, h => if c.block ≤ h.size then (blockF l c (h.extract 0 c.block) ++ (drain l c n (h.extract c.block h.size)).1, (drain l c n (h.extract c.block h.size)).2) else (⟨#[]⟩, h)
def drainA (l : List ByteArray) (c : Blk.Cf) (h : ByteArray) : ByteArray × ByteArray := drain l c (h.size + 1) h
theorem drain_enough (l : List ByteArray) (c : Blk.Cf) (hc : 1 ≤ c.block) : ∀ (n m : Nat) (h : ByteArray), h.size < n → h.size < m → drain l c n h = drain l c m h
 | 0, _, h, h1, _ => by omega
 | n + 1, 0, h, _, h2 => by omega
 | n + 1, m + 1, h, h1, h2 => by
   unfold drain
   by_cases hb : c.block ≤ h.size
   ·have hz : (h.extract c.block h.size).size = h.size - c.block := by rw [ByteArray.size_extract]; omega
    rw [if_pos hb, if_pos hb, drain_enough l c hc n m _ (by omega) (by omega)]
   ·rw [if_neg hb, if_neg hb]
theorem drain_step (l : List ByteArray) (c : Blk.Cf) (hc : 1 ≤ c.block) (h : ByteArray) (hb : c.block ≤ h.size) : drainA l c h = (blockF l c (h.extract 0 c.block) ++ (drainA l c (h.extract c.block h.size)).1, (drainA l c (h.extract c.block h.size)).2) := by
 have hz : (h.extract c.block h.size).size = h.size - c.block := by rw [ByteArray.size_extract]; omega
 show drain l c (h.size + 1) h = _
 rw [drain, if_pos hb]
 unfold drainA
 rw [drain_enough l c hc h.size _ (h.extract c.block h.size) (by omega) (Nat.lt_succ_self _)]
theorem drain_end (l : List ByteArray) (c : Blk.Cf) (h : ByteArray) (hb : h.size < c.block) : drainA l c h = (⟨#[]⟩, h) := by
 show drain l c (h.size + 1) h = _
 rw [drain, if_neg (by omega)]
end Go.Proofs.YtfbbcfhdjhiejaaGreat.En

/- Chapter 24: the encoder: Write (the plain part). -/
namespace Go.Proofs.YtfbbcfhdjhiejaaGreat.En
set_option linter.unusedVariables false
set_option linter.unusedSimpArgs false
open Go.RowKit Go.Proofs.YtfbbcfhdjhiejaaGreatW.PrintWords Go.Proofs.YtfbbcfhdjhiejaaGreatW.PrintMore Go.Proofs.YtfbbcfhdjhiejaaGreat.L Go.Proofs.YtfbbcfhdjhiejaaGreat.Texts Go.Proofs.YtfbbcfhdjhiejaaGreat.Dict Go.Proofs.YtfbbcfhdjhiejaaGreat.Fr
/-- Behind a write. -/
def wrote (l : List ByteArray) (d : ES) (b : ByteArray) : ES := { d with begun := true, written := d.written + b.size, held := (drainA l d.c (d.held ++ b)).2 }
def wr (l : List ByteArray) (d : ES) (b : ByteArray) : ByteArray := hd l d ++ (drainA l d.c (d.held ++ b)).1
/-- All blocks that are cut off may be written. -/
def AllOk (l : List ByteArray) (c : Blk.Cf) (h : ByteArray) : Prop := ∀ k, (k + 1) * c.block ≤ h.size → BlkOk l c (h.extract (k * c.block) ((k + 1) * c.block)) ∧ (blockF l c (h.extract (k * c.block) ((k + 1) * c.block))).size ≤ 100000
theorem AllOk.first {l : List ByteArray} {c : Blk.Cf} {h : ByteArray} (hk : AllOk l c h) (hb : c.block ≤ h.size) : BlkOk l c (h.extract 0 c.block) ∧ (blockF l c (h.extract 0 c.block)).size ≤ 100000 := by
 have := hk 0 (by omega)
 rwa [Nat.zero_mul, Nat.zero_add, Nat.one_mul] at this
theorem AllOk.rest {l : List ByteArray} {c : Blk.Cf} {h : ByteArray} (hk : AllOk l c h) (hb : c.block ≤ h.size) : AllOk l c (h.extract c.block h.size) := by
 intro k hkk
 have hz : (h.extract c.block h.size).size = h.size - c.block := by rw [ByteArray.size_extract]; omega
 have h1 : c.block + (k + 1) * c.block ≤ h.size := by omega
 have e1 : c.block + k * c.block = (k + 1) * c.block := by rw [Nat.add_mul]; omega
 have e2 : c.block + (k + 1) * c.block = (k + 1 + 1) * c.block := by rw [Nat.add_mul (k + 1)]; omega
 have := hk (k + 1) (by omega)
 rw [ByteArray.extract_extract, e1, e2, Nat.min_eq_left (by omega)]
 exact this
theorem drain_sizes (l : List ByteArray) (c : Blk.Cf) (hc : 1 ≤ c.block) : ∀ (n : Nat) (h : ByteArray), h.size < n → AllOk l c h → (drain l c n h).1.size ≤ 100000 * h.size
 | 0, h, hn, _ => by omega
 | n + 1, h, hn, hk => by
   unfold drain
   by_cases hb : c.block ≤ h.size
   ·have hz : (h.extract c.block h.size).size = h.size - c.block := by rw [ByteArray.size_extract]; omega
    have h1 := (hk.first hb).2
    have h2 := drain_sizes l c hc n (h.extract c.block h.size) (by omega) (hk.rest hb)
    rw [if_pos hb]
    dsimp only
    rw [ByteArray.size_append]
    have : 100000 * (h.size - c.block) + 100000 ≤ 100000 * h.size := by omega
    rw [hz] at h2
    omega
   ·rw [if_neg hb]
    exact Nat.zero_le _
theorem drainA_size {l : List ByteArray} {c : Blk.Cf} (hc : 1 ≤ c.block) {h : ByteArray} (hk : AllOk l c h) : (drainA l c h).1.size ≤ 100000 * h.size := drain_sizes l c hc _ h (Nat.lt_succ_self _) hk
end Go.Proofs.YtfbbcfhdjhiejaaGreat.En

/- Chapter 24: the encoder: Write (the walk). -/
namespace Go.Proofs.YtfbbcfhdjhiejaaGreat.En
set_option linter.unusedVariables false
set_option linter.unusedSimpArgs false
open Go.RowKit Go.Proofs.YtfbbcfhdjhiejaaGreatW.PrintWords Go.Proofs.YtfbbcfhdjhiejaaGreatW.PrintMore Go.Proofs.YtfbbcfhdjhiejaaGreat.L Go.Proofs.YtfbbcfhdjhiejaaGreat.Texts Go.Proofs.YtfbbcfhdjhiejaaGreat.Dict Go.Proofs.YtfbbcfhdjhiejaaGreat.Fr
set_option maxRecDepth 100000 in
set_option maxHeartbeats 4000000 in
theorem write_any (x db : Nat) (l : List ByteArray) (d : ES) (b : ByteArray) (w : World) (h : Enc w x ⟨db, 0, none⟩ d) (hD : ∀ W, Chg (fun k => k = x) w W → DC W db l) (hok : okTexts l) (hcf : d.c.ok) (hc : d.closed = false) (hb : AllOk l d.c (d.held ++ b)) (hs : (d.held ++ b).size ≤ 1000000) (hw : d.written + b.size ≤ 1000000000000) :
  Calls Tryz.prog 45 #[.pointer (some ⟨x, 0, none⟩), .string b] w fun e w' => e = .returned (.tuple #[.string (wr l d b), .nilIface]) ∧ Left x ⟨db, 0, none⟩ (wrote l d b) w w' := by
 have HBE := Lib.hid (begin_any x db l d w h hD hok hcf hc)
 have HDC := Lib.hid hD
 have HWR := Lib.hid (show wr l d b = hd l d ++ (drainA l d.c (d.held ++ b)).1 from rfl)
 have hz0 := drainA_size hcf.2.2.1 hb
 have hz1 := hd_size l d
 obtain ⟨Hd, hHd⟩ : ∃ Hd, hd l d = Hd := ⟨_, rfl⟩
 rw [hHd] at HBE HWR hz1
 obtain ⟨F, hF⟩ : ∃ F, wr l d b = F := ⟨_, rfl⟩
 rw [hF] at HWR ⊢
 have HFZ := Lib.hid (show F.size ≤ 1000000000000 by rw [HWR.out, ByteArray.size_append]; omega)
 have hzz : ¬ 9223372036854775807 < d.held.size + b.size := by have : (d.held ++ b).size = d.held.size + b.size := ByteArray.size_append ..; omega
 have hww : IntKind.i64.wrap ((d.written : Int) + (b.size : Int)) = (d.written : Int) + (b.size : Int) := by rw [IntKind.wrap_i64]; omega
 have HFR := Lib.hid (fun (W : World) (e : ES) (u : ByteArray) (he : e.c = d.c) (hE : Enc W x ⟨db, 0, none⟩ e) (hW : DC W db l) (hu : BlkOk l d.c u) => frame_any x db l e u W hE hW hok (by rw [he]; exact hcf) (by rw [he]; exact hu))
 have HAO := Lib.hid hb
 have HS := Lib.hid hs
 have HC1 := Lib.hid hcf.2.2.1
 have q1 := De.neq_nil
 clear h hD hok hcf hc hb hHd hF hs hw hz0 hz1
 go_enter Tryz.func45, Tryz.ntmps45
 go_wp2_with (fail)
 refine Calls.mono HBE.out ?_
 rintro e w1 ⟨rfl, h1, hc1⟩
 have c5 := h1.at.c5
 replace c5 : w1.cell? ⟨x, 5, none⟩ = some (.string d.held) := c5
 have c6 := h1.at.c6
 replace c6 : w1.cell? ⟨x, 6, none⟩ = some (.int .i64 d.written) := c6
 have f5 := h1.at.fr 5
 have f6 := h1.at.fr 6
 have HD0 := Lib.hid (show Enc ((w1.setCell ⟨x, 6, none⟩ (.int .i64 ((d.written : Int) + (b.size : Int)))).setCell ⟨x, 5, none⟩ (.string (d.held ++ b))) x ⟨db, 0, none⟩ { d with begun := true, written := d.written + b.size, held := d.held ++ b } from blk_put (blk_put h1 6 (.int .i64 ((d.written : Int) + (b.size : Int))) rfl) 5 (.string (d.held ++ b)) rfl)
 have HC0 := Lib.hid (hc1.trans (((Chg.refl (fun k => k = x) w1).setCell (p := ⟨x, 6, none⟩) (fun _ => rfl) (.int .i64 ((d.written : Int) + (b.size : Int)))).setCell (p := ⟨x, 5, none⟩) (fun _ => rfl) (.string (d.held ++ b))))
 clear h1 hc1
 go_wp2_with (fail)
 go_loopg [6] (d.held ++ b).size (fun j o wr => ∃ (cur s : ByteArray), o = .string s ∧ Hid (cur.size ≤ j ∧ AllOk l d.c cur ∧ cur.size ≤ 1000000 ∧ F = s ++ (drainA l d.c cur).1 ∧ (drainA l d.c (d.held ++ b)).2 = (drainA l d.c cur).2 ∧ Enc wr x ⟨db, 0, none⟩ { d with begun := true, written := d.written + b.size, held := cur } ∧ Chg (fun k => k = x) w wr))
 case atStart => exact ⟨d.held ++ b, Hd, rfl, Nat.le_refl _, HAO.out, HS.out, HWR.out, rfl, HD0.out, HC0.out⟩
 case round =>
  obtain ⟨cur, s, rfl, HI⟩ := hrel
  obtain ⟨hj, hao, hcz, hF, hrest, hd, hc⟩ := HI.out
  have hDw : DC wr db l := HDC.out wr hc
  have c5 := hd.at.c5
  replace c5 : wr.cell? ⟨x, 5, none⟩ = some (.string cur) := c5
  have c3 := hd.at.c3
  replace c3 : wr.cell? ⟨x, 3, none⟩ = some (.int .i64 d.c.block) := c3
  have f5 := hd.at.fr 5
  by_cases hb : d.c.block ≤ cur.size
  ·have hge : decide ((d.c.block : Int) ≤ (cur.size : Int)) = true := by simp; omega
   have h0b : decide (0 ≤ (d.c.block : Int)) = true := by simp
   have h1b : ¬ ((cur.size : Int) < (d.c.block : Int)) := by omega
   have hst := drain_step l d.c HC1.out cur hb
   have HFF := Lib.hid (show F = (s ++ blockF l d.c (cur.extract 0 d.c.block)) ++ (drainA l d.c (cur.extract d.c.block cur.size)).1 by rw [hF, hst, ByteArray.append_assoc])
   have HRR := Lib.hid (show (drainA l d.c (d.held ++ b)).2 = (drainA l d.c (cur.extract d.c.block cur.size)).2 by rw [hrest, hst])
   have HAR := Lib.hid (hao.rest hb)
   have hzc : (cur.extract d.c.block cur.size).size = cur.size - d.c.block := by rw [ByteArray.size_extract]; omega
   have HZC := Lib.hid (show (cur.extract d.c.block cur.size).size < gk ∧ (cur.extract d.c.block cur.size).size ≤ 1000000 by have := HC1.out; omega)
   have hzz : ¬ 9223372036854775807 < s.size + (blockF l d.c (cur.extract 0 d.c.block)).size := by
    have h1 := HFZ.out
    rw [HFF.out, ByteArray.size_append, ByteArray.size_append] at h1
    omega
   have HFA := Lib.hid (fun W hE hW => HFR.out W { d with begun := true, written := d.written + b.size, held := cur } (cur.extract 0 d.c.block) rfl hE hW (hao.first hb).1)
   obtain ⟨fb, hfb⟩ : ∃ f, blockF l d.c (cur.extract 0 d.c.block) = f := ⟨_, rfl⟩
   rw [hfb] at HFF hzz
   have HFB := Lib.hid hfb
   have HEW := Lib.hid hd
   have HCW := Lib.hid hc
   have HDW := Lib.hid hDw
   have hcut0 : (0 : Int) ≤ (d.c.block : Int) := by omega
   clear hj hao hcz hF hrest hd hc hDw HI hst hzc hfb hb
   go_upto_region 6 with (fail)
   go_quiet (fail)
   go_upto_region 7 with (fail)
   obtain ⟨W2, hW2⟩ : ∃ W, W = wr.drewN nq := ⟨_, rfl⟩
   rw [← hW2]
   have HE2 := Lib.hid (show Enc W2 x ⟨db, 0, none⟩ { d with begun := true, written := d.written + b.size, held := cur } by rw [hW2]; exact HEW.out)
   have HD2 := Lib.hid (show DC W2 db l by rw [hW2]; exact HDC.out _ (HCW.out.drewN nq))
   have HC2 := Lib.hid (show Chg (fun k => k = x) w W2 by rw [hW2]; exact HCW.out.drewN nq)
   clear hW2 c5 c3 f5 HEW HDW HCW
   have HK := Lib.hid (show ∀ W' : World, Below W2.heap.size W2 W' → (W'.cell? ⟨x, 5, none⟩ = some (.string cur) ∧ W'.cell? ⟨x, 3, none⟩ = some (.int .i64 d.c.block)) from fun W' hb => ⟨(HE2.out.below hb).at.c5, (HE2.out.below hb).at.c3⟩)
   have HB := Lib.hid (Below.refl W2.heap.size W2)
   obtain ⟨k0, k1⟩ := HK.out _ HB.out
   go_region_held3 (fun w' => w'.cell? ⟨x, 5, none⟩ = some (.string cur) ∧ w'.cell? ⟨x, 3, none⟩ = some (.int .i64 d.c.block)) (first | exact ⟨k0, k1⟩ | exact HK.out _ HB.out | exact HK.out _ (below_drew HB.out) | go_keep)
    (first
     | (go_at_call 77; (with_reducible refine Calls.mono (HFA.out _ (HE2.out.below (by first | exact HB.out | exact below_drew HB.out)) (HD2.out.below (by first | exact HB.out | exact below_drew HB.out))) ?_); rintro e w7 ⟨rfl, hb7⟩; have HB7 := Lib.hid (bel_on (show Below W2.heap.size W2 _ from (by first | exact HB.out | exact below_drew HB.out)) hb7); clear HB k0 k1 hb7; have HB := HB7; obtain ⟨k0, k1⟩ := HK.out _ HB7.out; clear HB7; try rw [HFB.out]))
   have f5 := (HE2.out.below HB.out).at.fr 5
   have hc0 : decide (0 ≤ (d.c.block : Int)) = true := by simp
   have HE8 := Lib.hid (HE2.out.below HB.out)
   have HC8 := Lib.hid (HC2.out.trans (Chg.of_below HB.out))
   have hLE : d.c.block ≤ cur.size := by omega
   go_upto_region 8 with (fail)
   have HE9 := Lib.hid (show Enc (w7.setCell ⟨x, 5, none⟩ (.string (cur.extract d.c.block cur.size))) x ⟨db, 0, none⟩ { d with begun := true, written := d.written + b.size, held := cur.extract d.c.block cur.size } from blk_put HE8.out 5 (.string (cur.extract d.c.block cur.size)) rfl)
   have HC9 := Lib.hid (HC8.out.trans ((Chg.refl (fun k => k = x) w7).setCell (p := ⟨x, 5, none⟩) (fun _ => rfl) (.string (cur.extract d.c.block cur.size))))
   go_region
   go_wp2_with (fail)
   go_roundg (cur.extract d.c.block cur.size).size
   case measure => exact HZC.out.1
   case rel => exact ⟨_, _, rfl, Nat.le_refl _, HAR.out, HZC.out.2, HFF.out, HRR.out, HE9.out, HC9.out.drewN _⟩
  ·have hlt : decide ((d.c.block : Int) ≤ (cur.size : Int)) = false := by simp; omega
   have hlt2 : decide (d.c.block ≤ cur.size) = false := by simp; omega
   have hend := drain_end l d.c cur (by omega)
   have HFF := Lib.hid (show F = s by rw [hF, hend]; exact Co.app_no s)
   have HL := Lib.hid (show Left x ⟨db, 0, none⟩ (wrote l d b) w wr from ⟨by
    have : wrote l d b = { d with begun := true, written := d.written + b.size, held := cur } := by unfold wrote; rw [hrest, hend]
    rw [this]; exact hd, hc⟩)
   clear hj hao hcz hF hrest hd hc hDw HI hend hb
   go_upto_region 6 with (fail)
   go_quiet (fail)
   go_wp2_with (fail)
   go_ret2
   rw [HFF.out]
   exact ⟨rfl, HL.out.1, HL.out.2.drewN _⟩
end Go.Proofs.YtfbbcfhdjhiejaaGreat.En
