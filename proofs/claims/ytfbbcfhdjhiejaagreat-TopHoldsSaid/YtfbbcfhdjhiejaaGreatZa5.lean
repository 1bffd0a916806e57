/- Of the parts Texts, Dict, DictNew, DictUse, DictId, Big: what the rows use. -/
import Derived.Test.YtfbbcfhdjhiejaaGreatZa1
import Derived.Test.YtfbbcfhdjhiejaaGreatZa3
import Derived.Test.YtfbbcfhdjhiejaaGreatZa4
import Derived.Test.YtfbbcfhdjhiejaaGreatProg
import Derived.Deep.DeepFit
import Derived.Outline
import Derived.BigRegion
import Derived.Lib.SliceRun
import Derived.Lib.Walk
import Derived.Lib.Strings
import Derived.Lib.BufferWrite
import Derived.Lib.UnsafeStr
import Derived.Lib.SlicesS
import Derived.Laws.MakeOwn
import Derived.Deep.AppendLies
import Derived.Deep.RegionLaw
/- Lists of strings: the library's copies and searches. -/
namespace Go.Proofs.YtfbbcfhdjhiejaaGreat.Texts
set_option linter.unusedVariables false
set_option linter.unusedSimpArgs false
open Go.RowKit Go.Proofs.YtfbbcfhdjhiejaaGreatW.PrintWords Go.Proofs.YtfbbcfhdjhiejaaGreatW.PrintMore Go.Proofs.YtfbbcfhdjhiejaaGreat.L
abbrev KS : Kd ByteArray := Kd.string
theorem infoStr : (Tryz.prog.info? 9).map (fun i => (i.zero, i.size, i.bytes)) = some (some (.string ⟨#[]⟩), 1, 16) := by kernel_rfl
theorem infoU8 : (Tryz.prog.info? 5).map (fun i => (i.zero, i.size, i.bytes)) = some (some (.int .u8 0), 1, 1) := by kernel_rfl
def no : ByteArray := ⟨#[]⟩
theorem strs_at {w : World} {A : Option Addr} {n : Nat} {xs : List ByteArray} (h : KS.C w A n xs) (i : Nat) (hi : i < n) :
  ∃ ad, A = some ad ∧ w.cell? (ad.add i) = some (.string (xs.getD i no)) := by
 obtain ⟨ad, e, hc⟩ := Kd.at_string h (i : Int) (by omega) (by omega)
 rw [Int.toNat_natCast] at hc
 exact ⟨ad, e, hc⟩
theorem ks_len {w : World} {A : Option Addr} {n : Nat} {xs : List ByteArray} (h : KS.C w A n xs) : n = xs.length := (Kd.C_len h).symm
theorem empty_of {s : ByteArray} (h : s.size = 0) : s = ⟨#[]⟩ := by
 apply ByteArray.ext
 exact Array.eq_empty_of_size_eq_zero h
theorem bytesOf_append (a b : ByteArray) : bytesOf (a ++ b) = bytesOf a ++ bytesOf b := by
 unfold bytesOf
 rw [ByteArray.data_append, Array.toList_append, List.map_append]
theorem str_bytesOf (s : ByteArray) : strOfNums (bytesOf s) = s := by
 unfold strOfNums bytesOf
 rw [List.map_map]
 have : ((fun n : Int => UInt8.ofNat n.toNat) ∘ fun b : UInt8 => (b.toNat : Int)) = id := by
  funext b
  simp
 rw [this, List.map_id]
theorem isEmpty_no {s : ByteArray} (h : s.size ≠ 0) : s.toList.isEmpty = false := by
 rw [List.isEmpty_eq_false_iff, ByteArray.toList_eq]
 intro e
 apply h
 show s.data.size = 0
 rw [← Array.length_toList, e]
 rfl
theorem bel_trans {B : Nat} {w w1 w2 : World} (h : Below B w w1) (hB : B ≤ w1.heap.size) (h2 : Below w1.heap.size w1 w2) : Below B w w2 :=
 h.trans ⟨h2.os, h2.tape, h2.output, h2.size, fun k hk => h2.block k (by omega)⟩
/-- A row that was just laid out. -/
theorem lit_texts (w : World) (e : Nat) (l : List ByteArray) (hm : l.length ≤ 9223372036854775807) : KS.C (w.alloc (.cells (l.map Value.string).toArray e (0, 0))) (some ⟨w.heap.size, 0, none⟩) l.length l := by
 refine Kd.C_of_reads (d := no) (h1 := fun _ => rfl) ⟨rfl, hm, fun _ => ⟨_, rfl, fun j hj => ?_⟩⟩
 refine World.news_of_block (L.heap_alloc_self w _) j _ ?_
 simp [List.getD_eq_getElem?_getD, List.getElem?_eq_getElem hj]
/-! ### slices.Clone -/
theorem clone_texts (A : Option Addr) (n c : Nat) (xs : List ByteArray) (w : World) (h : KS.C w A n xs) (hl : n * 16 ≤ 140737488351232) :
  Calls Tryz.prog 73 #[.slice A n c] w fun e w' => ∃ v, e = .returned v ∧ KS.R 9 w' w.heap.size (fun _ => True) v xs ∧ Below w.heap.size w w' := by
 have H := Lib.hid h
 have hxl := ks_len h
 clear h
 have q22 : ∀ (w : World) (a : Option Addr) (n c n' c' : Nat), (binOp .eql 22 (.slice a n c) (.slice none n' c')).run Tryz.prog w = .ok (.bool a.isNone) w := fun w a n c n' c' => Lib.run_eql_slice_nil w _ _ a n c n' c' Tryz.underlying22
 rcases A with _ | ad
 ·obtain rfl : xs = [] := by
   by_cases hn : 0 < n
   ·obtain ⟨ad, e, _⟩ := strs_at H.out 0 hn
    cases e
   ·exact List.eq_nil_of_length_eq_zero (by omega)
  go_enter Tryz.func73, Tryz.ntmps73
  go_wp2_with (fail)
  go_ret
  exact ⟨_, rfl, Kd.R_nil _ _ _ _ _, Below.refl _ _⟩
 ·go_enter Tryz.func73, Tryz.ntmps73
  go_wp2_with (((with_reducible refine gate_builtin (b := .append) (xs := #[.tmp 5, .tmp 6]) rfl ?_); at_builtin; apply stopper))
  unfold Stopper
  refine Kd.R_append_row Value.string no (h1 := fun _ => rfl) (w0 := w) w.heap.size rfl (.tmp 5) (.tmp 6) 22 9 (.string ⟨#[]⟩) 16 rfl Tryz.underlying22 infoStr rfl (by decide) _ [] xs (some ad) n c (fun _ => True) rfl rfl (fun _ _ => trivial) ?aO ?aR ?aB ?aS ?aL ?_
  case aO => exact Kd.R_of_own (World.ownsRow_made w #[] 0 (Nat.le_refl _) (Nat.zero_le _) rfl) (fun _ _ => trivial)
  case aR => exact Kd.C_alloc H.out _
  case aB => exact (Below.refl _ w).alloc (Nat.le_refl _) _
  case aS => simp
  case aL => simp; omega
  intro v1 w1 ho hb hg hat
  have HO := Lib.hid ho
  have HB := Lib.hid hb
  clear ho hb hg hat
  go_wp2
  go_ret
  exact ⟨_, rfl, HO.out, HB.out⟩
/-! ### slices.Index, slices.Contains -/
def idx (s : ByteArray) : List ByteArray → Nat
 | [] => 0
 | x :: xs => if s = x then 0 else idx s xs + 1
theorem idx_le (s : ByteArray) : ∀ xs : List ByteArray, idx s xs ≤ xs.length
 | [] => Nat.le_refl _
 | x :: xs => by
   have := idx_le s xs
   unfold idx
   rw [List.length_cons]
   split <;> omega
theorem idx_at (s : ByteArray) : ∀ (xs : List ByteArray) (k : Nat), k < xs.length → k ≤ idx s xs → (s = xs.getD k no → idx s xs = k) ∧ (s ≠ xs.getD k no → k + 1 ≤ idx s xs)
 | [], k, h, _ => by simp at h
 | x :: xs, 0, _, _ => by
   simp only [idx, List.getD_cons_zero]
   exact ⟨fun h => by rw [if_pos h], fun h => by rw [if_neg h]; omega⟩
 | x :: xs, k + 1, h, h2 => by
   rw [List.getD_cons_succ]
   unfold idx at h2 ⊢
   by_cases he : s = x
   ·rw [if_pos he] at h2
    omega
   ·rw [if_neg he] at h2 ⊢
    have := idx_at s xs k (by simpa using h) (by omega)
    exact ⟨fun h => by rw [this.1 h], fun h => by have := this.2 h; omega⟩
theorem idx_mem (s : ByteArray) : ∀ xs : List ByteArray, idx s xs < xs.length ↔ s ∈ xs
 | [] => by simp [idx]
 | x :: xs => by
   have := idx_mem s xs
   rw [List.mem_cons, List.length_cons]
   unfold idx
   by_cases he : s = x
   ·rw [if_pos he]
    exact ⟨fun _ => .inl he, fun _ => by omega⟩
   ·rw [if_neg he]
    exact ⟨fun h => .inr (this.1 (by omega)), fun h => by rcases h with h | h; exact absurd h he; have := this.2 h; omega⟩
def has (s : ByteArray) (xs : List ByteArray) : Bool := decide (idx s xs < xs.length)
theorem has_iff (s : ByteArray) (xs : List ByteArray) : has s xs = true ↔ s ∈ xs := by unfold has; rw [decide_eq_true_eq]; exact idx_mem s xs
theorem idx_get (s : ByteArray) : ∀ xs : List ByteArray, idx s xs < xs.length → xs.getD (idx s xs) no = s
 | [], h => by simp at h
 | x :: xs, h => by
   unfold idx at h ⊢
   by_cases he : s = x
   ·rw [if_pos he, List.getD_cons_zero, he]
   ·rw [if_neg he, List.length_cons] at h
    rw [if_neg he, List.getD_cons_succ]
    exact idx_get s xs (by omega)
def find (s : ByteArray) (xs : List ByteArray) : Int := if idx s xs < xs.length then (idx s xs : Nat) else -1
theorem index_texts (A : Option Addr) (n c : Nat) (xs : List ByteArray) (s : ByteArray) (w : World) (h : KS.C w A n xs) :
  Calls Tryz.prog 139 #[.slice A n c, .string s] w fun e w' => e = .returned (.int .i64 (find s xs)) ∧ ∃ q, w' = w.drewN q := by
 have H := Lib.hid h
 have hmx := Kd.C_max h
 have hnl := ks_len h
 clear h
 subst hnl
 go_enter Tryz.func139, Tryz.ntmps139
 go_wp2_with (fail)
 go_loopg [8] xs.length (fun j i wr => ∃ k : Nat, k + j = xs.length ∧ i = .int .i64 k ∧ Hid (k ≤ idx s xs ∧ ∃ q, wr = w.drewN q))
 case atStart => exact ⟨0, by omega, rfl, Nat.zero_le _, 0, rfl⟩
 case round =>
  obtain ⟨k, hk, rfl, HI⟩ := hrel
  obtain ⟨hki, q, rfl⟩ := HI.out
  by_cases hlt : k < xs.length
  ·obtain ⟨ad, rfl, x0⟩ := strs_at H.out k hlt
   have hst := idx_at s xs k hlt hki
   obtain ⟨x, hx⟩ : ∃ x, xs.getD k no = x := ⟨_, rfl⟩
   rw [hx] at x0 hst
   have i0 : (0 : Int) ≤ k := by omega
   have i1 : (k : Int) < (xs.length : Int) := by omega
   have i2 : ((k : Int)).toNat = k := by omega
   have HX := Lib.hid hx
   have HS := Lib.hid hst
   clear hx hst hki HI
   by_cases he : s = x
   ·subst he
    have hb : (s.toList == s.toList) = true := (Lib.bytes_beq_iff s s).2 rfl
    have hf := Lib.hid (show find s xs = (k : Int) by unfold find; rw [(HS.out).1 rfl, if_pos hlt])
    go_wp2_with (fail)
    go_ret
    rw [hf.out]
    exact ⟨rfl, _, rfl⟩
   ·have hb : (s.toList == x.toList) = false := (Lib.bytes_beq_false_iff s x).2 he
    have HE := Lib.hid he
    clear he
    go_wp2_with (fail)
    go_roundg (xs.length - (k + 1))
    case measure => omega
    case rel => exact ⟨k + 1, by omega, by go_num, HS.out.2 HE.out, _, rfl⟩
  ·have hf := Lib.hid (show find s xs = -1 by unfold find; rw [if_neg (by have := idx_le s xs; omega)])
   clear hki HI
   go_wp2_with (fail)
   go_ret
   rw [hf.out]
   exact ⟨rfl, _, rfl⟩
theorem contains_texts (A : Option Addr) (n c : Nat) (xs : List ByteArray) (s : ByteArray) (w : World) (h : KS.C w A n xs) :
  Calls Tryz.prog 113 #[.slice A n c, .string s] w fun e w' => e = .returned (.bool (has s xs)) ∧ ∃ q, w' = w.drewN q := by
 have H := Lib.hid h
 clear h
 have hd : decide (0 ≤ find s xs) = has s xs := by
  unfold find has
  by_cases h1 : idx s xs < xs.length
  ·rw [if_pos h1, decide_eq_true h1, decide_eq_true (by omega)]
  ·rw [if_neg h1, decide_eq_false h1]; decide
 have HD := Lib.hid hd
 clear hd
 go_enter Tryz.func113, Tryz.ntmps113
 go_wp2_with (fail)
 refine (index_texts _ _ _ _ _ _ H.out).mono ?_
 rintro e w1 ⟨rfl, q, rfl⟩
 go_wp2_with (fail)
 go_ret
 exact ⟨by rw [← HD.out]; rfl, _, rfl⟩
/-! ### strings.Clone -/
set_option maxHeartbeats 4000000 in
set_option maxRecDepth 100000 in
theorem clone_lite (s : ByteArray) (w : World) (hlim : s.size ≤ 281474976710656) :
  Calls Tryz.prog 140 #[.string s] w fun e w' => e = .returned (.string s) ∧ Below w.heap.size w w' := by
 by_cases h0 : s.size = 0
 ·obtain rfl := empty_of h0
  go_enter Tryz.func140, Tryz.ntmps140
  go_wp2
  go_ret
  exact ⟨rfl, Below.refl _ _⟩
 ·obtain ⟨i0, hi, hz⟩ := Option.map_eq_some_iff.1 infoU8
  simp only [Prod.mk.injEq] at hz
  obtain ⟨hz0, hz1, hz2⟩ := hz
  have hinfo : (Tryz.prog.info? 5).map (·.size) = some 1 := by rw [hi]; simp [hz1]
  have hco : Tryz.prog.cellsOf 5 = 1 := by simp [Program.cellsOf, hi, hz1]
  obtain ⟨M, hM⟩ : ∃ M, M = madeCells (Value.int .u8 0).cells (((s.size : Nat) : Int).toNat * i0.size) := ⟨_, rfl⟩
  have hMs : M.size = s.size := by rw [hM, size_madeCells, hz1]; simp
  have hmk : ∀ W : World, (Instr.makeSlice 49 (.int .i64 (s.size : Int)) (.int .i64 (s.size : Int))).run Tryz.prog W = .ok (.slice (some ⟨W.heap.size, 0, none⟩) s.size s.size) (W.alloc (.cells M 5)) := fun W => by
   have h := run_make (P := Tryz.prog) W 49 5 i0 (.int .u8 0) Tryz.underlying49 hi hz0 .i64 .i64 (s.size : Int) (s.size : Int) (by omega) (by omega) (by rw [hz2]; omega) (by omega)
   rw [← hM] at h
   simpa using h
  clear hM
  have hcp := Lib.run_copy_row_string (P := Tryz.prog) (w.alloc (.cells M 5)) 49 9 3 5 w.heap.size 0 s.size s.size s M 5 Tryz.underlying49 hinfo (heap_alloc_new w _) (Nat.le_refl _) (by omega)
  obtain ⟨Y, hY⟩ : ∃ Y, Y = (M.toList.take 0 ++ Lib.byteCells s.data.toList ++ M.toList.drop (0 + s.size)).toArray := ⟨_, rfl⟩
  rw [← hY] at hcp
  have hYl : Y.toList = Lib.byteCells s.data.toList := by
   rw [hY, List.toList_toArray, List.take_zero, List.nil_append, List.drop_of_length_le (by rw [Array.length_toList]; omega), List.append_nil]
  have hYs : Y.size = s.size := by rw [← Array.length_toList, hYl, Lib.byteCells_length, ← Lib.size_eq]
  have hgY : ((w.alloc (.cells M 5)).setRow w.heap.size Y).heap[w.heap.size]? = some (.cells Y 5 (0, 0)) := setRow_heap _ _ M _ 5 (0, 0) (heap_alloc_new w _)
  have hne : s.data.toList ≠ [] := fun e => h0 (by rw [Lib.size_eq, e]; rfl)
  have hUS := Lib.run_unsafeString_row (P := Tryz.prog) ((w.alloc (.cells M 5)).setRow w.heap.size Y) 211 3 9 5 Tryz.underlying211 hco w.heap.size Y.size (by unfold World.shape?; rw [hgY]) s.data.toList hne (by rw [← Lib.size_eq]; omega) (by rw [← Lib.size_eq]; omega)
   (fun j x hx => Lib.cells_of_row hgY Y.size j _ (by rw [List.take_of_length_le (by rw [Array.length_toList]; exact Nat.le_refl _), hYl]; simp [Lib.byteCells, hx]))
  rw [← Lib.size_eq] at hUS
  clear hY
  go_enter Tryz.func140, Tryz.ntmps140
  go_wp2
  go_ret
  have hb1 : Below w.heap.size w (w.alloc (.cells M 5)) := (Below.refl _ w).alloc (Nat.le_refl _) _
  have hb2 : Below w.heap.size (w.alloc (.cells M 5)) ((w.alloc (.cells M 5)).setRow w.heap.size Y) := ⟨rfl, rfl, rfl, by simp, fun k hk => setRow_other _ _ _ _ (by omega)⟩
  exact ⟨rfl, Lib.below_freeze (hb1.trans hb2) (p := ⟨w.heap.size, 0, none⟩) (Nat.le_refl _) _⟩
theorem clone_str (s : ByteArray) (w : World) (hlim : s.size ≤ 281474976710656) :
  Calls Tryz.prog 114 #[.string s] w fun e w' => e = .returned (.string s) ∧ Below w.heap.size w w' := by
 go_enter Tryz.func114, Tryz.ntmps114
 go_wp2_with (fail)
 refine (clone_lite s w hlim).mono ?_
 rintro e w1 ⟨rfl, hb⟩
 have HB := Lib.hid hb
 clear hb
 go_wp2_with (fail)
 go_ret
 exact ⟨rfl, HB.out⟩
end Go.Proofs.YtfbbcfhdjhiejaaGreat.Texts

/- Dictionaries: which phrases may be; what is made of them. -/
namespace Go.Proofs.YtfbbcfhdjhiejaaGreat.Dict
set_option linter.unusedVariables false
set_option linter.unusedSimpArgs false
open Go.RowKit Go.Proofs.YtfbbcfhdjhiejaaGreatW.PrintWords Go.Proofs.YtfbbcfhdjhiejaaGreatW.PrintMore Go.Proofs.YtfbbcfhdjhiejaaGreat.L Go.Proofs.YtfbbcfhdjhiejaaGreat.Texts
/-! ### which phrases may be -/
def sizes : List ByteArray → Nat
 | [] => 0
 | s :: l => s.size + sizes l
theorem sizes_append : ∀ a b, sizes (a ++ b) = sizes a + sizes b
 | [], b => by simp [sizes]
 | s :: a, b => by simp only [List.cons_append, sizes, sizes_append a b]; omega
theorem take_succ_getD (l : List ByteArray) (k : Nat) (h : k < l.length) : l.take (k + 1) = l.take k ++ [l.getD k no] := by
 rw [List.take_succ_eq_append_getElem h]
 simp [List.getD_eq_getElem?_getD, List.getElem?_eq_getElem h]
theorem sizes_succ (l : List ByteArray) (k : Nat) (h : k < l.length) : sizes (l.take (k + 1)) = sizes (l.take k) + (l.getD k no).size := by
 rw [take_succ_getD l k h, sizes_append]
 simp [sizes]
theorem sizes_le (M : Nat) : ∀ l : List ByteArray, (∀ s ∈ l, s.size ≤ M) → sizes l ≤ l.length * M
 | [], _ => by simp [sizes]
 | s :: l, h => by
   have h1 := h s (by simp)
   have h2 := sizes_le M l (fun x hx => h x (by simp [hx]))
   simp only [sizes, List.length_cons, Nat.succ_mul]
   omega
theorem getD_mem (l : List ByteArray) (k : Nat) (h : k < l.length) : l.getD k no ∈ l := by
 rw [List.getD_eq_getElem?_getD, List.getElem?_eq_getElem h]
 exact List.getElem_mem h
theorem idx_self (l : List ByteArray) (k : Nat) (h : k < l.length) : idx (l.getD k no) l ≤ k := by
 by_cases hk : k ≤ idx (l.getD k no) l
 ·rw [(idx_at _ l k h hk).1 rfl]; exact Nat.le_refl _
 ·omega
def okAt (l : List ByteArray) (k : Nat) : Prop := (l.getD k no).size ≠ 0 ∧ (l.getD k no).size ≤ 40 ∧ sizes (l.take (k + 1)) ≤ 1000 ∧ k ≤ idx (l.getD k no) l
def okTexts (l : List ByteArray) : Prop := l.length ≤ 100 ∧ ∀ k, k < l.length → okAt l k
def few (l : List ByteArray) : Prop := l.length ≤ 110 ∧ sizes l ≤ 1300
instance (l : List ByteArray) (k : Nat) : Decidable (okAt l k) := by unfold okAt; exact inferInstance
instance (l : List ByteArray) : Decidable (okTexts l) := by unfold okTexts; exact inferInstance
instance (l : List ByteArray) : Decidable (few l) := by unfold few; exact inferInstance
/-! ### Few -/
theorem wrap_add (a b : Int) : wrap64 (wrap64 a + b) = wrap64 (a + b) := by unfold wrap64; omega
theorem wrap_small (a : Nat) (h : a ≤ 4611686018427387904) : wrap64 (a : Int) = a := by unfold wrap64; omega
set_option maxRecDepth 100000 in
theorem few_any (A : Option Addr) (n c : Nat) (l : List ByteArray) (w : World) (h : KS.C w A n l) (hs : ∀ s ∈ l, s.size ≤ 140737488351232) :
  Calls Tryz.prog 57 #[.slice A n c] w fun e w' => e = .returned (.bool (decide (few l))) ∧ w' = w := by
 have H := Lib.hid h
 have hmx := Kd.C_max h
 have hnl := ks_len h
 have HS := Lib.hid hs
 clear h hs
 subst hnl
 go_enter Tryz.func57, Tryz.ntmps57
 go_wp2_with (fail)
 go_loopg [3, 8] l.length (fun j s i wr => ∃ k : Nat, k + j = l.length ∧ i = .int .i64 k ∧ s = .int .i64 (wrap64 (sizes (l.take k) : Nat)) ∧ wr = w)
 case atStart => exact ⟨0, by omega, rfl, by rw [List.take_zero]; exact congrArg _ (wrap_small 0 (by decide)).symm, rfl⟩
 case round =>
  obtain ⟨k, hk, rfl, rfl, rfl⟩ := hrel
  by_cases hlt : k < l.length
  ·obtain ⟨ad, rfl, x0⟩ := strs_at H.out k hlt
   have hn := sizes_succ l k hlt
   obtain ⟨x, hx⟩ : ∃ x, l.getD k no = x := ⟨_, rfl⟩
   rw [hx] at x0 hn
   obtain ⟨S, hS⟩ : ∃ S, wrap64 (sizes (l.take k) : Nat) = S := ⟨_, rfl⟩
   have hS2 : wrap64 (S + (x.size : Int)) = wrap64 (sizes (l.take (k + 1)) : Nat) := by
    rw [hn, ← hS, wrap_add]
    congr 1
   rw [hS]
   have i0 : (0 : Int) ≤ k := by omega
   have i1 : (k : Int) < (l.length : Int) := by omega
   have i2 : ((k : Int)).toNat = k := by omega
   have HN := Lib.hid hS2
   clear hn hx hS hS2
   go_wp2_with (fail)
   go_roundg (l.length - (k + 1))
   case measure => omega
   case rel => exact ⟨k + 1, by omega, by go_num, by rw [HN.out], rfl⟩
  ·obtain rfl : k = l.length := by omega
   rw [List.take_length]
   by_cases h110 : l.length ≤ 110
   ·have hle := sizes_le 140737488351232 l HS.out
    have hle2 : l.length * 140737488351232 ≤ 110 * 140737488351232 := Nat.mul_le_mul_right _ h110
    obtain ⟨S, hS⟩ : ∃ S, sizes l = S := ⟨_, rfl⟩
    have hf : decide (few l) = decide ((S : Int) ≤ 1300) := by
     refine decide_eq_decide.2 ⟨fun h => ?_, fun h => ?_⟩
     ·have := h.2
      omega
     ·exact ⟨h110, by omega⟩
    rw [hS] at hle ⊢
    have hw : wrap64 (S : Int) = S := wrap_small S (by omega)
    rw [hw]
    have HF := Lib.hid hf
    clear hle hle2 hS hf hw
    go_wp2_with (fail)
    go_ret
    exact ⟨by rw [HF.out]; rfl, rfl⟩
   ·have hf := Lib.hid (show decide (few l) = false from decide_eq_false (fun hh => h110 hh.1))
    have h110i : (110 : Int) < (l.length : Int) := by omega
    generalize wrap64 ((sizes l : Nat) : Int) = S
    go_wp2_with (fail)
    go_ret
    exact ⟨by rw [hf.out]; rfl, rfl⟩
/-! ### Find -/
theorem find_any (A : Option Addr) (n c : Nat) (xs : List ByteArray) (s : ByteArray) (w : World) (h : KS.C w A n xs) :
  Calls Tryz.prog 88 #[.slice A n c, .string s] w fun e w' => e = .returned (.int .i64 (find s xs)) ∧ ∃ q, w' = w.drewN q := by
 have H := Lib.hid h
 have hmx := Kd.C_max h
 have hnl := ks_len h
 clear h
 subst hnl
 go_enter Tryz.func88, Tryz.ntmps88
 go_wp2_with (fail)
 go_loopg [5] xs.length (fun j i wr => ∃ k : Nat, k + j = xs.length ∧ i = .int .i64 k ∧ Hid (k ≤ idx s xs ∧ ∃ q, wr = w.drewN q))
 case atStart => exact ⟨0, by omega, rfl, Nat.zero_le _, 0, rfl⟩
 case round =>
  obtain ⟨k, hk, rfl, HI⟩ := hrel
  obtain ⟨hki, q, rfl⟩ := HI.out
  by_cases hlt : k < xs.length
  ·obtain ⟨ad, rfl, x0⟩ := strs_at H.out k hlt
   have hst := idx_at s xs k hlt hki
   obtain ⟨x, hx⟩ : ∃ x, xs.getD k no = x := ⟨_, rfl⟩
   rw [hx] at x0 hst
   have i0 : (0 : Int) ≤ k := by omega
   have i1 : (k : Int) < (xs.length : Int) := by omega
   have i2 : ((k : Int)).toNat = k := by omega
   have HX := Lib.hid hx
   have HS := Lib.hid hst
   clear hx hst hki HI
   by_cases he : s = x
   ·subst he
    have hb : (s.toList == s.toList) = true := (Lib.bytes_beq_iff s s).2 rfl
    have hf := Lib.hid (show find s xs = (k : Int) by unfold find; rw [(HS.out).1 rfl, if_pos hlt])
    go_wp2_with (fail)
    go_ret
    rw [hf.out]
    exact ⟨rfl, _, rfl⟩
   ·have hb : (x.toList == s.toList) = false := (Lib.bytes_beq_false_iff x s).2 (fun h => he h.symm)
    have HE := Lib.hid he
    clear he
    go_wp2_with (fail)
    go_roundg (xs.length - (k + 1))
    case measure => omega
    case rel => exact ⟨k + 1, by omega, by go_num, HS.out.2 HE.out, _, rfl⟩
  ·have hf := Lib.hid (show find s xs = -1 by unfold find; rw [if_neg (by have := idx_le s xs; omega)])
   clear hki HI
   go_wp2_with (fail)
   go_ret
   rw [hf.out]
   exact ⟨rfl, _, rfl⟩
/-! ### Phrases -/
set_option maxRecDepth 100000 in
set_option maxHeartbeats 1000000 in
theorem phrases_any (A : Option Addr) (n c : Nat) (l : List ByteArray) (w : World) (h : KS.C w A n l) (hs : ∀ s ∈ l, s.size ≤ 140737488351232) :
  Calls Tryz.prog 58 #[.slice A n c] w fun e w' => (∃ x p, e = .returned (.tuple #[.int .i64 x, .int .i64 p]) ∧ (x = 0 ↔ okTexts l)) ∧ ∃ q, w' = w.drewN q := by
 have H := Lib.hid h
 have hmx := Kd.C_max h
 have hnl := ks_len h
 have HS := Lib.hid hs
 clear h hs
 subst hnl
 go_enter Tryz.func58, Tryz.ntmps58
 by_cases h100 : 100 < l.length
 ·go_wp2_with (fail)
  go_ret2
  exact ⟨⟨10, 100, rfl, ⟨fun h => (by cases h), fun h => absurd h.1 (by omega)⟩⟩, 0, rfl⟩
 ·go_wp2_with (fail)
  go_loopg [4, 5] l.length (fun j s i wr => ∃ k : Nat, k + j = l.length ∧ i = .int .i64 k ∧ s = .int .i64 (sizes (l.take k) : Nat) ∧ Hid (sizes (l.take k) ≤ 1000 ∧ (∀ j, j < k → okAt l j) ∧ ∃ q, wr = w.drewN q))
  case atStart => exact ⟨0, by omega, rfl, rfl, by simp [sizes], fun j hj => absurd hj (Nat.not_lt_zero j), 0, rfl⟩
  case round =>
   obtain ⟨k, hk, rfl, rfl, HI⟩ := hrel
   obtain ⟨h1000, hok, q, rfl⟩ := HI.out
   by_cases hlt : k < l.length
   ·obtain ⟨ad, rfl, x0⟩ := strs_at H.out k hlt
    have hn := sizes_succ l k hlt
    have hxs := HS.out _ (getD_mem l k hlt)
    have hio := idx_self l k hlt
    obtain ⟨x, hx⟩ : ∃ x, l.getD k no = x := ⟨_, rfl⟩
    have hoa : okAt l k ↔ (x.size ≠ 0 ∧ x.size ≤ 40 ∧ sizes (l.take (k + 1)) ≤ 1000 ∧ k ≤ idx x l) := by unfold okAt; rw [hx]
    have hfi : find x l = (idx x l : Nat) := by
     unfold find
     rw [if_pos (by rw [hx] at hio; omega)]
    rw [hx] at x0 hn hxs hio
    obtain ⟨S, hS⟩ : ∃ S, sizes (l.take k) = S := ⟨_, rfl⟩
    rw [hS] at hn h1000 ⊢
    obtain ⟨I, hI⟩ : ∃ I, idx x l = I := ⟨_, rfl⟩
    rw [hI] at hoa hfi hio
    rw [hn] at hoa
    have i0 : (0 : Int) ≤ k := by omega
    have i1 : (k : Int) < (l.length : Int) := by omega
    have i2 : ((k : Int)).toNat = k := by omega
    have HOA := Lib.hid hoa
    have HN := Lib.hid hn
    have HF := Lib.hid hfi
    have HOK := Lib.hid hok
    clear hn hx hS hoa hfi hok hI HI
    by_cases c0 : x.size = 0
    ·obtain rfl := empty_of c0
     have hb : ((⟨#[]⟩ : ByteArray).toList == (⟨#[]⟩ : ByteArray).toList) = true := (Lib.bytes_beq_iff _ _).2 rfl
     have hres := Lib.hid (show ¬ okTexts l from fun h => (HOA.out.1 (h.2 k hlt)).1 rfl)
     clear c0
     go_wp2_with (fail)
     go_ret2
     exact ⟨⟨_, _, rfl, ⟨fun h => (by cases h), fun h => absurd h hres.out⟩⟩, _, rfl⟩
    ·have hb : x.toList.isEmpty = false := isEmpty_no c0
     by_cases c1 : x.size ≤ 40
     ·by_cases c2 : S + x.size ≤ 1000
      ·have c1i : (x.size : Int) ≤ 40 := by omega
       have c2i : (S : Int) + (x.size : Int) ≤ 1000 := by omega
       by_cases c3 : I < k
       ·have hres := Lib.hid (show ¬ okTexts l from fun h => by have := (HOA.out.1 (h.2 k hlt)).2.2.2; omega)
        have c3i : (I : Int) < (k : Int) := by omega
        clear c1 c2 c3
        go_wp2_with (go_at_call 88; refine (find_any _ _ _ _ _ _ (Kd.C_drewN H.out _)).mono ?_; rintro e w1 ⟨rfl, q1, hw1⟩; rw [World.drewN_drewN] at hw1; rw [HF.out]; subst hw1)
        all_goals first
         | (exfalso; omega)
         | (go_ret2; exact ⟨⟨_, _, rfl, ⟨fun h => (by cases h), fun h => absurd h hres.out⟩⟩, _, rfl⟩)
       ·have c3i : (k : Int) ≤ (I : Int) := by omega
        have hnow := Lib.hid (show okAt l k from HOA.out.2 ⟨c0, c1, c2, by omega⟩)
        have hs2 := Lib.hid (show ((sizes (l.take (k + 1)) : Nat) : Int) = (S : Int) + (x.size : Int) by rw [HN.out]; omega)
        have h1002 := Lib.hid (show sizes (l.take (k + 1)) ≤ 1000 by rw [HN.out]; omega)
        clear c1 c2 c3
        go_wp2_with (go_at_call 88; refine (find_any _ _ _ _ _ _ (Kd.C_drewN H.out _)).mono ?_; rintro e w1 ⟨rfl, q1, hw1⟩; rw [World.drewN_drewN] at hw1; rw [HF.out]; subst hw1)
        go_roundg (l.length - (k + 1))
        case measure => omega
        case rel => exact ⟨k + 1, by omega, by go_num, by rw [hs2.out], h1002.out, fun j hj => by
          by_cases h : j = k
          ·rw [h]; exact hnow.out
          ·exact HOK.out j (by omega), _, rfl⟩
      ·have c1i : (x.size : Int) ≤ 40 := by omega
       have c2i : (1000 : Int) < (S : Int) + (x.size : Int) := by omega
       have hres := Lib.hid (show ¬ okTexts l from fun h => by have := (HOA.out.1 (h.2 k hlt)).2.2.1; omega)
       clear c1 c2
       go_wp2_with (fail)
       all_goals first
        | (exfalso; omega)
        | (go_ret2; exact ⟨⟨_, _, rfl, ⟨fun h => (by cases h), fun h => absurd h hres.out⟩⟩, _, rfl⟩)
     ·have c1i : (40 : Int) < (x.size : Int) := by omega
      have hres := Lib.hid (show ¬ okTexts l from fun h => by have := (HOA.out.1 (h.2 k hlt)).2.1; omega)
      clear c1
      go_wp2_with (fail)
      all_goals first
       | (exfalso; omega)
       | (go_ret2; exact ⟨⟨_, _, rfl, ⟨fun h => (by cases h), fun h => absurd h hres.out⟩⟩, _, rfl⟩)
   ·obtain rfl : k = l.length := by omega
    have hres := Lib.hid (show okTexts l from ⟨by omega, hok⟩)
    clear hok h1000 HI
    generalize sizes (l.take l.length) = S
    go_wp2_with (fail)
    go_ret2
    exact ⟨⟨_, _, rfl, ⟨fun _ => hres.out, fun _ => rfl⟩⟩, _, rfl⟩
end Go.Proofs.YtfbbcfhdjhiejaaGreat.Dict

/- Dictionaries: how one is made, and read. -/
namespace Go.Proofs.YtfbbcfhdjhiejaaGreat.Dict
set_option linter.unusedVariables false
set_option linter.unusedSimpArgs false
open Go.RowKit Go.Proofs.YtfbbcfhdjhiejaaGreatW.PrintWords Go.Proofs.YtfbbcfhdjhiejaaGreatW.PrintMore Go.Proofs.YtfbbcfhdjhiejaaGreat.L Go.Proofs.YtfbbcfhdjhiejaaGreat.Texts
theorem alloc_cell {w : World} {b t : Nat} {x : Value} (h : w.heap[b]? = some (.cells #[x] t (0, 0))) (o : Obj) : (w.alloc o).cell? ⟨b, 0, none⟩ = some x :=
 (one_cell (L.heap_alloc_old h o)).1
/-- A dictionary of these phrases lies in block b. -/
def DC (w : World) (b : Nat) (l : List ByteArray) : Prop := ∃ A c, w.heap[b]? = some (.cells #[.slice A l.length c] 122 (0, 0)) ∧ KS.C w A l.length l
theorem DC.below {w w1 : World} {b : Nat} {l : List ByteArray} (h : DC w b l) (hb : Below w.heap.size w w1) : DC w1 b l := by
 obtain ⟨A, c, h1, h2⟩ := h
 exact ⟨A, c, (hb.block b (blk_lt h1)).trans h1, Kd.C_below h2 hb⟩
set_option maxRecDepth 100000 in
set_option maxHeartbeats 2000000 in
theorem new_any (A : Option Addr) (n c : Nat) (l : List ByteArray) (w : World) (h : KS.C w A n l) (hok : okTexts l) :
  Calls Tryz.prog 72 #[.slice A n c] w fun e w' => Below w.heap.size w w' ∧ ∃ b, e = .returned (.tuple #[.pointer (some ⟨b, 0, none⟩), .nilIface]) ∧ DC w' b l := by
 have H := Lib.hid h
 have hmx := Kd.C_max h
 have hnl := ks_len h
 obtain ⟨h100, hat⟩ := hok
 have HAT := Lib.hid hat
 clear h hat
 subst hnl
 go_enter Tryz.func72, Tryz.ntmps72
 go_wp2_with (fail)
 have hblk : (w.alloc (.cells #[.slice none 0 0] 122 (0, 0))).heap[w.heap.size]? = some (.cells #[.slice none 0 0] 122 (0, 0)) := heap_alloc_self _ _
 have hB0 := (Below.refl w.heap.size w).alloc (Nat.le_refl _) (.cells #[.slice none 0 0] 122 (0, 0))
 have HBLK := Lib.hid hblk
 have HB0 := Lib.hid hB0
 clear hblk hB0
 go_loopg [5, 17] l.length (fun j s i wr => ∃ k : Nat, k + j = l.length ∧ i = .int .i64 k ∧ s = .int .i64 (sizes (l.take k) : Nat) ∧ Hid (sizes (l.take k) ≤ 1000 ∧ ∃ v, wr.heap[w.heap.size]? = some (.cells #[v] 122 (0, 0)) ∧ KS.R 9 wr w.heap.size (fun _ => True) v (l.take k) ∧ Below w.heap.size w wr))
 case atStart => exact ⟨0, by omega, rfl, rfl, by simp [sizes], _, HBLK.out, Kd.R_nil _ _ _ _ _, HB0.out⟩
 case round =>
  obtain ⟨k, hk, rfl, rfl, HI⟩ := hrel
  obtain ⟨h1000, v, hblk, hr, hb⟩ := HI.out
  by_cases hlt : k < l.length
  ·obtain ⟨ad, rfl, x0⟩ := strs_at (Kd.C_below H.out hb) k hlt
   obtain ⟨a1, a2, a3, a4⟩ := HAT.out k hlt
   have hn := sizes_succ l k hlt
   have htk := take_succ_getD l k hlt
   obtain ⟨x, hx⟩ : ∃ x, l.getD k no = x := ⟨_, rfl⟩
   rw [hx] at x0 hn a1 a2 a4 htk
   have hlen : (l.take k).length = k := by rw [List.length_take]; omega
   have hhas : has x (l.take k) = false := by
    have h1 : ¬ has x (l.take k) = true := by
     rw [has_iff]
     intro hm
     have h2 := (idx_mem x (l.take k)).2 hm
     have h3 : ∀ (a b : List ByteArray), idx x a < a.length → idx x (a ++ b) = idx x a := by
      intro a b
      induction a with
      | nil => intro h; simp at h
      | cons y a ih =>
        intro h
        rw [List.cons_append]
        unfold idx at h ⊢
        by_cases he : x = y
        ·rw [if_pos he, if_pos he]
        ·rw [if_neg he] at h ⊢
         rw [if_neg he, ih (by rw [List.length_cons] at h; omega)]
     have h4 := h3 (l.take k) (l.drop k) h2
     rw [List.take_append_drop] at h4
     omega
    simpa using h1
   obtain ⟨S, hS⟩ : ∃ S, sizes (l.take k) = S := ⟨_, rfl⟩
   rw [hS] at hn h1000 ⊢
   have hsn : ((sizes (l.take (k + 1)) : Nat) : Int) = (S : Int) + (x.size : Int) := by rw [hn]; omega
   have c1i : (x.size : Int) ≤ 40 := by omega
   have c2i : (S : Int) + (x.size : Int) ≤ 1000 := by omega
   have hemp : x.toList.isEmpty = false := isEmpty_no a1
   have i0 : (0 : Int) ≤ k := by omega
   have i1 : (k : Int) < (l.length : Int) := by omega
   have i2 : ((k : Int)).toNat = k := by omega
   have HSN := Lib.hid hsn
   have H1000 := Lib.hid a3
   have HTK := Lib.hid htk
   have HHAS := Lib.hid hhas
   have HB := Lib.hid hb
   obtain ⟨A1, c1, rfl⟩ := Kd.R_slice hr
   obtain ⟨_, _, hrc⟩ := Kd.R_reads' hr
   rw [hlen] at hr hblk hrc
   have HBK := Lib.hid hblk
   have HR := Lib.hid hr
   have HRC := Lib.hid hrc
   obtain ⟨d0, d1⟩ := one_cell hblk
   have HL1 := Lib.hid (show (l.take k ++ [x]).length = k + 1 by rw [List.length_append, hlen]; rfl)
   clear hx hS hn hsn a1 a2 a3 a4 htk hhas hb hblk hr hrc HI h1000 hlen
   go_wp2_with (go_at_call 113; refine (contains_texts _ _ _ _ _ _ HRC.out).mono ?_; rintro e w1 ⟨rfl, q1, hw1⟩; rw [HHAS.out]; subst hw1)
   go_region_law (first
    | (go_simp; go_at_call 114; refine (clone_str _ _ (by omega)).mono ?_; rintro e w2 ⟨rfl, hb2⟩; have HBK2 := Lib.hid ((hb2.block w.heap.size (blk_lt HBK.out)).trans HBK.out); have HR2 := Lib.hid (Kd.R_below (Kd.R_drewN HR.out _) hb2); have HB2 := Lib.hid (bel_trans (below_drewN HB.out _) HB.out.size hb2); obtain ⟨e0, e1⟩ := one_cell HBK2.out; have e2 := fun o : Obj => alloc_cell HBK2.out o; clear hb2)
    | (refine Kd.R_append_step KS (w0 := w) w.heap.size (by rfl) (.tmp 53) (.tmp 56) 22 9 (.string ⟨#[]⟩) 16 rfl Tryz.underlying22 infoStr rfl (by decide) (by omega) (.slice A1 k c1) (l.take k) x [.string x] (fun _ => True) (fun _ => False) (by simp [Act.eval, Act.put]) (by simp [Act.eval, Act.put]) rfl (fun _ hk => hk.elim) (fun _ _ => trivial) HR2.out HB2.out HB2.out.size (by simp; omega) ?_; intro v3 w3 ho3 hb3 hg3 hat3; obtain ⟨A3, c3, hv3⟩ := Kd.R_slice ho3; rw [HL1.out] at hv3; subst hv3; have HBK3 := Lib.hid ((hg3.block w.heap.size (blk_lt HBK2.out) (Kd.R_ne HR2.out HBK2.out (by decide))).trans HBK2.out); have HR3 := Lib.hid ho3; have HB3 := Lib.hid hb3; obtain ⟨f0, f1⟩ := one_cell HBK3.out; clear ho3 hb3 hg3 hat3))
   all_goals
    have HBK4 := Lib.hid (show (w3.setCell ⟨w.heap.size, 0, none⟩ (.slice A3 (k + 1) c3)).heap[w.heap.size]? = some (.cells #[.slice A3 (k + 1) c3] 122 (0, 0)) by rw [heap_setCell_same _ _ 0 _ _ _ HBK3.out]; rfl)
    have HR4 := Lib.hid (Kd.R_set HR3.out HBK3.out (by decide) 0 (.slice A3 (k + 1) c3))
    have HB4 := Lib.hid (HB3.out.setCell (p := ⟨w.heap.size, 0, none⟩) (Nat.le_refl w.heap.size) (.slice A3 (k + 1) c3))
    clear HBK3 HR3 HB3 f0 f1
    go_wp2_with (fail)
    go_roundg (l.length - (k + 1))
    case measure => omega
    case rel => exact ⟨k + 1, by omega, by go_num, by rw [HSN.out], H1000.out, _, HBK4.out, by rw [HTK.out]; exact HR4.out, HB4.out⟩
  ·obtain rfl : k = l.length := by omega
   rw [List.take_length] at hr
   obtain ⟨A1, c1, rfl⟩ := Kd.R_slice hr
   obtain ⟨_, _, hrc⟩ := Kd.R_reads' hr
   have HD := Lib.hid (show DC wr w.heap.size l from ⟨_, _, hblk, hrc⟩)
   have HB := Lib.hid hb
   clear hr hrc hblk hb HI h1000
   generalize sizes (l.take l.length) = S
   go_wp2_with (fail)
   go_ret2
   exact ⟨HB.out, _, rfl, HD.out⟩
end Go.Proofs.YtfbbcfhdjhiejaaGreat.Dict

/- Dictionaries: as the statements make them; a phrase by its number. -/
namespace Go.Proofs.YtfbbcfhdjhiejaaGreat.Dict
set_option linter.unusedVariables false
set_option linter.unusedSimpArgs false
open Go.RowKit Go.Proofs.YtfbbcfhdjhiejaaGreatW.PrintWords Go.Proofs.YtfbbcfhdjhiejaaGreatW.PrintMore Go.Proofs.YtfbbcfhdjhiejaaGreat.L Go.Proofs.YtfbbcfhdjhiejaaGreat.Texts
theorem make_any (A : Option Addr) (n c : Nat) (l : List ByteArray) (w : World) (h : KS.C w A n l) (hok : okTexts l) :
  Calls Tryz.prog 39 #[.slice A n c] w fun e w' => Below w.heap.size w w' ∧ ∃ b, e = .returned (.pointer (some ⟨b, 0, none⟩)) ∧ DC w' b l := by
 have H := Lib.hid h
 clear h
 go_enter Tryz.func39, Tryz.ntmps39
 go_wp2_with (fail)
 refine (new_any _ _ _ _ _ H.out hok).mono ?_
 rintro e w1 ⟨hb, b, rfl, hd⟩
 have HB := Lib.hid hb
 have HD := Lib.hid hd
 clear hb hd
 go_wp2_with (fail)
 go_ret
 exact ⟨HB.out, _, rfl, HD.out⟩
/-- Which dictionaries the statements speak of. -/
def dictIn (l : List ByteArray) (b : ByteArray) : Prop := few l ∧ b.size ≤ 400 ∧ okTexts l
set_option maxRecDepth 100000 in
theorem dict_any (A : Option Addr) (n c : Nat) (l : List ByteArray) (b : ByteArray) (w : World) (h : KS.C w A n l) (hs : ∀ s ∈ l, s.size ≤ 140737488351232) :
  Calls Tryz.prog 23 #[.slice A n c, .string b] w fun e w' => Below w.heap.size w w' ∧
   ((dictIn l b ∧ ∃ k, e = .returned (.tuple #[.pointer (some ⟨k, 0, none⟩), .bool true]) ∧ DC w' k l) ∨ (¬ dictIn l b ∧ e = .returned (.tuple #[.pointer none, .bool false]))) := by
 have H := Lib.hid h
 have HS := Lib.hid hs
 clear h hs
 go_enter Tryz.func23, Tryz.ntmps23
 go_wp2_with (fail)
 refine (few_any _ _ _ _ _ H.out HS.out).mono ?_
 rintro e w1 ⟨rfl, rfl⟩
 by_cases hf : few l
 ·rw [decide_eq_true hf]
  by_cases hb : b.size ≤ 400
  ·have hbi : (b.size : Int) ≤ 400 := by omega
   go_wp2_with (fail)
   refine (phrases_any _ _ _ _ _ H.out HS.out).mono ?_
   rintro e w2 ⟨⟨x, p, rfl, hx⟩, q, rfl⟩
   by_cases ho : okTexts l
   ·obtain rfl := hx.2 ho
    have HI := Lib.hid (show dictIn l b from ⟨hf, hb, ho⟩)
    clear hx hf hb
    go_wp2_with (fail)
    refine (make_any _ _ _ _ _ (Kd.C_drewN H.out q) ho).mono ?_
    rintro e w3 ⟨hb3, k, rfl, hd⟩
    have HB3 := Lib.hid (bel_trans (below_drewN (Below.refl w1.heap.size w1) q) (Nat.le_refl _) hb3)
    have HD := Lib.hid hd
    clear hb3 hd
    go_wp2_with (fail)
    go_ret2
    exact ⟨HB3.out, .inl ⟨HI.out, _, rfl, HD.out⟩⟩
   ·have hne : (x != 0) = true := bne_iff_ne.2 (fun h => ho (hx.1 h))
    have HI := Lib.hid (show ¬ dictIn l b from fun h => ho h.2.2)
    clear hx hf hb
    go_wp2_with (fail)
    go_ret2
    exact ⟨below_drewN (Below.refl _ _) q, .inr ⟨HI.out, rfl⟩⟩
  ·have hbi : (400 : Int) < (b.size : Int) := by omega
   have HI := Lib.hid (show ¬ dictIn l b from fun h => hb h.2.1)
   clear hf hb
   go_wp2_with (fail)
   go_ret2
   exact ⟨Below.refl _ _, .inr ⟨HI.out, rfl⟩⟩
 ·rw [decide_eq_false hf]
  have HI := Lib.hid (show ¬ dictIn l b from fun h => hf h.1)
  clear hf
  go_wp2_with (fail)
  go_ret2
  exact ⟨Below.refl _ _, .inr ⟨HI.out, rfl⟩⟩
/-! ### (*Dict).At -/
/-- A dictionary, or none: then it is as one of no phrases. -/
def DP (w : World) (p : Option Addr) (l : List ByteArray) : Prop := (p = none ∧ l = []) ∨ ∃ b, p = some ⟨b, 0, none⟩ ∧ DC w b l
theorem DP.below {w w1 : World} {p : Option Addr} {l : List ByteArray} (h : DP w p l) (hb : Below w.heap.size w w1) : DP w1 p l := by
 rcases h with h | ⟨b, e, h⟩
 ·exact .inl h
 ·exact .inr ⟨b, e, h.below hb⟩
def inL (l : List ByteArray) (k : Int) : Bool := decide (0 ≤ k ∧ k < (l.length : Int))
def atL (l : List ByteArray) (k : Int) : ByteArray := if inL l k = true then l.getD k.toNat no else no
set_option maxRecDepth 100000 in
theorem at_any (p : Option Addr) (l : List ByteArray) (k : Int) (w : World) (h : DP w p l) :
  Calls Tryz.prog 152 #[.pointer p, .int .i64 k] w fun e w' => e = .returned (.tuple #[.string (atL l k), .bool (inL l k)]) ∧ w' = w := by
 rcases h with ⟨rfl, rfl⟩ | ⟨b, rfl, A, c, hb, hc⟩
 ·have hin : inL [] k = false := by unfold inL; exact decide_eq_false (by simp)
  have hat : atL [] k = no := by unfold atL; rw [hin]; rfl
  rw [hin, hat]
  clear hin hat
  go_enter Tryz.func152, Tryz.ntmps152
  go_wp2_with (fail)
  go_ret2
  exact ⟨rfl, rfl⟩
 ·obtain ⟨d0, d1⟩ := one_cell hb
  have HC := Lib.hid hc
  clear hb hc
  by_cases h0 : k < 0
  ·have hin : inL l k = false := by unfold inL; exact decide_eq_false (by omega)
   have hat : atL l k = no := by unfold atL; rw [hin]; rfl
   rw [hin, hat]
   clear hin hat
   go_enter Tryz.func152, Tryz.ntmps152
   go_wp2_with (fail)
   go_ret2
   exact ⟨rfl, rfl⟩
  ·by_cases h1 : (l.length : Int) ≤ k
   ·have hin : inL l k = false := by unfold inL; exact decide_eq_false (by omega)
    have hat : atL l k = no := by unfold atL; rw [hin]; rfl
    rw [hin, hat]
    have h00 : 0 ≤ k := by omega
    clear hin hat h0
    go_enter Tryz.func152, Tryz.ntmps152
    go_wp2_with (fail)
    go_ret2
    exact ⟨rfl, rfl⟩
   ·have hin : inL l k = true := by unfold inL; exact decide_eq_true ⟨by omega, by omega⟩
    have hat : atL l k = l.getD k.toNat no := by unfold atL; rw [if_pos hin]
    obtain ⟨j, rfl⟩ := Int.eq_ofNat_of_zero_le (by omega : 0 ≤ k)
    rw [Int.toNat_natCast] at hat
    rw [hin, hat]
    obtain ⟨ad, rfl, x0⟩ := strs_at HC.out j (by omega)
    obtain ⟨x, hx⟩ : ∃ x, l.getD j no = x := ⟨_, rfl⟩
    rw [hx] at x0 ⊢
    have i1 : (j : Int) < (l.length : Int) := by omega
    have i0 : (0 : Int) ≤ j := by omega
    have i2 : ((j : Int)).toNat = j := by omega
    clear hin hat hx h0 h1
    go_enter Tryz.func152, Tryz.ntmps152
    go_wp2_with (fail)
    go_ret2
    exact ⟨rfl, rfl⟩
end Go.Proofs.YtfbbcfhdjhiejaaGreat.Dict

/- Dictionaries as bytes; their names. -/
namespace Go.Proofs.YtfbbcfhdjhiejaaGreat.Dict
set_option linter.unusedVariables false
set_option linter.unusedSimpArgs false
open Go.RowKit Go.Proofs.YtfbbcfhdjhiejaaGreatW.PrintWords Go.Proofs.YtfbbcfhdjhiejaaGreatW.PrintMore Go.Proofs.YtfbbcfhdjhiejaaGreat.L Go.Proofs.YtfbbcfhdjhiejaaGreat.Texts Go.Proofs.YtfbbcfhdjhiejaaGreat.Vari Go.Proofs.YtfbbcfhdjhiejaaGreat.Sums
def dstep (a s : ByteArray) : ByteArray := a ++ (numS s.size ++ s)
def bytesTo (l : List ByteArray) (k : Nat) : ByteArray := (l.take k).foldl dstep (numS l.length)
/-- A dictionary as bytes. -/
def bytesD (l : List ByteArray) : ByteArray := bytesTo l l.length
theorem bytesTo_succ (l : List ByteArray) (k : Nat) (h : k < l.length) : bytesTo l (k + 1) = dstep (bytesTo l k) (l.getD k no) := by
 unfold bytesTo
 rw [take_succ_getD l k h]
 exact fold_snoc _ _ _ _
theorem bytesTo_size (l : List ByteArray) (hs : ∀ k, k < l.length → (l.getD k no).size ≤ 40) : ∀ k, k ≤ l.length → (bytesTo l k).size ≤ 5 + 45 * k
 | 0, _ => by show (numS l.length).size ≤ 5; exact numS_size _
 | k + 1, h => by
   have := bytesTo_size l hs k (by omega)
   have h2 := hs k (by omega)
   have h3 := numS_size ((l.getD k no).size)
   rw [bytesTo_succ l k (by omega)]
   unfold dstep
   rw [ByteArray.size_append, ByteArray.size_append]
   omega
theorem ok_short {l : List ByteArray} (h : okTexts l) (k : Nat) (hk : k < l.length) : (l.getD k no).size ≤ 40 := (h.2 k hk).2.1
set_option maxRecDepth 100000 in
set_option maxHeartbeats 1000000 in
theorem bytes_any (b : Nat) (l : List ByteArray) (w : World) (h : DC w b l) (hok : okTexts l) :
  Calls Tryz.prog 29 #[.pointer (some ⟨b, 0, none⟩)] w fun e w' => e = .returned (.string (bytesD l)) ∧ Below w.heap.size w w' := by
 obtain ⟨A, c, hb, hc⟩ := h
 have HS := Lib.hid (bytesTo_size l (ok_short hok))
 have hl := hok.1
 have H := Lib.hid hc
 have HBK := Lib.hid hb
 obtain ⟨d0, d1⟩ := one_cell hb
 have HOK := Lib.hid (ok_short hok)
 clear hb hc hok
 go_enter Tryz.func29, Tryz.ntmps29
 go_wp2_with (fail)
 refine (put_any _ _).mono ?_
 rintro e w1 ⟨rfl, hb1⟩
 have HB1 := Lib.hid hb1
 obtain ⟨e0, e1⟩ := one_cell ((hb1.block b (blk_lt HBK.out)).trans HBK.out)
 clear hb1
 go_wp2_with (fail)
 go_loopg [3, 25] l.length (fun j v i wr => ∃ k : Nat, k + j = l.length ∧ i = .int .i64 k ∧ v = .string (bytesTo l k) ∧ Hid (Below w.heap.size w wr))
 case atStart => exact ⟨0, by omega, rfl, rfl, HB1.out⟩
 case round =>
  obtain ⟨k, hk, rfl, rfl, HI⟩ := hrel
  by_cases hlt : k < l.length
  ·obtain ⟨ad, rfl, x0⟩ := strs_at (Kd.C_below H.out HI.out) k hlt
   have HN := Lib.hid (bytesTo_succ l k hlt)
   have h1 := HS.out k (by omega)
   have h2 := HOK.out k hlt
   obtain ⟨x, hx⟩ : ∃ x, l.getD k no = x := ⟨_, rfl⟩
   rw [hx] at x0 HN h2
   have h3 := numS_size (x.size : Int)
   have i0 : (0 : Int) ≤ k := by omega
   have i1 : (k : Int) < (l.length : Int) := by omega
   have i2 : ((k : Int)).toNat = k := by omega
   have HK := Lib.hid hk
   obtain ⟨V, hV⟩ : ∃ V, bytesTo l k = V := ⟨_, rfl⟩
   rw [hV] at HN h1 ⊢
   have hq : ¬ 9223372036854775807 < (numS (x.size : Int)).size + x.size := by omega
   have hq2 : ¬ 9223372036854775807 < V.size + ((numS (x.size : Int)).size + x.size) := by omega
   clear hx hV hk h1 h2 h3
   go_wp2_with (go_at_call 63; refine (put_any _ _).mono ?_; rintro e w2 ⟨rfl, hb2⟩; have HB2 := Lib.hid (bel_trans HI.out HI.out.size hb2); clear hb2)
   go_roundg (l.length - (k + 1))
   case measure => have := HK.out; omega
   case rel => exact ⟨k + 1, by have := HK.out; omega, by go_num, by rw [HN.out]; rfl, HB2.out⟩
  ·obtain rfl : k = l.length := by omega
   go_wp2_with (fail)
   go_ret
   exact ⟨rfl, HI.out⟩
def idD (l : List ByteArray) : Nat := fnv (bytesD l)
theorem id_big (l : List ByteArray) : idD l < 18446744073709551616 := fnvL_lt _
theorem id_any (b : Nat) (l : List ByteArray) (w : World) (h : DC w b l) (hok : okTexts l) :
  Calls Tryz.prog 30 #[.pointer (some ⟨b, 0, none⟩)] w fun e w' => e = .returned (.int .u64 (idD l : Nat)) ∧ Below w.heap.size w w' := by
 have hz := bytesTo_size l (ok_short hok) l.length (Nat.le_refl _)
 have hz2 : (bytesD l).size ≤ 140737488351232 := by have := hok.1; show (bytesTo l l.length).size ≤ _; omega
 have H := Lib.hid h
 clear h hz
 go_enter Tryz.func30, Tryz.ntmps30
 go_wp2_with (fail)
 refine (bytes_any b l _ H.out hok).mono ?_
 rintro e w1 ⟨rfl, hb1⟩
 have HB1 := Lib.hid hb1
 clear hb1
 go_wp2_with (fail)
 refine (fnv_of _ _ hz2).mono ?_
 rintro e w2 ⟨rfl, hb2⟩
 have HB2 := Lib.hid (bel_trans HB1.out HB1.out.size hb2)
 clear hb2
 go_wp2_with (fail)
 go_ret
 exact ⟨rfl, HB2.out⟩
set_option maxRecDepth 100000 in
set_option maxHeartbeats 1000000 in
theorem ref_bytes (A : Option Addr) (n c : Nat) (l : List ByteArray) (w : World) (h : KS.C w A n l) (hok : okTexts l) :
  Calls Tryz.prog 52 #[.slice A n c] w fun e w' => e = .returned (.string (bytesD l)) ∧ Below w.heap.size w w' := by
 have hnl := ks_len h
 subst hnl
 have HS := Lib.hid (bytesTo_size l (ok_short hok))
 have hl := hok.1
 have H := Lib.hid h
 have HOK := Lib.hid (ok_short hok)
 clear h hok
 go_enter Tryz.func52, Tryz.ntmps52
 go_wp2_with (fail)
 refine (ref_number _ _).mono ?_
 rintro e w1 ⟨rfl, hb1⟩
 have HB1 := Lib.hid hb1
 clear hb1
 go_wp2_with (fail)
 go_loopg [3, 5] l.length (fun j v i wr => ∃ k : Nat, k + j = l.length ∧ i = .int .i64 k ∧ v = .string (bytesTo l k) ∧ Hid (Below w.heap.size w wr))
 case atStart => exact ⟨0, by omega, rfl, rfl, HB1.out⟩
 case round =>
  obtain ⟨k, hk, rfl, rfl, HI⟩ := hrel
  by_cases hlt : k < l.length
  ·obtain ⟨ad, rfl, x0⟩ := strs_at (Kd.C_below H.out HI.out) k hlt
   have HN := Lib.hid (bytesTo_succ l k hlt)
   have h1 := HS.out k (by omega)
   have h2 := HOK.out k hlt
   obtain ⟨x, hx⟩ : ∃ x, l.getD k no = x := ⟨_, rfl⟩
   have HX := Lib.hid hx
   rw [hx] at x0 HN h2
   have h3 := numS_size (x.size : Int)
   have i0 : (0 : Int) ≤ k := by omega
   have i1 : (k : Int) < (l.length : Int) := by omega
   have i2 : ((k : Int)).toNat = k := by omega
   have HK := Lib.hid hk
   obtain ⟨V, hV⟩ : ∃ V, bytesTo l k = V := ⟨_, rfl⟩
   rw [hV] at HN h1 ⊢
   have hq : ¬ 9223372036854775807 < V.size + (numS (x.size : Int)).size := by omega
   have hq2 : ¬ 9223372036854775807 < V.size + (numS (x.size : Int)).size + x.size := by omega
   clear hx hV hk h1 h2 h3
   go_wp2_with (go_at_call 80; refine (ref_number _ _).mono ?_; rintro e w2 ⟨rfl, hb2⟩; have HB2 := Lib.hid (bel_trans HI.out HI.out.size hb2); obtain ⟨ad2, had2, y0⟩ := strs_at (Kd.C_below H.out HB2.out) k hlt; cases had2; rw [HX.out] at y0; clear hb2 x0)
   go_roundg (l.length - (k + 1))
   case measure => have := HK.out; omega
   case rel => exact ⟨k + 1, by have := HK.out; omega, by go_num, by rw [HN.out]; unfold dstep; rw [ByteArray.append_assoc], HB2.out⟩
  ·obtain rfl : k = l.length := by omega
   go_wp2_with (fail)
   go_ret
   exact ⟨rfl, HI.out⟩
end Go.Proofs.YtfbbcfhdjhiejaaGreat.Dict

/- Numbers in so many bytes, the greatest first: the program's and the document's. -/
namespace Go.Proofs.YtfbbcfhdjhiejaaGreat.Fr
set_option linter.unusedVariables false
set_option linter.unusedSimpArgs false
open Go.RowKit Go.Proofs.YtfbbcfhdjhiejaaGreatW.PrintWords Go.Proofs.YtfbbcfhdjhiejaaGreatW.PrintMore Go.Proofs.YtfbbcfhdjhiejaaGreat.L Go.Proofs.YtfbbcfhdjhiejaaGreat.Ints Go.Proofs.YtfbbcfhdjhiejaaGreat.Bits Go.Proofs.YtfbbcfhdjhiejaaGreat.Co
def digit (n k j : Nat) : Int := ((n / 256 ^ (k - 1 - j) % 256 : Nat) : Int)
def bigI (n k : Nat) : List Int := (List.range k).map (digit n k)
theorem bigI_str (n k : Nat) : strOfNums (bigI n k) = big n k := by
 unfold strOfNums bigI big bigL
 rw [List.map_map]
 refine congrArg (fun l : List UInt8 => (⟨l.toArray⟩ : ByteArray)) (List.map_congr_left fun j _ => ?_)
 show UInt8.ofNat (((n / 256 ^ (k - 1 - j) % 256 : Nat) : Int).toNat) = _
 rw [Int.toNat_natCast]
 apply UInt8.toNat_inj.1
 simp
theorem bigI_len (n k : Nat) : (bigI n k).length = k := by simp [bigI]
theorem bigI_take (n k r : Nat) (h : r < k) : (bigI n k).take (r + 1) = (bigI n k).take r ++ [digit n k r] := by
 rw [List.take_succ_eq_append_getElem (by rw [bigI_len]; exact h)]
 simp [bigI]
theorem digit_shift (n k r : Nat) : ((n : Int) / 2 ^ (8 * (k - 1 - r))) % 256 = digit n k r := by
 unfold digit
 have : (2 : Int) ^ (8 * (k - 1 - r)) = ((256 ^ (k - 1 - r) : Nat) : Int) := by rw [Int.pow_mul]; exact_mod_cast rfl
 rw [this]
 omega
set_option maxRecDepth 100000 in
set_option maxHeartbeats 1000000 in
theorem big_any (n k : Nat) (w : World) (hk8 : k ≤ 8) :
  Calls Tryz.prog 119 #[.int .u64 n, .int .i64 k] w fun e w' => e = .returned (.string (big n k)) ∧ Below w.heap.size w w' := by
 go_enter Tryz.func119, Tryz.ntmps119
 go_wp2_with (fail)
 go_loopg [1, 5] (k + 1) (fun j b v wr => ∃ r : Nat, r + j = k + 1 ∧ r ≤ k ∧ b = .int .i64 ((k : Int) - 1 - r) ∧ Hid (Kd.R (Kd.int .u8) 5 wr w.heap.size (fun _ => True) v ((bigI n k).take r) ∧ Below w.heap.size w wr))
 case atStart => exact ⟨0, by omega, Nat.zero_le _, by go_num, Kd.R_nil _ _ _ _ _, Below.refl _ _⟩
 case round =>
  obtain ⟨r, hj, hrk, rfl, HI⟩ := hrel
  obtain ⟨hr, hb⟩ := HI.out
  by_cases hlt : r < k
  ·have HR := Lib.hid hr
   have HB := Lib.hid hb
   have HJ := Lib.hid hj
   have HT := Lib.hid (bigI_take n k r hlt)
   have HD := Lib.hid (digit_shift n k r)
   obtain ⟨b, hbb⟩ : ∃ b, k - 1 - r = b := ⟨_, rfl⟩
   have hcast : ((k : Int) - 1 - r) = (b : Int) := by omega
   have hb7 : b ≤ 7 := by omega
   rw [hcast]
   have HC := Lib.hid hcast
   have HBB := Lib.hid hbb
   clear hr hb HI hj hcast hbb
   go_wp2_with (((with_reducible refine gate_builtin (b := .append) (xs := #[.tmp 12, .tmp 18]) rfl ?_); at_builtin; apply stopper))
   unfold Stopper
   refine Kd.R_append (Kd.int .u8) (w0 := w) w.heap.size rfl (.tmp 12) (.tmp 18) 49 5 (.int .u8 0) 1 rfl Tryz.underlying49 infoU8 rfl (by decide) (by omega) u5 ((bigI n k).take r) ((n : Int) / 2 ^ (8 * b) % 256) [.int .u8 ((n : Int) / 2 ^ (8 * b) % 256)] (fun _ => True) (fun _ => False) rfl rfl ?aP (fun _ hk => hk.elim) ?aF ?aO ?aB ?aS ?aL ?_
   case aP => exact rfl
   case aF => exact (fun _ _ => trivial)
   case aO => exact HR.out
   case aB => exact HB.out
   case aS => exact HB.out.size
   case aL => rw [List.length_take, bigI_len]; omega
   intro p1 w6 ho hb6 hg hat
   have HD2 := Lib.hid (show (n : Int) / 2 ^ (8 * b) % 256 = digit n k r by rw [← HD.out, HBB.out])
   rw [HD2.out, ← HT.out] at ho
   have HO := Lib.hid ho
   have HB6 := Lib.hid hb6
   clear ho hb6 hg hat
   go_wp2_with (fail)
   go_roundg (k + 1 - (r + 1))
   case measure => have := HJ.out; omega
   case rel => exact ⟨r + 1, by have := HJ.out; omega, by omega, by have := HC.out; rw [← this]; go_num, HO.out, HB6.out⟩
  ·obtain rfl : r = k := by omega
   rw [List.take_of_length_le (by rw [bigI_len]; exact Nat.le_refl _)] at hr
   have hcv := own_string (P := Tryz.prog) Tryz.underlying49 Tryz.underlying5 Tryz.underlying9 (Kd.own_of_R hr)
   rw [bigI_str] at hcv
   have HB := Lib.hid hb
   have e : ((r : Int) - 1 - r) = -1 := by omega
   rw [e]
   clear hr hb HI e
   go_wp2_with (fail)
   go_ret
   exact ⟨rfl, HB.out⟩
/-- The bytes, of which the last r are laid. -/
def fillL (n k r : Nat) : List Int := (List.range k).map fun j => if k - r ≤ j then digit n k j else 0
theorem fillL_len (n k r : Nat) : (fillL n k r).length = k := by simp [fillL]
theorem fillL_set (n k r : Nat) (h : r < k) : (fillL n k r).set (k - 1 - r) (digit n k (k - 1 - r)) = fillL n k (r + 1) := by
 apply List.ext_getElem (by simp [fillL])
 intro j h1 h2
 have hj : j < k := by rw [fillL_len] at h2; exact h2
 rw [List.getElem_set]
 simp only [fillL, List.getElem_map, List.getElem_range]
 by_cases e : k - 1 - r = j
 ·rw [if_pos e, if_pos (by omega), e]
 ·rw [if_neg e]
  by_cases e2 : k - r ≤ j
  ·rw [if_pos e2, if_pos (by omega)]
  ·rw [if_neg e2, if_neg (by omega)]
theorem fillL_zero (n k : Nat) : fillL n k 0 = List.replicate k 0 := by
 apply List.ext_getElem (by simp [fillL])
 intro j h1 h2
 have hj : j < k := by rw [fillL_len] at h1; exact h1
 simp only [fillL, List.getElem_map, List.getElem_range, List.getElem_replicate]
 rw [if_neg (by omega)]
theorem fillL_all (n k : Nat) : fillL n k k = bigI n k := by
 unfold fillL bigI
 exact List.map_congr_left fun j _ => if_pos (by omega)
theorem digit_low (n k r : Nat) (h : r < k) : digit n k (k - 1 - r) = ((n / 256 ^ r : Nat) : Int) % 256 := by
 unfold digit
 rw [show k - 1 - (k - 1 - r) = r by omega]
 omega
theorem shift_low (n r : Nat) : ((n / 256 ^ r : Nat) : Int) / 256 = ((n / 256 ^ (r + 1) : Nat) : Int) := by
 rw [Nat.pow_succ, ← Nat.div_div_eq_div_mul]
 omega
set_option maxRecDepth 100000 in
set_option maxHeartbeats 1000000 in
theorem ref_big (n k : Nat) (w : World) (hk8 : k ≤ 8) :
  Calls Tryz.prog 34 #[.int .u64 n, .int .i64 k] w fun e w' => e = .returned (.string (big n k)) ∧ Below w.heap.size w w' := by
 go_enter Tryz.func34, Tryz.ntmps34
 go_wp2_with ((with_reducible refine gate_dst (N := 8) rfl ?_); apply stopper)
 unfold Stopper
 refine Kd.R_make (Kd.int .u8) (w0 := w) w.heap.size 5 rfl (N := 8) rfl 49 _ _ rfl (k : Int) rfl rfl Tryz.underlying49 (.int .u8 0) 1 infoU8 rfl (by decide) (by omega) 0 (ok := fun _ => True) (okp := fun _ => True) ?mM (fun _ hk => hk) trivial (by omega) ?mL (Below.refl _ _) (Nat.le_refl _) ?_
 case mM => exact rfl
 case mL => omega
 intro v4 w4 hr4 hb4 hg4 hat4
 rw [Int.toNat_natCast, ← fillL_zero n] at hr4
 have HR4 := Lib.hid hr4
 have HB4 := Lib.hid hb4
 clear hr4 hb4 hg4 hat4
 go_wp2_with (fail)
 go_loopg [0, 6] (k + 1) (fun j v b wr => ∃ r : Nat, r + j = k + 1 ∧ r ≤ k ∧ b = .int .i64 ((k : Int) - 1 - r) ∧ v = .int .u64 (n / 256 ^ r : Nat) ∧ Hid (Kd.R (Kd.int .u8) 5 wr w.heap.size (fun _ => True) v4 (fillL n k r) ∧ Below w.heap.size w wr))
 case atStart => exact ⟨0, by omega, Nat.zero_le _, by go_num, by simp, HR4.out, HB4.out⟩
 case round =>
  obtain ⟨r, hj, hrk, rfl, rfl, HI⟩ := hrel
  obtain ⟨hr, hb⟩ := HI.out
  by_cases hlt : r < k
  ·obtain ⟨g, cp, hv4, hg0, hg1, cells, hg2⟩ := Kd.R_form hr (by rw [fillL_len]; omega)
   rw [fillL_len] at hv4
   subst hv4
   have HJ := Lib.hid hj
   have HST := Lib.hid (fillL_set n k r hlt)
   have HDL := Lib.hid (digit_low n k r hlt)
   have HSH := Lib.hid (shift_low n r)
   obtain ⟨b, hbb⟩ : ∃ b, k - 1 - r = b := ⟨_, rfl⟩
   have hcast : ((k : Int) - 1 - r) = (b : Int) := by omega
   have hbk : (b : Int) < (k : Int) := by omega
   rw [hbb] at HST HDL
   obtain ⟨d0, d1⟩ := Kd.R_celln 0 hr (b : Int) (by omega) (by omega)
   rw [Int.toNat_natCast] at d0 d1
   rw [hcast]
   obtain ⟨V, hV⟩ : ∃ V, n / 256 ^ r = V := ⟨_, rfl⟩
   rw [hV] at HDL HSH ⊢
   have HC := Lib.hid hcast
   have HR := Lib.hid hr
   have HB := Lib.hid hb
   have HG0 := Lib.hid hg0
   have b0 : (0 : Int) ≤ (b : Int) := by omega
   clear hr hb HI hj hcast hbb hg0 hg1 hg2 hV HR4 HB4
   go_wp2_with (fail)
   go_roundg (k + 1 - (r + 1))
   case measure => have := HJ.out; omega
   case rel =>
    refine ⟨r + 1, by have := HJ.out; omega, by omega, by have := HC.out; rw [← this]; go_num, by rw [HSH.out], ?_, ?_⟩
    ·rw [← HST.out, HDL.out]
     have h := Kd.R_putn HR.out (b : Int) ((V : Int) % 256)
     rw [Int.toNat_natCast] at h
     exact h
    ·exact HB.out.setCell (p := ⟨g, b, none⟩) HG0.out _
  ·obtain rfl : r = k := by omega
   rw [fillL_all] at hr
   have hcv := own_string (P := Tryz.prog) Tryz.underlying49 Tryz.underlying5 Tryz.underlying9 (Kd.own_of_R hr)
   rw [bigI_str] at hcv
   have HB := Lib.hid hb
   have e : ((r : Int) - 1 - r) = -1 := by omega
   rw [e]
   clear hr hb HI e HR4 HB4
   go_wp2_with (fail)
   go_ret
   exact ⟨rfl, HB.out⟩
end Go.Proofs.YtfbbcfhdjhiejaaGreat.Fr
