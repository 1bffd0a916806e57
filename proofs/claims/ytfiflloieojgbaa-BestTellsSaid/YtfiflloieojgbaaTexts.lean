/- Lists of strings: the library's copies and searches. -/
import Derived.Test.YtfiflloieojgbaaProg
import Derived.Test.YtfiflloieojgbaaLib
import Derived.Deep.DeepFit
import Derived.Outline
import Derived.BigRegion
import Derived.Lib.SliceRun
import Derived.Lib.Walk
import Derived.Lib.Strings
import Derived.Lib.BufferWrite
import Derived.Lib.UnsafeStr
import Derived.Lib.SlicesS
import Derived.Laws.MakeOwn
import Derived.Deep.AppendLies
namespace Go.Proofs.Ytfiflloieojgbaa.Texts
set_option linter.unusedVariables false
set_option linter.unusedSimpArgs false
open Go.RowKit Go.Proofs.YtfiflloieojgbaaW.PrintWords Go.Proofs.YtfiflloieojgbaaW.PrintMore Go.Proofs.Ytfiflloieojgbaa.L

abbrev KS : Kd ByteArray := Kd.string
theorem infoStr : (Try.prog.info? 9).map (fun i => (i.zero, i.size, i.bytes)) = some (some (.string ⟨#[]⟩), 1, 16) := by kernel_rfl
theorem infoU8 : (Try.prog.info? 5).map (fun i => (i.zero, i.size, i.bytes)) = some (some (.int .u8 0), 1, 1) := by kernel_rfl
def no : ByteArray := ⟨#[]⟩
theorem strs_at {w : World} {A : Option Addr} {n : Nat} {xs : List ByteArray} (h : KS.C w A n xs) (i : Nat) (hi : i < n) :
    ∃ ad, A = some ad ∧ w.cell? (ad.add i) = some (.string (xs.getD i no)) := by
  obtain ⟨ad, e, hc⟩ := Kd.at_string h (i : Int) (by omega) (by omega)
  rw [Int.toNat_natCast] at hc
  exact ⟨ad, e, hc⟩
theorem ks_len {w : World} {A : Option Addr} {n : Nat} {xs : List ByteArray} (h : KS.C w A n xs) : n = xs.length := (Kd.C_len h).symm
theorem empty_of {s : ByteArray} (h : s.size = 0) : s = ⟨#[]⟩ := by
  apply ByteArray.ext
  exact Array.eq_empty_of_size_eq_zero h
theorem bytesOf_append (a b : ByteArray) : bytesOf (a ++ b) = bytesOf a ++ bytesOf b := by
  unfold bytesOf
  rw [ByteArray.data_append, Array.toList_append, List.map_append]
theorem str_bytesOf (s : ByteArray) : strOfNums (bytesOf s) = s := by
  unfold strOfNums bytesOf
  rw [List.map_map]
  have : ((fun n : Int => UInt8.ofNat n.toNat) ∘ fun b : UInt8 => (b.toNat : Int)) = id := by
    funext b
    simp
  rw [this, List.map_id]
theorem isEmpty_no {s : ByteArray} (h : s.size ≠ 0) : s.toList.isEmpty = false := by
  rw [List.isEmpty_eq_false_iff, ByteArray.toList_eq]
  intro e
  apply h
  show s.data.size = 0
  rw [← Array.length_toList, e]
  rfl
theorem bel_trans {B : Nat} {w w1 w2 : World} (h : Below B w w1) (hB : B ≤ w1.heap.size) (h2 : Below w1.heap.size w1 w2) : Below B w w2 :=
  h.trans ⟨h2.os, h2.tape, h2.output, h2.size, fun k hk => h2.block k (by omega)⟩

/-- A row that was just laid out. -/
theorem lit_texts (w : World) (e : Nat) (l : List ByteArray) (hm : l.length ≤ 9223372036854775807) : KS.C (w.alloc (.cells (l.map Value.string).toArray e (0, 0))) (some ⟨w.heap.size, 0, none⟩) l.length l := by
  refine Kd.C_of_reads (d := no) (h1 := fun _ => rfl) ⟨rfl, hm, fun _ => ⟨_, rfl, fun j hj => ?_⟩⟩
  refine World.news_of_block (L.heap_alloc_self w _) j _ ?_
  simp [List.getD_eq_getElem?_getD, List.getElem?_eq_getElem hj]

/-! ### slices.Clone -/
theorem clone_texts (A : Option Addr) (n c : Nat) (xs : List ByteArray) (w : World) (h : KS.C w A n xs) (hl : n * 16 ≤ 140737488351232) :
    Calls Try.prog 85 #[.slice A n c] w fun e w' => ∃ v, e = .returned v ∧ KS.R 9 w' w.heap.size (fun _ => True) v xs ∧ Below w.heap.size w w' := by
  have H := Lib.hid h
  have hxl := ks_len h
  clear h
  have q22 : ∀ (w : World) (a : Option Addr) (n c n' c' : Nat), (binOp .eql 22 (.slice a n c) (.slice none n' c')).run Try.prog w = .ok (.bool a.isNone) w := fun w a n c n' c' => Lib.run_eql_slice_nil w _ _ a n c n' c' Try.underlying22
  rcases A with _ | ad
  · obtain rfl : xs = [] := by
      by_cases hn : 0 < n
      · obtain ⟨ad, e, _⟩ := strs_at H.out 0 hn
        cases e
      · exact List.eq_nil_of_length_eq_zero (by omega)
    go_enter Try.func85, Try.ntmps85
    go_wp2_with (fail)
    go_ret
    exact ⟨_, rfl, Kd.R_nil _ _ _ _ _, Below.refl _ _⟩
  · go_enter Try.func85, Try.ntmps85
    go_wp2_with (((with_reducible refine gate_builtin (b := .append) (xs := #[.tmp 5, .tmp 6]) rfl ?_); at_builtin; apply stopper))
    unfold Stopper
    refine Kd.R_append_row Value.string no (h1 := fun _ => rfl) (w0 := w) w.heap.size rfl (.tmp 5) (.tmp 6) 22 9 (.string ⟨#[]⟩) 16 rfl Try.underlying22 infoStr rfl (by decide) _ [] xs (some ad) n c (fun _ => True) rfl rfl (fun _ _ => trivial) ?aO ?aR ?aB ?aS ?aL ?_
    case aO => exact Kd.R_of_own (World.ownsRow_made w #[] 0 (Nat.le_refl _) (Nat.zero_le _) rfl) (fun _ _ => trivial)
    case aR => exact Kd.C_alloc H.out _
    case aB => exact (Below.refl _ w).alloc (Nat.le_refl _) _
    case aS => simp
    case aL => simp; omega
    intro v1 w1 ho hb hg hat
    have HO := Lib.hid ho
    have HB := Lib.hid hb
    clear ho hb hg hat
    go_wp2
    go_ret
    exact ⟨_, rfl, HO.out, HB.out⟩

/-! ### slices.Index, slices.Contains -/
def idx (s : ByteArray) : List ByteArray → Nat
  | [] => 0
  | x :: xs => if s = x then 0 else idx s xs + 1
theorem idx_le (s : ByteArray) : ∀ xs : List ByteArray, idx s xs ≤ xs.length
  | [] => Nat.le_refl _
  | x :: xs => by
    have := idx_le s xs
    unfold idx
    rw [List.length_cons]
    split <;> omega
theorem idx_at (s : ByteArray) : ∀ (xs : List ByteArray) (k : Nat), k < xs.length → k ≤ idx s xs → (s = xs.getD k no → idx s xs = k) ∧ (s ≠ xs.getD k no → k + 1 ≤ idx s xs)
  | [], k, h, _ => by simp at h
  | x :: xs, 0, _, _ => by
    simp only [idx, List.getD_cons_zero]
    exact ⟨fun h => by rw [if_pos h], fun h => by rw [if_neg h]; omega⟩
  | x :: xs, k + 1, h, h2 => by
    rw [List.getD_cons_succ]
    unfold idx at h2 ⊢
    by_cases he : s = x
    · rw [if_pos he] at h2
      omega
    · rw [if_neg he] at h2 ⊢
      have := idx_at s xs k (by simpa using h) (by omega)
      exact ⟨fun h => by rw [this.1 h], fun h => by have := this.2 h; omega⟩
theorem idx_mem (s : ByteArray) : ∀ xs : List ByteArray, idx s xs < xs.length ↔ s ∈ xs
  | [] => by simp [idx]
  | x :: xs => by
    have := idx_mem s xs
    rw [List.mem_cons, List.length_cons]
    unfold idx
    by_cases he : s = x
    · rw [if_pos he]
      exact ⟨fun _ => .inl he, fun _ => by omega⟩
    · rw [if_neg he]
      exact ⟨fun h => .inr (this.1 (by omega)), fun h => by rcases h with h | h; exact absurd h he; have := this.2 h; omega⟩
def has (s : ByteArray) (xs : List ByteArray) : Bool := decide (idx s xs < xs.length)
theorem has_iff (s : ByteArray) (xs : List ByteArray) : has s xs = true ↔ s ∈ xs := by unfold has; rw [decide_eq_true_eq]; exact idx_mem s xs
theorem idx_get (s : ByteArray) : ∀ xs : List ByteArray, idx s xs < xs.length → xs.getD (idx s xs) no = s
  | [], h => by simp at h
  | x :: xs, h => by
    unfold idx at h ⊢
    by_cases he : s = x
    · rw [if_pos he, List.getD_cons_zero, he]
    · rw [if_neg he, List.length_cons] at h
      rw [if_neg he, List.getD_cons_succ]
      exact idx_get s xs (by omega)
def find (s : ByteArray) (xs : List ByteArray) : Int := if idx s xs < xs.length then (idx s xs : Nat) else -1
theorem index_texts (A : Option Addr) (n c : Nat) (xs : List ByteArray) (s : ByteArray) (w : World) (h : KS.C w A n xs) :
    Calls Try.prog 86 #[.slice A n c, .string s] w fun e w' => e = .returned (.int .i64 (find s xs)) ∧ ∃ q, w' = w.drewN q := by
  have H := Lib.hid h
  have hmx := Kd.C_max h
  have hnl := ks_len h
  clear h
  subst hnl
  go_enter Try.func86, Try.ntmps86
  go_wp2_with (fail)
  go_loopg [8] xs.length (fun j i wr => ∃ k : Nat, k + j = xs.length ∧ i = .int .i64 k ∧ Hid (k ≤ idx s xs ∧ ∃ q, wr = w.drewN q))
  case atStart => exact ⟨0, by omega, rfl, Nat.zero_le _, 0, rfl⟩
  case round =>
    obtain ⟨k, hk, rfl, HI⟩ := hrel
    obtain ⟨hki, q, rfl⟩ := HI.out
    by_cases hlt : k < xs.length
    · obtain ⟨ad, rfl, x0⟩ := strs_at H.out k hlt
      have hst := idx_at s xs k hlt hki
      obtain ⟨x, hx⟩ : ∃ x, xs.getD k no = x := ⟨_, rfl⟩
      rw [hx] at x0 hst
      have i0 : (0 : Int) ≤ k := by omega
      have i1 : (k : Int) < (xs.length : Int) := by omega
      have i2 : ((k : Int)).toNat = k := by omega
      have HX := Lib.hid hx
      have HS := Lib.hid hst
      clear hx hst hki HI
      by_cases he : s = x
      · subst he
        have hb : (s.toList == s.toList) = true := (Lib.bytes_beq_iff s s).2 rfl
        have hf := Lib.hid (show find s xs = (k : Int) by unfold find; rw [(HS.out).1 rfl, if_pos hlt])
        go_wp2_with (fail)
        go_ret
        rw [hf.out]
        exact ⟨rfl, _, rfl⟩
      · have hb : (s.toList == x.toList) = false := (Lib.bytes_beq_false_iff s x).2 he
        have HE := Lib.hid he
        clear he
        go_wp2_with (fail)
        go_roundg (xs.length - (k + 1))
        case measure => omega
        case rel => exact ⟨k + 1, by omega, by go_num, HS.out.2 HE.out, _, rfl⟩
    · have hf := Lib.hid (show find s xs = -1 by unfold find; rw [if_neg (by have := idx_le s xs; omega)])
      clear hki HI
      go_wp2_with (fail)
      go_ret
      rw [hf.out]
      exact ⟨rfl, _, rfl⟩
theorem contains_texts (A : Option Addr) (n c : Nat) (xs : List ByteArray) (s : ByteArray) (w : World) (h : KS.C w A n xs) :
    Calls Try.prog 69 #[.slice A n c, .string s] w fun e w' => e = .returned (.bool (has s xs)) ∧ ∃ q, w' = w.drewN q := by
  have H := Lib.hid h
  clear h
  have hd : decide (0 ≤ find s xs) = has s xs := by
    unfold find has
    by_cases h1 : idx s xs < xs.length
    · rw [if_pos h1, decide_eq_true h1, decide_eq_true (by omega)]
    · rw [if_neg h1, decide_eq_false h1]; decide
  have HD := Lib.hid hd
  clear hd
  go_enter Try.func69, Try.ntmps69
  go_wp2_with (fail)
  refine (index_texts _ _ _ _ _ _ H.out).mono ?_
  rintro e w1 ⟨rfl, q, rfl⟩
  go_wp2_with (fail)
  go_ret
  exact ⟨by rw [← HD.out]; rfl, _, rfl⟩

/-! ### strings.Clone -/
set_option maxHeartbeats 4000000 in
set_option maxRecDepth 100000 in
theorem clone_lite (s : ByteArray) (w : World) (hlim : s.size ≤ 281474976710656) :
    Calls Try.prog 87 #[.string s] w fun e w' => e = .returned (.string s) ∧ Below w.heap.size w w' := by
  by_cases h0 : s.size = 0
  · obtain rfl := empty_of h0
    go_enter Try.func87, Try.ntmps87
    go_wp2
    go_ret
    exact ⟨rfl, Below.refl _ _⟩
  · obtain ⟨i0, hi, hz⟩ := Option.map_eq_some_iff.1 infoU8
    simp only [Prod.mk.injEq] at hz
    obtain ⟨hz0, hz1, hz2⟩ := hz
    have hinfo : (Try.prog.info? 5).map (·.size) = some 1 := by rw [hi]; simp [hz1]
    have hco : Try.prog.cellsOf 5 = 1 := by simp [Program.cellsOf, hi, hz1]
    obtain ⟨M, hM⟩ : ∃ M, M = madeCells (Value.int .u8 0).cells (((s.size : Nat) : Int).toNat * i0.size) := ⟨_, rfl⟩
    have hMs : M.size = s.size := by rw [hM, size_madeCells, hz1]; simp
    have hmk : ∀ W : World, (Instr.makeSlice 111 (.int .i64 (s.size : Int)) (.int .i64 (s.size : Int))).run Try.prog W = .ok (.slice (some ⟨W.heap.size, 0, none⟩) s.size s.size) (W.alloc (.cells M 5)) := fun W => by
      have h := run_make (P := Try.prog) W 111 5 i0 (.int .u8 0) Try.underlying111 hi hz0 .i64 .i64 (s.size : Int) (s.size : Int) (by omega) (by omega) (by rw [hz2]; omega) (by omega)
      rw [← hM] at h
      simpa using h
    clear hM
    have hcp := Lib.run_copy_row_string (P := Try.prog) (w.alloc (.cells M 5)) 111 9 3 5 w.heap.size 0 s.size s.size s M 5 Try.underlying111 hinfo (heap_alloc_new w _) (Nat.le_refl _) (by omega)
    obtain ⟨Y, hY⟩ : ∃ Y, Y = (M.toList.take 0 ++ Lib.byteCells s.data.toList ++ M.toList.drop (0 + s.size)).toArray := ⟨_, rfl⟩
    rw [← hY] at hcp
    have hYl : Y.toList = Lib.byteCells s.data.toList := by
      rw [hY, List.toList_toArray, List.take_zero, List.nil_append, List.drop_of_length_le (by rw [Array.length_toList]; omega), List.append_nil]
    have hYs : Y.size = s.size := by rw [← Array.length_toList, hYl, Lib.byteCells_length, ← Lib.size_eq]
    have hgY : ((w.alloc (.cells M 5)).setRow w.heap.size Y).heap[w.heap.size]? = some (.cells Y 5 (0, 0)) := setRow_heap _ _ M _ 5 (0, 0) (heap_alloc_new w _)
    have hne : s.data.toList ≠ [] := fun e => h0 (by rw [Lib.size_eq, e]; rfl)
    have hUS := Lib.run_unsafeString_row (P := Try.prog) ((w.alloc (.cells M 5)).setRow w.heap.size Y) 129 3 9 5 Try.underlying129 hco w.heap.size Y.size (by unfold World.shape?; rw [hgY]) s.data.toList hne (by rw [← Lib.size_eq]; omega) (by rw [← Lib.size_eq]; omega)
      (fun j x hx => Lib.cells_of_row hgY Y.size j _ (by rw [List.take_of_length_le (by rw [Array.length_toList]; exact Nat.le_refl _), hYl]; simp [Lib.byteCells, hx]))
    rw [← Lib.size_eq] at hUS
    clear hY
    go_enter Try.func87, Try.ntmps87
    go_wp2
    go_ret
    have hb1 : Below w.heap.size w (w.alloc (.cells M 5)) := (Below.refl _ w).alloc (Nat.le_refl _) _
    have hb2 : Below w.heap.size (w.alloc (.cells M 5)) ((w.alloc (.cells M 5)).setRow w.heap.size Y) := ⟨rfl, rfl, rfl, by simp, fun k hk => setRow_other _ _ _ _ (by omega)⟩
    exact ⟨rfl, Lib.below_freeze (hb1.trans hb2) (p := ⟨w.heap.size, 0, none⟩) (Nat.le_refl _) _⟩
theorem clone_str (s : ByteArray) (w : World) (hlim : s.size ≤ 281474976710656) :
    Calls Try.prog 70 #[.string s] w fun e w' => e = .returned (.string s) ∧ Below w.heap.size w w' := by
  go_enter Try.func70, Try.ntmps70
  go_wp2_with (fail)
  refine (clone_lite s w hlim).mono ?_
  rintro e w1 ⟨rfl, hb⟩
  have HB := Lib.hid hb
  clear hb
  go_wp2_with (fail)
  go_ret
  exact ⟨rfl, HB.out⟩
end Go.Proofs.Ytfiflloieojgbaa.Texts
