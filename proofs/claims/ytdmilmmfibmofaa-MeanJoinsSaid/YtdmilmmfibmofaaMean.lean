/- Chapter 16: what tokens mean. -/
import Derived.Test.YtdmilmmfibmofaaDictUse
import Derived.Test.YtdmilmmfibmofaaInts
namespace Go.Proofs.Ytdmilmmfibmofaa.Mean
set_option linter.unusedVariables false
set_option linter.unusedSimpArgs false
open Go.RowKit Go.Proofs.YtdmilmmfibmofaaW.PrintWords Go.Proofs.YtdmilmmfibmofaaW.PrintMore Go.Proofs.Ytdmilmmfibmofaa.L Go.Proofs.Ytdmilmmfibmofaa.Texts Go.Proofs.Ytdmilmmfibmofaa.Dict Go.Proofs.Ytdmilmmfibmofaa.Ints

/-! ### what is computed -/
def means (l : List ByteArray) (t : Int) : ByteArray := if t < 0 then no else if t < 256 then ⟨#[UInt8.ofNat t.toNat]⟩ else atL l (t - 256)
def isTok (l : List ByteArray) (t : Int) : Bool := decide (0 ≤ t ∧ t < 256 + (l.length : Int))

set_option maxRecDepth 100000 in
theorem text_any (p : Option Addr) (l : List ByteArray) (t : Int) (w : World) (h : DP w p l) (ht : -(2 ^ 63) ≤ t ∧ t < 2 ^ 63) :
    Calls Try.prog 35 #[.pointer p, .int .i64 t] w fun e w' => e = .returned (.string (means l t)) ∧ Below w.heap.size w w' := by
  have H := Lib.hid h
  clear h
  by_cases h0 : t < 0
  · have hm := Lib.hid (show means l t = no by unfold means; rw [if_pos h0])
    go_enter Try.func35, Try.ntmps35
    go_wp2_with (fail)
    go_ret
    rw [hm.out]
    exact ⟨rfl, Below.refl _ _⟩
  · by_cases h1 : t < 256
    · have hm := Lib.hid (show means l t = ⟨#[UInt8.ofNat t.toNat]⟩ by unfold means; rw [if_neg h0, if_pos h1])
      obtain ⟨k, rfl⟩ := Int.eq_ofNat_of_zero_le (by omega : 0 ≤ t)
      have hw : IntKind.u8.wrap (k : Int) = k := by simp [IntKind.wrap, IntKind.bits, IntKind.signed]; omega
      have hcv : (convert 40 9 (.slice (some ⟨w.heap.size, 0, none⟩) 1 1)).run Try.prog (w.alloc (.cells #[.int .u8 k] 5)) = .ok (.string ⟨#[UInt8.ofNat k]⟩) (w.alloc (.cells #[.int .u8 k] 5)) :=
        own_string (P := Try.prog) (base := w.heap.size) (n := 1) (e' := 5) (xs := [(k : Int)]) Try.underlying40 Try.underlying5 Try.underlying9 ⟨rfl, .inr ⟨w.heap.size, 1, #[.int .u8 k], rfl, Nat.le_refl _, heap_alloc_new w _, Nat.le_refl _, by decide, rfl, rfl⟩⟩
      go_enter Try.func35, Try.ntmps35
      go_wp2_with (fail)
      go_ret
      rw [hm.out]
      exact ⟨rfl, (Below.refl _ w).alloc (Nat.le_refl _) _⟩
    · have h00 : 256 ≤ t := by omega
      have hm := Lib.hid (show means l t = atL l (t - 256) by unfold means; rw [if_neg h0, if_neg h1])
      have hs : wrap64 (t - 256) = t - 256 := by unfold wrap64; omega
      clear h0 h1
      go_enter Try.func35, Try.ntmps35
      go_wp2_with (go_at_call 60; refine (at_any _ _ _ _ H.out).mono ?_; rintro e w1 ⟨rfl, rfl⟩)
      go_ret
      rw [hm.out]
      exact ⟨rfl, Below.refl _ _⟩
theorem len_any (p : Option Addr) (l : List ByteArray) (t : Int) (w : World) (h : DP w p l) (ht : -(2 ^ 63) ≤ t ∧ t < 2 ^ 63) :
    Calls Try.prog 18 #[.pointer p, .int .i64 t] w fun e w' => e = .returned (.int .i64 ((means l t).size : Nat)) ∧ Below w.heap.size w w' := by
  have H := Lib.hid h
  clear h
  go_enter Try.func18, Try.ntmps18
  go_wp2_with (fail)
  refine (text_any _ _ _ _ H.out ht).mono ?_
  rintro e w1 ⟨rfl, hb⟩
  have HB := Lib.hid hb
  clear hb
  go_wp2_with (fail)
  go_ret
  exact ⟨rfl, HB.out⟩
theorem right_any (p : Option Addr) (l : List ByteArray) (t : Int) (w : World) (h : DP w p l) (ht : -(2 ^ 63) ≤ t ∧ t < 2 ^ 63) :
    Calls Try.prog 19 #[.pointer p, .int .i64 t] w fun e w' => e = .returned (.bool (decide (0 < (means l t).size))) ∧ Below w.heap.size w w' := by
  have H := Lib.hid h
  clear h
  go_enter Try.func19, Try.ntmps19
  go_wp2_with (fail)
  refine (len_any _ _ _ _ H.out ht).mono ?_
  rintro e w1 ⟨rfl, hb⟩
  have HB := Lib.hid hb
  clear hb
  go_wp2_with (fail)
  go_ret
  exact ⟨rfl, HB.out⟩

/-! ### Of -/
/-- What tokens mean, behind bytes that are there: the code beside. -/
def meanGo (l : List ByteArray) (most : Int) : ByteArray → List Int → ByteArray × Int
  | acc, [] => (acc, 0)
  | acc, t :: ts => if (means l t).size = 0 then (no, 9) else if max most 0 - (acc.size : Int) < ((means l t).size : Int) then (no, 10) else meanGo l most (acc ++ means l t) ts
theorem meanGo_cons (l : List ByteArray) (most : Int) (acc : ByteArray) (t : Int) (ts : List Int) : meanGo l most acc (t :: ts) = if (means l t).size = 0 then (no, 9) else if max most 0 - (acc.size : Int) < ((means l t).size : Int) then (no, 10) else meanGo l most (acc ++ means l t) ts := rfl
theorem max_pos (most : Int) : (if most < 0 then (0 : Int) else most) = max most 0 := by omega
theorem mean_le (l : List ByteArray) (h : ∀ s ∈ l, s.size ≤ 40) (t : Int) : (means l t).size ≤ 40 := by
  unfold means
  split
  · decide
  · split
    · show 1 ≤ 40
      decide
    · unfold atL
      split
      · rename_i h2
        unfold inL at h2
        rw [decide_eq_true_eq] at h2
        exact h _ (getD_mem _ _ (by omega))
      · decide
set_option maxRecDepth 100000 in
set_option maxHeartbeats 1000000 in
theorem of_any (p B : Option Addr) (m c : Nat) (l : List ByteArray) (most : Int) (ts : List Int) (w : World) (h : DP w p l) (hl : KI.C w B m ts) (h40 : ∀ s ∈ l, s.size ≤ 40) (hwf : ∀ t ∈ ts, -(2 ^ 63) ≤ t ∧ t < 2 ^ 63) (hm : ts.length ≤ 1000000) (hmost : -(2 ^ 63) ≤ most ∧ most < 2 ^ 63) :
    Calls Try.prog 15 #[.pointer p, .int .i64 most, .slice B m c] w fun e w' => e = .returned (.tuple #[.string (meanGo l most no ts).1, .int .i64 (meanGo l most no ts).2]) ∧ Below w.heap.size w w' := by
  have H := Lib.hid h
  have HL := Lib.hid hl
  have H40 := Lib.hid h40
  have HWF := Lib.hid hwf
  have HMM := Lib.hid hmost
  have hml := ki_len hl
  clear h hl h40 hwf hmost
  subst hml
  go_enter Try.func15, Try.ntmps15
  go_wp2_with (fail)
  go_loopg [8, 14] ts.length (fun j v i wr => ∃ k : Nat, k + j = ts.length ∧ i = .int .i64 k ∧ ∃ acc : ByteArray, Hid (acc.size ≤ 40 * k ∧ meanGo l most no ts = meanGo l most acc (ts.drop k) ∧ wr.ownsRow w.heap.size 5 1 v acc.size (nums .u8 (bytesOf acc)) ∧ Below w.heap.size w wr))
  case atStart => exact ⟨0, by omega, rfl, no, Nat.le_refl _, rfl, ⟨rfl, .inl ⟨rfl, rfl⟩⟩, Below.refl _ _⟩
  case round =>
    obtain ⟨k, hk, rfl, acc, HI⟩ := hrel
    obtain ⟨hacc, hgo, hown, hb⟩ := HI.out
    by_cases hlt : k < ts.length
    · obtain ⟨ad, rfl, x0⟩ := ints_at (Kd.C_below HL.out hb) k hlt
      have hdr : ts.drop k = ts.getD k 0 :: ts.drop (k + 1) := by
        rw [List.drop_eq_getElem_cons hlt, List.getD_eq_getElem?_getD, List.getElem?_eq_getElem hlt]
        rfl
      have htm : ts.getD k 0 ∈ ts := by
        rw [List.getD_eq_getElem?_getD, List.getElem?_eq_getElem hlt]
        exact List.getElem_mem hlt
      obtain ⟨t, ht⟩ : ∃ t, ts.getD k 0 = t := ⟨_, rfl⟩
      rw [ht] at x0 hdr htm
      have htw := HWF.out t htm
      have hs40 := mean_le l H40.out t
      rw [hdr] at hgo
      rw [meanGo_cons] at hgo
      have i0 : (0 : Int) ≤ k := by omega
      have i1 : (k : Int) < (ts.length : Int) := by omega
      have i2 : ((k : Int)).toNat = k := by omega
      have HGO := Lib.hid hgo
      have HO := Lib.hid hown
      have HB := Lib.hid hb
      have HACC := Lib.hid hacc
      have HTW := Lib.hid htw
      clear hgo hown hb hacc HI hdr ht htm htw
      go_wp2_with (fail)
      refine (text_any _ _ _ _ (H.out.below HB.out) HTW.out).mono ?_
      rintro e w1 ⟨rfl, hb1⟩
      obtain ⟨s, hs⟩ : ∃ s, means l t = s := ⟨_, rfl⟩
      have hgo := HGO.out
      rw [hs] at hgo hs40 ⊢
      by_cases h0 : s.size = 0
      · obtain rfl := empty_of h0
        rw [if_pos h0] at hgo
        have HG := Lib.hid hgo
        have HB1 := Lib.hid (Ints.bel_trans HB.out HB.out.size hb1)
        clear hgo hb1 hs h0 hs40
        go_wp2_with (fail)
        go_ret2
        rw [HG.out]
        exact ⟨rfl, HB1.out⟩
      · rw [if_neg h0] at hgo
        have hemp : s.toList.isEmpty = false := isEmpty_no h0
        obtain ⟨A8, c8, rfl⟩ : ∃ A c, u8 = .slice A acc.size c := by
          rcases HO.out.2 with ⟨h1, h2⟩ | ⟨g, cap, cur, h2, _⟩
          · exact ⟨none, 0, by rw [h2]; exact h1⟩
          · exact ⟨_, _, h2⟩
        have HB1 := Lib.hid (Ints.bel_trans HB.out HB.out.size hb1)
        have hacc := HACC.out
        have hown1 : w1.ownsRow w.heap.size 5 1 (.slice A8 acc.size c8) acc.size (nums .u8 (bytesOf acc)) := own_move HO.out (fun k hk => hb1.block k (HO.out.lt k hk).2)
        have HO1 := Lib.hid hown1
        obtain ⟨M, hM⟩ : ∃ M, max most 0 = M := ⟨_, rfl⟩
        have hM0 : 0 ≤ M := by omega
        have hMm := HMM.out
        rw [hM] at hgo
        have hmx : (if most < 0 then (0 : Int) else most) = M := by rw [max_pos, hM]
        have hMM : M < 2 ^ 63 := by omega
        have hacc2 : acc.size ≤ 40000000 := by omega
        clear hown1 hb1 hacc hs
        by_cases h1 : M - (acc.size : Int) < (s.size : Int)
        · rw [if_pos h1] at hgo
          have HG := Lib.hid hgo
          clear hgo hM hMm
          go_wp2_with (fail)
          go_ret2
          rw [HG.out]
          exact ⟨rfl, HB1.out⟩
        · rw [if_neg h1] at hgo
          have HG := Lib.hid hgo
          have HACC2 := Lib.hid (show (acc ++ s).size ≤ 40 * (k + 1) by rw [ByteArray.size_append]; have := HACC.out; omega)
          have HAL := Lib.hid (show (bytesOf acc).length + s.size ≤ 140737488355328 by rw [bytesOf_length]; omega)
          clear hgo hM hMm
          go_wp2_with (((with_reducible refine gate_builtin (b := .append) (xs := #[.tmp 33, .tmp 34]) rfl ?_); at_builtin; apply stopper))
          unfold Stopper
          refine print_append_str (w0 := w) w.heap.size rfl (.tmp 33) (.tmp 34) 40 9 5 rfl Try.underlying40 Try.underlying9 infoU8 (.slice A8 acc.size c8) (bytesOf acc) s rfl rfl (by rw [bytesOf_length]; exact HO1.out) HB1.out HB1.out.size HAL.out ?_
          intro v3 w3 hown3 hb3 hg3
          rw [← bytesOf_append, bytesOf_length] at hown3
          have HO3 := Lib.hid hown3
          have HB3 := Lib.hid hb3
          clear hown3 hb3 hg3
          go_wp2
          go_roundg (ts.length - (k + 1))
          case measure => omega
          case rel => exact ⟨k + 1, by omega, by go_num, acc ++ s, HACC2.out, HG.out, HO3.out, HB3.out⟩
    · obtain rfl : k = ts.length := by omega
      rw [List.drop_length] at hgo
      have hcv := own_string (P := Try.prog) Try.underlying40 Try.underlying5 Try.underlying9 hown
      rw [str_bytesOf] at hcv
      have HG := Lib.hid hgo
      have HB1 := Lib.hid hb
      obtain ⟨A8, c8, rfl⟩ : ∃ A c, u8 = .slice A acc.size c := by
        rcases hown.2 with ⟨h1, h2⟩ | ⟨g, cap, cur, h2, _⟩
        · exact ⟨none, 0, by rw [h2]; exact h1⟩
        · exact ⟨_, _, h2⟩
      clear hgo hb hown hacc HI
      go_wp2_with (fail)
      go_ret2
      rw [HG.out]
      exact ⟨rfl, HB1.out⟩
end Go.Proofs.Ytdmilmmfibmofaa.Mean
