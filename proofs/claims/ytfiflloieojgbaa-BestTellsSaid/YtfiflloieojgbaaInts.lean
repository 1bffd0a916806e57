/- Lists of whole numbers: the library's copy, the book's comparison. -/
import Derived.Test.YtfiflloieojgbaaProg
import Derived.Test.YtfiflloieojgbaaLib
import Derived.Deep.DeepFit
import Derived.Outline
import Derived.BigRegion
import Derived.Lib.SliceRun
import Derived.Deep.AppendLies
namespace Go.Proofs.Ytfiflloieojgbaa.Ints
set_option linter.unusedVariables false
set_option linter.unusedSimpArgs false
open Go.RowKit Go.Proofs.YtfiflloieojgbaaW.PrintWords Go.Proofs.YtfiflloieojgbaaW.PrintMore Go.Proofs.Ytfiflloieojgbaa.L

abbrev KI : Kd Int := Kd.int .i64
theorem infoInt : (Try.prog.info? 3).map (fun i => (i.zero, i.size, i.bytes)) = some (some (.int .i64 0), 1, 8) := by kernel_rfl
theorem ints_at {w : World} {A : Option Addr} {n : Nat} {xs : List Int} (h : KI.C w A n xs) (i : Nat) (hi : i < n) :
    ∃ ad, A = some ad ∧ w.cell? (ad.add i) = some (.int .i64 (xs.getD i 0)) := by
  obtain ⟨ad, e, hc⟩ := Kd.at_int h (i : Int) (by omega) (by omega)
  rw [Int.toNat_natCast] at hc
  exact ⟨ad, e, by simpa [rd] using hc⟩
theorem ki_len {w : World} {A : Option Addr} {n : Nat} {xs : List Int} (h : KI.C w A n xs) : n = xs.length := (Kd.C_len h).symm
theorem take_succ_getD (l : List Int) (k : Nat) (h : k < l.length) : l.take (k + 1) = l.take k ++ [l.getD k 0] := by
  rw [List.take_succ_eq_append_getElem h]
  simp [List.getD_eq_getElem?_getD, List.getElem?_eq_getElem h]
theorem ki_drewN {w : World} {A : Option Addr} {n : Nat} {xs : List Int} (h : KI.C w A n xs) (q : Nat) : KI.C (w.drewN q) A n xs := Kd.C_drewN h q

/-- A row that was just laid out. -/
theorem lit_ints (w : World) (e : Nat) (l : List Int) (hm : l.length ≤ 9223372036854775807) : KI.C (w.alloc (.cells (l.map (Value.int .i64)).toArray e (0, 0))) (some ⟨w.heap.size, 0, none⟩) l.length l := by
  refine Kd.C_of_reads (d := (0 : Int)) (h1 := fun _ => rfl) ⟨rfl, hm, fun _ => ⟨_, rfl, fun j hj => ?_⟩⟩
  refine World.news_of_block (heap_alloc_self w _) j _ ?_
  simp [List.getD_eq_getElem?_getD, List.getElem?_eq_getElem hj]
theorem bel_trans {B : Nat} {w w1 w2 : World} (h : Below B w w1) (hB : B ≤ w1.heap.size) (h2 : Below w1.heap.size w1 w2) : Below B w w2 :=
  h.trans ⟨h2.os, h2.tape, h2.output, h2.size, fun k hk => h2.block k (by omega)⟩

/-! ### slices.Clone -/

/-! ### SameInts -/
theorem same_ints (A B : Option Addr) (n m c c' : Nat) (xs ys : List Int) (w : World) (hx : KI.C w A n xs) (hy : KI.C w B m ys) :
    Calls Try.prog 15 #[.slice A n c, .slice B m c'] w fun e w' => e = .returned (.bool (decide (xs = ys))) ∧ ∃ q, w' = w.drewN q := by
  have HX := Lib.hid hx
  have HY := Lib.hid hy
  have hmx := Kd.C_max hx
  have HXL := Lib.hid (ki_len hx)
  have HYL := Lib.hid (ki_len hy)
  clear hx hy
  by_cases hnm : n = m
  · subst hnm
    have hnn : ((n : Int) != (n : Int)) = false := by simp
    go_enter Try.func15, Try.ntmps15
    go_wp2_with (fail)
    go_loopg [5] n (fun j i wr => ∃ k : Nat, k + j = n ∧ i = .int .i64 k ∧ Hid (xs.take k = ys.take k ∧ ∃ q, wr = w.drewN q))
    case atStart => exact ⟨0, by omega, rfl, rfl, 0, rfl⟩
    case round =>
      obtain ⟨k, hk, rfl, HI⟩ := hrel
      by_cases hlt : k < n
      · obtain ⟨ht, q, rfl⟩ := HI.out
        obtain ⟨ad, rfl, x0⟩ := ints_at HX.out k hlt
        obtain ⟨bd, rfl, y0⟩ := ints_at HY.out k hlt
        obtain ⟨x, hx⟩ : ∃ x, xs.getD k 0 = x := ⟨_, rfl⟩
        obtain ⟨y, hy⟩ : ∃ y, ys.getD k 0 = y := ⟨_, rfl⟩
        rw [hx] at x0
        rw [hy] at y0
        have i0 : (0 : Int) ≤ k := by omega
        have i1 : (k : Int) < (n : Int) := by omega
        have i2 : ((k : Int)).toNat = k := by omega
        have HT := Lib.hid ht
        have HX1 := Lib.hid hx
        have HY1 := Lib.hid hy
        clear ht HI hx hy
        by_cases he : x = y
        · subst he
          have hb : (x != x) = false := by simp
          go_wp2_with (fail)
          go_quiet (fail)
          go_wp2_with (fail)
          go_roundg (n - (k + 1))
          case measure => omega
          case rel => exact ⟨k + 1, by omega, by go_num, by rw [take_succ_getD xs k (by have := HXL.out; omega), take_succ_getD ys k (by have := HYL.out; omega), HT.out, HX1.out, HY1.out], _, rfl⟩
        · have hb : (x != y) = true := bne_iff_ne.2 he
          have HE := Lib.hid he
          clear he
          go_wp2_with (fail)
          go_quiet (fail)
          go_wp2_with (fail)
          go_ret
          have hne : xs ≠ ys := fun h => HE.out (by rw [← HX1.out, ← HY1.out, h])
          exact ⟨by rw [decide_eq_false hne]; rfl, _, World.drewN_drewN _ _ _⟩
      · obtain rfl : k = n := by omega
        obtain ⟨ht, q, rfl⟩ := HI.out
        have HT := Lib.hid ht
        clear ht HI
        go_wp2_with (fail)
        go_ret
        have h1 := HT.out
        rw [List.take_of_length_le (by have := HXL.out; omega), List.take_of_length_le (by have := HYL.out; omega)] at h1
        exact ⟨by rw [decide_eq_true h1]; rfl, _, rfl⟩
  · have hnn : ((n : Int) != (m : Int)) = true := bne_iff_ne.2 (by omega)
    go_enter Try.func15, Try.ntmps15
    go_wp2_with (fail)
    go_ret
    have hne : xs ≠ ys := fun h => hnm (by rw [HXL.out, HYL.out, h])
    exact ⟨by rw [decide_eq_false hne]; rfl, 0, rfl⟩
end Go.Proofs.Ytfiflloieojgbaa.Ints
