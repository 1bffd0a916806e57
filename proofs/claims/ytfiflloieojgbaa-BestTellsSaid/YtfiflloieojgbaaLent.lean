/- Lists with room behind them, in which a mark stands. -/
import Derived.Test.YtfiflloieojgbaaInts
namespace Go.Proofs.Ytfiflloieojgbaa.Ints
set_option linter.unusedVariables false
set_option linter.unusedSimpArgs false
open Go.RowKit Go.Proofs.YtfiflloieojgbaaW.PrintWords Go.Proofs.YtfiflloieojgbaaW.PrintMore Go.Proofs.Ytfiflloieojgbaa.L

theorem copy_ints (A : Option Addr) (n c : Nat) (xs : List Int) (w : World) (h : KI.C w A n xs) (hl : n * 8 ≤ 140737488351232) :
    Calls Try.prog 36 #[.slice A n c] w fun e w' => ∃ v, e = .returned v ∧ KI.R 3 w' w.heap.size (fun _ => True) v xs ∧ Below w.heap.size w w' := by
  have H := Lib.hid h
  clear h
  go_enter Try.func36, Try.ntmps36
  go_wp2_with (((with_reducible refine gate_builtin (b := .append) (xs := #[.const (.slice none 0 0), .tmp 3]) rfl ?_); at_builtin; apply stopper))
  unfold Stopper
  refine Kd.R_append_row (Value.int .i64) 0 (h1 := fun _ => rfl) (w0 := w) w.heap.size rfl (.const (.slice none 0 0)) (.tmp 3) 27 3 (.int .i64 0) 8 rfl Try.underlying27 infoInt rfl (by decide) (.slice none 0 0) [] xs A n c (fun _ => True) rfl rfl (fun _ _ => trivial) (Kd.R_nil _ _ _ _ _) H.out (Below.refl _ _) (Nat.le_refl _) (by simp; omega) ?_
  intro v1 w1 ho hb hg hat
  have HO := Lib.hid ho
  have HB := Lib.hid hb
  clear ho hb hg hat
  go_wp2
  go_ret
  exact ⟨_, rfl, HO.out, HB.out⟩
/-- A list as LentInts gives it. -/
def Lent (w : World) (base : Nat) (v : Value) (xs : List Int) : Prop := ∃ A c, v = .slice A xs.length c ∧ xs.length + 1 ≤ c ∧ KI.R 3 w base (fun _ => True) (.slice A (xs.length + 1) c) (xs ++ [-77])
theorem Lent.below {w w1 : World} {base : Nat} {v : Value} {xs : List Int} (h : Lent w base v xs) (hb : Below w.heap.size w w1) : Lent w1 base v xs := by
  obtain ⟨A, c, h1, h2, h3⟩ := h
  exact ⟨A, c, h1, h2, Kd.R_below h3 hb⟩
theorem Lent.reads {w : World} {base : Nat} {A : Option Addr} {n c : Nat} {xs : List Int} (h : Lent w base (.slice A n c) xs) : n = xs.length ∧ n ≤ c ∧ KI.C w A n xs := by
  obtain ⟨A', c', h1, h2, h3⟩ := h
  injection h1 with a1 a2 a3
  subst a1 a2 a3
  have hc := (Kd.R_reads' h3).2.2
  have := Kd.C_take hc (m := xs.length) (by simp)
  rw [List.take_left] at this
  exact ⟨rfl, by omega, this⟩
theorem Lent.form {w : World} {base : Nat} {v : Value} {xs : List Int} (h : Lent w base v xs) : ∃ A c, v = .slice A xs.length c := by
  obtain ⟨A, c, h1, _⟩ := h
  exact ⟨A, c, h1⟩
theorem cut_cap (t e : TypeId) (kh : IntKind) {i : TypeInfo} (ht : Try.prog.underlying t = some (.slice e)) (hi : Try.prog.info? e = some i) (A : Option Addr) (n c : Nat) (j : Int) (h0 : 0 ≤ j) (hm : j ≤ c) :
    ∀ W : World, (Instr.slice t (.slice A n c) none (some (.int kh j)) none).run Try.prog W = .ok (.slice A j.toNat c) W := by
  intro W
  have hel : Try.prog.elem t = e := by simp [Program.elem, ht]
  have hu : Try.prog.underlying t = some (.slice (Try.prog.elem t)) := by rw [hel]; exact ht
  have ha : (A.map fun x => x.add 0) = A := by cases A <;> simp [Addr.add]
  rw [run_slice_h W t A n c hu kh j h0 hm, hel]
  simp [sizeOf, typeInfo, hi, sliced, Result.andThen, ha]
end Go.Proofs.Ytfiflloieojgbaa.Ints
