/- Lists with room behind them, in which a mark stands. -/
import Derived.Test.YtfdpgngdccdmpaaInts
namespace Go.Proofs.Ytfdpgngdccdmpaa.Ints
set_option linter.unusedVariables false
set_option linter.unusedSimpArgs false
open Go.RowKit Go.Proofs.YtfdpgngdccdmpaaW.PrintWords Go.Proofs.YtfdpgngdccdmpaaW.PrintMore Go.Proofs.Ytfdpgngdccdmpaa.L

theorem copy_ints (A : Option Addr) (n c : Nat) (xs : List Int) (w : World) (h : KI.C w A n xs) (hl : n * 8 ≤ 140737488351232) :
    Calls Try.prog 26 #[.slice A n c] w fun e w' => ∃ v, e = .returned v ∧ KI.R 3 w' w.heap.size (fun _ => True) v xs ∧ Below w.heap.size w w' := by
  have H := Lib.hid h
  clear h
  go_enter Try.func26, Try.ntmps26
  go_wp2_with (((with_reducible refine gate_builtin (b := .append) (xs := #[.const (.slice none 0 0), .tmp 3]) rfl ?_); at_builtin; apply stopper))
  unfold Stopper
  refine Kd.R_append_row (Value.int .i64) 0 (h1 := fun _ => rfl) (w0 := w) w.heap.size rfl (.const (.slice none 0 0)) (.tmp 3) 22 3 (.int .i64 0) 8 rfl Try.underlying22 infoInt rfl (by decide) (.slice none 0 0) [] xs A n c (fun _ => True) rfl rfl (fun _ _ => trivial) (Kd.R_nil _ _ _ _ _) H.out (Below.refl _ _) (Nat.le_refl _) (by simp; omega) ?_
  intro v1 w1 ho hb hg hat
  have HO := Lib.hid ho
  have HB := Lib.hid hb
  clear ho hb hg hat
  go_wp2
  go_ret
  exact ⟨_, rfl, HO.out, HB.out⟩
/-- A list as LentInts gives it. -/
def Lent (w : World) (base : Nat) (v : Value) (xs : List Int) : Prop := ∃ A c, v = .slice A xs.length c ∧ xs.length + 1 ≤ c ∧ KI.R 3 w base (fun _ => True) (.slice A (xs.length + 1) c) (xs ++ [-77])
theorem Lent.below {w w1 : World} {base : Nat} {v : Value} {xs : List Int} (h : Lent w base v xs) (hb : Below w.heap.size w w1) : Lent w1 base v xs := by
  obtain ⟨A, c, h1, h2, h3⟩ := h
  exact ⟨A, c, h1, h2, Kd.R_below h3 hb⟩
theorem Lent.reads {w : World} {base : Nat} {A : Option Addr} {n c : Nat} {xs : List Int} (h : Lent w base (.slice A n c) xs) : n = xs.length ∧ n ≤ c ∧ KI.C w A n xs := by
  obtain ⟨A', c', h1, h2, h3⟩ := h
  injection h1 with a1 a2 a3
  subst a1 a2 a3
  have hc := (Kd.R_reads' h3).2.2
  have := Kd.C_take hc (m := xs.length) (by simp)
  rw [List.take_left] at this
  exact ⟨rfl, by omega, this⟩
theorem Lent.form {w : World} {base : Nat} {v : Value} {xs : List Int} (h : Lent w base v xs) : ∃ A c, v = .slice A xs.length c := by
  obtain ⟨A, c, h1, _⟩ := h
  exact ⟨A, c, h1⟩
theorem cut_cap (t e : TypeId) (kh : IntKind) {i : TypeInfo} (ht : Try.prog.underlying t = some (.slice e)) (hi : Try.prog.info? e = some i) (A : Option Addr) (n c : Nat) (j : Int) (h0 : 0 ≤ j) (hm : j ≤ c) :
    ∀ W : World, (Instr.slice t (.slice A n c) none (some (.int kh j)) none).run Try.prog W = .ok (.slice A j.toNat c) W := by
  intro W
  have hel : Try.prog.elem t = e := by simp [Program.elem, ht]
  have hu : Try.prog.underlying t = some (.slice (Try.prog.elem t)) := by rw [hel]; exact ht
  have ha : (A.map fun x => x.add 0) = A := by cases A <;> simp [Addr.add]
  rw [run_slice_h W t A n c hu kh j h0 hm, hel]
  simp [sizeOf, typeInfo, hi, sliced, Result.andThen, ha]
theorem lent_ints (A : Option Addr) (n c : Nat) (xs : List Int) (w : World) (h : KI.C w A n xs) (hl : n * 8 ≤ 140737488351232) :
    Calls Try.prog 11 #[.slice A n c] w fun e w' => ∃ v, e = .returned v ∧ Lent w' w.heap.size v xs ∧ Below w.heap.size w w' := by
  have H := Lib.hid h
  have hxl := ki_len h
  subst hxl
  clear h
  go_enter Try.func11, Try.ntmps11
  go_wp2_with (first | ((with_reducible refine gate_builtin (b := .append) (xs := #[.tmp 4, .tmp 5]) rfl ?_); at_builtin; apply stopper) | (go_at_call 26; refine (copy_ints _ _ _ _ _ H.out hl).mono ?_; rintro e w1 ⟨v, rfl, hr, hb⟩; have HR := Lib.hid hr; have HB := Lib.hid hb; clear hr hb))
  unfold Stopper
  refine Kd.R_append KI (w0 := w) w.heap.size rfl (.tmp 4) (.tmp 5) 22 3 (.int .i64 0) 8 rfl Try.underlying22 infoInt rfl (by decide) (by omega) v xs (-77) [.int .i64 (-77)] (fun _ => True) (fun _ => False) rfl rfl ?aP (fun _ hk => hk.elim) (fun _ _ => trivial) HR.out HB.out HB.out.size (by omega) ?_
  case aP => exact rfl
  intro v1 w2 ho hb hg hat
  obtain ⟨A1, c1, hv1⟩ := Kd.R_slice ho
  rw [List.length_append] at hv1
  have hv2 : v1 = .slice A1 (xs.length + 1) c1 := hv1
  subst hv2
  have hrd := Kd.R_reads' ho
  have hcap : xs.length + 1 ≤ c1 := hrd.2.1
  have HO := Lib.hid ho
  have HB2 := Lib.hid hb
  have r2 : ∀ W : World, (Instr.slice 22 (.slice A1 (xs.length + 1) c1) none (some (.int .i64 (xs.length : Int))) none).run Try.prog W = .ok (.slice A1 xs.length c1) W := by
    intro W
    obtain ⟨i0, hi, hz⟩ := Option.map_eq_some_iff.1 infoInt
    have := cut_cap 22 3 .i64 Try.underlying22 hi A1 (xs.length + 1) c1 (xs.length : Int) (by omega) (by omega) W
    rw [Int.toNat_natCast] at this
    exact this
  clear ho hb hg hat hrd hv1 HR HB
  go_wp2
  go_ret
  exact ⟨_, rfl, ⟨A1, c1, rfl, hcap, HO.out⟩, HB2.out⟩
theorem stays_ints (A B : Option Addr) (n c m c' : Nat) (xs : List Int) (base : Nat) (w : World) (h : Lent w base (.slice A n c) xs) (hw : KI.C w B m xs) :
    Calls Try.prog 18 #[.slice A n c, .slice B m c'] w fun e w' => e = .returned (.bool true) ∧ ∃ q, w' = w.drewN q := by
  obtain ⟨rfl, hle, hc⟩ := h.reads
  obtain ⟨A', c2, h1, h2, h3⟩ := h
  injection h1 with a1 a2 a3
  subst a1 a3
  have hmx := Kd.C_max (Kd.R_reads' h3).2.2
  obtain ⟨ad, rfl, x0⟩ := ints_at (Kd.R_reads' h3).2.2 xs.length (by simp)
  rw [List.getD_eq_getElem?_getD, List.getElem?_append_right (Nat.le_refl _), Nat.sub_self] at x0
  have x1 : w.cell? (ad.add xs.length) = some (.int .i64 (-77)) := x0
  have HC := Lib.hid hc
  have HW := Lib.hid hw
  have r2 : ∀ W : World, (Instr.slice 22 (.slice (some ad) xs.length c) none (some (.int .i64 ((xs.length : Int) + 1))) none).run Try.prog W = .ok (.slice (some ad) (xs.length + 1) c) W := by
    intro W
    obtain ⟨i0, hi, hz⟩ := Option.map_eq_some_iff.1 infoInt
    have := cut_cap 22 3 .i64 Try.underlying22 hi (some ad) xs.length c ((xs.length : Int) + 1) (by omega) (by omega) W
    rw [show ((xs.length : Int) + 1).toNat = xs.length + 1 by omega] at this
    exact this
  have i0 : (0 : Int) ≤ (xs.length : Int) := by omega
  have i1 : (xs.length : Int) < ((xs.length + 1 : Nat) : Int) := by omega
  have i2 : ((xs.length : Int)).toNat = xs.length := by omega
  simp only [List.length_append, List.length_singleton] at hmx
  have s1 : wrap64 ((xs.length : Int) + 1) = (xs.length : Int) + 1 := by unfold wrap64; omega
  clear h3 hc hw x0 h2
  go_enter Try.func18, Try.ntmps18
  go_wp2_with (go_at_call 17; refine (same_ints _ _ _ _ _ _ _ _ _ HC.out HW.out).mono ?_; rintro e w1 ⟨rfl, q, rfl⟩; rw [decide_eq_true (rfl : xs = xs)])
  go_ret
  exact ⟨rfl, _, rfl⟩
end Go.Proofs.Ytfdpgngdccdmpaa.Ints
