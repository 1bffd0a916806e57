/- A list of strings that came in: what a row knows of it. -/
import Derived.Test.YtfiflloieojgbaaTexts
import Derived.SliceStrings
import Derived.SizedLaws
import Derived.ChangeSlices
namespace Go.Proofs.Ytfiflloieojgbaa.Texts
set_option linter.unusedVariables false
set_option linter.unusedSimpArgs false
open Go.RowKit Go.ChangeShapes Go.WideShapes Go.Proofs.YtfiflloieojgbaaW.PrintWords Go.Proofs.YtfiflloieojgbaaW.PrintMore Go.Proofs.Ytfiflloieojgbaa.L

theorem mem_weightsAll {H : Type} {P : Program} {e : TypeId} {d : DataW H} {n : Nat} (hn : n ∈ d.weights P e) : ∀ {l : List (DataW H)}, d ∈ l → n ∈ DataW.weightsAll P e l
  | [], h => by simp at h
  | x :: l, h => by
    simp only [DataW.weightsAll, List.mem_append]
    rcases List.mem_cons.1 h with rfl | h
    · exact .inl hn
    · exact .inr (mem_weightsAll hn h)
theorem open_texts {H : Type} {enc : TypeId × Value → H} {W : World} {base : Nat} {spare : Nat → Bool} {held : Bool} {a : Option Addr} {len cap : Nat} {d : DataW H} {ps : List MemPlace} {ts : List TypeId} {ds : List (DataW H)} {j : Nat}
    (hsz : (DataW.weightsEach Try.prog ts ds).all (· ≤ reachBytes) = true) (ht : ts[j]? = some 22) (hd : ds[j]? = some d)
    (h : DataW.Trod enc Try.prog W base spare held 22 (.slice a len cap) d ps) :
    ∃ l : List ByteArray, len = l.length ∧ KS.C W a l.length l ∧ l.length ≤ cap ∧ l.length * 16 ≤ 140737488351232 ∧ ∀ s ∈ l, s.size ≤ 140737488351232 := by
  obtain ⟨fuel, hf⟩ := h
  rcases open_strings Try.underlying22 Try.underlying9 (by kernel_rfl) hf with ⟨hcs, _⟩ | ⟨x, l, c, ss, hcs, _, hl, hm, hz, hx, hcell, hw⟩
  · simp [Value.cells] at hcs
    obtain ⟨rfl, rfl, rfl⟩ := hcs
    exact ⟨[], rfl, Kd.C_nil _ _, by simp, by simp, by simp⟩
  · simp [Value.cells] at hcs
    obtain ⟨rfl, rfl, rfl⟩ := hcs
    obtain ⟨hx, _⟩ := Prod.mk.inj hx
    subst hx
    have hl2 : len ≤ ss.length := by
      rw [hz]
      split
      · exact hl
      · exact Nat.le_refl _
    have z := sized_slice hsz ht hd Try.underlying22
    rw [show Try.prog.bytesOf 9 = 16 from by kernel_rfl] at z
    have hlt : (ss.take len).length = len := by rw [List.length_take]; omega
    refine ⟨ss.take len, hlt.symm, ?_, by omega, ?_, ?_⟩
    · rw [hlt]
      refine Kd.C_of_reads (d := no) (h1 := fun _ => rfl) ⟨hlt, ?_, fun hn => ⟨x, rfl, fun i hi => ?_⟩⟩
      · unfold maxLen at hm; omega
      · rw [hcell i (by omega)]
        rw [List.getD_eq_getElem?_getD, List.getD_eq_getElem?_getD, List.getElem?_take_of_lt hi]
        rfl
    · rw [hlt]
      have h1 : (strs (H := H) (ss.take len)).length = len := by simp [strs]; omega
      have h2 : len * 16 ≤ ((strs (H := H) (ss.take len)).length + (strs (H := H) (ss.drop len)).length) * 16 := Nat.mul_le_mul_right _ (by omega)
      exact Nat.le_trans h2 (Nat.le_trans z (by decide))
    · intro s hs
      have hmem : (DataW.lit (.string s.data.toList) : DataW H) ∈ strs (H := H) (ss.take len) := List.mem_map.2 ⟨s, hs, rfl⟩
      have h1 := List.all_eq_true.1 hsz _ (DataW.weights_mem_each ht hd s.data.toList.length (by
        simp only [DataW.weights, Try.underlying22]
        refine List.mem_cons_of_mem _ (List.mem_append_left _ (mem_weightsAll ?_ hmem))
        simp [DataW.weights]))
      rw [decide_eq_true_eq, Array.length_toList] at h1
      exact h1
end Go.Proofs.Ytfiflloieojgbaa.Texts
