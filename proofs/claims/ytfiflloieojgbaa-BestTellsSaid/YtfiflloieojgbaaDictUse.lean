/- Dictionaries: as the statements make them; a phrase by its number. -/
import Derived.Test.YtfiflloieojgbaaDictNew
namespace Go.Proofs.Ytfiflloieojgbaa.Dict
set_option linter.unusedVariables false
set_option linter.unusedSimpArgs false
open Go.RowKit Go.Proofs.YtfiflloieojgbaaW.PrintWords Go.Proofs.YtfiflloieojgbaaW.PrintMore Go.Proofs.Ytfiflloieojgbaa.L Go.Proofs.Ytfiflloieojgbaa.Texts

theorem make_any (A : Option Addr) (n c : Nat) (l : List ByteArray) (w : World) (h : KS.C w A n l) (hok : okTexts l) :
    Calls Try.prog 14 #[.slice A n c] w fun e w' => Below w.heap.size w w' ∧ ∃ b, e = .returned (.pointer (some ⟨b, 0, none⟩)) ∧ DC w' b l := by
  have H := Lib.hid h
  clear h
  go_enter Try.func14, Try.ntmps14
  go_wp2_with (fail)
  refine (new_any _ _ _ _ _ H.out hok).mono ?_
  rintro e w1 ⟨hb, b, rfl, hd⟩
  have HB := Lib.hid hb
  have HD := Lib.hid hd
  clear hb hd
  go_wp2_with (fail)
  go_ret
  exact ⟨HB.out, _, rfl, HD.out⟩
/-- Which dictionaries the statements speak of. -/
def dictIn (l : List ByteArray) (b : ByteArray) : Prop := few l ∧ b.size ≤ 400 ∧ okTexts l
instance (l : List ByteArray) (b : ByteArray) : Decidable (dictIn l b) := by unfold dictIn; exact inferInstance
set_option maxRecDepth 100000 in
theorem dict_any (A : Option Addr) (n c : Nat) (l : List ByteArray) (b : ByteArray) (w : World) (h : KS.C w A n l) (hs : ∀ s ∈ l, s.size ≤ 140737488351232) :
    Calls Try.prog 11 #[.slice A n c, .string b] w fun e w' => Below w.heap.size w w' ∧
      ((dictIn l b ∧ ∃ k, e = .returned (.tuple #[.pointer (some ⟨k, 0, none⟩), .bool true]) ∧ DC w' k l) ∨ (¬ dictIn l b ∧ e = .returned (.tuple #[.pointer none, .bool false]))) := by
  have H := Lib.hid h
  have HS := Lib.hid hs
  clear h hs
  go_enter Try.func11, Try.ntmps11
  go_wp2_with (fail)
  refine (few_any _ _ _ _ _ H.out HS.out).mono ?_
  rintro e w1 ⟨rfl, rfl⟩
  by_cases hf : few l
  · rw [decide_eq_true hf]
    by_cases hb : b.size ≤ 400
    · have hbi : (b.size : Int) ≤ 400 := by omega
      go_wp2_with (fail)
      refine (phrases_any _ _ _ _ _ H.out HS.out).mono ?_
      rintro e w2 ⟨⟨x, p, rfl, hx⟩, q, rfl⟩
      by_cases ho : okTexts l
      · obtain rfl := hx.2 ho
        have HI := Lib.hid (show dictIn l b from ⟨hf, hb, ho⟩)
        clear hx hf hb
        go_wp2_with (fail)
        refine (make_any _ _ _ _ _ (Kd.C_drewN H.out q) ho).mono ?_
        rintro e w3 ⟨hb3, k, rfl, hd⟩
        have HB3 := Lib.hid (bel_trans (below_drewN (Below.refl w1.heap.size w1) q) (Nat.le_refl _) hb3)
        have HD := Lib.hid hd
        clear hb3 hd
        go_wp2_with (fail)
        go_ret2
        exact ⟨HB3.out, .inl ⟨HI.out, _, rfl, HD.out⟩⟩
      · have hne : (x != 0) = true := bne_iff_ne.2 (fun h => ho (hx.1 h))
        have HI := Lib.hid (show ¬ dictIn l b from fun h => ho h.2.2)
        clear hx hf hb
        go_wp2_with (fail)
        go_ret2
        exact ⟨below_drewN (Below.refl _ _) q, .inr ⟨HI.out, rfl⟩⟩
    · have hbi : (400 : Int) < (b.size : Int) := by omega
      have HI := Lib.hid (show ¬ dictIn l b from fun h => hb h.2.1)
      clear hf hb
      go_wp2_with (fail)
      go_ret2
      exact ⟨Below.refl _ _, .inr ⟨HI.out, rfl⟩⟩
  · rw [decide_eq_false hf]
    have HI := Lib.hid (show ¬ dictIn l b from fun h => hf h.1)
    clear hf
    go_wp2_with (fail)
    go_ret2
    exact ⟨Below.refl _ _, .inr ⟨HI.out, rfl⟩⟩

/-! ### (*Dict).At -/
/-- A dictionary, or none: then it is as one of no phrases. -/
def DP (w : World) (p : Option Addr) (l : List ByteArray) : Prop := (p = none ∧ l = []) ∨ ∃ b, p = some ⟨b, 0, none⟩ ∧ DC w b l
theorem DP.below {w w1 : World} {p : Option Addr} {l : List ByteArray} (h : DP w p l) (hb : Below w.heap.size w w1) : DP w1 p l := by
  rcases h with h | ⟨b, e, h⟩
  · exact .inl h
  · exact .inr ⟨b, e, h.below hb⟩
def inL (l : List ByteArray) (k : Int) : Bool := decide (0 ≤ k ∧ k < (l.length : Int))
def atL (l : List ByteArray) (k : Int) : ByteArray := if inL l k = true then l.getD k.toNat no else no
end Go.Proofs.Ytfiflloieojgbaa.Dict
