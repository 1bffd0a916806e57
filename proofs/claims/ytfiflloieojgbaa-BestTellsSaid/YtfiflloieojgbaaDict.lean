/- Dictionaries: which phrases may be; what is made of them. -/
import Derived.Test.YtfiflloieojgbaaTexts
import Derived.Deep.RegionLaw
namespace Go.Proofs.Ytfiflloieojgbaa.Dict
set_option linter.unusedVariables false
set_option linter.unusedSimpArgs false
open Go.RowKit Go.Proofs.YtfiflloieojgbaaW.PrintWords Go.Proofs.YtfiflloieojgbaaW.PrintMore Go.Proofs.Ytfiflloieojgbaa.L Go.Proofs.Ytfiflloieojgbaa.Texts

/-! ### which phrases may be -/
def sizes : List ByteArray → Nat
  | [] => 0
  | s :: l => s.size + sizes l
theorem sizes_append : ∀ a b, sizes (a ++ b) = sizes a + sizes b
  | [], b => by simp [sizes]
  | s :: a, b => by simp only [List.cons_append, sizes, sizes_append a b]; omega
theorem take_succ_getD (l : List ByteArray) (k : Nat) (h : k < l.length) : l.take (k + 1) = l.take k ++ [l.getD k no] := by
  rw [List.take_succ_eq_append_getElem h]
  simp [List.getD_eq_getElem?_getD, List.getElem?_eq_getElem h]
theorem sizes_succ (l : List ByteArray) (k : Nat) (h : k < l.length) : sizes (l.take (k + 1)) = sizes (l.take k) + (l.getD k no).size := by
  rw [take_succ_getD l k h, sizes_append]
  simp [sizes]
theorem sizes_le (M : Nat) : ∀ l : List ByteArray, (∀ s ∈ l, s.size ≤ M) → sizes l ≤ l.length * M
  | [], _ => by simp [sizes]
  | s :: l, h => by
    have h1 := h s (by simp)
    have h2 := sizes_le M l (fun x hx => h x (by simp [hx]))
    simp only [sizes, List.length_cons, Nat.succ_mul]
    omega
theorem getD_mem (l : List ByteArray) (k : Nat) (h : k < l.length) : l.getD k no ∈ l := by
  rw [List.getD_eq_getElem?_getD, List.getElem?_eq_getElem h]
  exact List.getElem_mem h
theorem idx_self (l : List ByteArray) (k : Nat) (h : k < l.length) : idx (l.getD k no) l ≤ k := by
  by_cases hk : k ≤ idx (l.getD k no) l
  · rw [(idx_at _ l k h hk).1 rfl]; exact Nat.le_refl _
  · omega
def okAt (l : List ByteArray) (k : Nat) : Prop := (l.getD k no).size ≠ 0 ∧ (l.getD k no).size ≤ 40 ∧ sizes (l.take (k + 1)) ≤ 1000 ∧ k ≤ idx (l.getD k no) l
def okTexts (l : List ByteArray) : Prop := l.length ≤ 100 ∧ ∀ k, k < l.length → okAt l k
def few (l : List ByteArray) : Prop := l.length ≤ 110 ∧ sizes l ≤ 1300
instance (l : List ByteArray) (k : Nat) : Decidable (okAt l k) := by unfold okAt; exact inferInstance
instance (l : List ByteArray) : Decidable (okTexts l) := by unfold okTexts; exact inferInstance
instance (l : List ByteArray) : Decidable (few l) := by unfold few; exact inferInstance

/-! ### Few -/
theorem wrap_add (a b : Int) : wrap64 (wrap64 a + b) = wrap64 (a + b) := by unfold wrap64; omega
theorem wrap_small (a : Nat) (h : a ≤ 4611686018427387904) : wrap64 (a : Int) = a := by unfold wrap64; omega
set_option maxRecDepth 100000 in
theorem few_any (A : Option Addr) (n c : Nat) (l : List ByteArray) (w : World) (h : KS.C w A n l) (hs : ∀ s ∈ l, s.size ≤ 140737488351232) :
    Calls Try.prog 32 #[.slice A n c] w fun e w' => e = .returned (.bool (decide (few l))) ∧ w' = w := by
  have H := Lib.hid h
  have hmx := Kd.C_max h
  have hnl := ks_len h
  have HS := Lib.hid hs
  clear h hs
  subst hnl
  go_enter Try.func32, Try.ntmps32
  go_wp2_with (fail)
  go_loopg [3, 8] l.length (fun j s i wr => ∃ k : Nat, k + j = l.length ∧ i = .int .i64 k ∧ s = .int .i64 (wrap64 (sizes (l.take k) : Nat)) ∧ wr = w)
  case atStart => exact ⟨0, by omega, rfl, by rw [List.take_zero]; exact congrArg _ (wrap_small 0 (by decide)).symm, rfl⟩
  case round =>
    obtain ⟨k, hk, rfl, rfl, rfl⟩ := hrel
    by_cases hlt : k < l.length
    · obtain ⟨ad, rfl, x0⟩ := strs_at H.out k hlt
      have hn := sizes_succ l k hlt
      obtain ⟨x, hx⟩ : ∃ x, l.getD k no = x := ⟨_, rfl⟩
      rw [hx] at x0 hn
      obtain ⟨S, hS⟩ : ∃ S, wrap64 (sizes (l.take k) : Nat) = S := ⟨_, rfl⟩
      have hS2 : wrap64 (S + (x.size : Int)) = wrap64 (sizes (l.take (k + 1)) : Nat) := by
        rw [hn, ← hS, wrap_add]
        congr 1
      rw [hS]
      have i0 : (0 : Int) ≤ k := by omega
      have i1 : (k : Int) < (l.length : Int) := by omega
      have i2 : ((k : Int)).toNat = k := by omega
      have HN := Lib.hid hS2
      clear hn hx hS hS2
      go_wp2_with (fail)
      go_roundg (l.length - (k + 1))
      case measure => omega
      case rel => exact ⟨k + 1, by omega, by go_num, by rw [HN.out], rfl⟩
    · obtain rfl : k = l.length := by omega
      rw [List.take_length]
      by_cases h110 : l.length ≤ 110
      · have hle := sizes_le 140737488351232 l HS.out
        have hle2 : l.length * 140737488351232 ≤ 110 * 140737488351232 := Nat.mul_le_mul_right _ h110
        obtain ⟨S, hS⟩ : ∃ S, sizes l = S := ⟨_, rfl⟩
        have hf : decide (few l) = decide ((S : Int) ≤ 1300) := by
          refine decide_eq_decide.2 ⟨fun h => ?_, fun h => ?_⟩
          · have := h.2
            omega
          · exact ⟨h110, by omega⟩
        rw [hS] at hle ⊢
        have hw : wrap64 (S : Int) = S := wrap_small S (by omega)
        rw [hw]
        have HF := Lib.hid hf
        clear hle hle2 hS hf hw
        go_wp2_with (fail)
        go_ret
        exact ⟨by rw [HF.out]; rfl, rfl⟩
      · have hf := Lib.hid (show decide (few l) = false from decide_eq_false (fun hh => h110 hh.1))
        have h110i : (110 : Int) < (l.length : Int) := by omega
        generalize wrap64 ((sizes l : Nat) : Int) = S
        go_wp2_with (fail)
        go_ret
        exact ⟨by rw [hf.out]; rfl, rfl⟩

/-! ### Find -/
theorem find_any (A : Option Addr) (n c : Nat) (xs : List ByteArray) (s : ByteArray) (w : World) (h : KS.C w A n xs) :
    Calls Try.prog 61 #[.slice A n c, .string s] w fun e w' => e = .returned (.int .i64 (find s xs)) ∧ ∃ q, w' = w.drewN q := by
  have H := Lib.hid h
  have hmx := Kd.C_max h
  have hnl := ks_len h
  clear h
  subst hnl
  go_enter Try.func61, Try.ntmps61
  go_wp2_with (fail)
  go_loopg [5] xs.length (fun j i wr => ∃ k : Nat, k + j = xs.length ∧ i = .int .i64 k ∧ Hid (k ≤ idx s xs ∧ ∃ q, wr = w.drewN q))
  case atStart => exact ⟨0, by omega, rfl, Nat.zero_le _, 0, rfl⟩
  case round =>
    obtain ⟨k, hk, rfl, HI⟩ := hrel
    obtain ⟨hki, q, rfl⟩ := HI.out
    by_cases hlt : k < xs.length
    · obtain ⟨ad, rfl, x0⟩ := strs_at H.out k hlt
      have hst := idx_at s xs k hlt hki
      obtain ⟨x, hx⟩ : ∃ x, xs.getD k no = x := ⟨_, rfl⟩
      rw [hx] at x0 hst
      have i0 : (0 : Int) ≤ k := by omega
      have i1 : (k : Int) < (xs.length : Int) := by omega
      have i2 : ((k : Int)).toNat = k := by omega
      have HX := Lib.hid hx
      have HS := Lib.hid hst
      clear hx hst hki HI
      by_cases he : s = x
      · subst he
        have hb : (s.toList == s.toList) = true := (Lib.bytes_beq_iff s s).2 rfl
        have hf := Lib.hid (show find s xs = (k : Int) by unfold find; rw [(HS.out).1 rfl, if_pos hlt])
        go_wp2_with (fail)
        go_ret
        rw [hf.out]
        exact ⟨rfl, _, rfl⟩
      · have hb : (x.toList == s.toList) = false := (Lib.bytes_beq_false_iff x s).2 (fun h => he h.symm)
        have HE := Lib.hid he
        clear he
        go_wp2_with (fail)
        go_roundg (xs.length - (k + 1))
        case measure => omega
        case rel => exact ⟨k + 1, by omega, by go_num, HS.out.2 HE.out, _, rfl⟩
    · have hf := Lib.hid (show find s xs = -1 by unfold find; rw [if_neg (by have := idx_le s xs; omega)])
      clear hki HI
      go_wp2_with (fail)
      go_ret
      rw [hf.out]
      exact ⟨rfl, _, rfl⟩

/-! ### Phrases -/
set_option maxRecDepth 100000 in
set_option maxHeartbeats 1000000 in
theorem phrases_any (A : Option Addr) (n c : Nat) (l : List ByteArray) (w : World) (h : KS.C w A n l) (hs : ∀ s ∈ l, s.size ≤ 140737488351232) :
    Calls Try.prog 33 #[.slice A n c] w fun e w' => (∃ x p, e = .returned (.tuple #[.int .i64 x, .int .i64 p]) ∧ (x = 0 ↔ okTexts l)) ∧ ∃ q, w' = w.drewN q := by
  have H := Lib.hid h
  have hmx := Kd.C_max h
  have hnl := ks_len h
  have HS := Lib.hid hs
  clear h hs
  subst hnl
  go_enter Try.func33, Try.ntmps33
  by_cases h100 : 100 < l.length
  · go_wp2_with (fail)
    go_ret2
    exact ⟨⟨10, 100, rfl, ⟨fun h => (by cases h), fun h => absurd h.1 (by omega)⟩⟩, 0, rfl⟩
  · go_wp2_with (fail)
    go_loopg [4, 5] l.length (fun j s i wr => ∃ k : Nat, k + j = l.length ∧ i = .int .i64 k ∧ s = .int .i64 (sizes (l.take k) : Nat) ∧ Hid (sizes (l.take k) ≤ 1000 ∧ (∀ j, j < k → okAt l j) ∧ ∃ q, wr = w.drewN q))
    case atStart => exact ⟨0, by omega, rfl, rfl, by simp [sizes], fun j hj => absurd hj (Nat.not_lt_zero j), 0, rfl⟩
    case round =>
      obtain ⟨k, hk, rfl, rfl, HI⟩ := hrel
      obtain ⟨h1000, hok, q, rfl⟩ := HI.out
      by_cases hlt : k < l.length
      · obtain ⟨ad, rfl, x0⟩ := strs_at H.out k hlt
        have hn := sizes_succ l k hlt
        have hxs := HS.out _ (getD_mem l k hlt)
        have hio := idx_self l k hlt
        obtain ⟨x, hx⟩ : ∃ x, l.getD k no = x := ⟨_, rfl⟩
        have hoa : okAt l k ↔ (x.size ≠ 0 ∧ x.size ≤ 40 ∧ sizes (l.take (k + 1)) ≤ 1000 ∧ k ≤ idx x l) := by unfold okAt; rw [hx]
        have hfi : find x l = (idx x l : Nat) := by
          unfold find
          rw [if_pos (by rw [hx] at hio; omega)]
        rw [hx] at x0 hn hxs hio
        obtain ⟨S, hS⟩ : ∃ S, sizes (l.take k) = S := ⟨_, rfl⟩
        rw [hS] at hn h1000 ⊢
        obtain ⟨I, hI⟩ : ∃ I, idx x l = I := ⟨_, rfl⟩
        rw [hI] at hoa hfi hio
        rw [hn] at hoa
        have i0 : (0 : Int) ≤ k := by omega
        have i1 : (k : Int) < (l.length : Int) := by omega
        have i2 : ((k : Int)).toNat = k := by omega
        have HOA := Lib.hid hoa
        have HN := Lib.hid hn
        have HF := Lib.hid hfi
        have HOK := Lib.hid hok
        clear hn hx hS hoa hfi hok hI HI
        by_cases c0 : x.size = 0
        · obtain rfl := empty_of c0
          have hb : ((⟨#[]⟩ : ByteArray).toList == (⟨#[]⟩ : ByteArray).toList) = true := (Lib.bytes_beq_iff _ _).2 rfl
          have hres := Lib.hid (show ¬ okTexts l from fun h => (HOA.out.1 (h.2 k hlt)).1 rfl)
          clear c0
          go_wp2_with (fail)
          go_ret2
          exact ⟨⟨_, _, rfl, ⟨fun h => (by cases h), fun h => absurd h hres.out⟩⟩, _, rfl⟩
        · have hb : x.toList.isEmpty = false := isEmpty_no c0
          by_cases c1 : x.size ≤ 40
          · by_cases c2 : S + x.size ≤ 1000
            · have c1i : (x.size : Int) ≤ 40 := by omega
              have c2i : (S : Int) + (x.size : Int) ≤ 1000 := by omega
              by_cases c3 : I < k
              · have hres := Lib.hid (show ¬ okTexts l from fun h => by have := (HOA.out.1 (h.2 k hlt)).2.2.2; omega)
                have c3i : (I : Int) < (k : Int) := by omega
                clear c1 c2 c3
                go_wp2_with (go_at_call 61; refine (find_any _ _ _ _ _ _ (Kd.C_drewN H.out _)).mono ?_; rintro e w1 ⟨rfl, q1, hw1⟩; rw [World.drewN_drewN] at hw1; rw [HF.out]; subst hw1)
                all_goals first
                  | (exfalso; omega)
                  | (go_ret2; exact ⟨⟨_, _, rfl, ⟨fun h => (by cases h), fun h => absurd h hres.out⟩⟩, _, rfl⟩)
              · have c3i : (k : Int) ≤ (I : Int) := by omega
                have hnow := Lib.hid (show okAt l k from HOA.out.2 ⟨c0, c1, c2, by omega⟩)
                have hs2 := Lib.hid (show ((sizes (l.take (k + 1)) : Nat) : Int) = (S : Int) + (x.size : Int) by rw [HN.out]; omega)
                have h1002 := Lib.hid (show sizes (l.take (k + 1)) ≤ 1000 by rw [HN.out]; omega)
                clear c1 c2 c3
                go_wp2_with (go_at_call 61; refine (find_any _ _ _ _ _ _ (Kd.C_drewN H.out _)).mono ?_; rintro e w1 ⟨rfl, q1, hw1⟩; rw [World.drewN_drewN] at hw1; rw [HF.out]; subst hw1)

                go_roundg (l.length - (k + 1))
                case measure => omega
                case rel => exact ⟨k + 1, by omega, by go_num, by rw [hs2.out], h1002.out, fun j hj => by
                    by_cases h : j = k
                    · rw [h]; exact hnow.out
                    · exact HOK.out j (by omega), _, rfl⟩
            · have c1i : (x.size : Int) ≤ 40 := by omega
              have c2i : (1000 : Int) < (S : Int) + (x.size : Int) := by omega
              have hres := Lib.hid (show ¬ okTexts l from fun h => by have := (HOA.out.1 (h.2 k hlt)).2.2.1; omega)
              clear c1 c2
              go_wp2_with (fail)
              all_goals first
                | (exfalso; omega)
                | (go_ret2; exact ⟨⟨_, _, rfl, ⟨fun h => (by cases h), fun h => absurd h hres.out⟩⟩, _, rfl⟩)
          · have c1i : (40 : Int) < (x.size : Int) := by omega
            have hres := Lib.hid (show ¬ okTexts l from fun h => by have := (HOA.out.1 (h.2 k hlt)).2.1; omega)
            clear c1
            go_wp2_with (fail)
            all_goals first
              | (exfalso; omega)
              | (go_ret2; exact ⟨⟨_, _, rfl, ⟨fun h => (by cases h), fun h => absurd h hres.out⟩⟩, _, rfl⟩)
      · obtain rfl : k = l.length := by omega
        have hres := Lib.hid (show okTexts l from ⟨by omega, hok⟩)
        clear hok h1000 HI
        generalize sizes (l.take l.length) = S
        go_wp2_with (fail)
        go_ret2
        exact ⟨⟨_, _, rfl, ⟨fun _ => hres.out, fun _ => rfl⟩⟩, _, rfl⟩
end Go.Proofs.Ytfiflloieojgbaa.Dict
