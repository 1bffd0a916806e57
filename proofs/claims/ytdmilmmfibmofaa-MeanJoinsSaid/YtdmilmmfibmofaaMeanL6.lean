/- What tokens mean together is what they mean one behind the other; a bound that it fits just is enough, one less is not. -/
import Derived.Test.YtdmilmmfibmofaaMeanL4
import Derived.Test.YtdmilmmfibmofaaMeanL3
namespace Go.Proofs.Ytdmilmmfibmofaa.Mean
set_option linter.unusedVariables false
set_option linter.unusedSimpArgs false
open Go.RowKit Go.Proofs.YtdmilmmfibmofaaW.PrintWords Go.Proofs.YtdmilmmfibmofaaW.PrintMore Go.Proofs.Ytdmilmmfibmofaa.L Go.Proofs.Ytdmilmmfibmofaa.Texts Go.Proofs.Ytdmilmmfibmofaa.Dict Go.Proofs.Ytdmilmmfibmofaa.Ints

/-! ### the plain law -/
theorem append_assoc (a b c : ByteArray) : a ++ b ++ c = a ++ (b ++ c) := by
  apply ByteArray.ext
  simp [ByteArray.data_append]
/-- All that tokens mean, if all are tokens. -/
def allMean (l : List ByteArray) : List Int → ByteArray
  | [] => no
  | t :: ts => means l t ++ allMean l ts
def allTok (l : List ByteArray) (ts : List Int) : Prop := ∀ t ∈ ts, (means l t).size ≠ 0
instance (l : List ByteArray) (ts : List Int) : Decidable (allTok l ts) := by unfold allTok; exact inferInstance
theorem allMean_append (l : List ByteArray) : ∀ a b, allMean l (a ++ b) = allMean l a ++ allMean l b
  | [], b => (no_append _).symm
  | t :: a, b => by
    rw [List.cons_append]
    show means l t ++ allMean l (a ++ b) = means l t ++ allMean l a ++ allMean l b
    rw [allMean_append l a b, append_assoc]
theorem allMean_le (l : List ByteArray) (h : ∀ s ∈ l, s.size ≤ 40) : ∀ ts, (allMean l ts).size ≤ 40 * ts.length
  | [] => Nat.le_refl _
  | t :: ts => by
    show (means l t ++ allMean l ts).size ≤ _
    rw [ByteArray.size_append, List.length_cons]
    have := mean_le l h t
    have := allMean_le l h ts
    omega
/-- Where the bound is no less, all is meant; where it is less (and all are tokens) it is too long. -/
theorem go_fits (l : List ByteArray) (most : Int) : ∀ (ts : List Int) (acc : ByteArray), allTok l ts → (acc.size : Int) + (allMean l ts).size ≤ max most 0 → meanGo l most acc ts = (acc ++ allMean l ts, 0)
  | [], acc, _, _ => by
    show (acc, (0 : Int)) = (acc ++ no, 0)
    have : acc ++ no = acc := by
      apply ByteArray.ext
      rw [ByteArray.data_append]
      show acc.data ++ #[] = acc.data
      simp
    rw [this]
  | t :: ts, acc, h, hf => by
    have hs : (allMean l (t :: ts)).size = (means l t).size + (allMean l ts).size := ByteArray.size_append
    rw [hs] at hf
    rw [meanGo_cons, if_neg (h t (by simp)), if_neg (by omega)]
    rw [go_fits l most ts (acc ++ means l t) (fun x hx => h x (by simp [hx])) (by rw [ByteArray.size_append]; omega), append_assoc]
    rfl
theorem go_long (l : List ByteArray) (most : Int) : ∀ (ts : List Int) (acc : ByteArray), allTok l ts → (acc.size : Int) ≤ max most 0 → max most 0 < (acc.size : Int) + (allMean l ts).size → meanGo l most acc ts = (no, 10)
  | [], acc, _, h1, hf => by
    exfalso
    have : (allMean l []).size = 0 := rfl
    omega
  | t :: ts, acc, h, h1, hf => by
    have hs : (allMean l (t :: ts)).size = (means l t).size + (allMean l ts).size := ByteArray.size_append
    rw [hs] at hf
    rw [meanGo_cons, if_neg (h t (by simp))]
    by_cases hc : max most 0 - (acc.size : Int) < ((means l t).size : Int)
    · rw [if_pos hc]
    · rw [if_neg hc]
      exact go_long l most ts (acc ++ means l t) (fun x hx => h x (by simp [hx])) (by rw [ByteArray.size_append]; omega) (by rw [ByteArray.size_append]; omega)
theorem go_none (l : List ByteArray) (most : Int) (h40 : ∀ s ∈ l, s.size ≤ 40) : ∀ (ts : List Int) (acc : ByteArray), ¬ allTok l ts → (acc.size : Int) + 40 * ts.length ≤ max most 0 → meanGo l most acc ts = (no, 9)
  | [], acc, h, _ => absurd (fun t ht => by simp at ht) h
  | t :: ts, acc, h, hf => by
    rw [meanGo_cons]
    by_cases h0 : (means l t).size = 0
    · rw [if_pos h0]
    · have := mean_le l h40 t
      simp only [List.length_cons] at hf
      rw [if_neg h0, if_neg (by omega)]
      refine go_none l most h40 ts _ (fun ha => h (fun x hx => ?_)) (by rw [ByteArray.size_append]; omega)
      rcases List.mem_cons.1 hx with rfl | hx
      · exact h0
      · exact ha x hx
theorem allTok_append (l : List ByteArray) (a b : List Int) : allTok l (a ++ b) ↔ allTok l a ∧ allTok l b := by
  constructor
  · intro h
    exact ⟨fun t ht => h t (List.mem_append_left _ ht), fun t ht => h t (List.mem_append_right _ ht)⟩
  · rintro ⟨h1, h2⟩ t ht
    rcases List.mem_append.1 ht with ht | ht
    · exact h1 t ht
    · exact h2 t ht

/-! ### the walk -/
set_option maxRecDepth 100000 in
set_option maxHeartbeats 2000000 in
theorem MeanJoins_walk (A : Option Addr) (l : List ByteArray) (c : Nat) (B : Option Addr) (a : List Int) (c' : Nat) (C : Option Addr) (b : List Int) (c'' : Nat) (w : World)
    (hl : KS.C w A l.length l) (hc : l.length ≤ c) (h16 : l.length * 16 ≤ 140737488351232) (hs : ∀ s ∈ l, s.size ≤ 140737488351232)
    (ha : KI.C w B a.length a) (hca : a.length ≤ c') (ha8 : a.length * 8 ≤ 140737488351232) (hwa : ∀ x ∈ a, (Lit.int .i64 x).wf = true)
    (hb : KI.C w C b.length b) (hcb : b.length ≤ c'') (hb8 : b.length * 8 ≤ 140737488351232) (hwb : ∀ x ∈ b, (Lit.int .i64 x).wf = true) :
    Calls Try.prog 4 #[.slice A l.length c, .slice B a.length c', .slice C b.length c''] w fun e w' => e = .returned (.bool true) ∧ Below w.heap.size w w' := by
  have HA := Lib.hid ha
  have HBB := Lib.hid hb
  have HWA := Lib.hid (wf_range hwa)
  have HWB := Lib.hid (wf_range hwb)
  clear ha hb hwa hwb
  go_enter Try.func4, Try.ntmps4
  go_wp2_with (fail)
  refine (dict_any _ _ _ l _ _ hl hs).mono ?_
  clear hl hs
  rintro e w1 ⟨hb1, ⟨hin, bk, rfl, hd⟩ | ⟨hin, rfl⟩⟩
  · have HB1 := Lib.hid hb1
    by_cases g1 : a.length + b.length ≤ 300
    · have g1i : (a.length : Int) + (b.length : Int) ≤ 300 := by omega
      have HD := Lib.hid (show DP w1 (some ⟨bk, 0, none⟩) l from .inr ⟨bk, rfl, hd⟩)
      have H40 := Lib.hid (okTexts_40 hin.2.2)
      clear hb1 hd hin
      go_wp2_with (fail)
      refine (alive_any _).mono ?_
      rintro e w2 ⟨rfl, hb2⟩
      have HB2 := Lib.hid (Ints.bel_trans HB1.out HB1.out.size hb2)
      have HD2 := Lib.hid (HD.out.below hb2)
      clear hb2 HB1 HD
      go_wp2_with (fail)
      refine (of_any _ _ _ _ l 1099511627776 a _ HD2.out (Kd.C_below HA.out HB2.out) H40.out HWA.out (by omega) (by decide)).mono ?_
      rintro e w3 ⟨rfl, hb3⟩
      obtain ⟨s, hs⟩ : ∃ s, (meanGo l 1099511627776 no a).1 = s := ⟨_, rfl⟩
      obtain ⟨x, hx⟩ : ∃ x, (meanGo l 1099511627776 no a).2 = x := ⟨_, rfl⟩
      rw [hs, hx]
      have HS := Lib.hid hs
      have HX := Lib.hid hx
      have HB3 := Lib.hid (Ints.bel_trans HB2.out HB2.out.size hb3)
      have HD3 := Lib.hid (HD2.out.below hb3)
      clear hb3 HB2 HD2 hs hx
      go_wp2_with (fail)
      refine (of_any _ _ _ _ l 1099511627776 b _ HD3.out (Kd.C_below HBB.out HB3.out) H40.out HWB.out (by omega) (by decide)).mono ?_
      rintro e w4 ⟨rfl, hb4⟩
      obtain ⟨t, ht⟩ : ∃ t, (meanGo l 1099511627776 no b).1 = t := ⟨_, rfl⟩
      obtain ⟨y, hy⟩ : ∃ y, (meanGo l 1099511627776 no b).2 = y := ⟨_, rfl⟩
      rw [ht, hy]
      have HTT := Lib.hid ht
      have HY := Lib.hid hy
      have HB4 := Lib.hid (Ints.bel_trans HB3.out HB3.out.size hb4)
      have HD4 := Lib.hid (HD3.out.below hb4)
      clear hb4 HB3 HD3 ht hy
      go_wp2_with (((with_reducible refine gate_builtin (b := .append) (xs := #[.const (.slice none 0 0), .tmp 54]) rfl ?_); at_builtin; apply stopper))
      unfold Stopper
      refine Kd.R_append_row (Value.int .i64) 0 (h1 := fun _ => rfl) (w0 := w4) w4.heap.size rfl (.const (.slice none 0 0)) (.tmp 54) 23 3 (.int .i64 0) 8 rfl Try.underlying23 infoInt rfl (by decide) (.slice none 0 0) [] a B a.length c' (fun _ => True) rfl rfl (fun _ _ => trivial) (Kd.R_nil _ _ _ _ _) (Kd.C_below HA.out HB4.out) (Below.refl _ _) (Nat.le_refl _) (by simp; omega) ?_
      intro v5 w5 ho5 hb5 hg5 hat5
      have HO5 := Lib.hid ho5
      have HB5 := Lib.hid hb5
      clear ho5 hb5 hg5 hat5
      go_wp2_with (((with_reducible refine gate_builtin (b := .append) (xs := #[.tmp 55, .tmp 56]) rfl ?_); at_builtin; apply stopper))
      unfold Stopper
      refine Kd.R_append_row (Value.int .i64) 0 (h1 := fun _ => rfl) (w0 := w4) w4.heap.size rfl (.tmp 55) (.tmp 56) 23 3 (.int .i64 0) 8 rfl Try.underlying23 infoInt rfl (by decide) v5 ([] ++ a) b C b.length c'' (fun _ => True) rfl rfl (fun _ _ => trivial) HO5.out (Kd.C_below (Kd.C_below HBB.out HB4.out) HB5.out) HB5.out HB5.out.size (by simp; omega) ?_
      intro v6 w6 ho6 hb6 hg6 hat6
      rw [List.nil_append] at ho6
      obtain ⟨A6, c6, rfl⟩ := Kd.R_slice ho6
      obtain ⟨_, _, hc6⟩ := Kd.R_reads' ho6
      obtain ⟨ab, hab⟩ : ∃ ab, a ++ b = ab := ⟨_, rfl⟩
      have hall := allTok_append l a b
      have hmean := allMean_append l a b
      have hlab : ab.length = a.length + b.length := by rw [← hab, List.length_append]
      have hwab : ∀ t ∈ ab, -(2 ^ 63) ≤ t ∧ t < 2 ^ 63 := by
        rw [← hab]
        intro t ht
        rcases List.mem_append.1 ht with ht | ht
        · exact HWA.out t ht
        · exact HWB.out t ht
      rw [hab] at hc6 hall hmean
      rw [hab]
      have HLAB := Lib.hid hlab
      have HC6 := Lib.hid hc6
      have HALL := Lib.hid hall
      have HMEAN := Lib.hid hmean
      have HWAB := Lib.hid hwab
      have HB6 := Lib.hid (Ints.bel_trans HB4.out HB4.out.size hb6)
      have HD6 := Lib.hid (HD4.out.below hb6)
      clear hlab ho6 hb6 hg6 hat6 hc6 hall hmean hwab hab HO5 HB5 HB4 HD4
      go_wp2_with (fail)
      refine (of_any _ _ _ _ l 1099511627776 ab _ HD6.out HC6.out H40.out HWAB.out (by have := HLAB.out; omega) (by decide)).mono ?_
      rintro e w7 ⟨rfl, hb7⟩
      obtain ⟨u, hu⟩ : ∃ u, (meanGo l 1099511627776 no ab).1 = u := ⟨_, rfl⟩
      obtain ⟨z, hz⟩ : ∃ z, (meanGo l 1099511627776 no ab).2 = z := ⟨_, rfl⟩
      rw [hu, hz]
      have HU := Lib.hid hu
      have HZ := Lib.hid hz
      have HB7 := Lib.hid (Ints.bel_trans HB6.out HB6.out.size hb7)
      have HD7 := Lib.hid (HD6.out.below hb7)
      have HC7 := Lib.hid (Kd.C_below HC6.out hb7)
      clear hb7 HB6 HD6 HC6 hu hz
      have bd : ∀ ts : List Int, ts.length ≤ 300 → ((no.size : Nat) : Int) + (allMean l ts).size ≤ max 1099511627776 0 := by
        intro ts hts
        have := allMean_le l H40.out ts
        show ((0 : Nat) : Int) + _ ≤ _
        omega
      have bn : ∀ ts : List Int, ts.length ≤ 300 → ((no.size : Nat) : Int) + 40 * ts.length ≤ max 1099511627776 0 := by
        intro ts hts
        show ((0 : Nat) : Int) + _ ≤ _
        omega
      have hl300 : ab.length ≤ 300 := by have := HLAB.out; omega
      by_cases hta : allTok l a ∧ allTok l b
      · obtain ⟨ta, tb⟩ := hta
        have tab := HALL.out.2 ⟨ta, tb⟩
        have f1 := go_fits l 1099511627776 a no ta (bd a (by omega))
        have f2 := go_fits l 1099511627776 b no tb (bd b (by omega))
        have f3 := go_fits l 1099511627776 ab no tab (bd ab hl300)
        rw [no_append] at f1 f2 f3
        have es : s = allMean l a := by rw [← HS.out, f1]
        have et : t = allMean l b := by rw [← HTT.out, f2]
        have eu : u = allMean l ab := by rw [← HU.out, f3]
        obtain rfl : x = 0 := by rw [← HX.out, f1]
        obtain rfl : y = 0 := by rw [← HY.out, f2]
        obtain rfl : z = 0 := by rw [← HZ.out, f3]
        have eus : u = s ++ t := by rw [eu, es, et, HMEAN.out]
        have hfit : meanGo l (u.size : Int) no ab = (u, 0) := by
          rw [go_fits l (u.size : Int) ab no tab (by show ((0 : Nat) : Int) + _ ≤ _; rw [eu]; omega), no_append, eu]
        have hlong : u.size ≠ 0 → meanGo l ((u.size : Int) - 1) no ab = (no, 10) := by
          intro h0
          exact go_long l _ ab no tab (by show ((0 : Nat) : Int) ≤ _; omega) (by show _ < ((0 : Nat) : Int) + _; rw [eu] at h0 ⊢; omega)
        have hu40 : u.size ≤ 12000 := by
          have := allMean_le l H40.out ab
          rw [eu]
          omega
        have hst : (s.size : Int) + (t.size : Int) ≤ 12000 := by
          have : u.size = s.size + t.size := by rw [eus, ByteArray.size_append]
          omega
        have HFIT := Lib.hid hfit
        have HLONG := Lib.hid hlong
        have HL300 := Lib.hid hl300
        have n1 : (u.toList == (s ++ t).toList) = true := (Lib.bytes_beq_iff _ _).2 eus
        have n2 : (u.toList == u.toList) = true := by simp
        have s1 : wrap64 ((u.size : Int) - 1) = (u.size : Int) - 1 := by unfold wrap64; omega
        clear f1 f2 f3 ta tb tab bd bn es et eu eus hfit hlong hl300
        go_wp2_with (fail)
        refine (of_any _ _ _ _ l (u.size : Int) ab _ HD7.out HC7.out H40.out HWAB.out (by have := HL300.out; omega) (by omega)).mono ?_
        rintro e w8 ⟨rfl, hb8⟩
        rw [HFIT.out]
        have HB8 := Lib.hid (Ints.bel_trans HB7.out HB7.out.size hb8)
        have HD8 := Lib.hid (HD7.out.below hb8)
        have HC8 := Lib.hid (Kd.C_below HC7.out hb8)
        clear hb8 HB7 HD7 HC7
        go_wp2_with (fail)
        refine (of_any _ _ _ _ l ((u.size : Int) - 1) ab _ HD8.out HC8.out H40.out HWAB.out (by have := HL300.out; omega) (by omega)).mono ?_
        rintro e w9 ⟨rfl, hb9⟩
        have HB9 := Lib.hid (Ints.bel_trans HB8.out HB8.out.size hb9)
        clear hb9 HB8 HD8 HC8
        by_cases h0 : u.size = 0
        · have hemp : u.toList.isEmpty = true := by rw [empty_of h0, ByteArray.toList_eq]; rfl
          generalize (meanGo l ((u.size : Int) - 1) no ab).1 = p1
          generalize (meanGo l ((u.size : Int) - 1) no ab).2 = p2
          go_wp2_with (fail)
          go_ret
          exact ⟨rfl, HB9.out⟩
        · have hemp : u.toList.isEmpty = false := isEmpty_no h0
          rw [HLONG.out h0]
          have e1 : no.toList.isEmpty = true := by rw [ByteArray.toList_eq]; rfl
          go_wp2_with (fail)
          go_ret
          exact ⟨rfl, HB9.out⟩
      · have hnab : ¬ allTok l ab := fun h => hta (HALL.out.1 h)
        have f3 := go_none l 1099511627776 H40.out ab no hnab (bn ab hl300)
        obtain rfl : u = no := by rw [← HU.out, f3]
        obtain rfl : z = 9 := by rw [← HZ.out, f3]
        have e1 : no.toList.isEmpty = true := by rw [ByteArray.toList_eq]; rfl
        by_cases ta : allTok l a
        · have tb : ¬ allTok l b := fun h => hta ⟨ta, h⟩
          have f1 := go_fits l 1099511627776 a no ta (bd a (by omega))
          have f2 := go_none l 1099511627776 H40.out b no tb (bn b (by omega))
          obtain rfl : x = 0 := by rw [← HX.out, f1]
          obtain rfl : y = 9 := by rw [← HY.out, f2]
          clear f1 f2 f3 bd bn hnab hta ta tb hl300
          go_wp2_with (fail)
          go_ret
          exact ⟨rfl, HB7.out⟩
        · have f1 := go_none l 1099511627776 H40.out a no ta (bn a (by omega))
          obtain rfl : x = 9 := by rw [← HX.out, f1]
          clear f1 f3 bd bn hnab hta ta hl300
          go_wp2_with (fail)
          go_ret
          exact ⟨rfl, HB7.out⟩
    · clear hb1 hd hin
      go_wp2_with (go_at_call 13; refine (alive_any _).mono ?_; rintro e w' ⟨rfl, hb⟩)
      all_goals first
        | (exfalso; omega)
        | (go_ret; exact ⟨rfl, Ints.bel_trans HB1.out HB1.out.size hb⟩)
  · have HB1 := Lib.hid hb1
    clear hb1 hin
    go_wp2_with (go_at_call 13; refine (alive_any _).mono ?_; rintro e w' ⟨rfl, hb⟩)
    go_ret
    exact ⟨rfl, Ints.bel_trans HB1.out HB1.out.size hb⟩
end Go.Proofs.Ytdmilmmfibmofaa.Mean
