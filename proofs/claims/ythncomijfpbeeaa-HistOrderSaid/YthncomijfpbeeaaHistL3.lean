/- In whichever order tokens come, the counts are the same; counted in parts they are, too. -/
import Derived.Test.YthncomijfpbeeaaHistPure
namespace Go.Proofs.Ythncomijfpbeeaa.Hist
set_option linter.unusedVariables false
set_option linter.unusedSimpArgs false
open Go.RowKit Go.Proofs.YthncomijfpbeeaaW.PrintWords Go.Proofs.YthncomijfpbeeaaW.PrintMore Go.Proofs.Ythncomijfpbeeaa.L Go.Proofs.Ythncomijfpbeeaa.Ints

/-- What Of returns. -/
def OfV (w : World) (base : Nat) (l : List Int) (v : Value) (e : Int) (h : List Int) : Prop :=
  (good 356 l ∧ e = 0 ∧ h = counted (List.replicate 356 0) l ∧ KI.R 3 w base (fun _ => True) v h) ∨ (¬ good 356 l ∧ e = 9 ∧ h = [] ∧ v = .slice none 0 0)
theorem OfV.below {w w1 : World} {base : Nat} {l h : List Int} {v : Value} {e : Int} (x : OfV w base l v e h) (hb : Below w.heap.size w w1) : OfV w1 base l v e h := by
  rcases x with ⟨a, b, c, d⟩ | x
  · exact .inl ⟨a, b, c, Kd.R_below d hb⟩
  · exact .inr x
theorem OfV.row {w : World} {base : Nat} {l h : List Int} {v : Value} {e : Int} (x : OfV w base l v e h) : KI.R 3 w base (fun _ => True) v h := by
  rcases x with ⟨a, b, c, d⟩ | ⟨a, b, rfl, rfl⟩
  · exact d
  · exact Kd.R_nil _ _ _ _ _
theorem OfV.err {w w' : World} {base base' : Nat} {l l' h h' : List Int} {v v' : Value} {e e' : Int} (x : OfV w base l v e h) (x' : OfV w' base' l' v' e' h') (hg : good 356 l ↔ good 356 l') : e = e' := by
  rcases x with ⟨a, b, c, d⟩ | ⟨a, b, c, d⟩ <;> rcases x' with ⟨a', b', c', d'⟩ | ⟨a', b', c', d'⟩
  · rw [b, b']
  · exact absurd (hg.1 a) a'
  · exact absurd (hg.2 a') a
  · rw [b, b']
theorem of_356 (B : Option Addr) (m c' : Nat) (l : List Int) (w : World) (hl : KI.C w B m l) (hm : m * 8 ≤ 140737488351232) :
    Calls Try.prog 15 #[.int .i64 356, .slice B m c'] w fun e w' => Below w.heap.size w w' ∧ ∃ v x h, e = .returned (.tuple #[v, .int .i64 x]) ∧ OfV w' w.heap.size l v x h := by
  refine (of_any B m c' 356 l w hl (by decide) (by decide) hm).mono ?_
  rintro e w' ⟨hb, ⟨hg, v, rfl, hr⟩ | ⟨hg, rfl⟩⟩
  · exact ⟨hb, _, _, _, rfl, .inl ⟨hg, rfl, rfl, hr⟩⟩
  · exact ⟨hb, _, _, _, rfl, .inr ⟨hg, rfl, rfl, rfl⟩⟩
theorem turn_ok (k : Int) (L : Nat) (hL : L ≤ 300) (hk : -(2 ^ 63) ≤ k ∧ k < 2 ^ 63) : 0 ≤ ((k.tmod ((L : Int) + 1)) + L + 1).tmod ((L : Int) + 1) ∧ ((k.tmod ((L : Int) + 1)) + L + 1).tmod ((L : Int) + 1) ≤ L := by
  have h1 : -(L : Int) ≤ k.tmod ((L : Int) + 1) := by
    have := Int.lt_tmod_of_pos k (show (0 : Int) < (L : Int) + 1 by omega)
    omega
  have h2 := Int.tmod_lt_of_pos k (show (0 : Int) < (L : Int) + 1 by omega)
  have h3 : 0 ≤ k.tmod ((L : Int) + 1) + L + 1 := by omega
  have h4 := Int.tmod_lt_of_pos (k.tmod ((L : Int) + 1) + L + 1) (show (0 : Int) < (L : Int) + 1 by omega)
  exact ⟨Int.tmod_nonneg _ h3, by omega⟩
set_option maxRecDepth 100000 in
set_option maxHeartbeats 1000000 in
theorem HistOrder_walk (A : Option Addr) (l : List Int) (c : Nat) (k : Int) (w : World) (hl : KI.C w A l.length l) (hc : l.length ≤ c) (hm : l.length * 8 ≤ 140737488351232) (hw : ∀ x ∈ l, (Lit.int .i64 x).wf = true) (hk : (Lit.int .i64 k).wf = true) :
    Calls Try.prog 4 #[.slice A l.length c, .int .i64 k] w fun e w' => e = .returned (.bool true) ∧ Below w.heap.size w w' := by
  have HL := Lib.hid hl
  clear hl
  by_cases h300 : 300 < l.length
  · go_enter Try.func4, Try.ntmps4
    go_wp2_with (go_at_call 13; refine (alive_any _).mono ?_; rintro e w' ⟨rfl, hb⟩)
    go_ret
    exact ⟨rfl, hb⟩
  · have hk2 : -(2 ^ 63) ≤ k ∧ k < 2 ^ 63 := by
      have := hk
      simp [Lit.wf, IntKind.min, IntKind.max, IntKind.signed, IntKind.bits] at this
      omega
    have htn := turn_ok k l.length (by omega) hk2
    go_enter Try.func4, Try.ntmps4
    go_wp2_with (fail)
    refine (alive_any _).mono ?_
    rintro e w1 ⟨rfl, hb1⟩
    have HB1 := Lib.hid hb1
    clear hb1
    go_wp2_with (fail)
    refine (of_356 _ _ _ l _ (Kd.C_below HL.out HB1.out) hm).mono ?_
    rintro e w2 ⟨hb2, vh, eh, h, rfl, hO2⟩
    have HB2 := Lib.hid (bel_trans HB1.out HB1.out.size hb2)
    have HO2 := Lib.hid hO2
    clear HB1 hb2 hO2
    go_wp2_with (fail)
    obtain ⟨N, hN, hNl⟩ : ∃ N : Nat, (wrap64 (wrap64 (k.tmod (↑l.length + 1) + ↑l.length) + 1)).tmod (↑l.length + 1) = (N : Int) ∧ N ≤ l.length := by
      have h1 : wrap64 (k.tmod ((l.length : Int) + 1) + l.length) = k.tmod ((l.length : Int) + 1) + l.length := by
        have a1 := Int.lt_tmod_of_pos k (show (0 : Int) < (l.length : Int) + 1 by omega)
        have a2 := Int.tmod_lt_of_pos k (show (0 : Int) < (l.length : Int) + 1 by omega)
        unfold wrap64
        omega
      rw [h1]
      have h2 : wrap64 (k.tmod ((l.length : Int) + 1) + l.length + 1) = k.tmod ((l.length : Int) + 1) + l.length + 1 := by
        have a1 := Int.lt_tmod_of_pos k (show (0 : Int) < (l.length : Int) + 1 by omega)
        have a2 := Int.tmod_lt_of_pos k (show (0 : Int) < (l.length : Int) + 1 by omega)
        unfold wrap64
        omega
      rw [h2]
      obtain ⟨N, hN⟩ := Int.eq_ofNat_of_zero_le htn.1
      exact ⟨N, hN, by have := htn.2; omega⟩
    rw [hN]
    clear hN htn
    obtain ⟨A2, hA2⟩ : ∃ A2, (if c = N then A else A.map (·.add (N * 1))) = A2 := ⟨_, rfl⟩
    have hcl := HL.out
    have cT := Kd.C_take hcl hNl
    have cD := Kd.C_drop hcl hNl hc
    rw [show KI.sz = 1 from rfl, hA2] at cD
    rw [List.length_take, Nat.min_eq_left hNl] at cT
    rw [List.length_drop] at cD
    have r1 : ∀ W : World, (Instr.slice 22 (.slice A l.length c) (some (.int .i64 N)) none none).run Try.prog W = .ok (.slice A2 (l.length - N) (c - N)) W := by
      intro W
      obtain ⟨i0, hi, hz⟩ := Option.map_eq_some_iff.1 infoInt
      simp only [Prod.mk.injEq] at hz
      have := cut_from (P := Try.prog) 22 3 .i64 Try.underlying22 hi 1 hz.2.1 A l.length c N (by omega) (by omega) W
      rw [Int.toNat_natCast, hA2] at this
      exact this
    have r2 : ∀ W : World, (Instr.slice 22 (.slice A l.length c) none (some (.int .i64 N)) none).run Try.prog W = .ok (.slice A N c) W := by
      intro W
      obtain ⟨i0, hi, hz⟩ := Option.map_eq_some_iff.1 infoInt
      have := cut_to (P := Try.prog) 22 3 .i64 Try.underlying22 hi A l.length c N (by omega) (by omega) hc W
      rw [Int.toNat_natCast] at this
      exact this
    have CT := Lib.hid cT
    have CD := Lib.hid cD
    clear hcl cT cD hA2
    go_region_law (first
      | (refine Kd.R_append_rows_step KI (Rr := KI.K w2.drew) (w0 := w2) w2.heap.size (by rfl) (.const (.slice none 0 0)) (.tmp 45) 22 3 (.int .i64 0) 8 rfl Try.underlying22 infoInt rfl (by decide) (by omega) (.slice none 0 0) [] (l.drop N) A2 (l.length - N) (c - N) (fun _ => True) (fun _ => True) rfl (by simp [Act.eval, Act.put]) (Kd.R_nil _ _ _ _ _) (Kd.C_drew (Kd.C_below CD.out HB2.out)) (fun _ _ h => h) (fun k _ => ⟨trivial, by simp [Value.ownBlock]⟩) (fun _ _ => trivial) (below_drew (Below.refl _ _)) (Nat.le_refl _) (by simp; omega) ?_; intro v3 w3 ho3 hb3 hg3 hat3; have HO3 := Lib.hid ho3; have HB3 := Lib.hid hb3; clear ho3 hb3 hg3 hat3)
      | (refine Kd.R_append_rows_step KI (Rr := KI.K w3) (w0 := w2) w2.heap.size (by rfl) (.tmp 46) (.tmp 49) 22 3 (.int .i64 0) 8 rfl Try.underlying22 infoInt rfl (by decide) (by omega) v3 (l.drop N) (l.take N) A N c (fun _ => True) (fun k => some k ≠ v3.ownBlock) (by simp [Act.eval, Act.put]) (by simp [Act.eval, Act.put]) (by simpa using HO3.out) (Kd.C_below (Kd.C_below CT.out HB2.out) HB3.out) (fun _ _ h => h) (fun k hk => ⟨trivial, hk⟩) (fun _ _ => trivial) HB3.out HB3.out.size (by simp; omega) ?_; intro v4 w4 ho4 hb4 hg4 hat4; have HO4 := Lib.hid ho4; have HB4 := Lib.hid hb4; clear ho4 hb4 hg4 hat4))
    obtain ⟨A4, c4, rfl⟩ := Kd.R_slice HO4.out
    have hc4 := (Kd.R_reads' HO4.out).2.2
    have hl4 : (l.drop N ++ l.take N).length = l.length := by simp; omega
    rw [hl4] at hc4 ⊢
    have HC4 := Lib.hid hc4
    have HH4 := Lib.hid (HO2.out.below HB4.out)
    have HB5 := Lib.hid (bel_trans HB2.out HB2.out.size HB4.out)
    clear hc4 hl4 HO3 HB3 HO4 HB4 HO2 HB2
    go_wp2_with (fail)
    refine (of_356 _ _ _ (l.drop N ++ l.take N) _ HC4.out hm).mono ?_
    rintro e w5 ⟨hb5, vg, eg, g, rfl, hO5⟩
    have HG5 := Lib.hid hO5
    have HH5 := Lib.hid (HH4.out.below hb5)
    have HB6 := Lib.hid (bel_trans HB5.out HB5.out.size hb5)
    clear hb5 hO5 HH4 HB5 HC4
    go_wp2_with (fail)
    refine (of_356 _ _ _ (l.take N) _ (Kd.C_below CT.out HB6.out) (by omega)).mono ?_
    rintro e w6 ⟨hb6, va, ea, a, rfl, hO6⟩
    have hga : good 356 l ↔ good 356 (l.drop N ++ l.take N) := by
      rw [good_append, ← List.take_append_drop N l, good_append]
      simp only [List.take_append_drop]
      exact And.comm
    have HA6 := Lib.hid hO6
    have HG6 := Lib.hid (HG5.out.below hb6)
    have HH6 := Lib.hid (HH5.out.below hb6)
    have HB7 := Lib.hid (bel_trans HB6.out HB6.out.size hb6)
    obtain rfl : eh = eg := HH6.out.err HG6.out hga
    have hgh : h = g := by
      rcases HH6.out with ⟨a1, _, a2, _⟩ | ⟨a1, _, a2, _⟩ <;> rcases HG6.out with ⟨b1, _, b2, _⟩ | ⟨b1, _, b2, _⟩
      · rw [a2, b2]
        have : l = l.take N ++ l.drop N := (List.take_append_drop N l).symm
        have hg2 := (good_append 356 (l.drop N) (l.take N)).1 b1
        rw [this, List.take_append_drop]
        conv => lhs; rw [this]
        exact counted_swap _ _ _ (by rw [List.length_replicate]; exact hg2.2) (by rw [List.length_replicate]; exact hg2.1)
      · exact absurd (hga.1 a1) b1
      · exact absurd (hga.2 b1) a1
      · rw [a2, b2]
    subst hgh
    obtain ⟨Ah, ch, rfl⟩ := Kd.R_slice HH6.out.row
    obtain ⟨Ag, cg, rfl⟩ := Kd.R_slice HG6.out.row
    have n1 : (eh != eh) = false := by simp
    clear hb6 hO6 HG5 HH5 HB6
    go_wp2_with (fail)
    refine (same_ints _ _ _ _ _ _ h h _ (Kd.R_reads' HH6.out.row).2.2 (Kd.R_reads' HG6.out.row).2.2).mono ?_
    rintro e w7 ⟨rfl, q, rfl⟩
    rw [decide_eq_true (rfl : h = h)]
    by_cases hgt : good 356 (l.take N)
    · obtain ⟨a1, rfl, ha, hra⟩ | ⟨a1, _⟩ := HA6.out
      · obtain ⟨Aa, ca, rfl⟩ := Kd.R_slice hra
        have hal : a.length = 356 := by rw [ha, counted_length, List.length_replicate]
        have hab : ∀ x ∈ a, -(2 ^ 62) ≤ x ∧ x ≤ 2 ^ 62 := by
          intro x hx
          obtain ⟨i, hi, rfl⟩ := List.getElem_of_mem hx
          have hb := counted_le (l.take N) (List.replicate 356 0) 0 (fun x hx => by rw [List.eq_of_mem_replicate hx]; decide) i (by rw [List.length_replicate]; omega)
          rw [← ha, List.getD_eq_getElem?_getD, List.getElem?_eq_getElem hi] at hb
          have := List.length_take_le N l
          simp only [Option.getD_some] at hb
          omega
        have hca := (Kd.R_reads' hra).2.2
        rw [hal] at hca ⊢
        have HCA := Lib.hid hca
        have HAB := Lib.hid hab
        have HAE := Lib.hid ha
        have HAL := Lib.hid hal
        clear hra hca hab ha hal HA6
        go_wp2_with (fail)
        refine (add_any _ _ _ _ _ _ a (l.drop N) _ (Kd.C_drewN HCA.out q) (Kd.C_drewN (Kd.C_below CD.out HB7.out) q) (by have := HAL.out; omega) HAB.out (by omega)).mono ?_
        rintro e w8 ⟨hb8, hcase⟩
        have HH8 := Lib.hid ((HH6.out.below (below_drewN (Below.refl _ _) q)).below hb8)
        have HB8 := Lib.hid (bel_trans (below_drewN HB7.out q) HB7.out.size hb8)
        rw [HAL.out] at hcase
        have hsp : good 356 l ↔ good 356 (l.drop N) := by
          rw [← List.take_append_drop N l, good_append, List.take_append_drop]
          simp [hgt]
        obtain ⟨hgd, v, rfl, hr⟩ | ⟨hgd, rfl⟩ := hcase
        · obtain ⟨a2, rfl, a3, _⟩ | ⟨a2, _⟩ := HH8.out
          · have hbh : counted a (l.drop N) = h := by rw [a3, HAE.out, ← counted_append, List.take_append_drop]
            rw [hbh] at hr
            obtain ⟨Ab, cb, rfl⟩ := Kd.R_slice hr
            have HR8 := Lib.hid (Kd.R_reads' hr).2.2
            clear hr hbh a3 HCA HAB HAE HAL hb8
            go_wp2_with (fail)
            refine (same_ints _ _ _ _ _ _ h h _ HR8.out (Kd.R_reads' HH8.out.row).2.2).mono ?_
            rintro e w9 ⟨rfl, q2, rfl⟩
            rw [decide_eq_true (rfl : h = h)]
            go_wp2_with (fail)
            go_ret
            exact ⟨rfl, below_drewN HB8.out _⟩
          · exact absurd (hsp.2 hgd) a2
        · obtain ⟨a2, _⟩ | ⟨a2, rfl, rfl, hz⟩ := HH8.out
          · exact absurd (hsp.1 a2) hgd
          · injection hz with hz1 hz2 hz3
            subst hz1 hz3
            clear HCA HAB HAE HAL hb8
            go_wp2_with (fail)
            refine (same_ints none none 0 0 0 0 [] [] _ (Kd.C_nil _ _) (Kd.C_nil _ _)).mono ?_
            rintro e w9 ⟨rfl, q2, rfl⟩
            rw [decide_eq_true (rfl : ([] : List Int) = [])]
            go_wp2_with (fail)
            go_ret
            exact ⟨rfl, below_drewN HB8.out _⟩
      · exact absurd hgt a1
    · obtain ⟨a1, _⟩ | ⟨a1, rfl, _, rfl⟩ := HA6.out
      · exact absurd a1 hgt
      · have hgl : ¬ good 356 l := fun hg => a1 (fun t ht => hg t (List.mem_of_mem_take ht))
        obtain ⟨a2, _⟩ | ⟨_, rfl, _, hz⟩ := HH6.out
        · exact absurd a2 hgl
        · clear hz
          go_wp2_with (fail)
          go_ret
          exact ⟨rfl, below_drewN HB7.out q⟩
end Go.Proofs.Ythncomijfpbeeaa.Hist
