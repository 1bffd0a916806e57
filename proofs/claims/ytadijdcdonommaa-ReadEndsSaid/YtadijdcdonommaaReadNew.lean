/- Chapter 21: a table is made: the walk of New. -/
import Derived.Test.YtadijdcdonommaaRead
namespace Go.Proofs.Ytadijdcdonommaa.Read
set_option linter.unusedVariables false
set_option linter.unusedSimpArgs false
open Go.RowKit Go.Proofs.YtadijdcdonommaaW.PrintWords Go.Proofs.YtadijdcdonommaaW.PrintMore Go.Proofs.Ytadijdcdonommaa.L Go.Proofs.Ytadijdcdonommaa.Ints Go.Proofs.Ytadijdcdonommaa.Code

theorem pos_len {l : List Int} (hr : right l = 0) : 0 < l.length := by
  rcases l with _ | ⟨x, l⟩
  · exact absurd hr (by decide +kernel)
  · simp
set_option maxRecDepth 100000 in
set_option maxHeartbeats 4000000 in
theorem new_ok (A : Option Addr) (c : Nat) (l : List Int) (w : World) (hh : KI.C w A l.length l) (hl : l.length ≤ 400) (hr : right l = 0) :
    Calls Try.prog 10 #[.slice A l.length c] w fun e w' => ∃ b, e = .returned (.tuple #[.pointer (some ⟨b, 0, none⟩), .int .i64 0]) ∧ TOK w' b l ∧ Below w.heap.size w w' := by
  have H := Lib.hid hh
  have HR := Lib.hid hr
  have HRG := Lib.hid (right_range hr)
  have HKR := Lib.hid (right_kraft hr)
  have hne := pos_len hr
  clear hh hr
  go_enter Try.func10, Try.ntmps10
  go_wp2_with (fail)
  refine (of_ok _ _ l _ H.out (by omega) HR.out).mono ?_
  rintro e w1 ⟨v1, rfl, hr1, hb1⟩
  obtain ⟨A1, c1, rfl⟩ := Kd.R_slice hr1
  rw [codes_length] at hr1 ⊢
  have HC1 := Lib.hid (show KI.C w1 A1 l.length (codes l) by have := (Kd.R_reads' hr1).2.2; rwa [codes_length] at this)
  have HB1 := Lib.hid hb1
  clear hr1 hb1
  go_wp2_with (fail)
  refine (max_any _ _ _ l _ (Kd.C_below H.out HB1.out) (fun x hx => (HRG.out x hx).1) hne).mono ?_
  rintro e w2 ⟨rfl, rfl⟩
  go_wp2_with (fail)
  refine (used_any _ _ _ l _ (Kd.C_below H.out HB1.out)).mono ?_
  rintro e w3 ⟨rfl, rfl⟩
  go_wp2_with (fail)
  have HT0 := Lib.hid (tb_new w3 (most l : Nat) (used l : Nat))
  have HL3 := Lib.hid (Kd.C_below H.out HB1.out)
  clear H
  go_loopg [25] l.length (fun j i wr => ∃ k : Nat, k + j = l.length ∧ i = .int .i64 k ∧ Hid (∃ v f, TI wr w3.heap.size w3.heap.size l k v f ∧ FI l k f ∧ Below w3.heap.size w3 wr))
  case atStart =>
    refine ⟨0, by omega, rfl, _, _, ⟨HT0.out, fun n hn => Kd.R_nil _ _ _ _ _, fun n m g _ _ _ hg => ?_⟩, ⟨fun n hn hc => ?_, fun n => ⟨Int.le_refl 0, (by decide : (0 : Int) ≤ 32768)⟩⟩, (Below.refl _ w3).alloc (Nat.le_refl _) _⟩
    · simp [Value.ownBlock] at hg
    · simp [cnt_nil] at hc
  case round =>
    obtain ⟨k, hk, rfl, HI⟩ := hrel
    clear HT0
    obtain ⟨v, f, hti, hfi, hb⟩ := HI.out
    by_cases hlt : k < l.length
    · obtain ⟨ad, rfl, x0⟩ := ints_at (Kd.C_below HL3.out hb) k hlt
      obtain ⟨bd, rfl, y0⟩ := ints_at (Kd.C_below HC1.out hb) k hlt
      rw [codes_getD l k hlt] at y0
      obtain ⟨q1, q2⟩ := HRG.out (l.getD k 0) (by rw [List.getD_eq_getElem?_getD, List.getElem?_eq_getElem hlt]; exact List.getElem_mem hlt)
      obtain ⟨n, hn⟩ := Int.eq_ofNat_of_zero_le q1
      rw [hn] at x0 q2
      have hn15 : n ≤ 15 := by omega
      obtain ⟨C, hC⟩ : ∃ C, codeAt l k = C := ⟨_, rfl⟩
      rw [hC] at y0
      obtain ⟨An, cn, hvn⟩ := Kd.R_slice (hti.2.1 n (by omega))
      have hsl := syms_length l n k (by omega)
      rw [hsl] at hvn
      obtain ⟨S, hS⟩ : ∃ S, cnt (l.take k) n = S := ⟨_, rfl⟩
      rw [hS] at hvn hsl
      have r0 := tb_row hti.1 n (by omega)
      have r1 := tb_frozen hti.1 n
      have r2 := tb_frozen hti.1 (16 + n)
      have r3 := tb_first hti.1 n (by omega)
      rw [hvn] at r0
      have i0 : (0 : Int) ≤ k := by omega
      have i1 : (k : Int) < (l.length : Int) := by omega
      have i2 : ((k : Int)).toNat = k := by omega
      have j0 : (0 : Int) ≤ n := by omega
      have j1 : (n : Int) < 16 := by omega
      have j2 : ((n : Int)).toNat = n := by omega
      have HTI := Lib.hid hti
      have HFI := Lib.hid hfi
      have HB := Lib.hid hb
      have HN := Lib.hid hn
      have HCC := Lib.hid hC
      have HS := Lib.hid hS
      have HV := Lib.hid hvn
      have HSL := Lib.hid hsl
      have HK := Lib.hid hk
      clear hti hfi hb hn hC hS hvn hsl hk HI q1 q2
      have hcase : (n = 0 ∨ (0 < n ∧ 0 < S)) ∨ (0 < n ∧ S = 0) := by omega
      have hS400 : S ≤ 400 := by
        have h1 := cnt_le_length (l.take k) n
        have h2 := List.length_take_le k l
        rw [HS.out] at h1
        omega
      have HL1 := Lib.hid (show (syms l n k ++ [(k : Int)]).length = S + 1 by rw [List.length_append, HSL.out]; rfl)
      rcases hcase with hcase | ⟨h1, h2⟩
      · have HF1 := Lib.hid (fi_keep HFI.out hlt (by
          rcases hcase with h | ⟨h, h'⟩
          · exact .inl (by rw [HN.out]; omega)
          · exact .inr ⟨n, HN.out, by rw [HS.out]; exact h'⟩))
        clear HFI
        rcases hcase with h | ⟨h, h'⟩
        case' inl =>
          have t1 : (n : Int) ≤ 0 := by omega
        case' inr =>
          have t1 : (0 : Int) < (n : Int) := by omega
          have t2 : ((S : Int) == 0) = false := beq_eq_false_iff_ne.2 (by omega)
          clear h'
        all_goals
          clear h r2 r3
          have r4 : ∀ o : Obj, (wr.alloc o).cell? ⟨w3.heap.size, n, none⟩ = some (.slice An S cn) := fun o => by rw [World.cell?_alloc_lt _ _ _ (tb_lt HTI.out.1)]; exact r0
          go_wp2_with (fail)
          go_region_law (first
            | (refine Kd.R_append_step KI (w0 := w3) w3.heap.size (by rfl) (.tmp 58) (.tmp 60) 22 3 (.int .i64 0) 8 (by rfl) Try.underlying22 infoInt rfl (by decide) (by omega) (.slice An S cn) (syms l n k) (k : Int) [.int .i64 (k : Int)] (fun _ => True) (fun _ => False) (by simp [Act.eval, Act.put]) (by simp [Act.eval, Act.put]) rfl (fun _ hk => hk.elim) (fun _ _ => trivial) (by have := (ti_heap (w' := wr.drew) HTI.out rfl).2.1 n (by omega); rw [HV.out] at this; exact this) (show Below w3.heap.size w3 wr.drew from HB.out.drew) HB.out.size (by rw [HSL.out]; omega) ?_; intro v3 wa ho3 hb3 hg3 hat3; obtain ⟨A3, c3, hv3⟩ := Kd.R_slice ho3; rw [HL1.out] at hv3; subst hv3; have HG3 := Lib.hid hg3; have HTB3 := Lib.hid (tb_heap HTI.out.1 (hg3.block w3.heap.size (tb_lt HTI.out.1) (fun e => ti_blk HTI.out n (by omega) (by rw [HV.out]; exact e.symm)))); have HO3 := Lib.hid ho3; have HAT3 := Lib.hid hat3; have HB3 := Lib.hid hb3; have f0 := tb_row HTB3.out n (by omega); have f1 := tb_frozen HTB3.out n; clear ho3 hb3 hg3 hat3))
          all_goals
            have HTI4 := Lib.hid (ti_put (ti_heap (w' := wr.drew) HTI.out rfl) HV.out (by omega) HN.out HO3.out HG3.out HAT3.out)
            have HB4 := Lib.hid (HB3.out.setCell (p := ⟨w3.heap.size, n, none⟩) (Nat.le_refl w3.heap.size) (.slice A3 (S + 1) c3))
            clear HTB3 HO3 HAT3 HG3 HB3 f0 f1
            go_wp2_with (fail)
            go_roundg (l.length - (k + 1))
            case measure => have := HK.out; omega
            case rel => exact ⟨k + 1, by have := HK.out; omega, by go_num, _, _, ti_heap HTI4.out rfl, HF1.out, HB4.out⟩
      · have HF1 := Lib.hid (fi_put HFI.out HKR.out hlt HN.out h1 hn15 (by rw [HS.out]; exact h2))
        rw [HCC.out] at HF1
        have t1 : (0 : Int) < (n : Int) := by omega
        have t2 : ((S : Int) == 0) = true := beq_iff_eq.2 (by omega)
        have HTI2 := Lib.hid (show TI ((wr.setCell ⟨w3.heap.size, 16 + n, none⟩ (.int .i64 (C : Int))).drew) w3.heap.size w3.heap.size l k v _ from ti_heap (ti_first HTI.out n (by omega) (C : Int)) rfl)
        have HB2 := Lib.hid (show Below w3.heap.size w3 ((wr.setCell ⟨w3.heap.size, 16 + n, none⟩ (.int .i64 (C : Int))).drew) from (HB.out.setCell (p := ⟨w3.heap.size, 16 + n, none⟩) (Nat.le_refl _) _).drew)
        clear HFI h1 h2
        go_wp2_with (fail)
        go_region
        generalize (wr.setCell ⟨w3.heap.size, 16 + n, none⟩ (.int .i64 (C : Int))).drew = W at *
        clear r0 r1 r2 r3 x0 y0
        have r0 := tb_row HTI2.out.1 n (by omega)
        have r1 := tb_frozen HTI2.out.1 n
        rw [HV.out] at r0
        have r4 : ∀ o : Obj, (W.alloc o).cell? ⟨w3.heap.size, n, none⟩ = some (.slice An S cn) := fun o => by rw [World.cell?_alloc_lt _ _ _ (tb_lt HTI2.out.1)]; exact r0
        go_wp2_with (fail)
        go_region_law (first
            | (refine Kd.R_append_step KI (w0 := w3) w3.heap.size (by rfl) (.tmp 58) (.tmp 60) 22 3 (.int .i64 0) 8 (by rfl) Try.underlying22 infoInt rfl (by decide) (by omega) (.slice An S cn) (syms l n k) (k : Int) [.int .i64 (k : Int)] (fun _ => True) (fun _ => False) (by simp [Act.eval, Act.put]) (by simp [Act.eval, Act.put]) rfl (fun _ hk => hk.elim) (fun _ _ => trivial) (by have := (ti_heap (w' := W.drew) HTI2.out rfl).2.1 n (by omega); rw [HV.out] at this; exact this) (show Below w3.heap.size w3 W.drew from HB2.out.drew) HB2.out.size (by rw [HSL.out]; omega) ?_; intro v3 wa ho3 hb3 hg3 hat3; obtain ⟨A3, c3, hv3⟩ := Kd.R_slice ho3; rw [HL1.out] at hv3; subst hv3; have HG3 := Lib.hid hg3; have HTB3 := Lib.hid (tb_heap HTI2.out.1 (hg3.block w3.heap.size (tb_lt HTI2.out.1) (fun e => ti_blk HTI2.out n (by omega) (by rw [HV.out]; exact e.symm)))); have HO3 := Lib.hid ho3; have HAT3 := Lib.hid hat3; have HB3 := Lib.hid hb3; have f0 := tb_row HTB3.out n (by omega); have f1 := tb_frozen HTB3.out n; clear ho3 hb3 hg3 hat3))
        all_goals
          have HTI4 := Lib.hid (ti_put (ti_heap (w' := W.drew) HTI2.out rfl) HV.out (by omega) HN.out HO3.out HG3.out HAT3.out)
          have HB4 := Lib.hid (HB3.out.setCell (p := ⟨w3.heap.size, n, none⟩) (Nat.le_refl w3.heap.size) (.slice A3 (S + 1) c3))
          clear HTB3 HO3 HAT3 HG3 HB3 f0 f1
          go_wp2_with (fail)
          go_roundg (l.length - (k + 1))
          case measure => have := HK.out; omega
          case rel => exact ⟨k + 1, by have := HK.out; omega, by go_num, _, _, ti_heap HTI4.out rfl, HF1.out, HB4.out⟩
    · obtain rfl : k = l.length := by omega
      have HTOK := Lib.hid (tok_of hti hfi)
      have HBE := Lib.hid (Ints.bel_trans HB1.out HB1.out.size hb)
      clear hti hfi hb HI HB1
      go_wp2_with (fail)
      go_ret2
      exact ⟨_, rfl, HTOK.out, HBE.out⟩
set_option maxRecDepth 100000 in
theorem new_no (A : Option Addr) (c : Nat) (l : List Int) (w : World) (hh : KI.C w A l.length l) (hl : l.length ≤ 400) (hr : right l ≠ 0) :
    Calls Try.prog 10 #[.slice A l.length c] w fun e w' => e = .returned (.tuple #[.pointer none, .int .i64 (right l)]) ∧ w' = w := by
  have H := Lib.hid hh
  have HR := Lib.hid hr
  have hne : (right l != 0) = true := bne_iff_ne.2 hr
  obtain ⟨r, hR⟩ : ∃ r, right l = r := ⟨_, rfl⟩
  have HRR := Lib.hid hR
  rw [hR] at hne ⊢
  clear hh hr hR
  go_enter Try.func10, Try.ntmps10
  go_wp2_with (fail)
  refine (of_no _ _ l _ H.out (by omega) HR.out).mono ?_
  rintro e w1 ⟨rfl, rfl⟩
  rw [HRR.out]
  go_wp2_with (fail)
  go_ret2
  exact ⟨rfl, rfl⟩
end Go.Proofs.Ytadijdcdonommaa.Read
