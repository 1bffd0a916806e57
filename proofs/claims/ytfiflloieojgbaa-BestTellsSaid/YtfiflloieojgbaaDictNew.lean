/- Dictionaries: how one is made, and read. -/
import Derived.Test.YtfiflloieojgbaaDict
namespace Go.Proofs.Ytfiflloieojgbaa.Dict
set_option linter.unusedVariables false
set_option linter.unusedSimpArgs false
open Go.RowKit Go.Proofs.YtfiflloieojgbaaW.PrintWords Go.Proofs.YtfiflloieojgbaaW.PrintMore Go.Proofs.Ytfiflloieojgbaa.L Go.Proofs.Ytfiflloieojgbaa.Texts

theorem alloc_cell {w : World} {b t : Nat} {x : Value} (h : w.heap[b]? = some (.cells #[x] t (0, 0))) (o : Obj) : (w.alloc o).cell? ⟨b, 0, none⟩ = some x :=
  (one_cell (L.heap_alloc_old h o)).1
/-- A dictionary of these phrases lies in block b. -/
def DC (w : World) (b : Nat) (l : List ByteArray) : Prop := ∃ A c, w.heap[b]? = some (.cells #[.slice A l.length c] 104 (0, 0)) ∧ KS.C w A l.length l
theorem DC.below {w w1 : World} {b : Nat} {l : List ByteArray} (h : DC w b l) (hb : Below w.heap.size w w1) : DC w1 b l := by
  obtain ⟨A, c, h1, h2⟩ := h
  exact ⟨A, c, (hb.block b (blk_lt h1)).trans h1, Kd.C_below h2 hb⟩

set_option maxRecDepth 100000 in
set_option maxHeartbeats 2000000 in
theorem new_any (A : Option Addr) (n c : Nat) (l : List ByteArray) (w : World) (h : KS.C w A n l) (hok : okTexts l) :
    Calls Try.prog 35 #[.slice A n c] w fun e w' => Below w.heap.size w w' ∧ ∃ b, e = .returned (.tuple #[.pointer (some ⟨b, 0, none⟩), .nilIface]) ∧ DC w' b l := by
  have H := Lib.hid h
  have hmx := Kd.C_max h
  have hnl := ks_len h
  obtain ⟨h100, hat⟩ := hok
  have HAT := Lib.hid hat
  clear h hat
  subst hnl
  go_enter Try.func35, Try.ntmps35
  go_wp2_with (fail)
  have hblk : (w.alloc (.cells #[.slice none 0 0] 104 (0, 0))).heap[w.heap.size]? = some (.cells #[.slice none 0 0] 104 (0, 0)) := heap_alloc_self _ _
  have hB0 := (Below.refl w.heap.size w).alloc (Nat.le_refl _) (.cells #[.slice none 0 0] 104 (0, 0))
  have HBLK := Lib.hid hblk
  have HB0 := Lib.hid hB0
  clear hblk hB0
  go_loopg [5, 17] l.length (fun j s i wr => ∃ k : Nat, k + j = l.length ∧ i = .int .i64 k ∧ s = .int .i64 (sizes (l.take k) : Nat) ∧ Hid (sizes (l.take k) ≤ 1000 ∧ ∃ v, wr.heap[w.heap.size]? = some (.cells #[v] 104 (0, 0)) ∧ KS.R 9 wr w.heap.size (fun _ => True) v (l.take k) ∧ Below w.heap.size w wr))
  case atStart => exact ⟨0, by omega, rfl, rfl, by simp [sizes], _, HBLK.out, Kd.R_nil _ _ _ _ _, HB0.out⟩
  case round =>
    obtain ⟨k, hk, rfl, rfl, HI⟩ := hrel
    obtain ⟨h1000, v, hblk, hr, hb⟩ := HI.out
    by_cases hlt : k < l.length
    · obtain ⟨ad, rfl, x0⟩ := strs_at (Kd.C_below H.out hb) k hlt
      obtain ⟨a1, a2, a3, a4⟩ := HAT.out k hlt
      have hn := sizes_succ l k hlt
      have htk := take_succ_getD l k hlt
      obtain ⟨x, hx⟩ : ∃ x, l.getD k no = x := ⟨_, rfl⟩
      rw [hx] at x0 hn a1 a2 a4 htk
      have hlen : (l.take k).length = k := by rw [List.length_take]; omega
      have hhas : has x (l.take k) = false := by
        have h1 : ¬ has x (l.take k) = true := by
          rw [has_iff]
          intro hm
          have h2 := (idx_mem x (l.take k)).2 hm
          have h3 : ∀ (a b : List ByteArray), idx x a < a.length → idx x (a ++ b) = idx x a := by
            intro a b
            induction a with
            | nil => intro h; simp at h
            | cons y a ih =>
              intro h
              rw [List.cons_append]
              unfold idx at h ⊢
              by_cases he : x = y
              · rw [if_pos he, if_pos he]
              · rw [if_neg he] at h ⊢
                rw [if_neg he, ih (by rw [List.length_cons] at h; omega)]
          have h4 := h3 (l.take k) (l.drop k) h2
          rw [List.take_append_drop] at h4
          omega
        simpa using h1
      obtain ⟨S, hS⟩ : ∃ S, sizes (l.take k) = S := ⟨_, rfl⟩
      rw [hS] at hn h1000 ⊢
      have hsn : ((sizes (l.take (k + 1)) : Nat) : Int) = (S : Int) + (x.size : Int) := by rw [hn]; omega
      have c1i : (x.size : Int) ≤ 40 := by omega
      have c2i : (S : Int) + (x.size : Int) ≤ 1000 := by omega
      have hemp : x.toList.isEmpty = false := isEmpty_no a1
      have i0 : (0 : Int) ≤ k := by omega
      have i1 : (k : Int) < (l.length : Int) := by omega
      have i2 : ((k : Int)).toNat = k := by omega
      have HSN := Lib.hid hsn
      have H1000 := Lib.hid a3
      have HTK := Lib.hid htk
      have HHAS := Lib.hid hhas
      have HB := Lib.hid hb
      obtain ⟨A1, c1, rfl⟩ := Kd.R_slice hr
      obtain ⟨_, _, hrc⟩ := Kd.R_reads' hr
      rw [hlen] at hr hblk hrc
      have HBK := Lib.hid hblk
      have HR := Lib.hid hr
      have HRC := Lib.hid hrc
      obtain ⟨d0, d1⟩ := one_cell hblk
      have HL1 := Lib.hid (show (l.take k ++ [x]).length = k + 1 by rw [List.length_append, hlen]; rfl)
      clear hx hS hn hsn a1 a2 a3 a4 htk hhas hb hblk hr hrc HI h1000 hlen
      go_wp2_with (go_at_call 69; refine (contains_texts _ _ _ _ _ _ HRC.out).mono ?_; rintro e w1 ⟨rfl, q1, hw1⟩; rw [HHAS.out]; subst hw1)
      go_region_law (first
        | (go_simp; go_at_call 70; refine (clone_str _ _ (by omega)).mono ?_; rintro e w2 ⟨rfl, hb2⟩; have HBK2 := Lib.hid ((hb2.block w.heap.size (blk_lt HBK.out)).trans HBK.out); have HR2 := Lib.hid (Kd.R_below (Kd.R_drewN HR.out _) hb2); have HB2 := Lib.hid (bel_trans (below_drewN HB.out _) HB.out.size hb2); obtain ⟨e0, e1⟩ := one_cell HBK2.out; have e2 := fun o : Obj => alloc_cell HBK2.out o; clear hb2)
        | (refine Kd.R_append_step KS (w0 := w) w.heap.size (by rfl) (.tmp 53) (.tmp 56) 22 9 (.string ⟨#[]⟩) 16 rfl Try.underlying22 infoStr rfl (by decide) (by omega) (.slice A1 k c1) (l.take k) x [.string x] (fun _ => True) (fun _ => False) (by simp [Act.eval, Act.put]) (by simp [Act.eval, Act.put]) rfl (fun _ hk => hk.elim) (fun _ _ => trivial) HR2.out HB2.out HB2.out.size (by simp; omega) ?_; intro v3 w3 ho3 hb3 hg3 hat3; obtain ⟨A3, c3, hv3⟩ := Kd.R_slice ho3; rw [HL1.out] at hv3; subst hv3; have HBK3 := Lib.hid ((hg3.block w.heap.size (blk_lt HBK2.out) (Kd.R_ne HR2.out HBK2.out (by decide))).trans HBK2.out); have HR3 := Lib.hid ho3; have HB3 := Lib.hid hb3; obtain ⟨f0, f1⟩ := one_cell HBK3.out; clear ho3 hb3 hg3 hat3))
      all_goals
        have HBK4 := Lib.hid (show (w3.setCell ⟨w.heap.size, 0, none⟩ (.slice A3 (k + 1) c3)).heap[w.heap.size]? = some (.cells #[.slice A3 (k + 1) c3] 104 (0, 0)) by rw [heap_setCell_same _ _ 0 _ _ _ HBK3.out]; rfl)
        have HR4 := Lib.hid (Kd.R_set HR3.out HBK3.out (by decide) 0 (.slice A3 (k + 1) c3))
        have HB4 := Lib.hid (HB3.out.setCell (p := ⟨w.heap.size, 0, none⟩) (Nat.le_refl w.heap.size) (.slice A3 (k + 1) c3))
        clear HBK3 HR3 HB3 f0 f1
        go_wp2_with (fail)
        go_roundg (l.length - (k + 1))
        case measure => omega
        case rel => exact ⟨k + 1, by omega, by go_num, by rw [HSN.out], H1000.out, _, HBK4.out, by rw [HTK.out]; exact HR4.out, HB4.out⟩
    · obtain rfl : k = l.length := by omega
      rw [List.take_length] at hr
      obtain ⟨A1, c1, rfl⟩ := Kd.R_slice hr
      obtain ⟨_, _, hrc⟩ := Kd.R_reads' hr
      have HD := Lib.hid (show DC wr w.heap.size l from ⟨_, _, hblk, hrc⟩)
      have HB := Lib.hid hb
      clear hr hrc hblk hb HI h1000
      generalize sizes (l.take l.length) = S
      go_wp2_with (fail)
      go_ret2
      exact ⟨HB.out, _, rfl, HD.out⟩
end Go.Proofs.Ytfiflloieojgbaa.Dict
