/- The statements' book of lists: kinds of which none is kept; Apart. -/
import Derived.Test.YtnjenkjoeilhhaaBookGrow
namespace Go.Proofs.Ytnjenkjoeilhhaa.Book
set_option linter.unusedVariables false
set_option linter.unusedSimpArgs false
open Go.RowKit Go.Proofs.YtnjenkjoeilhhaaW.PrintWords Go.Proofs.YtnjenkjoeilhhaaW.PrintMore Go.Proofs.Ytnjenkjoeilhhaa.L Go.Proofs.Ytnjenkjoeilhhaa.Ints

abbrev Bk (w : World) (b : Nat) (V U : Value) : Prop := w.heap[b]? = some (.cells (bcells V U (.slice none 0 0) (.slice none 0 0)) 36 (0, 0))
theorem stillTexts (b : Nat) (V U : Value) (w : World) (h : Bk w b V U) :
    Calls Try.prog 34 #[.pointer (some ⟨b, 0, none⟩)] w fun e w' => e = .returned (.bool true) ∧ w' = w := by
  obtain ⟨d2, d3, d4, d5, d6, d7, d8, d9⟩ := ten_rest h
  clear h
  go_enter Try.func34, Try.ntmps34
  go_wp2_with (fail)
  go_loopg [3] 0 (fun j i wr => i = .int .i64 0 ∧ wr = w)
  case atStart => exact ⟨rfl, rfl⟩
  case round =>
    obtain ⟨rfl, rfl⟩ := hrel
    go_wp2_with (fail)
    go_ret
    exact ⟨rfl, rfl⟩
theorem putTexts (b : Nat) (V U : Value) (w : World) (h : Bk w b V U) :
    Calls Try.prog 39 #[.pointer (some ⟨b, 0, none⟩)] w fun e w' => e = .returned (.tuple #[]) ∧ w' = w := by
  obtain ⟨d2, d3, d4, d5, d6, d7, d8, d9⟩ := ten_rest h
  clear h
  go_enter Try.func39, Try.ntmps39
  go_wp2_with (fail)
  go_loopg [2] 0 (fun j i wr => i = .int .i64 0 ∧ wr = w)
  case atStart => exact ⟨rfl, rfl⟩
  case round =>
    obtain ⟨rfl, rfl⟩ := hrel
    go_wp2_with (fail)
    go_end0
    exact ⟨rfl, rfl⟩
theorem growTexts (b : Nat) (V U : Value) (w : World) (h : Bk w b V U) :
    Calls Try.prog 44 #[.pointer (some ⟨b, 0, none⟩)] w fun e w' => e = .returned (.slice none 0 0) ∧ w' = w := by
  obtain ⟨d2, d3, d4, d5, d6, d7, d8, d9⟩ := ten_rest h
  clear h
  go_enter Try.func44, Try.ntmps44
  go_wp2_with (fail)
  go_loopg [3, 4] 0 (fun j o i wr => o = .slice none 0 0 ∧ i = .int .i64 0 ∧ wr = w)
  case atStart => exact ⟨rfl, rfl, rfl⟩
  case round =>
    obtain ⟨rfl, rfl, rfl⟩ := hrel
    go_wp2_with (fail)
    go_ret
    exact ⟨rfl, rfl⟩
theorem markedTexts (w : World) :
    Calls Try.prog 49 #[.slice none 0 0] w fun e w' => e = .returned (.bool true) ∧ w' = w := by
  go_enter Try.func49, Try.ntmps49
  go_wp2_with (fail)
  go_loopg [3] 0 (fun j i wr => i = .int .i64 0 ∧ wr = w)
  case atStart => exact ⟨rfl, rfl⟩
  case round =>
    obtain ⟨rfl, rfl⟩ := hrel
    go_wp2_with (fail)
    go_ret
    exact ⟨rfl, rfl⟩
theorem stillHits (b : Nat) (V U : Value) (w : World) (h : Bk w b V U) :
    Calls Try.prog 35 #[.pointer (some ⟨b, 0, none⟩)] w fun e w' => e = .returned (.bool true) ∧ w' = w := by
  obtain ⟨d2, d3, d4, d5, d6, d7, d8, d9⟩ := ten_rest h
  clear h
  go_enter Try.func35, Try.ntmps35
  go_wp2_with (fail)
  go_loopg [3] 0 (fun j i wr => i = .int .i64 0 ∧ wr = w)
  case atStart => exact ⟨rfl, rfl⟩
  case round =>
    obtain ⟨rfl, rfl⟩ := hrel
    go_wp2_with (fail)
    go_ret
    exact ⟨rfl, rfl⟩
theorem putHits (b : Nat) (V U : Value) (w : World) (h : Bk w b V U) :
    Calls Try.prog 40 #[.pointer (some ⟨b, 0, none⟩)] w fun e w' => e = .returned (.tuple #[]) ∧ w' = w := by
  obtain ⟨d2, d3, d4, d5, d6, d7, d8, d9⟩ := ten_rest h
  clear h
  go_enter Try.func40, Try.ntmps40
  go_wp2_with (fail)
  go_loopg [2] 0 (fun j i wr => i = .int .i64 0 ∧ wr = w)
  case atStart => exact ⟨rfl, rfl⟩
  case round =>
    obtain ⟨rfl, rfl⟩ := hrel
    go_wp2_with (fail)
    go_end0
    exact ⟨rfl, rfl⟩
theorem growHits (b : Nat) (V U : Value) (w : World) (h : Bk w b V U) :
    Calls Try.prog 45 #[.pointer (some ⟨b, 0, none⟩)] w fun e w' => e = .returned (.slice none 0 0) ∧ w' = w := by
  obtain ⟨d2, d3, d4, d5, d6, d7, d8, d9⟩ := ten_rest h
  clear h
  go_enter Try.func45, Try.ntmps45
  go_wp2_with (fail)
  go_loopg [3, 4] 0 (fun j o i wr => o = .slice none 0 0 ∧ i = .int .i64 0 ∧ wr = w)
  case atStart => exact ⟨rfl, rfl, rfl⟩
  case round =>
    obtain ⟨rfl, rfl, rfl⟩ := hrel
    go_wp2_with (fail)
    go_ret
    exact ⟨rfl, rfl⟩
theorem markedHits (w : World) :
    Calls Try.prog 50 #[.slice none 0 0] w fun e w' => e = .returned (.bool true) ∧ w' = w := by
  go_enter Try.func50, Try.ntmps50
  go_wp2_with (fail)
  go_loopg [3] 0 (fun j i wr => i = .int .i64 0 ∧ wr = w)
  case atStart => exact ⟨rfl, rfl⟩
  case round =>
    obtain ⟨rfl, rfl⟩ := hrel
    go_wp2_with (fail)
    go_ret
    exact ⟨rfl, rfl⟩
theorem stillCosts (b : Nat) (V U : Value) (w : World) (h : Bk w b V U) :
    Calls Try.prog 36 #[.pointer (some ⟨b, 0, none⟩)] w fun e w' => e = .returned (.bool true) ∧ w' = w := by
  obtain ⟨d2, d3, d4, d5, d6, d7, d8, d9⟩ := ten_rest h
  clear h
  go_enter Try.func36, Try.ntmps36
  go_wp2_with (fail)
  go_loopg [3] 0 (fun j i wr => i = .int .i64 0 ∧ wr = w)
  case atStart => exact ⟨rfl, rfl⟩
  case round =>
    obtain ⟨rfl, rfl⟩ := hrel
    go_wp2_with (fail)
    go_ret
    exact ⟨rfl, rfl⟩
theorem putCosts (b : Nat) (V U : Value) (w : World) (h : Bk w b V U) :
    Calls Try.prog 41 #[.pointer (some ⟨b, 0, none⟩)] w fun e w' => e = .returned (.tuple #[]) ∧ w' = w := by
  obtain ⟨d2, d3, d4, d5, d6, d7, d8, d9⟩ := ten_rest h
  clear h
  go_enter Try.func41, Try.ntmps41
  go_wp2_with (fail)
  go_loopg [2] 0 (fun j i wr => i = .int .i64 0 ∧ wr = w)
  case atStart => exact ⟨rfl, rfl⟩
  case round =>
    obtain ⟨rfl, rfl⟩ := hrel
    go_wp2_with (fail)
    go_end0
    exact ⟨rfl, rfl⟩
theorem growCosts (b : Nat) (V U : Value) (w : World) (h : Bk w b V U) :
    Calls Try.prog 46 #[.pointer (some ⟨b, 0, none⟩)] w fun e w' => e = .returned (.slice none 0 0) ∧ w' = w := by
  obtain ⟨d2, d3, d4, d5, d6, d7, d8, d9⟩ := ten_rest h
  clear h
  go_enter Try.func46, Try.ntmps46
  go_wp2_with (fail)
  go_loopg [3, 4] 0 (fun j o i wr => o = .slice none 0 0 ∧ i = .int .i64 0 ∧ wr = w)
  case atStart => exact ⟨rfl, rfl, rfl⟩
  case round =>
    obtain ⟨rfl, rfl, rfl⟩ := hrel
    go_wp2_with (fail)
    go_ret
    exact ⟨rfl, rfl⟩
theorem markedCosts (w : World) :
    Calls Try.prog 51 #[.slice none 0 0] w fun e w' => e = .returned (.bool true) ∧ w' = w := by
  go_enter Try.func51, Try.ntmps51
  go_wp2_with (fail)
  go_loopg [3] 0 (fun j i wr => i = .int .i64 0 ∧ wr = w)
  case atStart => exact ⟨rfl, rfl⟩
  case round =>
    obtain ⟨rfl, rfl⟩ := hrel
    go_wp2_with (fail)
    go_ret
    exact ⟨rfl, rfl⟩
theorem stillBytes (b : Nat) (V U : Value) (w : World) (h : Bk w b V U) :
    Calls Try.prog 37 #[.pointer (some ⟨b, 0, none⟩)] w fun e w' => e = .returned (.bool true) ∧ w' = w := by
  obtain ⟨d2, d3, d4, d5, d6, d7, d8, d9⟩ := ten_rest h
  clear h
  go_enter Try.func37, Try.ntmps37
  go_wp2_with (fail)
  go_loopg [3] 0 (fun j i wr => i = .int .i64 0 ∧ wr = w)
  case atStart => exact ⟨rfl, rfl⟩
  case round =>
    obtain ⟨rfl, rfl⟩ := hrel
    go_wp2_with (fail)
    go_ret
    exact ⟨rfl, rfl⟩
theorem putBytes (b : Nat) (V U : Value) (w : World) (h : Bk w b V U) :
    Calls Try.prog 42 #[.pointer (some ⟨b, 0, none⟩)] w fun e w' => e = .returned (.tuple #[]) ∧ w' = w := by
  obtain ⟨d2, d3, d4, d5, d6, d7, d8, d9⟩ := ten_rest h
  clear h
  go_enter Try.func42, Try.ntmps42
  go_wp2_with (fail)
  go_loopg [2] 0 (fun j i wr => i = .int .i64 0 ∧ wr = w)
  case atStart => exact ⟨rfl, rfl⟩
  case round =>
    obtain ⟨rfl, rfl⟩ := hrel
    go_wp2_with (fail)
    go_end0
    exact ⟨rfl, rfl⟩
theorem growBytes (b : Nat) (V U : Value) (w : World) (h : Bk w b V U) :
    Calls Try.prog 47 #[.pointer (some ⟨b, 0, none⟩)] w fun e w' => e = .returned (.slice none 0 0) ∧ w' = w := by
  obtain ⟨d2, d3, d4, d5, d6, d7, d8, d9⟩ := ten_rest h
  clear h
  go_enter Try.func47, Try.ntmps47
  go_wp2_with (fail)
  go_loopg [3, 4] 0 (fun j o i wr => o = .slice none 0 0 ∧ i = .int .i64 0 ∧ wr = w)
  case atStart => exact ⟨rfl, rfl, rfl⟩
  case round =>
    obtain ⟨rfl, rfl, rfl⟩ := hrel
    go_wp2_with (fail)
    go_ret
    exact ⟨rfl, rfl⟩
theorem markedBytes (w : World) :
    Calls Try.prog 52 #[.slice none 0 0] w fun e w' => e = .returned (.bool true) ∧ w' = w := by
  go_enter Try.func52, Try.ntmps52
  go_wp2_with (fail)
  go_loopg [3] 0 (fun j i wr => i = .int .i64 0 ∧ wr = w)
  case atStart => exact ⟨rfl, rfl⟩
  case round =>
    obtain ⟨rfl, rfl⟩ := hrel
    go_wp2_with (fail)
    go_ret
    exact ⟨rfl, rfl⟩

set_option maxRecDepth 100000 in
set_option maxHeartbeats 8000000 in
theorem apart_any (b base bb : Nat) (V U : Value) (vs us : List Sl) (xss : List (List Int)) (w : World) (h : BK w b base bb V U (.slice none 0 0) (.slice none 0 0) vs us xss) (hl : xss.length ≤ 200) (hn : ∀ i, i < xss.length → (xss.getD i []).length ≤ 10000) (hbs : base ≤ w.heap.size) :
    Calls Try.prog 20 #[.pointer (some ⟨b, 0, none⟩)] w fun e w' => e = .returned (.bool true) ∧ Below base w w' := by
  obtain ⟨V1, c1, rfl⟩ := Kd.R_slice h.rv
  have HLV := Lib.hid h.lv
  have HN := Lib.hid hn
  have H := Lib.hid h
  have HBL := Lib.hid h.blk
  clear h hn
  go_enter Try.func20, Try.ntmps20
  go_wp2_with (fail)
  refine (still_any b base bb _ U _ _ vs us xss _ H.out hl).mono ?_
  rintro e w1 ⟨rfl, q1, rfl⟩
  go_wp2_with (first
    | (go_at_call 34; refine (stillTexts _ _ _ _ (by exact HBL.out)).mono ?_; rintro e w9 ⟨rfl, hw9⟩; subst hw9)
    | (go_at_call 35; refine (stillHits _ _ _ _ (by exact HBL.out)).mono ?_; rintro e w9 ⟨rfl, hw9⟩; subst hw9)
    | (go_at_call 36; refine (stillCosts _ _ _ _ (by exact HBL.out)).mono ?_; rintro e w9 ⟨rfl, hw9⟩; subst hw9)
    | (go_at_call 37; refine (stillBytes _ _ _ _ (by exact HBL.out)).mono ?_; rintro e w9 ⟨rfl, hw9⟩; subst hw9))
  refine (put_any b base bb _ U _ _ vs xss _ (H.out.toPK.below (below_drewN (Below.refl _ _) q1)) hl HN.out hbs).mono ?_
  rintro e w2 ⟨⟨yss, hpk, hfam⟩, rfl, hb2⟩
  have HB2 := Lib.hid (show Below base w w2 from ⟨hb2.os, hb2.tape, hb2.output, hb2.size, hb2.block⟩)
  have hbs2 : base ≤ w2.heap.size := Nat.le_trans hbs HB2.out.size
  have HBL2 := Lib.hid hpk.blk
  have HG2 := Lib.hid (show GK w2 b base bb (.slice V1 vs.length c1) U (.slice none 0 0) (.slice none 0 0) vs [] (fun i => (xss.getD i []).length) xss.length 0 from
    ⟨hpk.blk, hpk.rv, by rw [hpk.lv, hfam.1], rfl, fun j _ hj => by
      have h1 := hpk.fv j (by rw [hfam.1]; exact hj)
      rw [hfam.2.1 j hj hj] at h1
      exact h1, fun j hj => absurd hj (Nat.not_lt_zero j), fun j hj => absurd hj (Nat.not_lt_zero j), fun i j hij hj => hpk.ap i j hij (by rw [hfam.1]; exact hj)⟩)
  clear hpk hfam hb2
  go_wp2_with (first
    | (go_at_call 39; refine (putTexts _ _ _ _ (by exact HBL2.out)).mono ?_; rintro e w9 ⟨rfl, hw9⟩; subst hw9)
    | (go_at_call 40; refine (putHits _ _ _ _ (by exact HBL2.out)).mono ?_; rintro e w9 ⟨rfl, hw9⟩; subst hw9)
    | (go_at_call 41; refine (putCosts _ _ _ _ (by exact HBL2.out)).mono ?_; rintro e w9 ⟨rfl, hw9⟩; subst hw9)
    | (go_at_call 42; refine (putBytes _ _ _ _ (by exact HBL2.out)).mono ?_; rintro e w9 ⟨rfl, hw9⟩; subst hw9))
  refine (grow_any b base bb _ U _ _ vs _ xss.length _ HG2.out hl HN.out hbs2).mono ?_
  rintro e w3 ⟨⟨gv, gs, rfl, hgv, hgk⟩, hb3⟩
  obtain ⟨A3, c3, rfl⟩ := Kd.R_slice hgv
  have HB3 := Lib.hid (HB2.out.trans hb3)
  have HBL3 := Lib.hid hgk.blk
  have HG3 := Lib.hid hgk
  have HGV := Lib.hid (Kd.R_reads' hgv).2.2
  clear hgv hgk hb3
  go_wp2_with (first
    | (go_at_call 44; refine (growTexts _ _ _ _ (by exact HBL3.out)).mono ?_; rintro e w9 ⟨rfl, hw9⟩; subst hw9)
    | (go_at_call 45; refine (growHits _ _ _ _ (by exact HBL3.out)).mono ?_; rintro e w9 ⟨rfl, hw9⟩; subst hw9)
    | (go_at_call 46; refine (growCosts _ _ _ _ (by exact HBL3.out)).mono ?_; rintro e w9 ⟨rfl, hw9⟩; subst hw9)
    | (go_at_call 47; refine (growBytes _ _ _ _ (by exact HBL3.out)).mono ?_; rintro e w9 ⟨rfl, hw9⟩; subst hw9))
  have hglen : gs.length ≤ 200 := by rw [HG3.out.lg]; exact hl
  have hvlen : vs.length ≤ 200 := by rw [HLV.out]; exact hl
  refine (marked_any _ _ _ gs _ HGV.out hglen (fun i hi => ?mG)).mono ?_
  case mG =>
    have h1 := HG3.out.news i (by rw [← HG3.out.lg]; exact hi)
    have h2 := h1.1
    rw [marks_length] at h2
    have h3 := HN.out i (by rw [← HG3.out.lg]; exact hi)
    have h4 := h1.C
    refine ⟨by omega, ?_⟩
    rw [h2] at h4 ⊢
    exact h4
  rintro e w4 ⟨rfl, hb4⟩
  have hbs3 : base ≤ _ := Nat.le_trans hbs HB3.out.size
  have HB4 := Lib.hid (Ints.bel_trans HB3.out hbs3 hb4)
  have HG4 := Lib.hid (gk_below HG3.out hb4)
  clear hb4
  obtain ⟨d0, _, _, _⟩ := ten_cells HG4.out.blk
  obtain ⟨d2, d3, d4, d5, d6, d7, d8, d9⟩ := ten_rest HG4.out.blk
  go_wp2_with (fail)
  refine (marked_any _ _ _ vs _ (Kd.R_reads' HG4.out.rv).2.2 hvlen (fun i hi => ?mV)).mono ?_
  case mV =>
    have hi2 : i < xss.length := by rw [← HLV.out]; exact hi
    have h1 := HG4.out.olds i hi2
    have h2 := h1.1
    rw [marks_length] at h2
    have h3 := HN.out i hi2
    have h4 := h1.C
    refine ⟨by omega, ?_⟩
    rw [h2] at h4 ⊢
    exact h4
  rintro e w5 ⟨rfl, hb5⟩
  have hbs4 : base ≤ w4.heap.size := Nat.le_trans hbs HB4.out.size
  have HB5 := Lib.hid (Ints.bel_trans HB4.out hbs4 hb5)
  have HBL5 := Lib.hid ((gk_below HG4.out hb5).blk)
  clear hb5 d0 d2 d3 d4 d5 d6 d7 d8 d9
  obtain ⟨d2, d3, d4, d5, d6, d7, d8, d9⟩ := ten_rest HBL5.out
  go_wp2_with (first
    | (go_at_call 49; refine (markedTexts _).mono ?_; rintro e w9 ⟨rfl, hw9⟩; subst hw9)
    | (go_at_call 50; refine (markedHits _).mono ?_; rintro e w9 ⟨rfl, hw9⟩; subst hw9)
    | (go_at_call 51; refine (markedCosts _).mono ?_; rintro e w9 ⟨rfl, hw9⟩; subst hw9)
    | (go_at_call 52; refine (markedBytes _).mono ?_; rintro e w9 ⟨rfl, hw9⟩; subst hw9))
  go_ret
  exact ⟨rfl, HB5.out⟩
end Go.Proofs.Ytnjenkjoeilhhaa.Book
