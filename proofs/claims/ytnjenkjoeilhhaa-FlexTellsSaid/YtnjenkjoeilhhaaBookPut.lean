/- The statements' book of lists: all are as they were; marks are put; all are marked. -/
import Derived.Test.YtnjenkjoeilhhaaBookOps
namespace Go.Proofs.Ytnjenkjoeilhhaa.Book
set_option linter.unusedVariables false
set_option linter.unusedSimpArgs false
open Go.RowKit Go.Proofs.YtnjenkjoeilhhaaW.PrintWords Go.Proofs.YtnjenkjoeilhhaaW.PrintMore Go.Proofs.Ytnjenkjoeilhhaa.L Go.Proofs.Ytnjenkjoeilhhaa.Ints

theorem same_true (A B : Option Addr) (n m c c' : Nat) (xs : List Int) (w : World) (hx : KI.C w A n xs) (hy : KI.C w B m xs) :
    Calls Try.prog 17 #[.slice A n c, .slice B m c'] w fun e w' => e = .returned (.bool true) ∧ ∃ q, w' = w.drewN q := by
  refine (same_ints A B n m c c' xs xs w hx hy).mono ?_
  rintro e w1 ⟨rfl, q, rfl⟩
  exact ⟨by rw [decide_eq_true (rfl : xs = xs)], q, rfl⟩
theorem fam_C {w : World} {base : Nat} {s : Sl} {xs : List Int} (h : KI.R 3 w base (fun _ => True) (slv s) xs) : s.2.1 = xs.length ∧ KI.C w s.1 s.2.1 xs := by
  have h1 := Kd.R_reads' (A := s.1) (n := s.2.1) (c := s.2.2) h
  exact ⟨h1.1, by rw [h1.1]; exact h1.2.2⟩
set_option maxRecDepth 100000 in
set_option maxHeartbeats 2000000 in
theorem still_any (b base bb : Nat) (V U X Y : Value) (vs us : List Sl) (xss : List (List Int)) (w : World) (h : BK w b base bb V U X Y vs us xss) (hl : xss.length ≤ 200) :
    Calls Try.prog 33 #[.pointer (some ⟨b, 0, none⟩)] w fun e w' => e = .returned (.bool true) ∧ ∃ q, w' = w.drewN q := by
  obtain ⟨V1, c1, rfl⟩ := Kd.R_slice h.rv
  obtain ⟨U1, c2, rfl⟩ := Kd.R_slice h.ru
  have HLV := Lib.hid h.lv
  have HLU := Lib.hid h.lu
  have hlv : vs.length ≤ 200 := by rw [HLV.out]; exact hl
  obtain ⟨d0, d1, d2, d3⟩ := ten_cells h.blk
  have HCV := Lib.hid (Kd.R_reads' h.rv).2.2
  have HCU := Lib.hid (Kd.R_reads' h.ru).2.2
  have HFV := Lib.hid h.fv
  have HFU := Lib.hid h.fu
  clear h
  go_enter Try.func33, Try.ntmps33
  go_wp2_with (fail)
  go_loopg [3] vs.length (fun j i wr => ∃ k : Nat, k + j = vs.length ∧ i = .int .i64 k ∧ ∃ q, wr = w.drewN q)
  case atStart => exact ⟨0, by omega, rfl, 0, rfl⟩
  case round =>
    obtain ⟨k, hk, rfl, q, rfl⟩ := hrel
    by_cases hlt : k < vs.length
    · obtain ⟨ad, rfl, x0⟩ := vals_at HCV.out k hlt
      obtain ⟨bd, rfl, y0⟩ := vals_at HCU.out k (by rw [HLU.out, ← HLV.out]; exact hlt)
      have hv := fam_C (HFV.out k (by rw [← HLV.out]; exact hlt))
      have hu := fam_C (HFU.out k (by rw [← HLV.out]; exact hlt))
      obtain ⟨⟨a1, n1, e1⟩, hs⟩ : ∃ s, vs.getD k z0 = s := ⟨_, rfl⟩
      obtain ⟨⟨a2, n2, e2⟩, ht⟩ : ∃ s, us.getD k z0 = s := ⟨_, rfl⟩
      rw [hs] at x0 hv
      rw [ht] at y0 hu
      have x1 : w.cell? (ad.add k) = some (.slice a1 n1 e1) := x0
      have y1 : w.cell? (bd.add k) = some (.slice a2 n2 e2) := y0
      have HC1 := Lib.hid hv.2
      have HC2 := Lib.hid hu.2
      have i0 : (0 : Int) ≤ k := by omega
      have i1 : (k : Int) < (vs.length : Int) := by omega
      have i3 : (k : Int) < (us.length : Int) := by have := HLU.out; have := HLV.out; omega
      have i2 : ((k : Int)).toNat = k := by omega
      clear hs ht hv hu x0 y0
      go_wp2_with (fail)
      go_quiet ((go_at_call 17; exact quiet2 (same_true _ _ _ _ _ _ (xss.getD k []) _ (by exact HC1.out) (by exact HC2.out))))
      go_wp2_with (fail)
      go_roundg (vs.length - (k + 1))
      case measure => omega
      case rel => exact ⟨k + 1, by omega, by go_num, _, rfl⟩
    · obtain rfl : k = vs.length := by omega
      go_wp2_with (fail)
      go_ret
      exact ⟨rfl, _, rfl⟩

/-! ### all are marked -/
set_option maxRecDepth 100000 in
set_option maxHeartbeats 2000000 in
theorem marked_any (A : Option Addr) (n c : Nat) (gs : List Sl) (w : World) (h : KV.C w A n gs) (hl : n ≤ 200) (hg : ∀ i, i < n → (gs.getD i z0).2.1 ≤ 100000 ∧ KI.C w (gs.getD i z0).1 (gs.getD i z0).2.1 (marks i 0 (gs.getD i z0).2.1)) :
    Calls Try.prog 48 #[.slice A n c] w fun e w' => e = .returned (.bool true) ∧ Below w.heap.size w w' := by
  have H := Lib.hid h
  have HG := Lib.hid hg
  clear h hg
  go_enter Try.func48, Try.ntmps48
  go_wp2_with (fail)
  go_loopg [3] n (fun j i wr => ∃ k : Nat, k + j = n ∧ i = .int .i64 k ∧ Hid (Below w.heap.size w wr))
  case atStart => exact ⟨0, by omega, rfl, Below.refl _ _⟩
  case round =>
    obtain ⟨k, hk, rfl, HB⟩ := hrel
    by_cases hlt : k < n
    · obtain ⟨ad, rfl, x0⟩ := vals_at (Kd.C_below H.out HB.out) k hlt
      obtain ⟨hn1, hc1⟩ := HG.out k hlt
      obtain ⟨⟨a1, n1, e1⟩, hs⟩ : ∃ s, gs.getD k z0 = s := ⟨_, rfl⟩
      rw [hs] at x0 hn1 hc1
      have x1 : wr.cell? (ad.add k) = some (.slice a1 n1 e1) := x0
      have n1l : n1 ≤ 100000 := hn1
      have HC1 := Lib.hid (show KI.C wr a1 n1 (marks k 0 n1) from Kd.C_below hc1 HB.out)
      have i0 : (0 : Int) ≤ k := by omega
      have i1 : (k : Int) < (n : Int) := by omega
      have i2 : ((k : Int)).toNat = k := by omega
      clear hs hn1 hc1 x0
      go_wp2_with (fail)
      go_region_held3 (fun w' => w'.cell? (ad.add k) = some (.slice a1 n1 e1)) (first | assumption | go_keep)
        (first
          | (go_at_call 62; refine (mark_any k 0 n1 _ (by omega) (by omega) n1l).mono ?_; rintro e w2 ⟨v2, rfl, hr2, hb2⟩; obtain ⟨A2, c2, rfl⟩ := Kd.R_slice hr2; have hl2 := marks_length k 0 n1; have HM2 := Lib.hid (Kd.R_reads' hr2).2.2; have HB2 := Lib.hid hb2; have x2 := pw_cell_below hb2 (by exact x1); have HC2 := Lib.hid (Kd.C_below (Kd.C_drew HC1.out) hb2); clear hr2)
          | (go_at_call 17; refine (same_true _ _ _ _ _ _ (marks k 0 n1) _ HC2.out (by have := HM2.out; rw [hl2] at this; exact this)).mono ?_; rintro e w3 ⟨rfl, q3, rfl⟩))
      all_goals
        have HB3 := Lib.hid (below_drewN (Ints.bel_trans (below_drew HB.out) HB.out.size HB2.out) q3)
        go_wp2_with (fail)
        go_roundg (n - (k + 1))
        case measure => omega
        case rel => exact ⟨k + 1, by omega, by go_num, HB3.out⟩
    · obtain rfl : k = n := by omega
      go_wp2_with (fail)
      go_ret
      exact ⟨rfl, HB.out⟩

/-! ### marks are put -/
theorem R_block {w : World} {base : Nat} {s : Sl} {xs : List Int} (h : KI.R 3 w base (fun _ => True) (slv s) xs) (h0 : 0 < xs.length) : ∃ g c, s = (some ⟨g, 0, none⟩, xs.length, c) ∧ base ≤ g ∧ g < w.heap.size ∧ ∃ cells, w.heap[g]? = some (.cells cells 3 (0, 0)) := by
  obtain ⟨g, cap, hv, h1, h2, h3⟩ := Kd.R_form h h0
  obtain ⟨a, n, c⟩ := s
  unfold slv at hv
  injection hv with e1 e2 e3
  exact ⟨g, cap, by rw [show a = _ from e1, show n = _ from e2, show c = _ from e3], h1, h2, h3⟩
theorem getD_set_same {α : Type} (l : List α) (k : Nat) (x d : α) (h : k < l.length) : (l.set k x).getD k d = x := by
  rw [List.getD_eq_getElem?_getD, List.getElem?_set_self h]
  rfl
theorem getD_set_ne {α : Type} (l : List α) (k i : Nat) (x d : α) (h : i ≠ k) : (l.set k x).getD i d = l.getD i d := by
  rw [List.getD_eq_getElem?_getD, List.getElem?_set_ne (Ne.symm h), ← List.getD_eq_getElem?_getD]
theorem pk_put {w : World} {b base bb : Nat} {V U X Y : Value} {vs : List Sl} {xss : List (List Int)} (h : PK w b base bb V U X Y vs xss) {k g n c : Nat} (hk : k < xss.length) (hs : vs.getD k z0 = (some ⟨g, 0, none⟩, n, c)) (q : Nat) (x : Int) :
    PK (w.setCell ⟨g, q, none⟩ (.int .i64 x)) b base bb V U X Y vs (xss.set k ((xss.getD k []).set q x)) := by
  have hr := h.fv k hk
  rw [hs] at hr
  obtain ⟨cells, hc⟩ := Kd.R_typed hr g (by simp [slv, Value.ownBlock])
  have hput := Kd.R_putn (enc := Value.int .i64) (h1 := fun _ => rfl) hr (q : Int) x
  rw [Int.toNat_natCast] at hput
  have hbg : b ≠ g := fun e => by
    have := h.blk
    rw [e, hc] at this
    simp at this
  refine ⟨(Below.heap_setCell _ _ _ _ hbg).trans h.blk, h.bge, Kd.R_set h.rv hc (by decide) q (.int .i64 x), by rw [List.length_set]; exact h.lv, fun i hi => ?_, by rw [List.length_set]; exact h.ap⟩
  rw [List.length_set] at hi
  by_cases hik : i = k
  · subst hik
    rw [getD_set_same _ _ _ _ hk, hs]
    exact hput
  · rw [getD_set_ne _ _ _ _ _ hik]
    refine R_own_move (h.fv i hi) (fun t ht => Below.heap_setCell _ _ _ _ (fun e => ?_))
    have e2 : t = g := e
    subst e2
    have hkb : (slv (vs.getD k z0)).ownBlock = some t := by rw [hs]; simp [slv, Value.ownBlock]
    rcases Nat.lt_or_gt_of_ne hik with hlt | hlt
    · rcases h.ap i k hlt hk with e3 | e3
      · rw [e3] at ht; cases ht
      · exact e3 (by rw [ht, hkb])
    · rcases h.ap k i hlt hi with e3 | e3
      · rw [e3] at hkb; cases hkb
      · exact e3 (by rw [ht, hkb])
theorem set_marks (i q : Nat) (xs : List Int) (h : q < xs.length) : (marks i 0 q ++ xs.drop q).set q (mkAt i q) = marks i 0 (q + 1) ++ xs.drop (q + 1) := by
  rw [List.set_append_right _ _ (by rw [marks_length]; exact Nat.le_refl _), marks_length, Nat.sub_self, List.drop_eq_getElem_cons h, List.set_cons_zero, marks_succ, List.append_assoc, Nat.zero_add]
  rfl
def PutFam (xss yss : List (List Int)) (k : Nat) : Prop := yss.length = xss.length ∧ (∀ i, i < k → i < xss.length → yss.getD i [] = marks i 0 (xss.getD i []).length) ∧ ∀ i, k < i → yss.getD i [] = xss.getD i []
set_option maxRecDepth 100000 in
set_option maxHeartbeats 4000000 in
theorem put_any (b base bb : Nat) (V U X Y : Value) (vs : List Sl) (xss : List (List Int)) (w : World) (h : PK w b base bb V U X Y vs xss) (hl : xss.length ≤ 200) (hn : ∀ i, i < xss.length → (xss.getD i []).length ≤ 10000) (hbs : base ≤ w.heap.size) :
    Calls Try.prog 38 #[.pointer (some ⟨b, 0, none⟩)] w fun e w' => (∃ yss, PK w' b base bb V U X Y vs yss ∧ PutFam xss yss xss.length) ∧ e = .returned (.tuple #[]) ∧ Below base w w' := by
  obtain ⟨V1, c1, rfl⟩ := Kd.R_slice h.rv
  have HLV := Lib.hid h.lv
  have hlv : vs.length ≤ 200 := by rw [HLV.out]; exact hl
  have HP := Lib.hid h
  have HN := Lib.hid hn
  clear h hn
  go_enter Try.func38, Try.ntmps38
  go_wp2_with (fail)
  go_loopg [2] vs.length (fun j i wr => ∃ k : Nat, k + j = vs.length ∧ i = .int .i64 k ∧ Hid ((∃ yss, PK wr b base bb (.slice V1 vs.length c1) U X Y vs yss ∧ PutFam xss yss k ∧ yss.getD k [] = xss.getD k []) ∧ Below base w wr))
  case atStart => exact ⟨0, by omega, rfl, ⟨xss, HP.out, ⟨rfl, fun i hi => absurd hi (Nat.not_lt_zero i), fun i _ => rfl⟩, rfl⟩, Below.refl _ _⟩
  case round =>
    obtain ⟨wo, rfl⟩ : ∃ wo : World, wo = wr := ⟨_, rfl⟩
    obtain ⟨k, hk, rfl, HI⟩ := hrel
    obtain ⟨⟨yss, hpk, hfam, hyk⟩, hb⟩ := HI.out
    obtain ⟨d0, _, d2, _⟩ := ten_cells hpk.blk
    by_cases hlt : k < vs.length
    · obtain ⟨ad, rfl, x0⟩ := vals_at (Kd.R_reads' hpk.rv).2.2 k hlt
      have hkx : k < xss.length := by rw [← HLV.out]; exact hlt
      have hky : k < yss.length := by rw [hfam.1]; exact hkx
      have hv := hpk.fv k hky
      rw [hyk] at hv
      have hnk := HN.out k hkx
      obtain ⟨L, hL⟩ : ∃ L, (xss.getD k []).length = L := ⟨_, rfl⟩
      obtain ⟨⟨a1, n1, e1⟩, hs⟩ : ∃ s, vs.getD k z0 = s := ⟨_, rfl⟩
      rw [hs] at x0 hv
      obtain rfl : n1 = L := by rw [← hL]; exact (fam_C hv).1
      have x1 : wo.cell? (ad.add k) = some (.slice a1 n1 e1) := x0
      rw [hL] at hnk
      have i0 : (0 : Int) ≤ k := by omega
      have i1 : (k : Int) < (vs.length : Int) := by omega
      have i2 : ((k : Int)).toNat = k := by omega
      have HPK := Lib.hid hpk
      have HFAM := Lib.hid hfam
      have HB := Lib.hid hb
      have HS := Lib.hid hs
      have HL := Lib.hid hL
      have HYK := Lib.hid hyk
      have HK := Lib.hid hk
      have hbsz : base ≤ wo.heap.size := Nat.le_trans hbs hb.size
      clear hpk hfam hb HI hv x0 hs hL hyk hk
      go_wp2_with (fail)
      refine (mark_any k 0 n1 _ (by omega) (by omega) (by omega)).mono ?_
      rintro e w2 ⟨v2, rfl, hr2, hb2⟩
      obtain ⟨A2, c2, rfl⟩ := Kd.R_slice hr2
      rw [marks_length] at hr2 ⊢
      have HR2 := Lib.hid hr2
      have HPK2 := Lib.hid (HPK.out.below hb2)
      have HB2 := Lib.hid (Ints.bel_trans HB.out hbsz hb2)
      have hsz2 : wo.heap.size ≤ w2.heap.size := hb2.size
      clear hr2 hb2 d0 d2 x1
      go_wp2_with (fail)
      go_loopg [4] n1 (fun j i wx => ∃ q : Nat, q + j = n1 ∧ i = .int .i64 q ∧ Hid ((∃ yss, PK wx b base bb (.slice (some ad) vs.length c1) U X Y vs yss ∧ PutFam xss yss k ∧ yss.getD k [] = marks k 0 q ++ (xss.getD k []).drop q) ∧ KI.R 3 wx wo.heap.size (fun _ => True) (.slice A2 n1 c2) (marks k 0 n1) ∧ Below base w wx))
      case atStart => exact ⟨0, by omega, rfl, ⟨yss, HPK2.out, HFAM.out, by rw [HYK.out]; rfl⟩, HR2.out, HB2.out⟩
      case round =>
        obtain ⟨q, hq, rfl, HJ⟩ := hrel
        obtain ⟨⟨zss, hpk, hfam, hzk⟩, hm, hb⟩ := HJ.out
        by_cases hqt : q < n1
        · have hkz : k < zss.length := by rw [hfam.1]; exact hkx
          have hv := hpk.fv k hkz
          have hzl : (zss.getD k []).length = n1 := by
            rw [hzk, List.length_append, marks_length, List.length_drop, HL.out]
            omega
          obtain ⟨g, cg, hs2, hg1, hg2, cells, hg3⟩ := R_block hv (by omega)
          rw [hzl] at hs2
          have hs3 := HS.out
          rw [hs2] at hs3
          injection hs3 with t1 t2
          injection t2 with t2 t3
          subst t1 t3
          obtain ⟨ad2, hA2, y0⟩ := ints_at (by have := (Kd.R_reads' hm).2.2; rw [marks_length] at this; exact this) q hqt
          subst hA2
          obtain ⟨ad3, hA3, x0⟩ := vals_at (Kd.R_reads' hpk.rv).2.2 k hlt
          injection hA3 with hA3
          subst hA3
          rw [hs2] at x0
          have x1 : wr.cell? (ad.add k) = some (.slice (some ⟨g, 0, none⟩) n1 cg) := x0
          rw [marks_getD k 0 n1 q hqt, Nat.zero_add] at y0
          obtain ⟨d0, _, d2, _⟩ := ten_cells hpk.blk
          have hgr : wo.heap.size ≤ g → False := by
            intro hge
            have h1 := HPK.out.fv k hky
            rw [hs2] at h1
            have := Kd.R_lt h1 g (by simp [slv, Value.ownBlock])
            omega
          have hv2 := hv
          rw [hs2] at hv2
          have hv3 : KI.R 3 wr base (fun _ => True) (.slice (some ⟨g, 0, none⟩) n1 cg) (zss.getD k []) := hv2
          rw [← hzl] at hv3
          obtain ⟨p0, p1⟩ := Kd.R_cell (enc := Value.int .i64) (h1 := fun _ => rfl) (0 : Int) hv3 (q : Int) (by omega) (by rw [hzl]; omega)
          have j0 : (0 : Int) ≤ q := by omega
          have j1 : (q : Int) < (n1 : Int) := by omega
          have j2 : ((q : Int)).toNat = q := by omega
          rw [j2] at p0 p1
          obtain ⟨old, p2⟩ : ∃ old, wr.cell? ⟨g, q, none⟩ = some old := ⟨_, p0⟩
          have hpk2 := pk_put hpk hkz hs2 q (mkAt k q)
          have hset : (zss.getD k []).set q (mkAt k q) = marks k 0 (q + 1) ++ (xss.getD k []).drop (q + 1) := by rw [hzk]; exact set_marks k q _ (by rw [HL.out]; exact hqt)
          rw [hset] at hpk2
          have HPK3 := Lib.hid hpk2
          have HFAM3 := Lib.hid (show PutFam xss (zss.set k (marks k 0 (q + 1) ++ (xss.getD k []).drop (q + 1))) k from ⟨by rw [List.length_set]; exact hfam.1, fun i hi hi2 => by rw [getD_set_ne _ _ _ _ _ (by omega)]; exact hfam.2.1 i hi hi2, fun i hi => by rw [getD_set_ne _ _ _ _ _ (by omega)]; exact hfam.2.2 i hi⟩)
          have HZ3 := Lib.hid (getD_set_same zss k (marks k 0 (q + 1) ++ (xss.getD k []).drop (q + 1)) [] hkz)
          have HM3 := Lib.hid (show KI.R 3 (wr.setCell ⟨g, q, none⟩ (.int .i64 (mkAt k q))) wo.heap.size (fun _ => True) (.slice (some ad2) n1 c2) (marks k 0 n1) from R_own_move hm (fun t ht => Below.heap_setCell _ _ _ _ (fun e => hgr (by have := Kd.R_base hm t ht; have e2 : t = g := e; omega))))
          have HB3 := Lib.hid (hb.setCell (p := ⟨g, q, none⟩) hg1 (.int .i64 (mkAt k q)))
          obtain ⟨M, hM⟩ : ∃ M, mkAt k q = M := ⟨_, rfl⟩
          rw [hM] at y0 HPK3 HM3 HB3
          have HQ := Lib.hid hq
          have q0 : (wr.setCell ⟨g, q, none⟩ (.int .i64 M)).drew.cell? ⟨b, 0, none⟩ = some (.slice (some ad) vs.length c1) := (ten_cells HPK3.out.blk).1
          have q1 : (wr.setCell ⟨g, q, none⟩ (.int .i64 M)).drew.cell? (ad.add k) = some (.slice (some ⟨g, 0, none⟩) n1 cg) := by
            obtain ⟨ad9, hA9, z0'⟩ := vals_at (Kd.R_reads' HPK3.out.rv).2.2 k hlt
            injection hA9 with hA9
            rw [hA9, hs2] at *
            exact z0'
          have q2 : (wr.setCell ⟨g, q, none⟩ (.int .i64 M)).drew.cell? (ad2.add q) = some (.int .i64 M) := by
            obtain ⟨ad9, hA9, z0'⟩ := ints_at (by have := (Kd.R_reads' HM3.out).2.2; rw [marks_length] at this; exact this) q hqt
            injection hA9 with hA9
            rw [marks_getD k 0 n1 q hqt, Nat.zero_add, hM, ← hA9] at z0'
            exact z0'
          clear hpk hfam hzk hm hb HJ hv hzl hg3 hv2 hv3 p0 hpk2 hset hM hs2 hgr x0 hq
          go_wp2_with (fail)
          go_region_held3 (fun w' => w'.cell? ⟨b, 0, none⟩ = some (.slice (some ad) vs.length c1) ∧ w'.cell? (ad.add k) = some (.slice (some ⟨g, 0, none⟩) n1 cg) ∧ w'.cell? (ad2.add q) = some (.int .i64 M)) (first | exact ⟨q0, q1, q2⟩ | go_keep) (fail)
          all_goals
            go_wp2_with (fail)
            go_roundg (n1 - (q + 1))
            case measure => have := HQ.out; omega
            case rel => exact ⟨q + 1, by have := HQ.out; omega, by go_num, ⟨_, HPK3.out.below (below_drew (Below.refl _ _)), HFAM3.out, HZ3.out⟩, Kd.R_drew HM3.out, below_drew HB3.out⟩
        · obtain rfl : q = n1 := by omega
          have hdn : (xss.getD k []).drop q = [] := List.drop_eq_nil_of_le (by rw [HL.out]; exact Nat.le_refl _)
          rw [hdn, List.append_nil] at hzk
          have HFAM3 := Lib.hid (show PutFam xss zss (k + 1) from ⟨hfam.1, fun i hi hi2 => by
            by_cases hik : i = k
            · rw [hik, hzk, HL.out]
            · exact hfam.2.1 i (by omega) hi2, fun i hi => hfam.2.2 i (by omega)⟩)
          have HPK3 := Lib.hid hpk
          have HB3 := Lib.hid hb
          have HZ := Lib.hid (hfam.2.2 (k + 1) (by omega))
          clear hpk hfam hzk hm hb HJ hdn
          go_wp2_with (fail)
          go_roundg (vs.length - (k + 1))
          case measure => have := HK.out; omega
          case rel => exact ⟨k + 1, by have := HK.out; omega, by go_num, ⟨zss, HPK3.out, HFAM3.out, HZ.out⟩, HB3.out⟩
    · obtain rfl : k = vs.length := by omega
      have HPK := Lib.hid hpk
      have HFAM := Lib.hid hfam
      have HB := Lib.hid hb
      clear hpk hfam hb HI hyk
      go_wp2_with (fail)
      go_end0
      exact ⟨⟨yss, HPK.out, by have := HFAM.out; rw [HLV.out] at this; exact this⟩, rfl, HB.out⟩
end Go.Proofs.Ytnjenkjoeilhhaa.Book
