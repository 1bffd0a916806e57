/- The statements' book of lists: all are grown. -/
import Derived.Test.YtnjenkjoeilhhaaBookPut
namespace Go.Proofs.Ytnjenkjoeilhhaa.Book
set_option linter.unusedVariables false
set_option linter.unusedSimpArgs false
open Go.RowKit Go.Proofs.YtnjenkjoeilhhaaW.PrintWords Go.Proofs.YtnjenkjoeilhhaaW.PrintMore Go.Proofs.Ytnjenkjoeilhhaa.L Go.Proofs.Ytnjenkjoeilhhaa.Ints

/-- Where place i has come to: the lists ahead of it are grown, the later ones are as they were. -/
structure GK (w : World) (b base bb : Nat) (V U X Y : Value) (vs gs : List Sl) (ns : Nat → Nat) (n i : Nat) : Prop where
  blk : w.heap[b]? = some (.cells (bcells V U X Y) 36 (0, 0))
  rv : KV.R 27 w bb (fun _ => True) V vs
  lv : vs.length = n
  lg : gs.length = i
  /-- the lists that are not grown yet -/
  rest : ∀ j, i ≤ j → j < n → KI.R 3 w base (fun _ => True) (slv (vs.getD j z0)) (marks j 0 (ns j))
  /-- those that are: the elder one still reads, and so does what was grown -/
  olds : ∀ j, j < i → RC w (fun k => base ≤ k ∧ ∀ m, i ≤ m → m < n → some k ≠ (slv (vs.getD m z0)).ownBlock) (vs.getD j z0) (marks j 0 (ns j))
  news : ∀ j, j < i → RC w (fun k => base ≤ k ∧ ∀ m, i ≤ m → m < n → some k ≠ (slv (vs.getD m z0)).ownBlock) (gs.getD j z0) (marks j 0 (ns j + 72))
  ap : ∀ i j, i < j → j < n → (slv (vs.getD i z0)).ownBlock = none ∨ (slv (vs.getD i z0)).ownBlock ≠ (slv (vs.getD j z0)).ownBlock
/-- What an append to one list leaves of a reading of its first elements. -/
theorem RC.kept {w w1 : World} {ok : Nat → Prop} {s : Sl} {xs ys : List Int} {v : Value} (h : RC w ok s xs) (hg : w.grownBy w1 v.ownBlock)
    (hk : ∀ g, v.ownBlock = some g → ∃ cells : Array Value, w1.heap[g]? = some (.cells cells 3 (0, 0)) ∧ ∀ j, j < ys.length → cells[j]? = some (.int .i64 (ys.getD j 0)))
    (hp : xs.length ≤ ys.length ∧ ∀ j, j < xs.length → ys.getD j 0 = xs.getD j 0) : RC w1 ok s xs := by
  obtain ⟨h1, h2, h3⟩ := h
  refine ⟨h1, h2, fun hn => ?_⟩
  obtain ⟨g, e, ho, cells, hc, hx⟩ := h3 hn
  by_cases hv : v.ownBlock = some g
  · obtain ⟨cells1, hc1, hx1⟩ := hk g hv
    exact ⟨g, e, ho, cells1, hc1, fun j hj => by rw [← hp.2 j hj]; exact hx1 j (by omega)⟩
  · exact ⟨g, e, ho, cells, (hg.block g (blk_lt hc) (Ne.symm hv)).trans hc, hx⟩
theorem marks_prefix (i n q : Nat) : (marks i 0 n).length ≤ (marks i 0 (n + q)).length ∧ ∀ j, j < (marks i 0 n).length → (marks i 0 (n + q)).getD j 0 = (marks i 0 n).getD j 0 := by
  rw [marks_length, marks_length]
  exact ⟨by omega, fun j hj => by rw [marks_getD _ _ _ _ (by omega), marks_getD _ _ _ _ hj]⟩
theorem gk_step {wo w3 : World} {b base bb : Nat} {V U X Y : Value} {vs gs : List Sl} {ns : Nat → Nat} {n i : Nat} {L : Sl} (h : GK wo b base bb V U X Y vs gs ns n i) (hi : i < n)
    (hc : ∀ k, k < wo.heap.size → some k ≠ (slv (vs.getD i z0)).ownBlock → w3.heap[k]? = wo.heap[k]?) (hL : KI.R 3 w3 base (fun _ => True) (slv L) (marks i 0 (ns i + 72)))
    (hat : (slv L).ownBlock = (slv (vs.getD i z0)).ownBlock ∨ ∃ k, (slv L).ownBlock = some k ∧ wo.heap.size ≤ k) (hv : RC w3 (fun k => base ≤ k ∧ some k = (slv (vs.getD i z0)).ownBlock) (vs.getD i z0) (marks i 0 (ns i))) :
    GK w3 b base bb V U X Y vs (gs ++ [L]) ns n (i + 1) := by
  have hri := h.rest i (Nat.le_refl _) hi
  have apart : ∀ m, i + 1 ≤ m → m < n → ∀ k, some k = (slv (vs.getD i z0)).ownBlock → some k ≠ (slv (vs.getD m z0)).ownBlock := by
    intro m hm hmn k hk e
    rcases h.ap i m (by omega) hmn with h1 | h1
    · rw [h1] at hk; cases hk
    · exact h1 (by rw [← hk, e])
  have ty : ∀ k t cells, wo.heap[k]? = some (.cells cells t (0, 0)) → t ≠ 3 → some k ≠ (slv (vs.getD i z0)).ownBlock := by
    intro k t cells hk ht e
    exact Kd.R_ne hri hk (Ne.symm ht) e
  have old : ∀ {ok : Nat → Prop} {s : Sl} {xs : List Int}, RC wo (fun k => base ≤ k ∧ ∀ m, i ≤ m → m < n → some k ≠ (slv (vs.getD m z0)).ownBlock) s xs → RC w3 (fun k => base ≤ k ∧ ∀ m, i + 1 ≤ m → m < n → some k ≠ (slv (vs.getD m z0)).ownBlock) s xs := fun hr =>
    (hr.move (fun k hk hlt => hc k hlt (hk.2 i (Nat.le_refl _) hi))).mono (fun k _ hk => ⟨hk.1, fun m hm hmn => hk.2 m (by omega) hmn⟩)
  refine ⟨(hc b (blk_lt h.blk) (ty b _ _ h.blk (by decide))).trans h.blk, R_own_move h.rv (fun k hk => hc k (Kd.R_lt h.rv k hk) ?_), h.lv, by rw [List.length_append, h.lg]; rfl, fun j hj hjn => R_own_move (h.rest j (by omega) hjn) (fun k hk => hc k (Kd.R_lt (h.rest j (by omega) hjn) k hk) (fun e => ?_)), fun j hj => ?_, fun j hj => ?_, h.ap⟩
  · obtain ⟨cells, hcc⟩ := Kd.R_typed h.rv k hk
    exact ty k _ cells hcc (by decide)
  · exact apart j (by omega) hjn k e hk.symm
  · by_cases hji : j < i
    · exact old (ok := fun _ => True) (h.olds j hji)
    · obtain rfl : j = i := by omega
      exact hv.mono (fun k _ hk => ⟨hk.1, fun m hm hmn => apart m hm hmn k hk.2⟩)
  · rw [getD_snoc _ _ _ _ (by rw [h.lg]; omega), h.lg]
    by_cases hji : j < i
    · rw [if_pos hji]
      exact old (ok := fun _ => True) (h.news j hji)
    · obtain rfl : j = i := by omega
      rw [if_neg hji]
      refine (RC.of_R hL).mono (fun k _ hk => ⟨hk.2.1, fun m hm hmn e => ?_⟩)
      rcases hat with h1 | ⟨k1, h1, h2⟩
      · exact apart m hm hmn k (by rw [← h1]; exact hk.2.2) e
      · have h3 := Kd.R_lt (h.rest m (by omega) hmn) k e.symm
        have h4 : k = k1 := by
          have := hk.2.2
          rw [h1] at this
          injection this
        omega
theorem gk_out {w w1 : World} {b base bb : Nat} {V U X Y : Value} {vs gs : List Sl} {ns : Nat → Nat} {n i : Nat} {row : Option Nat} (h : GK w b base bb V U X Y vs gs ns n i) (hg : w.grownBy w1 row)
    (hrow : ∀ k, row = some k → (∃ cells, w.heap[k]? = some (.cells cells 27 (0, 0))) ∧ some k ≠ V.ownBlock) : GK w1 b base bb V U X Y vs gs ns n i := by
  have ty : ∀ k t cells, w.heap[k]? = some (.cells cells t (0, 0)) → t ≠ 27 → some k ≠ row := by
    intro k t cells hk ht e
    obtain ⟨⟨cells2, h2⟩, _⟩ := hrow k e.symm
    rw [hk] at h2
    injection h2 with h2
    injection h2 with _ h2
    exact ht h2
  have rc : ∀ {ok : Nat → Prop} {s : Sl} {xs : List Int}, RC w ok s xs → RC w1 ok s xs := by
    intro ok s xs hr
    obtain ⟨h1, h2, h3⟩ := hr
    refine ⟨h1, h2, fun hn => ?_⟩
    obtain ⟨g, e, ho, cells, hc, hx⟩ := h3 hn
    exact ⟨g, e, ho, cells, (hg.block g (blk_lt hc) (ty g _ _ hc (by decide))).trans hc, hx⟩
  refine ⟨(hg.block b (blk_lt h.blk) (ty b _ _ h.blk (by decide))).trans h.blk, R_own_move h.rv (fun k hk => hg.block k (Kd.R_lt h.rv k hk) (fun e => (hrow k e.symm).2 hk.symm)), h.lv, h.lg, fun j hj hjn => R_own_move (h.rest j hj hjn) (fun k hk => ?_), fun j hj => rc (h.olds j hj), fun j hj => rc (h.news j hj), h.ap⟩
  obtain ⟨cells, hcc⟩ := Kd.R_typed (h.rest j hj hjn) k hk
  exact hg.block k (blk_lt hcc) (ty k _ _ hcc (by decide))
theorem gk_below {w w1 : World} {b base bb : Nat} {V U X Y : Value} {vs gs : List Sl} {ns : Nat → Nat} {n i : Nat} (h : GK w b base bb V U X Y vs gs ns n i) (hb : Below w.heap.size w w1) : GK w1 b base bb V U X Y vs gs ns n i :=
  gk_out h (row := none) ⟨hb.os, hb.tape, hb.output, hb.size, fun k hk _ => hb.block k hk⟩ (fun k hk => by cases hk)
/-- A list in growth. -/
structure LK (wo wr : World) (base : Nat) (s : Sl) (i n q : Nat) (L : Value) : Prop where
  hc : ∀ k, k < wo.heap.size → some k ≠ (slv s).ownBlock → wr.heap[k]? = wo.heap[k]?
  hL : KI.R 3 wr base (fun _ => True) L (marks i 0 (n + q))
  hat : L.ownBlock = (slv s).ownBlock ∨ ∃ k, L.ownBlock = some k ∧ wo.heap.size ≤ k
  hv : RC wr (fun k => base ≤ k ∧ some k = (slv s).ownBlock) s (marks i 0 n)
  sz : wo.heap.size ≤ wr.heap.size
theorem lk_below {wo wr w1 : World} {base : Nat} {s : Sl} {i n q : Nat} {L : Value} (h : LK wo wr base s i n q L) (hb : Below wr.heap.size wr w1) : LK wo w1 base s i n q L :=
  ⟨fun k hk hne => (hb.block k (Nat.lt_of_lt_of_le hk h.sz)).trans (h.hc k hk hne), Kd.R_below h.hL hb, h.hat, h.hv.move (fun k _ hk => hb.block k hk), Nat.le_trans h.sz hb.size⟩
theorem lk_more {wo w2 w3 : World} {base : Nat} {s : Sl} {i n q m : Nat} {L L1 : Value} (h : LK wo w2 base s i n q L) (hr : KI.R 3 w3 base (fun _ => True) L1 (marks i 0 (n + q) ++ marks i (n + q) m)) (hg : w2.grownBy w3 L.ownBlock)
    (hat : L1.ownBlock = L.ownBlock ∨ L1.ownBlock = some w2.heap.size)
    (hk : ∀ g, L.ownBlock = some g → ∃ cells : Array Value, w3.heap[g]? = some (.cells cells 3 (0, 0)) ∧ ∀ j, j < (marks i 0 (n + q)).length → cells[j]? = some (.int .i64 ((marks i 0 (n + q)).getD j 0))) : LK wo w3 base s i n (q + m) L1 := by
  refine ⟨fun k hk hne => (hg.block k (Nat.lt_of_lt_of_le hk h.sz) (fun e => ?_)).trans (h.hc k hk hne), ?_, ?_, h.hv.kept hg hk (marks_prefix i n q), Nat.le_trans h.sz hg.size⟩
  · rcases h.hat with h1 | ⟨k1, h1, h2⟩
    · exact hne (by rw [e, h1])
    · rw [h1] at e
      injection e with e
      omega
  · rw [← Nat.add_assoc, marks_append, Nat.zero_add]
    exact hr
  · rcases hat with h1 | h1
    · rw [h1]; exact h.hat
    · exact .inr ⟨_, h1, h.sz⟩
set_option maxRecDepth 100000 in
set_option maxHeartbeats 4000000 in
theorem grow_any (b base bb : Nat) (V U X Y : Value) (vs : List Sl) (ns : Nat → Nat) (n : Nat) (w : World) (h : GK w b base bb V U X Y vs [] ns n 0) (hl : n ≤ 200) (hn : ∀ i, i < n → ns i ≤ 10000) (hbs : base ≤ w.heap.size) :
    Calls Try.prog 43 #[.pointer (some ⟨b, 0, none⟩)] w fun e w' => (∃ gv gs, e = .returned gv ∧ KV.R 27 w' w.heap.size (fun _ => True) gv gs ∧ GK w' b base bb V U X Y vs gs ns n n) ∧ Below base w w' := by
  obtain ⟨V1, c1, rfl⟩ := Kd.R_slice h.rv
  have HLV := Lib.hid h.lv
  have hlv : vs.length ≤ 200 := by rw [HLV.out]; exact hl
  have HVB := Lib.hid (Kd.R_lt h.rv)
  have HG0 := Lib.hid h
  have HN := Lib.hid hn
  clear h hn
  go_enter Try.func43, Try.ntmps43
  go_wp2_with (fail)
  go_loopg [3, 4] vs.length (fun j out i wr => ∃ k : Nat, k + j = vs.length ∧ i = .int .i64 k ∧ Hid ((∃ gs, KV.R 27 wr w.heap.size (fun _ => True) out gs ∧ GK wr b base bb (.slice V1 vs.length c1) U X Y vs gs ns n k) ∧ Below base w wr))
  case atStart => exact ⟨0, by omega, rfl, ⟨[], Kd.R_nil _ _ _ _ _, HG0.out⟩, Below.refl _ _⟩
  case round =>
    obtain ⟨wo, rfl⟩ : ∃ wo : World, wo = wr := ⟨_, rfl⟩
    obtain ⟨k, hk, rfl, HI⟩ := hrel
    obtain ⟨⟨gs, hout, hgk⟩, hb⟩ := HI.out
    obtain ⟨d0, _, d2, _⟩ := ten_cells hgk.blk
    obtain ⟨A3, c3, rfl⟩ := Kd.R_slice hout
    by_cases hlt : k < vs.length
    · obtain ⟨ad, rfl, x0⟩ := vals_at (Kd.R_reads' hgk.rv).2.2 k hlt
      have hkn : k < n := by rw [← HLV.out]; exact hlt
      have hv := hgk.rest k (Nat.le_refl _) hkn
      obtain ⟨m, hm⟩ : ∃ m, ns k = m := ⟨_, rfl⟩
      have hm2 : m ≤ 10000 := by rw [← hm]; exact HN.out k hkn
      rw [hm] at hv
      obtain ⟨⟨a1, n1, e1⟩, hs⟩ : ∃ s, vs.getD k z0 = s := ⟨_, rfl⟩
      rw [hs] at x0 hv
      have hn1 : n1 = m := by have := (fam_C hv).1; rw [marks_length] at this; exact this
      subst hn1
      have x1 : wo.cell? (ad.add k) = some (.slice a1 n1 e1) := x0
      have i0 : (0 : Int) ≤ k := by omega
      have i1 : (k : Int) < (vs.length : Int) := by omega
      have i2 : ((k : Int)).toNat = k := by omega
      have HLK := Lib.hid (show LK wo wo base (a1, n1, e1) k n1 0 (.slice a1 n1 e1) from ⟨fun _ _ _ => rfl, hv, .inl rfl, (RC.of_R hv).mono (fun t _ ht => ht.2), Nat.le_refl _⟩)
      have HGK := Lib.hid hgk
      have HOUT := Lib.hid hout
      have HB := Lib.hid hb
      have HS := Lib.hid hs
      have HM := Lib.hid hm
      have HK := Lib.hid hk
      have hbsz : base ≤ wo.heap.size := Nat.le_trans hbs hb.size
      have hgl : gs.length ≤ 200 := by rw [hgk.lg]; omega
      clear hgk hout hb HI hv x0 hs hm hk
      go_wp2_with (fail)
      go_loopg [5, 6] 12 (fun j l i wr => ∃ q : Nat, q + j = 12 ∧ i = .int .i64 q ∧ Hid (LK wo wr base (a1, n1, e1) k n1 q l ∧ Below base w wr))
      case atStart => exact ⟨0, by omega, rfl, HLK.out, HB.out⟩
      case round =>
        obtain ⟨q, hq, rfl, HJ⟩ := hrel
        obtain ⟨hlk, hb⟩ := HJ.out
        have hL := hlk.hL
        obtain ⟨A5, c5, rfl⟩ := Kd.R_slice hL
        rw [marks_length] at hlk hL ⊢
        have HLK2 := Lib.hid hlk
        have HB2 := Lib.hid hb
        have hbs2 : base ≤ wr.heap.size := Nat.le_trans hbs hb.size
        have HQ := Lib.hid hq
        clear hlk hb HJ hL hq
        by_cases hqt : q < 12
        · have hqi : (q : Int) < 12 := by omega
          go_wp2_with (fail)
          refine (mark_any k (n1 + q) 1 _ (by omega) (by omega) (by omega)).mono ?_
          rintro e w2 ⟨v2, rfl, hr2, hb2⟩
          obtain ⟨A2, c2, rfl⟩ := Kd.R_slice hr2
          rw [marks_length] at hr2 ⊢
          have HC2 := Lib.hid (show KI.C w2 A2 1 (marks k (n1 + q) 1) by have := (Kd.R_reads' hr2).2.2; rw [marks_length] at this; exact this)
          have HLK3 := Lib.hid (lk_below HLK2.out hb2)
          have HB3 := Lib.hid (Ints.bel_trans HB2.out hbs2 hb2)
          have hbs3 : base ≤ w2.heap.size := Nat.le_trans hbs2 hb2.size
          clear hr2 hb2
          go_wp2_with (((with_reducible refine gate_builtin (b := .append) (xs := #[.tmp 27, .tmp 31]) rfl ?_); at_builtin; apply stopper))
          unfold Stopper
          refine append_keep (w0 := w) base rfl (.tmp 27) (.tmp 31) 27 3 (.int .i64 0) rfl Try.underlying27 infoInt rfl (.slice A5 (n1 + q) c5) (marks k 0 (n1 + q)) (marks k (n1 + q) 1) A2 1 c2 (fun _ => True) rfl rfl (by decide) (fun _ _ => trivial) HLK3.out.hL HC2.out HB3.out hbs3 (by rw [marks_length]; omega) ?_
          intro v3 w3 ho3 hb3 hg3 hat3 hk3
          have HLK4 := Lib.hid (lk_more HLK3.out ho3 hg3 hat3 hk3)
          have HB4 := Lib.hid hb3
          clear ho3 hb3 hg3 hat3 hk3
          go_wp2
          go_roundg (12 - (q + 1))
          case measure => have := HQ.out; omega
          case rel => exact ⟨q + 1, by have := HQ.out; omega, by go_num, HLK4.out, HB4.out⟩
        · obtain rfl : q = 12 := by have := HQ.out; omega
          go_wp2_with (fail)
          refine (mark_any k (n1 + 12) 60 _ (by omega) (by omega) (by omega)).mono ?_
          rintro e w2 ⟨v2, rfl, hr2, hb2⟩
          obtain ⟨A2, c2, rfl⟩ := Kd.R_slice hr2
          rw [marks_length] at hr2 ⊢
          have HC2 := Lib.hid (show KI.C w2 A2 60 (marks k (n1 + 12) 60) by have := (Kd.R_reads' hr2).2.2; rw [marks_length] at this; exact this)
          have HLK3 := Lib.hid (lk_below HLK2.out hb2)
          have HB3 := Lib.hid (Ints.bel_trans HB2.out hbs2 hb2)
          have hbs3 : base ≤ w2.heap.size := Nat.le_trans hbs2 hb2.size
          clear hr2 hb2
          go_wp2_with (((with_reducible refine gate_builtin (b := .append) (xs := #[.tmp 34, .tmp 38]) rfl ?_); at_builtin; apply stopper))
          unfold Stopper
          refine append_keep (w0 := w) base rfl (.tmp 34) (.tmp 38) 27 3 (.int .i64 0) rfl Try.underlying27 infoInt rfl (.slice A5 (n1 + 12) c5) (marks k 0 (n1 + 12)) (marks k (n1 + 12) 60) A2 60 c2 (fun _ => True) rfl rfl (by decide) (fun _ _ => trivial) HLK3.out.hL HC2.out HB3.out hbs3 (by rw [marks_length]; omega) ?_
          intro v3 w3 ho3 hb3 hg3 hat3 hk3
          obtain ⟨A6, c6, rfl⟩ := Kd.R_slice ho3
          have hlk4 := lk_more HLK3.out ho3 hg3 hat3 hk3
          rw [List.length_append, marks_length, marks_length] at hlk4 ⊢
          have hgk4 := gk_step (L := (A6, n1 + 12 + 60, c6)) HGK.out hkn (by rw [HS.out]; exact hlk4.hc) (by rw [HM.out]; exact hlk4.hL) (by rw [HS.out]; exact hlk4.hat) (by rw [HS.out, HM.out]; exact hlk4.hv)
          have hout4 : KV.R 27 w3 w.heap.size (fun _ => True) (.slice A3 gs.length c3) gs := R_own_move HOUT.out (fun t ht => hlk4.hc t (Kd.R_lt HOUT.out t ht) (fun e => by
            obtain ⟨cells, hcc⟩ := Kd.R_typed HOUT.out t ht
            have hr := HGK.out.rest k (Nat.le_refl _) hkn
            rw [HS.out] at hr
            exact Kd.R_ne hr hcc (by decide) e))
          have HOUT4 := Lib.hid hout4
          have HGK4 := Lib.hid hgk4
          have HB4 := Lib.hid hb3
          clear ho3 hb3 hg3 hat3 hk3 hlk4 hgk4 hout4
          go_wp2_with (((with_reducible refine gate_builtin (b := .append) (xs := #[.tmp 33, .tmp 40]) rfl ?_); at_builtin; apply stopper))
          unfold Stopper
          refine Kd.R_append KV (w0 := w3) w.heap.size rfl (.tmp 33) (.tmp 40) 30 27 (.slice none 0 0) 24 rfl Try.underlying30 infoRow rfl (by decide) (by omega) (.slice A3 gs.length c3) gs (A6, n1 + 12 + 60, c6) [.slice A6 (n1 + 12 + 60) c6] (fun _ => True) (fun _ => False) rfl rfl rfl (fun _ hk => hk.elim) (fun _ _ => trivial) HOUT4.out (Below.refl _ _) HB4.out.size (by omega) ?_
          intro v5 w5 ho5 hb5 hg5 hat5
          have HGK5 := Lib.hid (gk_out HGK4.out hg5 (fun t ht => ⟨Kd.R_typed HOUT4.out t ht, fun e => by
            have h1 := Kd.R_base HOUT4.out t ht
            have h2 := HVB.out t e.symm
            omega⟩))
          have HOUT5 := Lib.hid ho5
          have HB5 := Lib.hid (show Below base w w5 from HB4.out.grown hg5 (Nat.le_trans hbs HB4.out.size) (fun t ht => by
            have := Kd.R_base HOUT4.out t ht
            omega))
          clear ho5 hb5 hg5 hat5
          go_wp2
          go_roundg (vs.length - (k + 1))
          case measure => have := HK.out; omega
          case rel => exact ⟨k + 1, by have := HK.out; omega, by go_num, ⟨_, HOUT5.out, HGK5.out⟩, HB5.out⟩
    · obtain rfl : k = vs.length := by omega
      have HGK := Lib.hid (show GK wo b base bb (.slice V1 vs.length c1) U X Y vs gs ns n n by have := hgk; rw [HLV.out] at this; rw [HLV.out]; exact this)
      have HOUT := Lib.hid hout
      have HB := Lib.hid hb
      clear hgk hout hb HI
      go_wp2_with (fail)
      go_ret
      exact ⟨⟨_, gs, rfl, HOUT.out, HGK.out⟩, HB.out⟩
end Go.Proofs.Ytnjenkjoeilhhaa.Book
