/- The statements' book of lists: lists that are kept; whether all are as they were; marks put; lists grown. -/
import Derived.Test.YtnjenkjoeilhhaaBook
import Derived.Deep.RegionHeld3
namespace Go.Proofs.Ytnjenkjoeilhhaa.Book
set_option linter.unusedVariables false
set_option linter.unusedSimpArgs false
open Go.RowKit Go.Proofs.YtnjenkjoeilhhaaW.PrintWords Go.Proofs.YtnjenkjoeilhhaaW.PrintMore Go.Proofs.Ytnjenkjoeilhhaa.L Go.Proofs.Ytnjenkjoeilhhaa.Ints

def nilS : Value := .slice none 0 0
def bcells (V U X Y : Value) : Array Value := #[V, U, .slice none 0 0, .slice none 0 0, .slice none 0 0, .slice none 0 0, X, Y, .slice none 0 0, .slice none 0 0]
theorem ten_cells {w : World} {b t : Nat} {V U X Y : Value} (h : w.heap[b]? = some (.cells (bcells V U X Y) t (0, 0))) :
    w.cell? ⟨b, 0, none⟩ = some V ∧ w.cell? ⟨b, 1, none⟩ = some U ∧ w.frozen? ⟨b, 0, none⟩ = false ∧ w.frozen? ⟨b, 1, none⟩ = false := by
  simp [World.cell?, World.frozen?, h, bcells]
theorem ten_rest {w : World} {b t : Nat} {V U X Y : Value} (h : w.heap[b]? = some (.cells (bcells V U X Y) t (0, 0))) :
    w.cell? ⟨b, 2, none⟩ = some (.slice none 0 0) ∧ w.cell? ⟨b, 3, none⟩ = some (.slice none 0 0) ∧ w.cell? ⟨b, 4, none⟩ = some (.slice none 0 0) ∧ w.cell? ⟨b, 5, none⟩ = some (.slice none 0 0) ∧
    w.cell? ⟨b, 6, none⟩ = some X ∧ w.cell? ⟨b, 7, none⟩ = some Y ∧ w.cell? ⟨b, 8, none⟩ = some (.slice none 0 0) ∧ w.cell? ⟨b, 9, none⟩ = some (.slice none 0 0) := by
  simp [World.cell?, h, bcells]
/-- The lists that are kept. -/
structure PK (w : World) (b base bb : Nat) (V U X Y : Value) (vs : List Sl) (xss : List (List Int)) : Prop where
  blk : w.heap[b]? = some (.cells (bcells V U X Y) 36 (0, 0))
  bge : bb ≤ b
  rv : KV.R 27 w bb (fun _ => True) V vs
  lv : vs.length = xss.length
  fv : ∀ i, i < xss.length → KI.R 3 w base (fun _ => True) (slv (vs.getD i z0)) (xss.getD i [])
  ap : ∀ i j, i < j → j < xss.length → (slv (vs.getD i z0)).ownBlock = none ∨ (slv (vs.getD i z0)).ownBlock ≠ (slv (vs.getD j z0)).ownBlock
/-- And the copies. -/
structure BK (w : World) (b base bb : Nat) (V U X Y : Value) (vs us : List Sl) (xss : List (List Int)) : Prop extends PK w b base bb V U X Y vs xss where
  ru : KV.R 27 w bb (fun _ => True) U us
  vu : V.ownBlock = none ∨ V.ownBlock ≠ U.ownBlock
  lu : us.length = xss.length
  fu : ∀ i, i < xss.length → KI.R 3 w base (fun _ => True) (slv (us.getD i z0)) (xss.getD i [])
theorem PK.below {w w1 : World} {b base bb : Nat} {V U X Y : Value} {vs : List Sl} {xss : List (List Int)} (h : PK w b base bb V U X Y vs xss) (hb : Below w.heap.size w w1) : PK w1 b base bb V U X Y vs xss :=
  ⟨(hb.block b (blk_lt h.blk)).trans h.blk, h.bge, Kd.R_below h.rv hb, h.lv, fun i hi => Kd.R_below (h.fv i hi) hb, h.ap⟩
theorem BK.below {w w1 : World} {b base bb : Nat} {V U X Y : Value} {vs us : List Sl} {xss : List (List Int)} (h : BK w b base bb V U X Y vs us xss) (hb : Below w.heap.size w w1) : BK w1 b base bb V U X Y vs us xss :=
  ⟨h.toPK.below hb, Kd.R_below h.ru hb, h.vu, h.lu, fun i hi => Kd.R_below (h.fu i hi) hb⟩
theorem bk_new (w : World) (base : Nat) : BK (w.alloc (.cells (bcells (.slice none 0 0) (.slice none 0 0) (.slice none 0 0) (.slice none 0 0)) 36 (0, 0))) w.heap.size base w.heap.size (.slice none 0 0) (.slice none 0 0) (.slice none 0 0) (.slice none 0 0) [] [] [] :=
  ⟨⟨heap_alloc_self _ _, Nat.le_refl _, Kd.R_nil _ _ _ _ _, rfl, fun i h => absurd h (Nat.not_lt_zero i), fun i j _ h => absurd h (Nat.not_lt_zero j)⟩, Kd.R_nil _ _ _ _ _, .inl rfl, rfl, fun i h => absurd h (Nat.not_lt_zero i)⟩
theorem getD_snoc {α : Type} (l : List α) (x d : α) (i : Nat) (h : i < l.length + 1) : (l ++ [x]).getD i d = if i < l.length then l.getD i d else x := by
  by_cases hi : i < l.length
  · rw [if_pos hi, List.getD_eq_getElem?_getD, List.getElem?_append_left hi, ← List.getD_eq_getElem?_getD]
  · rw [if_neg hi, List.getD_eq_getElem?_getD, List.getElem?_append_right (by omega), show i - l.length = 0 by omega]
    rfl

theorem getD_fam {P : Sl → List Int → Prop} {vs : List Sl} {xss : List (List Int)} {s : Sl} {xs : List Int} (hl : vs.length = xss.length) (h : ∀ i, i < xss.length → P (vs.getD i z0) (xss.getD i [])) (hx : P s xs) :
    ∀ i, i < (xss ++ [xs]).length → P ((vs ++ [s]).getD i z0) ((xss ++ [xs]).getD i []) := by
  intro i hi
  rw [List.length_append, List.length_singleton] at hi
  rw [getD_snoc _ _ _ _ (by omega), getD_snoc _ _ _ _ (by omega)]
  by_cases h2 : i < xss.length
  · rw [if_pos h2, if_pos (by omega)]
    exact h i h2
  · rw [if_neg h2, if_neg (by omega)]
    exact hx
theorem ap_more {vs : List Sl} {n : Nat} {s : Sl} (hl : vs.length = n) (h : ∀ i j, i < j → j < n → (slv (vs.getD i z0)).ownBlock = none ∨ (slv (vs.getD i z0)).ownBlock ≠ (slv (vs.getD j z0)).ownBlock)
    (hx : ∀ i, i < n → (slv (vs.getD i z0)).ownBlock = none ∨ (slv (vs.getD i z0)).ownBlock ≠ (slv s).ownBlock) :
    ∀ i j, i < j → j < n + 1 → (slv ((vs ++ [s]).getD i z0)).ownBlock = none ∨ (slv ((vs ++ [s]).getD i z0)).ownBlock ≠ (slv ((vs ++ [s]).getD j z0)).ownBlock := by
  intro i j hij hj
  rw [getD_snoc _ _ _ _ (by omega), getD_snoc _ _ _ _ (by omega), if_pos (by omega)]
  by_cases h2 : j < n
  · rw [if_pos (by omega)]
    exact h i j hij h2
  · rw [if_neg (by omega)]
    exact hx i (by omega)
theorem bk_more {w2 w3 : World} {b base bb : Nat} {V2 U1 U3 X Y : Value} {vs us : List Sl} {xss : List (List Int)} {s u : Sl} {xs : List Int}
    (hblk3 : w3.heap[b]? = some (.cells (bcells V2 U1 X Y) 36 (0, 0))) (bge : bb ≤ b) (hV : KV.R 27 w2 bb (fun _ => True) V2 (vs ++ [s])) (hU3 : KV.R 27 w3 bb (fun _ => True) U3 (us ++ [u]))
    (hg3 : w2.grownBy w3 U1.ownBlock) (hU1 : KV.R 27 w2 bb (fun _ => True) U1 us) (hVU : V2.ownBlock = none ∨ V2.ownBlock ≠ U1.ownBlock) (hat3 : U3.ownBlock = U1.ownBlock ∨ ∃ k, U3.ownBlock = some k ∧ w2.heap.size ≤ k)
    (lv : vs.length = xss.length) (lu : us.length = xss.length) (hfv : ∀ i, i < xss.length → KI.R 3 w2 base (fun _ => True) (slv (vs.getD i z0)) (xss.getD i [])) (hfu : ∀ i, i < xss.length → KI.R 3 w2 base (fun _ => True) (slv (us.getD i z0)) (xss.getD i []))
    (hx : KI.R 3 w2 base (fun _ => True) (slv s) xs) (hw : KI.R 3 w2 base (fun _ => True) (slv u) xs)
    (ap : ∀ i j, i < j → j < xss.length → (slv (vs.getD i z0)).ownBlock = none ∨ (slv (vs.getD i z0)).ownBlock ≠ (slv (vs.getD j z0)).ownBlock) (hap : ∀ i, i < xss.length → (slv (vs.getD i z0)).ownBlock = none ∨ (slv (vs.getD i z0)).ownBlock ≠ (slv s).ownBlock) :
    BK (w3.setCell ⟨b, 1, none⟩ U3) b base bb V2 U3 X Y (vs ++ [s]) (us ++ [u]) (xss ++ [xs]) := by
  have hint : ∀ (q : Value) (ys : List Int), KI.R 3 w2 base (fun _ => True) q ys → KI.R 3 (w3.setCell ⟨b, 1, none⟩ U3) base (fun _ => True) q ys := fun q ys hr =>
    Kd.R_set (R_own_move hr (fun k hk => hg3.block k (Kd.R_lt hr k hk) (fun e => by
      obtain ⟨cells, hc⟩ := Kd.R_typed hU1 k e.symm
      exact Kd.R_ne hr hc (by decide) hk.symm))) hblk3 (by decide) 1 U3
  refine ⟨⟨by rw [heap_setCell_same _ _ 1 _ _ _ hblk3]; rfl, bge, Kd.R_set (R_own_move hV (fun k hk => hg3.block k (Kd.R_lt hV k hk) (fun e => ?_))) hblk3 (by decide) 1 U3, by rw [List.length_append, List.length_append, lv]; rfl, ?_, ?_⟩, Kd.R_set hU3 hblk3 (by decide) 1 U3, ?_, by rw [List.length_append, List.length_append, lu]; rfl, ?_⟩
  · rcases hVU with h | h
    · rw [h] at hk; cases hk
    · exact h (by rw [hk, e])
  · exact getD_fam (P := fun q ys => KI.R 3 (w3.setCell ⟨b, 1, none⟩ U3) base (fun _ => True) (slv q) ys) lv (fun i hi => hint _ _ (hfv i hi)) (hint _ _ hx)
  · rw [List.length_append]
    exact ap_more lv ap hap
  · rcases hat3 with h | ⟨k, h, hk⟩
    · rw [h]; exact hVU
    · right
      rw [h]
      intro e
      have := Kd.R_lt hV k e
      omega
  · exact getD_fam (P := fun q ys => KI.R 3 (w3.setCell ⟨b, 1, none⟩ U3) base (fun _ => True) (slv q) ys) lu (fun i hi => hint _ _ (hfu i hi)) (hint _ _ hw)
set_option maxRecDepth 100000 in
set_option maxHeartbeats 2000000 in
theorem ints_any2 (b base bb : Nat) (V U X Y : Value) (vs us : List Sl) (xss : List (List Int)) (A : Option Addr) (n c : Nat) (xs : List Int) (w : World)
    (h : BK w b base bb V U X Y vs us xss) (hx : KI.R 3 w base (fun _ => True) (.slice A n c) xs) (hap : ∀ i, i < xss.length → (slv (vs.getD i z0)).ownBlock = none ∨ (slv (vs.getD i z0)).ownBlock ≠ (Value.slice A n c).ownBlock)
    (hbs : base ≤ w.heap.size) (hbw : bb ≤ w.heap.size) (hl : xss.length ≤ 200) (hn : xs.length ≤ 100000) :
    Calls Try.prog 11 #[.pointer (some ⟨b, 0, none⟩), .slice A n c] w fun e w' => (∃ V1 U1 u, BK w' b base bb V1 U1 X Y (vs ++ [(A, n, c)]) (us ++ [u]) (xss ++ [xs]) ∧ ∀ k, (slv u).ownBlock = some k → w.heap.size ≤ k) ∧ e = .returned (.tuple #[]) ∧ Below bb w w' := by
  obtain ⟨V1, c1, rfl⟩ := Kd.R_slice h.rv
  obtain ⟨U1, c2, rfl⟩ := Kd.R_slice h.ru
  have HLV := Lib.hid h.lv
  have HLU := Lib.hid h.lu
  have hlv : vs.length ≤ 200 := by rw [HLV.out]; exact hl
  have hlu : us.length ≤ 200 := by rw [HLU.out]; exact hl
  obtain ⟨d0, d1, d2, d3⟩ := ten_cells h.blk
  have hlen : (vs.length : Int) < 250 := by omega
  have HBK := Lib.hid h
  have HX := Lib.hid hx
  have HAP := Lib.hid hap
  clear h hx hap
  go_enter Try.func11, Try.ntmps11
  go_wp2_with (((with_reducible refine gate_builtin (b := .append) (xs := #[.tmp 14, .tmp 16]) rfl ?_); at_builtin; apply stopper))
  unfold Stopper
  refine Kd.R_append KV (w0 := w) bb rfl (.tmp 14) (.tmp 16) 30 27 (.slice none 0 0) 24 rfl Try.underlying30 infoRow rfl (by decide) (by omega) (.slice V1 vs.length c1) vs (A, n, c) [.slice A n c] (fun _ => True) (fun _ => False) rfl rfl rfl (fun _ hk => hk.elim) (fun _ _ => trivial) HBK.out.rv (Below.refl _ w) hbw (by omega) ?_
  intro v1 w1 ho hb1 hg1 hat1
  have hbne : some b ≠ (Value.slice V1 vs.length c1).ownBlock := Kd.R_ne HBK.out.rv HBK.out.blk (by decide)
  have hblk1 := (hg1.block b (blk_lt HBK.out.blk) hbne).trans HBK.out.blk
  have hru1 : KV.R 27 w1 bb (fun _ => True) (.slice U1 us.length c2) us := R_own_move HBK.out.ru (fun k hk => hg1.block k (Kd.R_lt HBK.out.ru k hk) (fun e => by
    rcases HBK.out.vu with h | h
    · rw [h] at e; cases e
    · exact h (by rw [hk, e])))
  have hvu1 : v1.ownBlock = none ∨ v1.ownBlock ≠ (Value.slice U1 us.length c2).ownBlock := by
    rcases hat1 with h | ⟨k, h, hk⟩
    · rw [h]; exact HBK.out.vu
    · right
      rw [h]
      intro e
      have := Kd.R_lt HBK.out.ru k e.symm
      omega
  have hint : ∀ (s : Value) (ys : List Int), KI.R 3 w base (fun _ => True) s ys → KI.R 3 w1 base (fun _ => True) s ys := fun s ys hr =>
    R_own_move hr (fun k hk => hg1.block k (Kd.R_lt hr k hk) (fun e => by
      obtain ⟨cells, hc⟩ := Kd.R_typed HBK.out.rv k e.symm
      exact Kd.R_ne hr hc (by decide) hk.symm))
  obtain ⟨V2, c3, rfl⟩ := Kd.R_slice ho
  rw [List.length_append, List.length_singleton] at ho hvu1 ⊢
  obtain ⟨e0, e1, e2, e3⟩ := ten_cells hblk1
  have hblka : (w1.setCell ⟨b, 0, none⟩ (.slice V2 (vs.length + 1) c3)).heap[b]? = some (.cells (bcells (.slice V2 (vs.length + 1) c3) (.slice U1 us.length c2) X Y) 36 (0, 0)) := by rw [heap_setCell_same _ _ 0 _ _ _ hblk1]; rfl
  have HBLK := Lib.hid hblka
  have HV := Lib.hid (Kd.R_set ho hblk1 (by decide) 0 (.slice V2 (vs.length + 1) c3))
  have HU := Lib.hid (Kd.R_set hru1 hblk1 (by decide) 0 (.slice V2 (vs.length + 1) c3))
  have HVU := Lib.hid hvu1
  have HFV := Lib.hid (fun i hi => Kd.R_set (hint _ _ (HBK.out.fv i hi)) hblk1 (by decide) 0 (.slice V2 (vs.length + 1) c3))
  have HFU := Lib.hid (fun i hi => Kd.R_set (hint _ _ (HBK.out.fu i hi)) hblk1 (by decide) 0 (.slice V2 (vs.length + 1) c3))
  have HX1 := Lib.hid (Kd.R_set (hint _ _ HX.out) hblk1 (by decide) 0 (.slice V2 (vs.length + 1) c3))
  have HB1 := Lib.hid (hb1.setCell (p := ⟨b, 0, none⟩) HBK.out.bge (.slice V2 (vs.length + 1) c3))
  have hxc := (Kd.R_reads' HX1.out).2.2
  have hnx := (Kd.R_reads' HX1.out).1
  have hn2 : n ≤ 100000 := by rw [hnx]; exact hn
  rw [← hnx] at hxc
  have HXC := Lib.hid hxc
  have HNX := Lib.hid hnx
  clear hxc hnx hblka hbne hblk1 hru1 hvu1 hint ho hb1 hg1 hat1 d0 d1 d2 d3
  go_wp2_with (fail)
  generalize w1.setCell ⟨b, 0, none⟩ (.slice V2 (vs.length + 1) c3) = wa at *
  clear e0 e1 e2 e3
  obtain ⟨e0, e1, e2, e3⟩ := ten_cells HBLK.out
  go_region_law (first
    | (go_simp; go_at_call 26; refine (copy_ints _ _ _ _ _ (Kd.C_drew HXC.out) (by omega)).mono ?_; rintro e w2 ⟨v2, rfl, hr2, hb2⟩; obtain ⟨A2, c4, rfl⟩ := Kd.R_slice hr2; have HBLK2 := Lib.hid ((hb2.block b (blk_lt HBLK.out)).trans HBLK.out); have HU2 := Lib.hid (Kd.R_below (Kd.R_drew HU.out) hb2); have HB2 := Lib.hid (Ints.bel_trans (below_drew HB1.out) (Nat.le_trans hbw HB1.out.size) hb2); have HW := Lib.hid hr2; have HS2 := Lib.hid hb2; obtain ⟨f0, f1, f2, f3⟩ := ten_cells HBLK2.out; have f4 := fun o : Obj => (ten_cells (L.heap_alloc_old HBLK2.out o)).2.1; clear hb2 hr2)
    | (refine Kd.R_append_step KV (w0 := w) bb (by rfl) (.tmp 24) (.tmp 27) 30 27 (.slice none 0 0) 24 rfl Try.underlying30 infoRow rfl (by decide) (by omega) (.slice U1 us.length c2) us (A2, xs.length, c4) [.slice A2 xs.length c4] (fun _ => True) (fun _ => False) (by simp [Act.eval, Act.put]) (by simp [Act.eval, Act.put]) rfl (fun _ hk => hk.elim) (fun _ _ => trivial) HU2.out HB2.out (Nat.le_trans hbw HB2.out.size) (by omega) ?_; intro v3 w3 ho3 hb3 hg3 hat3; obtain ⟨A3, c5, hv3⟩ := Kd.R_slice ho3; rw [List.length_append, List.length_singleton] at hv3; subst hv3; have HBLK3 := Lib.hid ((hg3.block b (blk_lt HBLK2.out) (Kd.R_ne HU2.out HBLK2.out (by decide))).trans HBLK2.out); have HU3 := Lib.hid ho3; have HG3 := Lib.hid hg3; have HAT3 := Lib.hid hat3; have HB3 := Lib.hid hb3; obtain ⟨g0, g1, g2, g3⟩ := ten_cells HBLK3.out; clear ho3 hb3 hg3 hat3))
  all_goals
    go_end0
    have hs2 := HS2.out
    have dr : ∀ {q : Value} {ys : List Int}, KI.R 3 wa base (fun _ => True) q ys → KI.R 3 w2 base (fun _ => True) q ys := fun h => Kd.R_below (Kd.R_drew h) hs2
    refine ⟨⟨_, _, _, bk_more (s := (A, n, c)) (u := (A2, xs.length, c4)) HBLK3.out HBK.out.bge (Kd.R_below (Kd.R_drew HV.out) hs2) HU3.out HG3.out HU2.out HVU.out HAT3.out HLV.out HLU.out (fun i hi => dr (HFV.out i hi)) (fun i hi => dr (HFU.out i hi)) (dr HX1.out) (Kd.R_lower HW.out (Nat.le_trans hbs HB1.out.size)) HBK.out.ap HAP.out, fun k hk => Nat.le_trans HB1.out.size (Kd.R_base HW.out k hk)⟩, rfl, ?_⟩
    exact HB3.out.setCell (p := ⟨b, 1, none⟩) HBK.out.bge _
theorem ints_any (b base bb : Nat) (V U X Y : Value) (vs us : List Sl) (xss : List (List Int)) (A : Option Addr) (n c : Nat) (xs : List Int) (w : World)
    (h : BK w b base bb V U X Y vs us xss) (hx : KI.R 3 w base (fun _ => True) (.slice A n c) xs) (hap : ∀ i, i < xss.length → (slv (vs.getD i z0)).ownBlock = none ∨ (slv (vs.getD i z0)).ownBlock ≠ (Value.slice A n c).ownBlock)
    (hbs : base ≤ w.heap.size) (hbw : bb ≤ w.heap.size) (hl : xss.length ≤ 200) (hn : xs.length ≤ 100000) :
    Calls Try.prog 11 #[.pointer (some ⟨b, 0, none⟩), .slice A n c] w fun e w' => (∃ V1 U1 u, BK w' b base bb V1 U1 X Y (vs ++ [(A, n, c)]) (us ++ [u]) (xss ++ [xs])) ∧ e = .returned (.tuple #[]) ∧ Below bb w w' := by
  refine (ints_any2 b base bb V U X Y vs us xss A n c xs w h hx hap hbs hbw hl hn).mono ?_
  rintro e w1 ⟨⟨V1, U1, u, hb, _⟩, r⟩
  exact ⟨⟨V1, U1, u, hb⟩, r⟩
/-- Blocks apart from the book's may be written. -/
theorem BK.chg {S : Nat → Prop} {w w1 : World} {b base bb : Nat} {V U X Y : Value} {vs us : List Sl} {xss : List (List Int)} (h : BK w b base bb V U X Y vs us xss) (hK : ∀ k, S k → k < bb) (hv : ∀ i, i < xss.length → ∀ k, (slv (vs.getD i z0)).ownBlock = some k → ¬ S k) (hu : ∀ i, i < xss.length → ∀ k, (slv (us.getD i z0)).ownBlock = some k → ¬ S k)
    (hc : L.Chg S w w1) : BK w1 b base bb V U X Y vs us xss := by
  have hbge := h.bge
  have far : ∀ (v : Value) (qs : List Sl), KV.R 27 w bb (fun _ => True) v qs → KV.R 27 w1 bb (fun _ => True) v qs := fun v qs hr =>
    R_own_move hr (fun k hk => hc.block k (Kd.R_lt hr k hk) (fun e => by have := Kd.R_base hr k hk; have := hK k e; omega))
  have near : ∀ (v : Value) (ys : List Int), (∀ k, v.ownBlock = some k → ¬ S k) → KI.R 3 w base (fun _ => True) v ys → KI.R 3 w1 base (fun _ => True) v ys := fun v ys hn hr =>
    R_own_move hr (fun k hk => hc.block k (Kd.R_lt hr k hk) (hn k hk))
  exact ⟨⟨(hc.block b (blk_lt h.blk) (fun e => by have := hK b e; omega)).trans h.blk, h.bge, far _ _ h.rv, h.lv, fun i hi => near _ _ (hv i hi) (h.fv i hi), h.ap⟩, far _ _ h.ru, h.vu, h.lu, fun i hi => near _ _ (hu i hi) (h.fu i hi)⟩
end Go.Proofs.Ytnjenkjoeilhhaa.Book
