/- Of the parts BestLeast, BestParse, Mean: what the rows use. -/
import Derived.Test.YtfbbcfhdjhiejaaGreatZa1
import Derived.Test.YtfbbcfhdjhiejaaGreatZa4
import Derived.Test.YtfbbcfhdjhiejaaGreatZa5
import Derived.Test.YtfbbcfhdjhiejaaGreatZa9
/- Chapter 15: the least costs from each place on: the walk. -/
namespace Go.Proofs.YtfbbcfhdjhiejaaGreat.Best
set_option linter.unusedVariables false
set_option linter.unusedSimpArgs false
open Go.RowKit Go.Proofs.YtfbbcfhdjhiejaaGreatW.PrintWords Go.Proofs.YtfbbcfhdjhiejaaGreatW.PrintMore Go.Proofs.YtfbbcfhdjhiejaaGreat.L Go.Proofs.YtfbbcfhdjhiejaaGreat.Texts Go.Proofs.YtfbbcfhdjhiejaaGreat.Dict Go.Proofs.YtfbbcfhdjhiejaaGreat.Ints Go.Proofs.YtfbbcfhdjhiejaaGreat.Greedy Go.Proofs.YtfbbcfhdjhiejaaGreat.Cost Go.Proofs.YtfbbcfhdjhiejaaGreat.Fl
theorem own_move' {α : Type} {enc : α → Value} {h1 : ∀ x : α, (enc x).oneCell' = true} {e : Nat} {w w1 : World} {base : Nat} {ok : Nat → Prop} {v : Value} {xs : List α} (h : (Kd.scalar enc h1).R e w base ok v xs) (hm : ∀ k, v.ownBlock = some k → w1.heap[k]? = w.heap[k]?) : (Kd.scalar enc h1).R e w1 base ok v xs :=
 Kd.R_of_own (own_move (Kd.own_of_R h) hm) h.1
theorem own_lt {α : Type} {enc : α → Value} {h1 : ∀ x : α, (enc x).oneCell' = true} {e : Nat} {w : World} {base : Nat} {ok : Nat → Prop} {v : Value} {xs : List α} (h : (Kd.scalar enc h1).R e w base ok v xs) (g : Nat) (hg : v.ownBlock = some g) : g < w.heap.size := by
 rcases (Kd.own_of_R h).2 with ⟨rfl, _⟩ | ⟨g', cap, cur, rfl, _, hh, _⟩
 ·simp [Value.ownBlock] at hg
 ·have : g' = g := by simpa [Value.ownBlock] using hg
  subst this
  exact blk_lt hh
/-- A row stays where only blocks ahead of it turn. -/
theorem R_keep {α : Type} {enc : α → Value} {h1 : ∀ x : α, (enc x).oneCell' = true} {e : Nat} {w w1 : World} {base : Nat} {ok S : Nat → Prop} {v : Value} {xs : List α} (h : (Kd.scalar enc h1).R e w base ok v xs) (hc : Chg S w w1) (hS : ∀ k, S k → k < base) : (Kd.scalar enc h1).R e w1 base ok v xs :=
 own_move' h (fun k hk => hc.block k (own_lt h k hk) (fun hs => by have := hS k hs; have := own_base (Kd.own_of_R h) k hk; omega))
/-! ### what make lays -/
theorem made_cost (N : Nat) (x : Int) (hx : x = N) (hN : N ≤ 100000) : ∃ MC : Array Value, (MC.size = N ∧ ∀ j, j < N → MC[j]? = some (.complex .f64 0 0)) ∧
  ∀ W : World, (Instr.makeSlice 113 (.int .i64 x) (.int .i64 x)).run Tryz.prog W = .ok (.slice (some ⟨W.heap.size, 0, none⟩) N N) (W.alloc (.cells MC 154 (0, 0))) := by
 subst hx
 obtain ⟨i0, hi, hz⟩ := Option.map_eq_some_iff.1 infoCost
 simp only [Prod.mk.injEq] at hz
 obtain ⟨hz0, hz1, hz2⟩ := hz
 refine ⟨madeCells (Value.complex .f64 0 0).cells (((N : Nat) : Int).toNat * i0.size), ⟨?_, fun j hj => ?_⟩, fun W => ?_⟩
 ·have : (madeCells (Value.complex .f64 0 0).cells (((N : Nat) : Int).toNat * i0.size)).toList = List.replicate (((N : Nat) : Int).toNat * i0.size) (.complex .f64 0 0) := toList_madeCells_one _ _
  rw [← Array.length_toList, this, List.length_replicate, hz1, Nat.mul_one, Int.toNat_natCast]
 ·have : (madeCells (Value.complex .f64 0 0).cells (((N : Nat) : Int).toNat * i0.size)).toList = List.replicate (((N : Nat) : Int).toNat * i0.size) (.complex .f64 0 0) := toList_madeCells_one _ _
  rw [← Array.getElem?_toList, this, List.getElem?_replicate, if_pos (by rw [hz1]; omega)]
 ·have h := run_make (P := Tryz.prog) W 113 154 i0 (.complex .f64 0 0) Tryz.underlying113 hi hz0 .i64 .i64 (N : Int) (N : Int) (by omega) (by omega) (by rw [hz2]; omega) (by omega)
  rw [Int.toNat_natCast] at h ⊢
  exact h
theorem made_step (N : Nat) (hN : N ≤ 100000) : ∃ MS : Array Value, (∀ j, j < N → MS[j * 2]? = some (.int .i64 0) ∧ MS[j * 2 + 1]? = some (.int .i64 0)) ∧
  ∀ W : World, (Instr.makeSlice 114 (.int .i64 (N : Int)) (.int .i64 (N : Int))).run Tryz.prog W = .ok (.slice (some ⟨W.heap.size, 0, none⟩) N N) (W.alloc (.cells MS 118 (0, 0))) := by
 obtain ⟨i0, hi, hz⟩ := Option.map_eq_some_iff.1 infoStep
 simp only [Prod.mk.injEq] at hz
 obtain ⟨hz0, hz1, hz2⟩ := hz
 have hc : (Value.agg #[.int .i64 0, .int .i64 0]).cells = #[.int .i64 0, .int .i64 0] := rfl
 have key : ∀ q, q < N * 2 → (madeCells (Value.agg #[.int .i64 0, .int .i64 0]).cells (((N : Nat) : Int).toNat * i0.size))[q]? = some (.int .i64 0) := by
  intro q hq
  rw [hc]
  unfold madeCells
  rw [Array.getElem?_map, Array.getElem?_range, if_pos (by rw [hz1]; omega)]
  have : q % 2 = 0 ∨ q % 2 = 1 := by omega
  rcases this with h | h <;> simp [h]
 refine ⟨_, fun j hj => ⟨key _ (by omega), key _ (by omega)⟩, fun W => ?_⟩
 have h := run_make (P := Tryz.prog) W 114 118 i0 (.agg #[.int .i64 0, .int .i64 0]) Tryz.underlying114 hi hz0 .i64 .i64 (N : Int) (N : Int) (by omega) (by omega) (by rw [hz2]; omega) (by omega)
 rw [Int.toNat_natCast] at h ⊢
 exact h
/-- What stands in the rows when place a is at its k-th step. -/
def costAt (l : List ByteArray) (b : ByteArray) (a k : Nat) : Nat → Cst := fun i => if i = a then (atPlace l b a k).1 else if a + 1 ≤ i then VV l b i else (0, 0)
def stepAt (l : List ByteArray) (b : ByteArray) (a k : Nat) : Nat → Stp := fun i => if i = a then (atPlace l b a k).2 else if a + 1 ≤ i then FF l b i else (0, 0)
def costFrom (l : List ByteArray) (b : ByteArray) (a : Nat) : Nat → Cst := fun i => if a ≤ i then VV l b i else (0, 0)
def stepFrom (l : List ByteArray) (b : ByteArray) (a : Nat) : Nat → Stp := fun i => if a ≤ i then FF l b i else (0, 0)
theorem costAt_end {l : List ByteArray} (hok : okTexts l) {b : ByteArray} (hb : b.size ≤ 1024) {a : Nat} (ha : a < b.size) : costAt l b a (steps l b a).length = costFrom l b a := by
 funext i
 unfold costAt costFrom
 rw [place_end hok hb ha]
 by_cases h : i = a
 ·subst h
  rw [if_pos rfl, if_pos (Nat.le_refl _)]
 ·rw [if_neg h]
  by_cases h2 : a + 1 ≤ i
  ·rw [if_pos h2, if_pos (by omega)]
  ·rw [if_neg h2, if_neg (by omega)]
theorem stepAt_end {l : List ByteArray} (hok : okTexts l) {b : ByteArray} (hb : b.size ≤ 1024) {a : Nat} (ha : a < b.size) : stepAt l b a (steps l b a).length = stepFrom l b a := by
 funext i
 unfold stepAt stepFrom
 rw [place_end hok hb ha]
 by_cases h : i = a
 ·subst h
  rw [if_pos rfl, if_pos (Nat.le_refl _)]
 ·rw [if_neg h]
  by_cases h2 : a + 1 ≤ i
  ·rw [if_pos h2, if_pos (by omega)]
  ·rw [if_neg h2, if_neg (by omega)]
theorem lessB_lt (x y : Cst) : lessB x.1 x.2 y.1 y.2 = decide (lt x y) := by
 unfold lessB lt
 by_cases h : x.1 = y.1
 ·rw [if_pos h]
  apply decide_eq_decide.2
  omega
 ·rw [if_neg h]
  apply decide_eq_decide.2
  omega
theorem run_store_complex (P : Program) (w : World) (a : Addr) (m : Mode) (k : FloatKind) (x y : Nat) : (store a (.complex k x y) m).run P w = stored P w a (.complex k x y) m := run_store P w a _ m rfl
attribute [local go_sem] run_store_complex
theorem place_bound {l : List ByteArray} (hok : okTexts l) {b : ByteArray} (hb : b.size ≤ 1024) {a : Nat} (ha : a < b.size) (k : Nat) : (atPlace l b a k).1.1 ≤ 1099511627776 ∧ (atPlace l b a k).1.2 ≤ 1099511627776 ∧ (atPlace l b a k).2.2 ≤ 1024 := by
 have hst : stq l b (b.size - a) = steps l b a := by unfold stq; rw [if_neg (by omega), show b.size - (b.size - a) = a by omega]
 have hf := fine hok hb
 have hlt := by_lt hf (b.size - a) (by omega)
 rw [hst] at hlt
 rcases best_so_far (by_ (stq l b) oc (b.size - a)) ((steps l b a).take k) (fun s hs => hlt s (List.mem_of_mem_take hs)) with ⟨_, h⟩ | ⟨h1, h2, _, _⟩
 ·have h : atPlace l b a k = (M, (0, 0)) := h
  rw [h]
  unfold M
  exact ⟨Nat.le_refl _, Nat.le_refl _, Nat.zero_le _⟩
 ·have h1 : (atPlace l b a k).2 ∈ (steps l b a).take k := h1
  have h2 : (atPlace l b a k).1 = by_ (stq l b) oc (b.size - a) (atPlace l b a k).2 := h2
  have h3 := steps_fit hok ha (List.mem_of_mem_take h1)
  have h4 := oc_tok _ h3.2.2.1 h3.2.2.2
  have h5 := V_bound hf (b.size - a - (atPlace l b a k).2.2) (by omega)
  rw [h2]
  unfold by_ add
  simp only
  omega
theorem VV_bound {l : List ByteArray} (hok : okTexts l) {b : ByteArray} (hb : b.size ≤ 1024) (i : Nat) : (VV l b i).1 ≤ 1024 ∧ (VV l b i).2 ≤ 40960 := by
 have := V_bound (fine hok hb) (b.size - i) (by omega)
 unfold VV
 omega
theorem less_lit (T B U C : Nat) (w : World) (h1 : T < big) (h2 : B < big) (h3 : U < big) (h4 : C < big) : Calls Tryz.prog 96 #[.complex .f64 (fl T) (fl B), .complex .f64 (fl U) (fl C)] w fun e w' => e = .returned (.bool (lessB T B U C)) ∧ w' = w := less_any T B U C w h1 h2 h3 h4
theorem costAt_same {l : List ByteArray} {b : ByteArray} {a k : Nat} (h : atPlace l b a (k + 1) = atPlace l b a k) : costAt l b a (k + 1) = costAt l b a k := by unfold costAt; rw [h]
theorem stepAt_same {l : List ByteArray} {b : ByteArray} {a k : Nat} (h : atPlace l b a (k + 1) = atPlace l b a k) : stepAt l b a (k + 1) = stepAt l b a k := by unfold stepAt; rw [h]
theorem costAt_new {l : List ByteArray} {b : ByteArray} {a k : Nat} {X : Cst} {s : Stp} (h : atPlace l b a (k + 1) = (X, s)) (j : Nat) : (if j = a then X else costAt l b a k j) = costAt l b a (k + 1) j := by
 unfold costAt
 rw [h]
 by_cases hj : j = a
 ·rw [if_pos hj, if_pos hj]
 ·rw [if_neg hj, if_neg hj, if_neg hj]
theorem stepAt_new {l : List ByteArray} {b : ByteArray} {a k : Nat} {X : Cst} {s : Stp} (h : atPlace l b a (k + 1) = (X, s)) (j : Nat) : (if j = a then s else stepAt l b a k j) = stepAt l b a (k + 1) j := by
 unfold stepAt
 rw [h]
 by_cases hj : j = a
 ·rw [if_pos hj, if_pos hj]
 ·rw [if_neg hj, if_neg hj, if_neg hj]
theorem upd_new (cost : Stp → Cst) (r : Cst × Stp) (s : Stp) (h : lt (cost s) r.1 ∨ (cost s = r.1 ∧ r.2.2 < s.2)) : upd cost r s = (cost s, s) := if_pos h
theorem upd_same (cost : Stp → Cst) (r : Cst × Stp) (s : Stp) (h : ¬ (lt (cost s) r.1 ∨ (cost s = r.1 ∧ r.2.2 < s.2))) : upd cost r s = r := if_neg h
/-- A round that takes its step. -/
theorem round_new {l : List ByteArray} {b : ByteArray} {a k g gs K : Nat} {w3 W : World} {ff : Nat → Stp} {T B : Nat} {t : Int} {m : Nat} (haB : a < b.size) (hc : CBlk W g (b.size + 1) (costAt l b a k)) (hs : SBlk W (g + 1) b.size (stepAt l b a k)) (hsb : SBlk W gs K ff) (hch : Chg (fun k => k = g ∨ k = g + 1) w3 W) (hgs : g + 2 ≤ gs) (hp : atPlace l b a (k + 1) = ((T, B), (t, m))) (n : Nat) :
  Hid (CBlk ((((W.drewN n).setCell ⟨g, a, none⟩ (.complex .f64 (fl T) (fl B))).setCell ⟨g + 1, a * 2, none⟩ (.int .i64 t)).setCell ⟨g + 1, a * 2 + 1, none⟩ (.int .i64 m)) g (b.size + 1) (costAt l b a (k + 1)) ∧ SBlk ((((W.drewN n).setCell ⟨g, a, none⟩ (.complex .f64 (fl T) (fl B))).setCell ⟨g + 1, a * 2, none⟩ (.int .i64 t)).setCell ⟨g + 1, a * 2 + 1, none⟩ (.int .i64 m)) (g + 1) b.size (stepAt l b a (k + 1)) ∧ SBlk ((((W.drewN n).setCell ⟨g, a, none⟩ (.complex .f64 (fl T) (fl B))).setCell ⟨g + 1, a * 2, none⟩ (.int .i64 t)).setCell ⟨g + 1, a * 2 + 1, none⟩ (.int .i64 m)) gs K ff ∧ Chg (fun k => k = g ∨ k = g + 1) w3 ((((W.drewN n).setCell ⟨g, a, none⟩ (.complex .f64 (fl T) (fl B))).setCell ⟨g + 1, a * 2, none⟩ (.int .i64 t)).setCell ⟨g + 1, a * 2 + 1, none⟩ (.int .i64 m))) := by
 have hc' : CBlk (W.drewN n) g (b.size + 1) (costAt l b a k) := hc.heap rfl
 have hs' : SBlk (W.drewN n) (g + 1) b.size (stepAt l b a k) := hs.heap rfl
 have hsb' : SBlk (W.drewN n) gs K ff := hsb.heap rfl
 refine ⟨?_, ?_, ?_, ?_⟩
 ·refine ((hc'.set a (by omega) (T, B)).far ?_ _).far ?_ _ |>.congr (fun j _ => costAt_new hp j)
  ·show g ≠ g + 1; omega
  ·show g ≠ g + 1; omega
 ·exact ((hs'.far (p := ⟨g, a, none⟩) (by show g + 1 ≠ g; omega) (Cost.cx T B)).set a haB (t, m)).congr (fun j _ => stepAt_new hp j)
 ·refine ((hsb'.far ?_ _).far ?_ _).far ?_ _
  ·show gs ≠ g; omega
  ·show gs ≠ g + 1; omega
  ·show gs ≠ g + 1; omega
 ·exact (((hch.trans (Chg.drewN (Chg.refl _ _) n)).setCell (fun _ => .inl rfl) _).setCell (fun _ => .inr rfl) _).setCell (fun _ => .inr rfl) _
theorem round_same {l : List ByteArray} {b : ByteArray} {a k g gs K : Nat} {w3 W : World} {ff : Nat → Stp} (hc : CBlk W g (b.size + 1) (costAt l b a k)) (hs : SBlk W (g + 1) b.size (stepAt l b a k)) (hsb : SBlk W gs K ff) (hch : Chg (fun k => k = g ∨ k = g + 1) w3 W) (hp : atPlace l b a (k + 1) = atPlace l b a k) (n : Nat) :
  Hid (CBlk (W.drewN n) g (b.size + 1) (costAt l b a (k + 1)) ∧ SBlk (W.drewN n) (g + 1) b.size (stepAt l b a (k + 1)) ∧ SBlk (W.drewN n) gs K ff ∧ Chg (fun k => k = g ∨ k = g + 1) w3 (W.drewN n)) := by
 rw [costAt_same hp, stepAt_same hp]
 exact ⟨hc.heap rfl, hs.heap rfl, hsb.heap rfl, hch.trans (Chg.drewN (Chg.refl _ _) n)⟩
/-- What least leaves. -/
def LeastSays (l : List ByteArray) (b : ByteArray) (w : World) (e : Ending) (w' : World) : Prop :=
 ∃ g h, e = .returned (.tuple #[.slice (some ⟨g, 0, none⟩) (b.size + 1) (b.size + 1), .slice (some ⟨h, 0, none⟩) b.size b.size]) ∧ w.heap.size ≤ g ∧ w.heap.size ≤ h ∧
  CBlk w' g (b.size + 1) (costFrom l b 0) ∧ SBlk w' h b.size (stepFrom l b 0) ∧ Below w.heap.size w w'
set_option maxRecDepth 100000 in
set_option maxHeartbeats 4000000 in
theorem least_any (p : Option Addr) (l : List ByteArray) (b : ByteArray) (w : World) (h : DP w p l) (hok : okTexts l) (hb : b.size ≤ 1024) :
  Calls Tryz.prog 61 #[.pointer p, .string b] w (LeastSays l b w) := by
 have HD := Lib.hid h
 have HOK := Lib.hid hok
 have h100 := hok.1
 obtain ⟨MC, hMC, hmc⟩ := made_cost (b.size + 1) ((b.size : Int) + 1) (by omega) (by omega)
 obtain ⟨MS, hMS, hms⟩ := made_step b.size (by omega)
 have HMC := Lib.hid hMC
 have HMS := Lib.hid hMS
 have hbi : (b.size : Int) ≤ 1024 := by omega
 clear h hok hMC hMS
 go_enter Tryz.func61, Tryz.ntmps61
 go_wp2_with (fail)
 have hB1 : Below w.heap.size w ((w.alloc (.cells MC 154 (0, 0))).alloc (.cells MS 118 (0, 0))) := ((Below.refl _ w).alloc (Nat.le_refl _) _).alloc (by simp) _
 have hC1 : CBlk ((w.alloc (.cells MC 154 (0, 0))).alloc (.cells MS 118 (0, 0))) w.heap.size (b.size + 1) (costFrom l b b.size) := by
  refine CBlk.alloc ⟨MC, heap_alloc_self _ _, fun j hj => ?_, HMC.out.1⟩ _
  rw [HMC.out.2 j hj]
  have : costFrom l b b.size j = (0, 0) := by
   unfold costFrom
   by_cases h : b.size ≤ j
   ·rw [if_pos h]
    unfold VV
    rw [show b.size - j = 0 by omega]
    rfl
   ·rw [if_neg h]
  rw [this]
  unfold cx
  rw [fl_zero]
 have hS1 : SBlk ((w.alloc (.cells MC 154 (0, 0))).alloc (.cells MS 118 (0, 0))) (w.heap.size + 1) b.size (stepFrom l b b.size) := by
  refine ⟨MS, ?_, fun j hj => ?_⟩
  ·have := heap_alloc_self (w.alloc (.cells MC 154 (0, 0))) (.cells MS 118 (0, 0))
   simpa using this
  ·have : stepFrom l b b.size j = (0, 0) := by unfold stepFrom; rw [if_neg (by omega)]
   rw [this]
   exact HMS.out j hj
 have hDW := HD.out.below hB1
 have hsz : ((w.alloc (.cells MC 154 (0, 0))).alloc (.cells MS 118 (0, 0))).heap.size = w.heap.size + 2 := by simp
 generalize hW1 : (w.alloc (.cells MC 154 (0, 0))).alloc (.cells MS 118 (0, 0)) = W1 at *
 have HB1 := Lib.hid hB1
 have HC1 := Lib.hid hC1
 have HS1 := Lib.hid hS1
 have HDW := Lib.hid hDW
 have HSZ := Lib.hid hsz
 clear hB1 hC1 hS1 hDW hsz hW1 HD hmc hms HMC HMS
 obtain ⟨g, hg⟩ : ∃ g, w.heap.size = g := ⟨_, rfl⟩
 have HG := Lib.hid hg
 rw [hg] at HC1 HS1 HSZ ⊢
 clear hg
 refine (all_any p l W1 HDW.out h100).mono ?_
 rintro e w3 ⟨v3, rfl, hr3, hb3⟩
 obtain ⟨A3, c3, rfl⟩ := Kd.R_slice hr3
 rw [HSZ.out] at hr3
 have HR3 := Lib.hid hr3
 have HC3 := Lib.hid (HC1.out.bel hb3)
 have HS3 := Lib.hid (HS1.out.bel hb3)
 have HB3 := Lib.hid (Ints.bel_trans HB1.out HB1.out.size hb3)
 clear hr3 hb3 HC1 HS1 HB1 HDW
 go_wp2_with (fail)
 go_loopg [9] b.size (fun j i wr => i = .int .i64 ((j : Int) - 1) ∧ j ≤ b.size ∧ Hid (CBlk wr g (b.size + 1) (costFrom l b j) ∧ SBlk wr (g + 1) b.size (stepFrom l b j) ∧ Chg (fun k => k = g ∨ k = g + 1) w3 wr))
 case atStart => exact ⟨by go_num, Nat.le_refl _, HC3.out, HS3.out, Chg.refl _ _⟩
 case round =>
  obtain ⟨wo, rfl⟩ : ∃ x : World, x = wr := ⟨_, rfl⟩
  obtain ⟨rfl, hj, HI⟩ := hrel
  clear HC3 HS3
  obtain ⟨hc, hs, hch⟩ := HI.out
  cases gk with
  | zero =>
    have HC4 := Lib.hid hc
    have HS4 := Lib.hid hs
    have HB4 := Lib.hid (show Below w.heap.size w wo from HB3.out.trans (hch.below (B := w.heap.size) HB3.out.size (fun k hk => by have := HG.out; omega)))
    clear hc hs hch HI
    go_wp2_with (fail)
    go_ret2
    exact ⟨g, g + 1, rfl, by have := HG.out; omega, by have := HG.out; omega, HC4.out, HS4.out, HB4.out⟩
  | succ a =>
    rw [show ((a + 1 : Nat) : Int) - 1 = a by omega]
    have haB : a < b.size := by omega
    have a0 : (0 : Int) ≤ a := by omega
    have a1 : (a : Int) < (b.size : Int) := by omega
    have a3 : (a : Int) < (b.size : Int) + 1 := by omega
    have a2 : ((a : Int)).toNat = a := by omega
    have c0 := hc.cell a (by omega)
    have c1 := hc.frozen a
    have HC4 := Lib.hid hc
    have HS4 := Lib.hid hs
    have HCH := Lib.hid hch
    have HJ := Lib.hid hj
    clear hc hs hch HI hj
    go_wp2_with (fail)
    refine (most_any _).mono ?_
    rintro e w4 ⟨rfl, rfl⟩
    unfold cx
    have HC5 := Lib.hid (show CBlk (w4.setCell ⟨g, a, none⟩ (.complex .f64 (fl 1099511627776) (fl 1099511627776))) g (b.size + 1) (costAt l b a 0) from (HC4.out.set a (by omega) M).congr (fun j hj => by
     unfold costAt costFrom
     rw [place_zero]))
    have HS5 := Lib.hid (show SBlk (w4.setCell ⟨g, a, none⟩ (.complex .f64 (fl 1099511627776) (fl 1099511627776))) (g + 1) b.size (stepAt l b a 0) from (HS4.out.far (by simp) _).congr (fun j hj => by
     unfold stepAt stepFrom
     rw [place_zero]
     by_cases h : j = a
     ·rw [if_pos h, if_neg (by omega)]
     ·rw [if_neg h]))
    have HCH5 := Lib.hid (show Chg (fun k => k = g ∨ k = g + 1) w3 (w4.setCell ⟨g, a, none⟩ (.complex .f64 (fl 1099511627776) (fl 1099511627776))) from HCH.out.setCell (p := ⟨g, a, none⟩) (fun _ => .inl rfl) _)
    go_wp2_with (fail)
    generalize w4.setCell ⟨g, a, none⟩ (.complex .f64 (fl 1099511627776) (fl 1099511627776)) = W5 at *
    clear c0 c1 HC4 HS4 HCH
    have HR5 := Lib.hid (R_keep HR3.out HCH5.out (fun k hk => by omega))
    refine (steps_any A3 c3 l b a W5 ((Kd.R_reads' HR5.out).2.2) HOK.out haB hb).mono ?_
    rintro e w6 ⟨v6, rfl, hr6, hb6⟩
    have hlen := steps_len l b a
    obtain ⟨gs, cs, rfl, hge, hsb⟩ := SBlk_of_R hr6 (by omega)
    obtain ⟨K, hK⟩ : ∃ K, (steps l b a).length = K := ⟨_, rfl⟩
    rw [hK] at hsb hlen ⊢
    have HC6 := Lib.hid (HC5.out.bel hb6)
    have HS6 := Lib.hid (HS5.out.bel hb6)
    have HCH6 := Lib.hid (show Chg (fun k => k = g ∨ k = g + 1) w3 w6 from HCH5.out.trans (Chg.of_below hb6))
    have HSB := Lib.hid hsb
    have HGE := Lib.hid (show g + 2 ≤ gs from by have h1 := HS5.out.lt; omega)
    have HK := Lib.hid hK
    have k101 : (K : Int) ≤ 101 := by omega
    clear hr6 hb6 hge hsb hlen hK HC5 HS5 HCH5 HR5
    go_wp2_with (fail)
    go_loopg [38] K (fun j i wr => ∃ k : Nat, k + j = K ∧ i = .int .i64 k ∧ Hid (CBlk wr g (b.size + 1) (costAt l b a k) ∧ SBlk wr (g + 1) b.size (stepAt l b a k) ∧ SBlk wr gs K (fun j => (steps l b a).getD j (0, 0)) ∧ Chg (fun k => k = g ∨ k = g + 1) w3 wr))
    case atStart => exact ⟨0, by omega, rfl, HC6.out, HS6.out, HSB.out, HCH6.out⟩
    case round =>
     obtain ⟨k, hk, rfl, HI⟩ := hrel
     clear HC6 HS6 HSB HCH6
     obtain ⟨hc, hs, hsb, hch⟩ := HI.out
     by_cases hlt : k < K
     ·have hkl : k < (steps l b a).length := by have := HK.out; omega
      have hmem : (steps l b a).getD k (0, 0) ∈ steps l b a := by rw [List.getD_eq_getElem?_getD, List.getElem?_eq_getElem hkl]; exact List.getElem_mem hkl
      have hfit := steps_fit HOK.out haB hmem
      have s0 := hsb.tok k hlt
      have s1 := hsb.len k hlt
      have hps := place_succ l b a k hkl
      have hbp := by_place l b a ((steps l b a).getD k (0, 0)) (by omega)
      have hpb := place_bound HOK.out hb haB k
      obtain ⟨⟨t, m⟩, hst⟩ : ∃ s, (steps l b a).getD k (0, 0) = s := ⟨_, rfl⟩
      rw [hst] at hfit hps hbp
      simp only [hst] at s0 s1
      have g0 := hc.cell (a + m) (by omega)
      have g1 := hc.cell a (by omega)
      have g2 := hs.len a haB
      have hv : costAt l b a k (a + m) = VV l b (a + m) := by unfold costAt; rw [if_neg (by omega), if_pos (by omega)]
      have hcur : costAt l b a k a = (atPlace l b a k).1 := by unfold costAt; rw [if_pos rfl]
      have hfcur : stepAt l b a k a = (atPlace l b a k).2 := by unfold stepAt; rw [if_pos rfl]
      rw [hv] at g0
      rw [hcur] at g1
      rw [hfcur] at g2
      have hvb := VV_bound HOK.out hb (a + m)
      have hob := oc_tok t hfit.2.2.1 hfit.2.2.2
      obtain ⟨⟨T2, B2⟩, hV⟩ : ∃ x, VV l b (a + m) = x := ⟨_, rfl⟩
      obtain ⟨⟨⟨T3, B3⟩, ⟨ft, fm⟩⟩, hA⟩ : ∃ x, atPlace l b a k = x := ⟨_, rfl⟩
      rw [hV] at g0 hvb hbp
      rw [hA] at g1 g2 hpb hps
      obtain ⟨B1, hB1⟩ : ∃ x, 8 * vlen t = x := ⟨_, rfl⟩
      have hcT : cT t = 1 := hob.1
      have hoc : oc t = (1, B1) := by unfold oc; rw [hcT, hB1]
      rw [hoc] at hob hbp
      have hB40 : B1 ≤ 40 := hob.2
      have hof := fun W => of_any t W
      rw [hcT, hB1] at hof
      simp only at g0 g1 g2 hvb hpb
      unfold cx at g0 g1 hof
      have had := fun W => addc_fl (T := 1) (B := B1) (U := T2) (C := B2) (by have : big = 9007199254740992 := rfl; omega) (by have : big = 9007199254740992 := rfl; omega) W
      have HG0 := Lib.hid (show ∀ W, CBlk W g (b.size + 1) (costAt l b a k) → W.cell? ⟨g, a + m, none⟩ = some (.complex .f64 (fl T2) (fl B2)) from fun W hW => by
       have := hW.cell (a + m) (by have := hfit.2.1; simp only at this; omega)
       rw [hv, hV] at this
       exact this)
      have HG1 := Lib.hid (show ∀ W, CBlk W g (b.size + 1) (costAt l b a k) → W.cell? ⟨g, a, none⟩ = some (.complex .f64 (fl T3) (fl B3)) from fun W hW => by
       have := hW.cell a (by omega)
       rw [hcur, hA] at this
       exact this)
      have HG2 := Lib.hid (show ∀ W, SBlk W (g + 1) b.size (stepAt l b a k) → W.cell? ⟨g + 1, a * 2 + 1, none⟩ = some (.int .i64 fm) ∧ (∃ x, W.cell? ⟨g + 1, a * 2, none⟩ = some x) from fun W hW => by
       have := hW.len a haB
       rw [hfcur, hA] at this
       exact ⟨this, _, hW.tok a haB⟩)
      have hbg : big = 9007199254740992 := rfl
      have b1 : 1 + T2 < big := by omega
      have b2 : B1 + B2 < big := by omega
      have b3 : T3 < big := by omega
      have b4 : B3 < big := by omega
      have HLS := Lib.hid (fun W => less_lit (1 + T2) (B1 + B2) T3 B3 W b1 b2 b3 b4)
      have e0 : (FloatKind.f64.format.order (fl (1 + T2)) (fl T3) == some Ordering.eq) = decide (1 + T2 = T3) := eq_fl b1 b3
      have e1 : (FloatKind.f64.format.order (fl (B1 + B2)) (fl B3) == some Ordering.eq) = decide (B1 + B2 = B3) := eq_fl b2 b4
      have HE0 := Lib.hid e0
      have HE1 := Lib.hid e1
      have HOF := Lib.hid hof
      have HAD := Lib.hid had
      have HPS := Lib.hid hps
      have HBP := Lib.hid hbp
      have HA := Lib.hid hA
      have HC := Lib.hid hc
      have HS := Lib.hid hs
      have HSB := Lib.hid hsb
      have HCH := Lib.hid hch
      have HKK := Lib.hid hk
      have i0 : (0 : Int) ≤ k := by omega
      have i1 : (k : Int) < (K : Int) := by omega
      have i2 : ((k : Int)).toNat = k := by omega
      obtain ⟨m1, m2, t0, t1⟩ := hfit
      simp only at m1 m2 t0 t1
      have mi : (m : Int) ≤ 1024 := by omega
      have n0 : (0 : Int) ≤ (a : Int) + (m : Int) := by omega
      have n1 : (a : Int) + (m : Int) < (b.size : Int) + 1 := by omega
      have n2 : ((a : Int) + (m : Int)).toNat = a + m := by omega
      have hfm : (fm : Int) ≤ 1024 := by omega
      have wv : IntKind.i64.wrap ((a : Int) + (m : Int)) = (a : Int) + (m : Int) := by rw [IntKind.wrap_i64]; omega
      have n3 : (0 : Int) ≤ (a : Int) + (m : Int) ∧ (a : Int) + (m : Int) < (b.size : Int) + 1 := ⟨n0, n1⟩
      clear e0 e1 hof had hps hbp hA hc hs hsb hch hk hbg b1 b2 b3 b4 hst hmem hv hcur hfcur hV hvb hob hB1 hcT hoc hB40 hpb hkl HI
      go_upto_region 11 with (fail)
      have HP9 := Lib.hid (show (wr.alloc (.cells #[.int .i64 t, .int .i64 m] 118 (0, 0))).heap[wr.heap.size]? = some (.cells #[.int .i64 t, .int .i64 m] 118 (0, 0)) from heap_alloc_self _ _)
      have HC9 := Lib.hid (HC.out.alloc (.cells #[.int .i64 t, .int .i64 m] 118 (0, 0)))
      have HS9 := Lib.hid (HS.out.alloc (.cells #[.int .i64 t, .int .i64 m] 118 (0, 0)))
      have HSB9 := Lib.hid (HSB.out.alloc (.cells #[.int .i64 t, .int .i64 m] 118 (0, 0)))
      have HCH9 := Lib.hid (HCH.out.alloc (.cells #[.int .i64 t, .int .i64 m] 118 (0, 0)))
      have HPG := Lib.hid (show g + 1 < wr.heap.size from HS.out.lt)
      have HPS9 := Lib.hid (show gs < wr.heap.size from HSB.out.lt)
      obtain ⟨q, hq⟩ : ∃ q, wr.heap.size = q := ⟨_, rfl⟩
      rw [hq] at HP9 HPG HPS9 ⊢
      generalize wr.alloc (.cells #[.int .i64 t, .int .i64 m] 118 (0, 0)) = W9 at *
      go_cut [12] (fun cv wc => cv = .complex .f64 (fl (1 + T2)) (fl (B1 + B2)) ∧ Hid (wc.heap[q]? = some (.cells #[.int .i64 t, .int .i64 m] 118 (0, 0)) ∧ CBlk wc g (b.size + 1) (costAt l b a k) ∧ SBlk wc (g + 1) b.size (stepAt l b a k) ∧ SBlk wc gs K (fun j => (steps l b a).getD j (0, 0)) ∧ Chg (fun k => k = g ∨ k = g + 1) w3 wc))
      case first =>
       obtain ⟨q0, q1, _, _⟩ := two_cells HP9.out
       have r0 := HG0.out _ HC9.out
       have ad := HAD.out
       clear s0 s1 g0 g1 g2
       go_region_law (first
        | (go_simp; go_at_call 95; refine (HOF.out _).mono ?_; rintro e w7 ⟨rfl, hb7⟩; have HB7 := Lib.hid hb7; have HP7 := Lib.hid ((hb7.block q (show q < _ from blk_lt HP9.out)).trans HP9.out); have HC7 := Lib.hid ((show CBlk W9.drew g (b.size + 1) (costAt l b a k) from HC9.out.heap rfl).bel hb7); obtain ⟨x0, x1, _, _⟩ := two_cells HP7.out; have y0 := HG0.out _ HC7.out; clear hb7))
       all_goals
        go_wp2_with (fail)
        go_meet
        case rel => exact ⟨rfl, HP7.out, HC7.out, (show SBlk W9.drew (g + 1) b.size (stepAt l b a k) from HS9.out.heap rfl).bel HB7.out, (show SBlk W9.drew gs K _ from HSB9.out.heap rfl).bel HB7.out, (show Chg (fun k => k = g ∨ k = g + 1) w3 W9.drew from HCH9.out.drew).trans (Chg.of_below HB7.out)⟩
      case rest =>
       obtain ⟨rfl, HW⟩ := hcut
       clear HC HS HSB HCH HC9 HS9 HSB9 HCH9 HP9 s0 s1 g0 g1 g2
       obtain ⟨hp, hc, hs, hsb, hch⟩ := HW.out
       obtain ⟨q0, q1, q2, q3⟩ := two_cells hp
       have y1 := HG1.out _ hc
       obtain ⟨y2, z2, y3⟩ := HG2.out _ hs
       have f1 := hc.frozen a
       have f2 := hs.frozen (a * 2)
       have f3 := hs.frozen (a * 2 + 1)
       have hll := lessB_lt (1 + T2, B1 + B2) (T3, B3)
       simp only at hll
       by_cases hL : lt (1 + T2, B1 + B2) (T3, B3)
       ·have HPR := Lib.hid (show atPlace l b a (k + 1) = ((1 + T2, B1 + B2), (t, m)) by rw [HPS.out, upd_new _ _ _ (by rw [HBP.out]; exact Or.inl hL), HBP.out]; rfl)
        have hl1 : lessB (1 + T2) (B1 + B2) T3 B3 = true := by rw [hll]; exact decide_eq_true hL
        have hls := HLS.out
        rw [hl1] at hls
        have HLT := Lib.hid hls
        clear hll hls
        go_wp2_with (fail)
        go_quiet ((go_at_call 96; exact Calls.quiet_of_same (HLT.out _)))
        go_wp2_with (fail)
        have hqg : q ≠ g := by have := HPG.out; omega
        have hqg1 : q ≠ g + 1 := by have := HPG.out; omega
        have HNX := Lib.hid (fun n => round_new haB hc hs hsb hch HGE.out HPR.out n)
        clear hp hc hs hsb hch HW
        go_region
        all_goals
         go_wp2_with (fail)
         go_roundg (K - (k + 1))
         case measure => have := HKK.out; omega
         case rel => exact ⟨k + 1, by have := HKK.out; omega, by go_num, HNX.out _⟩
       ·by_cases hE : 1 + T2 = T3 ∧ B1 + B2 = B3 ∧ fm < m
        ·have HPR := Lib.hid (show atPlace l b a (k + 1) = ((1 + T2, B1 + B2), (t, m)) by rw [HPS.out, upd_new _ _ _ (by rw [HBP.out]; exact Or.inr ⟨Prod.ext hE.1 hE.2.1, hE.2.2⟩), HBP.out]; rfl)
         have hl1 : lessB (1 + T2) (B1 + B2) T3 B3 = false := by rw [hll]; exact decide_eq_false hL
         have hls := HLS.out
         rw [hl1] at hls
         have HLT := Lib.hid hls
         have e0 := HE0.out
         have e1 := HE1.out
         rw [decide_eq_true hE.1] at e0
         rw [decide_eq_true hE.2.1] at e1
         have hfi : (fm : Int) < (m : Int) := by omega
         clear hll hls hE hL
         go_wp2_with (fail)
         go_quiet ((go_at_call 96; exact Calls.quiet_of_same (HLT.out _)))
         go_wp2_with (fail)
         have hqg : q ≠ g := by have := HPG.out; omega
         have hqg1 : q ≠ g + 1 := by have := HPG.out; omega
         have HNX := Lib.hid (fun n => round_new haB hc hs hsb hch HGE.out HPR.out n)
         clear hp hc hs hsb hch HW e0 e1
         go_region
         all_goals
          go_wp2_with (fail)
          go_roundg (K - (k + 1))
          case measure => have := HKK.out; omega
          case rel => exact ⟨k + 1, by have := HKK.out; omega, by go_num, HNX.out _⟩
        ·have HPR := Lib.hid (show atPlace l b a (k + 1) = atPlace l b a k by
          rw [HPS.out, HA.out]
          refine upd_same _ _ _ ?_
          rw [HBP.out]
          rintro (h | ⟨h1, h2⟩)
          ·exact hL h
          ·have h3 : (1 + T2, B1 + B2) = (T3, B3) := h1
           simp only [Prod.mk.injEq] at h3
           exact hE ⟨h3.1, h3.2, h2⟩)
         have hl1 : lessB (1 + T2) (B1 + B2) T3 B3 = false := by rw [hll]; exact decide_eq_false hL
         have hls := HLS.out
         rw [hl1] at hls
         have HLT := Lib.hid hls
         have HNX := Lib.hid (fun n => round_same (gs := gs) hc hs hsb hch HPR.out n)
         clear hll hls hL
         by_cases hE1 : 1 + T2 = T3
         ·have e0 := HE0.out
          rw [decide_eq_true hE1] at e0
          by_cases hE2 : B1 + B2 = B3
          ·have e1 := HE1.out
           rw [decide_eq_true hE2] at e1
           have hfi : (m : Int) ≤ (fm : Int) := by
            rcases Nat.lt_or_ge fm m with h | h
            ·exact absurd ⟨hE1, hE2, h⟩ hE
            ·omega
           clear hE hE1 hE2 hp hc hs hsb hch HW
           go_wp2_with (fail)
           go_quiet ((go_at_call 96; exact Calls.quiet_of_same (HLT.out _)))
           clear e0 e1
           go_wp2_with (fail)
           go_roundg (K - (k + 1))
           case measure => have := HKK.out; omega
           case rel => exact ⟨k + 1, by have := HKK.out; omega, by go_num, HNX.out _⟩
          ·have e1 := HE1.out
           rw [decide_eq_false hE2] at e1
           clear hE hE1 hE2 hp hc hs hsb hch HW
           go_wp2_with (fail)
           go_quiet ((go_at_call 96; exact Calls.quiet_of_same (HLT.out _)))
           clear e0 e1
           go_wp2_with (fail)
           go_roundg (K - (k + 1))
           case measure => have := HKK.out; omega
           case rel => exact ⟨k + 1, by have := HKK.out; omega, by go_num, HNX.out _⟩
         ·have e0 := HE0.out
          rw [decide_eq_false hE1] at e0
          clear hE hE1 hp hc hs hsb hch HW
          go_wp2_with (fail)
          go_quiet ((go_at_call 96; exact Calls.quiet_of_same (HLT.out _)))
          clear e0
          go_wp2_with (fail)
          go_roundg (K - (k + 1))
          case measure => have := HKK.out; omega
          case rel => exact ⟨k + 1, by have := HKK.out; omega, by go_num, HNX.out _⟩
     ·have hkK : k = K := by omega
      subst hkK
      have hce := costAt_end HOK.out hb haB
      have hse := stepAt_end HOK.out hb haB
      rw [HK.out] at hce hse
      rw [hce] at hc
      rw [hse] at hs
      have HC := Lib.hid hc
      have HS := Lib.hid hs
      have HCH := Lib.hid hch
      clear hc hs hsb hch hce hse HI
      go_wp2_with (fail)
      go_roundg a
      case measure => omega
      case rel => exact ⟨by go_num, by omega, HC.out, HS.out, HCH.out⟩
end Go.Proofs.YtfbbcfhdjhiejaaGreat.Best

/- Chapter 15: Costs and Parse: the walks. -/
namespace Go.Proofs.YtfbbcfhdjhiejaaGreat.Best
set_option linter.unusedVariables false
set_option linter.unusedSimpArgs false
open Go.RowKit Go.Proofs.YtfbbcfhdjhiejaaGreatW.PrintWords Go.Proofs.YtfbbcfhdjhiejaaGreatW.PrintMore Go.Proofs.YtfbbcfhdjhiejaaGreat.L Go.Proofs.YtfbbcfhdjhiejaaGreat.Texts Go.Proofs.YtfbbcfhdjhiejaaGreat.Dict Go.Proofs.YtfbbcfhdjhiejaaGreat.Ints Go.Proofs.YtfbbcfhdjhiejaaGreat.Greedy Go.Proofs.YtfbbcfhdjhiejaaGreat.Cost Go.Proofs.YtfbbcfhdjhiejaaGreat.Fl
/-! ### the tokens of a piece, and of all pieces -/
/-- The tokens of a piece from a place on. -/
def toks (l : List ByteArray) (s : ByteArray) (a : Nat) : List Int := (parse (stq l s) oc (s.size - a) (s.size - a)).map Prod.fst
theorem toks_end (l : List ByteArray) (s : ByteArray) (a : Nat) (h : s.size ≤ a) : toks l s a = [] := by
 unfold toks
 rw [show s.size - a = 0 by omega]
 rfl
theorem FF_fit {l : List ByteArray} (hok : okTexts l) {s : ByteArray} (hs : s.size ≤ 1024) {a : Nat} (ha : a < s.size) : 1 ≤ (FF l s a).2 ∧ (FF l s a).2 ≤ s.size - a ∧ 0 ≤ (FF l s a).1 ∧ (FF l s a).1 ≤ 1000 := by
 have h1 := (taken (fine hok hs) (s.size - a) (by omega) (by omega)).1
 unfold stq at h1
 rw [if_neg (by omega), show s.size - (s.size - a) = a by omega] at h1
 exact steps_fit hok ha h1
theorem toks_step {l : List ByteArray} (hok : okTexts l) {s : ByteArray} (hs : s.size ≤ 1024) {a : Nat} (ha : a < s.size) : toks l s a = (FF l s a).1 :: toks l s (a + (FF l s a).2) := by
 have hf := FF_fit hok hs ha
 unfold toks
 obtain ⟨f, hfq⟩ : ∃ f, s.size - a = f + 1 := ⟨s.size - a - 1, by omega⟩
 have hF : F (stq l s) oc (f + 1) = FF l s a := by unfold FF; rw [hfq]
 rw [hfq, parse, if_neg (by omega), hF, List.map_cons, parse_fuel (fine hok hs) f (s.size - (a + (FF l s a).2)) (f + 1 - (FF l s a).2) (by omega) (by omega) (by omega), show f + 1 - (FF l s a).2 = s.size - (a + (FF l s a).2) by omega]
def pieces (l : List ByteArray) (win : Nat) : Nat → ByteArray → List Int
 | 0, _ => []
 | f + 1, c => if c.size = 0 then [] else toks l (c.extract 0 (min win c.size)) 0 ++ pieces l win f (c.extract (min win c.size) c.size)
theorem ext_size (c : ByteArray) (m : Nat) (hm : m ≤ c.size) : (c.extract 0 m).size = m ∧ (c.extract m c.size).size = c.size - m := by
 rw [ByteArray.size_extract, ByteArray.size_extract]
 omega
theorem pieces_fuel (l : List ByteArray) (win : Nat) (hw : 1 ≤ win) : ∀ (f g : Nat) (c : ByteArray), c.size ≤ f → c.size ≤ g → pieces l win f c = pieces l win g c
 | 0, 0, c, _, _ => rfl
 | 0, g + 1, c, hf, _ => by rw [pieces, pieces, if_pos (by omega)]
 | f + 1, 0, c, _, hg => by rw [pieces, pieces, if_pos (by omega)]
 | f + 1, g + 1, c, hf, hg => by
   rw [pieces, pieces]
   by_cases h : c.size = 0
   ·rw [if_pos h, if_pos h]
   ·rw [if_neg h, if_neg h]
    have := (ext_size c (min win c.size) (by omega)).2
    rw [pieces_fuel l win hw f g _ (by omega) (by omega)]
/-- All tokens. -/
def best (l : List ByteArray) (win : Nat) (c : ByteArray) : List Int := pieces l win c.size c
theorem best_end (l : List ByteArray) (win : Nat) (c : ByteArray) (h : c.size = 0) : best l win c = [] := by unfold best; rw [h]; rfl
theorem best_step (l : List ByteArray) (win : Nat) (hw : 1 ≤ win) (c : ByteArray) (h : c.size ≠ 0) : best l win c = toks l (c.extract 0 (min win c.size)) 0 ++ best l win (c.extract (min win c.size) c.size) := by
 unfold best
 obtain ⟨f, hf⟩ : ∃ f, c.size = f + 1 := ⟨c.size - 1, by omega⟩
 have := (ext_size c (min win c.size) (by omega)).2
 rw [show pieces l win c.size c = pieces l win (f + 1) c by rw [hf], pieces, if_neg h, pieces_fuel l win hw f _ _ (by omega) (Nat.le_refl _)]
set_option maxRecDepth 100000 in
set_option maxHeartbeats 2000000 in
theorem parse_any (p : Option Addr) (l : List ByteArray) (b : ByteArray) (win : Nat) (w : World) (h : DP w p l) (hok : okTexts l) (hbs : b.size ≤ 1024) (hw : 1 ≤ win) (hw2 : win ≤ 1024) :
  Calls Tryz.prog 26 #[.pointer p, .string b, .int .i64 win] w fun e w' => ∃ v, e = .returned v ∧ KI.R 3 w' w.heap.size (fun _ => True) v (best l win b) ∧ Below w.heap.size w w' := by
 have H := Lib.hid h
 have HOK := Lib.hid hok
 have hbi : (b.size : Int) ≤ 1024 := by omega
 have hwi : (1 : Int) ≤ (win : Int) := by omega
 have hwi2 : (win : Int) ≤ 1024 := by omega
 clear h hok
 go_enter Tryz.func26, Tryz.ntmps26
 go_wp2_with (fail)
 go_loopg [1, 7] b.size (fun j x v wr => ∃ (c : ByteArray) (xs : List Int), x = .string c ∧ Hid (c.size ≤ j ∧ c.size + xs.length ≤ b.size ∧ best l win b = xs ++ best l win c ∧ KI.R 3 wr w.heap.size (fun _ => True) v xs ∧ Below w.heap.size w wr))
 case atStart => exact ⟨b, [], rfl, Nat.le_refl _, by simp, rfl, Kd.R_nil _ _ _ _ _, Below.refl _ _⟩
 case round =>
  obtain ⟨c, xs, rfl, HI⟩ := hrel
  obtain ⟨hcj, hcx, hgo, hr, hb⟩ := HI.out
  by_cases h0 : c.size = 0
  ·have : c = ⟨#[]⟩ := by
    apply ByteArray.ext
    exact Array.eq_empty_of_size_eq_zero h0
   subst this
   rw [best_end _ _ (⟨#[]⟩ : ByteArray) rfl, List.append_nil] at hgo
   have e0 : (⟨#[]⟩ : ByteArray).toList.isEmpty = true := by rw [ByteArray.toList_eq]; rfl
   have HGO := Lib.hid hgo
   have HR := Lib.hid hr
   have HB := Lib.hid hb
   clear hgo hr hb HI hcx hcj
   go_wp2_with (fail)
   go_ret
   exact ⟨_, rfl, by rw [HGO.out]; exact HR.out, HB.out⟩
  ·have hne := isEmpty_no h0
   obtain ⟨m, hm⟩ : ∃ m, min win c.size = m := ⟨_, rfl⟩
   have hmi : min (win : Int) (c.size : Int) = (m : Int) := by omega
   have hmm : min m c.size = m := by omega
   have hst := best_step l win hw c h0
   rw [hm] at hst
   obtain ⟨z1, z2⟩ := ext_size c m (by omega)
   have m0 : (0 : Int) ≤ (m : Int) := by omega
   have m1 : (m : Int) ≤ (c.size : Int) := by omega
   have mle : m ≤ c.size := by omega
   obtain ⟨s, hs⟩ : ∃ s, c.extract 0 m = s := ⟨_, rfl⟩
   obtain ⟨c', hc'⟩ : ∃ c', c.extract m c.size = c' := ⟨_, rfl⟩
   rw [hs, hc'] at hst
   rw [hst] at hgo
   rw [hs] at z1
   rw [hc'] at z2
   rw [← z1] at hc'
   have m4 : (s.size : Int) ≤ (c.size : Int) := by omega
   have HGO := Lib.hid hgo
   have HR := Lib.hid hr
   have HB := Lib.hid hb
   have HZ1 := Lib.hid z1
   have HZ2 := Lib.hid z2
   have HCX := Lib.hid hcx
   have HCJ := Lib.hid hcj
   have HM1 := Lib.hid (show 1 ≤ m by omega)
   have hsl : s.size ≤ 1024 := by omega
   obtain ⟨A5, c5, rfl⟩ := Kd.R_slice hr
   clear hst hgo hr hb HI hcx hcj z1 hm h0
   go_wp2_with (fail)
   refine (least_any _ _ _ _ (H.out.below HB.out) HOK.out hsl).mono ?_
   rintro e w1 ⟨g, h, rfl, hg, hh, _, hsb, hb1⟩
   have HSB := Lib.hid hsb
   have HHL := Lib.hid (show w.heap.size ≤ h by have := HB.out.size; omega)
   have HB1 := Lib.hid (Ints.bel_trans HB.out HB.out.size hb1)
   have HR1 := Lib.hid (Kd.R_below HR.out hb1)
   have HOW := Lib.hid (show ∀ k, Value.ownBlock (.slice A5 xs.length c5) = some k → k ≠ h from fun k hk => by have := own_lt HR.out k hk; omega)
   have HG2 := Lib.hid (show best l win b = xs ++ (toks l s 0 ++ best l win c') from HGO.out)
   clear hsb hg hh hb1 HB HR HGO
   go_wp2_with (fail)
   go_loopg [7, 11] s.size (fun j v i wq => ∃ (a : Nat) (ys : List Int), i = .int .i64 a ∧ Hid (a + j = s.size ∧ ys.length ≤ xs.length + a ∧ best l win b = ys ++ (toks l s a ++ best l win c') ∧ (∀ k, v.ownBlock = some k → k ≠ h) ∧ KI.R 3 wq w.heap.size (fun _ => True) v ys ∧ SBlk wq h s.size (stepFrom l s 0) ∧ Below w.heap.size w wq))
   case atStart => exact ⟨0, xs, rfl, by omega, Nat.le_refl _, HG2.out, HOW.out, HR1.out, HSB.out, HB1.out⟩
   case round =>
    obtain ⟨a, ys, rfl, HJ⟩ := hrel
    clear HOW HR1 HSB HB1 HG2
    obtain ⟨haj, hya, hgo, how, hr, hsb, hb⟩ := HJ.out
    by_cases hlt : a < s.size
    ·have hlti : (a : Int) < (s.size : Int) := by omega
     have hf := FF_fit HOK.out hsl hlt
     have ht := toks_step HOK.out hsl hlt
     have x0 := hsb.tok a hlt
     have x1 := hsb.len a hlt
     have hsf : stepFrom l s 0 a = FF l s a := by unfold stepFrom; rw [if_pos (Nat.zero_le _)]
     rw [hsf] at x0 x1
     obtain ⟨⟨T, F⟩, hT⟩ : ∃ x, FF l s a = x := ⟨_, rfl⟩
     rw [hT] at hf ht x0 x1
     simp only at hf ht x0 x1
     rw [ht] at hgo
     have HGO := Lib.hid hgo
     have HYA := Lib.hid hya
     have HAJ := Lib.hid haj
     have HOW := Lib.hid how
     have HR := Lib.hid hr
     have HSB := Lib.hid hsb
     have HB := Lib.hid hb
     obtain ⟨A6, c6, rfl⟩ := Kd.R_slice hr
     have s1 : ((a + F : Nat) : Int) = (a : Int) + (F : Int) := by omega
     have S1 := Lib.hid s1
     obtain ⟨f1, f2, f3, f4⟩ := hf
     have i0 : (0 : Int) ≤ (a : Int) := by omega
     have i2 : ((a : Int)).toNat = a := by omega
     have HT := Lib.hid hT
     clear hgo hya haj how hr hsb hb HJ hsf hT ht s1
     go_wp2_with (((with_reducible refine gate_builtin (b := .append) (xs := #[.tmp 52, .tmp 58]) rfl ?_); at_builtin; apply stopper))
     unfold Stopper
     refine Kd.R_append KI (w0 := w) w.heap.size rfl (.tmp 52) (.tmp 58) 26 3 (.int .i64 0) 8 rfl Tryz.underlying26 infoInt rfl (by decide) (by have := HYA.out; have := HCX.out; omega) (.slice A6 ys.length c6) ys T [.int .i64 T] (fun _ => True) (fun _ => False) rfl rfl rfl (fun _ hk => hk.elim) (fun _ _ => trivial) HR.out HB.out HB.out.size (by have := HYA.out; have := HCX.out; omega) ?_
     intro v1 w2 ho hb2 hg2 hat2
     have HR2 := Lib.hid ho
     have HB2 := Lib.hid hb2
     have HSB2 := Lib.hid (HSB.out.heap (hg2.block h HSB.out.lt (fun e => HOW.out h e.symm rfl)))
     have HOW2 := Lib.hid (show ∀ k, v1.ownBlock = some k → k ≠ h from fun k hk => by
      rcases hat2 with e | ⟨b', e, hb'⟩
      ·exact HOW.out k (e ▸ hk)
      ·rw [e] at hk
       injection hk with hk
       have := HSB.out.lt
       omega)
     have x2 := HSB2.out.len a hlt
     have hsf : stepFrom l s 0 a = FF l s a := by unfold stepFrom; rw [if_pos (Nat.zero_le _)]
     rw [hsf, HT.out] at x2
     simp only at x2
     clear ho hb2 hg2 hat2 HR HB HSB HOW x0 x1 hsf
     go_wp2_with (fail)
     go_roundg (s.size - (a + F))
     case measure => have := HAJ.out; omega
     case rel => exact ⟨a + F, ys ++ [T], by rw [S1.out], by omega, by rw [List.length_append]; have := HYA.out; simp; omega, by rw [HGO.out, List.append_assoc]; rfl, HOW2.out, HR2.out, HSB2.out, HB2.out⟩
    ·have hge : (s.size : Int) ≤ (a : Int) := by omega
     rw [toks_end l s a (by omega), List.nil_append] at hgo
     have HGO := Lib.hid hgo
     have HYA := Lib.hid hya
     have HR := Lib.hid hr
     have HB := Lib.hid hb
     clear hgo hr hb HJ hya how hsb
     go_wp2_with (fail)
     go_roundg c'.size
     case measure => have := HCJ.out; have := HM1.out; have := HZ2.out; omega
     case rel => exact ⟨c', ys, rfl, Nat.le_refl _, by have := HYA.out; have := HCX.out; have := HZ1.out; have := HZ2.out; omega, HGO.out, HR.out, HB.out⟩
end Go.Proofs.YtfbbcfhdjhiejaaGreat.Best

/- Chapter 16: what tokens mean. -/
namespace Go.Proofs.YtfbbcfhdjhiejaaGreat.Mean
set_option linter.unusedVariables false
set_option linter.unusedSimpArgs false
open Go.RowKit Go.Proofs.YtfbbcfhdjhiejaaGreatW.PrintWords Go.Proofs.YtfbbcfhdjhiejaaGreatW.PrintMore Go.Proofs.YtfbbcfhdjhiejaaGreat.L Go.Proofs.YtfbbcfhdjhiejaaGreat.Texts Go.Proofs.YtfbbcfhdjhiejaaGreat.Dict Go.Proofs.YtfbbcfhdjhiejaaGreat.Ints
/-! ### what is computed -/
def means (l : List ByteArray) (t : Int) : ByteArray := if t < 0 then no else if t < 256 then ⟨#[UInt8.ofNat t.toNat]⟩ else atL l (t - 256)
def isTok (l : List ByteArray) (t : Int) : Bool := decide (0 ≤ t ∧ t < 256 + (l.length : Int))
set_option maxRecDepth 100000 in
theorem text_any (p : Option Addr) (l : List ByteArray) (t : Int) (w : World) (h : DP w p l) (ht : -(2 ^ 63) ≤ t ∧ t < 2 ^ 63) :
  Calls Tryz.prog 128 #[.pointer p, .int .i64 t] w fun e w' => e = .returned (.string (means l t)) ∧ Below w.heap.size w w' := by
 have H := Lib.hid h
 clear h
 by_cases h0 : t < 0
 ·have hm := Lib.hid (show means l t = no by unfold means; rw [if_pos h0])
  go_enter Tryz.func128, Tryz.ntmps128
  go_wp2_with (fail)
  go_ret
  rw [hm.out]
  exact ⟨rfl, Below.refl _ _⟩
 ·by_cases h1 : t < 256
  ·have hm := Lib.hid (show means l t = ⟨#[UInt8.ofNat t.toNat]⟩ by unfold means; rw [if_neg h0, if_pos h1])
   obtain ⟨k, rfl⟩ := Int.eq_ofNat_of_zero_le (by omega : 0 ≤ t)
   have hw : IntKind.u8.wrap (k : Int) = k := by simp [IntKind.wrap, IntKind.bits, IntKind.signed]; omega
   have hcv : (convert 49 9 (.slice (some ⟨w.heap.size, 0, none⟩) 1 1)).run Tryz.prog (w.alloc (.cells #[.int .u8 k] 5)) = .ok (.string ⟨#[UInt8.ofNat k]⟩) (w.alloc (.cells #[.int .u8 k] 5)) :=
    own_string (P := Tryz.prog) (base := w.heap.size) (n := 1) (e' := 5) (xs := [(k : Int)]) Tryz.underlying49 Tryz.underlying5 Tryz.underlying9 ⟨rfl, .inr ⟨w.heap.size, 1, #[.int .u8 k], rfl, Nat.le_refl _, heap_alloc_new w _, Nat.le_refl _, by decide, rfl, rfl⟩⟩
   go_enter Tryz.func128, Tryz.ntmps128
   go_wp2_with (fail)
   go_ret
   rw [hm.out]
   exact ⟨rfl, (Below.refl _ w).alloc (Nat.le_refl _) _⟩
  ·have h00 : 256 ≤ t := by omega
   have hm := Lib.hid (show means l t = atL l (t - 256) by unfold means; rw [if_neg h0, if_neg h1])
   have hs : wrap64 (t - 256) = t - 256 := by unfold wrap64; omega
   clear h0 h1
   go_enter Tryz.func128, Tryz.ntmps128
   go_wp2_with (go_at_call 152; refine (at_any _ _ _ _ H.out).mono ?_; rintro e w1 ⟨rfl, rfl⟩)
   go_ret
   rw [hm.out]
   exact ⟨rfl, Below.refl _ _⟩
theorem len_any (p : Option Addr) (l : List ByteArray) (t : Int) (w : World) (h : DP w p l) (ht : -(2 ^ 63) ≤ t ∧ t < 2 ^ 63) :
  Calls Tryz.prog 105 #[.pointer p, .int .i64 t] w fun e w' => e = .returned (.int .i64 ((means l t).size : Nat)) ∧ Below w.heap.size w w' := by
 have H := Lib.hid h
 clear h
 go_enter Tryz.func105, Tryz.ntmps105
 go_wp2_with (fail)
 refine (text_any _ _ _ _ H.out ht).mono ?_
 rintro e w1 ⟨rfl, hb⟩
 have HB := Lib.hid hb
 clear hb
 go_wp2_with (fail)
 go_ret
 exact ⟨rfl, HB.out⟩
theorem right_any (p : Option Addr) (l : List ByteArray) (t : Int) (w : World) (h : DP w p l) (ht : -(2 ^ 63) ≤ t ∧ t < 2 ^ 63) :
  Calls Tryz.prog 70 #[.pointer p, .int .i64 t] w fun e w' => e = .returned (.bool (decide (0 < (means l t).size))) ∧ Below w.heap.size w w' := by
 have H := Lib.hid h
 clear h
 go_enter Tryz.func70, Tryz.ntmps70
 go_wp2_with (fail)
 refine (len_any _ _ _ _ H.out ht).mono ?_
 rintro e w1 ⟨rfl, hb⟩
 have HB := Lib.hid hb
 clear hb
 go_wp2_with (fail)
 go_ret
 exact ⟨rfl, HB.out⟩
/-! ### Of -/
/-- What tokens mean, behind bytes that are there: the code beside. -/
def meanGo (l : List ByteArray) (most : Int) : ByteArray → List Int → ByteArray × Int
 | acc, [] => (acc, 0)
 | acc, t :: ts => if (means l t).size = 0 then (no, 9) else if max most 0 - (acc.size : Int) < ((means l t).size : Int) then (no, 10) else meanGo l most (acc ++ means l t) ts
theorem meanGo_cons (l : List ByteArray) (most : Int) (acc : ByteArray) (t : Int) (ts : List Int) : meanGo l most acc (t :: ts) = if (means l t).size = 0 then (no, 9) else if max most 0 - (acc.size : Int) < ((means l t).size : Int) then (no, 10) else meanGo l most (acc ++ means l t) ts := rfl
theorem max_pos (most : Int) : (if most < 0 then (0 : Int) else most) = max most 0 := by omega
theorem mean_le (l : List ByteArray) (h : ∀ s ∈ l, s.size ≤ 40) (t : Int) : (means l t).size ≤ 40 := by
 unfold means
 split
 ·decide
 ·split
  ·show 1 ≤ 40
   decide
  ·unfold atL
   split
   ·rename_i h2
    unfold inL at h2
    rw [decide_eq_true_eq] at h2
    exact h _ (getD_mem _ _ (by omega))
   ·decide
set_option maxRecDepth 100000 in
set_option maxHeartbeats 1000000 in
theorem of_any (p B : Option Addr) (m c : Nat) (l : List ByteArray) (most : Int) (ts : List Int) (w : World) (h : DP w p l) (hl : KI.C w B m ts) (h40 : ∀ s ∈ l, s.size ≤ 40) (hwf : ∀ t ∈ ts, -(2 ^ 63) ≤ t ∧ t < 2 ^ 63) (hm : ts.length ≤ 1000000) (hmost : -(2 ^ 63) ≤ most ∧ most < 2 ^ 63) :
  Calls Tryz.prog 171 #[.pointer p, .int .i64 most, .slice B m c] w fun e w' => e = .returned (.tuple #[.string (meanGo l most no ts).1, .int .i64 (meanGo l most no ts).2]) ∧ Below w.heap.size w w' := by
 have H := Lib.hid h
 have HL := Lib.hid hl
 have H40 := Lib.hid h40
 have HWF := Lib.hid hwf
 have HMM := Lib.hid hmost
 have hml := ki_len hl
 clear h hl h40 hwf hmost
 subst hml
 go_enter Tryz.func171, Tryz.ntmps171
 go_wp2_with (fail)
 go_loopg [8, 14] ts.length (fun j v i wr => ∃ k : Nat, k + j = ts.length ∧ i = .int .i64 k ∧ ∃ acc : ByteArray, Hid (acc.size ≤ 40 * k ∧ meanGo l most no ts = meanGo l most acc (ts.drop k) ∧ wr.ownsRow w.heap.size 5 1 v acc.size (nums .u8 (bytesOf acc)) ∧ Below w.heap.size w wr))
 case atStart => exact ⟨0, by omega, rfl, no, Nat.le_refl _, rfl, ⟨rfl, .inl ⟨rfl, rfl⟩⟩, Below.refl _ _⟩
 case round =>
  obtain ⟨k, hk, rfl, acc, HI⟩ := hrel
  obtain ⟨hacc, hgo, hown, hb⟩ := HI.out
  by_cases hlt : k < ts.length
  ·obtain ⟨ad, rfl, x0⟩ := ints_at (Kd.C_below HL.out hb) k hlt
   have hdr : ts.drop k = ts.getD k 0 :: ts.drop (k + 1) := by
    rw [List.drop_eq_getElem_cons hlt, List.getD_eq_getElem?_getD, List.getElem?_eq_getElem hlt]
    rfl
   have htm : ts.getD k 0 ∈ ts := by
    rw [List.getD_eq_getElem?_getD, List.getElem?_eq_getElem hlt]
    exact List.getElem_mem hlt
   obtain ⟨t, ht⟩ : ∃ t, ts.getD k 0 = t := ⟨_, rfl⟩
   rw [ht] at x0 hdr htm
   have htw := HWF.out t htm
   have hs40 := mean_le l H40.out t
   rw [hdr] at hgo
   rw [meanGo_cons] at hgo
   have i0 : (0 : Int) ≤ k := by omega
   have i1 : (k : Int) < (ts.length : Int) := by omega
   have i2 : ((k : Int)).toNat = k := by omega
   have HGO := Lib.hid hgo
   have HO := Lib.hid hown
   have HB := Lib.hid hb
   have HACC := Lib.hid hacc
   have HTW := Lib.hid htw
   clear hgo hown hb hacc HI hdr ht htm htw
   go_wp2_with (fail)
   refine (text_any _ _ _ _ (H.out.below HB.out) HTW.out).mono ?_
   rintro e w1 ⟨rfl, hb1⟩
   obtain ⟨s, hs⟩ : ∃ s, means l t = s := ⟨_, rfl⟩
   have hgo := HGO.out
   rw [hs] at hgo hs40 ⊢
   by_cases h0 : s.size = 0
   ·obtain rfl := empty_of h0
    rw [if_pos h0] at hgo
    have HG := Lib.hid hgo
    have HB1 := Lib.hid (Ints.bel_trans HB.out HB.out.size hb1)
    clear hgo hb1 hs h0 hs40
    go_wp2_with (fail)
    go_ret2
    rw [HG.out]
    exact ⟨rfl, HB1.out⟩
   ·rw [if_neg h0] at hgo
    have hemp : s.toList.isEmpty = false := isEmpty_no h0
    obtain ⟨A8, c8, rfl⟩ : ∃ A c, u8 = .slice A acc.size c := by
     rcases HO.out.2 with ⟨h1, h2⟩ | ⟨g, cap, cur, h2, _⟩
     ·exact ⟨none, 0, by rw [h2]; exact h1⟩
     ·exact ⟨_, _, h2⟩
    have HB1 := Lib.hid (Ints.bel_trans HB.out HB.out.size hb1)
    have hacc := HACC.out
    have hown1 : w1.ownsRow w.heap.size 5 1 (.slice A8 acc.size c8) acc.size (nums .u8 (bytesOf acc)) := own_move HO.out (fun k hk => hb1.block k (HO.out.lt k hk).2)
    have HO1 := Lib.hid hown1
    obtain ⟨M, hM⟩ : ∃ M, max most 0 = M := ⟨_, rfl⟩
    have hM0 : 0 ≤ M := by omega
    have hMm := HMM.out
    rw [hM] at hgo
    have hmx : (if most < 0 then (0 : Int) else most) = M := by rw [max_pos, hM]
    have hMM : M < 2 ^ 63 := by omega
    have hacc2 : acc.size ≤ 40000000 := by omega
    clear hown1 hb1 hacc hs
    by_cases h1 : M - (acc.size : Int) < (s.size : Int)
    ·rw [if_pos h1] at hgo
     have HG := Lib.hid hgo
     clear hgo hM hMm
     go_wp2_with (fail)
     go_ret2
     rw [HG.out]
     exact ⟨rfl, HB1.out⟩
    ·rw [if_neg h1] at hgo
     have HG := Lib.hid hgo
     have HACC2 := Lib.hid (show (acc ++ s).size ≤ 40 * (k + 1) by rw [ByteArray.size_append]; have := HACC.out; omega)
     have HAL := Lib.hid (show (bytesOf acc).length + s.size ≤ 140737488355328 by rw [bytesOf_length]; omega)
     clear hgo hM hMm
     go_wp2_with (((with_reducible refine gate_builtin (b := .append) (xs := #[.tmp 33, .tmp 34]) rfl ?_); at_builtin; apply stopper))
     unfold Stopper
     refine print_append_str (w0 := w) w.heap.size rfl (.tmp 33) (.tmp 34) 49 9 5 rfl Tryz.underlying49 Tryz.underlying9 infoU8 (.slice A8 acc.size c8) (bytesOf acc) s rfl rfl (by rw [bytesOf_length]; exact HO1.out) HB1.out HB1.out.size HAL.out ?_
     intro v3 w3 hown3 hb3 hg3
     rw [← bytesOf_append, bytesOf_length] at hown3
     have HO3 := Lib.hid hown3
     have HB3 := Lib.hid hb3
     clear hown3 hb3 hg3
     go_wp2
     go_roundg (ts.length - (k + 1))
     case measure => omega
     case rel => exact ⟨k + 1, by omega, by go_num, acc ++ s, HACC2.out, HG.out, HO3.out, HB3.out⟩
  ·obtain rfl : k = ts.length := by omega
   rw [List.drop_length] at hgo
   have hcv := own_string (P := Tryz.prog) Tryz.underlying49 Tryz.underlying5 Tryz.underlying9 hown
   rw [str_bytesOf] at hcv
   have HG := Lib.hid hgo
   have HB1 := Lib.hid hb
   obtain ⟨A8, c8, rfl⟩ : ∃ A c, u8 = .slice A acc.size c := by
    rcases hown.2 with ⟨h1, h2⟩ | ⟨g, cap, cur, h2, _⟩
    ·exact ⟨none, 0, by rw [h2]; exact h1⟩
    ·exact ⟨_, _, h2⟩
   clear hgo hb hown hacc HI
   go_wp2_with (fail)
   go_ret2
   rw [HG.out]
   exact ⟨rfl, HB1.out⟩
end Go.Proofs.YtfbbcfhdjhiejaaGreat.Mean
