/- Of the parts RefLens: what the rows use. -/
import Derived.Test.YtfbbcfhdjhiejaaGreatZa1
import Derived.Test.YtfbbcfhdjhiejaaGreatZa23
import Derived.Deep.RegionHeld3
/- Chapter 18: the document's own lengths. -/
namespace Go.Proofs.YtfbbcfhdjhiejaaGreat.Srt
set_option linter.unusedVariables false
set_option linter.unusedSimpArgs false
open Go.RowKit Go.Proofs.YtfbbcfhdjhiejaaGreatW.PrintWords Go.Proofs.YtfbbcfhdjhiejaaGreatW.PrintMore Go.Proofs.YtfbbcfhdjhiejaaGreat.L Go.Proofs.YtfbbcfhdjhiejaaGreat.Ints Go.Shelf Go.Lib Go.Sort
theorem infoItem : (Tryz.prog.info? 222).map (fun i => (i.zero, i.size, i.bytes)) = some (some (.agg #[.int .i64 0, .slice none 0 0]), 2, 32) := by kernel_rfl
/-- Items: a row of the call's own. -/
def Itm (base : Nat) (w : World) (v : Value) (ps : List Pc) : Prop := ∃ xs : List Coin, CK.R 222 w base (fun _ => True) v xs ∧ xs.map pl = ps ∧ ∀ x ∈ xs, Lies base w x
/-- A coin's symbols lie aside of what was made between two worlds. -/
def Far (lo hi : Nat) (x : Coin) : Prop := ∀ k, (slv x.2).ownBlock = some k → k < lo ∨ hi ≤ k
def RowF (lo hi base : Nat) (w : World) (v : Value) (ps : List Pc) : Prop := ∃ A c xs, v = .slice A xs.length c ∧ xs.length ≤ c ∧ CK.C w A xs.length xs ∧ xs.map pl = ps ∧ (∀ x ∈ xs, Lies base w x) ∧ (∀ x ∈ xs, Far lo hi x) ∧ (∀ ad, A = some ad → ad.block < lo ∨ hi ≤ ad.block)
theorem far_low {lo hi base : Nat} {w : World} {x : Coin} (h : Lies base w x) (hs : w.heap.size ≤ lo) : Far lo hi x := fun k hk => .inl (Nat.lt_of_lt_of_le (Read.own_lt h k hk) hs)
theorem far_high {lo hi base : Nat} {w : World} {x : Coin} (h : Lies base w x) (hs : hi ≤ base) : Far lo hi x := fun k hk => .inr (by
 rcases (Kd.own_of_R h).2 with ⟨h2, _⟩ | ⟨g, cap, cur, h2, h3, _⟩
 ·rw [h2] at hk; simp [Value.ownBlock] at hk
 ·rw [h2] at hk
  have : g = k := by simpa [Value.ownBlock] using hk
  omega)
theorem row_far {b : Nat} {w : World} {A : Option Addr} {n c : Nat} {ok : Nat → Prop} {xs : List Coin} (h : CK.R 222 w b ok (.slice A n c) xs) : ∀ ad, A = some ad → b ≤ ad.block ∧ ad.block < w.heap.size := by
 intro ad hA
 subst hA
 rcases (R_iff.1 h).2.2 with ⟨h1, _⟩ | ⟨g, cap, cur, h1, h2, h3, _⟩
 ·injection h1 with h1
  cases h1
 ·injection h1 with h1
  injection h1 with h1
  rw [h1]
  exact ⟨h2, blk_lt h3⟩
theorem lies_far {base lo hi : Nat} {S : Nat → Prop} {w w' : World} {x : Coin} (h : Lies base w x) (hc : Chg S w w') (hS : ∀ k, S k → lo ≤ k ∧ k < hi) (hf : Far lo hi x) : Lies base w' x := by
 refine Read.own_move' h (fun q hq => hc.block q (Read.own_lt h q hq) (fun e => ?_))
 have h1 := hS q e
 rcases hf q hq with h2 | h2 <;> omega
theorem two_n {n T : Nat} (h : 2 * n - 2 = T) (h2 : 2 ≤ n) (h3 : n ≤ 356) : wrap64 (wrap64 (2 * (n : Int)) - 2) = (T : Int) := by unfold wrap64; omega
theorem wrap_two {n m : Nat} (h : n ≤ m + 1) (h2 : m ≤ 712) : wrap64 ((n : Int) + 2) = ((n + 2 : Nat) : Int) := by unfold wrap64; omega
theorem meas_two {n m : Nat} (h : n + 1 < m) : m + 1 ≤ n + 2 + (m - (n + 2)) + 1 := by omega
theorem meas_three {n m j : Nat} (h : n + 1 < m) (h2 : m + 1 ≤ n + j + 1) : m - (n + 2) < j := by omega
theorem okC_bnd {l : List Int} (ho : ∀ x ∈ l, okC x) : ∀ k, Bnd 1073741824 (onesTo l k)
 | 0 => fun p hp => by cases hp
 | k + 1 => by
   have ih := okC_bnd ho k
   unfold onesTo
   split
   ·rename_i h0
    intro p hp
    rcases List.mem_append.1 hp with hp | hp
    ·exact ih p hp
    ·rw [List.mem_singleton.1 hp]
     have hlt : k < l.length := by
      by_cases h : k < l.length
      ·exact h
      ·rw [List.getD_eq_getElem?_getD, List.getElem?_eq_none (by omega)] at h0
       exact absurd h0 (by decide)
     have := ho (l.getD k 0) (by rw [List.getD_eq_getElem?_getD, List.getElem?_eq_getElem hlt]; exact List.getElem_mem hlt)
     exact this
   ·exact ih
theorem Lies.grownI {base : Nat} {w w' : World} {x : Coin} {v : Value} {ok : Nat → Prop} {ys : List Coin} {b : Nat} (h : Lies base w x) (hv : CK.R 222 w b ok v ys) (hg : w.grownBy w' v.ownBlock) : Lies base w' x := by
 rcases hrow : v.ownBlock with _ | g
 ·exact Read.own_move' h (fun q hq => hg.block q (Read.own_lt h q hq) (fun e => by rw [hrow] at e; cases e))
 ·refine Read.own_move' h (fun q hq => hg.block q (Read.own_lt h q hq) (fun e => ?_))
  rw [hrow] at e
  injection e with e
  subst e
  obtain ⟨cells, h1⟩ := own_typed (Kd.own_of_R h) _ hq
  obtain ⟨cells2, h2⟩ := own_typed (R_iff.1 hv).2 _ hrow
  rw [h1] at h2
  injection h2 with h2
  injection h2 with _ h2
  exact absurd h2 (by decide)
theorem bel_one (w : World) (a : Obj) : Below w.heap.size w (w.alloc a) := (Below.refl w.heap.size w).alloc (Nat.le_refl _) a
theorem bel_two (w : World) (a b : Obj) : Below w.heap.size w ((w.alloc a).alloc b) := (bel_one w a).alloc (by simp) b
theorem lies_alloc {base : Nat} {w : World} {x : Coin} (h : Lies base w x) (o : Obj) : Lies base (w.alloc o) x := h.below (bel_one w o)
theorem lit_item (w : World) (t : Nat) (x : Coin) : CK.C (w.alloc (.cells (encC x).toArray t (0, 0))) (some ⟨w.heap.size, 0, none⟩) 1 [x] := by
 refine ⟨rfl, by decide, fun _ => ⟨_, rfl, fun j p hj => ?_⟩⟩
 have hj1 : j = 0 := by
  have := (List.getElem?_eq_some_iff.1 hj).1
  simp at this
  exact this
 subst hj1
 have hp : x = p := by simpa using hj
 subst hp
 refine ⟨encC x, rfl, ck_K.2 rfl, fun i u hu => ?_⟩
 have had : (⟨w.heap.size, 0, none⟩ : Addr).add (0 * CK.sz + i) = ⟨w.heap.size, i, none⟩ := by
  rw [Nat.zero_mul, Nat.zero_add]
  unfold Addr.add
  split
  ·rename_i h0; rw [h0]
  ·simp
 rw [had]
 have := heap_alloc_self w (.cells (encC x).toArray t (0, 0))
 simp only [World.cell?, this]
 rw [List.getElem?_toArray]
 exact hu
theorem lit_two (w : World) (o : Obj) (t : Nat) (x : Coin) : CK.C ((w.alloc o).alloc (.cells (encC x).toArray t (0, 0))) (some ⟨w.heap.size + 1, 0, none⟩) 1 [x] := by
 have h := lit_item (w.alloc o) t x
 have e : (w.alloc o).heap.size = w.heap.size + 1 := by simp
 rw [e] at h
 exact h
theorem ki_rows {w : World} {A : Option Addr} {n : Nat} {xs : List Int} (h : KI.C w A n xs) : ReadsRow (fun (x : Int) cs => cs = [.int .i64 x]) 1 w A n xs := h
theorem bel_set {B : Nat} {w w' : World} (h : Below B w w') (g : Nat) (hg : B ≤ g) (u v : Value) : Below B w ((w'.setCell ⟨g, 0, none⟩ u).setCell ⟨g, 1, none⟩ v) := (h.setCell (p := ⟨g, 0, none⟩) hg u).setCell (p := ⟨g, 1, none⟩) hg v
theorem item_cells {w : World} {g t : Nat} {x y : Value} (h : w.heap[g]? = some (.cells #[x, y] t (0, 0))) : w.cell? ⟨g, 0, none⟩ = some x ∧ w.cell? ⟨g, 1, none⟩ = some y ∧ w.frozen? ⟨g, 0, none⟩ = false ∧ w.frozen? ⟨g, 1, none⟩ = false := by
 simp [World.cell?, World.frozen?, h]
theorem kept_item {w w' : World} {g : Nat} {cs : Array Value} {v : Value} {ok : Nat → Prop} {b : Nat} {xs : List Int} (hg : w.grownBy w' v.ownBlock) (h : w.heap[g]? = some (.cells cs 222 (0, 0))) (hv : KI.R 3 w b ok v xs) : w'.heap[g]? = some (.cells cs 222 (0, 0)) :=
 (hg.block g (blk_lt h) (fun e => by
  obtain ⟨cells, h1⟩ := own_typed (Kd.own_of_R hv) g e.symm
  rw [h] at h1
  injection h1 with h1
  injection h1 with _ h1
  exact absurd h1 (by decide))).trans h
theorem lies_drew {base : Nat} {w : World} {x : Coin} (h : Lies base w x) : Lies base w.drew x := h.below ((Below.refl _ _).drew)
theorem bel_drewN {B : Nat} {w w' : World} (h : Below B w w') (n : Nat) : Below B w (w'.drewN n) := ⟨h.os, h.tape, h.output, h.size, h.block⟩
set_option maxRecDepth 100000 in
set_option maxHeartbeats 8000000 in
theorem ref_lens (A : Option Addr) (c : Nat) (l : List Int) (w : World) (h : KI.C w A l.length l) (hl : l.length ≤ 356) (ho : ∀ x ∈ l, okC x) (hn2 : 2 ≤ (firstP l).length) :
  Calls Tryz.prog 144 #[.int .i64 15, .slice A l.length c] w fun e w' => ∃ v, e = .returned (.tuple #[v, .int .i64 0]) ∧ KI.R 3 w' w.heap.size (fun _ => True) v (lensP l) ∧ Below w.heap.size w w' := by
 have H := Lib.hid h
 have HOK := Lib.hid ho
 have HL := Lib.hid hl
 clear h ho
 go_enter Tryz.func144, Tryz.ntmps144
 go_wp2_with (fail)
 go_loopg [6, 7] l.length (fun j v i wr => ∃ k : Nat, k + j = l.length ∧ i = .int .i64 k ∧ Hid (Itm w.heap.size wr v (stab ltP (onesTo l k)) ∧ Below w.heap.size w wr))
 case atStart => exact ⟨0, by omega, rfl, ⟨[], Kd.R_nil _ _ _ _ _, rfl, fun x hx => by cases hx⟩, Below.refl _ _⟩
 case round =>
  obtain ⟨k, hk, rfl, HI⟩ := hrel
  obtain ⟨hitm, hb⟩ := HI.out
  by_cases hlt : k < l.length
  ·
   obtain ⟨ad, rfl, x0⟩ := ints_at (Kd.C_below H.out hb) k hlt
   have hon : onesTo l (k + 1) = if 0 < l.getD k 0 then onesTo l k ++ [(l.getD k 0, [(k : Int)])] else onesTo l k := rfl
   have hox := HOK.out (l.getD k 0) (by rw [List.getD_eq_getElem?_getD, List.getElem?_eq_getElem hlt]; exact List.getElem_mem hlt)
   obtain ⟨x, hx⟩ : ∃ x, l.getD k 0 = x := ⟨_, rfl⟩
   rw [hx] at x0 hon hox
   obtain ⟨o0, o1⟩ := hox
   have n0 : ¬ (x < 0) := by omega
   have n1 : ¬ ((1073741824 : Int) < x) := by omega
   have i0 : (0 : Int) ≤ k := by omega
   have i1 : (k : Int) < (l.length : Int) := by omega
   have i2 : ((k : Int)).toNat = k := by omega
   have HK := Lib.hid hk
   have HKL := Lib.hid hlt
   have HB := Lib.hid hb
   by_cases hz : x = 0
   ·subst hz
    rw [if_neg (by decide)] at hon
    have HITM := Lib.hid hitm
    have HON := Lib.hid hon
    clear hk hlt hb hitm hon hx HI
    go_wp2_with (fail)
    go_roundg (l.length - (k + 1))
    case measure => have := HK.out; have := HKL.out; omega
    case rel => exact ⟨k + 1, by have := HKL.out; omega, by go_num, by rw [HON.out]; exact HITM.out, HB.out⟩
   ·have e0 : (x == 0) = false := beq_eq_false_iff_ne.2 hz
    rw [if_pos (by omega)] at hon
    obtain ⟨xs, hr, hp, hli⟩ := hitm
    have hPl : xs.length ≤ 356 := by
     have h1 := onesTo_len l k
     have h2 : (stab ltP (onesTo l k)).length = (onesTo l k).length := stab_length ltP _
     rw [← h2, ← hp, List.length_map] at h1
     omega
    obtain ⟨A6, c6, rfl⟩ := Kd.R_slice hr
    obtain ⟨_, hcc, hC⟩ := Kd.R_reads' hr
    have hxb : ∀ y ∈ xs, 0 ≤ y.1 ∧ y.1 ≤ 1073741824 := fun y hy => by
     have := stab_bnd (okC_bnd HOK.out k) (pl y) (by rw [← hp]; exact List.mem_map.2 ⟨y, hy, rfl⟩)
     exact this
    have HXB := Lib.hid hxb
    have HR := Lib.hid hr
    have HP := Lib.hid hp
    have HLI := Lib.hid hli
    have HCC := Lib.hid (show xs.length ≤ c6 from hcc)
    have HC := Lib.hid hC
    have HON := Lib.hid hon
    have HX := Lib.hid hx
    clear hk hlt hb hon hx HI hr hp hli hcc hC hxb
    obtain ⟨w5, hw5⟩ : ∃ x : World, x = wr := ⟨_, rfl⟩
    rw [← hw5] at x0 HB HR HLI HC ⊢
    clear hw5
    go_wp2_with (fail)
    go_loopg [8] xs.length (fun j q wr => ∃ m : Nat, q = .int .i64 m ∧ Hid (m ≤ j ∧ m ≤ xs.length ∧ (∀ t, m ≤ t → t < xs.length → x < (xs.getD t (0, [], none, 0)).1) ∧ Below w5.heap.size w5 wr))
    case atStart => exact ⟨xs.length, rfl, Nat.le_refl _, Nat.le_refl _, fun t h1 h2 => absurd h2 (by omega), Below.refl _ _⟩
    case round =>
     obtain ⟨m, rfl, HI⟩ := hrel
     obtain ⟨hmj, hml, hgt, hb⟩ := HI.out
     have x0 := pw_cell_below hb x0
     have HB2 := Lib.hid hb
     have HMJ := Lib.hid hmj
     have HML := Lib.hid hml
     have HGT := Lib.hid hgt
     have hD : m = 0 ∨ (0 < m ∧ x < (xs.getD (m - 1) (0, [], none, 0)).1) ∨ (0 < m ∧ ¬ x < (xs.getD (m - 1) (0, [], none, 0)).1) := by omega
     clear hmj hgt hb HI
     rcases hD with h0 | ⟨h0, hc⟩ | ⟨h0, hc⟩
     case' inl =>
      have g1 : decide (0 < m) = false := by simp; omega
      have HSTOP := Lib.hid (show m = 0 ∨ ¬ x < (xs.getD (m - 1) (0, [], none, 0)).1 from .inl h0)
      clear h0
      go_upto_region 11 with (fail)
      go_quiet (fail)
     case' inr.inr =>
      have g1 : decide (0 < m) = true := by simp; omega
      have HSTOP := Lib.hid (show m = 0 ∨ ¬ x < (xs.getD (m - 1) (0, [], none, 0)).1 from .inr hc)
      obtain ⟨⟨cy, sy, Ay, ky⟩, hy⟩ : ∃ y, xs[m - 1]? = some y := ⟨_, List.getElem?_eq_getElem (by omega)⟩
      obtain ⟨ad6, hA6, y0, _⟩ := coins_at (Kd.C_below HC.out HB2.out) (m - 1) (cy, sy, Ay, ky) hy (by omega)
      rw [List.getD_eq_getElem?_getD, hy] at hc
      have hc2 : ¬ (x < cy) := hc
      obtain ⟨M1, hM1⟩ : ∃ M1, m - 1 = M1 := ⟨_, rfl⟩
      rw [hM1] at y0
      have hw1 : wrap64 ((m : Int) - 1) = (M1 : Int) := by unfold wrap64; omega
      have hw2 : IntKind.i64.wrap ((m : Int) - 1) = (M1 : Int) := by rw [IntKind.wrap_i64]; first | omega | (unfold wrap64; omega)
      dsimp only at y0
      have j0 : (0 : Int) ≤ (M1 : Int) := by omega
      have j1 : (M1 : Int) < (xs.length : Int) := by omega
      have j2 : ((M1 : Int)).toNat = M1 := by omega
      clear hc hy hM1 h0
      go_upto_region 11 with (fail)
      go_quiet (fail)
      clear hA6 y0 hw1 hw2 hc2 j0 j1 j2
     case inr.inl =>
      have g1 : decide (0 < m) = true := by simp; omega
      obtain ⟨⟨cy, sy, Ay, ky⟩, hy⟩ : ∃ y, xs[m - 1]? = some y := ⟨_, List.getElem?_eq_getElem (by omega)⟩
      obtain ⟨ad6, rfl, y0, _⟩ := coins_at (Kd.C_below HC.out HB2.out) (m - 1) (cy, sy, Ay, ky) hy (by omega)
      have HCC2 := Lib.hid hc
      rw [List.getD_eq_getElem?_getD, hy] at hc
      have hc2 : x < cy := hc
      obtain ⟨M1, hM1⟩ : ∃ M1, m - 1 = M1 := ⟨_, rfl⟩
      rw [hM1] at y0
      have hw1 : wrap64 ((m : Int) - 1) = (M1 : Int) := by unfold wrap64; omega
      have hw2 : IntKind.i64.wrap ((m : Int) - 1) = (M1 : Int) := by rw [IntKind.wrap_i64]; first | omega | (unfold wrap64; omega)
      dsimp only at y0
      have j0 : (0 : Int) ≤ (M1 : Int) := by omega
      have j1 : (M1 : Int) < (xs.length : Int) := by omega
      have j2 : ((M1 : Int)).toNat = M1 := by omega
      have HM1 := Lib.hid hM1
      have HM0 := Lib.hid h0
      clear hc hy hM1 h0 hml
      go_upto_region 11 with (fail)
      go_quiet (fail)
      go_wp2_with (fail)
      go_roundg M1
      case measure => have := HMJ.out; have := HM1.out; have := HM0.out; omega
      case rel => exact ⟨M1, by first | rfl | rw [hw1], Nat.le_refl _, by have := HML.out; have := HM1.out; omega, fun t h1 h2 => by
       by_cases he : m ≤ t
       ·exact HGT.out t he h2
       ·have := HM1.out
        obtain rfl : t = m - 1 := by omega
        exact HCC2.out, bel_drewN HB2.out _⟩
     all_goals
      have hcutA : ∀ W : World, (Instr.slice 220 (.slice A6 xs.length c6) none (some (.int .i64 (m : Int))) none).run Tryz.prog W = .ok (.slice A6 m c6) W := by
       intro W
       obtain ⟨i0, hi, hz⟩ := Option.map_eq_some_iff.1 infoItem
       have h := cut_to (P := Tryz.prog) 220 222 .i64 Tryz.underlying220 hi A6 xs.length c6 (m : Int) (by omega) (by have := HML.out; omega) HCC.out W
       rw [Int.toNat_natCast] at h
       exact h
      obtain ⟨A8, hA8⟩ : ∃ A8, (if c6 = m then A6 else A6.map (·.add (m * 2))) = A8 := ⟨_, rfl⟩
      have hcutB : ∀ W : World, (Instr.slice 220 (.slice A6 xs.length c6) (some (.int .i64 (m : Int))) none none).run Tryz.prog W = .ok (.slice A8 (xs.length - m) (c6 - m)) W := by
       intro W
       obtain ⟨i0, hi, hz⟩ := Option.map_eq_some_iff.1 infoItem
       simp only [Prod.mk.injEq] at hz
       have := cut_from (P := Tryz.prog) 220 222 .i64 Tryz.underlying220 hi 2 hz.2.1 A6 xs.length c6 (m : Int) (by omega) (by have := HML.out; omega) W
       rw [Int.toNat_natCast, hA8] at this
       exact this
      have HCA := Lib.hid (show CK.C w5 A6 (xs.take m).length (xs.take m) from Kd.C_take HC.out HML.out)
      have HCB := Lib.hid (show CK.C w5 A8 (xs.drop m).length (xs.drop m) from by
       have h := Kd.C_drop (c := c6) (m := m) HC.out HML.out HCC.out
       rw [show CK.sz = 2 from rfl, hA8] at h
       exact h)
      have hla : (xs.take m).length = m := by rw [List.length_take]; have := HML.out; omega
      have hlb : (xs.drop m).length = xs.length - m := List.length_drop
      have HLA := Lib.hid hla
      have HLB := Lib.hid hlb
      rw [hla] at HCA
      rw [hlb] at HCB
      clear hla hlb hA8
      obtain ⟨w6, hw6⟩ : ∃ x : World, x = wr.drewN nq := ⟨_, rfl⟩
      rw [← hw6]
      have HB6 := Lib.hid (show Below w5.heap.size w5 w6 by rw [hw6]; exact bel_drewN HB2.out nq)
      clear hw6 HB2
      have HW6 := Lib.hid (show Below w.heap.size w w6 from HB.out.trans (HB6.out.mono HB.out.size))
      have HK6 := Lib.hid (show ∀ W' : World, Below w5.heap.size w5 W' → W'.cell? (ad.add k) = some (.int .i64 x) from fun W' hW => pw_cell_below hW (by assumption))
      have HKB := Lib.hid (show ∀ W' : World, Below w6.heap.size w6 W' → W'.cell? (ad.add k) = some (.int .i64 x) from fun W' hW => HK6.out W' (HB6.out.trans (hW.mono HB6.out.size)))
      have HCA6 := Lib.hid (show ∀ W' : World, Below w6.heap.size w6 W' → ReadsRow (fun x cs => cs = encC x) 2 W' A6 m (xs.take m) from fun W' hW => ck_rows (Kd.C_below HCA.out (HB6.out.trans (hW.mono HB6.out.size))))
      have HCB6 := Lib.hid (show ∀ W' : World, Below w6.heap.size w6 W' → ReadsRow (fun x cs => cs = encC x) 2 W' A8 (xs.length - m) (xs.drop m) from fun W' hW => ck_rows (Kd.C_below HCB.out (HB6.out.trans (hW.mono HB6.out.size))))
      have hm356 : m ≤ 356 := by have := HML.out; omega
      have HRES := Lib.hid (show ∀ gs : Nat, ((xs.take m ++ [((x, [(k : Int)], some (⟨gs, 0, none⟩ : Addr), 1) : Coin)]) ++ xs.drop m).map pl = stab ltP (onesTo l (k + 1)) from fun gs => by
       rw [HON.out, stab_snoc, ← HP.out]
       have hb9 : ∀ y ∈ xs.map pl, 0 ≤ y.1 ∧ y.1 ≤ 1073741824 := fun y hy => by
        obtain ⟨z, hz, rfl⟩ := List.mem_map.1 hy
        exact HXB.out z hz
       have hgp : ∀ j, (xs.map pl).getD j (0, []) = pl (xs.getD j (0, [], none, 0)) := fun j => by
        rw [List.getD_eq_getElem?_getD, List.getD_eq_getElem?_getD, List.getElem?_map]
        cases xs[j]? <;> rfl
       have hmem : ∀ j, j < xs.length → pl (xs.getD j (0, [], none, 0)) ∈ xs.map pl := fun j hj => by
        rw [List.getD_eq_getElem?_getD, List.getElem?_eq_getElem hj]
        exact List.mem_map.2 ⟨_, List.getElem_mem hj, rfl⟩
       rw [ins_at (xs.map pl) (x, [(k : Int)]) (0, []) m (by rw [List.length_map]; exact HML.out) (fun j h1 h2 => by
        rw [List.length_map] at h2
        rw [hgp j, lt_is (x := (x, [(k : Int)])) (M := 1073741824) (by decide) (show 0 ≤ x ∧ x ≤ 1073741824 from And.intro o0 o1) (hb9 _ (hmem j h2))]
        exact decide_eq_true (HGT.out j h1 h2)) (by
        rcases HSTOP.out with h9 | h9
        ·exact .inl h9
        ·by_cases h0 : m = 0
         ·exact .inl h0
         ·refine .inr ?_
          have hl9 := HML.out
          rw [hgp (m - 1), lt_is (x := (x, [(k : Int)])) (M := 1073741824) (by decide) (show 0 ≤ x ∧ x ≤ 1073741824 from And.intro o0 o1) (hb9 _ (hmem (m - 1) (by omega)))]
          exact decide_eq_false h9)]
       rw [List.map_append, List.map_append, List.map_take, List.map_drop]
       simp [pl])
      have HLX := Lib.hid (show ∀ y ∈ xs.take m ++ xs.drop m, Lies w.heap.size w5 y from fun y hy => HLI.out y (by rwa [List.take_append_drop] at hy))
      clear x0 HB
      have HB := Lib.hid (Below.refl w6.heap.size w6)
      have k0 := HKB.out w6 HB.out
      go_upto_region 13 with (fail)
      go_region_held3 (fun w' => w'.cell? (ad.add k) = some (.int .i64 x)) (first | exact k0 | exact HKB.out _ HB.out | exact HKB.out _ (below_drew HB.out) | go_keep)
       (first
        | (refine Kd.R_append_rows_step CK (Rr := fun x cs => cs = encC x) (w0 := w6) w6.heap.size (by rfl) (.const (.slice none 0 0)) (.tmp 69) 220 222 (.agg #[.int .i64 0, .slice none 0 0]) 32 rfl Tryz.underlying220 infoItem rfl (by decide) (by omega) (.slice none 0 0) [] (xs.take m) A6 m c6 (fun _ => True) (fun _ => False) rfl (by simp [Act.eval, Act.put]) (Kd.R_nil _ _ _ _ _) (HCA6.out _ (by first | exact HB.out | exact below_drew HB.out)) (fun x cs h => ck_M.2 h) (fun _ h => h.elim) (fun _ _ => trivial) (by first | exact HB.out | exact below_drew HB.out) (show Below w6.heap.size w6 _ from (by first | exact HB.out | exact below_drew HB.out)).size (by simp; omega) ?_; intro v3 w7 ho3 hb3 hg3 hat3; rw [List.nil_append] at ho3; have HO3 := Lib.hid ho3; have HB3 := Lib.hid hb3; clear HB k0 ho3 hb3 hg3 hat3; have HB := HB3; have k0 := HKB.out w7 HB3.out)
        | (refine Kd.R_append_rows_step CK (Rr := fun x cs => cs = encC x) (w0 := w6) w6.heap.size (by rfl) (.const (.slice none 0 0)) (.tmp 69) 220 222 (.agg #[.int .i64 0, .slice none 0 0]) 32 rfl Tryz.underlying220 infoItem rfl (by decide) (by omega) (.slice none 0 0) [] (xs.take m) A6 m c6 (fun _ => True) (fun _ => False) rfl (by simp [Act.eval, Act.put]) (Kd.R_nil _ _ _ _ _) (HCA6.out _ (by first | exact (bel_one w6 _).drew | exact bel_one w6 _)) (fun x cs h => ck_M.2 h) (fun _ h => h.elim) (fun _ _ => trivial) (by first | exact (bel_one w6 _).drew | exact bel_one w6 _) (show Below w6.heap.size w6 _ from (by first | exact (bel_one w6 _).drew | exact bel_one w6 _)).size (by simp; omega) ?_; intro v3 w7 ho3 hb3 hg3 hat3; rw [List.nil_append] at ho3; have HO3 := Lib.hid ho3; have HB3 := Lib.hid hb3; have hgb := Below.grown (Below.refl _ _) hg3 (Nat.le_refl _) (fun q hq => by simp [Value.ownBlock] at hq); have HLW := Lib.hid (show Lies w.heap.size w7 (x, [(k : Int)], some ⟨w6.heap.size, 0, none⟩, 1) from Lies.below (by first | exact lies_drew (lies_lit w6 x k HW6.out.size) | exact lies_lit w6 x k HW6.out.size) hgb); clear hgb; clear HB k0 ho3 hb3 hg3 hat3; have HB := HB3; have k0 := HKB.out w7 HB3.out)
        | (refine Kd.R_append_rows_step CK (Rr := fun x cs => cs = encC x) (w0 := w6) w6.heap.size (by rfl) (.const (.slice none 0 0)) (.tmp 69) 220 222 (.agg #[.int .i64 0, .slice none 0 0]) 32 rfl Tryz.underlying220 infoItem rfl (by decide) (by omega) (.slice none 0 0) [] (xs.take m) A6 m c6 (fun _ => True) (fun _ => False) rfl (by simp [Act.eval, Act.put]) (Kd.R_nil _ _ _ _ _) (HCA6.out _ (by first | exact (bel_two w6 _ _).drew | exact bel_two w6 _ _)) (fun x cs h => ck_M.2 h) (fun _ h => h.elim) (fun _ _ => trivial) (by first | exact (bel_two w6 _ _).drew | exact bel_two w6 _ _) (show Below w6.heap.size w6 _ from (by first | exact (bel_two w6 _ _).drew | exact bel_two w6 _ _)).size (by simp; omega) ?_; intro v3 w7 ho3 hb3 hg3 hat3; rw [List.nil_append] at ho3; have HO3 := Lib.hid ho3; have HB3 := Lib.hid hb3; have hgb := Below.grown (Below.refl _ _) hg3 (Nat.le_refl _) (fun q hq => by simp [Value.ownBlock] at hq); have HLW := Lib.hid (show Lies w.heap.size w7 (x, [(k : Int)], some ⟨w6.heap.size, 0, none⟩, 1) from Lies.below (by first | exact lies_drew (lies_alloc (lies_lit w6 x k HW6.out.size) _) | exact lies_alloc (lies_lit w6 x k HW6.out.size) _) hgb); have HJ := Lib.hid (show CK.C w7 (some ⟨w6.heap.size + 1, 0, none⟩) 1 [(x, [(k : Int)], some ⟨w6.heap.size, 0, none⟩, 1)] from Kd.C_below (by first | exact Kd.C_drew (lit_two w6 _ 222 (x, [(k : Int)], some ⟨w6.heap.size, 0, none⟩, 1)) | exact lit_two w6 _ 222 (x, [(k : Int)], some ⟨w6.heap.size, 0, none⟩, 1)) hgb); clear hgb; clear HB k0 ho3 hb3 hg3 hat3; have HB := HB3; have k0 := HKB.out w7 HB3.out)
        | (refine Kd.R_append_step CK (w0 := w6) w6.heap.size (by rfl) (.tmp 70) (.tmp 78) 220 222 (.agg #[.int .i64 0, .slice none 0 0]) 32 rfl Tryz.underlying220 infoItem rfl (by decide) (by omega) v3 (xs.take m) (x, [(k : Int)], some ⟨w7.heap.size, 0, none⟩, 1) [.int .i64 x, .slice (some ⟨w7.heap.size, 0, none⟩) 1 1] (fun _ => True) (fun _ => False) (by simp [Act.eval, Act.put]) (by simp [Act.eval, Act.put]) (ck_M.2 rfl) (fun _ hk => hk.elim) (fun _ _ => trivial) (Kd.R_below HO3.out (by first | exact (bel_one w7 _).drew | exact bel_one w7 _)) (by first | exact (Ints.bel_trans HB3.out HB3.out.size (bel_one w7 _)).drew | exact Ints.bel_trans HB3.out HB3.out.size (bel_one w7 _)) (show Below w6.heap.size w6 _ from (by first | exact (Ints.bel_trans HB3.out HB3.out.size (bel_one w7 _)).drew | exact Ints.bel_trans HB3.out HB3.out.size (bel_one w7 _))).size (by rw [HLA.out]; omega) ?_; intro v4 w8 ho4 hb4 hg4 hat4; have HB4 := Lib.hid hb4; obtain ⟨gs, HO4, HN4⟩ : ∃ gs : Nat, Hid (CK.R 222 w8 w6.heap.size (fun _ => True) v4 (xs.take m ++ [(x, [(k : Int)], some ⟨gs, 0, none⟩, 1)])) ∧ Hid (Lies w.heap.size w8 (x, [(k : Int)], some ⟨gs, 0, none⟩, 1)) := ⟨_, Lib.hid ho4, Lib.hid (Lies.grownI (by first | exact lies_drew (lies_lit w7 x k (Nat.le_trans HW6.out.size HB3.out.size)) | exact lies_lit w7 x k (Nat.le_trans HW6.out.size HB3.out.size)) (Kd.R_below HO3.out (by first | exact (bel_one w7 _).drew | exact bel_one w7 _)) hg4)⟩; clear HB k0 ho4 hb4 hg4 hat4; have HB := HB4; have k0 := HKB.out w8 HB4.out)
        | (refine Kd.R_append_step CK (w0 := w6) w6.heap.size (by rfl) (.tmp 70) (.tmp 78) 220 222 (.agg #[.int .i64 0, .slice none 0 0]) 32 rfl Tryz.underlying220 infoItem rfl (by decide) (by omega) v3 (xs.take m) (x, [(k : Int)], some ⟨w6.heap.size, 0, none⟩, 1) [.int .i64 x, .slice (some ⟨w6.heap.size, 0, none⟩) 1 1] (fun _ => True) (fun _ => False) (by simp [Act.eval, Act.put]) (by simp [Act.eval, Act.put]) (ck_M.2 rfl) (fun _ hk => hk.elim) (fun _ _ => trivial) (by first | exact HO3.out | exact Kd.R_below HO3.out (Below.refl _ _).drew) (by first | exact HB3.out | exact below_drew HB3.out) (show Below w6.heap.size w6 _ from (by first | exact HB3.out | exact below_drew HB3.out)).size (by rw [HLA.out]; omega) ?_; intro v4 w8 ho4 hb4 hg4 hat4; have HB4 := Lib.hid hb4; obtain ⟨gs, HO4, HN4⟩ : ∃ gs : Nat, Hid (CK.R 222 w8 w6.heap.size (fun _ => True) v4 (xs.take m ++ [(x, [(k : Int)], some ⟨gs, 0, none⟩, 1)])) ∧ Hid (Lies w.heap.size w8 (x, [(k : Int)], some ⟨gs, 0, none⟩, 1)) := ⟨_, Lib.hid ho4, Lib.hid (Lies.grownI (by first | exact HLW.out | exact lies_drew HLW.out) (by first | exact HO3.out | exact Kd.R_below HO3.out (Below.refl _ _).drew) hg4)⟩; clear HB k0 ho4 hb4 hg4 hat4; have HB := HB4; have k0 := HKB.out w8 HB4.out)
        | (refine Kd.R_append_rows_step CK (Rr := fun x cs => cs = encC x) (w0 := w6) w6.heap.size (by rfl) (.tmp 70) (.tmp 78) 220 222 (.agg #[.int .i64 0, .slice none 0 0]) 32 rfl Tryz.underlying220 infoItem rfl (by decide) (by omega) v3 (xs.take m) [(x, [(k : Int)], some ⟨w6.heap.size, 0, none⟩, 1)] (some ⟨w6.heap.size + 1, 0, none⟩) 1 1 (fun _ => True) (fun _ => False) (by simp [Act.eval, Act.put]) (by simp [Act.eval, Act.put]) (by first | exact HO3.out | exact Kd.R_below HO3.out (Below.refl _ _).drew) (ck_rows (by first | exact HJ.out | exact Kd.C_drew HJ.out)) (fun x cs h => ck_M.2 h) (fun _ h => h.elim) (fun _ _ => trivial) (by first | exact HB3.out | exact below_drew HB3.out) (show Below w6.heap.size w6 _ from (by first | exact HB3.out | exact below_drew HB3.out)).size (by rw [HLA.out]; first | omega | (simp; omega)) ?_; intro v4 w8 ho4 hb4 hg4 hat4; have HB4 := Lib.hid hb4; obtain ⟨gs, HO4, HN4⟩ : ∃ gs : Nat, Hid (CK.R 222 w8 w6.heap.size (fun _ => True) v4 (xs.take m ++ [(x, [(k : Int)], some ⟨gs, 0, none⟩, 1)])) ∧ Hid (Lies w.heap.size w8 (x, [(k : Int)], some ⟨gs, 0, none⟩, 1)) := ⟨_, Lib.hid ho4, Lib.hid (Lies.grownI (by first | exact HLW.out | exact lies_drew HLW.out) (by first | exact HO3.out | exact Kd.R_below HO3.out (Below.refl _ _).drew) hg4)⟩; clear HB k0 ho4 hb4 hg4 hat4; have HB := HB4; have k0 := HKB.out w8 HB4.out)
        | (refine Kd.R_append_rows_step CK (Rr := fun x cs => cs = encC x) (w0 := w6) w6.heap.size (by rfl) (.tmp 79) (.tmp 82) 220 222 (.agg #[.int .i64 0, .slice none 0 0]) 32 rfl Tryz.underlying220 infoItem rfl (by decide) (by omega) v4 (xs.take m ++ [(x, [(k : Int)], some ⟨gs, 0, none⟩, 1)]) (xs.drop m) A8 (xs.length - m) (c6 - m) (fun _ => True) (fun _ => False) (by simp [Act.eval, Act.put]) (by simp [Act.eval, Act.put]) (by first | exact HO4.out | exact Kd.R_below HO4.out (Below.refl _ _).drew) (HCB6.out _ (by first | exact HB4.out | exact below_drew HB4.out)) (fun x cs h => ck_M.2 h) (fun _ h => h.elim) (fun _ _ => trivial) (by first | exact HB4.out | exact below_drew HB4.out) (show Below w6.heap.size w6 _ from (by first | exact HB4.out | exact below_drew HB4.out)).size (by rw [List.length_append, HLA.out]; first | omega | (simp; omega)) ?_; intro v5 w9 ho5 hb5 hg5 hat5; have HO5 := Lib.hid ho5; have HB5 := Lib.hid hb5; have HN5 := Lib.hid (show Lies w.heap.size w9 (x, [(k : Int)], some ⟨gs, 0, none⟩, 1) from Lies.grownI (by first | exact HN4.out | exact lies_drew HN4.out) (by first | exact HO4.out | exact Kd.R_below HO4.out (Below.refl _ _).drew) hg5); clear HB k0 ho5 hb5 hg5 hat5; have HB := HB5; have k0 := HKB.out w9 HB5.out))
      all_goals
       have HB9 := Lib.hid (HW6.out.trans (HB5.out.mono HW6.out.size))
       have HITM := Lib.hid (show Itm w.heap.size w9 v5 (stab ltP (onesTo l (k + 1))) from ⟨_, Kd.R_lower HO5.out HW6.out.size, HRES.out gs, fun y hy => by
        have hb9 : Below w5.heap.size w5 w9 := HB6.out.trans (HB5.out.mono HB6.out.size)
        rcases List.mem_append.1 hy with hy | hy
        ·rcases List.mem_append.1 hy with hy | hy
         ·exact (HLX.out y (List.mem_append_left _ hy)).below hb9
         ·rw [List.mem_singleton.1 hy]
          exact HN5.out
        ·exact (HLX.out y (List.mem_append_right _ hy)).below hb9⟩)
       clear HB k0
       go_wp2_with (fail)
       go_roundg (l.length - (k + 1))
       case measure => have := HK.out; have := HKL.out; omega
       case rel => exact ⟨k + 1, by have := HKL.out; omega, by go_num, HITM.out, HB9.out⟩
  ·obtain rfl : k = l.length := by omega
   have hF : stab ltP (onesTo l l.length) = firstP l := rfl
   rw [hF] at hitm
   obtain ⟨xs, hr, hp, hli⟩ := hitm
   obtain ⟨A6, c6, rfl⟩ := Kd.R_slice hr
   obtain ⟨_, hcc, hC⟩ := Kd.R_reads' hr
   have hxl : xs.length = (firstP l).length := by rw [← hp, List.length_map]
   have hx356 : xs.length ≤ 356 := by
    rw [hxl, first_length]
    exact Nat.le_trans (onesTo_len l _) hl
   have hx2 : 2 ≤ xs.length := by rw [hxl]; exact hn2
   obtain ⟨w3, hw3⟩ : ∃ x : World, x = wr := ⟨_, rfl⟩
   rw [← hw3] at hb hr hli hC ⊢
   have HCC := Lib.hid (show xs.length ≤ c6 from hcc)
   have HA6 := Lib.hid (row_far hr)
   have HC := Lib.hid hC
   have HLI := Lib.hid hli
   have HP := Lib.hid hp
   have HB3 := Lib.hid hb
   have e0 : ((xs.length : Int) == 0) = false := beq_eq_false_iff_ne.2 (by omega)
   have e1 : ((xs.length : Int) == 1) = false := beq_eq_false_iff_ne.2 (by omega)
   have g1 : ¬ ((32768 : Int) < (xs.length : Int)) := by omega
   have g2 : ¬ ((356 : Int) < (l.length : Int)) := by omega
   clear hw3 hb hr hli hC hcc hp hxl hk hlt hF HI
   go_wp2_with ((with_reducible refine gate_dst (N := 98) rfl ?_); apply stopper)
   unfold Stopper
   refine Kd.R_make KI (w0 := w) w.heap.size 3 rfl (N := 98) rfl 26 _ _ rfl (l.length : Int) rfl rfl Tryz.underlying26 (.int .i64 0) 8 infoInt rfl (by decide) (by omega) 0 (ok := fun _ => True) (okp := fun _ => True) ?mM (fun _ hk => hk) trivial (by omega) ?mL HB3.out HB3.out.size ?_
   case mM => exact rfl
   case mL => omega
   intro v4 w4 hr hb hg hat
   rw [Int.toNat_natCast] at hr
   obtain ⟨A2, c2, rfl⟩ := Kd.R_slice hr
   rw [List.length_replicate] at hr hat ⊢
   have HR4 := Lib.hid hr
   have HB4 := Lib.hid hb
   have HV4 := Lib.hid (show ∀ q, (Value.slice A2 l.length c2).ownBlock = some q → w3.heap.size ≤ q from fun q hq => by
    obtain ⟨b, h1, h2⟩ := hat
    rw [hq] at h1
    injection h1 with h1
    rw [h1]
    exact h2)
   have hb34 : Below w3.heap.size w3 w4 := Below.grown (Below.refl _ _) hg (Nat.le_refl _) (fun q hq => by simp [Value.ownBlock] at hq)
   have HB34 := Lib.hid hb34
   clear hr hb hg hat hb34
   obtain ⟨F, hF⟩ : ∃ F, firstP l = F := ⟨_, rfl⟩
   have HBF := Lib.hid (show Bnd 1073741824 F by rw [← hF]; exact stab_bnd (okC_bnd HOK.out _))
   have HUF := Lib.hid (show Up F by rw [← hF]; exact stab_up (M := 1073741824) (by decide) (okC_bnd HOK.out _))
   rw [hF] at HP hn2
   have HF := Lib.hid hF
   clear hF
   go_wp2_with (fail)
   go_loopg [11, 12] 14 (fun j u i wr => ∃ k : Nat, k + j = 14 ∧ i = .int .i64 ((k : Int) + 2) ∧ Hid (RowF w3.heap.size w4.heap.size w.heap.size wr u (listAt F k) ∧ Below w4.heap.size w4 wr))
   case atStart => exact ⟨0, by omega, rfl, ⟨A6, c6, xs, rfl, HCC.out, Kd.C_below HC.out HB34.out, HP.out, fun y hy => (HLI.out y hy).below HB34.out, fun y hy => far_low (HLI.out y hy) (Nat.le_refl _), fun ad e => .inl (HA6.out ad e).2⟩, Below.refl _ _⟩
   case round =>
    obtain ⟨k, hk, rfl, HI⟩ := hrel
    obtain ⟨hrow, hb⟩ := HI.out
    by_cases hlt : k < 14
    ·have hki : (k : Int) + 2 ≤ 15 := by omega
     have hmg := listAt_mrg F HBF.out HUF.out k (by omega)
     obtain ⟨hup, hbd⟩ := listAt_up F HBF.out HUF.out k (by omega)
     have htl := listAt_le F k
     have htt : ∀ p ∈ listAt F k, p.2.length ≤ 40000 := fun p hp => by
      have h1 := tot_mem hp
      have h2 := tot_listAt F k
      have h3 := tot_first l
      rw [HF.out] at h3
      have h4 : (k + 1) * tot F ≤ 15 * 356 := Nat.mul_le_mul (by omega) (by omega)
      omega
     have hbM : Bnd 17592186044416 (listAt F k) := fun p hp => by
      have := hbd p hp
      have h9 : (2 : Int) ^ k ≤ 2 ^ 14 := by
       have := Nat.pow_le_pow_right (n := 2) (by decide) (show k ≤ 14 by omega)
       exact_mod_cast this
      omega
     obtain ⟨L, hL⟩ : ∃ L, listAt F k = L := ⟨_, rfl⟩
     rw [hL] at hmg htl htt hrow hbM
     obtain ⟨A7, c7, ys, rfl, hy1, hy2, hy3, hy4, hy5, hy6⟩ := hrow
     have hyl : ys.length = L.length := by rw [← hy3, List.length_map]
     have hFl : F.length ≤ 356 := by rw [← HP.out, List.length_map]; exact hx356
     have HMG := Lib.hid hmg
     have HTT := Lib.hid htt
     have HBM := Lib.hid hbM
     have HK := Lib.hid hk
     have HFL := Lib.hid hFl
     have HYL := Lib.hid (show ys.length ≤ 712 by omega)
     have HY3 := Lib.hid hy3
     have hxFl : xs.length = F.length := by rw [← HP.out, List.length_map]
     have HXF := Lib.hid hxFl
     obtain ⟨w5, hw5⟩ : ∃ x : World, x = wr := ⟨_, rfl⟩
     rw [← hw5] at hb hy2 hy4 ⊢
     have HY2 := Lib.hid hy2
     have HY4 := Lib.hid hy4
     have HBW := Lib.hid hb
     have hb35 : Below w3.heap.size w3 w5 := HB34.out.trans (hb.mono HB34.out.size)
     have HC5 := Lib.hid (Kd.C_below HC.out hb35)
     have HLI5 := Lib.hid (show ∀ y ∈ xs, Lies w.heap.size w5 y from fun y hy => (HLI.out y hy).below hb35)
     have HBW5 := Lib.hid (show Below w.heap.size w w5 from HB4.out.trans (hb.mono HB4.out.size))
     clear hw5 hb hy1 hy2 hy3 hy4 hy5 hy6 hyl hFl hmg htl htt hup hbd hbM hL hk hlt HI hxFl hb35
     go_wp2_with (fail)
     go_loopg [13, 14, 15] ys.length (fun j vn s i wr => ∃ t sN : Nat, s = .int .i64 sN ∧ i = .int .i64 ((2 * t : Nat) : Int) ∧ Hid (2 * t ≤ ys.length + 1 ∧ ys.length + 1 ≤ 2 * t + j + 1 ∧ sN ≤ F.length ∧ (∃ zs : List Coin, CK.R 222 wr w5.heap.size (fun _ => True) vn zs ∧ zs.map pl ++ mrg (F.drop sN) (packs (L.drop (2 * t))) = mrg F (packs L) ∧ (∀ x ∈ zs, Lies w.heap.size wr x) ∧ zs.length = sN + t ∧ (∀ x ∈ zs, Far w3.heap.size w4.heap.size x)) ∧ Below w5.heap.size w5 wr))
     case atStart => exact ⟨0, 0, rfl, rfl, by omega, by omega, by omega, ⟨[], Kd.R_nil _ _ _ _ _, rfl, fun x hx => (by cases hx), rfl, fun x hx => (by cases hx)⟩, Below.refl _ _⟩
     case round =>
      obtain ⟨t, sN, rfl, rfl, HI⟩ := hrel
      obtain ⟨ht1, ht2, hsF, ⟨zs, hr, hz2, hz3, hz4, hz5⟩, hb⟩ := HI.out
      obtain ⟨N2, hN2⟩ : ∃ N2, 2 * t = N2 := ⟨_, rfl⟩
      rw [hN2] at ht1 ht2 hz2 ⊢
      have hzl : zs.length ≤ 2000 := by have := HYL.out; have := HFL.out; omega
      obtain ⟨A9, c9, rfl⟩ := Kd.R_slice hr
      have HR := Lib.hid hr
      have HZ2 := Lib.hid hz2
      have HZ3 := Lib.hid hz3
      have HZ4 := Lib.hid hz4
      have HZ5 := Lib.hid hz5
      have HBZ := Lib.hid hb
      have HT1 := Lib.hid ht1
      have HT2 := Lib.hid ht2
      have HSF := Lib.hid hsF
      have HN2 := Lib.hid hN2
      have hw1 : wrap64 ((N2 : Int) + 1) = ((N2 + 1 : Nat) : Int) := by have := HYL.out; unfold wrap64; omega
      clear hr hz2 hz3 hz4 hz5 hb ht1 ht2 HI hN2
      by_cases hlt : N2 + 1 < ys.length
      ·have hlt2 : ((N2 + 1 : Nat) : Int) < (ys.length : Int) := by omega
       obtain ⟨⟨cx, sx, Ax, kx⟩, hx⟩ : ∃ y, ys[N2]? = some y := ⟨_, List.getElem?_eq_getElem (by omega)⟩
       obtain ⟨⟨cy, sy, Ay, ky⟩, hy⟩ : ∃ y, ys[N2 + 1]? = some y := ⟨_, List.getElem?_eq_getElem (by omega)⟩
       obtain ⟨ad7, rfl, x0, x1⟩ := coins_at (Kd.C_below HY2.out HBZ.out) N2 (cx, sx, Ax, kx) hx (by omega)
       obtain ⟨_, e7, y0, y1⟩ := coins_at (Kd.C_below HY2.out HBZ.out) (N2 + 1) (cy, sy, Ay, ky) hy (by omega)
       cases e7
       rw [add_add1] at x1 y1
       dsimp only at x0 x1 y0 y1
       have i0 : (0 : Int) ≤ (N2 : Int) := by omega
       have i1 : (N2 : Int) < (ys.length : Int) := by omega
       have i2 : ((N2 : Int)).toNat = N2 := by omega
       have i3 : (0 : Int) ≤ ((N2 + 1 : Nat) : Int) := by omega
       have i4 : (((N2 + 1 : Nat) : Int)).toNat = N2 + 1 := by omega
       have hmx : (cx, sx) ∈ L := by rw [← HY3.out]; exact List.mem_map.2 ⟨_, List.mem_of_getElem? hx, rfl⟩
       have hmy : (cy, sy) ∈ L := by rw [← HY3.out]; exact List.mem_map.2 ⟨_, List.mem_of_getElem? hy, rfl⟩
       have hcx := HBM.out _ hmx
       have hcy := HBM.out _ hmy
       have hsx := HTT.out _ hmx
       have hsy := HTT.out _ hmy
       dsimp only at hcx hcy hsx hsy
       have hw : IntKind.i64.wrap (cx + cy) = cx + cy := by rw [IntKind.wrap_i64]; first | omega | (unfold wrap64; omega)
       have hw2 : wrap64 (cx + cy) = cx + cy := by unfold wrap64; omega
       have hw3 : IntKind.i64.wrap ((N2 : Int) + 1) = ((N2 + 1 : Nat) : Int) := by have := HYL.out; rw [IntKind.wrap_i64]; first | omega | (unfold wrap64; omega)
       have HPKS := Lib.hid (show packs (L.drop N2) = (cx + cy, sx ++ sy) :: packs (L.drop (N2 + 2)) by
        have h9 : ys.length = L.length := by rw [← HY3.out, List.length_map]
        have e1 : L.drop N2 = (cx, sx) :: (cy, sy) :: L.drop (N2 + 2) := by
         rw [← HY3.out, ← List.map_drop, ← List.map_drop]
         rw [List.drop_eq_getElem_cons (show N2 < ys.length by omega), List.drop_eq_getElem_cons (show N2 + 1 < ys.length by omega)]
         have q1 : ys[N2] = (cx, sx, Ax, kx) := by
          have := List.getElem?_eq_getElem (show N2 < ys.length by omega)
          rw [hx] at this
          injection this with this
          exact this.symm
         have q2 : ys[N2 + 1] = (cy, sy, Ay, ky) := by
          have := List.getElem?_eq_getElem (show N2 + 1 < ys.length by omega)
          rw [hy] at this
          injection this with this
          exact this.symm
         rw [q1, q2]
         rfl
        rw [e1]
        show (wrap64 (cx + cy), sx ++ sy) :: _ = _
        rw [hw2])
       have HLX := Lib.hid ((HY4.out _ (List.mem_of_getElem? hx)).below HBZ.out)
       have HLY := Lib.hid ((HY4.out _ (List.mem_of_getElem? hy)).below HBZ.out)
       obtain ⟨w6, hw6⟩ : ∃ x : World, x = wr := ⟨_, rfl⟩
       rw [← hw6] at x0 x1 y0 y1 HLX HLY HR HZ3 HBZ ⊢
       clear hw6 hx hy hmx hmy hw2
       have HCELL := Lib.hid (show ∀ W : World, Below w6.heap.size w6 W → (W.cell? (ad7.add (N2 * 2)) = some (.int .i64 cx) ∧ W.cell? ⟨(ad7.add (N2 * 2)).block, (ad7.add (N2 * 2)).off + 1, none⟩ = some (.slice Ax sx.length kx) ∧ W.cell? (ad7.add ((N2 + 1) * 2)) = some (.int .i64 cy) ∧ W.cell? ⟨(ad7.add ((N2 + 1) * 2)).block, (ad7.add ((N2 + 1) * 2)).off + 1, none⟩ = some (.slice Ay sy.length ky)) from fun W hW =>
        ⟨pw_cell_below hW x0, pw_cell_below hW x1, pw_cell_below hW y0, pw_cell_below hW y1⟩)
       have HXI := Lib.hid (show ∀ W : World, Below w6.heap.size w6 W → ReadsRow (fun (x : Int) cs => cs = [.int .i64 x]) 1 W Ax sx.length sx from fun W hW => ki_rows (Kd.C_below (Kd.R_reads' HLX.out).2.2 hW))
       have HYI := Lib.hid (show ∀ W : World, Below w6.heap.size w6 W → ReadsRow (fun (x : Int) cs => cs = [.int .i64 x]) 1 W Ay sy.length sy from fun W hW => ki_rows (Kd.C_below (Kd.R_reads' HLY.out).2.2 hW))
       have HSX := Lib.hid hsx
       have HSY := Lib.hid hsy
       clear x0 x1 y0 y1 hsx hsy hcx hcy
       have HB := Lib.hid (Below.refl w6.heap.size w6)
       obtain ⟨x0, x1, y0, y1⟩ := HCELL.out w6 HB.out
       go_upto_region 32 with (fail)
       go_cut [16] (fun v16 wc => ∃ (gp : Nat) (A3 : Option Addr) (c3 : Nat), v16 = .pointer (some ⟨gp, 0, none⟩) ∧ Hid (w6.heap.size ≤ gp ∧ wc.heap[gp]? = some (.cells #[.int .i64 (cx + cy), .slice A3 (sx.length + sy.length) c3] 222 (0, 0)) ∧ Lies w4.heap.size wc (cx + cy, sx ++ sy, A3, c3) ∧ Below w6.heap.size w6 wc))
       case first =>
        obtain ⟨M, hM⟩ : ∃ M : Nat, N2 + 1 = M := ⟨_, rfl⟩
        rw [hM] at hw3 y0 y1 i3 i4 hlt2 HCELL
        clear hw1 hM hlt
        go_region_held3 (fun w' => w'.cell? (ad7.add (N2 * 2)) = some (.int .i64 cx) ∧ w'.cell? ⟨(ad7.add (N2 * 2)).block, (ad7.add (N2 * 2)).off + 1, none⟩ = some (.slice Ax sx.length kx) ∧ w'.cell? (ad7.add (M * 2)) = some (.int .i64 cy) ∧ w'.cell? ⟨(ad7.add (M * 2)).block, (ad7.add (M * 2)).off + 1, none⟩ = some (.slice Ay sy.length ky))
         (first | exact ⟨x0, x1, y0, y1⟩ | exact HCELL.out _ HB.out | exact HCELL.out _ (below_drew HB.out) | exact HCELL.out _ (Ints.bel_trans HB.out HB.out.size (bel_one _ _)) | exact HCELL.out _ (bel_set (by first | exact HB.out | exact below_drew HB.out | exact Ints.bel_trans HB.out HB.out.size (bel_one _ _) | exact (Ints.bel_trans HB.out HB.out.size (bel_one _ _)).drew) _ (by first | exact Nat.le_refl _ | exact HB3.out.size | exact HB4.out.size) _ _) | go_keep)
         (first
         | (refine Kd.R_append_rows_step KI (Rr := fun (x : Int) cs => cs = [.int .i64 x]) (w0 := w6) w6.heap.size (by rfl) (.const (.slice none 0 0)) (.tmp 142) 26 3 (.int .i64 0) 8 rfl Tryz.underlying26 infoInt rfl (by decide) (by omega) (.slice none 0 0) [] sx Ax sx.length kx (fun _ => True) (fun _ => False) rfl (by simp [Act.eval, Act.put]) (Kd.R_nil _ _ _ _ _) (HXI.out _ (by first | exact HB.out | exact below_drew HB.out)) (fun x cs h => h) (fun _ h => h.elim) (fun _ _ => trivial) (by first | exact HB.out | exact below_drew HB.out) (show Below w6.heap.size w6 _ from (by first | exact HB.out | exact below_drew HB.out)).size (by have := HSX.out; first | omega | (simp; omega)) ?_; intro v3 w7 ho3 hb3 hg3 hat3; rw [List.nil_append] at ho3; have HO3 := Lib.hid ho3; have HB3 := Lib.hid hb3; clear HB x0 x1 y0 y1 ho3 hb3 hg3 hat3; have HB := HB3; obtain ⟨x0, x1, y0, y1⟩ := HCELL.out w7 HB3.out)
         | (refine Kd.R_append_rows_step KI (Rr := fun (x : Int) cs => cs = [.int .i64 x]) (w0 := w6) w6.heap.size (by rfl) (.const (.slice none 0 0)) (.tmp 142) 26 3 (.int .i64 0) 8 rfl Tryz.underlying26 infoInt rfl (by decide) (by omega) (.slice none 0 0) [] sx Ax sx.length kx (fun _ => True) (fun _ => False) rfl (by simp [Act.eval, Act.put]) (Kd.R_nil _ _ _ _ _) (HXI.out _ (by first | exact (bel_one w6 _).drew | exact bel_one w6 _)) (fun x cs h => h) (fun _ h => h.elim) (fun _ _ => trivial) (by first | exact (bel_one w6 _).drew | exact bel_one w6 _) (show Below w6.heap.size w6 _ from (by first | exact (bel_one w6 _).drew | exact bel_one w6 _)).size (by have := HSX.out; first | omega | (simp; omega)) ?_; intro v3 w7 ho3 hb3 hg3 hat3; rw [List.nil_append] at ho3; have HO3 := Lib.hid ho3; have HB3 := Lib.hid hb3; have hgb := Below.grown (Below.refl _ _) hg3 (Nat.le_refl _) (fun q hq => by simp [Value.ownBlock] at hq); have HPB := Lib.hid (show w7.heap[w6.heap.size]? = some (.cells #[.int .i64 0, .slice none 0 0] 222 (0, 0)) from (hgb.block w6.heap.size (by simp)).trans (heap_alloc_self w6 _)); clear hgb; clear HB x0 x1 y0 y1 ho3 hb3 hg3 hat3; have HB := HB3; obtain ⟨x0, x1, y0, y1⟩ := HCELL.out w7 HB3.out)
         | (refine Kd.R_append_rows_step KI (Rr := fun (x : Int) cs => cs = [.int .i64 x]) (w0 := w6) w6.heap.size (by rfl) (.tmp 143) (.tmp 149) 26 3 (.int .i64 0) 8 rfl Tryz.underlying26 infoInt rfl (by decide) (by omega) v3 sx sy Ay sy.length ky (fun _ => True) (fun _ => False) (by simp [Act.eval, Act.put]) (by simp [Act.eval, Act.put]) (by first | exact HO3.out | exact Kd.R_below HO3.out (Below.refl _ _).drew) (HYI.out _ (by first | exact HB3.out | exact below_drew HB3.out)) (fun x cs h => h) (fun _ h => h.elim) (fun _ _ => trivial) (by first | exact HB3.out | exact below_drew HB3.out) (show Below w6.heap.size w6 _ from (by first | exact HB3.out | exact below_drew HB3.out)).size (by have := HSX.out; have := HSY.out; first | omega | (simp; omega)) ?_; intro v4 w8 ho4 hb4 hg4 hat4; obtain ⟨A3, c3, rfl⟩ := Kd.R_slice ho4; have HO4 := Lib.hid ho4; have HB4 := Lib.hid hb4; have HP8 := Lib.hid (show w8.heap[w6.heap.size]? = some (.cells #[.int .i64 0, .slice none 0 0] 222 (0, 0)) from kept_item hg4 HPB.out (by first | exact HO3.out | exact Kd.R_below HO3.out (Below.refl _ _).drew)); obtain ⟨z0, z1, z2, z3⟩ := item_cells HP8.out; clear HB x0 x1 y0 y1 ho4 hb4 hg4 hat4; have HB := HB4; obtain ⟨x0, x1, y0, y1⟩ := HCELL.out w8 HB4.out)
         | (refine Kd.R_append_rows_step KI (Rr := fun (x : Int) cs => cs = [.int .i64 x]) (w0 := w6) w6.heap.size (by rfl) (.tmp 143) (.tmp 149) 26 3 (.int .i64 0) 8 rfl Tryz.underlying26 infoInt rfl (by decide) (by omega) v3 sx sy Ay sy.length ky (fun _ => True) (fun _ => False) (by simp [Act.eval, Act.put]) (by simp [Act.eval, Act.put]) (Kd.R_below HO3.out (by first | exact (bel_one w7 _).drew | exact bel_one w7 _)) (HYI.out _ (by first | exact (Ints.bel_trans HB3.out HB3.out.size (bel_one w7 _)).drew | exact Ints.bel_trans HB3.out HB3.out.size (bel_one w7 _))) (fun x cs h => h) (fun _ h => h.elim) (fun _ _ => trivial) (by first | exact (Ints.bel_trans HB3.out HB3.out.size (bel_one w7 _)).drew | exact Ints.bel_trans HB3.out HB3.out.size (bel_one w7 _)) (show Below w6.heap.size w6 _ from (by first | exact (Ints.bel_trans HB3.out HB3.out.size (bel_one w7 _)).drew | exact Ints.bel_trans HB3.out HB3.out.size (bel_one w7 _))).size (by have := HSX.out; have := HSY.out; first | omega | (simp; omega)) ?_; intro v4 w8 ho4 hb4 hg4 hat4; obtain ⟨A3, c3, rfl⟩ := Kd.R_slice ho4; have HO4 := Lib.hid ho4; have HB4 := Lib.hid hb4; have HP8 := Lib.hid (show w8.heap[w7.heap.size]? = some (.cells #[.int .i64 0, .slice none 0 0] 222 (0, 0)) from kept_item hg4 (heap_alloc_self w7 _) (Kd.R_below HO3.out (by first | exact (bel_one w7 _).drew | exact bel_one w7 _))); obtain ⟨z0, z1, z2, z3⟩ := item_cells HP8.out; clear HB x0 x1 y0 y1 ho4 hb4 hg4 hat4; have HB := HB4; obtain ⟨x0, x1, y0, y1⟩ := HCELL.out w8 HB4.out)
         | (refine Kd.R_append_rows_step KI (Rr := fun (x : Int) cs => cs = [.int .i64 x]) (w0 := w6) w6.heap.size (by rfl) (.tmp 143) (.tmp 149) 26 3 (.int .i64 0) 8 rfl Tryz.underlying26 infoInt rfl (by decide) (by omega) v3 sx sy Ay sy.length ky (fun _ => True) (fun _ => False) (by simp [Act.eval, Act.put]) (by simp [Act.eval, Act.put]) (by first | exact HO3.out | exact Kd.R_below HO3.out (Below.refl _ _).drew) (HYI.out _ (by first | exact HB3.out | exact below_drew HB3.out)) (fun x cs h => h) (fun _ h => h.elim) (fun _ _ => trivial) (by first | exact HB3.out | exact below_drew HB3.out) (show Below w6.heap.size w6 _ from (by first | exact HB3.out | exact below_drew HB3.out)).size (by have := HSX.out; have := HSY.out; first | omega | (simp; omega)) ?_; intro v4 w8 ho4 hb4 hg4 hat4; obtain ⟨A3, c3, rfl⟩ := Kd.R_slice ho4; have HO4 := Lib.hid ho4; have HB4 := Lib.hid hb4; clear HB x0 x1 y0 y1 ho4 hb4 hg4 hat4; have HB := HB4; obtain ⟨x0, x1, y0, y1⟩ := HCELL.out w8 HB4.out))
        all_goals
         have HLE8 := Lib.hid (show Lies w4.heap.size w8 (cx + cy, sx ++ sy, A3, c3) from R_low HO4.out (Nat.le_trans HBW.out.size HBZ.out.size))
         go_wp2_with (fail)
         go_meet
         case rel => first
          | exact ⟨w8.heap.size, A3, c3, rfl, HB4.out.size, heap_alloc_self w8 _, lies_alloc HLE8.out _, HB4.out.alloc HB4.out.size _⟩
          | exact ⟨_, A3, c3, rfl, (by first | exact Nat.le_refl _ | exact HB3.out.size), blk_put (blk_put HP8.out 0 _ rfl) 1 _ rfl, Lies.chg HLE8.out (((Chg.refl (fun k => k = _) w8).setCell (p := ⟨_, 0, none⟩) (fun _ => rfl) _).setCell (p := ⟨_, 1, none⟩) (fun _ => rfl) _) HP8.out (by decide), bel_set HB4.out _ (by first | exact Nat.le_refl _ | exact HB3.out.size) _ _⟩
       case rest =>
        obtain ⟨gp, A3, c3, rfl, HX⟩ := hcut
        obtain ⟨w7, hw7⟩ : ∃ x : World, x = wc := ⟨_, rfl⟩
        rw [← hw7] at HX ⊢
        have HBX := Lib.hid (show Below w5.heap.size w5 w7 from HBZ.out.trans (HX.out.2.2.2.mono HBZ.out.size))
        have HRX := Lib.hid (show CK.R 222 w7 w5.heap.size (fun q => q ≠ gp) (.slice A9 zs.length c9) zs from R_iff.2 ⟨fun q hq => by
         have h1 := ((R_iff.1 HR.out).2.lt q hq).2
         have h2 := HX.out.1
         omega, (R_iff.1 (Kd.R_below HR.out HX.out.2.2.2)).2⟩)
        have HLX7 := Lib.hid (show Lies w.heap.size w7 (cx + cy, sx ++ sy, A3, c3) from R_low HX.out.2.2.1 HB4.out.size)
        have HFP := Lib.hid (show Far w3.heap.size w4.heap.size (cx + cy, sx ++ sy, A3, c3) from far_high HX.out.2.2.1 (Nat.le_refl _))
        clear hw7 x0 x1 y0 y1
        go_wp2_with (fail)
        go_loopg [13, 14] F.length (fun j vn s wr => ∃ sM : Nat, s = .int .i64 sM ∧ Hid (sM ≤ F.length ∧ F.length ≤ sM + j ∧ (∃ zs' : List Coin, CK.R 222 wr w5.heap.size (fun q => q ≠ gp) vn zs' ∧ zs'.map pl ++ mrg (F.drop sM) ((cx + cy, sx ++ sy) :: packs (L.drop (N2 + 2))) = mrg F (packs L) ∧ (∀ x ∈ zs', Lies w.heap.size wr x) ∧ zs'.length = sM + t ∧ (∀ x ∈ zs', Far w3.heap.size w4.heap.size x)) ∧ wr.heap[gp]? = some (.cells #[.int .i64 (cx + cy), .slice A3 (sx.length + sy.length) c3] 222 (0, 0)) ∧ Lies w.heap.size wr (cx + cy, sx ++ sy, A3, c3) ∧ Below w5.heap.size w5 wr))
        case atStart => exact ⟨sN, rfl, HSF.out, by omega, ⟨zs, HRX.out, by rw [← HPKS.out]; exact HZ2.out, fun y hy => (HZ3.out y hy).below HX.out.2.2.2, HZ4.out, HZ5.out⟩, HX.out.2.1, HLX7.out, HBX.out⟩
        case round =>
         obtain ⟨sM, rfl, HI⟩ := hrel
         obtain ⟨hs1, hs2, ⟨zs2, hr, hq2, hq3, hq4, hq5⟩, hgp, hlp, hb⟩ := HI.out
         obtain ⟨p0, p1, _, _⟩ := item_cells hgp
         obtain ⟨A11, c11, rfl⟩ := Kd.R_slice hr
         have hzl2 : zs2.length ≤ 2000 := by have := HYL.out; have := HFL.out; have := HT1.out; have := HN2.out; omega
         have HR2 := Lib.hid hr
         have HQ2 := Lib.hid hq2
         have HQ3 := Lib.hid hq3
         have HQ4 := Lib.hid hq4
         have HQ5 := Lib.hid hq5
         have HGP := Lib.hid hgp
         have HLP := Lib.hid hlp
         have HBY := Lib.hid hb
         have HS1 := Lib.hid hs1
         have HS2 := Lib.hid hs2
         have hsw : wrap64 ((sM : Int) + 1) = ((sM + 1 : Nat) : Int) := by have := HFL.out; unfold wrap64; omega
         have hPF : F = xs.map pl := HP.out.symm
         have hDD : sM = F.length ∨ (sM < F.length ∧ (xs.getD sM (0, [], none, 0)).1 ≤ cx + cy) ∨ (sM < F.length ∧ ¬ (xs.getD sM (0, [], none, 0)).1 ≤ cx + cy) := by
          rcases Nat.lt_or_ge sM F.length with h | h
          ·by_cases hc : (xs.getD sM (0, [], none, 0)).1 ≤ cx + cy
           ·exact .inr (.inl ⟨h, hc⟩)
           ·exact .inr (.inr ⟨h, hc⟩)
          ·exact .inl (Nat.le_antisymm hs1 h)
         have HPF := Lib.hid hPF
         have HXF2 := HXF
         clear hs2 hr hq2 hq3 hq4 hq5 hgp hlp hb HI hPF
         have hxFn := HXF.out
         rcases hDD with h0 | ⟨h0, hc⟩ | ⟨h0, hc⟩
         case' inl =>
          have g1 : decide (sM < xs.length) = false := decide_eq_false (by rw [hxFn, h0]; exact Nat.lt_irrefl _)
          have HSTOP := Lib.hid (show ∀ y r, F.drop sM = y :: r → cx + cy < y.1 from fun y r e => by
           rw [h0, List.drop_length] at e; cases e)
          clear h0 hxFn
          go_upto_region 33 with (fail)
          go_quiet (fail)
         case' inr.inr =>
          have hsx9 : sM < xs.length := by rw [hxFn]; exact h0
          have g1 : decide (sM < xs.length) = true := decide_eq_true hsx9
          obtain ⟨⟨fx, fs, Af, kf⟩, hy⟩ : ∃ y, xs[sM]? = some y := ⟨_, List.getElem?_eq_getElem hsx9⟩
          obtain ⟨ad6, rfl, y0, _⟩ := coins_at (Kd.C_below HC5.out HBY.out) sM (fx, fs, Af, kf) hy (Nat.lt_of_le_of_lt (Nat.zero_le _) hsx9)
          rw [List.getD_eq_getElem?_getD, hy] at hc
          have hc2 : ¬ (fx ≤ cx + cy) := hc
          have HSTOP := Lib.hid (show ∀ y r, F.drop sM = y :: r → cx + cy < y.1 from fun y r e => by
           have h9 : F[sM]? = some y := by
            have := congrArg (fun t => t[0]?) e
            simpa using this
           rw [HPF.out, List.getElem?_map, hy] at h9
           injection h9 with h9
           rw [← h9]
           show cx + cy < fx
           exact Int.not_le.1 hc2)
          have j0 : (0 : Int) ≤ (sM : Int) := Int.natCast_nonneg _
          have j1 : (sM : Int) < (xs.length : Int) := Int.ofNat_lt.2 hsx9
          have j2 : ((sM : Int)).toNat = sM := Int.toNat_natCast _
          dsimp only at y0
          clear hc hy h0 hxFn hsx9
          go_upto_region 33 with (fail)
          go_quiet (fail)
          clear y0 hc2 j0 j1 j2
         case inr.inl =>
          have hsx9 : sM < xs.length := by rw [hxFn]; exact h0
          have g1 : decide (sM < xs.length) = true := decide_eq_true hsx9
          obtain ⟨⟨fx, fs, Af, kf⟩, hy⟩ : ∃ y, xs[sM]? = some y := ⟨_, List.getElem?_eq_getElem hsx9⟩
          obtain ⟨ad6, rfl, y0, y1⟩ := coins_at (Kd.C_below HC5.out HBY.out) sM (fx, fs, Af, kf) hy (Nat.lt_of_le_of_lt (Nat.zero_le _) hsx9)
          rw [List.getD_eq_getElem?_getD, hy] at hc
          have hc2 : fx ≤ cx + cy := hc
          rw [add_add1] at y1
          dsimp only at y0 y1
          have HNX := Lib.hid (show mrg (F.drop sM) ((cx + cy, sx ++ sy) :: packs (L.drop (N2 + 2))) = (fx, fs) :: mrg (F.drop (sM + 1)) ((cx + cy, sx ++ sy) :: packs (L.drop (N2 + 2))) by
           have e1 : F.drop sM = (fx, fs) :: F.drop (sM + 1) := by
            rw [List.drop_eq_getElem_cons h0]
            congr 1
            have h9 : F[sM]? = some (fx, fs) := by rw [HPF.out, List.getElem?_map, hy]; rfl
            exact Option.some.inj ((List.getElem?_eq_getElem h0).symm.trans h9)
           rw [e1]
           exact mrg_take hc2)
          have HLF := Lib.hid ((HLI5.out _ (List.mem_of_getElem? hy)).below HBY.out)
          have HFF := Lib.hid (show Far w3.heap.size w4.heap.size (fx, fs, Af, kf) from far_low (HLI.out _ (List.mem_of_getElem? hy)) (Nat.le_refl _))
          have HM0 := Lib.hid h0
          have j0 : (0 : Int) ≤ (sM : Int) := Int.natCast_nonneg _
          have j1 : (sM : Int) < (xs.length : Int) := Int.ofNat_lt.2 hsx9
          have j2 : ((sM : Int)).toNat = sM := Int.toNat_natCast _
          clear hc hy h0 hs1 hxFn hsx9
          go_upto_region 33 with (fail)
          go_quiet (fail)
          obtain ⟨w8, hw8⟩ : ∃ x : World, x = wr.drewN nq := ⟨_, rfl⟩
          rw [← hw8]
          have hb8 : Below wr.heap.size wr w8 := by rw [hw8]; exact bel_drewN (Below.refl _ _) nq
          have y0 := pw_cell_below hb8 y0
          have y1 := pw_cell_below hb8 y1
          have HB8 := Lib.hid hb8
          clear hw8 hb8
          go_wp2_with (((with_reducible refine gate_builtin (b := .append) (xs := #[.tmp 166, .tmp 171]) rfl ?_); at_builtin; apply stopper))
          unfold Stopper
          have HR8 := Lib.hid (Kd.R_below HR2.out HB8.out)
          have HG8 := Lib.hid ((HB8.out.block gp (blk_lt HGP.out)).trans HGP.out)
          have hg8 := blk_lt HG8.out
          refine Kd.R_append CK (w0 := w5) w5.heap.size rfl (.tmp 166) (.tmp 171) 220 222 (.agg #[.int .i64 0, .slice none 0 0]) 32 rfl Tryz.underlying220 infoItem rfl (by decide) (by decide) (.slice A11 zs2.length c11) zs2 (fx, fs, Af, kf) [.int .i64 fx, .slice Af fs.length kf] (fun q => q ≠ gp) (fun _ => False) rfl rfl (ck_M.2 rfl) (fun _ hk => hk.elim) ?aF ?aO ?aB ?aS ?aL ?_
          case aF => exact fun q hq e => by rw [e] at hq; exact absurd hg8 (Nat.not_lt.2 hq)
          case aO => exact HR8.out
          case aB => exact HBY.out.trans (HB8.out.mono HBY.out.size)
          case aS => exact Nat.le_trans HBY.out.size HB8.out.size
          case aL => exact Nat.le_trans (Nat.mul_le_mul_right 32 (Nat.succ_le_succ hzl2)) (by decide)
          intro v9 w9 ho9 hb9 hg9 hat9
          have HO9 := Lib.hid ho9
          have HB9 := Lib.hid hb9
          have HG9 := Lib.hid ((hg9.block gp hg8 (fun e => (R_iff.1 HR8.out).1 gp e.symm rfl)).trans HG8.out)
          have HL9 := Lib.hid (show ∀ y ∈ zs2 ++ [((fx, fs, Af, kf) : Coin)], Lies w.heap.size w9 y from fun y hy => by
           rcases List.mem_append.1 hy with hy | hy
           ·exact ((HQ3.out y hy).below HB8.out).grownI HR8.out hg9
           ·rw [List.mem_singleton.1 hy]
            exact (HLF.out.below HB8.out).grownI HR8.out hg9)
          have HF9 := Lib.hid (show ∀ y ∈ zs2 ++ [((fx, fs, Af, kf) : Coin)], Far w3.heap.size w4.heap.size y from fun y hy => by
           rcases List.mem_append.1 hy with hy | hy
           ·exact HQ5.out y hy
           ·rw [List.mem_singleton.1 hy]
            exact HFF.out)
          have HP9 := Lib.hid ((HLP.out.below HB8.out).grownI HR8.out hg9)
          have HQ9 := Lib.hid (show (zs2 ++ [((fx, fs, Af, kf) : Coin)]).map pl ++ mrg (F.drop (sM + 1)) ((cx + cy, sx ++ sy) :: packs (L.drop (N2 + 2))) = mrg F (packs L) by
           rw [← HQ2.out, HNX.out, List.map_append, List.append_assoc]
           rfl)
          clear ho9 hb9 hg9 hat9 y0 y1
          go_wp2_with (fail)
          go_roundg (F.length - (sM + 1))
          case measure => have := HM0.out; have := HS2.out; omega
          case rel => exact ⟨sM + 1, by go_num, HM0.out, by have := HM0.out; omega, ⟨_, HO9.out, HQ9.out, HL9.out, by rw [List.length_append, HQ4.out]; show sM + t + 1 = _; omega, HF9.out⟩, HG9.out, HP9.out, HB9.out⟩
         all_goals
          have HPUT := Lib.hid (show mrg (F.drop sM) ((cx + cy, sx ++ sy) :: packs (L.drop (N2 + 2))) = (cx + cy, sx ++ sy) :: mrg (F.drop sM) (packs (L.drop (N2 + 2))) from mrg_put HSTOP.out)
          obtain ⟨w8, hw8⟩ : ∃ x : World, x = wr.drewN nq := ⟨_, rfl⟩
          rw [← hw8]
          have hb8 : Below wr.heap.size wr w8 := by rw [hw8]; exact bel_drewN (Below.refl _ _) nq
          have HB8 := Lib.hid hb8
          have HR8 := Lib.hid (Kd.R_below HR2.out HB8.out)
          have HG8 := Lib.hid ((HB8.out.block gp (blk_lt HGP.out)).trans HGP.out)
          obtain ⟨p0, p1, _, _⟩ := item_cells HG8.out
          clear hw8 hb8
          go_wp2_with (((with_reducible refine gate_builtin (b := .append) (xs := #[.tmp 175, .tmp 177]) rfl ?_); at_builtin; apply stopper))
          unfold Stopper
          refine Kd.R_append CK (w0 := w5) w5.heap.size rfl (.tmp 175) (.tmp 177) 220 222 (.agg #[.int .i64 0, .slice none 0 0]) 32 rfl Tryz.underlying220 infoItem rfl (by decide) (by decide) (.slice A11 zs2.length c11) zs2 (cx + cy, sx ++ sy, A3, c3) [.int .i64 (cx + cy), .slice A3 (sx.length + sy.length) c3] (fun _ => True) (fun _ => False) rfl rfl (ck_M.2 (by unfold encC slv; rw [List.length_append])) (fun _ hk => hk.elim) (fun _ _ => trivial) ?aO ?aB ?aS ?aL ?_
          case aO => exact R_iff.2 ⟨fun _ _ => trivial, (R_iff.1 HR8.out).2⟩
          case aB => exact HBY.out.trans (HB8.out.mono HBY.out.size)
          case aS => exact Nat.le_trans HBY.out.size HB8.out.size
          case aL => exact Nat.le_trans (Nat.mul_le_mul_right 32 (Nat.succ_le_succ hzl2)) (by decide)
          intro v9 w9 ho9 hb9 hg9 hat9
          have HO9 := Lib.hid ho9
          have HB9 := Lib.hid hb9
          have HL9 := Lib.hid (show ∀ y ∈ zs2 ++ [((cx + cy, sx ++ sy, A3, c3) : Coin)], Lies w.heap.size w9 y from fun y hy => by
           rcases List.mem_append.1 hy with hy | hy
           ·exact ((HQ3.out y hy).below HB8.out).grownI HR8.out hg9
           ·rw [List.mem_singleton.1 hy]
            exact (HLP.out.below HB8.out).grownI HR8.out hg9)
          have HQ9 := Lib.hid (show (zs2 ++ [((cx + cy, sx ++ sy, A3, c3) : Coin)]).map pl ++ mrg (F.drop sM) (packs (L.drop (N2 + 2))) = mrg F (packs L) by
           rw [← HQ2.out, HPUT.out, List.map_append, List.append_assoc]
           rfl)
          have HF9 := Lib.hid (show ∀ y ∈ zs2 ++ [((cx + cy, sx ++ sy, A3, c3) : Coin)], Far w3.heap.size w4.heap.size y from fun y hy => by
           rcases List.mem_append.1 hy with hy | hy
           ·exact HQ5.out y hy
           ·rw [List.mem_singleton.1 hy]
            exact HFP.out)
          have hnw : wrap64 ((N2 : Int) + 2) = ((N2 + 2 : Nat) : Int) := wrap_two HT1.out HYL.out
          have hn22 : N2 + 2 = 2 * (t + 1) := by rw [← HN2.out]; exact (Nat.mul_add 2 t 1).symm
          clear ho9 hb9 hg9 hat9 p0 p1
          go_wp2_with (fail)
          go_roundg (ys.length - (N2 + 2))
          case measure => exact meas_three hlt HT2.out
          case rel => exact ⟨t + 1, sM, rfl, by rw [hnw, hn22], by rw [← hn22]; exact Nat.succ_le_succ (Nat.le_of_lt hlt), by rw [← hn22]; exact meas_two hlt, HS1.out, ⟨_, HO9.out, by rw [← hn22]; exact HQ9.out, HL9.out, by rw [List.length_append, HQ4.out]; rfl, HF9.out⟩, HB9.out⟩
      ·have hlt2 : ¬ (((N2 + 1 : Nat) : Int) < (ys.length : Int)) := by omega
       obtain ⟨A8, hA8⟩ : ∃ A8, (if c6 = sN then A6 else A6.map (·.add (sN * 2))) = A8 := ⟨_, rfl⟩
       have hsX : sN ≤ xs.length := by have := HXF.out; omega
       have hcutB : ∀ W : World, (Instr.slice 220 (.slice A6 xs.length c6) (some (.int .i64 (sN : Int))) none none).run Tryz.prog W = .ok (.slice A8 (xs.length - sN) (c6 - sN)) W := by
        intro W
        obtain ⟨i0, hi, hz⟩ := Option.map_eq_some_iff.1 infoItem
        simp only [Prod.mk.injEq] at hz
        have := cut_from (P := Tryz.prog) 220 222 .i64 Tryz.underlying220 hi 2 hz.2.1 A6 xs.length c6 (sN : Int) (by omega) (by omega) W
        rw [Int.toNat_natCast, hA8] at this
        exact this
       have hCB : CK.C w5 A8 (xs.drop sN).length (xs.drop sN) := by
        have h := Kd.C_drop (c := c6) (m := sN) HC5.out hsX HCC.out
        rw [show CK.sz = 2 from rfl, hA8] at h
        exact h
       have hlb : (xs.drop sN).length = xs.length - sN := List.length_drop
       rw [hlb] at hCB
       have HCB := Lib.hid (Kd.C_below hCB HBZ.out)
       have HLB := Lib.hid hlb
       have hx356' := hx356
       have HFIN := Lib.hid (show (zs ++ xs.drop sN).map pl = listAt F (k + 1) by
        have h1 : packs (L.drop N2) = [] := by
         have : (L.drop N2).length ≤ 1 := by
          have h9 : ys.length = L.length := by rw [← HY3.out, List.length_map]
          rw [List.length_drop]; omega
         cases hx : L.drop N2 with
         | nil => rfl
         | cons a r =>
           cases r with
           | nil => rfl
           | cons b r => rw [hx] at this; simp at this
        have h2 := HZ2.out
        rw [h1] at h2
        rw [HMG.out, ← h2, List.map_append, List.map_drop, HP.out]
        rfl)
       clear hCB hlb hA8 hlt
       go_wp2_with (((with_reducible refine gate_builtin (b := .append) (xs := #[.tmp 179, .tmp 182]) rfl ?_); at_builtin; apply stopper))
       unfold Stopper
       refine Kd.R_append_rows CK (Rr := fun x cs => cs = encC x) (w0 := w5) w5.heap.size rfl (.tmp 179) (.tmp 182) 220 222 (.agg #[.int .i64 0, .slice none 0 0]) 32 rfl Tryz.underlying220 infoItem rfl (by decide) (by omega) (.slice A9 zs.length c9) zs (xs.drop sN) A8 (xs.length - sN) (c6 - sN) (fun _ => True) (fun _ => False) rfl rfl ?aO ?aR (fun x cs h => ck_M.2 h) (fun _ h => h.elim) (fun _ _ => trivial) ?aB ?aS ?aL ?_
       case aO => exact HR.out
       case aR => exact ck_rows HCB.out
       case aB => exact HBZ.out
       case aS => exact HBZ.out.size
       case aL => omega
       intro v9 w9 ho9 hb9 hg9 hat9
       obtain ⟨A10, c10, rfl⟩ := Kd.R_slice ho9
       obtain ⟨_, hcc9, hC9⟩ := Kd.R_reads' ho9
       have hrf := row_far ho9
       have HROW9 := Lib.hid (show RowF w3.heap.size w4.heap.size w.heap.size w9 (.slice A10 (zs ++ xs.drop sN).length c10) (listAt F (k + 1)) from ⟨A10, c10, zs ++ xs.drop sN, rfl, hcc9, hC9, HFIN.out, fun y hy => by
        rcases List.mem_append.1 hy with hy | hy
        ·exact (HZ3.out y hy).grownI HR.out hg9
        ·exact ((HLI5.out y (List.mem_of_mem_drop hy)).below HBZ.out).grownI HR.out hg9, fun y hy => by
        rcases List.mem_append.1 hy with hy | hy
        ·exact HZ5.out y hy
        ·exact far_low (HLI.out y (List.mem_of_mem_drop hy)) (Nat.le_refl _), fun ad e => .inr (Nat.le_trans HBW.out.size (hrf ad e).1)⟩)
       have HB9 := Lib.hid (show Below w4.heap.size w4 w9 from HBW.out.trans (hb9.mono HBW.out.size))
       clear ho9 hb9 hg9 hat9 hcc9 hC9 hrf
       go_wp2_with (fail)
       go_roundg (14 - (k + 1))
       case measure => have := HK.out; omega
       case rel => exact ⟨k + 1, by have := HK.out; omega, by first | go_num | (congr 1; omega), by have h := HROW9.out; rw [List.length_append, HLB.out] at h; exact h, HB9.out⟩
    ·--S4
     obtain rfl : k = 14 := by omega
     obtain ⟨A7, c7, ys, rfl, hc7, hr7, hm7, hl7, hf7, ha7⟩ := hrow
     have hyl : ys.length = (listAt F 14).length := by rw [← hm7, List.length_map]
     have hFl : F.length ≤ 356 := by rw [← HP.out, List.length_map]; exact hx356
     have hxFl : xs.length = F.length := by rw [← HP.out, List.length_map]
     obtain ⟨T, hT⟩ : ∃ T : Nat, 2 * F.length - 2 = T := ⟨_, rfl⟩
     have hnT : nTake F.length = T := by unfold nTake; rw [if_neg (by omega)]; exact hT
     have hTle := nTake_le F (by omega)
     rw [hnT, ← hyl] at hTle
     have hT712 : T ≤ 712 := by omega
     have HTX := Lib.hid (show 2 * (xs.length : Int) - 2 = (T : Int) by omega)
     have htw := two_n (n := xs.length) (T := T) (by rw [hxFl]; exact hT) hx2 hx356
     have hk14 : ¬ (((14 : Nat) : Int) + 2 ≤ 15) := by decide
     obtain ⟨TI, hTI⟩ : ∃ TI : Int, (T : Int) = TI := ⟨_, rfl⟩
     have hlo4 : w3.heap.size ≤ w4.heap.size := HB34.out.size
     have hv2 : ∀ q, (Value.slice A2 l.length c2).ownBlock = some q → w3.heap.size ≤ q ∧ q < w4.heap.size := fun q hq => ⟨HV4.out q hq, Read.own_lt HR4.out q hq⟩
     have HV2 := Lib.hid hv2
     have HR7 := Lib.hid hr7
     have HM7 := Lib.hid hm7
     have HL7 := Lib.hid hl7
     have HF7 := Lib.hid hf7
     have HA7 := Lib.hid ha7
     have HBW := Lib.hid hb
     have HYL := Lib.hid hyl
     have HTLE := Lib.hid hTle
     have HNT := Lib.hid hnT
     have HTI := Lib.hid hTI
     obtain ⟨wB, hwB⟩ : ∃ wB : World, wB = wr := ⟨_, rfl⟩
     rw [← hwB] at HR7 HL7 HBW ⊢
     have HR2B := Lib.hid (show KI.R 3 wB w.heap.size (fun _ => True) (.slice A2 l.length c2) (List.replicate l.length 0) from Kd.R_below HR4.out HBW.out)
     have HBB := Lib.hid (show Below w.heap.size w wB from HB4.out.trans (HBW.out.mono HB4.out.size))
     clear hwB hr7 hm7 hl7 hf7 ha7 hb hyl hFl hxFl hTle hT hnT hv2 hk hlt hTI HI hlo4
     go_wp2_with (fail)
     go_loopg [17] T (fun j i wr => ∃ k : Nat, k + j = T ∧ i = .int .i64 k ∧ Hid (KI.R 3 wr w.heap.size (fun _ => True) (.slice A2 l.length c2) (bumps (List.replicate l.length 0) ((ys.map pl).take k)) ∧ Chg (fun q => (Value.slice A2 l.length c2).ownBlock = some q) wB wr))
     case atStart => exact ⟨0, by omega, rfl, HR2B.out, Chg.refl _ _⟩
     case round =>
      obtain ⟨k, hk, rfl, HI⟩ := hrel
      obtain ⟨hr, hch⟩ := HI.out
      by_cases hlt : k < T
      ·have hky : k < ys.length := by have := HTLE.out; omega
       obtain ⟨⟨cx, sx, Ax, kx⟩, hx⟩ : ∃ x, ys[k]? = some x := ⟨_, List.getElem?_eq_getElem hky⟩
       obtain ⟨ad, rfl, z0, z1⟩ := coins_at HR7.out k (cx, sx, Ax, kx) hx (by omega)
       have hcc := C_chg HR7.out hch (fun e => by have h1 := HV2.out _ e; have h2 := HA7.out ad rfl; omega)
       obtain ⟨_, e, y0, y1⟩ := coins_at hcc k (cx, sx, Ax, kx) hx (by omega)
       cases e
       have y1 : wr.cell? ⟨(ad.add (k * 2)).block, (ad.add (k * 2)).off + 1, none⟩ = some (.slice Ax sx.length kx) := by rw [← add_add1]; exact y1
       clear z0 z1
       have hfx := HF7.out (cx, sx, Ax, kx) (List.mem_of_getElem? hx)
       have hlx := lies_far (HL7.out (cx, sx, Ax, kx) (List.mem_of_getElem? hx)) hch (fun q hq => HV2.out q hq) hfx
       have i0 : (0 : Int) ≤ k := by omega
       have i1 : (k : Int) < (ys.length : Int) := by omega
       have i2 : ((k : Int)).toNat = k := by omega
       have i3 : (k : Int) < 2 * (xs.length : Int) - 2 := by rw [HTX.out]; exact Int.ofNat_lt.2 hlt
       have hsn : (ys.map pl).take (k + 1) = (ys.map pl).take k ++ [(cx, sx)] := by
        rw [List.take_add_one, List.getElem?_map, hx]
        rfl
       have hsy : ∀ s ∈ sx, 0 ≤ s ∧ s < (l.length : Int) := by
        have h1 := syms_listAt l 14
        rw [HF.out] at h1
        exact h1 (cx, sx) (by rw [← HM7.out]; exact List.mem_map.2 ⟨_, List.mem_of_getElem? hx, rfl⟩)
       have hsxl : sx.length ≤ 6000 := by
        have h1 := tot_mem (ps := listAt F 14) (p := (cx, sx)) (by rw [← HM7.out]; exact List.mem_map.2 ⟨_, List.mem_of_getElem? hx, rfl⟩)
        have h2 := tot_listAt F 14
        have h3 := tot_first l
        rw [HF.out] at h3
        have h1 : sx.length ≤ tot (listAt F 14) := h1
        omega
       have HR := Lib.hid hr
       have HCH := Lib.hid hch
       have HSN := Lib.hid hsn
       have HSY := Lib.hid hsy
       have HK := Lib.hid hk
       have HFX := Lib.hid hfx
       have HXK := Lib.hid hx
       clear hr hch hlx hsn hsy hk hcc HI hfx hx hky
       have HLB := Lib.hid (HL7.out (cx, sx, Ax, kx) (List.mem_of_getElem? HXK.out))
       obtain ⟨O, hO⟩ : ∃ O, bumps (List.replicate l.length 0) ((ys.map pl).take k) = O := ⟨_, rfl⟩
       have hOl : O.length = l.length := by rw [← hO, bumps_length, List.length_replicate]
       rw [hO] at HR
       have HO := Lib.hid hO
       have HOL := Lib.hid hOl
       clear hO hOl y0 y1
       go_wp2_with (fail)
       go_loopg [18] sx.length (fun j i wr => ∃ t : Nat, t + j = sx.length ∧ i = .int .i64 t ∧ Hid (KI.R 3 wr w.heap.size (fun _ => True) (.slice A2 l.length c2) ((sx.take t).foldl bump O) ∧ Chg (fun q => (Value.slice A2 l.length c2).ownBlock = some q) wB wr))
       case atStart => exact ⟨0, by omega, rfl, HR.out, HCH.out⟩
       case round =>
        obtain ⟨t, ht, rfl, HI⟩ := hrel
        obtain ⟨hr, hch⟩ := HI.out
        have hcc := C_chg HR7.out hch (fun e => by have h1 := HV2.out _ e; have h2 := HA7.out ad rfl; omega)
        obtain ⟨_, e, q0, q1⟩ := coins_at hcc k (cx, sx, Ax, kx) HXK.out (by omega)
        cases e
        have q1 : wr.cell? ⟨(ad.add (k * 2)).block, (ad.add (k * 2)).off + 1, none⟩ = some (.slice Ax sx.length kx) := by rw [← add_add1]; exact q1
        clear hcc q0
        by_cases htl : t < sx.length
        ·obtain ⟨ad3, rfl, x0⟩ := ints_at (Kd.R_reads' (lies_far HLB.out hch (fun q hq => HV2.out q hq) HFX.out)).2.2 t htl
         obtain ⟨sy, hsy⟩ : ∃ sy, sx.getD t 0 = sy := ⟨_, rfl⟩
         have hin : 0 ≤ sy ∧ sy < (l.length : Int) := HSY.out sy (by rw [← hsy, List.getD_eq_getElem?_getD, List.getElem?_eq_getElem htl]; exact List.getElem_mem htl)
         obtain ⟨s0, s1⟩ := hin
         have hts : sx.take (t + 1) = sx.take t ++ [sy] := by rw [take_succ_getD sx t htl, hsy]
         obtain ⟨P, hP⟩ : ∃ P, (sx.take t).foldl bump O = P := ⟨_, rfl⟩
         have hnx : (sx.take (t + 1)).foldl bump O = bump P sy := by rw [hts, List.foldl_append, hP]; rfl
         have hPl : P.length = l.length := by rw [← hP, foldl_bump_length, HOL.out]
         rw [hsy] at x0
         rw [hP] at hr
         obtain ⟨g, cap, hv, hge, hgl, cells, hcell⟩ := Kd.R_form hr (by omega)
         rw [hPl] at hv
         injection hv with hv1 hv2 hv3
         subst hv1 hv3
         have hr' := hr
         rw [← hPl] at hr'
         obtain ⟨y0, y1⟩ := Kd.R_cell (enc := Value.int .i64) (h1 := fun _ => rfl) (0 : Int) hr' sy s0 (by rw [hPl]; exact s1)
         obtain ⟨x, hx2⟩ : ∃ x, P.getD sy.toNat 0 = x := ⟨_, rfl⟩
         obtain ⟨K, hKw⟩ : ∃ K, wrap64 (x + 1) = K := ⟨_, rfl⟩
         have hw : IntKind.i64.wrap (x + 1) = K := by rw [← hKw, IntKind.wrap_i64]; first | rfl | (unfold wrap64; omega)
         obtain ⟨p0, p1⟩ := Kd.R_put (enc := Value.int .i64) (h1 := fun _ => rfl) hr' sy K
         rw [hPl] at p0
         rw [show rdOf (0 : Int) P sy = x from hx2] at y0
         have hset : P.set sy.toNat K = bump P sy := by unfold bump; rw [hx2, hKw]
         rw [hset, ← hnx] at p0
         have P0 := Lib.hid p0
         have HCH2 := Lib.hid (hch.grown p1 (fun k hk _ => hk))
         have j0 : (0 : Int) ≤ t := by omega
         have j1 : (t : Int) < (sx.length : Int) := by omega
         have j2 : ((t : Int)).toNat = t := by omega
         have HTT := Lib.hid ht
         clear hr hr' hch HI p0 p1 hset hx2 hsy hts hP hnx hPl hcell hge hgl hKw ht
         go_wp2_with (fail)
         go_roundg (sx.length - (t + 1))
         case measure => have := HTT.out; omega
         case rel => exact ⟨t + 1, by have := HTT.out; omega, by go_num, P0.out, HCH2.out⟩
        ·obtain rfl : t = sx.length := by omega
         rw [List.take_length] at hr
         have HR9 := Lib.hid (show KI.R 3 wr w.heap.size (fun _ => True) (.slice A2 l.length c2) (bumps (List.replicate l.length 0) ((ys.map pl).take (k + 1))) from by
          rw [HSN.out]
          unfold bumps
          rw [List.foldl_append]
          show KI.R _ _ _ _ _ (sx.foldl bump (bumps (List.replicate l.length 0) ((ys.map pl).take k)))
          rw [HO.out]
          exact hr)
         have HCH9 := Lib.hid hch
         clear hr hch HI ht
         go_wp2_with (fail)
         go_roundg (T - (k + 1))
         case measure => have := HK.out; omega
         case rel => exact ⟨k + 1, by have := HK.out; omega, by go_num, HR9.out, HCH9.out⟩
      ·obtain rfl : k = T := by omega
       have HR9 := Lib.hid (show KI.R 3 wr w.heap.size (fun _ => True) (.slice A2 l.length c2) (lensP l) from by
        unfold lensP
        rw [HF.out, HNT.out, ← HM7.out]
        exact hr)
       have HB9 := Lib.hid (show Below w.heap.size w wr from HBB.out.trans (hch.below HBB.out.size (fun q hq => by
        rcases (Kd.own_of_R HR4.out).2 with ⟨h2, _⟩ | ⟨g, cap, cur, h2, h3, _⟩
        ·rw [h2] at hq; simp [Value.ownBlock] at hq
        ·rw [h2] at hq
         have : g = q := by simpa [Value.ownBlock] using hq
         omega)))
       have i3 : ¬ ((k : Int) < 2 * (xs.length : Int) - 2) := by rw [HTX.out]; exact Int.lt_irrefl _
       clear hr hch HI hk
       go_wp2_with (fail)
       go_ret2
       exact ⟨_, rfl, HR9.out, HB9.out⟩
end Go.Proofs.YtfbbcfhdjhiejaaGreat.Srt
