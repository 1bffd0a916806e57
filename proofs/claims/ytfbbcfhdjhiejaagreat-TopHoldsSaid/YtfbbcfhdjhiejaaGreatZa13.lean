/- Of the parts LensC, LensD, LensMay, LensE, TabPure, Tab: what the rows use. -/
import Derived.Test.YtfbbcfhdjhiejaaGreatZa1
import Derived.Test.YtfbbcfhdjhiejaaGreatZa4
import Derived.Test.YtfbbcfhdjhiejaaGreatZa12
/- Chapter 18: packages. -/
namespace Go.Proofs.YtfbbcfhdjhiejaaGreat.Srt
set_option linter.unusedVariables false
set_option linter.unusedSimpArgs false
open Go.RowKit Go.Proofs.YtfbbcfhdjhiejaaGreatW.PrintWords Go.Proofs.YtfbbcfhdjhiejaaGreatW.PrintMore Go.Proofs.YtfbbcfhdjhiejaaGreat.L Go.Proofs.YtfbbcfhdjhiejaaGreat.Ints Go.Shelf Go.Lib Go.Sort
theorem coins_at {w : World} {A : Option Addr} {n : Nat} {xs : List Coin} (h : CK.C w A n xs) (j : Nat) (x : Coin) (hj : xs[j]? = some x) (hn : 0 < n) : ∃ ad, A = some ad ∧ w.cell? (ad.add (j * 2)) = some (.int .i64 x.1) ∧ w.cell? (ad.add (j * 2 + 1)) = some (slv x.2) := by
 obtain ⟨ad, e, hc⟩ := h.2.2 hn
 obtain ⟨c, h1, h2, h3⟩ := hc j x hj
 have h2 := ck_K.1 h2
 subst h2
 exact ⟨ad, e, h3 0 _ rfl, h3 1 _ rfl⟩
theorem R_low {base b' : Nat} {w : World} {v : Value} {xs : List Int} (h : KI.R 3 w base (fun _ => True) v xs) (hb : b' ≤ base) : KI.R 3 w b' (fun _ => True) v xs :=
 ⟨h.1, (h.2.imp_ (fun _ _ hp => KI.M_lower hb hp)).lower hb⟩
theorem Lies.grown {base : Nat} {w w' : World} {x : Coin} {v : Value} {ok : Nat → Prop} {ys : List Coin} {b : Nat} (h : Lies base w x) (hv : CK.R 190 w b ok v ys) (hg : w.grownBy w' v.ownBlock) : Lies base w' x := by
 rcases hrow : v.ownBlock with _ | g
 ·exact Read.own_move' h (fun q hq => hg.block q (Read.own_lt h q hq) (fun e => by rw [hrow] at e; cases e))
 ·refine Read.own_move' h (fun q hq => hg.block q (Read.own_lt h q hq) (fun e => ?_))
  rw [hrow] at e
  injection e with e
  subst e
  obtain ⟨cells, h1⟩ := own_typed (Kd.own_of_R h) _ hq
  obtain ⟨cells2, h2⟩ := own_typed (R_iff.1 hv).2 _ hrow
  rw [h1] at h2
  injection h2 with h2
  injection h2 with _ h2
  exact absurd h2 (by decide)
/-- A row of coins that is read. -/
structure Row (base : Nat) (w : World) (v : Value) (ps : List Pc) : Prop where
 ex : ∃ (A : Option Addr) (c : Nat) (xs : List Coin), v = .slice A xs.length c ∧ xs.length ≤ c ∧ CK.C w A xs.length xs ∧ xs.map pl = ps ∧ ∀ x ∈ xs, Lies base w x
theorem Row.below {base : Nat} {w w' : World} {v : Value} {ps : List Pc} (h : Row base w v ps) (hb : Below w.heap.size w w') : Row base w' v ps := by
 obtain ⟨A, c, xs, h1, h2, h3, h4, h5⟩ := h.ex
 exact ⟨A, c, xs, h1, h2, Kd.C_below h3 hb, h4, fun x hx => (h5 x hx).below hb⟩
theorem cut_coins (A : Option Addr) (M c n : Nat) (hn : n ≤ M) {A2 : Option Addr} (hA : (if c = n then A else A.map (·.add (n * 2))) = A2) (W : World) :
  (Instr.slice 186 (.slice A M c) (some (.int .i64 n)) none none).run Tryz.prog W = .ok (.slice A2 (M - n) (c - n)) W := by
 obtain ⟨i0, hi, hz⟩ := Option.map_eq_some_iff.1 infoCoin
 simp only [Prod.mk.injEq] at hz
 have := cut_from (P := Tryz.prog) 186 190 .i64 Tryz.underlying186 hi 2 hz.2.1 A M c n (by omega) (by omega) W
 rw [Int.toNat_natCast, hA] at this
 exact this
set_option maxRecDepth 100000 in
set_option maxHeartbeats 4000000 in
theorem packages_any (base : Nat) (v : Value) (ps : List Pc) (w : World) (h : Row base w v ps) (hb : base ≤ w.heap.size) (hl : ps.length ≤ 1000) (hs : ∀ p ∈ ps, p.2.length ≤ 40000) :
  Calls Tryz.prog 134 #[v] w fun e w' => ∃ u, e = .returned u ∧ Row base w' u (packs ps) ∧ Below w.heap.size w w' := by
 have H := Lib.hid h
 have HL := Lib.hid hl
 have HS := Lib.hid hs
 clear h hl hs
 go_enter Tryz.func134, Tryz.ntmps134
 go_wp2_with (fail)
 go_loopg [0, 3] ps.length (fun j u o wr => Hid (∃ qs ds : List Pc, qs.length ≤ j ∧ Row base w u qs ∧ (∃ xs9, CK.R 190 wr w.heap.size (fun _ => True) o xs9 ∧ xs9.map pl = ds ∧ ∀ x ∈ xs9, Lies base wr x) ∧ ds ++ packs qs = packs ps ∧ (∀ p ∈ qs, p.2.length ≤ 40000) ∧ ds.length * 2 + qs.length ≤ 1000 ∧ Below w.heap.size w wr))
 case atStart => exact ⟨ps, [], Nat.le_refl _, H.out, ⟨[], Kd.R_nil _ _ _ _ _, rfl, fun x hx => by cases hx⟩, rfl, HS.out, by have := HL.out; simpa using this, Below.refl _ _⟩
 case round =>
  obtain ⟨qs, ds, hq, hrow, hds, hpk, hlen, hdl, hbw⟩ := hrel.out
  obtain ⟨A, c, xs, rfl, hxc, hcc, hmap, hlies⟩ := hrow.ex
  by_cases h2 : 2 ≤ xs.length
  ·obtain ⟨⟨cx, sx, Ax, kx⟩, xs1, hx1⟩ : ∃ x t, xs = x :: t := by cases xs with | nil => simp at h2 | cons a t => exact ⟨a, t, rfl⟩
   obtain ⟨⟨cy, sy, Ay, ky⟩, xs2, hx2⟩ : ∃ y t, xs1 = y :: t := by subst hx1; cases xs1 with | nil => simp at h2 | cons a t => exact ⟨a, t, rfl⟩
   subst hx2
   subst hx1
   obtain ⟨ad, hA, x0, x1⟩ := coins_at hcc 0 (cx, sx, Ax, kx) rfl (by simp)
   obtain ⟨ad2, hA2, y0, y1⟩ := coins_at hcc 1 (cy, sy, Ay, ky) rfl (by simp)
   subst hA
   cases hA2
   obtain ⟨N, hN⟩ : ∃ N, ((cx, sx, Ax, kx) :: (cy, sy, Ay, ky) :: xs2 : List Coin).length = N := ⟨_, rfl⟩
   rw [hN]
   have hNi : (2 : Int) ≤ (N : Int) := by rw [hN] at h2; omega
   have hN1 : (1 : Int) < (N : Int) := by omega
   have hN0 : (0 : Int) < (N : Int) := by omega
   clear hrel
   have hN0n : 0 < N := by omega
   have HCELL := Lib.hid (show ∀ W : World, Below w.heap.size w W → (W.cell? ad = some (.int .i64 cx) ∧ W.cell? ⟨ad.block, ad.off + 1, none⟩ = some (.slice Ax sx.length kx) ∧ W.cell? ⟨ad.block, ad.off + 2, none⟩ = some (.int .i64 cy) ∧ W.cell? ⟨ad.block, ad.off + 2 + 1, none⟩ = some (.slice Ay sy.length ky)) from fun W hW =>
    ⟨pw_cell_below hW x0, pw_cell_below hW x1, pw_cell_below hW y0, pw_cell_below hW y1⟩)
   clear x0 x1 y0 y1
   obtain ⟨x0, x1, y0, y1⟩ := HCELL.out wr hbw
   obtain ⟨xs9, ho, hom, hol⟩ := hds
   obtain ⟨K, hK⟩ : ∃ K, wrap64 (cx + cy) = K := ⟨_, rfl⟩
   have hw : IntKind.i64.wrap (cx + cy) = K := by rw [← hK, IntKind.wrap_i64]; first | rfl | (unfold wrap64; omega)
   have HCX := Lib.hid (hlies (cx, sx, Ax, kx) (by simp))
   have HCY := Lib.hid (hlies (cy, sy, Ay, ky) (by simp))
   have HLI := Lib.hid hlies
   have HO := Lib.hid ho
   have HOM := Lib.hid hom
   have HOL := Lib.hid hol
   have HBW := Lib.hid hbw
   have HKK := Lib.hid hK
   have HMAP := Lib.hid hmap
   have HPK := Lib.hid hpk
   have HLEN := Lib.hid hlen
   have HCC := Lib.hid hcc
   have HNN := Lib.hid hN
   have HXC := Lib.hid hxc
   have HQ := Lib.hid hq
   have HD9 := Lib.hid (show xs9.length ≤ 1000 by rw [← hom, List.length_map] at hdl; omega)
   have HDL := Lib.hid hdl
   have HBA := Lib.hid (show Below w.heap.size w (wr.alloc (.cells #[.slice Ax sx.length kx, .slice Ay sy.length ky] 26)).drew from (hbw.alloc hbw.size _).drew)
   have HCON := Lib.hid (show Calls Tryz.prog 157 #[.slice (some ⟨wr.heap.size, 0, none⟩) 2 2] ((wr.alloc (.cells #[.slice Ax sx.length kx, .slice Ay sy.length ky] 26)).drew) _ from
    concat_two wr.heap.size Ax Ay sx.length sy.length kx ky sx sy _ (Kd.C_drew (Kd.C_alloc (Kd.C_below (Kd.R_reads' HCX.out).2.2 HBW.out) _)) (Kd.C_drew (Kd.C_alloc (Kd.C_below (Kd.R_reads' HCY.out).2.2 HBW.out) _))
     (hlen (cx, sx) (by rw [← hmap]; simp [pl])) (hlen (cy, sy) (by rw [← hmap]; simp [pl])) (two_cells (L.heap_alloc_self wr _)).1 (two_cells (L.heap_alloc_self wr _)).2.1 (by show _ < (wr.alloc _).heap.size; simp))
   clear hK hmap hpk hlen hcc hN hxc hq ho hom hol hbw hlies hdl
   go_upto_region 4 with (fail)
   have HB := HBW
   go_region_held3 (fun w' => w'.cell? ad = some (.int .i64 cx) ∧ w'.cell? ⟨ad.block, ad.off + 1, none⟩ = some (.slice Ax sx.length kx) ∧ w'.cell? ⟨ad.block, ad.off + 2, none⟩ = some (.int .i64 cy) ∧ w'.cell? ⟨ad.block, ad.off + 2 + 1, none⟩ = some (.slice Ay sy.length ky))
    (first | exact ⟨x0, x1, y0, y1⟩ | exact HCELL.out _ HB.out | exact HCELL.out _ (below_drew HB.out) | exact HCELL.out _ (Below.alloc HB.out HB.out.size _) | exact HCELL.out _ ((Below.alloc HB.out HB.out.size _).drew) | go_keep)
    (first
    | (go_at_call 157; (with_reducible refine Calls.mono HCON.out ?_); rintro e w2 ⟨v2, rfl, hr2, hb2⟩; obtain ⟨A3, c3, hv2⟩ := Kd.R_slice hr2; subst hv2; have HR2 := Lib.hid hr2; have HB2 := Lib.hid (Ints.bel_trans HBA.out HBA.out.size hb2); have HBR := Lib.hid (show Below wr.heap.size wr w2 from ((Below.refl wr.heap.size wr).alloc (Nat.le_refl _) _).drew.trans (hb2.mono (by show _ ≤ (wr.alloc _).heap.size; simp))); clear HB; have HB := HB2; clear x0 x1 y0 y1; obtain ⟨x0, x1, y0, y1⟩ := HCELL.out w2 HB2.out; clear hr2 hb2)
    | (refine Kd.R_append_step CK (w0 := w) w.heap.size (by rfl) (.tmp 9) (.tmp 30) 186 190 (.agg #[.int .i64 0, .slice none 0 0]) 32 rfl Tryz.underlying186 infoCoin rfl (by decide) (by omega) u3 xs9 (K, sx ++ sy, A3, c3) [.int .i64 K, .slice A3 (sx.length + sy.length) c3] (fun _ => True) (fun _ => False) (by simp [Act.eval, Act.put]) (by simp [Act.eval, Act.put]) (ck_M.2 (by unfold encC slv; rw [List.length_append])) (fun _ hk => hk.elim) (fun _ _ => trivial) (ck_R_below HO.out HBR.out) HB2.out HB2.out.size (by have := HD9.out; omega) ?_; intro v3 w3 ho3 hb3 hg3 hat3; have HO3 := Lib.hid ho3; have HB3 := Lib.hid hb3; have HG3 := Lib.hid hg3; clear HB; have HB := HB3; clear x0 x1 y0 y1; obtain ⟨x0, x1, y0, y1⟩ := HCELL.out w3 HB3.out; clear ho3 hb3 hg3 hat3))
   clear x0 x1 y0 y1
   obtain ⟨A9, hA9⟩ : ∃ A9, (if c = 2 then (some ad) else (some ad).map (·.add (2 * 2))) = A9 := ⟨_, rfl⟩
   have HC9 := Lib.hid (show CK.C w A9 xs2.length xs2 from by
    have h := Kd.C_drop (c := c) (m := 2) HCC.out (by simp) HXC.out
    rw [show CK.sz = 2 from rfl, hA9] at h
    exact h)
   have hcut := cut_coins (some ad) N c 2 (by rw [← HNN.out]; simp) hA9
   have hcut : ∀ W : World, (Instr.slice 186 (.slice (some ad) N c) (some (.int .i64 2)) none none).run Tryz.prog W = .ok (.slice A9 (N - 2) (c - 2)) W := hcut
   clear hA9
   go_wp2_with (fail)
   have hN2 : N - 2 = xs2.length := by rw [← HNN.out]; simp
   rw [hN2]
   have hq2 := HMAP.out
   rw [List.map_cons, List.map_cons] at hq2
   have HNEW := Lib.hid (show Lies base w3 (K, sx ++ sy, A3, c3) from by
    have h1 : Lies base w2 (K, sx ++ sy, A3, c3) := by
     have h := R_low (b' := base) HR2.out (Nat.le_trans hb (Nat.le_trans HBW.out.size (by show _ ≤ (wr.alloc _).heap.size; simp)))
     exact h
    exact h1.grown (ck_R_below HO.out HBR.out) HG3.out)
   go_roundg xs2.length
   case measure => have h1 := HQ.out; rw [← HMAP.out] at h1; simp at h1; omega
   case rel =>
    refine ⟨xs2.map pl, ds ++ [(K, sx ++ sy)], by simp, ⟨A9, c - 2, xs2, rfl, by have h1 := HXC.out; simp at h1; omega, HC9.out, rfl, fun x hx => HLI.out x (by simp [hx])⟩, ⟨xs9 ++ [(K, sx ++ sy, A3, c3)], HO3.out, by rw [List.map_append, HOM.out]; rfl, fun x hx => ?_⟩, ?_, ?_, ?_, HB3.out⟩
    ·rcases List.mem_append.1 hx with hx | hx
     ·exact ((HOL.out x hx).below HBR.out).grown (ck_R_below HO.out HBR.out) HG3.out
     ·rw [List.mem_singleton.1 hx]
      exact HNEW.out
    ·rw [← HPK.out, ← hq2]
     show ds ++ [(K, sx ++ sy)] ++ packs (xs2.map pl) = ds ++ ((wrap64 (cx + cy), sx ++ sy) :: packs (xs2.map pl))
     rw [HKK.out, List.append_assoc]
     rfl
    ·intro p hp
     exact HLEN.out p (by rw [← hq2]; simp [hp])
    ·have h1 := HDL.out
     rw [← hq2] at h1
     simp at h1 ⊢
     omega
  ·have HN := Lib.hid h2
   obtain ⟨xs9, ho, hom, hol⟩ := hds
   have hN1 : ¬ (1 : Int) < (xs.length : Int) := by omega
   have HO := Lib.hid (show Row base wr u3 ds from by
    obtain ⟨A8, c8, hv8⟩ := Kd.R_slice ho
    rw [hv8] at ho ⊢
    obtain ⟨_, hc8, hr8⟩ := Kd.R_reads' ho
    exact ⟨A8, c8, xs9, rfl, hc8, hr8, hom, hol⟩)
   have HPK := Lib.hid (show packs ps = ds from by
    rw [← hpk, ← hmap]
    match xs, h2 with
    | [], _ => simp [packs]
    | [x], _ => simp [packs]
    | a :: b :: r, h => simp at h)
   have HBW := Lib.hid hbw
   clear hq hcc hmap hlies hpk hlen hdl hbw ho hom hol
   go_wp2_with (fail)
   go_ret
   exact ⟨_, rfl, by rw [HPK.out]; exact HO.out, HBW.out⟩
end Go.Proofs.YtfbbcfhdjhiejaaGreat.Srt

/- Chapter 18: the lengths, plain. -/
namespace Go.Proofs.YtfbbcfhdjhiejaaGreat.Srt
set_option linter.unusedVariables false
set_option linter.unusedSimpArgs false
open Go.RowKit Go.Proofs.YtfbbcfhdjhiejaaGreatW.PrintWords Go.Proofs.YtfbbcfhdjhiejaaGreatW.PrintMore Go.Proofs.YtfbbcfhdjhiejaaGreat.L Go.Proofs.YtfbbcfhdjhiejaaGreat.Ints Go.Shelf Go.Lib Go.Sort
def listAt (f : List Pc) : Nat → List Pc
 | 0 => f
 | k + 1 => stab ltP (f ++ packs (listAt f k))
def nTake (n : Nat) : Nat := if n = 1 then 1 else 2 * n - 2
def bump (o : List Int) (s : Int) : List Int := o.set s.toNat (wrap64 (o.getD s.toNat 0 + 1))
def bumps (o : List Int) (ps : List Pc) : List Int := ps.foldl (fun o p => p.2.foldl bump o) o
def lensP (l : List Int) : List Int := bumps (List.replicate l.length 0) ((listAt (firstP l) 14).take (nTake (firstP l).length))
theorem bump_length (o : List Int) (s : Int) : (bump o s).length = o.length := by simp [bump]
theorem foldl_bump_length : ∀ (ss : List Int) (o : List Int), (ss.foldl bump o).length = o.length
 | [], o => rfl
 | s :: ss, o => by rw [List.foldl_cons, foldl_bump_length ss, bump_length]
theorem bumps_length : ∀ (ps : List Pc) (o : List Int), (bumps o ps).length = o.length
 | [], o => rfl
 | p :: ps, o => by
   show (bumps (p.2.foldl bump o) ps).length = _
   rw [bumps_length ps, foldl_bump_length]
theorem lensP_length (l : List Int) : (lensP l).length = l.length := by unfold lensP; rw [bumps_length, List.length_replicate]
theorem packs_length : ∀ l, (packs l).length = l.length / 2
 | [] => rfl
 | [x] => by simp [packs]
 | a :: b :: r => by
   show (packs r).length + 1 = (r.length + 1 + 1) / 2
   rw [packs_length r]
   omega
theorem listAt_succ_length (f : List Pc) (k : Nat) : (listAt f (k + 1)).length = f.length + (listAt f k).length / 2 := by
 show (stab ltP _).length = _
 rw [stab_length, List.length_append, packs_length]
theorem listAt_le (f : List Pc) : ∀ k, (listAt f k).length ≤ 2 * f.length
 | 0 => by show f.length ≤ _; omega
 | k + 1 => by
   have := listAt_le f k
   rw [listAt_succ_length]
   omega
theorem listAt_ge (f : List Pc) (m : Nat) (h : f.length ≤ 2 ^ m) : ∀ k, k ≤ m → 2 * f.length ≤ (listAt f k).length + 2 ^ (m - k)
 | 0, _ => by show _ ≤ f.length + 2 ^ m; omega
 | k + 1, hk => by
   have h1 := listAt_ge f m h k (by omega)
   rw [listAt_succ_length]
   rw [show m - k = (m - (k + 1)) + 1 by omega, Nat.pow_succ] at h1
   omega
theorem nTake_le (f : List Pc) (h : f.length ≤ 16384) : nTake f.length ≤ (listAt f 14).length := by
 have := listAt_ge f 14 h 14 (Nat.le_refl _)
 rw [Nat.sub_self, Nat.pow_zero] at this
 unfold nTake
 split <;> omega
/-- How many symbols there are in all. -/
def tot (ps : List Pc) : Nat := (ps.map fun p => p.2.length).sum
theorem tot_app (a b : List Pc) : tot (a ++ b) = tot a + tot b := by simp [tot]
theorem tot_packs : ∀ l, tot (packs l) ≤ tot l
 | [] => Nat.le_refl _
 | [x] => by simp [tot, packs]
 | a :: b :: r => by
   have := tot_packs r
   simp [tot, packs] at this ⊢
   omega
theorem sink_perm {α : Type} (lt : α → α → Bool) (x : α) : ∀ l, (sink lt x l).Perm (x :: l)
 | [] => List.Perm.refl _
 | y :: ys => by
   unfold sink
   split
   ·exact ((sink_perm lt x ys).cons y).trans (List.Perm.swap x y ys)
   ·exact List.Perm.refl _
theorem stabR_perm {α : Type} (lt : α → α → Bool) : ∀ l r, (stabR lt r l).Perm (r ++ l)
 | [], r => by show r.Perm (r ++ []); rw [List.append_nil]
 | x :: xs, r => by
   show (stabR lt (sink lt x r) xs).Perm _
   refine (stabR_perm lt xs (sink lt x r)).trans ?_
   refine ((sink_perm lt x r).append_right xs).trans ?_
   exact List.perm_middle.symm
theorem stab_perm {α : Type} (lt : α → α → Bool) (l : List α) : (stab lt l).Perm l := by
 unfold stab
 exact (List.reverse_perm _).trans (by simpa using stabR_perm lt l [])
theorem tot_stab (l : List Pc) : tot (stab ltP l) = tot l := by
 unfold tot
 exact ((stab_perm ltP l).map _).sum_nat
theorem tot_mem {ps : List Pc} {p : Pc} (h : p ∈ ps) : p.2.length ≤ tot ps := by
 induction ps with
 | nil => cases h
 | cons a ps ih =>
   have e : tot (a :: ps) = a.2.length + tot ps := by simp [tot]
   rw [e]
   rcases List.mem_cons.1 h with rfl | h
   ·omega
   ·have := ih h
    omega
theorem tot_listAt (f : List Pc) : ∀ k, tot (listAt f k) ≤ (k + 1) * tot f
 | 0 => by show tot f ≤ _; omega
 | k + 1 => by
   show tot (stab ltP (f ++ packs (listAt f k))) ≤ _
   have h1 := tot_listAt f k
   have h2 := tot_packs (listAt f k)
   rw [tot_stab, tot_app, Nat.add_mul (k + 1), Nat.one_mul]
   omega
theorem tot_ones (l : List Int) : ∀ k, tot (onesTo l k) ≤ k
 | 0 => Nat.le_refl _
 | k + 1 => by
   have := tot_ones l k
   unfold onesTo
   split
   ·rw [tot_app]
    show _ + 1 ≤ _
    omega
   ·omega
theorem tot_first (l : List Int) : tot (firstP l) ≤ l.length := by unfold firstP; rw [tot_stab]; exact tot_ones l _
theorem first_length (l : List Int) : (firstP l).length = (onesTo l l.length).length := by unfold firstP; rw [stab_length]
/-- Each symbol is one of n. -/
def Syms (n : Nat) (ps : List Pc) : Prop := ∀ p ∈ ps, ∀ s ∈ p.2, 0 ≤ s ∧ s < (n : Int)
theorem syms_packs {n : Nat} : ∀ l, Syms n l → Syms n (packs l)
 | [], h => h
 | [x], h => fun p hp => by cases hp
 | a :: b :: r, h => fun p hp s hs => by
   rcases List.mem_cons.1 hp with rfl | hp
   ·rcases List.mem_append.1 hs with hs | hs
    ·exact h a (by simp) s hs
    ·exact h b (by simp) s hs
   ·exact syms_packs r (fun p hp => h p (by simp [hp])) p hp s hs
theorem syms_ones (l : List Int) : ∀ k, Syms k (onesTo l k)
 | 0 => fun p hp => by cases hp
 | k + 1 => by
   have := syms_ones l k
   unfold onesTo
   split
   ·intro p hp s hs
    rcases List.mem_append.1 hp with hp | hp
    ·have := this p hp s hs
     omega
    ·rw [List.mem_singleton.1 hp] at hs
     rw [List.mem_singleton.1 hs]
     omega
   ·intro p hp s hs
    have := this p hp s hs
    omega
theorem syms_stab {n : Nat} {l : List Pc} (h : Syms n l) : Syms n (stab ltP l) := fun p hp => h p (stab_mem ltP hp)
theorem syms_first (l : List Int) : Syms l.length (firstP l) := syms_stab (syms_ones l _)
theorem syms_listAt (l : List Int) : ∀ k, Syms l.length (listAt (firstP l) k)
 | 0 => syms_first l
 | k + 1 => syms_stab (fun p hp => by
   rcases List.mem_append.1 hp with hp | hp
   ·exact syms_first l p hp
   ·exact syms_packs _ (syms_listAt l k) p hp)
theorem sortable_le {m n : Nat} (h : sortable m) (hn : n ≤ m) : sortable n := by unfold sortable at h ⊢; omega
end Go.Proofs.YtfbbcfhdjhiejaaGreat.Srt

/- Chapter 18: may: of counts that may be. -/
namespace Go.Proofs.YtfbbcfhdjhiejaaGreat.Srt
set_option linter.unusedVariables false
set_option linter.unusedSimpArgs false
open Go.RowKit Go.Proofs.YtfbbcfhdjhiejaaGreatW.PrintWords Go.Proofs.YtfbbcfhdjhiejaaGreatW.PrintMore Go.Proofs.YtfbbcfhdjhiejaaGreat.L Go.Proofs.YtfbbcfhdjhiejaaGreat.Ints Go.Shelf Go.Lib Go.Sort
def okC (x : Int) : Prop := 0 ≤ x ∧ x ≤ 1073741824
theorem may1_any (x : Int) (w : World) (h : okC x) : Calls Tryz.prog 155 #[.int .i64 x] w fun e w' => e = .returned (.bool false) ∧ w' = w := by
 have h1 : ¬ x < 0 := by unfold okC at h; omega
 have h2 : ¬ 1073741824 < x := by unfold okC at h; omega
 have HH := Lib.hid h
 clear h
 go_enter Tryz.func155, Tryz.ntmps155
 go_wp2_with (fail)
 go_ret
 exact ⟨by simp [h1, h2], rfl⟩
theorem may_index (A : Option Addr) (n c : Nat) (xs : List Int) (w : World) (h : KI.C w A n xs) (ho : ∀ x ∈ xs, okC x) :
  Calls Tryz.prog 173 #[.slice A n c, .func (.func 155) #[] #[]] w fun e w' => e = .returned (.int .i64 (-1)) ∧ w' = w := by
 have H := Lib.hid h
 have HO := Lib.hid ho
 have hmx := Kd.C_max h
 have hnl := ki_len h
 clear h ho
 subst hnl
 go_enter Tryz.func173, Tryz.ntmps173
 go_wp2_with (fail)
 go_loopg [8] xs.length (fun j i wr => ∃ k : Nat, k + j = xs.length ∧ i = .int .i64 k ∧ wr = w)
 case atStart => exact ⟨0, by omega, rfl, rfl⟩
 case round =>
  obtain ⟨k, hk, rfl, rfl⟩ := hrel
  by_cases hlt : k < xs.length
  ·obtain ⟨ad, rfl, x0⟩ := ints_at H.out k hlt
   have hox : okC (xs.getD k 0) := HO.out _ (by rw [List.getD_eq_getElem?_getD, List.getElem?_eq_getElem hlt]; exact List.getElem_mem hlt)
   obtain ⟨x, hx⟩ : ∃ x, xs.getD k 0 = x := ⟨_, rfl⟩
   rw [hx] at x0 hox
   have HX := Lib.hid hox
   have i0 : (0 : Int) ≤ k := by omega
   have i1 : (k : Int) < (xs.length : Int) := by omega
   have i2 : ((k : Int)).toNat = k := by omega
   clear hx hox
   go_wp2_with (go_at_call 155; refine (may1_any x _ HX.out).mono ?_; rintro e w1 ⟨rfl, rfl⟩)
   go_roundg (xs.length - (k + 1))
   case measure => omega
   case rel => exact ⟨k + 1, by omega, by go_num, rfl⟩
  ·obtain rfl : k = xs.length := by omega
   go_wp2_with (fail)
   go_ret
   exact ⟨rfl, rfl⟩
theorem may_contains (A : Option Addr) (n c : Nat) (xs : List Int) (w : World) (h : KI.C w A n xs) (ho : ∀ x ∈ xs, okC x) :
  Calls Tryz.prog 154 #[.slice A n c, .func (.func 155) #[] #[]] w fun e w' => e = .returned (.bool false) ∧ w' = w := by
 have H := Lib.hid h
 have HO := Lib.hid ho
 clear h ho
 go_enter Tryz.func154, Tryz.ntmps154
 go_wp2_with (fail)
 refine (may_index _ _ _ _ _ H.out HO.out).mono ?_
 rintro e w1 ⟨rfl, rfl⟩
 go_wp2_with (fail)
 go_ret
 exact ⟨rfl, rfl⟩
set_option maxRecDepth 100000 in
set_option maxHeartbeats 4000000 in
theorem may_any (A : Option Addr) (n c : Nat) (l : List Int) (w : World) (h : KI.C w A n l) (hl : l.length ≤ 356) (ho : ∀ x ∈ l, okC x) (hs : sortable (onesTo l l.length).length) :
  Calls Tryz.prog 131 #[.int .i64 15, .slice A n c] w fun e w' => e = .returned (.int .i64 0) ∧ Below w.heap.size w w' := by
 have hnl := ki_len h
 subst hnl
 have H := Lib.hid h
 have HO := Lib.hid ho
 have HS := Lib.hid hs
 have HL := Lib.hid hl
 have hl1 : decide ((356 : Int) < (l.length : Int)) = false := decide_eq_false (by omega)
 clear h ho hs hl
 go_enter Tryz.func131, Tryz.ntmps131
 go_wp2_with (fail)
 refine (may_contains _ _ _ _ _ H.out HO.out).mono ?_
 rintro e w1 ⟨rfl, rfl⟩
 go_wp2_with (fail)
 have HSG := Lib.hid (single_any A l.length c l w1.drew (Kd.C_drew H.out) (by have := HL.out; omega) HS.out)
 have HLL := Lib.hid (show (firstP l).length ≤ 356 by unfold firstP; rw [stab_length]; exact Nat.le_trans (onesTo_len l _) HL.out)
 have hw1 : IntKind.i64.wrap 32768 = 32768 := by decide
 go_region_with (go_at_call 132; (with_reducible refine Calls.mono HSG.out ?_); rintro e w2 ⟨v2, rfl, hc2, hb2⟩; obtain ⟨xs2, hr2, hp2, -⟩ := hc2; obtain ⟨A2, c2, rfl⟩ := Kd.R_slice hr2; have hx2 : decide ((32768 : Int) < (xs2.length : Int)) = false := (decide_eq_false (by have := HLL.out; rw [← hp2, List.length_map] at this; omega)); have hx3 : ¬ (32768 : Int) < (xs2.length : Int) := of_decide_eq_false hx2; have HB2 := Lib.hid hb2; clear hr2 hp2 hb2)
 all_goals
  go_wp2_with (fail)
  go_ret
  exact ⟨rfl, (show Below w1.heap.size w1 w1.drew from (Below.refl _ w1).drew).trans HB2.out⟩
end Go.Proofs.YtfbbcfhdjhiejaaGreat.Srt

/- Chapter 18: lens.Of. -/
namespace Go.Proofs.YtfbbcfhdjhiejaaGreat.Srt
set_option linter.unusedVariables false
set_option linter.unusedSimpArgs false
open Go.RowKit Go.Proofs.YtfbbcfhdjhiejaaGreatW.PrintWords Go.Proofs.YtfbbcfhdjhiejaaGreatW.PrintMore Go.Proofs.YtfbbcfhdjhiejaaGreat.L Go.Proofs.YtfbbcfhdjhiejaaGreat.Ints Go.Shelf Go.Lib Go.Sort
theorem Lies.sorted {base b : Nat} {w w' : World} {x : Coin} {v : Value} {ok : Nat → Prop} {ys : List Coin} (h : Lies base w x) (hv : CK.R 190 w b ok v ys) (hc : Chg (fun q => v.ownBlock = some q) w w') : Lies base w' x := by
 refine Read.own_move' h (fun q hq => hc.block q (Read.own_lt h q hq) (fun e => ?_))
 obtain ⟨cells, h1⟩ := own_typed (Kd.own_of_R h) _ hq
 obtain ⟨cells2, h2⟩ := own_typed (R_iff.1 hv).2 _ e
 rw [h1] at h2
 injection h2 with h2
 injection h2 with _ h2
 exact absurd h2 (by decide)
theorem add_block (a : Addr) (n : Nat) : (a.add n).block = a.block := by unfold Addr.add; split <;> rfl
theorem add_add1 (a : Addr) (n : Nat) : a.add (n + 1) = ⟨(a.add n).block, (a.add n).off + 1, none⟩ := by
 unfold Addr.add
 rw [if_neg (by omega)]
 split
 ·rename_i h; subst h; simp
 ·simp; omega
theorem R_row {base b : Nat} {w : World} {v : Value} {ok : Nat → Prop} {xs : List Coin} {ps : List Pc} (h : CK.R 190 w b ok v xs) (hp : xs.map pl = ps) (hl : ∀ x ∈ xs, Lies base w x) : Row base w v ps := by
 obtain ⟨A, c, hv⟩ := Kd.R_slice h
 subst hv
 obtain ⟨_, hc, hr⟩ := Kd.R_reads' h
 exact ⟨A, c, xs, rfl, hc, hr, hp, hl⟩
def RowB (b : Nat) (v : Value) : Prop := ∀ ad n c, v = .slice (some ad) n c → b ≤ ad.block
theorem R_rowB {b : Nat} {w : World} {v : Value} {ok : Nat → Prop} {xs : List Coin} (h : CK.R 190 w b ok v xs) {b' : Nat} (hb : b' ≤ b) : RowB b' v := by
 intro ad n c hv
 subst hv
 rcases (R_iff.1 h).2.2 with ⟨h1, _⟩ | ⟨g, cap, cur, h1, h2, _⟩
 ·injection h1 with h1
  cases h1
 ·injection h1 with h1
  injection h1 with h1
  rw [h1]
  show b' ≤ g
  omega
theorem C_chg {S : Nat → Prop} {w w' : World} {ad : Addr} {n : Nat} {xs : List Coin} (h : CK.C w (some ad) n xs) (hc : Chg S w w') (hS : ¬ S ad.block) : CK.C w' (some ad) n xs := by
 refine ⟨h.1, h.2.1, fun hn => ?_⟩
 obtain ⟨a, e, hx⟩ := h.2.2 hn
 injection e with e
 subst e
 refine ⟨ad, rfl, fun j p hj => ?_⟩
 obtain ⟨c, h1, h2, h3⟩ := hx j p hj
 refine ⟨c, h1, ck_K.2 (ck_K.1 h2), fun t v ht => ?_⟩
 have h4 := h3 t v ht
 have h5 := World.block_lt_of_cell? w _ h4
 have h6 : w'.heap[(ad.add (j * CK.sz + t)).block]? = w.heap[(ad.add (j * CK.sz + t)).block]? := hc.block _ h5 (by rw [add_block]; exact hS)
 rw [← h4]
 simp only [World.cell?, h6]
theorem Lies.chgS {base : Nat} {S : Nat → Prop} {w w' : World} {x : Coin} (h : Lies base w x) (hc : Chg S w w') (hS : ∀ k, S k → k < base) : Lies base w' x := by
 refine Read.own_move' h (fun q hq => hc.block q (Read.own_lt h q hq) (fun e => ?_))
 have h1 := hS q e
 rcases (Kd.own_of_R h).2 with ⟨h2, _⟩ | ⟨g, cap, cur, h2, h3, _⟩
 ·rw [h2] at hq; simp [Value.ownBlock] at hq
 ·rw [h2] at hq
  have : g = q := by simpa [Value.ownBlock] using hq
  omega
set_option maxRecDepth 100000 in
set_option maxHeartbeats 8000000 in
theorem lens_of_any (A : Option Addr) (c : Nat) (l : List Int) (w : World) (h : KI.C w A l.length l) (hl : l.length ≤ 356) (ho : ∀ x ∈ l, okC x) (hs : sortable (2 * (onesTo l l.length).length)) :
  Calls Tryz.prog 108 #[.int .i64 15, .slice A l.length c] w fun e w' => ∃ v, e = .returned (.tuple #[v, .int .i64 0]) ∧ KI.R 3 w' w.heap.size (fun _ => True) v (lensP l) ∧ Below w.heap.size w w' := by
 have H := Lib.hid h
 have HOK := Lib.hid ho
 have HS := Lib.hid hs
 have HL := Lib.hid hl
 clear h ho hs
 go_enter Tryz.func108, Tryz.ntmps108
 go_wp2_with (fail)
 refine (may_any _ _ _ _ _ H.out HL.out HOK.out (sortable_le HS.out (by omega))).mono ?_
 rintro e w1 ⟨rfl, hb1⟩
 have HB1 := Lib.hid hb1
 clear hb1
 go_wp2_with ((with_reducible refine gate_dst (N := 23) rfl ?_); apply stopper)
 unfold Stopper
 refine Kd.R_make KI (w0 := w) w.heap.size 3 rfl (N := 23) rfl 26 _ _ rfl (l.length : Int) rfl rfl Tryz.underlying26 (.int .i64 0) 8 infoInt rfl (by decide) (by omega) 0 (ok := fun _ => True) (okp := fun _ => True) ?mM (fun _ hk => hk) trivial (by omega) ?mL HB1.out HB1.out.size ?_
 case mM => exact rfl
 case mL => omega
 intro v2 w2 hr hb hg hat
 rw [Int.toNat_natCast] at hr
 obtain ⟨A2, c2, rfl⟩ := Kd.R_slice hr
 rw [List.length_replicate] at hr ⊢
 have HR2 := Lib.hid hr
 have HB2 := Lib.hid hb
 clear hr hb hg hat
 go_wp2_with (fail)
 refine (single_any _ _ _ _ _ (Kd.C_below H.out HB2.out) (by omega) (sortable_le HS.out (by omega))).mono ?_
 rintro e w3 ⟨v3, rfl, hc3, hb3⟩
 obtain ⟨xs, hx1, hx2, hx3⟩ := hc3
 obtain ⟨A3, c3, rfl⟩ := Kd.R_slice hx1
 have hxl : xs.length = (firstP l).length := by rw [← hx2, List.length_map]
 have hf356 : (firstP l).length ≤ 356 := by rw [first_length]; exact Nat.le_trans (onesTo_len l _) hl
 obtain ⟨F, hF⟩ : ∃ F, firstP l = F := ⟨_, rfl⟩
 rw [hF] at hx2 hxl hf356
 have HX1 := Lib.hid hx1
 have HX2 := Lib.hid hx2
 have HX3 := Lib.hid hx3
 have HF := Lib.hid hF
 have HB3 := Lib.hid hb3
 have HSX := Lib.hid (show sortable (2 * F.length) by have := HS.out; rw [← first_length, hF] at this; exact this)
 have HRW := Lib.hid (R_row hx1 hx2 hx3)
 clear hx1 hx2 hx3 hF hb3
 rw [hxl] at HX1 HRW ⊢
 have hn0 : 0 ≤ (F.length : Int) := by omega
 have hn1 : (F.length : Int) ≤ 356 := by omega
 obtain ⟨T, hT⟩ : ∃ T : Nat, nTake F.length = T := ⟨_, rfl⟩
 have HT := Lib.hid hT
 go_upto_if 32 with (fail)
 go_cut [9] (fun n wc => n = .int .i64 (if F.length = 1 then 1 else 2 * (F.length : Int) - 2) ∧ wc = w3)
 case first =>
  by_cases h1 : F.length = 1
  ·have h1b : ((F.length : Int) == 1) = true := by simp; omega
   have H1 := Lib.hid h1
   clear h1
   go_wp2_with (fail)
   go_meet
   case rel => exact ⟨by rw [if_pos H1.out], rfl⟩
  ·have h1b : ((F.length : Int) == 1) = false := by simp; omega
   have H1 := Lib.hid h1
   clear h1
   go_wp2_with (fail)
   go_meet
   case rel => exact ⟨by rw [if_neg H1.out], rfl⟩
 case rest =>
  obtain ⟨rfl, rfl⟩ := hcut
  rename World => w3
  obtain ⟨TI, hTI⟩ : ∃ TI : Int, (if F.length = 1 then 1 else 2 * (F.length : Int) - 2) = TI := ⟨_, rfl⟩
  rw [hTI]
  have HTI := Lib.hid hTI
  clear hTI hT
  go_wp2_with (fail)
  go_loopg [10, 36] 14 (fun j u i wr => ∃ k : Nat, k + j = 14 ∧ i = .int .i64 k ∧ Hid (Row w2.heap.size wr u (listAt F k) ∧ Below w3.heap.size w3 wr ∧ RowB w2.heap.size u))
  case atStart => exact ⟨0, by omega, rfl, HRW.out, Below.refl _ _, R_rowB HX1.out (Nat.le_refl _)⟩
  case round =>
   obtain ⟨k, hk, rfl, HI⟩ := hrel
   obtain ⟨hrow, hbw, hrb⟩ := HI.out
   by_cases hlt : k < 14
   ·have HROW := Lib.hid hrow
    have HBW := Lib.hid hbw
    have HK := Lib.hid hk
    have hki : (k : Int) < 14 := by omega
    have htl := listAt_le F k
    have htt : ∀ p ∈ listAt F k, p.2.length ≤ 40000 := fun p hp => by
     have h1 := tot_mem hp
     have h2 := tot_listAt F k
     have h3 := tot_first l
     rw [HF.out] at h3
     have h4 : (k + 1) * tot F ≤ 15 * 356 := Nat.mul_le_mul (by omega) (by omega)
     omega
    have hsk : sortable (F.length + (packs (listAt F k)).length) := sortable_le HSX.out (by rw [packs_length]; omega)
    have hlk : F.length + (packs (listAt F k)).length ≤ 1000 := by rw [packs_length]; omega
    obtain ⟨L, hL⟩ : ∃ L, listAt F k = L := ⟨_, rfl⟩
    have hnx : listAt F (k + 1) = stab ltP (F ++ packs L) := by rw [← hL]; rfl
    rw [hL] at htt hsk hlk htl HROW
    have HNX := Lib.hid hnx
    have HTT := Lib.hid htt
    have HSK := Lib.hid hsk
    have HLK := Lib.hid hlk
    have HTL := Lib.hid htl
    clear hnx htt hsk hlk htl hL hrow hbw hrb HI
    go_wp2_with (fail)
    refine (clone_coins A3 F.length c3 xs _ (by have h := (Kd.R_reads' HX1.out).2.2; rw [hxl] at h; exact Kd.C_below h HBW.out) (by omega)).mono ?_
    rintro e w5 ⟨v5, rfl, hr5, hb5⟩
    have HR5 := Lib.hid hr5
    have HB5 := Lib.hid hb5
    have HROW5 := Lib.hid (HROW.out.below hb5)
    clear hr5 hb5
    go_wp2_with (fail)
    refine (packages_any w2.heap.size _ L _ HROW5.out (Nat.le_trans HB3.out.size (Nat.le_trans HBW.out.size HB5.out.size)) (by have := HTL.out; omega) HTT.out).mono ?_
    rintro e w6 ⟨v6, rfl, hrow6, hb6⟩
    obtain ⟨A6, c6, ys, rfl, hc6, hr6, hm6, hl6⟩ := hrow6.ex
    have hyl : ys.length = (packs L).length := by rw [← hm6, List.length_map]
    have HR6 := Lib.hid hr6
    have HM6 := Lib.hid hm6
    have HL6 := Lib.hid hl6
    have HB6 := Lib.hid hb6
    have HYL := Lib.hid hyl
    have HXL := Lib.hid hxl
    clear hr6 hm6 hl6 hb6 hrow6 hc6 hyl
    go_wp2_with (((with_reducible refine gate_builtin (b := .append) (xs := #[.tmp 39, .tmp 41]) rfl ?_); at_builtin; apply stopper))
    unfold Stopper
    refine Kd.R_append_rows CK (Rr := fun x cs => cs = encC x) (w0 := wr) wr.heap.size rfl (.tmp 39) (.tmp 41) 186 190 (.agg #[.int .i64 0, .slice none 0 0]) 32 rfl Tryz.underlying186 infoCoin rfl (by decide) (by omega) v5 xs ys A6 ys.length c6 (fun _ => True) (fun _ => False) rfl rfl ?aO ?aR (fun x cs h => ck_M.2 h) (fun _ h => h.elim) (fun _ _ => trivial) ?aB ?aS ?aL ?_
    case aO => exact ck_R_below HR5.out HB6.out
    case aR => exact ck_rows HR6.out
    case aB => exact Ints.bel_trans HB5.out HB5.out.size HB6.out
    case aS => exact Nat.le_trans HB5.out.size HB6.out.size
    case aL => have h1 := HLK.out; have h2 := HYL.out; have h3 := HXL.out; omega
    intro v7 w7 ho7 hb7 hg7 hat7
    have HO7 := Lib.hid ho7
    have HB7 := Lib.hid hb7
    have HG7 := Lib.hid hg7
    clear ho7 hb7 hg7 hat7
    go_wp2_with (fail)
    refine (sort_any 136 cmpB wr.heap.size (fun _ => True) v7 (xs ++ ys) _ HO7.out (by rw [List.length_append, HXL.out, HYL.out]; exact HSK.out)).mono ?_
    rintro e w8 ⟨rfl, hr8, hc8⟩
    have HR8 := Lib.hid hr8
    have HB8 := Lib.hid (show Below wr.heap.size wr w8 from HB7.out.trans (hc8.below HB7.out.size (fun q hq => ((R_iff.1 HO7.out).2.lt q hq).1)))
    have HLN := Lib.hid (show ∀ x ∈ stab ltC (xs ++ ys), Lies w2.heap.size w8 x from fun x hx => by
     have h5 : Lies w2.heap.size w6 x := by
      rcases List.mem_append.1 (stab_mem ltC hx) with hx | hx
      ·exact (((HX3.out x hx).below HBW.out).below HB5.out).below HB6.out
      ·exact HL6.out x hx
     exact (h5.grown (ck_R_below HR5.out HB6.out) HG7.out).sorted HO7.out hc8)
    clear hr8 hc8
    go_wp2_with (fail)
    go_roundg (14 - (k + 1))
    case measure => have := HK.out; omega
    case rel => exact ⟨k + 1, by have := HK.out; omega, by go_num, by rw [HNX.out]; exact R_row HR8.out (by rw [stab_pl, List.map_append, HX2.out, HM6.out]) HLN.out, HBW.out.trans (HB8.out.mono HBW.out.size), R_rowB HR8.out (Nat.le_trans HB3.out.size HBW.out.size)⟩
   ·obtain rfl : k = 14 := by omega
    obtain ⟨A7, c7, ys, rfl, hc7, hr7, hm7, hl7⟩ := hrow.ex
    have hyl : ys.length = (listAt F 14).length := by rw [← hm7, List.length_map]
    have hTle := nTake_le F (by omega)
    have hl2 := listAt_le F 14
    have hTm : max TI 0 = (T : Int) := by
     have h1 := HTI.out
     have h2 := HT.out
     unfold nTake at h2
     by_cases h3 : F.length = 1
     ·rw [if_pos h3] at h1 h2; omega
     ·rw [if_neg h3] at h1 h2; omega
    rw [HT.out, ← hyl] at hTle
    have hT712 : T ≤ 712 := by omega
    have hTi : (0 : Int) ≤ (T : Int) := by omega
    have hTi2 : (T : Int) ≤ (ys.length : Int) := by omega
    have hcut : ∀ W : World, (Instr.slice 186 (.slice A7 ys.length c7) none (some (.int .i64 (T : Int))) none).run Tryz.prog W = .ok (.slice A7 T c7) W := by
     obtain ⟨i0, hi, hz⟩ := Option.map_eq_some_iff.1 infoCoin
     have h := cut_to (P := Tryz.prog) 186 190 .i64 Tryz.underlying186 hi A7 ys.length c7 (T : Int) hTi hTi2 hc7
     rw [Int.toNat_natCast] at h
     exact h
    have HR7 := Lib.hid hr7
    have HM7 := Lib.hid hm7
    have HL7 := Lib.hid hl7
    have HBW := Lib.hid hbw
    have HYL := Lib.hid hyl
    have HTLE := Lib.hid hTle
    have HRB := Lib.hid hrb
    clear hr7 hm7 hl7 hbw hyl hl2 HI hrow hTle hk hc7 hTi2 hrb
    obtain ⟨wB, hwB⟩ : ∃ wB : World, wB = wr := ⟨_, rfl⟩
    rw [← hwB] at HR7 HL7 HBW ⊢
    clear hwB
    have hv2 : ∀ k, (Value.slice A2 l.length c2).ownBlock = some k → k < w2.heap.size := fun k hk => Read.own_lt HR2.out k hk
    have HV2 := Lib.hid hv2
    have HR2B := Lib.hid (show KI.R 3 wB w.heap.size (fun _ => True) (.slice A2 l.length c2) (List.replicate l.length 0) from Kd.R_below HR2.out (HB3.out.trans (HBW.out.mono HB3.out.size)))
    have HBB := Lib.hid (show Below w.heap.size w wB from HB2.out.trans ((HB3.out.trans (HBW.out.mono HB3.out.size)).mono HB2.out.size))
    clear hv2
    go_wp2_with (fail)
    go_loopg [51] T (fun j i wr => ∃ k : Nat, k + j = T ∧ i = .int .i64 k ∧ Hid (KI.R 3 wr w.heap.size (fun _ => True) (.slice A2 l.length c2) (bumps (List.replicate l.length 0) ((ys.map pl).take k)) ∧ Chg (fun q => (Value.slice A2 l.length c2).ownBlock = some q) wB wr))
    case atStart => exact ⟨0, by omega, rfl, HR2B.out, Chg.refl _ _⟩
    case round =>
     obtain ⟨k, hk, rfl, HI⟩ := hrel
     obtain ⟨hr, hch⟩ := HI.out
     by_cases hlt : k < T
     ·have hky : k < ys.length := by have := HTLE.out; omega
      obtain ⟨⟨cx, sx, Ax, kx⟩, hx⟩ : ∃ x, ys[k]? = some x := ⟨_, List.getElem?_eq_getElem hky⟩
      obtain ⟨ad, rfl, z0, z1⟩ := coins_at HR7.out k (cx, sx, Ax, kx) hx (by omega)
      have hadb : w2.heap.size ≤ ad.block := HRB.out ad _ _ rfl
      have hcc := C_chg HR7.out hch (fun e => by have := HV2.out _ e; omega)
      obtain ⟨_, e, y0, y1⟩ := coins_at hcc k (cx, sx, Ax, kx) hx (by omega)
      cases e
      have y1 : wr.cell? ⟨(ad.add (k * 2)).block, (ad.add (k * 2)).off + 1, none⟩ = some (.slice Ax sx.length kx) := by rw [← add_add1]; exact y1
      clear z0 z1
      have hlx := (HL7.out (cx, sx, Ax, kx) (List.mem_of_getElem? hx)).chgS hch (fun k hk => HV2.out k hk)
      have i0 : (0 : Int) ≤ k := by omega
      have i1 : (k : Int) < (T : Int) := by omega
      have i2 : ((k : Int)).toNat = k := by omega
      have hsn : (ys.map pl).take (k + 1) = (ys.map pl).take k ++ [(cx, sx)] := by
       rw [List.take_add_one, List.getElem?_map, hx]
       rfl
      have hsy : ∀ s ∈ sx, 0 ≤ s ∧ s < (l.length : Int) := by
       have h1 := syms_listAt l 14
       rw [HF.out] at h1
       exact h1 (cx, sx) (by rw [← HM7.out]; exact List.mem_map.2 ⟨_, List.mem_of_getElem? hx, rfl⟩)
      have hsxl : sx.length ≤ 6000 := by
       have h1 := tot_mem (ps := listAt F 14) (p := (cx, sx)) (by rw [← HM7.out]; exact List.mem_map.2 ⟨_, List.mem_of_getElem? hx, rfl⟩)
       have h2 := tot_listAt F 14
       have h3 := tot_first l
       rw [HF.out] at h3
       have h1 : sx.length ≤ tot (listAt F 14) := h1
       omega
      have HR := Lib.hid hr
      have HCH := Lib.hid hch
      have HLX := Lib.hid hlx
      have HSN := Lib.hid hsn
      have HSY := Lib.hid hsy
      have HK := Lib.hid hk
      have HADB := Lib.hid hadb
      clear hr hch hlx hsn hsy hk hadb hcc HI
      have HLB := Lib.hid (HL7.out (cx, sx, Ax, kx) (List.mem_of_getElem? hx))
      obtain ⟨O, hO⟩ : ∃ O, bumps (List.replicate l.length 0) ((ys.map pl).take k) = O := ⟨_, rfl⟩
      have hOl : O.length = l.length := by rw [← hO, bumps_length, List.length_replicate]
      rw [hO] at HR
      have HO := Lib.hid hO
      clear hO
      go_wp2_with (fail)
      go_loopg [58] sx.length (fun j i wr => ∃ t : Nat, t + j = sx.length ∧ i = .int .i64 t ∧ Hid (KI.R 3 wr w.heap.size (fun _ => True) (.slice A2 l.length c2) ((sx.take t).foldl bump O) ∧ Chg (fun q => (Value.slice A2 l.length c2).ownBlock = some q) wB wr))
      case atStart => exact ⟨0, by omega, rfl, Kd.R_below HR.out ((Below.refl _ wr).alloc (Nat.le_refl _) _), HCH.out.alloc _⟩
      case round =>
       obtain ⟨t, ht, rfl, HI⟩ := hrel
       obtain ⟨hr, hch⟩ := HI.out
       by_cases htl : t < sx.length
       ·obtain ⟨ad3, rfl, x0⟩ := ints_at (Kd.R_reads' (HLB.out.chgS hch (fun k hk => HV2.out k hk))).2.2 t htl
        obtain ⟨sy, hsy⟩ : ∃ sy, sx.getD t 0 = sy := ⟨_, rfl⟩
        have hin : 0 ≤ sy ∧ sy < (l.length : Int) := HSY.out sy (by rw [← hsy, List.getD_eq_getElem?_getD, List.getElem?_eq_getElem htl]; exact List.getElem_mem htl)
        obtain ⟨s0, s1⟩ := hin
        have hts : sx.take (t + 1) = sx.take t ++ [sy] := by rw [take_succ_getD sx t htl, hsy]
        obtain ⟨P, hP⟩ : ∃ P, (sx.take t).foldl bump O = P := ⟨_, rfl⟩
        have hnx : (sx.take (t + 1)).foldl bump O = bump P sy := by rw [hts, List.foldl_append, hP]; rfl
        have hPl : P.length = l.length := by rw [← hP, foldl_bump_length, hOl]
        rw [hsy] at x0
        rw [hP] at hr
        obtain ⟨g, cap, hv, hge, hgl, cells, hcell⟩ := Kd.R_form hr (by omega)
        rw [hPl] at hv
        injection hv with hv1 hv2 hv3
        subst hv1 hv3
        have hr' := hr
        rw [← hPl] at hr'
        obtain ⟨y0, y1⟩ := Kd.R_cell (enc := Value.int .i64) (h1 := fun _ => rfl) (0 : Int) hr' sy s0 (by rw [hPl]; exact s1)
        obtain ⟨x, hx2⟩ : ∃ x, P.getD sy.toNat 0 = x := ⟨_, rfl⟩
        obtain ⟨K, hKw⟩ : ∃ K, wrap64 (x + 1) = K := ⟨_, rfl⟩
        have hw : IntKind.i64.wrap (x + 1) = K := by rw [← hKw, IntKind.wrap_i64]; first | rfl | (unfold wrap64; omega)
        obtain ⟨p0, p1⟩ := Kd.R_put (enc := Value.int .i64) (h1 := fun _ => rfl) hr' sy K
        rw [hPl] at p0
        rw [show rdOf (0 : Int) P sy = x from hx2] at y0
        have hset : P.set sy.toNat K = bump P sy := by unfold bump; rw [hx2, hKw]
        rw [hset, ← hnx] at p0
        have P0 := Lib.hid p0
        have HCH2 := Lib.hid (hch.grown p1 (fun k hk _ => hk))
        have i0 : (0 : Int) ≤ t := by omega
        have i1 : (t : Int) < (sx.length : Int) := by omega
        have i2 : ((t : Int)).toNat = t := by omega
        have HTT := Lib.hid ht
        clear hr hr' hch HI p0 p1 hset hx2 hsy hts hP hnx hPl hcell hge hgl hKw ht
        go_wp2_with (fail)
        go_roundg (sx.length - (t + 1))
        case measure => have := HTT.out; omega
        case rel => exact ⟨t + 1, by have := HTT.out; omega, by go_num, P0.out, HCH2.out⟩
       ·obtain rfl : t = sx.length := by omega
        rw [List.take_length] at hr
        have HR9 := Lib.hid (show KI.R 3 wr w.heap.size (fun _ => True) (.slice A2 l.length c2) (bumps (List.replicate l.length 0) ((ys.map pl).take (k + 1))) from by
         rw [HSN.out]
         unfold bumps
         rw [List.foldl_append]
         show KI.R _ _ _ _ _ (sx.foldl bump (bumps (List.replicate l.length 0) ((ys.map pl).take k)))
         rw [HO.out]
         exact hr)
        have HCH9 := Lib.hid hch
        clear hr hch HI ht
        go_wp2_with (fail)
        go_roundg (T - (k + 1))
        case measure => have := HK.out; omega
        case rel => exact ⟨k + 1, by have := HK.out; omega, by go_num, HR9.out, HCH9.out⟩
     ·obtain rfl : k = T := by omega
      have HR9 := Lib.hid (show KI.R 3 wr w.heap.size (fun _ => True) (.slice A2 l.length c2) (lensP l) from by
       unfold lensP
       rw [HF.out, HT.out, ← HM7.out]
       exact hr)
      have HB9 := Lib.hid (show Below w.heap.size w wr from HBB.out.trans (hch.below HBB.out.size (fun q hq => by
       rcases (Kd.own_of_R HR2.out).2 with ⟨h2, _⟩ | ⟨g, cap, cur, h2, h3, _⟩
       ·rw [h2] at hq; simp [Value.ownBlock] at hq
       ·rw [h2] at hq
        have : g = q := by simpa [Value.ownBlock] using hq
        omega)))
      clear hr hch HI hk
      go_wp2_with (fail)
      go_ret2
      exact ⟨_, rfl, HR9.out, HB9.out⟩
end Go.Proofs.YtfbbcfhdjhiejaaGreat.Srt

set_option linter.unusedVariables false
namespace Go.Proofs.YtfbbcfhdjhiejaaGreat.Tb
/-- How many more, at most c, are as x. -/
def runTo (x : Int) : Nat → List Int → Nat
 | 0, _ => 0
 | _ + 1, [] => 0
 | c + 1, y :: ys => if y = x then runTo x c ys + 1 else 0
theorem runTo_le (x : Int) : ∀ (c : Nat) (l : List Int), runTo x c l ≤ c ∧ runTo x c l ≤ l.length
 | 0, l => ⟨Nat.le_refl _, Nat.zero_le _⟩
 | c + 1, [] => ⟨Nat.zero_le _, Nat.le_refl _⟩
 | c + 1, y :: ys => by
   have := runTo_le x c ys
   unfold runTo
   split
   ·simp; omega
   ·exact ⟨Nat.zero_le _, Nat.zero_le _⟩
theorem runTo_all (x : Int) : ∀ (c : Nat) (l : List Int), l.take (runTo x c l) = List.replicate (runTo x c l) x
 | 0, l => rfl
 | c + 1, [] => rfl
 | c + 1, y :: ys => by
   have := runTo_all x c ys
   unfold runTo
   split
   ·rename_i h
    rw [List.take_succ_cons, List.replicate_succ, this, h]
   ·rfl
theorem runTo_stop (x : Int) : ∀ (c : Nat) (l : List Int), runTo x c l < c → ∀ y ys, l.drop (runTo x c l) = y :: ys → y ≠ x
 | 0, l, h, _, _, _ => by omega
 | c + 1, [], _, y, ys, h => by simp [runTo] at h
 | c + 1, z :: zs, h, y, ys, hd => by
   unfold runTo at h hd
   split at h
   ·rename_i hz
    rw [if_pos hz, List.drop_succ_cons] at hd
    exact runTo_stop x c zs (by omega) y ys hd
   ·rename_i hz
    rw [if_neg hz, List.drop_zero] at hd
    injection hd with h1 h2
    rw [← h1]; exact hz
/-- Lengths as bytes; f: as many as there are lengths. -/
def tabF : Nat → List Int → List Int
 | 0, _ => []
 | _ + 1, [] => []
 | f + 1, x :: xs => (16 * x + (runTo x 15 xs : Nat)) :: tabF f (xs.drop (runTo x 15 xs))
def tabL (l : List Int) : List Int := tabF l.length l
theorem tabF_enough : ∀ (f g : Nat) (l : List Int), l.length ≤ f → l.length ≤ g → tabF f l = tabF g l
 | 0, 0, l, _, _ => rfl
 | 0, g + 1, [], _, _ => rfl
 | f + 1, 0, [], _, _ => rfl
 | f + 1, g + 1, [], _, _ => rfl
 | 0, g + 1, x :: xs, h, _ => by simp at h
 | f + 1, 0, x :: xs, _, h => by simp at h
 | f + 1, g + 1, x :: xs, h1, h2 => by
   have : (xs.drop (runTo x 15 xs)).length ≤ xs.length := by rw [List.length_drop]; omega
   simp only [tabF]
   rw [List.length_cons] at h1 h2
   rw [tabF_enough f g _ (by omega) (by omega)]
theorem tabL_cons (x : Int) (xs : List Int) : tabL (x :: xs) = (16 * x + (runTo x 15 xs : Nat)) :: tabL (xs.drop (runTo x 15 xs)) := by
 unfold tabL
 show tabF (xs.length + 1) (x :: xs) = _
 simp only [tabF]
 rw [tabF_enough xs.length _ _ (by rw [List.length_drop]; omega) (Nat.le_refl _)]
theorem tabL_len : ∀ (n : Nat) (l : List Int), l.length ≤ n → (tabL l).length ≤ l.length
 | _, [], _ => Nat.le_refl _
 | 0, x :: xs, h => by simp at h
 | n + 1, x :: xs, h => by
   rw [tabL_cons, List.length_cons, List.length_cons]
   have h1 : (xs.drop (runTo x 15 xs)).length ≤ xs.length := by rw [List.length_drop]; omega
   rw [List.length_cons] at h
   have := tabL_len n (xs.drop (runTo x 15 xs)) (by omega)
   omega
/-- The document's way: symbol by symbol. -/
def rle : Nat → List Int → List Int
 | _, [] => []
 | r, [x] => [16 * x + (r : Nat)]
 | r, x :: y :: ys => if r + 1 = 16 ∨ y ≠ x then (16 * x + (r : Nat)) :: rle 0 (y :: ys) else rle (r + 1) (y :: ys)
theorem rle_run : ∀ (xs : List Int) (x : Int) (r : Nat), r ≤ 15 → rle r (x :: xs) = (16 * x + ((r + runTo x (15 - r) xs : Nat) : Int)) :: rle 0 (xs.drop (runTo x (15 - r) xs))
 | [], x, r, h => by
   have : runTo x (15 - r) [] = 0 := by cases 15 - r <;> rfl
   rw [this]; rfl
 | y :: ys, x, r, h => by
   by_cases h15 : r + 1 = 16
   ·have e : runTo x (15 - r) (y :: ys) = 0 := by rw [show 15 - r = 0 by omega]; rfl
    rw [e]
    simp only [rle]
    rw [if_pos (.inl h15), List.drop_zero, Nat.add_zero]
   ·obtain ⟨c, hc⟩ : ∃ c, 15 - r = c + 1 := ⟨14 - r, by omega⟩
    rw [hc]
    simp only [rle, runTo]
    by_cases hy : y = x
    ·rw [if_neg (by rintro (h | h); exact h15 h; exact h hy), if_pos hy, rle_run ys y (r + 1) (by omega), show 15 - (r + 1) = c by omega, hy, List.drop_succ_cons]
     congr 2
     omega
    ·rw [if_pos (.inr hy), if_neg hy, List.drop_zero, Nat.add_zero]
theorem rle_tab : ∀ (n : Nat) (l : List Int), l.length ≤ n → rle 0 l = tabL l
 | _, [], _ => rfl
 | 0, x :: xs, h => by simp at h
 | n + 1, x :: xs, h => by
   have h1 : (xs.drop (runTo x 15 xs)).length ≤ xs.length := by rw [List.length_drop]; omega
   rw [List.length_cons] at h
   rw [rle_run xs x 0 (by omega), tabL_cons, Nat.sub_zero, Nat.zero_add, rle_tab n _ (by omega)]
/-! ### and back -/
end Go.Proofs.YtfbbcfhdjhiejaaGreat.Tb

/- Lengths as bytes: the program's. -/
namespace Go.Proofs.YtfbbcfhdjhiejaaGreat.Tb
set_option linter.unusedVariables false
set_option linter.unusedSimpArgs false
open Go.RowKit Go.Proofs.YtfbbcfhdjhiejaaGreatW.PrintWords Go.Proofs.YtfbbcfhdjhiejaaGreatW.PrintMore Go.Proofs.YtfbbcfhdjhiejaaGreat.L Go.Proofs.YtfbbcfhdjhiejaaGreat.Ints Go.Proofs.YtfbbcfhdjhiejaaGreat.Bits
theorem run_here {l : List Int} {k q : Nat} {x : Int} {r : Nat} (hr : runTo x 15 (l.drop (k + 1)) = r) (hq : q < r) : l.getD (k + 1 + q) 0 = x := by
 have h1 := runTo_all x 15 (l.drop (k + 1))
 rw [hr] at h1
 have h2 : ((l.drop (k + 1)).take r)[q]? = some x := by rw [h1, List.getElem?_replicate, if_pos hq]
 rw [List.getElem?_take, if_pos hq, List.getElem?_drop] at h2
 rw [List.getD_eq_getElem?_getD, h2]
 rfl
theorem run_over {l : List Int} {k : Nat} {x : Int} {r : Nat} (hr : runTo x 15 (l.drop (k + 1)) = r) (h15 : r < 15) (hl : k + 1 + r < l.length) : l.getD (k + 1 + r) 0 ≠ x := by
 have h1 := runTo_stop x 15 (l.drop (k + 1))
 rw [hr] at h1
 have h2 := h1 h15 (l.getD (k + 1 + r) 0) (l.drop (k + 1 + r + 1)) (by
  rw [List.drop_drop, List.drop_eq_getElem_cons hl, List.getD_eq_getElem?_getD, List.getElem?_eq_getElem hl]
  rfl)
 exact h2
theorem drop_getD (l : List Int) (k : Nat) (h : k < l.length) : l.drop k = l.getD k 0 :: l.drop (k + 1) := by
 rw [List.drop_eq_getElem_cons h, List.getD_eq_getElem?_getD, List.getElem?_eq_getElem h]
 rfl
set_option maxRecDepth 100000 in
set_option maxHeartbeats 4000000 in
theorem put_any (A : Option Addr) (n c : Nat) (l : List Int) (w : World) (h : KI.C w A n l) (hl : l.length ≤ 356) (hb : ∀ x ∈ l, 0 ≤ x ∧ x ≤ 15) :
  Calls Tryz.prog 110 #[.slice A n c] w fun e w' => e = .returned (.tuple #[.string (strOfNums (tabL l)), .bool true]) ∧ Below w.heap.size w w' := by
 have hnl := ki_len h
 subst hnl
 have H := Lib.hid h
 have HB := Lib.hid hb
 have hl2 : (l.length : Int) ≤ 356 := by omega
 clear h hb
 go_enter Tryz.func110, Tryz.ntmps110
 go_wp2_with (fail)
 go_loopg [4, 5] l.length (fun j v i wr => ∃ k : Nat, k + j = l.length ∧ i = .int .i64 k ∧ Hid (∃ acc : List Int, acc ++ tabL (l.drop k) = tabL l ∧ Kd.R (Kd.int .u8) 5 wr w.heap.size (fun _ => True) v acc ∧ Below w.heap.size w wr))
 case atStart => exact ⟨0, by omega, rfl, [], rfl, Kd.R_nil _ _ _ _ _, Below.refl _ _⟩
 case round =>
  obtain ⟨k, hk, rfl, HI⟩ := hrel
  obtain ⟨acc, ha, hr, hbw⟩ := HI.out
  by_cases hlt : k < l.length
  ·have hx0 := HB.out _ (by rw [show l.getD k 0 = l[k] by rw [List.getD_eq_getElem?_getD, List.getElem?_eq_getElem hlt]; rfl]; exact List.getElem_mem hlt : l.getD k 0 ∈ l)
   obtain ⟨ad, rfl, x0⟩ := ints_at (Kd.C_below H.out hbw) k hlt
   rw [drop_getD l k hlt, tabL_cons] at ha
   obtain ⟨x, hx⟩ : ∃ x, l.getD k 0 = x := ⟨_, rfl⟩
   obtain ⟨r, hrr⟩ : ∃ r, runTo x 15 (l.drop (k + 1)) = r := ⟨_, rfl⟩
   rw [hx] at x0 ha hx0
   rw [hrr, List.drop_drop] at ha
   have hle := runTo_le x 15 (l.drop (k + 1))
   rw [hrr, List.length_drop] at hle
   obtain ⟨r15, rl⟩ := hle
   have HA := Lib.hid ha
   have HR := Lib.hid hr
   have HBW := Lib.hid hbw
   have HX := Lib.hid hx
   have HRR := Lib.hid hrr
   have HK := Lib.hid hk
   have HAL := Lib.hid (show acc.length ≤ 356 by
    have h1 := tabL_len l.length l (Nat.le_refl _)
    rw [← ha, List.length_append] at h1
    omega)
   obtain ⟨xx0, xx15⟩ := hx0
   have i0 : (0 : Int) ≤ k := by omega
   have i1 : (k : Int) < (l.length : Int) := by omega
   have i2 : ((k : Int)).toNat = k := by omega
   clear ha hr hbw hx hrr hk HI
   go_wp2_with (fail)
   go_loopg [6] (r + 1) (fun j nv w2 => ∃ q n : Nat, q + j = r + 1 ∧ q ≤ r ∧ nv = .int .i64 ((q + 1 : Nat) : Int) ∧ w2 = wr.drewN n)
   case atStart => exact ⟨0, 0, by omega, Nat.zero_le _, rfl, rfl⟩
   case round =>
    obtain ⟨q, m, hq, hqr, rfl, rfl⟩ := hrel
    obtain ⟨N, hN⟩ : ∃ N, q + 1 = N := ⟨_, rfl⟩
    rw [hN]
    obtain ⟨P, hP⟩ : ∃ P, k + N = P := ⟨_, rfl⟩
    have p1 : IntKind.i64.wrap ((k : Int) + (N : Int)) = (P : Int) := by rw [IntKind.wrap_i64]; omega
    have p0 : (0 : Int) ≤ (P : Int) := by omega
    have p2 : ((P : Int)).toNat = P := by omega
    have HQ := Lib.hid hq
    have HN := Lib.hid hN
    have HP := Lib.hid hP
    by_cases hlq : q < r
    ·obtain ⟨ad2, had2, y0⟩ := ints_at (Kd.C_below H.out HBW.out) P (by omega)
     cases had2
     rw [show P = k + 1 + q by omega, run_here HRR.out hlq, show k + 1 + q = P by omega] at y0
     have f1 : decide ((N : Int) < 16) = true := decide_eq_true (by omega)
     have f2 : decide ((P : Int) < (l.length : Int)) = true := decide_eq_true (by omega)
     have f2b : (P : Int) < (l.length : Int) := by omega
     have f3 : (x == x) = true := beq_iff_eq.2 rfl
     have HLQ := Lib.hid hlq
     have nn : N ≤ 15 := by omega
     clear hq hN hP
     go_wp2_with (fail)
     go_quiet (fail)
     go_wp2_with (fail)
     go_roundg (r + 1 - (q + 1))
     case measure => have := HQ.out; omega
     case rel => exact ⟨q + 1, _, by have := HQ.out; have := HLQ.out; omega, by have := HLQ.out; omega, by have := HN.out; rw [this]; go_num, rfl⟩
    ·obtain rfl : q = r := by omega
     have hst : decide ((N : Int) < 16) = false ∨ (decide ((N : Int) < 16) = true ∧ decide (P < l.length) = false) ∨
       (decide ((N : Int) < 16) = true ∧ decide ((P : Int) < (l.length : Int)) = true ∧ (P : Int) < (l.length : Int) ∧ ∃ y, wr.cell? (ad.add P) = some (.int .i64 y) ∧ (y == x) = false) := by
      by_cases g1 : q = 15
      ·exact .inl (decide_eq_false (by omega))
      ·by_cases g2 : P < l.length
       ·obtain ⟨ad2, had2, y0⟩ := ints_at (Kd.C_below H.out HBW.out) P g2
        cases had2
        have := run_over HRR.out (by omega) (by omega : k + 1 + q < l.length)
        rw [show k + 1 + q = P by omega] at this
        exact .inr (.inr ⟨decide_eq_true (by omega), decide_eq_true (by omega), by omega, _, y0, beq_eq_false_iff_ne.2 this⟩)
       ·exact .inr (.inl ⟨decide_eq_true (by omega), decide_eq_false g2⟩)
     have nn : N ≤ 16 := by omega
     have n0 : 1 ≤ N := by omega
     have hby : (x * 16 + (N : Int) - 1) % 256 = x * 16 + (N : Int) - 1 := by omega
     have HEQ := Lib.hid (show 16 * x + (q : Int) = x * 16 + (N : Int) - 1 by omega)
     have HAPP := Lib.hid (show acc ++ [x * 16 + (N : Int) - 1] ++ tabL (l.drop (k + 1 + q)) = tabL l by rw [List.append_assoc, ← HEQ.out]; exact HA.out)
     have HKN := Lib.hid (show k + 1 + q = k + N by omega)
     have HKL := Lib.hid (show k + N ≤ l.length by omega)
     clear hq hN hP
     rcases hst with f1 | ⟨f1, f2⟩ | ⟨f1, f2, f2b, y, y0, f3⟩
     all_goals
      go_wp2_with (fail)
      go_quiet (fail)
      go_wp2_with (((with_reducible refine gate_builtin (b := .append) (xs := #[.tmp 51, .tmp 61]) rfl ?_); at_builtin; apply stopper))
      unfold Stopper
      refine Kd.R_append (Kd.int .u8) (w0 := w) w.heap.size rfl (.tmp 51) (.tmp 61) 49 5 (.int .u8 0) 1 rfl Tryz.underlying49 infoU8 rfl (by decide) (by omega) u4 acc (x * 16 + (N : Int) - 1) [.int .u8 (x * 16 + (N : Int) - 1)] (fun _ => True) (fun _ => False) rfl rfl rfl (fun _ hk => hk.elim) (fun _ _ => trivial) (Kd.R_drewN HR.out _) (below_drewN HBW.out _) HBW.out.size (by have := HAL.out; omega) ?_
      intro p1 w6 ho hb6 hg hat
      have HO := Lib.hid ho
      have HB6 := Lib.hid hb6
      clear ho hb6 hg hat
      go_wp2_with (fail)
      go_roundg (l.length - (k + N))
      case measure => have := HKL.out; have := HK.out; omega
      case rel => exact ⟨k + N, by have := HKL.out; omega, by rw [HP.out], _, by rw [← HKN.out]; exact HAPP.out, HO.out, HB6.out⟩
  ·obtain rfl : k = l.length := by omega
   rw [List.drop_length] at ha
   have e : acc = tabL l := by rw [← ha]; exact (List.append_nil acc).symm
   subst e
   have hcv := own_string (P := Tryz.prog) Tryz.underlying49 Tryz.underlying5 Tryz.underlying9 (Kd.own_of_R hr)
   have HBW := Lib.hid hbw
   clear ha hr hbw HI
   go_wp2_with (fail)
   go_ret2
   exact ⟨rfl, HBW.out⟩
end Go.Proofs.YtfbbcfhdjhiejaaGreat.Tb
