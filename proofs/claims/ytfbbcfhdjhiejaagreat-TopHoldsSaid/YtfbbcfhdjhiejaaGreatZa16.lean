/- Of the parts EncI, OpsE, OpsW, BestUse, Says, BestTile, BestPick, WInv: what the rows use. -/
import Derived.Test.YtfbbcfhdjhiejaaGreatZa1
import Derived.Test.YtfbbcfhdjhiejaaGreatZa4
import Derived.Test.YtfbbcfhdjhiejaaGreatZa5
import Derived.Test.YtfbbcfhdjhiejaaGreatZa7
import Derived.Test.YtfbbcfhdjhiejaaGreatZa10
import Derived.Test.YtfbbcfhdjhiejaaGreatZa15
/- Chapter 24: Encode; a stream of another dictionary. -/
namespace Go.Proofs.YtfbbcfhdjhiejaaGreat.En
set_option linter.unusedVariables false
set_option linter.unusedSimpArgs false
open Go.RowKit Go.Proofs.YtfbbcfhdjhiejaaGreatW.PrintWords Go.Proofs.YtfbbcfhdjhiejaaGreatW.PrintMore Go.Proofs.YtfbbcfhdjhiejaaGreat.L Go.Proofs.YtfbbcfhdjhiejaaGreat.Texts Go.Proofs.YtfbbcfhdjhiejaaGreat.Dict Go.Proofs.YtfbbcfhdjhiejaaGreat.Fr
/-- All at once. -/
def allB (l : List ByteArray) (c : Blk.Cf) (b : ByteArray) : ByteArray := wr l (e0 c) b ++ cl l (wrote l (e0 c) b)
set_option maxRecDepth 100000 in
set_option maxHeartbeats 4000000 in
theorem encode_any (db : Nat) (l : List ByteArray) (c : Blk.Cf) (b : ByteArray) (w : World) (hD : DC w db l) (hok : okTexts l) (hcf : c.ok) (hb : AllOk l c b) (hs : b.size ≤ 1000000) (hl : (drainA l c b).2.size ≠ 0 → BlkOk l c (drainA l c b).2 ∧ (blockF l c (drainA l c b).2).size ≤ 100000) :
  Calls Tryz.prog 22 #[.pointer (some ⟨db, 0, none⟩), c.val, .string b] w fun e w' => e = .returned (.tuple #[.string (allB l c b), .nilIface]) ∧ Below w.heap.size w w' := by
 have hnb : (e0 c).held ++ b = b := ByteArray.empty_append
 have HNE := Lib.hid (fun W => new_any ⟨db, 0, none⟩ c W hcf)
 have HWR := Lib.hid (fun (x : Nat) (W : World) (h : Enc W x ⟨db, 0, none⟩ (e0 c)) (hW : ∀ W', Chg (fun k => k = x) W W' → DC W' db l) => write_any x db l (e0 c) b W h hW hok hcf rfl (by rw [hnb]; exact hb) (by rw [hnb]; exact hs) (by show 0 + b.size ≤ _; omega))
 have HCL := Lib.hid (fun (x : Nat) (W : World) (h : Enc W x ⟨db, 0, none⟩ (wrote l (e0 c) b)) (hW : ∀ W', Chg (fun k => k = x) W W' → DC W' db l) => close_any x db l (wrote l (e0 c) b) W h hW hok hcf rfl (by
  show (drainA l c ((e0 c).held ++ b)).2.size ≠ 0 → BlkOk l c (drainA l c ((e0 c).held ++ b)).2 ∧ (blockF l c (drainA l c ((e0 c).held ++ b)).2).size ≤ 100000
  rw [hnb]; exact hl))
 have HAL := Lib.hid (show allB l c b = wr l (e0 c) b ++ cl l (wrote l (e0 c) b) from rfl)
 have hz1 : (wr l (e0 c) b).size ≤ 200000000000 := by
  have h1 := hd_size l (e0 c)
  have h2 := drainA_size hcf.2.2.1 hb
  unfold wr
  rw [ByteArray.size_append, hnb]
  show (hd l (e0 c)).size + (drainA l c b).1.size ≤ _
  omega
 have hz2 : (cl l (wrote l (e0 c) b)).size ≤ 200000 := by
  have h1 := hd_size l (wrote l (e0 c) b)
  unfold cl
  rw [ByteArray.size_append]
  have h5 : (endB ((wrote l (e0 c) b).written % 4294967296)).size = 5 := by unfold endB; rw [ByteArray.size_append, Co.big_size, Co.big_size]
  rw [h5]
  unfold fl
  split
  ·omega
  ·rename_i h0
   have h2 := (hl (by
    have : (wrote l (e0 c) b).held = (drainA l c ((e0 c).held ++ b)).2 := rfl
    rw [this, hnb] at h0; exact h0)).2
   rw [ByteArray.size_append]
   have : (wrote l (e0 c) b).held = (drainA l c ((e0 c).held ++ b)).2 := rfl
   rw [this, hnb]
   show (hd l (wrote l (e0 c) b)).size + (blockF l c (drainA l c b).2).size + 5 ≤ _
   omega
 obtain ⟨A, hA⟩ : ∃ A, wr l (e0 c) b = A := ⟨_, rfl⟩
 obtain ⟨D, hDD⟩ : ∃ D, wrote l (e0 c) b = D := ⟨_, rfl⟩
 rw [hA] at HWR HAL hz1
 rw [hDD] at HWR HAL HCL hz2
 obtain ⟨C, hC⟩ : ∃ C, cl l D = C := ⟨_, rfl⟩
 rw [hC] at HCL HAL hz2
 obtain ⟨F, hF⟩ : ∃ F, allB l c b = F := ⟨_, rfl⟩
 rw [hF] at HAL ⊢
 have hzz : ¬ 9223372036854775807 < A.size + C.size := by omega
 have HDC := Lib.hid hD
 have HV : c.val = .agg #[.int .i64 c.parse, .int .i64 c.code, .int .i64 c.block, .int .i64 c.window] := rfl
 rw [HV] at HNE ⊢
 have q1 := De.neq_nil
 clear hnb hD hok hcf hb hs hl hz1 hz2 hA hDD hC hF HV
 go_enter Tryz.func22, Tryz.ntmps22
 go_wp2_with (fail)
 refine Calls.mono (HNE.out _) ?_
 rintro e w1 ⟨x, rfl, hx, h1, hb1⟩
 have H1 := Lib.hid h1
 have HX := Lib.hid (show w.heap.size ≤ x by have := hx; simp at this; omega)
 have HB1 := Lib.hid (Ints.bel_trans ((Below.refl _ w).alloc (Nat.le_refl _) (.cells #[.int .i64 c.parse, .int .i64 c.code, .int .i64 c.block, .int .i64 c.window] 24 (0, 0))) (by simp) hb1)
 have HD1 := Lib.hid (show ∀ W, Chg (fun k => k = x) w1 W → DC W db l from fun W hW => HDC.out.below (HB1.out.trans (hW.below HB1.out.size (fun k hk => by rw [hk]; exact HX.out))))
 clear hx h1 hb1
 go_wp2_with (fail)
 refine Calls.mono (HWR.out x _ H1.out HD1.out) ?_
 rintro e w2 ⟨rfl, h2, hc2⟩
 have H2 := Lib.hid h2
 have HC2 := Lib.hid hc2
 clear h2 hc2
 go_wp2_with (fail)
 refine Calls.mono (HCL.out x _ H2.out (fun W hW => HD1.out W (HC2.out.trans hW))) ?_
 rintro e w3 ⟨rfl, h3, hc3⟩
 have HB3 := Lib.hid (show Below w.heap.size w w3 from HB1.out.trans ((HC2.out.trans hc3).below HB1.out.size (fun k hk => by rw [hk]; exact HX.out)))
 clear h3 hc3
 go_wp2_with (fail)
 go_ret2
 exact ⟨by rw [HAL.out]; rfl, HB3.out⟩
end Go.Proofs.YtfbbcfhdjhiejaaGreat.En

/- Chapter 24: what is done to an encoder (the law's own list): plain, and how it lies. -/
namespace Go.Proofs.YtfbbcfhdjhiejaaGreat.En
set_option linter.unusedVariables false
set_option linter.unusedSimpArgs false
open Go.RowKit Go.Proofs.YtfbbcfhdjhiejaaGreatW.PrintWords Go.Proofs.YtfbbcfhdjhiejaaGreatW.PrintMore Go.Proofs.YtfbbcfhdjhiejaaGreat.L Go.Proofs.YtfbbcfhdjhiejaaGreat.Texts Go.Proofs.YtfbbcfhdjhiejaaGreat.Dict Go.Proofs.YtfbbcfhdjhiejaaGreat.Fr
abbrev OpR := Int × ByteArray
def encO (x : OpR) : List Value := [.int .i64 x.1, .string x.2]
def OpK : Kd OpR := Kd.pair (Kd.int .i64) Kd.string
theorem op_K {w : World} {x : OpR} {cs : List Value} : OpK.K w x cs ↔ cs = encO x := by
 constructor
 ·rintro ⟨a, b, rfl, rfl, rfl⟩; rfl
 ·rintro rfl; exact ⟨[.int .i64 x.1], [.string x.2], rfl, rfl, rfl⟩
theorem op_M {w : World} {base : Nat} {ok : Nat → Prop} {x : OpR} : OpK.M w base ok x (encO x) := ⟨[.int .i64 x.1], [.string x.2], rfl, rfl, rfl⟩
theorem op_M2 {w : World} {base : Nat} {ok : Nat → Prop} {x : OpR} {cs : List Value} (h : cs = encO x) : OpK.M w base ok x cs := by rw [h]; exact op_M
theorem infoOp : (Tryz.prog.info? 58).map (fun i => (i.zero, i.size, i.bytes)) = some (some (.agg #[.int .i64 0, .string ⟨#[]⟩]), 2, 24) := by kernel_rfl
theorem op_len {w : World} {A : Option Addr} {n : Nat} {xs : List OpR} (h : OpK.C w A n xs) : n = xs.length := (Kd.C_len h).symm
theorem op_rows {w : World} {A : Option Addr} {n : Nat} {xs : List OpR} (h : OpK.C w A n xs) : ReadsRow (fun x cs => cs = encO x) 2 w A n xs :=
 ⟨h.1, h.2.1, fun h0 => by
  obtain ⟨ad, e, hc⟩ := h.2.2 h0
  exact ⟨ad, e, fun j p hj => by
   obtain ⟨c, h1, h2, h3⟩ := hc j p hj
   exact ⟨c, h1, op_K.1 h2, h3⟩⟩⟩
theorem ops_at {w : World} {A : Option Addr} {n : Nat} {xs : List OpR} (h : OpK.C w A n xs) (j : Nat) (x : OpR) (hj : xs[j]? = some x) (hn : 0 < n) : ∃ ad, A = some ad ∧ w.cell? (ad.add (j * 2)) = some (.int .i64 x.1) ∧ w.cell? (ad.add (j * 2 + 1)) = some (.string x.2) := by
 obtain ⟨ad, e, hc⟩ := h.2.2 hn
 obtain ⟨c, h1, h2, h3⟩ := hc j x hj
 rw [op_K.1 h2] at h3
 exact ⟨ad, e, h3 0 _ rfl, h3 1 _ rfl⟩
/-! ### plain -/
/-- What is told, of all that is done. -/
def runO (l : List ByteArray) : ES → List OpR → ByteArray
 | _, [] => ⟨#[]⟩
 | d, o :: os => if o.1 = 1 then wr l d o.2 ++ runO l (wrote l d o.2) os else if o.1 = 2 then fl l d ++ runO l (flushed d) os else if o.1 = 3 then cl l d else runO l d os
def HeldOk (l : List ByteArray) (d : ES) : Prop := d.held.size ≠ 0 → BlkOk l d.c d.held ∧ (blockF l d.c d.held).size ≤ 100000
/-- All may be done. -/
def okO (l : List ByteArray) : ES → List OpR → Prop
 | _, [] => True
 | d, o :: os => (o.1 = 1 → AllOk l d.c (d.held ++ o.2) ∧ (d.held ++ o.2).size ≤ 1000000 ∧ d.written + o.2.size ≤ 1000000000000 ∧ okO l (wrote l d o.2) os) ∧ (o.1 = 2 → HeldOk l d ∧ okO l (flushed d) os) ∧ (o.1 = 3 → HeldOk l d) ∧ (o.1 ≠ 1 ∧ o.1 ≠ 2 ∧ o.1 ≠ 3 → okO l d os)
end Go.Proofs.YtfbbcfhdjhiejaaGreat.En

/- Chapter 24: an encoder to which all is done (the law's own). -/
namespace Go.Proofs.YtfbbcfhdjhiejaaGreat.En
set_option linter.unusedVariables false
set_option linter.unusedSimpArgs false
open Go.RowKit Go.Proofs.YtfbbcfhdjhiejaaGreatW.PrintWords Go.Proofs.YtfbbcfhdjhiejaaGreatW.PrintMore Go.Proofs.YtfbbcfhdjhiejaaGreat.L Go.Proofs.YtfbbcfhdjhiejaaGreat.Texts Go.Proofs.YtfbbcfhdjhiejaaGreat.Dict Go.Proofs.YtfbbcfhdjhiejaaGreat.Fr
theorem add_block (a : Addr) (n : Nat) : (a.add n).block = a.block := by unfold Addr.add; split <;> rfl
theorem add_add1 (a : Addr) (n : Nat) : a.add (n + 1) = ⟨(a.add n).block, (a.add n).off + 1, none⟩ := by
 unfold Addr.add
 rw [if_neg (by omega)]
 split
 ·rename_i h; subst h; simp
 ·simp; omega
theorem C_chg {S : Nat → Prop} {w w' : World} {ad : Addr} {n : Nat} {xs : List OpR} (h : OpK.C w (some ad) n xs) (hc : Chg S w w') (hS : ¬ S ad.block) : OpK.C w' (some ad) n xs := by
 refine ⟨h.1, h.2.1, fun hn => ?_⟩
 obtain ⟨a, e, hx⟩ := h.2.2 hn
 injection e with e
 subst e
 refine ⟨ad, rfl, fun j p hj => ?_⟩
 obtain ⟨c, h1, h2, h3⟩ := hx j p hj
 refine ⟨c, h1, op_K.2 (op_K.1 h2), fun t v ht => ?_⟩
 have h4 := h3 t v ht
 have h5 := World.block_lt_of_cell? w _ h4
 have h6 : w'.heap[(ad.add (j * OpK.sz + t)).block]? = w.heap[(ad.add (j * OpK.sz + t)).block]? := hc.block _ h5 (by rw [add_block]; exact hS)
 rw [← h4]
 simp only [World.cell?, h6]
theorem bel_chg {S : Nat → Prop} {w0 w w' : World} (hb : Below w0.heap.size w0 w) (hc : Chg S w w') (hS : ∀ k, S k → w0.heap.size ≤ k) : Below w0.heap.size w0 w' := hb.trans (hc.below hb.size hS)
set_option maxRecDepth 100000 in
set_option maxHeartbeats 8000000 in
theorem encode24 (db : Nat) (l : List ByteArray) (c : Blk.Cf) (A : Option Addr) (n cc : Nat) (ops : List OpR) (w : World) (hD : DC w db l) (hok : okTexts l) (hcf : c.ok) (hA : OpK.C w A n ops) (hn : n ≤ 100000) (hO : okO l (e0 c) (ops ++ [(3, ⟨#[]⟩)])) (hz : (runO l (e0 c) (ops ++ [(3, ⟨#[]⟩)])).size ≤ 1000000000000000) :
  Calls Tryz.prog 16 #[.pointer (some ⟨db, 0, none⟩), c.val, .slice A n cc] w fun e w' => e = .returned (.tuple #[.string (runO l (e0 c) (ops ++ [(3, ⟨#[]⟩)])), .bool true]) ∧ Below w.heap.size w w' := by
 have hnl := op_len hA
 subst hnl
 have HNE := Lib.hid (fun W => new_any ⟨db, 0, none⟩ c W hcf)
 have HV : c.val = .agg #[.int .i64 c.parse, .int .i64 c.code, .int .i64 c.block, .int .i64 c.window] := rfl
 rw [HV] at HNE ⊢
 have HA := Lib.hid hA
 have HDC := Lib.hid hD
 have HOK := Lib.hid hok
 have HCF := Lib.hid hcf
 obtain ⟨xs, hxs⟩ : ∃ xs, ops ++ [((3 : Int), (⟨#[]⟩ : ByteArray))] = xs := ⟨_, rfl⟩
 have hxl : xs.length = ops.length + 1 := by rw [← hxs, List.length_append]; rfl
 rw [hxs] at hO hz ⊢
 have HO := Lib.hid hO
 have HZ := Lib.hid hz
 have HXS := Lib.hid hxs
 have HXL := Lib.hid hxl
 have q1 := De.neq_nil
 clear hD hok hcf hA hO hz HV hxs hxl
 go_enter Tryz.func16, Tryz.ntmps16
 go_wp2_with (fail)
 refine Calls.mono (HNE.out _) ?_
 rintro e w1 ⟨x, rfl, hx, h1, hb1⟩
 have H1 := Lib.hid h1
 have HX := Lib.hid (show w.heap.size ≤ x ∧ x < w1.heap.size from ⟨by have := hx; simp at this; omega, blk_lt h1⟩)
 have HB1 := Lib.hid (Ints.bel_trans ((Below.refl _ w).alloc (Nat.le_refl _) (.cells #[.int .i64 c.parse, .int .i64 c.code, .int .i64 c.block, .int .i64 c.window] 24 (0, 0))) (by simp) hb1)
 clear hx h1 hb1
 go_wp2_with (((with_reducible refine gate_builtin (b := .append) (xs := #[.const (.slice none 0 0), .tmp 27]) rfl ?_); at_builtin; apply stopper))
 unfold Stopper
 refine Kd.R_append_rows OpK (Rr := fun x cs => cs = encO x) (w0 := w1) w1.heap.size rfl (.const (.slice none 0 0)) (.tmp 27) 25 58 (.agg #[.int .i64 0, .string ⟨#[]⟩]) 24 rfl Tryz.underlying25 infoOp rfl (by decide) (by omega) (.slice none 0 0) [] ops A ops.length cc (fun _ => True) (fun _ => False) rfl rfl ?aO ?aR (fun x cs h => op_M2 h) (fun _ h => h.elim) (fun _ _ => trivial) ?aB ?aS ?aL ?_
 case aO => exact Kd.R_nil _ _ _ _ _
 case aR => exact op_rows (Kd.C_below HA.out HB1.out)
 case aB => exact Below.refl _ _
 case aS => exact Nat.le_refl _
 case aL => simp; omega
 intro v1 w2 ho hb hg hat
 rw [List.nil_append] at ho
 have HO1 := Lib.hid ho
 have HB2 := Lib.hid hb
 clear ho hb hg hat
 go_wp2_with (((with_reducible refine gate_builtin (b := .append) (xs := #[.tmp 28, .tmp 30]) rfl ?_); at_builtin; apply stopper))
 unfold Stopper
 refine Kd.R_append OpK (w0 := w1) w1.heap.size rfl (.tmp 28) (.tmp 30) 25 58 (.agg #[.int .i64 0, .string ⟨#[]⟩]) 24 rfl Tryz.underlying25 infoOp rfl (by decide) (by omega) v1 ops (3, ⟨#[]⟩) [.int .i64 3, .string ⟨#[]⟩] (fun _ => True) (fun _ => False) rfl rfl ?bP (fun _ hk => hk.elim) ?bF ?bO ?bB ?bS ?bL ?_
 case bP => exact op_M
 case bF => exact (fun _ _ => trivial)
 case bO => exact HO1.out
 case bB => exact HB2.out
 case bS => exact HB2.out.size
 case bL => omega
 intro v2 w3 ho hb hg hat
 rw [HXS.out] at ho
 obtain ⟨A5, c5, rfl⟩ := Kd.R_slice ho
 have hC5 := (Kd.R_reads' ho).2.2
 obtain ⟨ad, rfl, -⟩ := hC5.2.2 (by have := HXL.out; omega)
 have hg5 := Kd.R_base ho ad.block rfl
 have HG := Lib.hid (show ad.block ≠ x by have := HX.out; omega)
 have HC5 := Lib.hid hC5
 have HB3 := Lib.hid (Ints.bel_trans HB1.out HB1.out.size hb)
 have H3 := Lib.hid (H1.out.below hb)
 have HN := Lib.hid (show xs.length ≤ 100001 by have := HXL.out; omega)
 clear ho hb hg hat hC5 hg5 HA HB1 H1 HO1 HB2 HXS HXL
 go_wp2_with (fail)
 go_loopg [10, 33] xs.length (fun j o i wr => ∃ (k : Nat) (d : ES) (s : ByteArray), o = .string s ∧ i = .int .i64 (k : Int) ∧ Hid (k + j = xs.length ∧ okO l d (xs.drop k) ∧ runO l (e0 c) xs = s ++ runO l d (xs.drop k) ∧ d.c = c ∧ d.closed = false ∧ Enc wr x ⟨db, 0, none⟩ d ∧ Chg (fun k => k = x) w3 wr))
 case atStart => exact ⟨0, e0 c, ⟨#[]⟩, rfl, rfl, by omega, HO.out, by rw [List.drop_zero]; exact ByteArray.empty_append.symm, rfl, rfl, H3.out, Chg.refl _ _⟩
 case round =>
  obtain ⟨k, d, s, rfl, rfl, HI⟩ := hrel
  obtain ⟨hkj, hok1, hrun, hdc, hcl, hen, hch⟩ := HI.out
  have HCW := Lib.hid hch
  have HDW := Lib.hid (show ∀ W, Chg (fun k => k = x) wr W → DC W db l from fun W hW => HDC.out.below (bel_chg HB3.out (HCW.out.trans hW) (fun k hk => by rw [hk]; exact HX.out.1)))
  have HEN := Lib.hid hen
  have HCF2 := Lib.hid (show d.c.ok by rw [hdc]; exact HCF.out)
  have HCL := Lib.hid hcl
  have HDCC := Lib.hid hdc
  by_cases hk : k < xs.length
  ·have hdr : xs.drop k = xs.getD k (0, ⟨#[]⟩) :: xs.drop (k + 1) := by
    rw [List.drop_eq_getElem_cons hk]
    congr 1
    simp [hk]
   have hget : xs[k]? = some (xs.getD k (0, ⟨#[]⟩)) := by rw [List.getD_eq_getElem?_getD, List.getElem?_eq_getElem hk]; rfl
   obtain ⟨o, ho⟩ : ∃ o, xs.getD k (0, ⟨#[]⟩) = o := ⟨_, rfl⟩
   rw [ho] at hdr hget
   obtain ⟨ad2, e2, hc0, hc1⟩ := ops_at (C_chg HC5.out HCW.out HG.out) k o hget (by omega)
   injection e2 with e2
   subst e2
   obtain ⟨kd, ob⟩ := o
   rw [hdr] at hok1 hrun
   have k0 : (0 : Int) ≤ (k : Int) := by omega
   have k1 : (k : Int) < (xs.length : Int) := by omega
   have HKX := Lib.hid hk
   have hkw : wrap64 ((k : Int) + 1) = ((k + 1 : Nat) : Int) := by have := HN.out; unfold wrap64; omega
   have HKJ := Lib.hid hkj
   have HRUN := Lib.hid hrun
   have HOK1 := Lib.hid hok1
   dsimp only at hc0 hc1
   rw [add_add1] at hc1
   clear hkj hok1 hrun hdc hcl hen hch HI hdr hget ho hk
   by_cases h1 : kd = 1
   ·subst h1
    have hrn : runO l (e0 c) xs = (s ++ En.wr l d ob) ++ runO l (wrote l d ob) (xs.drop (k + 1)) := by
     rw [HRUN.out]
     show s ++ (if (1 : Int) = 1 then _ else _) = _
     rw [if_pos rfl, ByteArray.append_assoc]
    have hpre := HOK1.out.1 rfl
    have HCALL := Lib.hid (fun W hE hDW => write_any x db l d ob W hE hDW HOK.out HCF2.out HCL.out hpre.1 hpre.2.1 hpre.2.2.1)
    have HOK2 := Lib.hid (show okO l (wrote l d ob) (xs.drop (k + 1)) from hpre.2.2.2)
    have HDC2 := Lib.hid (show (wrote l d ob).c = c ∧ (wrote l d ob).closed = false from ⟨HDCC.out, HCL.out⟩)
    obtain ⟨D2, hD2⟩ : ∃ D2, wrote l d ob = D2 := ⟨_, rfl⟩
    obtain ⟨P, hP⟩ : ∃ P, En.wr l d ob = P := ⟨_, rfl⟩
    rw [hD2, hP] at hrn
    rw [hD2] at HOK2 HDC2
    rw [hD2, hP] at HCALL
    have HRN := Lib.hid hrn
    have hzz : ¬ 9223372036854775807 < s.size + P.size := by
     have h1 := HZ.out
     rw [hrn, ByteArray.size_append, ByteArray.size_append] at h1
     omega
    clear hpre hrn hD2 hP HRUN HOK1
    go_wp2_with (fail)
    refine Calls.mono (HCALL.out _ (HEN.out.below (Fa.bel_alloc _ _)) (fun W hW => HDW.out W (((Chg.refl _ _).alloc _).trans hW))) ?_
    rintro e w7 ⟨rfl, h7, hc7⟩
    have hy := hc7.block wr.heap.size (by simp) (by have := blk_lt HEN.out; omega)
    rw [heap_alloc_self] at hy
    have hy0 : w7.cell? ⟨wr.heap.size, 0, none⟩ = some (.int .i64 1) := by simp [World.cell?, hy]
    have H7 := Lib.hid h7
    have HC7 := Lib.hid (HCW.out.trans (((Chg.refl _ _).alloc _).trans hc7))
    clear h7 hc7 hy
    go_wp2_with (fail)
    go_roundg (xs.length - (k + 1))
    case measure => have := HKJ.out; have := HKX.out; omega
    case rel => exact ⟨k + 1, D2, _, rfl, by rw [hkw], by have := HKX.out; omega, HOK2.out, HRN.out, HDC2.out.1, HDC2.out.2, H7.out, HC7.out⟩
   by_cases h2 : kd = 2
   ·subst h2
    have hrn : runO l (e0 c) xs = (s ++ fl l d) ++ runO l (flushed d) (xs.drop (k + 1)) := by
     rw [HRUN.out]
     show s ++ (if (2 : Int) = 1 then _ else _) = _
     rw [if_neg (by decide), if_pos rfl, ByteArray.append_assoc]
    have hpre := HOK1.out.2.1 rfl
    have HCALL := Lib.hid (fun W hE hDW => flush_any x db l d W hE hDW HOK.out HCF2.out HCL.out hpre.1)
    have HOK2 := Lib.hid (show okO l (flushed d) (xs.drop (k + 1)) from hpre.2)
    have HDC2 := Lib.hid (show (flushed d).c = c ∧ (flushed d).closed = false from ⟨HDCC.out, HCL.out⟩)
    obtain ⟨D2, hD2⟩ : ∃ D2, flushed d = D2 := ⟨_, rfl⟩
    obtain ⟨P, hP⟩ : ∃ P, fl l d = P := ⟨_, rfl⟩
    rw [hD2, hP] at hrn
    rw [hD2] at HOK2 HDC2
    rw [hD2, hP] at HCALL
    have HRN := Lib.hid hrn
    have hzz : ¬ 9223372036854775807 < s.size + P.size := by
     have h1 := HZ.out
     rw [hrn, ByteArray.size_append, ByteArray.size_append] at h1
     omega
    clear hpre hrn hD2 hP HRUN HOK1
    go_wp2_with (fail)
    refine Calls.mono (HCALL.out _ (HEN.out.below (Fa.bel_alloc _ _)) (fun W hW => HDW.out W (((Chg.refl _ _).alloc _).trans hW))) ?_
    rintro e w7 ⟨rfl, h7, hc7⟩
    have hy := hc7.block wr.heap.size (by simp) (by have := blk_lt HEN.out; omega)
    rw [heap_alloc_self] at hy
    have hy0 : w7.cell? ⟨wr.heap.size, 0, none⟩ = some (.int .i64 2) := by simp [World.cell?, hy]
    have H7 := Lib.hid h7
    have HC7 := Lib.hid (HCW.out.trans (((Chg.refl _ _).alloc _).trans hc7))
    clear h7 hc7 hy
    go_wp2_with (fail)
    go_roundg (xs.length - (k + 1))
    case measure => have := HKJ.out; have := HKX.out; omega
    case rel => exact ⟨k + 1, D2, _, rfl, by rw [hkw], by have := HKX.out; omega, HOK2.out, HRN.out, HDC2.out.1, HDC2.out.2, H7.out, HC7.out⟩
   by_cases h3 : kd = 3
   ·subst h3
    have hrn : runO l (e0 c) xs = s ++ cl l d := by
     rw [HRUN.out]
     show s ++ (if (3 : Int) = 1 then _ else if (3 : Int) = 2 then _ else if (3 : Int) = 3 then _ else _) = _
     rw [if_neg (by decide), if_neg (by decide), if_pos rfl]
    have hpre := HOK1.out.2.2.1 rfl
    have HCALL := Lib.hid (fun W hE hDW => close_any x db l d W hE hDW HOK.out HCF2.out HCL.out hpre)
    obtain ⟨P, hP⟩ : ∃ P, cl l d = P := ⟨_, rfl⟩
    rw [hP] at hrn HCALL
    have HRN := Lib.hid hrn
    have hzz : ¬ 9223372036854775807 < s.size + P.size := by
     have h1 := HZ.out
     rw [hrn, ByteArray.size_append] at h1
     omega
    clear hpre hrn hP HRUN HOK1 h1 h2
    go_wp2_with (fail)
    refine Calls.mono (HCALL.out _ (HEN.out.below (Fa.bel_alloc _ _)) (fun W hW => HDW.out W (((Chg.refl _ _).alloc _).trans hW))) ?_
    rintro e w7 ⟨rfl, h7, hc7⟩
    have hy := hc7.block wr.heap.size (by simp) (by have := blk_lt HEN.out; omega)
    rw [heap_alloc_self] at hy
    have hy0 : w7.cell? ⟨wr.heap.size, 0, none⟩ = some (.int .i64 3) := by simp [World.cell?, hy]
    have HC7 := Lib.hid (HCW.out.trans (((Chg.refl _ _).alloc _).trans hc7))
    clear h7 hc7 hy
    go_wp2_with (fail)
    go_ret2
    rw [HRN.out]
    exact ⟨rfl, bel_chg HB3.out HC7.out (fun k hk => by rw [hk]; exact HX.out.1)⟩
   ·have e1 : (kd == 1) = false := beq_eq_false_iff_ne.2 h1
    have e2 : (kd == 2) = false := beq_eq_false_iff_ne.2 h2
    have e3 : (kd == 3) = false := beq_eq_false_iff_ne.2 h3
    have HOK2 := Lib.hid (HOK1.out.2.2.2 ⟨h1, h2, h3⟩)
    have HRN := Lib.hid (show runO l (e0 c) xs = s ++ runO l d (xs.drop (k + 1)) by
     rw [HRUN.out]
     show s ++ (if kd = 1 then _ else if kd = 2 then _ else if kd = 3 then _ else _) = _
     rw [if_neg h1, if_neg h2, if_neg h3])
    have hzz : ¬ 9223372036854775807 < s.size := by
     have h1 := HZ.out
     rw [HRN.out, ByteArray.size_append] at h1
     omega
    clear HRUN HOK1 h1 h2 h3
    go_wp2_with (fail)
    go_roundg (xs.length - (k + 1))
    case measure => have := HKJ.out; have := HKX.out; omega
    case rel => exact ⟨k + 1, d, s, by rw [show s ++ (⟨#[]⟩ : ByteArray) = s from ByteArray.append_empty], by rw [hkw], by have := HKX.out; omega, HOK2.out, HRN.out, HDCC.out, HCL.out, HEN.out.below (Fa.bel_alloc _ _), HCW.out.trans ((Chg.refl _ _).alloc _)⟩
  ·have hk2 : k = xs.length := by omega
   have hlt : ¬ ((k : Int) < (xs.length : Int)) := by omega
   have HRN := Lib.hid (show runO l (e0 c) xs = s by
    rw [hrun, hk2, List.drop_length]
    exact ByteArray.append_empty)
   clear hkj hok1 hrun hdc hcl hen hch HI hk hk2
   go_wp2_with (fail)
   go_ret2
   rw [HRN.out]
   exact ⟨rfl, bel_chg HB3.out HCW.out (fun k hk => by rw [hk]; exact HX.out.1)⟩
end Go.Proofs.YtfbbcfhdjhiejaaGreat.En

/- Chapter 15: of more phrases, of a whole block, of a tail: in plain Lean. -/
namespace Go.Proofs.YtfbbcfhdjhiejaaGreat.Best
set_option linter.unusedVariables false
set_option linter.unusedSimpArgs false
open Go.RowKit Go.Proofs.YtfbbcfhdjhiejaaGreatW.PrintWords Go.Proofs.YtfbbcfhdjhiejaaGreatW.PrintMore Go.Proofs.YtfbbcfhdjhiejaaGreat.L Go.Proofs.YtfbbcfhdjhiejaaGreat.Texts Go.Proofs.YtfbbcfhdjhiejaaGreat.Dict Go.Proofs.YtfbbcfhdjhiejaaGreat.Ints Go.Proofs.YtfbbcfhdjhiejaaGreat.Greedy Go.Proofs.YtfbbcfhdjhiejaaGreat.Cost Go.Proofs.YtfbbcfhdjhiejaaGreat.Fl
theorem ext_all (b : ByteArray) (m : Nat) (h : b.size ≤ m) : b.extract 0 m = b := by
 apply ByteArray.ext
 have h : b.data.size ≤ m := h
 rw [ByteArray.data_extract]
 exact Array.extract_eq_self_of_le h
/-- In one window. -/
theorem best_one {l : List ByteArray} {win : Nat} {b : ByteArray} (hw : 1 ≤ win) (h : b.size ≤ win) : best l win b = toks l b 0 := by
 by_cases h0 : b.size = 0
 ·rw [best_end _ _ _ h0, toks_end _ _ _ (by omega)]
 ·rw [best_step l win hw b h0, show min win b.size = b.size by omega, ext_all b b.size (Nat.le_refl _), best_end _ _ _ (by rw [ByteArray.size_extract]; omega), List.append_nil]
/-- As many tokens as the cost says. -/
theorem sum_len {st : Nat → List Stp} {oc : Int → Cst} {n : Nat} (h : Fine st oc n) : ∀ (ss : List Stp) (q : Nat), q ≤ n → Path st q ss → (sum oc ss).1 = ss.length
 | [], q, _, hp => rfl
 | s :: ss, q, hq, hp => by
   have h1 := h.one q hq s hp.1
   have h2 := h.pos q hq s hp.1
   have h3 := sum_len h ss (q - s.2) (by omega) hp.2
   show (oc s.1).1 + (sum oc ss).1 = _
   rw [h1, h3, List.length_cons]
   omega
/-- The path of the tokens of a place on. -/
def stps (l : List ByteArray) (s : ByteArray) (a : Nat) : List Stp := parse (stq l s) oc (s.size - a) (s.size - a)
theorem toks_eq (l : List ByteArray) (s : ByteArray) (a : Nat) : toks l s a = (stps l s a).map Prod.fst := rfl
theorem stps_path {l : List ByteArray} (hok : okTexts l) {s : ByteArray} (hs : s.size ≤ 1024) (a : Nat) : Path (stq l s) (s.size - a) (stps l s a) ∧ sum oc (stps l s a) = VV l s a :=
 parse_path (fine hok hs) _ _ (Nat.le_refl _) (by omega)
theorem toks_len {l : List ByteArray} (hok : okTexts l) {s : ByteArray} (hs : s.size ≤ 1024) (a : Nat) : (toks l s a).length = (VV l s a).1 := by
 rw [toks_eq, List.length_map, ← (stps_path hok hs a).2]
 exact (sum_len (fine hok hs) _ _ (by omega) (stps_path hok hs a).1).symm
/-- No path is shorter. -/
theorem no_shorter {l : List ByteArray} (hok : okTexts l) {s : ByteArray} (hs : s.size ≤ 1024) (a : Nat) (ss : List Stp) (h : Path (stq l s) (s.size - a) ss) : (toks l s a).length ≤ ss.length ∧ ¬ lt (sum oc ss) (VV l s a) := by
 have h1 := least (fine hok hs) ss _ (by omega) h
 have h2 := sum_len (fine hok hs) ss _ (by omega) h
 refine ⟨?_, h1⟩
 rw [toks_len hok hs, ← h2]
 have h3 : VV l s a = V (stq l s) oc (s.size - a) := rfl
 rw [h3]
 unfold lt at h1
 omega
/-! ### of more phrases -/
/-! ### of a tail -/
/-! ### of a whole text -/
end Go.Proofs.YtfbbcfhdjhiejaaGreat.Best

/- What tokens mean, as the document says it. -/
namespace Go.Proofs.YtfbbcfhdjhiejaaGreat.Say
set_option linter.unusedVariables false
set_option linter.unusedSimpArgs false
open Go.RowKit Go.Proofs.YtfbbcfhdjhiejaaGreatW.PrintWords Go.Proofs.YtfbbcfhdjhiejaaGreatW.PrintMore Go.Proofs.YtfbbcfhdjhiejaaGreat.L Go.Proofs.YtfbbcfhdjhiejaaGreat.Texts Go.Proofs.YtfbbcfhdjhiejaaGreat.Dict Go.Proofs.YtfbbcfhdjhiejaaGreat.Ints
def means (l : List ByteArray) (t : Int) : ByteArray := if t < 0 then no else if t < 256 then ⟨#[UInt8.ofNat t.toNat]⟩ else atL l (t - 256)
def isTok (l : List ByteArray) (t : Int) : Bool := decide (0 ≤ t ∧ t < 256 + (l.length : Int))
/-- What tokens mean, behind bytes that are there: the code beside. -/
def meanGo (l : List ByteArray) (most : Int) : ByteArray → List Int → ByteArray × Int
 | acc, [] => (acc, 0)
 | acc, t :: ts => if (means l t).size = 0 then (no, 9) else if max most 0 - (acc.size : Int) < ((means l t).size : Int) then (no, 10) else meanGo l most (acc ++ means l t) ts
theorem meanGo_cons (l : List ByteArray) (most : Int) (acc : ByteArray) (t : Int) (ts : List Int) : meanGo l most acc (t :: ts) = if (means l t).size = 0 then (no, 9) else if max most 0 - (acc.size : Int) < ((means l t).size : Int) then (no, 10) else meanGo l most (acc ++ means l t) ts := rfl
theorem max_pos (most : Int) : (if most < 0 then (0 : Int) else most) = max most 0 := by omega
theorem mean_le (l : List ByteArray) (h : ∀ s ∈ l, s.size ≤ 40) (t : Int) : (means l t).size ≤ 40 := by
 unfold means
 split
 ·decide
 ·split
  ·show 1 ≤ 40
   decide
  ·unfold atL
   split
   ·rename_i h2
    unfold inL at h2
    rw [decide_eq_true_eq] at h2
    exact h _ (getD_mem _ _ (by omega))
   ·decide
theorem okTexts_40 {l : List ByteArray} (h : okTexts l) : ∀ s ∈ l, s.size ≤ 40 := by
 intro s hs
 obtain ⟨k, hk, rfl⟩ := List.getElem_of_mem hs
 have := (h.2 k hk).2.1
 rw [List.getD_eq_getElem?_getD, List.getElem?_eq_getElem hk] at this
 exact this
theorem no_append (s : ByteArray) : no ++ s = s := by
 apply ByteArray.ext
 rw [ByteArray.data_append]
 show #[] ++ s.data = s.data
 simp
theorem means_byte (l : List ByteArray) (c : Nat) (h : c < 256) : means l c = ⟨#[UInt8.ofNat c]⟩ := by
 unfold means
 rw [if_neg (by omega), if_pos (by omega), Int.toNat_natCast]
theorem means_phrase (l : List ByteArray) (k : Nat) (h : k < l.length) : means l (256 + (k : Int)) = l.getD k no := by
 have hi : inL l (k : Int) = true := by unfold inL; exact decide_eq_true ⟨by omega, by omega⟩
 unfold means
 rw [if_neg (by omega), if_neg (by omega), show (256 : Int) + k - 256 = k by omega]
 unfold atL
 rw [if_pos hi, Int.toNat_natCast]
theorem means_past (l : List ByteArray) (t : Int) (h : t < 0 ∨ 256 + (l.length : Int) ≤ t) : means l t = no := by
 unfold means
 by_cases h0 : t < 0
 ·rw [if_pos h0]
 ·have hi : ¬ inL l (t - 256) = true := by unfold inL; rw [decide_eq_true_eq]; omega
  rw [if_neg h0, if_neg (by omega)]
  unfold atL
  rw [if_neg hi]
theorem append_assoc (a b c : ByteArray) : a ++ b ++ c = a ++ (b ++ c) := by
 apply ByteArray.ext
 simp [ByteArray.data_append]
/-- All that tokens mean, if all are tokens. -/
def allMean (l : List ByteArray) : List Int → ByteArray
 | [] => no
 | t :: ts => means l t ++ allMean l ts
def allTok (l : List ByteArray) (ts : List Int) : Prop := ∀ t ∈ ts, (means l t).size ≠ 0
theorem allMean_append (l : List ByteArray) : ∀ a b, allMean l (a ++ b) = allMean l a ++ allMean l b
 | [], b => (no_append _).symm
 | t :: a, b => by
   rw [List.cons_append]
   show means l t ++ allMean l (a ++ b) = means l t ++ allMean l a ++ allMean l b
   rw [allMean_append l a b, append_assoc]
/-- Where the bound is no less, all is meant; where it is less (and all are tokens) it is too long. -/
theorem go_fits (l : List ByteArray) (most : Int) : ∀ (ts : List Int) (acc : ByteArray), allTok l ts → (acc.size : Int) + (allMean l ts).size ≤ max most 0 → meanGo l most acc ts = (acc ++ allMean l ts, 0)
 | [], acc, _, _ => by
   show (acc, (0 : Int)) = (acc ++ no, 0)
   have : acc ++ no = acc := by
    apply ByteArray.ext
    rw [ByteArray.data_append]
    show acc.data ++ #[] = acc.data
    simp
   rw [this]
 | t :: ts, acc, h, hf => by
   have hs : (allMean l (t :: ts)).size = (means l t).size + (allMean l ts).size := ByteArray.size_append
   rw [hs] at hf
   rw [meanGo_cons, if_neg (h t (by simp)), if_neg (by omega)]
   rw [go_fits l most ts (acc ++ means l t) (fun x hx => h x (by simp [hx])) (by rw [ByteArray.size_append]; omega), append_assoc]
   rfl
theorem allTok_append (l : List ByteArray) (a b : List Int) : allTok l (a ++ b) ↔ allTok l a ∧ allTok l b := by
 constructor
 ·intro h
  exact ⟨fun t ht => h t (List.mem_append_left _ ht), fun t ht => h t (List.mem_append_right _ ht)⟩
 ·rintro ⟨h1, h2⟩ t ht
  rcases List.mem_append.1 ht with ht | ht
  ·exact h1 t ht
  ·exact h2 t ht
theorem isTok_size {l : List ByteArray} (h : okTexts l) (t : Int) : isTok l t = decide ((means l t).size ≠ 0) := by
 unfold isTok
 by_cases h0 : 0 ≤ t ∧ t < 256 + (l.length : Int)
 ·rw [decide_eq_true h0]
  refine (decide_eq_true ?_).symm
  obtain ⟨t0, t1⟩ := h0
  by_cases h1 : t < 256
  ·obtain ⟨k, rfl⟩ := Int.eq_ofNat_of_zero_le t0
   rw [means_byte l k (by omega)]
   show (1 : Nat) ≠ 0
   decide
  ·obtain ⟨k, hk⟩ := Int.eq_ofNat_of_zero_le (by omega : 0 ≤ t - 256)
   obtain rfl : t = 256 + (k : Int) := by omega
   rw [means_phrase l k (by omega)]
   exact (h.2 k (by omega)).1
 ·rw [decide_eq_false h0, means_past l t (by omega)]
  rfl
set_option maxRecDepth 100000 in
theorem ref_means (A : Option Addr) (c : Nat) (l : List ByteArray) (t : Int) (w : World) (h : KS.C w A l.length l) (h100 : l.length ≤ 100) (ht : -(2 ^ 63) ≤ t ∧ t < 2 ^ 63) :
  Calls Tryz.prog 87 #[.slice A l.length c, .int .i64 t] w fun e w' => e = .returned (.tuple #[.string (means l t), .bool (isTok l t)]) ∧ Below w.heap.size w w' := by
 have H := Lib.hid h
 clear h
 have s1 : wrap64 (256 + (l.length : Int)) = 256 + (l.length : Int) := by unfold wrap64; omega
 by_cases h0 : t < 0
 ·have hm := Lib.hid (means_past l t (.inl h0))
  have hi := Lib.hid (show isTok l t = false from decide_eq_false (by omega))
  go_enter Tryz.func87, Tryz.ntmps87
  go_wp2_with (fail)
  go_ret2
  rw [hm.out, hi.out]
  exact ⟨rfl, Below.refl _ _⟩
 ·by_cases h1 : 256 + (l.length : Int) ≤ t
  ·have hm := Lib.hid (means_past l t (.inr h1))
   have hi := Lib.hid (show isTok l t = false from decide_eq_false (by omega))
   have h00 : 0 ≤ t := by omega
   clear h0
   go_enter Tryz.func87, Tryz.ntmps87
   go_wp2_with (fail)
   go_ret2
   rw [hm.out, hi.out]
   exact ⟨rfl, Below.refl _ _⟩
  ·have hi := Lib.hid (show isTok l t = true from decide_eq_true ⟨by omega, by omega⟩)
   obtain ⟨k, rfl⟩ := Int.eq_ofNat_of_zero_le (by omega : 0 ≤ t)
   have h2 : (k : Int) < 256 + (l.length : Int) := by omega
   have h00 : (0 : Int) ≤ (k : Int) := by omega
   clear h0 h1
   by_cases h256 : k < 256
   ·have hm := Lib.hid (means_byte l k h256)
    have h256i : (k : Int) < 256 := by omega
    have hw : IntKind.u8.wrap (k : Int) = k := by simp [IntKind.wrap, IntKind.bits, IntKind.signed]; omega
    have hcv : (convert 49 9 (.slice (some ⟨w.heap.size, 0, none⟩) 1 1)).run Tryz.prog (w.alloc (.cells #[.int .u8 k] 5)) = .ok (.string ⟨#[UInt8.ofNat k]⟩) (w.alloc (.cells #[.int .u8 k] 5)) :=
     own_string (P := Tryz.prog) (base := w.heap.size) (n := 1) (e' := 5) (xs := [(k : Int)]) Tryz.underlying49 Tryz.underlying5 Tryz.underlying9 ⟨rfl, .inr ⟨w.heap.size, 1, #[.int .u8 k], rfl, Nat.le_refl _, heap_alloc_new w _, Nat.le_refl _, by decide, rfl, rfl⟩⟩
    clear h256
    go_enter Tryz.func87, Tryz.ntmps87
    go_wp2_with (fail)
    go_ret2
    rw [hm.out, hi.out]
    exact ⟨rfl, (Below.refl _ w).alloc (Nat.le_refl _) _⟩
   ·obtain ⟨j, rfl⟩ : ∃ j, k = 256 + j := ⟨k - 256, by omega⟩
    have hm := Lib.hid (show means l ((256 + j : Nat) : Int) = l.getD j no by rw [show ((256 + j : Nat) : Int) = 256 + (j : Int) by omega]; exact means_phrase l j (by omega))
    obtain ⟨ad, rfl, x0⟩ := strs_at H.out j (by omega)
    obtain ⟨x, hx⟩ : ∃ x, l.getD j no = x := ⟨_, rfl⟩
    rw [hx] at x0 hm
    have e1 : ((256 + j : Nat) : Int) = 256 + (j : Int) := by omega
    have hi2 := hi.out
    rw [e1] at hi2
    have hm2 := hm.out
    rw [e1] at hm2
    rw [e1]
    have HI := Lib.hid hi2
    have HM := Lib.hid hm2
    have i1 : (j : Int) < (l.length : Int) := by omega
    have i2 : ((j : Int)).toNat = j := by omega
    have i0 : (0 : Int) ≤ (j : Int) := by omega
    have s2 : wrap64 (256 + (j : Int) - 256) = j := by unfold wrap64; omega
    have s3 : (256 : Int) + (j : Int) - 256 = j := by omega
    have g1 : (256 : Int) ≤ 256 + (j : Int) := by omega
    have g2 : (256 : Int) + (j : Int) < 256 + (l.length : Int) := by omega
    have g3 : (0 : Int) ≤ 256 + (j : Int) := by omega
    clear hx e1 hi hm hi2 hm2 h256 h2 h00
    go_enter Tryz.func87, Tryz.ntmps87
    go_wp2_with (fail)
    go_ret2
    rw [HI.out, HM.out]
    exact ⟨rfl, Below.refl _ _⟩
set_option maxRecDepth 100000 in
set_option maxHeartbeats 1000000 in
theorem ref_mean (A B : Option Addr) (c m c' : Nat) (l : List ByteArray) (most : Int) (ts : List Int) (w : World) (h : KS.C w A l.length l) (hok : okTexts l) (hl : KI.C w B m ts) (hwf : ∀ t ∈ ts, -(2 ^ 63) ≤ t ∧ t < 2 ^ 63) (hm : ts.length ≤ 1000000) (hmost : -(2 ^ 63) ≤ most ∧ most < 2 ^ 63) :
  Calls Tryz.prog 62 #[.slice A l.length c, .int .i64 most, .slice B m c'] w fun e w' => e = .returned (.tuple #[.string (meanGo l most no ts).1, .int .i64 (meanGo l most no ts).2]) ∧ Below w.heap.size w w' := by
 have H := Lib.hid h
 have HL := Lib.hid hl
 have HOK := Lib.hid hok
 have H100 := Lib.hid hok.1
 have H40 := Lib.hid (okTexts_40 hok)
 have HWF := Lib.hid hwf
 have HMM := Lib.hid hmost
 have hml := ki_len hl
 clear h hl hwf hmost hok
 subst hml
 go_enter Tryz.func62, Tryz.ntmps62
 go_wp2_with (fail)
 go_loopg [8, 9] ts.length (fun j v i wr => ∃ k : Nat, k + j = ts.length ∧ i = .int .i64 k ∧ ∃ acc : ByteArray, v = .string acc ∧ Hid (acc.size ≤ 40 * k ∧ meanGo l most no ts = meanGo l most acc (ts.drop k) ∧ Below w.heap.size w wr))
 case atStart => exact ⟨0, by omega, rfl, no, rfl, Nat.le_refl _, rfl, Below.refl _ _⟩
 case round =>
  obtain ⟨k, hk, rfl, acc, rfl, HI⟩ := hrel
  obtain ⟨hacc, hgo, hb⟩ := HI.out
  by_cases hlt : k < ts.length
  ·obtain ⟨ad, rfl, x0⟩ := ints_at (Kd.C_below HL.out hb) k hlt
   have hdr : ts.drop k = ts.getD k 0 :: ts.drop (k + 1) := by
    rw [List.drop_eq_getElem_cons hlt, List.getD_eq_getElem?_getD, List.getElem?_eq_getElem hlt]
    rfl
   have htm : ts.getD k 0 ∈ ts := by
    rw [List.getD_eq_getElem?_getD, List.getElem?_eq_getElem hlt]
    exact List.getElem_mem hlt
   obtain ⟨t, ht⟩ : ∃ t, ts.getD k 0 = t := ⟨_, rfl⟩
   rw [ht] at x0 hdr htm
   have hs40 := mean_le l H40.out t
   have hits := isTok_size HOK.out t
   rw [hdr, meanGo_cons] at hgo
   have i0 : (0 : Int) ≤ k := by omega
   have i1 : (k : Int) < (ts.length : Int) := by omega
   have i2 : ((k : Int)).toNat = k := by omega
   have HTW := Lib.hid (HWF.out t htm)
   have HGO := Lib.hid hgo
   have HB := Lib.hid hb
   have HACC := Lib.hid hacc
   have HIT := Lib.hid hits
   clear hgo hb HI hdr ht htm hits
   go_wp2_with (fail)
   refine (ref_means _ _ l t _ (Kd.C_below H.out HB.out) H100.out HTW.out).mono ?_
   rintro e w1 ⟨rfl, hb1⟩
   rw [HIT.out]
   obtain ⟨s, hs⟩ : ∃ s, means l t = s := ⟨_, rfl⟩
   have hgo := HGO.out
   rw [hs] at hgo hs40 ⊢
   have HB1 := Lib.hid (Ints.bel_trans HB.out HB.out.size hb1)
   by_cases h0 : s.size = 0
   ·rw [if_pos h0] at hgo
    rw [decide_eq_false (by simpa using h0)]
    have HG := Lib.hid hgo
    clear hgo hb1 hs h0 hs40 hacc
    go_wp2_with (fail)
    go_ret2
    rw [HG.out]
    exact ⟨rfl, HB1.out⟩
   ·rw [if_neg h0] at hgo
    rw [decide_eq_true h0]
    obtain ⟨M, hM⟩ : ∃ M, max most 0 = M := ⟨_, rfl⟩
    have hmx : (if most < 0 then (0 : Int) else most) = M := by rw [max_pos, hM]
    rw [hM] at hgo
    have HACC2 := Lib.hid (show (acc ++ s).size ≤ 40 * (k + 1) by rw [ByteArray.size_append]; omega)
    have hacc2 : (acc.size : Int) + (s.size : Int) ≤ 40000040 := by omega
    clear hb1 hs h0 hs40 hM
    by_cases h1 : M - (acc.size : Int) < (s.size : Int)
    ·rw [if_pos h1] at hgo
     have HG := Lib.hid hgo
     have h1i : M < (acc.size : Int) + (s.size : Int) := by omega
     clear hgo h1 hacc
     go_wp2_with (fail)
     go_ret2
     rw [HG.out]
     exact ⟨rfl, HB1.out⟩
    ·rw [if_neg h1] at hgo
     have HG := Lib.hid hgo
     have h1i : (acc.size : Int) + (s.size : Int) ≤ M := by omega
     clear hgo h1 hacc
     go_wp2_with (fail)
     go_roundg (ts.length - (k + 1))
     case measure => omega
     case rel => exact ⟨k + 1, by omega, by go_num, acc ++ s, rfl, HACC2.out, HG.out, HB1.out⟩
  ·obtain rfl : k = ts.length := by omega
   rw [List.drop_length] at hgo
   have HG := Lib.hid hgo
   have HB1 := Lib.hid hb
   clear hgo hb hacc HI
   go_wp2_with (fail)
   go_ret2
   rw [HG.out]
   exact ⟨rfl, HB1.out⟩
/-! ### Says -/
/-- Do tokens mean these bytes? -/
def says (l : List ByteArray) (ts : List Int) (b : ByteArray) : Bool := decide ((meanGo l (b.size : Int) no ts).2 = 0 ∧ (meanGo l (b.size : Int) no ts).1 = b)
theorem says_of {l : List ByteArray} {ts : List Int} {b : ByteArray} (h : allTok l ts) (hm : allMean l ts = b) : says l ts b = true := by
 have := go_fits l (b.size : Int) ts no h (by rw [hm]; show ((0 : Nat) : Int) + _ ≤ _; omega)
 unfold says
 rw [this, no_append, hm]
 exact decide_eq_true ⟨rfl, rfl⟩
set_option maxRecDepth 100000 in
theorem says_any (A B : Option Addr) (c m c' : Nat) (l : List ByteArray) (ts : List Int) (b : ByteArray) (w : World) (h : KS.C w A l.length l) (hok : okTexts l) (hl : KI.C w B m ts) (hwf : ∀ t ∈ ts, -(2 ^ 63) ≤ t ∧ t < 2 ^ 63) (hm : ts.length ≤ 1000000) (hb : b.size ≤ 1000000) :
  Calls Tryz.prog 27 #[.slice A l.length c, .slice B m c', .string b] w fun e w' => e = .returned (.bool (says l ts b)) ∧ Below w.heap.size w w' := by
 have H := Lib.hid h
 have HL := Lib.hid hl
 have HOK := Lib.hid hok
 have HWF := Lib.hid hwf
 obtain ⟨s, hs⟩ : ∃ s, (meanGo l (b.size : Int) no ts).1 = s := ⟨_, rfl⟩
 obtain ⟨x, hx⟩ : ∃ x, (meanGo l (b.size : Int) no ts).2 = x := ⟨_, rfl⟩
 have hsy : says l ts b = decide (x = 0 ∧ s = b) := by unfold says; rw [hs, hx]
 have HSY := Lib.hid hsy
 have HS := Lib.hid hs
 have HX := Lib.hid hx
 clear h hl hwf hok hs hx hsy
 go_enter Tryz.func27, Tryz.ntmps27
 go_wp2_with (fail)
 refine (ref_mean _ _ _ _ _ l (b.size : Int) ts _ H.out HOK.out HL.out HWF.out hm (by omega)).mono ?_
 rintro e w1 ⟨rfl, hb1⟩
 rw [HS.out, HX.out]
 have HB := Lib.hid hb1
 clear hb1
 by_cases h0 : x = 0
 ·subst h0
  by_cases h1 : s = b
  ·subst h1
   have e1 : (s.toList == s.toList) = true := by simp
   have HR := Lib.hid (show says l ts s = true by rw [HSY.out]; exact decide_eq_true ⟨rfl, rfl⟩)
   go_wp2_with (fail)
   go_ret
   rw [HR.out]
   exact ⟨rfl, HB.out⟩
  ·have e1 : (s.toList == b.toList) = false := (Lib.bytes_beq_false_iff _ _).2 h1
   have HR := Lib.hid (show says l ts b = false by rw [HSY.out]; exact decide_eq_false (fun h => h1 h.2))
   clear h1
   go_wp2_with (fail)
   go_ret
   rw [HR.out]
   exact ⟨rfl, HB.out⟩
 ·have e1 : (x == 0) = false := by simpa using h0
  have HR := Lib.hid (show says l ts b = false by rw [HSY.out]; exact decide_eq_false (fun h => h0 h.1))
  clear h0
  go_wp2_with (fail)
  go_ret
  rw [HR.out]
  exact ⟨rfl, HB.out⟩
end Go.Proofs.YtfbbcfhdjhiejaaGreat.Say

/- Chapter 15: paths and tokens that mean these bytes; windows: in plain Lean. -/
namespace Go.Proofs.YtfbbcfhdjhiejaaGreat.Best
set_option linter.unusedVariables false
set_option linter.unusedSimpArgs false
open Go.RowKit Go.Proofs.YtfbbcfhdjhiejaaGreatW.PrintWords Go.Proofs.YtfbbcfhdjhiejaaGreatW.PrintMore Go.Proofs.YtfbbcfhdjhiejaaGreat.L Go.Proofs.YtfbbcfhdjhiejaaGreat.Texts Go.Proofs.YtfbbcfhdjhiejaaGreat.Dict Go.Proofs.YtfbbcfhdjhiejaaGreat.Ints Go.Proofs.YtfbbcfhdjhiejaaGreat.Greedy Go.Proofs.YtfbbcfhdjhiejaaGreat.Cost Go.Proofs.YtfbbcfhdjhiejaaGreat.Fl Go.Proofs.YtfbbcfhdjhiejaaGreat.Say
def csum (ts : List Int) : Cst := (sumT ts, sumB ts)
theorem csum_cons (t : Int) (ts : List Int) : csum (t :: ts) = add (oc t) (csum ts) := by
 unfold csum add oc
 have h1 := sumT_append [t] ts
 have h2 := sumB_append [t] ts
 rw [List.singleton_append] at h1 h2
 rw [h1, h2, show sumT [t] = cT t by simp [sumT], show sumB [t] = 8 * vlen t by simp [sumB]]
theorem sum_map : ∀ ss : List Stp, sum oc ss = csum (ss.map Prod.fst)
 | [] => rfl
 | s :: ss => by
   rw [List.map_cons, csum_cons, ← sum_map ss]
   rfl
/-- Do tokens mean these bytes? -/
def Tiles (l : List ByteArray) (s : ByteArray) (ts : List Int) : Prop := allTok l ts ∧ allMean l ts = s
theorem join_ext (s : ByteArray) (a m n : Nat) (h1 : a ≤ m) (h2 : m ≤ n) : s.extract a m ++ s.extract m n = s.extract a n := by
 apply ByteArray.ext
 rw [ByteArray.data_append, ByteArray.data_extract, ByteArray.data_extract, ByteArray.data_extract, Array.extract_append_extract, Nat.min_eq_left h1, Nat.max_eq_right h2]
theorem ext_left (x y : ByteArray) : (x ++ y).extract 0 x.size = x := ByteArray.extract_append_eq_left rfl
theorem ext_right (x y : ByteArray) : (x ++ y).extract x.size (x ++ y).size = y := ByteArray.extract_append_eq_right rfl (by rw [ByteArray.size_append])
theorem byteAt_ext (s : ByteArray) (a m i : Nat) (h : a + i < m) (hm : m ≤ s.size) : byteAt (s.extract a m) i = byteAt s (a + i) := by
 unfold byteAt
 have hs : s.data.size = s.size := rfl
 rw [ByteArray.data_extract, List.getD_eq_getElem?_getD, List.getD_eq_getElem?_getD, Array.getElem?_toList, Array.getElem?_toList, Array.getElem?_extract, if_pos (by omega)]
/-- Of a step the token means what it takes. -/
theorem step_means {l : List ByteArray} (hok : okTexts l) {s : ByteArray} {a : Nat} (ha : a < s.size) {x : Stp} (hx : x ∈ steps l s a) : means l x.1 = s.extract a (a + x.2) ∧ (means l x.1).size = x.2 ∧ 1 ≤ x.2 ∧ a + x.2 ≤ s.size := by
 have hf := steps_fit hok ha hx
 have hm : means l x.1 = s.extract a (a + x.2) := by
  rcases List.mem_append.1 hx with h | h
  ·obtain ⟨j, h1, h2, rfl⟩ := (phr_mem l s a x _).1 h
   have h3 := (stands_iff l s a j (by omega)).1 h2
   show means l (256 + (j : Int)) = _
   rw [means_phrase l j h1]
   exact h3.2.symm
  ·rw [List.mem_singleton] at h
   subst h
   have hb := byteAt_lt s a
   obtain ⟨c, hc⟩ := Int.eq_ofNat_of_zero_le hb.1
   show means l (byteAt s a) = s.extract a (a + 1)
   have hp := piece_one s a ha
   unfold piece at hp
   rw [hp, hc, means_byte l c (by omega), Int.toNat_natCast]
 refine ⟨hm, ?_, hf.1, by omega⟩
 rw [hm, ByteArray.size_extract]
 omega
theorem path_tiles {l : List ByteArray} (hok : okTexts l) {s : ByteArray} : ∀ (ss : List Stp) (a : Nat), a ≤ s.size → Path (stq l s) (s.size - a) ss → Tiles l (s.extract a s.size) (ss.map Prod.fst)
 | [], a, ha, h => by
   have h : s.size - a = 0 := h
   refine ⟨fun t ht => by simp at ht, ?_⟩
   show no = _
   exact (empty_of (by rw [ByteArray.size_extract]; omega)).symm
 | x :: ss, a, ha, h => by
   have h1 := h.1
   unfold stq at h1
   by_cases h0 : s.size - a = 0
   ·rw [if_pos h0] at h1
    simp at h1
   ·rw [if_neg h0, show s.size - (s.size - a) = a by omega] at h1
    obtain ⟨g1, g2, g3, g4⟩ := step_means hok (by omega) h1
    have h2 := path_tiles hok ss (a + x.2) g4 (by rw [show s.size - (a + x.2) = s.size - a - x.2 by omega]; exact h.2)
    refine ⟨fun t ht => ?_, ?_⟩
    ·rw [List.map_cons] at ht
     rcases List.mem_cons.1 ht with rfl | ht
     ·omega
     ·exact h2.1 t ht
    ·show means l x.1 ++ allMean l (ss.map Prod.fst) = _
     rw [g1, h2.2, join_ext s a _ _ (by omega) g4]
theorem tiles_path {l : List ByteArray} (hok : okTexts l) {s : ByteArray} : ∀ (ts : List Int) (a : Nat), a ≤ s.size → Tiles l (s.extract a s.size) ts → ∃ ss : List Stp, ss.map Prod.fst = ts ∧ Path (stq l s) (s.size - a) ss
 | [], a, ha, h => by
   refine ⟨[], rfl, ?_⟩
   have := congrArg ByteArray.size h.2
   rw [ByteArray.size_extract] at this
   have h0 : (allMean l []).size = 0 := rfl
   show s.size - a = 0
   omega
 | t :: ts, a, ha, h => by
   obtain ⟨h1, h2⟩ := h
   have h2 : means l t ++ allMean l ts = s.extract a s.size := h2
   have hn := h1 t List.mem_cons_self
   obtain ⟨n, hnn⟩ : ∃ n, (means l t).size = n := ⟨_, rfl⟩
   have hsz := congrArg ByteArray.size h2
   rw [ByteArray.size_append, ByteArray.size_extract, hnn] at hsz
   rw [hnn] at hn
   have hl : means l t = s.extract a (a + n) := by
    have := ext_left (means l t) (allMean l ts)
    rw [h2, ByteArray.extract_extract, hnn, show min (a + n) s.size = a + n by omega, Nat.add_zero] at this
    exact this.symm
   have hr : allMean l ts = s.extract (a + n) s.size := by
    have := ext_right (means l t) (allMean l ts)
    rw [h2, ByteArray.extract_extract, ByteArray.size_extract, hnn, show min (a + (min s.size s.size - a)) s.size = s.size by omega] at this
    exact this.symm
   obtain ⟨ss, g1, g2⟩ := tiles_path hok ts (a + n) (by omega) ⟨fun x hx => h1 x (List.mem_cons_of_mem _ hx), hr⟩
   refine ⟨(t, n) :: ss, by rw [List.map_cons, g1], ?_, by rw [show s.size - a - ((t, n) : Stp).2 = s.size - (a + n) by simp only; omega]; exact g2⟩
   unfold stq
   rw [if_neg (by omega), show s.size - (s.size - a) = a by omega]
   unfold steps
   rw [List.mem_append]
   by_cases h0 : t < 0 ∨ 256 + (l.length : Int) ≤ t
   ·exfalso
    rw [means_past l t h0] at hnn
    have : no.size = 0 := rfl
    omega
   ·by_cases h256 : t < 256
    ·right
     obtain ⟨c, rfl⟩ := Int.eq_ofNat_of_zero_le (by omega : 0 ≤ t)
     have hc : c < 256 := by omega
     have hm := means_byte l c hc
     rw [hm] at hnn hl
     have hn1 : n = 1 := hnn.symm
     subst hn1
     have hb : byteAt (s.extract a (a + 1)) 0 = byteAt s a := byteAt_ext s a (a + 1) 0 (by omega) (by omega)
     rw [← hl] at hb
     have hb2 : byteAt (⟨#[UInt8.ofNat c]⟩ : ByteArray) 0 = (c : Int) := by
      show (((UInt8.ofNat c).toNat : Nat) : Int) = c
      rw [UInt8.toNat_ofNat']
      omega
     rw [List.mem_singleton, ← hb, hb2]
    ·left
     obtain ⟨k, hk⟩ := Int.eq_ofNat_of_zero_le (by omega : 0 ≤ t - 256)
     obtain rfl : t = 256 + (k : Int) := by omega
     have hkl : k < l.length := by omega
     have hm := means_phrase l k hkl
     rw [hm] at hnn hl
     refine (phr_mem l s a _ _).2 ⟨k, hkl, (stands_iff l s a k (by omega)).2 ⟨by omega, ?_⟩, by rw [hnn]⟩
     unfold piece
     rw [hnn]
     exact hl.symm
/-- The tokens of a piece mean it; they cost what is said; none that mean it cost less, none are fewer. -/
theorem toks_tiles {l : List ByteArray} (hok : okTexts l) {s : ByteArray} (hs : s.size ≤ 1024) : Tiles l s (toks l s 0) ∧ csum (toks l s 0) = VV l s 0 := by
 have h := stps_path hok hs 0
 refine ⟨?_, ?_⟩
 ·have := path_tiles hok (stps l s 0) 0 (Nat.zero_le _) h.1
  rwa [ext_all s s.size (Nat.le_refl _)] at this
 ·rw [toks_eq, ← sum_map, h.2]
theorem toks_least {l : List ByteArray} (hok : okTexts l) {s : ByteArray} (hs : s.size ≤ 1024) {ts : List Int} (h : Tiles l s ts) : (toks l s 0).length ≤ ts.length ∧ ¬ lt (csum ts) (csum (toks l s 0)) := by
 obtain ⟨ss, h1, h2⟩ := tiles_path hok ts 0 (Nat.zero_le _) (by rwa [ext_all s s.size (Nat.le_refl _)])
 have h3 := no_shorter hok hs 0 ss h2
 rw [sum_map, h1] at h3
 rw [(toks_tiles hok hs).2]
 refine ⟨?_, h3.2⟩
 rw [← h1, List.length_map]
 exact h3.1
theorem tiles_append {l : List ByteArray} {x y : ByteArray} {a b : List Int} (h1 : Tiles l x a) (h2 : Tiles l y b) : Tiles l (x ++ y) (a ++ b) :=
 ⟨(allTok_append l a b).2 ⟨h1.1, h2.1⟩, by rw [allMean_append, h1.2, h2.2]⟩
theorem best_tiles {l : List ByteArray} (hok : okTexts l) {win : Nat} (hw : 1 ≤ win) : ∀ (n : Nat) (c : ByteArray), c.size ≤ n → c.size ≤ 1024 → Tiles l c (best l win c)
 | 0, c, h, _ => by
   rw [best_end _ _ _ (by omega), empty_of (s := c) (by omega)]
   exact ⟨fun t ht => by simp at ht, rfl⟩
 | n + 1, c, h, h1 => by
   by_cases h0 : c.size = 0
   ·rw [best_end _ _ _ h0, empty_of h0]
    exact ⟨fun t ht => by simp at ht, rfl⟩
   ·have hz := ext_size c (min win c.size) (by omega)
    have h2 := (toks_tiles hok (s := c.extract 0 (min win c.size)) (by omega)).1
    have h3 := best_tiles hok hw n (c.extract (min win c.size) c.size) (by omega) (by omega)
    rw [best_step l win hw c h0]
    have := tiles_append h2 h3
    rwa [join_ext c 0 _ _ (Nat.zero_le _) (by omega), ext_all c c.size (Nat.le_refl _)] at this
/-! ### windows -/
/-- Of tokens: how many, how great. -/
theorem tiles_few {l : List ByteArray} (h100 : l.length ≤ 100) {s : ByteArray} : ∀ (ts : List Int), Tiles l s ts → ts.length ≤ s.size ∧ ∀ t ∈ ts, -(2 ^ 63) ≤ t ∧ t < 2 ^ 63 := by
 intro ts
 induction ts generalizing s with
 | nil => exact fun _ => ⟨Nat.zero_le _, fun t ht => by simp at ht⟩
 | cons x ts ih =>
   rintro ⟨h1, h2⟩
   have hx := h1 x List.mem_cons_self
   have h3 := ih (s := allMean l ts) ⟨fun t ht => h1 t (List.mem_cons_of_mem _ ht), rfl⟩
   have h4 : (means l x ++ allMean l ts).size = s.size := by rw [← h2]; rfl
   rw [ByteArray.size_append] at h4
   refine ⟨by rw [List.length_cons]; omega, fun t ht => ?_⟩
   rcases List.mem_cons.1 ht with rfl | ht
   ·by_cases h0 : t < 0 ∨ 256 + (l.length : Int) ≤ t
    ·rw [means_past l t h0] at hx
     exact absurd rfl hx
    ·omega
   ·exact h3.2 t ht
end Go.Proofs.YtfbbcfhdjhiejaaGreat.Best

/- Chapter 15: what is behind a place costs no more than one token and what is behind that; and just so much for one of them: in plain Lean. -/
namespace Go.Proofs.YtfbbcfhdjhiejaaGreat.Best
set_option linter.unusedVariables false
set_option linter.unusedSimpArgs false
open Go.RowKit Go.Proofs.YtfbbcfhdjhiejaaGreatW.PrintWords Go.Proofs.YtfbbcfhdjhiejaaGreatW.PrintMore Go.Proofs.YtfbbcfhdjhiejaaGreat.L Go.Proofs.YtfbbcfhdjhiejaaGreat.Texts Go.Proofs.YtfbbcfhdjhiejaaGreat.Dict Go.Proofs.YtfbbcfhdjhiejaaGreat.Ints Go.Proofs.YtfbbcfhdjhiejaaGreat.Greedy Go.Proofs.YtfbbcfhdjhiejaaGreat.Cost Go.Proofs.YtfbbcfhdjhiejaaGreat.Fl Go.Proofs.YtfbbcfhdjhiejaaGreat.Say
theorem stands_mem (l : List ByteArray) (b : ByteArray) (a k : Nat) (hk : k < (stands_ l b a).length) : ∃ m : Nat, (stands_ l b a).getD k 0 = m ∧ 1 ≤ m ∧ m ≤ 40 ∧ m ≤ b.size - a ∧ has (piece b a m) l = true := by
 have h : (stands_ l b a).getD k 0 ∈ stands_ l b a := by rw [List.getD_eq_getElem?_getD, List.getElem?_eq_getElem hk]; exact List.getElem_mem hk
 obtain ⟨m, h1, h2, h3, h4⟩ := (standsDown_mem l b a _ _).1 h
 exact ⟨m, h1, h2, by omega, by omega, h4⟩
theorem pick_step {l : List ByteArray} {b : ByteArray} {a m : Nat} (h1 : 1 ≤ m) (h2 : a + m ≤ b.size) (h3 : has (piece b a m) l = true) : (tokenOf l b a m, m) ∈ steps l b a := by
 have hi : idx (piece b a m) l < l.length := (idx_mem _ l).2 ((has_iff _ l).1 h3)
 have hg := idx_get _ l hi
 have hz := piece_size b a m h2
 unfold steps
 refine List.mem_append_left _ ((phr_mem l b a _ _).2 ⟨idx (piece b a m) l, hi, (stands_iff l b a _ (by omega)).2 ?_, ?_⟩)
 ·rw [hg, hz]
  exact ⟨by omega, rfl⟩
 ·rw [hg, hz]
  unfold tokenOf
  rw [if_pos h3]
theorem step_pick {l : List ByteArray} (hok : okTexts l) {b : ByteArray} {a : Nat} (ha : a < b.size) {s : Stp} (hs : s ∈ steps l b a) : s = (byteAt b a, 1) ∨ ∃ m : Nat, s = (tokenOf l b a m, m) ∧ ((m : Nat) : Int) ∈ stands_ l b a := by
 rcases List.mem_append.1 hs with h | h
 ·right
  obtain ⟨j, h1, h2, rfl⟩ := (phr_mem l b a s _).1 h
  have h3 := (stands_iff l b a j (by omega)).1 h2
  obtain ⟨k1, k2, k3, k4⟩ := hok.2 j h1
  have h5 : has (piece b a (l.getD j no).size) l = true := by
   rw [h3.2]
   exact (has_iff _ l).2 (getD_mem l j h1)
  refine ⟨(l.getD j no).size, ?_, (standsDown_mem l b a _ _).2 ⟨_, rfl, by omega, by omega, h5⟩⟩
  unfold tokenOf
  rw [if_pos h5, h3.2]
  have h6 := idx_self l j h1
  rw [show idx (l.getD j no) l = j by omega]
 ·rw [List.mem_singleton] at h
  exact .inl h
end Go.Proofs.YtfbbcfhdjhiejaaGreat.Best


namespace Go.Proofs.YtfbbcfhdjhiejaaGreatW.PrintLast
def up (b : Nat → Bool) (i : Nat) : Nat → Bool := fun j => if j = i then true else b j
section
variable {P : Program} {ops : Array Oper} {Q : Exit → Act → World → Prop} {md : Region.Mode} {T : Bool × List (List Nat × List Nat)} {B : List Nat} {O : List Nat} {b : Nat → Bool} {i j n : Nat}
end
end Go.Proofs.YtfbbcfhdjhiejaaGreatW.PrintLast
