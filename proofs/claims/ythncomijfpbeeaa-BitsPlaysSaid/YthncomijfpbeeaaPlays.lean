/- Chapter 2: what is put and read in every order: the state that is kept, and what each call makes of it. -/
import Derived.Test.YthncomijfpbeeaaBitsL6
import Derived.Test.YthncomijfpbeeaaBitsAlive
import Derived.Test.YthncomijfpbeeaaRefPack
import Derived.Test.YthncomijfpbeeaaOps
namespace Go.Proofs.Ythncomijfpbeeaa.Bits
set_option linter.unusedVariables false
set_option linter.unusedSimpArgs false
open Go.RowKit Go.Proofs.YthncomijfpbeeaaW.PrintWords Go.Proofs.YthncomijfpbeeaaW.PrintMore Go.Proofs.Ythncomijfpbeeaa.L Go.Proofs.Ythncomijfpbeeaa.BP Go.Proofs.Ythncomijfpbeeaa.Ops Go.Proofs.Ythncomijfpbeeaa.Ints

theorem own_move2 {α : Type} {enc : α → Value} {h1 : ∀ x : α, (enc x).oneCell' = true} {e : Nat} {w w1 : World} {base : Nat} {ok : Nat → Prop} {v : Value} {xs : List α} (h : (Kd.scalar enc h1).R e w base ok v xs) (hm : ∀ k, v.ownBlock = some k → w1.heap[k]? = w.heap[k]?) : (Kd.scalar enc h1).R e w1 base ok v xs :=
  Kd.R_of_own (own_move (Kd.own_of_R h) hm) h.1
theorem own_lt2 {α : Type} {enc : α → Value} {h1 : ∀ x : α, (enc x).oneCell' = true} {e : Nat} {w : World} {base : Nat} {ok : Nat → Prop} {v : Value} {xs : List α} (h : (Kd.scalar enc h1).R e w base ok v xs) (g : Nat) (hg : v.ownBlock = some g) : g < w.heap.size := by
  rcases (Kd.own_of_R h).2 with ⟨rfl, _⟩ | ⟨g', cap, cur, rfl, _, hh, _⟩
  · simp [Value.ownBlock] at hg
  · have : g' = g := by simpa [Value.ownBlock] using hg
    subst this
    exact blk_lt hh
theorem bit_at2 (s : ByteArray) (k g : Nat) (h : k < s.size) (hg : g ≤ 7) :
    (unpack (bytesOf s)).take (8 * k + (8 - g)) = (unpack (bytesOf s)).take (8 * k + (7 - g)) ++ [bits BinOp.and IntKind.i64 (wrap64 ((s[k]'h).toNat : Int) / 2 ^ g) 1] := by
  have hp := unpack_take_succ s (8 * k + (7 - g)) (by omega)
  rw [bit_spelt s (8 * k + (7 - g)) (by omega)] at hp
  have e1 : (8 * k + (7 - g)) / 8 = k := by omega
  have e2 : 7 - (8 * k + (7 - g)) % 8 = g := by omega
  simp only [e1, e2] at hp
  rw [show 8 * k + (8 - g) = 8 * k + (7 - g) + 1 by omega]
  exact hp
theorem bit_len2 (s : ByteArray) (k g : Nat) (h : k < s.size) (hg : g ≤ 7) : ((unpack (bytesOf s)).take (8 * k + (7 - g))).length = 8 * k + (7 - g) := by
  rw [List.length_take, unpack_length, bytesOf_length]
  omega
theorem rem_drop2 (s : ByteArray) (a n : Nat) : (rem s a).drop n = rem s (a + n) := by
  unfold rem
  rw [List.drop_drop]
/-! ### the answers, in one contract each -/
def good (n : Int) : Bool := decide (0 ≤ n ∧ n ≤ 32)
def okG (L : Nat) (n : Int) : Bool := decide (0 ≤ n ∧ n ≤ 32 ∧ n ≤ (L : Int))
def okS (L : Nat) (n : Int) : Bool := decide (0 ≤ n ∧ n ≤ (L : Int))
def valG (s : ByteArray) (a : Nat) (n : Int) : Int := if good n = true then valN (rem s a) n.toNat else 0
def putB (v n : Int) : List Int := if mayPut v n = true then bitsV n.toNat v else []
theorem putB_yes {v n : Int} (h : mayPut v n = true) : putB v n = bitsV n.toNat v := if_pos h
theorem putB_no {v n : Int} (h : mayPut v n = false) : putB v n = [] := if_neg (by rw [h]; decide)
theorem putB_bits (v n : Int) : Bits (putB v n) := by
  unfold putB
  split
  · exact bitsV_bits _ _
  · exact bits_nil
theorem putB_le (v n : Int) : (putB v n).length ≤ 32 := by
  cases h : mayPut v n
  · rw [putB_no h]; exact Nat.zero_le _
  · rw [putB_yes h, bitsV_length]
    simp only [mayPut, decide_eq_true_eq] at h
    omega
theorem mayPut_good {v n : Int} (h : good n = false) : mayPut v n = false := by
  unfold good at h
  unfold mayPut
  have := of_decide_eq_false h
  exact decide_eq_false (by omega)
theorem okG_good {L : Nat} {n : Int} : okG L n = (good n && decide (n ≤ (L : Int))) := by
  unfold okG good
  rw [← Bool.decide_and]
  exact decide_eq_decide.2 ⟨fun ⟨a, b, c⟩ => ⟨⟨a, b⟩, c⟩, fun ⟨⟨a, b⟩, c⟩ => ⟨a, b, c⟩⟩
theorem get_all (b a : Nat) (s : ByteArray) (n : Int) (w : World) (h : RR w b s a) :
    Calls Try.prog 26 #[.pointer (some ⟨b, 0, none⟩), .int .i64 n] w fun e w' => e = .returned (.tuple #[.int .i64 (if okG (8 * s.size - a) n = true then valN (rem s a) n.toNat else 0), .bool (okG (8 * s.size - a) n)]) ∧ RR w' b s (a + if okG (8 * s.size - a) n = true then n.toNat else 0) ∧ Chg (fun k => k = b) w w' := by
  cases ho : okG (8 * s.size - a) n
  · have hn := of_decide_eq_false ho
    have hz : (if false = true then n.toNat else 0) = 0 := rfl
    by_cases h32 : 32 < n
    · refine (get_many _ n w h32).mono ?_
      rintro e w1 ⟨rfl, rfl⟩
      exact ⟨rfl, h, Chg.refl _ _⟩
    · refine (get_no b a s n w h (by omega) (by omega)).mono ?_
      rintro e w1 ⟨rfl, q, rfl⟩
      exact ⟨rfl, h.drewN q, (Chg.refl _ w).drewN q⟩
  · obtain ⟨h1, h2, h3⟩ := of_decide_eq_true ho
    refine (get_ok b a s n w h h1 h2 h3).mono ?_
    rintro e w1 ⟨rfl, h4, h5⟩
    exact ⟨rfl, h4, h5⟩
theorem skip_all (b a : Nat) (s : ByteArray) (n : Int) (w : World) (h : RR w b s a) :
    Calls Try.prog 28 #[.pointer (some ⟨b, 0, none⟩), .int .i64 n] w fun e w' => e = .returned (.bool (okS (8 * s.size - a) n)) ∧ RR w' b s (a + if okS (8 * s.size - a) n = true then n.toNat else 0) ∧ Chg (fun k => k = b) w w' := by
  cases ho : okS (8 * s.size - a) n
  · have hn := of_decide_eq_false ho
    refine (skip_no b a s n w h (by omega)).mono ?_
    rintro e w1 ⟨rfl, q, rfl⟩
    exact ⟨rfl, h.drewN q, (Chg.refl _ w).drewN q⟩
  · obtain ⟨h1, h3⟩ := of_decide_eq_true ho
    refine (skip_ok b a s n w h h1 h3).mono ?_
    rintro e w1 ⟨rfl, h4, h5⟩
    exact ⟨rfl, h4, h5⟩
theorem peek_all (b a : Nat) (s : ByteArray) (n : Int) (w : World) (h : RR w b s a) :
    Calls Try.prog 27 #[.pointer (some ⟨b, 0, none⟩), .int .i64 n] w fun e w' => e = .returned (.int .i64 (valG s a n)) ∧ ∃ q, w' = w.drewN q := by
  unfold valG
  cases ho : good n
  · have hn := of_decide_eq_false ho
    refine (peek_off _ n w (by omega)).mono ?_
    rintro e w1 ⟨rfl, rfl⟩
    exact ⟨rfl, 0, rfl⟩
  · obtain ⟨h1, h2⟩ := of_decide_eq_true ho
    exact peek_any b a s n w h h1 h2
theorem put_all (b base : Nat) (v0 : Value) (bs : List Int) (v m : Int) (w : World) (h : WR w b base v0 bs) (hbase : base ≤ w.heap.size) (hlen : bs.length ≤ 1000000000) :
    Calls Try.prog 25 #[.pointer (some ⟨b, 0, none⟩), .int .i64 v, .int .i64 m] w fun e w' => e = .returned (.bool (mayPut v m)) ∧
      ∃ v1, WR w' b base v1 (bs ++ putB v m) ∧ Chg (fun k => k = b ∨ some k = v0.ownBlock) w w' := by
  cases hp : mayPut v m
  · refine (put_no _ v m w hp).mono ?_
    rintro e w1 ⟨rfl, rfl⟩
    exact ⟨rfl, v0, by rw [putB_no hp, List.append_nil]; exact h, Chg.refl _ _⟩
  · refine (put_yes b base v0 bs v m w h hp hbase hlen).mono ?_
    rintro e w1 ⟨rfl, v1, h1, h2, _⟩
    exact ⟨rfl, v1, by rw [putB_yes hp]; exact h1, h2⟩
/-! ### the state -/
/-- Behind what stood in w4: a writer of the bits ws, a list of the bits os, a reader at bit pos. -/
structure S0 (w4 w : World) (wb rb : Nat) (b : ByteArray) (ws os : List Int) (pos : Nat) (o : Value) : Prop where
  wr : ∃ v, WR w wb w4.heap.size v ws
  out : KI.R 3 w w4.heap.size (fun _ => True) o os
  rr : RR w rb b pos
  chg : Chg (fun k => k = wb ∨ k = rb) w4 w
  wlt : wb < w4.heap.size
  rlt : rb < w4.heap.size
def OB (w : World) (ob : Nat) (x : OpT) : Prop := w.heap[ob]? = some (.cells #[.int .i64 x.1, .int .i64 x.2.1, .int .i64 x.2.2] 52 (0, 0))
structure ST (w4 w : World) (wb rb ob : Nat) (b : ByteArray) (ws os : List Int) (pos : Nat) (o : Value) (x : OpT) : Prop where
  s0 : S0 w4 w wb rb b ws os pos o
  op : OB w ob x
theorem S0.below {w4 w w' : World} {wb rb : Nat} {b : ByteArray} {ws os : List Int} {pos : Nat} {o : Value} (h : S0 w4 w wb rb b ws os pos o) (hb : Below w.heap.size w w') : S0 w4 w' wb rb b ws os pos o := by
  obtain ⟨v, hv⟩ := h.wr
  refine ⟨⟨v, hv.chg (S := fun _ => False) ⟨hb.os, hb.tape, hb.output, hb.size, fun k hk _ => hb.block k hk⟩ (fun h => h) (fun _ _ h => h)⟩, Kd.R_below h.out hb, h.rr.chg (S := fun _ => False) ⟨hb.os, hb.tape, hb.output, hb.size, fun k hk _ => hb.block k hk⟩ (fun h => h), ?_, h.wlt, h.rlt⟩
  exact h.chg.trans ⟨hb.os, hb.tape, hb.output, hb.size, fun k hk _ => hb.block k hk⟩
theorem ST.below {w4 w w' : World} {wb rb ob : Nat} {b : ByteArray} {ws os : List Int} {pos : Nat} {o : Value} {x : OpT} (h : ST w4 w wb rb ob b ws os pos o x) (hb : Below w.heap.size w w') : ST w4 w' wb rb ob b ws os pos o x :=
  ⟨h.s0.below hb, (hb.block ob (blk_lt h.op)).trans h.op⟩
theorem ST.drewN {w4 w : World} {wb rb ob : Nat} {b : ByteArray} {ws os : List Int} {pos : Nat} {o : Value} {x : OpT} (h : ST w4 w wb rb ob b ws os pos o x) (q : Nat) : ST w4 (w.drewN q) wb rb ob b ws os pos o x := h.below (below_drewN (Below.refl _ _) q)
theorem ST.new {w4 w : World} {wb rb : Nat} {b : ByteArray} {ws os : List Int} {pos : Nat} {o : Value} (h : S0 w4 w wb rb b ws os pos o) (x : OpT) : ST w4 (w.alloc (.cells #[.int .i64 x.1, .int .i64 x.2.1, .int .i64 x.2.2] 52 (0, 0))) wb rb w.heap.size b ws os pos o x :=
  ⟨h.below ((Below.refl w.heap.size w).alloc (Nat.le_refl _) _), heap_alloc_self _ _⟩
theorem ST.cells {w4 w : World} {wb rb ob : Nat} {b : ByteArray} {ws os : List Int} {pos : Nat} {o : Value} {x : OpT} (h : ST w4 w wb rb ob b ws os pos o x) :
    w.cell? ⟨ob, 0, none⟩ = some (.int .i64 x.1) ∧ w.cell? ⟨ob, 1, none⟩ = some (.int .i64 x.2.1) ∧ w.cell? ⟨ob, 2, none⟩ = some (.int .i64 x.2.2) := by
  have h3 := three_cells h.op
  exact ⟨h3.1, h3.2.1, h3.2.2.1⟩
theorem chg_in {w4 w w' : World} {wb rb : Nat} {S : Nat → Prop} (h : Chg (fun k => k = wb ∨ k = rb) w4 w) (hc : Chg S w w') (hs : ∀ k, k < w4.heap.size → S k → k = wb ∨ k = rb) : Chg (fun k => k = wb ∨ k = rb) w4 w' := h.trans' hc hs
/-- The list of bits has turned, and nothing else that was there. -/
theorem ST.grow {w4 w w' : World} {wb rb ob : Nat} {b : ByteArray} {ws os os' : List Int} {pos : Nat} {o o' : Value} {x : OpT} (h : ST w4 w wb rb ob b ws os pos o x)
    (ho : KI.R 3 w' w4.heap.size (fun _ => True) o' os') (hg : w.grownBy w' o.ownBlock) : ST w4 w' wb rb ob b ws os' pos o' x := by
  obtain ⟨⟨v, hv⟩, hout, hrr, hch, hwl, hrl⟩ := h.s0
  have hc : Chg (fun t => some t = o.ownBlock) w w' := ⟨hg.os, hg.tape, hg.output, hg.size, fun k hk hn => hg.block k hk (fun e => hn e)⟩
  refine ⟨⟨⟨v, hv.chg hc (fun e => Kd.R_ne hout hv.1 (by decide) e) (fun t ht e => by
    obtain ⟨c1, g1⟩ := own_typed (Kd.own_of_R hv.2.1) t ht
    exact Kd.R_ne hout g1 (by decide) e)⟩, ho, hrr.chg hc (fun e => Kd.R_ne hout hrr.1 (by decide) e), chg_in hch hc (fun k hk e => ?_), hwl, hrl⟩, (hc.block ob (blk_lt h.op) (fun e => Kd.R_ne hout h.op (by decide) e)).trans h.op⟩
  have := own_base (Kd.own_of_R hout) k e.symm
  omega
theorem ST.read {w4 w w' : World} {wb rb ob : Nat} {b : ByteArray} {ws os : List Int} {pos pos' : Nat} {o : Value} {x : OpT} (h : ST w4 w wb rb ob b ws os pos o x) (hr : RR w' rb b pos') (hc : Chg (fun k => k = rb) w w') : ST w4 w' wb rb ob b ws os pos' o x := by
  obtain ⟨⟨v, hv⟩, hout, hrr, hch, hwl, hrl⟩ := h.s0
  have hap := hv.apart hrr
  refine ⟨⟨⟨v, hv.chg hc (fun e => hap (.inl e.symm)) (fun t ht e => hap (.inr (by rw [← e]; exact ht.symm)))⟩, ?_, hr, chg_in hch hc (fun k hk e => .inr e), hwl, hrl⟩, (hc.block ob (blk_lt h.op) (fun e => ?_)).trans h.op⟩
  · refine own_move2 hout (fun g hg => hc.block g (own_lt2 hout g hg) (fun e => ?_))
    subst e
    have := own_base (Kd.own_of_R hout) g hg
    omega
  · subst e
    have h1 := h.op
    unfold OB at h1
    rw [hrr.1] at h1
    simp at h1
theorem ST.wrote {w4 w w' : World} {wb rb ob : Nat} {b : ByteArray} {ws ws' os : List Int} {pos : Nat} {o v v1 : Value} {x : OpT} (h : ST w4 w wb rb ob b ws os pos o x) (hv : WR w wb w4.heap.size v ws) (hv1 : WR w' wb w4.heap.size v1 ws') (hc : Chg (fun k => k = wb ∨ some k = v.ownBlock) w w') : ST w4 w' wb rb ob b ws' os pos o x := by
  obtain ⟨_, hout, hrr, hch, hwl, hrl⟩ := h.s0
  refine ⟨⟨⟨v1, hv1⟩, R_wr hout hv hc (by decide) (by decide), hrr.chg hc (hv.apart hrr), chg_in hch hc (fun k hk e => ?_), hwl, hrl⟩, (hc.block ob (blk_lt h.op) (fun e => ?_)).trans h.op⟩
  · rcases e with e | e
    · exact .inl e
    · have := own_base (Kd.own_of_R hv.2.1) k e.symm
      omega
  · rcases e with e | e
    · subst e
      have h1 := h.op
      unfold OB at h1
      rw [hv.1] at h1
      simp at h1
    · exact Kd.R_ne hv.2.1 h.op (by decide) e
/-- What is left to be read, as the law keeps it: a slice of bits. -/
structure IN (w4 : World) (wb rb : Nat) (b : ByteArray) (pos M c : Nat) (A : Option Addr) : Prop where
  hM : 8 * b.size - pos = M
  le : pos ≤ 8 * b.size
  cap : M ≤ c
  rd : ∀ W, Chg (fun k => k = wb ∨ k = rb) w4 W → KI.C W A M (rem b pos)
theorem IN.cut {w4 : World} {wb rb : Nat} {b : ByteArray} {pos M c : Nat} {A : Option Addr} (h : IN w4 wb rb b pos M c A) {n : Nat} (hn : n ≤ M) {A2 : Option Addr} (hA : (if c = n then A else A.map (·.add (n * 1))) = A2) :
    IN w4 wb rb b (pos + n) (M - n) (c - n) A2 := by
  have h1 := h.hM
  have h2 := h.le
  have h3 := h.cap
  refine ⟨by omega, by omega, by omega, fun W hc => ?_⟩
  have hl : (rem b pos).length = M := by rw [rem_length]; exact h.hM
  have g1 := h.rd W hc
  rw [← hl] at g1
  have g2 := Kd.C_drop (c := c) (m := n) g1 (by omega) (by omega)
  rw [List.length_drop, hl, rem_drop2, show KI.sz = 1 from rfl, hA] at g2
  exact g2
theorem cut_in (A : Option Addr) (M c n : Nat) (hn : n ≤ M) {A2 : Option Addr} (hA : (if c = n then A else A.map (·.add (n * 1))) = A2) (W : World) :
    (Instr.slice 22 (.slice A M c) (some (.int .i64 n)) none none).run Try.prog W = .ok (.slice A2 (M - n) (c - n)) W := by
  obtain ⟨i0, hi, hz⟩ := Option.map_eq_some_iff.1 infoInt
  simp only [Prod.mk.injEq] at hz
  have := cut_from (P := Try.prog) 22 3 .i64 Try.underlying22 hi 1 hz.2.1 A M c n (by omega) (by omega) W
  rw [Int.toNat_natCast, hA] at this
  exact this
/-- Of the bits that are left the first k: all 0? -/
def restK (l : List Int) (k : Nat) : Bool := decide (l.length < 8) && (l.take k).all (· == 0)
theorem restK_zero (l : List Int) : restK l 0 = decide (l.length < 8) := by simp [restK]
theorem restK_all (l : List Int) : restK l l.length = isRest l := by unfold restK isRest; rw [List.take_length]
theorem restK_succ (l : List Int) (k : Nat) (h : k < l.length) : restK l (k + 1) = (restK l k && (l.getD k 0 == 0)) := by
  unfold restK
  rw [Ints.take_succ_getD l k h, List.all_append, ← Bool.and_assoc]
  simp
/-! ### the calls -/
section
variable {w4 w : World} {wb rb ob : Nat} {b : ByteArray} {ws os : List Int} {pos : Nat} {o : Value} {x : OpT} (h : ST w4 w wb rb ob b ws os pos o x)
include h
theorem ST.put_call (v n : Int) (hlen : ws.length ≤ 1000000000) :
    Calls Try.prog 25 #[.pointer (some ⟨wb, 0, none⟩), .int .i64 v, .int .i64 n] w fun e w' => e = .returned (.bool (mayPut v n)) ∧ Hid (ST w4 w' wb rb ob b (ws ++ putB v n) os pos o x) := by
  obtain ⟨v0, hv⟩ := h.s0.wr
  refine (put_all wb w4.heap.size v0 ws v n w hv h.s0.chg.size hlen).mono ?_
  rintro e w1 ⟨rfl, v1, h1, h2⟩
  exact ⟨rfl, h.wrote hv h1 h2⟩
theorem ST.get_call (n : Int) {M : Nat} (hM : 8 * b.size - pos = M) :
    Calls Try.prog 26 #[.pointer (some ⟨rb, 0, none⟩), .int .i64 n] w fun e w' => e = .returned (.tuple #[.int .i64 (if okG M n = true then valN (rem b pos) n.toNat else 0), .bool (okG M n)]) ∧ Hid (ST w4 w' wb rb ob b ws os (pos + if okG M n = true then n.toNat else 0) o x) := by
  subst hM
  refine (get_all rb pos b n w h.s0.rr).mono ?_
  rintro e w1 ⟨rfl, h1, h2⟩
  exact ⟨rfl, h.read h1 h2⟩
theorem ST.skip_call (n : Int) {M : Nat} (hM : 8 * b.size - pos = M) :
    Calls Try.prog 28 #[.pointer (some ⟨rb, 0, none⟩), .int .i64 n] w fun e w' => e = .returned (.bool (okS M n)) ∧ Hid (ST w4 w' wb rb ob b ws os (pos + if okS M n = true then n.toNat else 0) o x) := by
  subst hM
  refine (skip_all rb pos b n w h.s0.rr).mono ?_
  rintro e w1 ⟨rfl, h1, h2⟩
  exact ⟨rfl, h.read h1 h2⟩
theorem ST.get_no (n : Int) {M : Nat} (hM : 8 * b.size - pos = M) (hn : okG M n = false) :
    Calls Try.prog 26 #[.pointer (some ⟨rb, 0, none⟩), .int .i64 n] w fun e w' => e = .returned (.tuple #[.int .i64 0, .bool false]) ∧ Hid (ST w4 w' wb rb ob b ws os pos o x) := by
  have := h.get_call n hM
  rw [hn] at this
  exact this
theorem ST.get_yes (n : Nat) {M : Nat} (hM : 8 * b.size - pos = M) (hn : okG M n = true) :
    Calls Try.prog 26 #[.pointer (some ⟨rb, 0, none⟩), .int .i64 n] w fun e w' => e = .returned (.tuple #[.int .i64 (valN (rem b pos) n), .bool true]) ∧ Hid (ST w4 w' wb rb ob b ws os (pos + n) o x) := by
  have := h.get_call n hM
  rw [hn] at this
  exact this
theorem ST.skip_no (n : Int) {M : Nat} (hM : 8 * b.size - pos = M) (hn : okS M n = false) :
    Calls Try.prog 28 #[.pointer (some ⟨rb, 0, none⟩), .int .i64 n] w fun e w' => e = .returned (.bool false) ∧ Hid (ST w4 w' wb rb ob b ws os pos o x) := by
  have := h.skip_call n hM
  rw [hn] at this
  exact this
theorem ST.skip_yes (n : Nat) {M : Nat} (hM : 8 * b.size - pos = M) (hn : okS M n = true) :
    Calls Try.prog 28 #[.pointer (some ⟨rb, 0, none⟩), .int .i64 n] w fun e w' => e = .returned (.bool true) ∧ Hid (ST w4 w' wb rb ob b ws os (pos + n) o x) := by
  have := h.skip_call n hM
  rw [hn] at this
  exact this
theorem ST.peek_call (n : Int) :
    Calls Try.prog 27 #[.pointer (some ⟨rb, 0, none⟩), .int .i64 n] w fun e w' => e = .returned (.int .i64 (valG b pos n)) ∧ Hid (ST w4 w' wb rb ob b ws os pos o x) := by
  refine (peek_all rb pos b n w h.s0.rr).mono ?_
  rintro e w1 ⟨rfl, q, rfl⟩
  exact ⟨rfl, h.drewN q⟩
theorem ST.left_call {M : Nat} (hM : 8 * b.size - pos = M) :
    Calls Try.prog 32 #[.pointer (some ⟨rb, 0, none⟩)] w fun e w' => e = .returned (.int .i64 (M : Int)) ∧ Hid (ST w4 w' wb rb ob b ws os pos o x) := by
  subst hM
  refine (left_any rb pos b w h.s0.rr).mono ?_
  rintro e w1 ⟨rfl, q, rfl⟩
  exact ⟨rfl, h.drewN q⟩
theorem ST.rest_call :
    Calls Try.prog 33 #[.pointer (some ⟨rb, 0, none⟩)] w fun e w' => e = .returned (.bool (isRest (rem b pos))) ∧ Hid (ST w4 w' wb rb ob b ws os pos o x) := by
  refine (rest_any rb pos b w h.s0.rr).mono ?_
  rintro e w1 ⟨rfl, q, rfl⟩
  exact ⟨rfl, h.drewN q⟩
theorem ST.len_call :
    Calls Try.prog 29 #[.pointer (some ⟨wb, 0, none⟩)] w fun e w' => e = .returned (.int .i64 (ws.length : Int)) ∧ Hid (ST w4 w' wb rb ob b ws os pos o x) := by
  obtain ⟨v, hv⟩ := h.s0.wr
  refine (wlen_any wb w4.heap.size v ws w hv).mono ?_
  rintro e w1 ⟨rfl, rfl⟩
  exact ⟨rfl, h⟩
theorem ST.bytes_call :
    Calls Try.prog 30 #[.pointer (some ⟨wb, 0, none⟩)] w fun e w' => e = .returned (.string (strOfNums (pack ws))) ∧ Hid (ST w4 w' wb rb ob b ws os pos o x) := by
  obtain ⟨v, hv⟩ := h.s0.wr
  refine (bytes_any wb w4.heap.size v ws w hv).mono ?_
  rintro e w1 ⟨rfl, rfl⟩
  exact ⟨rfl, h⟩
end
theorem ST.pack_call {w4 w : World} {wb rb ob : Nat} {b : ByteArray} {ws os : List Int} {pos : Nat} {A : Option Addr} {c : Nat} {x : OpT} (h : ST w4 w wb rb ob b ws os pos (.slice A os.length c) x) (hb : Bits os) (hl : os.length ≤ 1000000) :
    Calls Try.prog 31 #[.slice A os.length c] w fun e w' => e = .returned (.string (strOfNums (pack os))) ∧ Hid (ST w4 w' wb rb ob b ws os pos (.slice A os.length c) x) := by
  refine (ref_pack A c os w (Kd.R_reads' h.s0.out).2.2 hb hl).mono ?_
  rintro e w1 ⟨rfl, hb1⟩
  exact ⟨rfl, h.below hb1⟩
end Go.Proofs.Ythncomijfpbeeaa.Bits
