/- Of the parts CodeL1, CodeSmall, CodePut, Hist, BlockB, BlockC, VariGet: what the rows use. -/
import Derived.Test.YtfbbcfhdjhiejaaGreatZa1
import Derived.Test.YtfbbcfhdjhiejaaGreatZa4
import Derived.Test.YtfbbcfhdjhiejaaGreatZa11
import Derived.Test.YtfbbcfhdjhiejaaGreatZa12
import Derived.Test.YtfbbcfhdjhiejaaGreatZa13
import Derived.Deep.RegionHeld3
/- Chapter 19: a symbol's code is put; the first call. -/
namespace Go.Proofs.YtfbbcfhdjhiejaaGreat.Code
set_option linter.unusedVariables false
set_option linter.unusedSimpArgs false
open Go.RowKit Go.Proofs.YtfbbcfhdjhiejaaGreatW.PrintWords Go.Proofs.YtfbbcfhdjhiejaaGreatW.PrintMore Go.Proofs.YtfbbcfhdjhiejaaGreat.L Go.Proofs.YtfbbcfhdjhiejaaGreat.Ints Go.Proofs.YtfbbcfhdjhiejaaGreat.BP
/-! ### Put -/
def putOk (l cs : List Int) (s : Int) : Bool := decide (0 ≤ s ∧ s < (l.length : Int) ∧ s < (cs.length : Int) ∧ 1 ≤ l.getD s.toNat 0 ∧ l.getD s.toNat 0 ≤ 15)
set_option maxRecDepth 100000 in
set_option maxHeartbeats 1000000 in
theorem cput_no (p A B : Option Addr) (c c' : Nat) (l cs : List Int) (s : Int) (w : World) (hl : KI.C w A l.length l) (hc : KI.C w B cs.length cs) (h : putOk l cs s = false) :
  Calls Tryz.prog 111 #[.pointer p, .slice A l.length c, .slice B cs.length c', .int .i64 s] w fun e w' => e = .returned (.bool false) ∧ w' = w := by
 have HL := Lib.hid hl
 have HC := Lib.hid hc
 have hn : ¬ (0 ≤ s ∧ s < (l.length : Int) ∧ s < (cs.length : Int) ∧ 1 ≤ l.getD s.toNat 0 ∧ l.getD s.toNat 0 ≤ 15) := of_decide_eq_false h
 clear hl hc h
 by_cases h0 : s < 0
 ·clear hn
  go_enter Tryz.func111, Tryz.ntmps111
  go_wp2_with (fail)
  all_goals (go_ret; exact ⟨rfl, rfl⟩)
 ·have h00 : 0 ≤ s := by omega
  by_cases h1 : min (l.length : Int) (cs.length : Int) ≤ s
  ·clear hn h0
   go_enter Tryz.func111, Tryz.ntmps111
   go_wp2_with (fail)
   all_goals (go_ret; exact ⟨rfl, rfl⟩)
  ·have h10 : s < min (l.length : Int) (cs.length : Int) := by omega
   obtain ⟨k, rfl⟩ := Int.eq_ofNat_of_zero_le h00
   have hkl : k < l.length := by omega
   obtain ⟨ad, rfl, x0⟩ := ints_at HL.out k hkl
   rw [Int.toNat_natCast] at hn
   obtain ⟨x, hx⟩ : ∃ x, l.getD k 0 = x := ⟨_, rfl⟩
   rw [hx] at x0 hn
   have i1 : (k : Int) < (l.length : Int) := by omega
   have i2 : ((k : Int)).toNat = k := by omega
   clear h0 h1 hx
   by_cases hx1 : x < 1
   ·clear hn
    go_enter Tryz.func111, Tryz.ntmps111
    go_wp2_with (fail)
    all_goals (go_ret; exact ⟨rfl, rfl⟩)
   ·have hx2 : 15 < x := by omega
    have hx3 : 1 ≤ x := by omega
    clear hn hx1
    go_enter Tryz.func111, Tryz.ntmps111
    go_wp2_with (fail)
    all_goals (go_ret; exact ⟨rfl, rfl⟩)
set_option maxRecDepth 100000 in
set_option maxHeartbeats 1000000 in
theorem cput_go {Q : Bool → World → Prop} (p A B : Option Addr) (c c' : Nat) (l cs : List Int) (s : Int) (w : World) (hl : KI.C w A l.length l) (hc : KI.C w B cs.length cs) (h : putOk l cs s = true)
  (hput : ∀ q, Calls Tryz.prog 138 #[.pointer p, .int .i64 (cs.getD s.toNat 0), .int .i64 (l.getD s.toNat 0)] (w.drewN q) fun e w' => ∃ r, e = .returned (.bool r) ∧ Hid (Q r w')) :
  Calls Tryz.prog 111 #[.pointer p, .slice A l.length c, .slice B cs.length c', .int .i64 s] w fun e w' => ∃ r, e = .returned (.bool r) ∧ Hid (Q r w') := by
 have HL := Lib.hid hl
 have HC := Lib.hid hc
 obtain ⟨h00, h1, h2, h3, h4⟩ := of_decide_eq_true h
 obtain ⟨k, rfl⟩ := Int.eq_ofNat_of_zero_le h00
 have hmn : (k : Int) < min (l.length : Int) (cs.length : Int) := by omega
 obtain ⟨ad, rfl, x0⟩ := ints_at HL.out k (by omega)
 obtain ⟨bd, rfl, y0⟩ := ints_at HC.out k (by omega)
 rw [Int.toNat_natCast] at h3 h4 hput
 obtain ⟨x, hx⟩ : ∃ x, l.getD k 0 = x := ⟨_, rfl⟩
 obtain ⟨y, hy⟩ : ∃ y, cs.getD k 0 = y := ⟨_, rfl⟩
 rw [hx] at x0 h3 h4 hput
 rw [hy] at y0 hput
 have HPUT := Lib.hid hput
 have i2 : ((k : Int)).toNat = k := by omega
 clear hx hy hl hc hput h
 have n1 : (k : Int) < (l.length : Int) := by omega
 have n2 : (k : Int) < (cs.length : Int) := by omega
 by_cases hm : l.length ≤ cs.length
 all_goals
  go_enter Tryz.func111, Tryz.ntmps111
  go_wp2_with (fail)
  go_region_law ((go_simp; go_at_call 138; refine (HPUT.out 1).mono ?_; rintro e w1 ⟨r, rfl, HQ⟩))
  all_goals
   go_wp2_with (fail)
   go_ret
   exact ⟨_, rfl, HQ⟩
/-! ### the first call -/
end Go.Proofs.YtfbbcfhdjhiejaaGreat.Code

/- Chapter 19: small facts that several statements use. -/
namespace Go.Proofs.YtfbbcfhdjhiejaaGreat.Code
set_option linter.unusedVariables false
set_option linter.unusedSimpArgs false
open Go.RowKit Go.Proofs.YtfbbcfhdjhiejaaGreatW.PrintWords Go.Proofs.YtfbbcfhdjhiejaaGreatW.PrintMore Go.Proofs.YtfbbcfhdjhiejaaGreat.L Go.Proofs.YtfbbcfhdjhiejaaGreat.Ints
theorem len_case (x : Int) (h : 0 ≤ x ∧ x ≤ 15) : x = 0 ∨ ∃ n : Nat, x = ((n + 1 : Nat) : Int) ∧ n + 1 ≤ 15 := by
 by_cases h0 : x = 0
 ·exact .inl h0
 ·exact .inr ⟨x.toNat - 1, by omega, by omega⟩
theorem u64_small (x : Int) (h0 : 0 ≤ x) (h1 : x ≤ 100000) : IntKind.u64.wrap x = x := by simp [IntKind.wrap, IntKind.bits, IntKind.signed]; omega
theorem i64_small (x : Int) (h0 : -(2 ^ 62) ≤ x) (h1 : x ≤ 2 ^ 62) : IntKind.i64.wrap x = x := by
 simp [IntKind.wrap, IntKind.bits, IntKind.signed]
 omega
theorem pow_form (n : Nat) (hn : n ≤ 15) : IntKind.i64.wrap (2 ^ min n 64) = ((2 ^ n : Nat) : Int) := by
 have h2 : (2 : Nat) ^ n ≤ 2 ^ 15 := Nat.pow_le_pow_right (by decide) hn
 have h3 : ((2 ^ n : Nat) : Int) = 2 ^ n := by simp
 rw [Nat.min_eq_left (by omega), ← h3]
 clear h3
 generalize 2 ^ n = P at *
 exact i64_small _ (by omega) (by omega)
theorem getD_mem' {l : List Int} {k : Nat} (h : k < l.length) : l.getD k 0 ∈ l := by
 rw [List.getD_eq_getElem?_getD, List.getElem?_eq_getElem h]
 exact List.getElem_mem h
/-- The last length above nought. -/
def lastPos (l : List Int) : Int := l.foldl (fun x v => if 0 < v then v else x) 0
theorem lastPos_snoc (l : List Int) (v : Int) : lastPos (l ++ [v]) = if 0 < v then v else lastPos l := by simp [lastPos]
theorem lastPos_none : ∀ (l : List Int) (x0 : Int), used l = 0 → l.foldl (fun x v => if 0 < v then v else x) x0 = x0
 | [], _, _ => rfl
 | v :: l, x0, h => by
   unfold used at h
   rw [List.countP_cons] at h
   by_cases hv : 0 < v
   ·simp [hv] at h
   ·rw [List.foldl_cons, if_neg hv]
    exact lastPos_none l x0 (by unfold used; omega)
theorem used_none : ∀ (l : List Int), used l = 0 → ¬ l.any (fun x => decide (x = 1)) = true
 | [], _ => by simp
 | v :: l, h => by
   unfold used at h
   rw [List.countP_cons] at h
   by_cases hv : 0 < v
   ·simp [hv] at h
   ·have := used_none l (by unfold used; omega)
    rw [List.any_cons, Bool.or_eq_true, decide_eq_true_eq]
    rintro (h1 | h1)
    ·omega
    ·exact this h1
theorem lastPos_gen : ∀ (l : List Int) (x0 : Int), used l = 1 → (l.foldl (fun x v => if 0 < v then v else x) x0 = 1 ↔ l.any (fun x => decide (x = 1)) = true)
 | [], _, h => by simp [used] at h
 | v :: l, x0, h => by
   unfold used at h
   rw [List.countP_cons] at h
   rw [List.foldl_cons, List.any_cons, Bool.or_eq_true, decide_eq_true_eq]
   by_cases hv : 0 < v
   ·have h0 : used l = 0 := by unfold used; simp [hv] at h; simpa using h
    rw [if_pos hv, lastPos_none l v h0]
    have := used_none l h0
    constructor
    ·exact .inl
    ·rintro (h1 | h1)
     ·exact h1
     ·exact absurd h1 this
   ·have h1 : used l = 1 := by unfold used; simp [hv] at h; exact h
    rw [if_neg hv, lastPos_gen l x0 h1]
    constructor
    ·exact .inr
    ·rintro (h2 | h2)
     ·omega
     ·exact h2
theorem lastPos_one (l : List Int) (h : used l = 1) : lastPos l = 1 ↔ l.any (fun x => decide (x = 1)) = true := lastPos_gen l 0 h
end Go.Proofs.YtfbbcfhdjhiejaaGreat.Code

/- Chapter 19: a symbol's code is put: one contract for both outcomes. -/
namespace Go.Proofs.YtfbbcfhdjhiejaaGreat.Code
set_option linter.unusedVariables false
set_option linter.unusedSimpArgs false
open Go.RowKit Go.Proofs.YtfbbcfhdjhiejaaGreatW.PrintWords Go.Proofs.YtfbbcfhdjhiejaaGreatW.PrintMore Go.Proofs.YtfbbcfhdjhiejaaGreat.L Go.Proofs.YtfbbcfhdjhiejaaGreat.Ints Go.Proofs.YtfbbcfhdjhiejaaGreat.BP
/-- A symbol that has a code. -/
def coded (l : List Int) (s : Int) : Bool := decide (0 ≤ s ∧ s < (l.length : Int) ∧ 0 < l.getD s.toNat 0)
theorem coded_put {l : List Int} (hr : ∀ x ∈ l, 0 ≤ x ∧ x ≤ 15) (s : Int) : putOk l (codes l) s = coded l s := by
 unfold putOk coded
 apply decide_eq_decide.2
 rw [codes_length]
 constructor
 ·rintro ⟨h1, h2, _, h3, _⟩
  exact ⟨h1, h2, by omega⟩
 ·rintro ⟨h1, h2, h3⟩
  have := hr _ (getD_mem' (l := l) (k := s.toNat) (by omega))
  exact ⟨h1, h2, h2, by omega, by omega⟩
theorem coded_may {l : List Int} (hr : ∀ x ∈ l, 0 ≤ x ∧ x ≤ 15) (hk : kraft l ≤ 32768) (s : Int) (h : coded l s = true) : Bits.mayPut ((codes l).getD s.toNat 0) (l.getD s.toNat 0) = true := by
 obtain ⟨h1, h2, h3⟩ := of_decide_eq_true h
 have hlt : s.toNat < l.length := by omega
 have hx := hr _ (getD_mem' hlt)
 rw [codes_getD l s.toNat hlt]
 rcases len_case _ hx with h0 | ⟨n, hn, hn15⟩
 ·omega
 ·have hb := code_bound l hk s.toNat n hn hn15
  unfold Bits.mayPut
  refine decide_eq_true ⟨by omega, by omega, by omega, ?_⟩
  rw [hn, Int.toNat_natCast]
  exact_mod_cast hb
/-- A symbol's bits; none, if it has no code. -/
def symBits (l : List Int) (s : Int) : List Int := if coded l s = true then bitsV (l.getD s.toNat 0).toNat (codeAt l s.toNat : Nat) else []
theorem symBits_yes {l : List Int} {s : Int} (h : coded l s = true) : symBits l s = bitsV (l.getD s.toNat 0).toNat (codeAt l s.toNat : Nat) := if_pos h
theorem symBits_no {l : List Int} {s : Int} (h : coded l s = false) : symBits l s = [] := if_neg (by rw [h]; decide)
theorem symBits_le {l : List Int} (hr : ∀ x ∈ l, 0 ≤ x ∧ x ≤ 15) (s : Int) : (symBits l s).length ≤ 15 := by
 cases h : coded l s
 ·rw [symBits_no h]; exact Nat.zero_le _
 ·rw [symBits_yes h, bitsV_length]
  obtain ⟨h1, h2, h3⟩ := of_decide_eq_true h
  have := hr _ (getD_mem' (l := l) (k := s.toNat) (by omega))
  omega
def stream (l ss : List Int) : List Int := ss.flatMap (symBits l)
theorem stream_append (l a b : List Int) : stream l (a ++ b) = stream l a ++ stream l b := by unfold stream; rw [List.flatMap_append]
theorem stream_one (l : List Int) (s : Int) : stream l [s] = symBits l s := by simp [stream]
theorem stream_bits (l ss : List Int) : Bits (stream l ss) := by
 intro x hx
 obtain ⟨s, _, hs⟩ := List.mem_flatMap.1 hx
 unfold symBits at hs
 split at hs
 ·exact bitsV_bits _ _ x hs
 ·simp at hs
theorem stream_le {l : List Int} (hr : ∀ x ∈ l, 0 ≤ x ∧ x ≤ 15) : ∀ ss, (stream l ss).length ≤ 15 * ss.length
 | [] => Nat.zero_le _
 | s :: ss => by
   have h1 := stream_append l [s] ss
   rw [stream_one] at h1
   rw [show s :: ss = [s] ++ ss from rfl, h1, List.length_append]
   have h2 := symBits_le hr s
   have h3 := stream_le hr ss
   simp only [List.length_append, List.length_singleton]
   omega
/-- A symbol is put: its bits, if it has a code; else nothing. -/
theorem put_sym (A B : Option Addr) (c c2 : Nat) (l : List Int) (s : Int) (wb base : Nat) (v : Value) (bs : List Int) (w : World)
  (hl : KI.C w A l.length l) (hc : KI.C w B l.length (codes l)) (hW : Bits.WR w wb base v bs) (hbase : base ≤ w.heap.size) (hlen : bs.length ≤ 1000000000) (hr : right l = 0) :
  Calls Tryz.prog 111 #[.pointer (some ⟨wb, 0, none⟩), .slice A l.length c, .slice B l.length c2, .int .i64 s] w fun e w' =>
   e = .returned (.bool (coded l s)) ∧ Hid (∃ v1, Bits.WR w' wb base v1 (bs ++ symBits l s) ∧ Chg (fun k => k = wb ∨ some k = v.ownBlock) w w') := by
 have hrg := right_range hr
 have hk := right_kraft hr
 have hc' : KI.C w B (codes l).length (codes l) := by rw [codes_length]; exact hc
 cases hcd : coded l s
 ·have h := cput_no (some ⟨wb, 0, none⟩) A B c c2 l (codes l) s w hl hc' (by rw [coded_put hrg, hcd])
  rw [codes_length] at h
  refine h.mono ?_
  rintro e w1 ⟨rfl, rfl⟩
  exact ⟨rfl, v, by rw [symBits_no hcd, List.append_nil]; exact hW, Chg.refl _ _⟩
 ·obtain ⟨h1, h2, h3⟩ := of_decide_eq_true hcd
  have hlt : s.toNat < l.length := by omega
  have hmy := coded_may hrg hk s hcd
  have h := cput_go (Q := fun r w' => r = true ∧ ∃ v1, Bits.WR w' wb base v1 (bs ++ symBits l s) ∧ Chg (fun k => k = wb ∨ some k = v.ownBlock) w w') (some ⟨wb, 0, none⟩) A B c c2 l (codes l) s w hl hc' (by rw [coded_put hrg, hcd]) (fun q => by
   refine (Bits.put_yes _ _ _ _ _ _ _ (hW.chg ((Chg.refl (fun _ => False) _).drewN q) (fun h => h) (fun _ _ h => h)) hmy hbase hlen).mono ?_
   rintro e w4 ⟨rfl, v1, hW4, hC4, _⟩
   rw [codes_getD l s.toNat hlt] at hW4
   refine ⟨true, rfl, rfl, v1, ?_, ((Chg.refl _ w).drewN q).trans hC4⟩
   rw [symBits_yes hcd]
   exact hW4)
  rw [codes_length] at h
  refine h.mono ?_
  rintro e w1 ⟨r, rfl, HQ⟩
  obtain ⟨rfl, h2⟩ := HQ.out
  exact ⟨rfl, h2⟩
end Go.Proofs.YtfbbcfhdjhiejaaGreat.Code

/- Chapter 17: what counting computes. -/
namespace Go.Proofs.YtfbbcfhdjhiejaaGreat.Hist
set_option linter.unusedVariables false
set_option linter.unusedSimpArgs false
open Go.RowKit Go.Proofs.YtfbbcfhdjhiejaaGreatW.PrintWords Go.Proofs.YtfbbcfhdjhiejaaGreatW.PrintMore Go.Proofs.YtfbbcfhdjhiejaaGreat.L Go.Proofs.YtfbbcfhdjhiejaaGreat.Ints
/-! ### what is computed -/
def bump (h : List Int) (t : Int) : List Int := h.set t.toNat (h.getD t.toNat 0 + 1)
def counted (h l : List Int) : List Int := l.foldl bump h
def inR (n : Nat) (t : Int) : Prop := 0 ≤ t ∧ t < (n : Int)
instance (n : Nat) (t : Int) : Decidable (inR n t) := by unfold inR; exact inferInstance
theorem bump_length (h : List Int) (t : Int) : (bump h t).length = h.length := List.length_set ..
theorem counted_length : ∀ (l h : List Int), (counted h l).length = h.length
 | [], h => rfl
 | t :: l, h => by
   show (counted (bump h t) l).length = _
   rw [counted_length l, bump_length]
theorem counted_snoc (h l : List Int) (t : Int) : counted h (l ++ [t]) = bump (counted h l) t := by simp [counted, List.foldl_append]
theorem counted_le : ∀ (l h : List Int) (M : Int), (∀ x ∈ h, -M ≤ x ∧ x ≤ M) → ∀ i, i < h.length → -M ≤ (counted h l).getD i 0 ∧ (counted h l).getD i 0 ≤ M + l.length := by
 intro l
 induction l with
 | nil =>
   intro h M hb i hi
   have : h.getD i 0 ∈ h := by
    rw [List.getD_eq_getElem?_getD, List.getElem?_eq_getElem hi]
    exact List.getElem_mem hi
   have := hb _ this
   simp only [counted, List.foldl_nil, List.length_nil]
   omega
 | cons t l ih =>
   intro h M hb i hi
   show -M ≤ (counted (bump h t) l).getD i 0 ∧ (counted (bump h t) l).getD i 0 ≤ _
   have key : ∀ x ∈ bump h t, -(M + 1) ≤ x ∧ x ≤ M + 1 := by
    intro x hx
    unfold bump at hx
    rcases List.mem_or_eq_of_mem_set hx with hx | rfl
    ·have := hb x hx; omega
    ·by_cases hl : t.toNat < h.length
     ·have : h.getD t.toNat 0 ∈ h := by
       rw [List.getD_eq_getElem?_getD, List.getElem?_eq_getElem hl]
       exact List.getElem_mem hl
      have := hb _ this
      omega
     ·rw [List.set_eq_of_length_le (by omega)] at hx
      have h0 := hb _ hx
      omega
   have low : ∀ (l h : List Int), (∀ x ∈ h, -M ≤ x) → ∀ i, i < h.length → -M ≤ (counted h l).getD i 0 := by
    intro l
    induction l with
    | nil =>
      intro h hb i hi
      refine hb _ ?_
      simp only [counted, List.foldl_nil]
      rw [List.getD_eq_getElem?_getD, List.getElem?_eq_getElem hi]
      exact List.getElem_mem hi
    | cons t l ih2 =>
      intro h hb i hi
      refine ih2 (bump h t) ?_ i (by rw [bump_length]; exact hi)
      intro x hx
      unfold bump at hx
      rcases List.mem_or_eq_of_mem_set hx with hx | rfl
      ·exact hb x hx
      ·by_cases hl : t.toNat < h.length
       ·have : h.getD t.toNat 0 ∈ h := by
         rw [List.getD_eq_getElem?_getD, List.getElem?_eq_getElem hl]
         exact List.getElem_mem hl
        have := hb _ this
        omega
       ·rw [List.set_eq_of_length_le (by omega)] at hx
        exact hb _ hx
   have h1 := ih (bump h t) (M + 1) key i (by rw [bump_length]; exact hi)
   have h2 := low (t :: l) h (fun x hx => (hb x hx).1) i hi
   simp only [List.length_cons]
   refine ⟨h2, ?_⟩
   omega
/-! ### Total and Used -/
def used (h : List Int) : Int := h.foldl (fun n c => if 0 < c then n + 1 else n) 0
/-! ### Add and Of -/
def good (n : Nat) (l : List Int) : Prop := ∀ t ∈ l, inR n t
set_option maxRecDepth 100000 in
set_option maxHeartbeats 1000000 in
theorem add_any (A B : Option Addr) (n m c c' : Nat) (h l : List Int) (w : World) (hh : KI.C w A n h) (hl : KI.C w B m l) (h356 : h.length ≤ 356) (hb : ∀ x ∈ h, -(2 ^ 62) ≤ x ∧ x ≤ 2 ^ 62) (hm : m * 8 ≤ 140737488351232) :
  Calls Tryz.prog 129 #[.slice A n c, .slice B m c'] w fun e w' => Below w.heap.size w w' ∧
   ((good h.length l ∧ ∃ v, e = .returned (.tuple #[v, .int .i64 0]) ∧ KI.R 3 w' w.heap.size (fun _ => True) v (counted h l)) ∨ (¬ good h.length l ∧ e = .returned (.tuple #[.slice none 0 0, .int .i64 9]))) := by
 have H := Lib.hid hh
 have HL := Lib.hid hl
 have hnl := ki_len hh
 have hml := ki_len hl
 have HB := Lib.hid hb
 clear hh hl hb
 subst hnl
 subst hml
 go_enter Tryz.func129, Tryz.ntmps129
 go_wp2_with (fail)
 refine (clone_ints _ _ _ _ _ H.out (by omega)).mono ?_
 rintro e w1 ⟨v, rfl, hr, hbw⟩
 obtain ⟨A1, c1, rfl⟩ := Kd.R_slice hr
 have HR := Lib.hid hr
 have HW := Lib.hid hbw
 clear hr hbw
 go_wp2_with (fail)
 go_loopg [16] l.length (fun j i wr => ∃ k : Nat, k + j = l.length ∧ i = .int .i64 k ∧ Hid (good h.length (l.take k) ∧ KI.R 3 wr w.heap.size (fun _ => True) (.slice A1 h.length c1) (counted h (l.take k)) ∧ Below w.heap.size w wr))
 case atStart => exact ⟨0, by omega, rfl, by intro t ht; simp at ht, HR.out, HW.out⟩
 case round =>
  obtain ⟨k, hk, rfl, HI⟩ := hrel
  by_cases hlt : k < l.length
  ·obtain ⟨hg, hr, hbw⟩ := HI.out
   obtain ⟨ad, rfl, x0⟩ := ints_at (Kd.C_below HL.out ⟨hbw.os, hbw.tape, hbw.output, hbw.size, hbw.block⟩) k hlt
   obtain ⟨t, ht⟩ : ∃ t, l.getD k 0 = t := ⟨_, rfl⟩
   rw [ht] at x0
   have htm : t ∈ l := by
    rw [← ht, List.getD_eq_getElem?_getD, List.getElem?_eq_getElem hlt]
    exact List.getElem_mem hlt
   have hsn : l.take (k + 1) = l.take k ++ [t] := by rw [take_succ_getD l k hlt, ht]
   have i0 : (0 : Int) ≤ k := by omega
   have i1 : (k : Int) < (l.length : Int) := by omega
   have i2 : ((k : Int)).toNat = k := by omega
   by_cases hin : inR h.length t
   ·obtain ⟨t0, t1⟩ := hin
    have hlen : (counted h (l.take k)).length = h.length := counted_length _ _
    have hx := counted_le (l.take k) h (2 ^ 62) HB.out t.toNat (by omega)
    have hlk := List.length_take_le k l
    obtain ⟨g, cap, hv, hge, hgl, cells, hcell⟩ := Kd.R_form hr (by rw [hlen]; omega)
    rw [hlen] at hv
    injection hv with hv1 hv2 hv3
    subst hv1 hv3
    have hr' := hr
    rw [← hlen] at hr'
    obtain ⟨y0, y1⟩ := Kd.R_cell (enc := Value.int .i64) (h1 := fun _ => rfl) (0 : Int) hr' t t0 (by rw [hlen]; exact t1)
    obtain ⟨p0, p1⟩ := Kd.R_put (enc := Value.int .i64) (h1 := fun _ => rfl) hr' t ((counted h (l.take k)).getD t.toNat 0 + 1)
    rw [hlen] at p0
    obtain ⟨x, hxx⟩ : ∃ x, (counted h (l.take k)).getD t.toNat 0 = x := ⟨_, rfl⟩
    rw [show rdOf (0 : Int) (counted h (l.take k)) t = x from hxx] at y0
    rw [hxx] at p0 p1 hx
    have hbump : (counted h (l.take k)).set t.toNat (x + 1) = counted h (l.take (k + 1)) := by rw [hsn, counted_snoc]; unfold bump; rw [hxx]
    rw [hbump] at p0
    have hw2 : wrap64 (x + 1) = x + 1 := by unfold wrap64; omega
    have P0 := Lib.hid p0
    have P1 := Lib.hid p1
    have HG := Lib.hid (show good h.length (l.take (k + 1)) from by
     rw [hsn]
     intro u hu
     rcases List.mem_append.1 hu with hu | hu
     ·exact hg u hu
     ·rw [List.mem_singleton.1 hu]; exact ⟨t0, t1⟩)
    have HBW := Lib.hid (hbw.grown p1 hbw.size (fun k hk => by
     injection hk with hk
     omega))
    clear hr hr' hbw HI p0 p1 hbump hxx hx hlk hlen hg hcell hge hgl hsn ht htm
    go_wp2_with (fail)
    go_roundg (l.length - (k + 1))
    case measure => omega
    case rel => exact ⟨k + 1, by omega, by go_num, HG.out, P0.out, HBW.out⟩
   ·have HIN := Lib.hid (show ¬ good h.length l from fun hgd => hin (hgd t htm))
    have HBW := Lib.hid hbw
    clear hr hbw HI hg hsn ht htm
    by_cases t0 : t < 0
    ·clear hin
     go_wp2_with (fail)
     go_ret2
     exact ⟨HBW.out, .inr ⟨HIN.out, rfl⟩⟩
    ·have t1 : (h.length : Int) ≤ t := by
      unfold inR at hin
      omega
     clear hin
     go_wp2_with (fail)
     go_ret2
     exact ⟨HBW.out, .inr ⟨HIN.out, rfl⟩⟩
  ·obtain rfl : k = l.length := by omega
   obtain ⟨hg, hr, hbw⟩ := HI.out
   rw [List.take_length] at hg hr
   have HG := Lib.hid hg
   have HR2 := Lib.hid hr
   have HBW := Lib.hid hbw
   clear hg hr hbw HI
   go_wp2_with (fail)
   go_ret2
   exact ⟨HBW.out, .inl ⟨HG.out, _, rfl, HR2.out⟩⟩
theorem zeros_any (n : Nat) : ∀ x ∈ List.replicate n (0 : Int), -(2 ^ 62) ≤ x ∧ x ≤ 2 ^ 62 := by
 intro x hx
 rw [List.eq_of_mem_replicate hx]
 decide
set_option maxRecDepth 100000 in
set_option maxHeartbeats 1000000 in
theorem of_any (B : Option Addr) (m c' : Nat) (size : Int) (l : List Int) (w : World) (hl : KI.C w B m l) (h0 : 0 ≤ size) (h356 : size ≤ 356) (hm : m * 8 ≤ 140737488351232) :
  Calls Tryz.prog 106 #[.int .i64 size, .slice B m c'] w fun e w' => Below w.heap.size w w' ∧
   ((good size.toNat l ∧ ∃ v, e = .returned (.tuple #[v, .int .i64 0]) ∧ KI.R 3 w' w.heap.size (fun _ => True) v (counted (List.replicate size.toNat 0) l)) ∨ (¬ good size.toNat l ∧ e = .returned (.tuple #[.slice none 0 0, .int .i64 9]))) := by
 have HL := Lib.hid hl
 clear hl
 go_enter Tryz.func106, Tryz.ntmps106
 go_wp2_with ((with_reducible refine gate_dst (N := 13) rfl ?_); apply stopper)
 unfold Stopper
 refine Kd.R_make KI (w0 := w) w.heap.size 3 rfl (N := 13) rfl 26 _ _ rfl size rfl rfl Tryz.underlying26 (.int .i64 0) 8 infoInt rfl (by decide) (by omega) 0 (ok := fun _ => True) (okp := fun _ => True) ?mM (fun _ hk => hk) trivial h0 ?mL (Below.refl _ _) (Nat.le_refl _) ?_
 case mM => exact rfl
 case mL => omega
 intro v1 w1 hr hb hg hat
 obtain ⟨A1, c1, rfl⟩ := Kd.R_slice hr
 have HR := Lib.hid hr
 have HB := Lib.hid hb
 clear hr hb hg hat
 go_wp2_with (fail)
 obtain ⟨_, _, hc⟩ := Kd.R_reads' HR.out
 rw [List.length_replicate] at hc
 have hb := HB.out
 refine (add_any _ _ _ _ _ _ _ _ _ hc (Kd.C_below HL.out ⟨hb.os, hb.tape, hb.output, hb.size, hb.block⟩) (by simp; omega) (zeros_any _) (by omega)).mono ?_
 rintro e w2 ⟨hb2, ⟨hg, v, rfl, hr2⟩ | ⟨hg, rfl⟩⟩
 ·have HB2 := Lib.hid (hb.trans ⟨hb2.os, hb2.tape, hb2.output, hb2.size, fun k hk => hb2.block k (by have := hb.size; omega)⟩)
  have HR2 := Lib.hid (Kd.R_lower hr2 hb.size)
  rw [List.length_replicate] at hg
  have HG := Lib.hid hg
  clear hb2 hr2 hb hg hc
  go_wp2_with (fail)
  go_ret2
  exact ⟨HB2.out, .inl ⟨HG.out, _, rfl, HR2.out⟩⟩
 ·have HB2 := Lib.hid (hb.trans ⟨hb2.os, hb2.tape, hb2.output, hb2.size, fun k hk => hb2.block k (by have := hb.size; omega)⟩)
  rw [List.length_replicate] at hg
  have HG := Lib.hid hg
  clear hb2 hb hg hc
  go_wp2_with (fail)
  go_ret2
  exact ⟨HB2.out, .inr ⟨HG.out, rfl⟩⟩
end Go.Proofs.YtfbbcfhdjhiejaaGreat.Hist

/- Chapter 22: tokens as a payload. -/
namespace Go.Proofs.YtfbbcfhdjhiejaaGreat.Blk
set_option linter.unusedVariables false
set_option linter.unusedSimpArgs false
open Go.RowKit Go.Proofs.YtfbbcfhdjhiejaaGreatW.PrintWords Go.Proofs.YtfbbcfhdjhiejaaGreatW.PrintMore Go.Proofs.YtfbbcfhdjhiejaaGreat.L Go.Proofs.YtfbbcfhdjhiejaaGreat.Texts Go.Proofs.YtfbbcfhdjhiejaaGreat.Dict Go.Proofs.YtfbbcfhdjhiejaaGreat.Ints
theorem dlen_any (p : Option Addr) (l : List ByteArray) (w : World) (h : DP w p l) (hl : l.length ≤ 100) : Calls Tryz.prog 130 #[.pointer p] w fun e w' => e = .returned (.int .i64 l.length) ∧ Below w.heap.size w w' := by
 have H := Lib.hid h
 clear h
 go_enter Tryz.func130, Tryz.ntmps130
 go_wp2_with (fail)
 refine (Greedy.all_any _ _ _ H.out hl).mono ?_
 rintro e w1 ⟨v, rfl, hr, hb⟩
 obtain ⟨A, c, rfl⟩ := Kd.R_slice hr
 have HB := Lib.hid hb
 clear hr hb
 go_wp2_with (fail)
 go_ret
 exact ⟨rfl, HB.out⟩
theorem all_any (p : Option Addr) (l : List ByteArray) (w : World) (h : DP w p l) (hl : l.length ≤ 100) : Calls Tryz.prog 107 #[.pointer p] w fun e w' => e = .returned (.int .i64 (256 + (l.length : Int))) ∧ Below w.heap.size w w' := by
 have H := Lib.hid h
 have hw : wrap64 (256 + (l.length : Int)) = 256 + (l.length : Int) := by unfold wrap64; omega
 clear h
 go_enter Tryz.func107, Tryz.ntmps107
 go_wp2_with (fail)
 refine (dlen_any _ _ _ H.out hl).mono ?_
 rintro e w1 ⟨rfl, hb⟩
 have HB := Lib.hid hb
 clear hb
 go_wp2_with (fail)
 go_ret
 exact ⟨rfl, HB.out⟩
theorem counted_pos : ∀ (ts h : List Int) (M : Int), (∀ x ∈ h, 0 ≤ x ∧ x ≤ M) → 0 ≤ M → ∀ x ∈ Hist.counted h ts, 0 ≤ x ∧ x ≤ M + ts.length
 | [], h, M, hh, hM, x, hx => by have := hh x hx; simp; exact this
 | t :: ts, h, M, hh, hM, x, hx => by
   have h1 : ∀ x ∈ Hist.bump h t, 0 ≤ x ∧ x ≤ M + 1 := by
    intro y hy
    rcases List.mem_or_eq_of_mem_set hy with hy | hy
    ·have := hh y hy; omega
    ·by_cases hl : t.toNat < h.length
     ·have := hh (h.getD t.toNat 0) (by rw [List.getD_eq_getElem?_getD, List.getElem?_eq_getElem hl]; exact List.getElem_mem hl)
      omega
     ·rw [List.getD_eq_getElem?_getD, List.getElem?_eq_none (by omega)] at hy
      simp at hy
      omega
   have h2 := counted_pos ts (Hist.bump h t) (M + 1) h1 (by omega) x hx
   simp
   omega
/-- How often each token stands. -/
def hst (l : List ByteArray) (ts : List Int) : List Int := Hist.counted (List.replicate (256 + l.length) 0) ts
def lns (l : List ByteArray) (ts : List Int) : List Int := Srt.lensP (hst l ts)
/-- What tokens by codes need. -/
def CodesOk (l : List ByteArray) (ts : List Int) : Prop := Srt.sortable (2 * (Srt.onesTo (hst l ts) (hst l ts).length).length) ∧ Code.right (lns l ts) = 0
def codesB (l : List ByteArray) (ts : List Int) : ByteArray := strOfNums (Tb.tabL (lns l ts)) ++ strOfNums (BP.pack (Code.stream (lns l ts) ts))
theorem hst_length (l : List ByteArray) (ts : List Int) : (hst l ts).length = 256 + l.length := by unfold hst; rw [Hist.counted_length, List.length_replicate]
theorem lns_length (l : List ByteArray) (ts : List Int) : (lns l ts).length = 256 + l.length := by unfold lns; rw [Srt.lensP_length, hst_length]
theorem hst_ok (l : List ByteArray) (ts : List Int) (h : ts.length ≤ 1024) : ∀ x ∈ hst l ts, Srt.okC x := by
 intro x hx
 have := counted_pos ts (List.replicate (256 + l.length) 0) 0 (by intro y hy; have := (List.mem_replicate.1 hy).2; omega) (by omega) x hx
 unfold Srt.okC
 omega
def allTk (l : List ByteArray) (ts : List Int) : Prop := ∀ t ∈ ts, 0 ≤ t ∧ t < 256 + (l.length : Int)
set_option maxRecDepth 100000 in
set_option maxHeartbeats 4000000 in
theorem codes_any (p B : Option Addr) (m c : Nat) (l : List ByteArray) (ts : List Int) (w : World) (h : DP w p l) (hl : l.length ≤ 100) (ht : KI.C w B m ts) (hm : ts.length ≤ 1024) (hk : allTk l ts) (hok : CodesOk l ts) :
  Calls Tryz.prog 71 #[.pointer p, .slice B m c] w fun e w' => e = .returned (.string (codesB l ts)) ∧ Below w.heap.size w w' := by
 have hml := ki_len ht
 subst hml
 have H := Lib.hid h
 have HT := Lib.hid ht
 have HK := Lib.hid hk
 have HOK := Lib.hid hok
 have l1 : (0 : Int) ≤ 256 + (l.length : Int) := by omega
 have l2 : 256 + (l.length : Int) ≤ 356 := by omega
 clear h ht hk hok
 go_enter Tryz.func71, Tryz.ntmps71
 go_wp2_with (fail)
 refine (all_any _ _ _ H.out hl).mono ?_
 rintro e w1 ⟨rfl, hb1⟩
 have HB1 := Lib.hid hb1
 clear hb1
 go_wp2_with (fail)
 refine (Hist.of_any _ _ _ _ _ _ (Kd.C_below HT.out HB1.out) l1 l2 (by omega)).mono ?_
 rintro e w2 ⟨hb2, ⟨hg, v2, rfl, hr2⟩ | ⟨hg, _⟩⟩
 ·have htn : (256 + (l.length : Int)).toNat = 256 + l.length := by omega
  rw [htn] at hr2
  replace hr2 : KI.R 3 w2 w1.heap.size (fun _ => True) v2 (hst l ts) := hr2
  have HO1 := Lib.hid (hst_ok l ts hm)
  have hhl := hst_length l ts
  obtain ⟨hs, hhs⟩ : ∃ x, hst l ts = x := ⟨_, rfl⟩
  have HS9 := Lib.hid HOK.out.1
  have HR9 := Lib.hid HOK.out.2
  have HCB := Lib.hid (show codesB l ts = strOfNums (Tb.tabL (Srt.lensP hs)) ++ strOfNums (BP.pack (Code.stream (Srt.lensP hs) ts)) by rw [← hhs]; rfl)
  have HLN := Lib.hid (show (Srt.lensP hs).length = 256 + l.length by rw [← hhs]; exact lns_length l ts)
  have hln : lns l ts = Srt.lensP hs := by rw [← hhs]; rfl
  rw [hln] at HR9
  rw [hhs] at hr2 HO1 hhl HS9
  have HHL := Lib.hid hhl
  clear hhs hln HOK hhl
  obtain ⟨ns, hns⟩ : ∃ x, Srt.lensP hs = x := ⟨_, rfl⟩
  rw [hns] at HCB HLN HR9
  obtain ⟨A2, c2, rfl⟩ := Kd.R_slice hr2
  have HR2 := Lib.hid (Kd.R_reads' hr2).2.2
  have HB2 := Lib.hid (Ints.bel_trans HB1.out HB1.out.size hb2)
  clear hr2 hb2 hg htn
  go_wp2_with (fail)
  refine (Srt.lens_of_any _ _ hs _ HR2.out (by have := HHL.out; omega) HO1.out HS9.out).mono ?_
  rw [hns]
  clear hns
  rintro e w3 ⟨v3, rfl, hr3, hb3⟩
  obtain ⟨A3, c3, rfl⟩ := Kd.R_slice hr3
  have HR3 := Lib.hid (Kd.R_reads' hr3).2.2
  have HB3 := Lib.hid (Ints.bel_trans HB2.out HB2.out.size hb3)
  clear hr3 hb3
  go_wp2_with (fail)
  refine (Code.of_ok _ _ ns _ HR3.out (by have := HLN.out; omega) HR9.out).mono ?_
  rintro e w4 ⟨v4, rfl, hr4, hb4⟩
  obtain ⟨A4, c4, rfl⟩ := Kd.R_slice hr4
  have HR4 := Lib.hid (Kd.R_reads' hr4).2.2
  rw [Code.codes_length] at HR4 ⊢
  have HB4 := Lib.hid (Ints.bel_trans HB3.out HB3.out.size hb4)
  have HR3b := Lib.hid (Kd.C_below HR3.out hb4)
  clear hr4 hb4
  go_wp2_with (fail)
  refine (Tb.put_any _ _ _ ns _ HR3b.out (by have := HLN.out; omega) (Code.right_range HR9.out)).mono ?_
  rintro e w5 ⟨rfl, hb5⟩
  have HB5 := Lib.hid (Ints.bel_trans HB4.out HB4.out.size hb5)
  have HR3c := Lib.hid (Kd.C_below HR3b.out hb5)
  have HR4c := Lib.hid (Kd.C_below HR4.out hb5)
  clear hb5
  go_wp2_with (fail)
  have HW5 := Lib.hid (Bits.wr_new w5 w5.heap.size)
  have HB6 := Lib.hid ((Below.refl w5.heap.size w5).alloc (Nat.le_refl _) (.cells #[.slice none 0 0, .int .i64 0] 171 (0, 0)))
  go_loopg [40] ts.length (fun j i wr => ∃ k : Nat, k + j = ts.length ∧ i = .int .i64 k ∧ Hid ((∃ v, Bits.WR wr w5.heap.size w5.heap.size v (Code.stream ns (ts.take k))) ∧ Below w5.heap.size w5 wr))
  case atStart => exact ⟨0, by omega, rfl, ⟨_, HW5.out⟩, HB6.out⟩
  case round =>
   obtain ⟨k, hk, rfl, HI⟩ := hrel
   obtain ⟨⟨v, hw⟩, hb⟩ := HI.out
   by_cases hlt : k < ts.length
   ·obtain ⟨ad, rfl, x0⟩ := ints_at (Kd.C_below (Kd.C_below HT.out HB5.out) hb) k hlt
    have hst : Code.stream ns (ts.take (k + 1)) = Code.stream ns (ts.take k) ++ Code.symBits ns (ts.getD k 0) := by
     rw [Ints.take_succ_getD ts k hlt, Code.stream_append, Code.stream_one]
    obtain ⟨s, hs⟩ : ∃ s, ts.getD k 0 = s := ⟨_, rfl⟩
    rw [hs] at x0 hst
    have i0 : (0 : Int) ≤ k := by omega
    have i1 : (k : Int) < (ts.length : Int) := by omega
    have i2 : ((k : Int)).toNat = k := by omega
    have hsl : (Code.stream ns (ts.take k)).length ≤ 1000000000 := by
     have h1 := Code.stream_le (Code.right_range HR9.out) (ts.take k)
     have h2 := List.length_take_le k ts
     omega
    have HLC := Lib.hid (Kd.C_below HR3c.out hb)
    have HCC := Lib.hid (Kd.C_below HR4c.out hb)
    have HW := Lib.hid hw
    have HB := Lib.hid hb
    have HST := Lib.hid hst
    have HSL := Lib.hid hsl
    have HKK := Lib.hid hk
    clear hs hst hsl hw hb HI hk
    go_wp2_with (fail)
    refine (Code.put_sym _ _ _ _ ns s w5.heap.size w5.heap.size v _ _ HLC.out HCC.out HW.out HB.out.size HSL.out HR9.out).mono ?_
    rintro e w6 ⟨rfl, HQ⟩
    obtain ⟨v1, hW6, hC6⟩ := HQ.out
    have HB7 := Lib.hid (HB.out.trans (hC6.below (B := w5.heap.size) HB.out.size (fun t ht => by
     rcases ht with rfl | ht
     ·exact Nat.le_refl _
     ·exact own_base (Kd.own_of_R HW.out.2.1) t ht.symm)))
    rw [← HST.out] at hW6
    have HW6 := Lib.hid hW6
    clear hW6 hC6 HQ HW HB
    generalize Code.coded ns s = cd
    go_wp2_with (fail)
    go_roundg (ts.length - (k + 1))
    case measure => have := HKK.out; omega
    case rel => exact ⟨k + 1, by have := HKK.out; omega, by go_num, ⟨_, HW6.out⟩, HB7.out⟩
   ·obtain rfl : k = ts.length := by omega
    rw [List.take_length] at hw
    have HW := Lib.hid hw
    have HB := Lib.hid (HB5.out.trans (hb.mono HB5.out.size))
    have hz1 : ¬ 9223372036854775807 < (strOfNums (Tb.tabL ns)).size + (strOfNums (BP.pack (Code.stream ns ts))).size := by
     rw [strOfNums_size, strOfNums_size, BP.pack_length]
     have h1 := Tb.tabL_len _ ns (Nat.le_refl _)
     have h2 := HLN.out
     have h3 := Code.stream_le (Code.right_range HR9.out) ts
     omega
    clear hw hb HI hk
    go_wp2_with (fail)
    refine (Bits.bytes_any _ _ _ _ _ HW.out).mono ?_
    rintro e w6 ⟨rfl, rfl⟩
    go_wp2_with (fail)
    go_ret
    exact ⟨by rw [HCB.out]; rfl, HB.out⟩
 ·exact absurd (by intro t ht; have := HK.out t ht; unfold Hist.inR; omega) hg
end Go.Proofs.YtfbbcfhdjhiejaaGreat.Blk

/- Chapter 22: Lay, Put. -/
namespace Go.Proofs.YtfbbcfhdjhiejaaGreat.Blk
set_option linter.unusedVariables false
set_option linter.unusedSimpArgs false
open Go.RowKit Go.Proofs.YtfbbcfhdjhiejaaGreatW.PrintWords Go.Proofs.YtfbbcfhdjhiejaaGreatW.PrintMore Go.Proofs.YtfbbcfhdjhiejaaGreat.L Go.Proofs.YtfbbcfhdjhiejaaGreat.Texts Go.Proofs.YtfbbcfhdjhiejaaGreat.Dict Go.Proofs.YtfbbcfhdjhiejaaGreat.Ints
def numsB (ts : List Int) : ByteArray := ts.foldl (fun s t => s ++ Vari.numS t) ⟨#[]⟩
theorem numsB_snoc (ts : List Int) (t : Int) : numsB (ts ++ [t]) = numsB ts ++ Vari.numS t := by unfold numsB; rw [List.foldl_append]; rfl
theorem numsF_size : ∀ (ts : List Int) (s : ByteArray), (ts.foldl (fun s t => s ++ Vari.numS t) s).size ≤ s.size + 5 * ts.length
 | [], s => Nat.le_refl _
 | t :: ts, s => by
   have h := numsF_size ts (s ++ Vari.numS t)
   have h2 := Vari.numS_size t
   rw [ByteArray.size_append] at h
   rw [List.foldl_cons, List.length_cons]
   omega
theorem numsB_size (ts : List Int) : (numsB ts).size ≤ 5 * ts.length := by
 have := numsF_size ts ⟨#[]⟩
 have h0 : (⟨#[]⟩ : ByteArray).size = 0 := rfl
 unfold numsB
 omega
theorem means_pos {l : List ByteArray} (h : okTexts l) {t : Int} (h0 : 0 ≤ t) (h1 : t < 256 + (l.length : Int)) : decide (0 < (Mean.means l t).size) = true := by
 refine decide_eq_true ?_
 unfold Mean.means
 rw [if_neg (by omega)]
 by_cases h2 : t < 256
 ·rw [if_pos h2]
  exact Nat.zero_lt_one
 ·rw [if_neg h2]
  obtain ⟨k, hk⟩ := Int.eq_ofNat_of_zero_le (by omega : 0 ≤ t - 256)
  rw [hk]
  unfold atL inL
  rw [if_pos (decide_eq_true (by omega)), Int.toNat_natCast]
  have := (h.2 k (by omega)).1
  omega
def layP (l : List ByteArray) (how : Nat) (ts : List Int) : ByteArray := if how = 1 then codesB l ts else numsB ts
set_option maxRecDepth 100000 in
set_option maxHeartbeats 4000000 in
theorem lay_any (p B : Option Addr) (how m c : Nat) (l : List ByteArray) (ts : List Int) (w : World) (h : DP w p l) (hok : okTexts l) (ht : KI.C w B m ts) (hm : ts.length ≤ 1024) (h0 : ts.length ≠ 0) (hk : allTk l ts) (hhow : how ≤ 1) (hco : how = 1 → CodesOk l ts) :
  Calls Tryz.prog 38 #[.pointer p, .int .i64 how, .slice B m c] w fun e w' => e = .returned (.tuple #[.string (layP l how ts), .int .i64 0]) ∧ Below w.heap.size w w' := by
 have hml := ki_len ht
 subst hml
 have H := Lib.hid h
 have HT := Lib.hid ht
 have HK := Lib.hid hk
 have HOK := Lib.hid hok
 have HCO := Lib.hid hco
 have HH := Lib.hid hhow
 have e0 : ((ts.length : Int) == 0) = false := by simp; intro h; rw [h] at h0; exact h0 rfl
 have HL0 := Lib.hid (show ts.length ≤ 1024 from hm)
 clear h ht hk hco hok hhow h0
 go_enter Tryz.func38, Tryz.ntmps38
 go_wp2_with (fail)
 refine (coded_any _ _ HH.out).mono ?_
 rintro e w1 ⟨rfl, rfl⟩
 go_wp2_with (fail)
 go_loopg [25] ts.length (fun j i wr => ∃ k : Nat, k + j = ts.length ∧ i = .int .i64 k ∧ Hid (Below w1.heap.size w1 wr))
 case atStart => exact ⟨0, by omega, rfl, Below.refl _ _⟩
 case round =>
  obtain ⟨k, hk, rfl, HI⟩ := hrel
  have hb := HI.out
  by_cases hlt : k < ts.length
  ·obtain ⟨ad, rfl, x0⟩ := ints_at (Kd.C_below HT.out hb) k hlt
   have hsr := HK.out (ts.getD k 0) (by rw [List.getD_eq_getElem?_getD, List.getElem?_eq_getElem hlt]; exact List.getElem_mem hlt)
   obtain ⟨s, hs⟩ : ∃ s, ts.getD k 0 = s := ⟨_, rfl⟩
   rw [hs] at x0 hsr
   have HMP := Lib.hid (means_pos HOK.out hsr.1 hsr.2)
   have HSR := Lib.hid (show -(2 ^ 63) ≤ s ∧ s < 2 ^ 63 by have := HOK.out.1; omega)
   have i0 : (0 : Int) ≤ k := by omega
   have i1 : (k : Int) < (ts.length : Int) := by omega
   have i2 : ((k : Int)).toNat = k := by omega
   have HB := Lib.hid hb
   have HKK := Lib.hid hk
   clear hs hsr hb HI hk
   go_wp2_with (fail)
   refine (Mean.right_any _ l s _ (H.out.below HB.out) HSR.out).mono ?_
   rintro e w2 ⟨rfl, hb2⟩
   rw [HMP.out]
   have HB2 := Lib.hid (Ints.bel_trans HB.out HB.out.size hb2)
   clear hb2
   go_wp2_with (fail)
   go_roundg (ts.length - (k + 1))
   case measure => have := HKK.out; omega
   case rel => exact ⟨k + 1, by have := HKK.out; omega, by go_num, HB2.out⟩
  ·obtain rfl : k = ts.length := by omega
   have HB := Lib.hid hb
   clear hb HI hk
   obtain ⟨w5, hw5⟩ : ∃ x : World, x = wr := ⟨_, rfl⟩
   rw [← hw5] at HB ⊢
   clear hw5
   have hh : how = 0 ∨ how = 1 := by have := HH.out; omega
   rcases hh with rfl | rfl
   ·go_wp2_with (fail)
    go_loopg [10, 41] ts.length (fun j o i wr => ∃ k : Nat, k + j = ts.length ∧ i = .int .i64 k ∧ o = .string (numsB (ts.take k)) ∧ Hid (Below w1.heap.size w1 wr))
    case atStart => exact ⟨0, by omega, rfl, rfl, HB.out⟩
    case round =>
     obtain ⟨k, hk, rfl, rfl, HI⟩ := hrel
     have hb := HI.out
     by_cases hlt : k < ts.length
     ·obtain ⟨ad, rfl, x0⟩ := ints_at (Kd.C_below HT.out hb) k hlt
      have hsn : numsB (ts.take (k + 1)) = numsB (ts.take k) ++ Vari.numS (ts.getD k 0) := by rw [Ints.take_succ_getD ts k hlt, numsB_snoc]
      obtain ⟨s, hs⟩ : ∃ s, ts.getD k 0 = s := ⟨_, rfl⟩
      rw [hs] at x0 hsn
      have hz : ¬ 9223372036854775807 < (numsB (ts.take k)).size + (Vari.numS s).size := by
       have h1 := numsB_size (ts.take k)
       have h2 := List.length_take_le k ts
       have h3 := Vari.numS_size s
       have h4 := HL0.out
       omega
      have i0 : (0 : Int) ≤ k := by omega
      have i1 : (k : Int) < (ts.length : Int) := by omega
      have i2 : ((k : Int)).toNat = k := by omega
      have HB := Lib.hid hb
      have HKK := Lib.hid hk
      have HSN := Lib.hid hsn
      obtain ⟨o, ho⟩ : ∃ o, numsB (ts.take k) = o := ⟨_, rfl⟩
      rw [ho] at hz HSN ⊢
      clear hs hb HI hk hsn ho
      go_wp2_with (fail)
      refine (Vari.put_any s _).mono ?_
      rintro e w2 ⟨rfl, hb2⟩
      have HB2 := Lib.hid (Ints.bel_trans HB.out HB.out.size hb2)
      clear hb2
      generalize Vari.okN s = ok
      go_wp2_with (fail)
      go_roundg (ts.length - (k + 1))
      case measure => have := HKK.out; omega
      case rel => exact ⟨k + 1, by have := HKK.out; omega, by go_num, by rw [HSN.out], HB2.out⟩
     ·obtain rfl : k = ts.length := by omega
      rw [List.take_length]
      have HB := Lib.hid hb
      have HLP := Lib.hid (show layP l 0 ts = numsB ts from if_neg (by decide))
      clear hb HI hk
      go_wp2_with (fail)
      go_ret2
      exact ⟨by rw [HLP.out]; rfl, HB.out⟩
   ·have HLP := Lib.hid (show layP l 1 ts = codesB l ts from if_pos rfl)
    go_wp2_with (fail)
    refine (codes_any p B ts.length c l ts _ (H.out.below HB.out) HOK.out.1 (Kd.C_below HT.out HB.out) HL0.out HK.out (HCO.out trivial)).mono ?_
    rintro e w2 ⟨rfl, hb2⟩
    have HB2 := Lib.hid (Ints.bel_trans HB.out HB.out.size hb2)
    clear hb2
    go_wp2_with (fail)
    go_ret2
    exact ⟨by rw [HLP.out]; rfl, HB2.out⟩
/-- A block's kind and payload. -/
def putK (l : List ByteArray) (c : Cf) (b : ByteArray) : Nat := if (layP l c.code (toksP l c b)).size < b.size then 2 else 1
def putB (l : List ByteArray) (c : Cf) (b : ByteArray) : ByteArray := if (layP l c.code (toksP l c b)).size < b.size then layP l c.code (toksP l c b) else b
/-- What a block's tokens need. -/
def Ready (l : List ByteArray) (c : Cf) (b : ByteArray) : Prop := (toksP l c b).length ≤ 1024 ∧ (toksP l c b).length ≠ 0 ∧ allTk l (toksP l c b) ∧ (c.code = 1 → CodesOk l (toksP l c b))
set_option maxRecDepth 100000 in
set_option maxHeartbeats 4000000 in
theorem put_any (p : Option Addr) (l : List ByteArray) (c : Cf) (b : ByteArray) (w : World) (h : DP w p l) (hok : okTexts l) (hc : c.ok) (h0 : b.size ≠ 0) (hb : b.size ≤ c.block) (hr : Ready l c b) :
  Calls Tryz.prog 36 #[.pointer p, c.val, .string b] w fun e w' => e = .returned (.tuple #[.int .i64 (putK l c b), .string (putB l c b), .int .i64 0]) ∧ Below w.heap.size w w' := by
 have H := Lib.hid h
 have HOK := Lib.hid hok
 have HC := Lib.hid hc
 have H0 := Lib.hid h0
 have HBB := Lib.hid hb
 have HR := Lib.hid hr
 have HV : c.val = .agg #[.int .i64 c.parse, .int .i64 c.code, .int .i64 c.block, .int .i64 c.window] := rfl
 have HT := Lib.hid (fun (W : World) (hW : DP W p l) => tokens_any p l c b W hW hok hc h0 hb)
 have HK := Lib.hid (show putK l c b = if (layP l c.code (toksP l c b)).size < b.size then 2 else 1 from rfl)
 have HP := Lib.hid (show putB l c b = if (layP l c.code (toksP l c b)).size < b.size then layP l c.code (toksP l c b) else b from rfl)
 obtain ⟨K, hK⟩ : ∃ K, putK l c b = K := ⟨_, rfl⟩
 obtain ⟨P, hP⟩ : ∃ P, putB l c b = P := ⟨_, rfl⟩
 obtain ⟨ts, hts⟩ : ∃ ts, toksP l c b = ts := ⟨_, rfl⟩
 rw [HV] at HT ⊢
 unfold Ready at HR
 rw [hts] at HT HR HK HP
 rw [hK] at HK ⊢
 rw [hP] at HP ⊢
 clear h hok hc h0 hb hr hK hP hts HV
 go_enter Tryz.func36, Tryz.ntmps36
 go_wp2_with (fail)
 have HD1 := Lib.hid (show DP (w.alloc (.cells #[.int .i64 c.parse, .int .i64 c.code, .int .i64 c.block, .int .i64 c.window] 24 (0, 0))) p l from H.out.below ((Below.refl _ w).alloc (Nat.le_refl _) _))
 refine Calls.mono (HT.out _ HD1.out) ?_
 rintro e w2 ⟨v2, rfl, hr2, hb2⟩
 obtain ⟨A2, c2, rfl⟩ := Kd.R_slice hr2
 have HR2 := Lib.hid (Kd.R_reads' hr2).2.2
 have HB2 := Lib.hid (Ints.bel_trans ((Below.refl _ w).alloc (Nat.le_refl _) (.cells #[.int .i64 c.parse, .int .i64 c.code, .int .i64 c.block, .int .i64 c.window] 24 (0, 0))) (by simp) hb2)
 have hblk : w2.heap[w.heap.size]? = some (.cells #[.int .i64 c.parse, .int .i64 c.code, .int .i64 c.block, .int .i64 c.window] 24 (0, 0)) := (hb2.block _ (by simp)).trans (heap_alloc_self w _)
 obtain ⟨k0, k1, k2, k3⟩ := four hblk
 clear hr2 hb2 hblk k0 k2 k3
 go_wp2_with (fail)
 refine (lay_any p A2 c.code _ c2 l ts _ (H.out.below HB2.out) HOK.out HR2.out HR.out.1 HR.out.2.1 HR.out.2.2.1 HC.out.2.1 HR.out.2.2.2).mono ?_
 rintro e w3 ⟨rfl, hb3⟩
 have HB3 := Lib.hid (Ints.bel_trans HB2.out HB2.out.size hb3)
 obtain ⟨L, hL⟩ : ∃ L, layP l c.code ts = L := ⟨_, rfl⟩
 rw [hL] at HK HP ⊢
 clear hb3 k1 hL
 by_cases hlt : L.size < b.size
 ·have hlti : (L.size : Int) < (b.size : Int) := by omega
  have HK2 := Lib.hid (show K = 2 by rw [HK.out, if_pos hlt])
  have HP2 := Lib.hid (show P = L by rw [HP.out, if_pos hlt])
  clear hlt
  go_wp2_with (fail)
  exact bodyPost_ret (v := .tuple #[.int .i64 2, .string L, .int .i64 0]) (by simp [results, Tryz.results36, go_sem]) rfl ⟨by rw [HK2.out, HP2.out]; rfl, HB3.out⟩
 ·have hlti : ¬ (L.size : Int) < (b.size : Int) := by omega
  have HK2 := Lib.hid (show K = 1 by rw [HK.out, if_neg hlt])
  have HP2 := Lib.hid (show P = b by rw [HP.out, if_neg hlt])
  clear hlt
  go_wp2_with (fail)
  exact bodyPost_ret (v := .tuple #[.int .i64 1, .string b, .int .i64 0]) (by simp [results, Tryz.results36, go_sem]) rfl ⟨by rw [HK2.out, HP2.out]; rfl, HB3.out⟩
end Go.Proofs.YtfbbcfhdjhiejaaGreat.Blk

/- Numbers of one to five bytes are read. -/
namespace Go.Proofs.YtfbbcfhdjhiejaaGreat.Vari
set_option linter.unusedVariables false
set_option linter.unusedSimpArgs false
open Go.RowKit Go.Proofs.YtfbbcfhdjhiejaaGreatW.PrintWords Go.Proofs.YtfbbcfhdjhiejaaGreatW.PrintMore Go.Proofs.YtfbbcfhdjhiejaaGreat.L Go.Proofs.YtfbbcfhdjhiejaaGreat.Ints Go.Proofs.YtfbbcfhdjhiejaaGreat.VariSpec Go.Proofs.YtfbbcfhdjhiejaaGreat.Bits
def getN (s : ByteArray) : Int × Int × Int := dec (bytesOf s) 0 0
theorem bytesOf_drop (s : ByteArray) (k : Nat) (h : k < s.size) : (bytesOf s).drop k = (s[k].toNat : Int) :: (bytesOf s).drop (k + 1) := by
 rw [List.drop_eq_getElem_cons (by rw [bytes_len]; exact h)]
 congr 1
 unfold bytesOf
 rw [List.getElem_map]
 rfl
theorem or_byte (k c : Nat) (x : Int) (hk : k ≤ 4) (h0 : 0 ≤ x) (h1 : x < 128 ^ k) : bits .or .i64 x (wrap64 ((c : Int) % 128 * 2 ^ (7 * k))) = x + (c : Int) % 128 * 128 ^ k := by
 obtain ⟨X, rfl⟩ := Int.eq_ofNat_of_zero_le h0
 have e : (128 : Int) ^ k = ((2 ^ (7 * k) : Nat) : Int) := by rw [Nat.pow_mul]; exact_mod_cast rfl
 have e2 : (2 : Int) ^ (7 * k) = ((2 ^ (7 * k) : Nat) : Int) := by exact_mod_cast rfl
 rw [e] at h1 ⊢
 rw [e2]
 have hp : 2 ^ (7 * k) ≤ 2 ^ 28 := Nat.pow_le_pow_right (by decide) (by omega)
 generalize hP : 2 ^ (7 * k) = P at *
 have hc : c % 128 * P ≤ 127 * P := Nat.mul_le_mul_right _ (by omega)
 have hy : (c : Int) % 128 * (P : Int) = ((c % 128 * P : Nat) : Int) := by simp
 rw [hy]
 have hw : wrap64 ((c % 128 * P : Nat) : Int) = ((c % 128 * P : Nat) : Int) := by unfold wrap64; omega
 rw [hw]
 have hb := (bits_nat .i64 62 (by decide) BP.i64_small X (c % 128 * P) (by omega) (by omega)).2
 rw [hb, Nat.or_comm, nat_join (7 * k) _ X (by rw [hP]; exact Nat.mul_mod_left _ _) (by rw [hP]; omega)]
 omega
theorem dec_step (c : Nat) (cs : List Int) (i : Nat) (n : Int) : dec ((c : Int) :: cs) i n = if i = 4 ∧ (15 : Int) < (c : Int) then (0, 0, 4) else if 0 < i ∧ (c : Int) = 0 then (0, 0, 3) else if (c : Int) < 128 then (n + (c : Int) * 128 ^ i, (i : Int) + 1, 0) else dec cs (i + 1) (n + (c : Int) % 128 * 128 ^ i) := rfl
theorem next_bound (k c : Nat) (x : Int) (h0 : 0 ≤ x) (h1 : x < 128 ^ k) : 0 ≤ x + (c : Int) % 128 * 128 ^ k ∧ x + (c : Int) % 128 * 128 ^ k < 128 ^ (k + 1) := by
 have hp : (0 : Int) < 128 ^ k := Int.pow_pos (by omega)
 have e : (128 : Int) ^ (k + 1) = 128 ^ k * 128 := Int.pow_succ _ _
 rw [e]
 generalize (128 : Int) ^ k = P at *
 have hm : 0 ≤ (c : Int) % 128 ∧ (c : Int) % 128 ≤ 127 := by omega
 generalize (c : Int) % 128 = d at *
 have a1 : 0 ≤ d * P := Int.mul_nonneg hm.1 (by omega)
 have a2 : d * P ≤ 127 * P := Int.mul_le_mul_of_nonneg_right hm.2 (by omega)
 omega
/-- Which way a byte goes. -/
inductive Way (k c : Nat) : Prop
 | range : k = 4 → 15 < c → Way k c
 | form : 0 < k → c = 0 → Way k c
 | last : ¬ (k = 4 ∧ 15 < c) → ¬ (0 < k ∧ c = 0) → c < 128 → Way k c
 | on : k < 4 → ¬ (0 < k ∧ c = 0) → 128 ≤ c → Way k c
theorem way (k c : Nat) (hk : k ≤ 4) : Way k c := by
 by_cases h1 : k = 4 ∧ 15 < c
 ·exact .range h1.1 h1.2
 ·by_cases h2 : 0 < k ∧ c = 0
  ·exact .form h2.1 h2.2
  ·by_cases h3 : c < 128
   ·exact .last h1 h2 h3
   ·exact .on (by omega) h2 (by omega)
set_option maxRecDepth 100000 in
set_option maxHeartbeats 4000000 in
theorem get_any (s : ByteArray) (w : World) (hs : s.size ≤ 140737488351232) :
  Calls Tryz.prog 184 #[.string s] w fun e w' => e = .returned (.tuple #[.int .i64 (getN s).1, .int .i64 (getN s).2.1, .int .i64 (getN s).2.2]) ∧ w' = w := by
 obtain ⟨R, hR⟩ : ∃ R, getN s = R := ⟨_, rfl⟩
 have HR := Lib.hid hR
 rw [hR]
 clear hR
 go_enter Tryz.func184, Tryz.ntmps184
 go_wp2_with (fail)
 go_loopg [5, 6] 5 (fun j n i wr => ∃ (k : Nat) (x : Int), k + j = 5 ∧ k ≤ 4 ∧ k ≤ s.size ∧ i = .int .i64 k ∧ n = .int .i64 x ∧ wr = w ∧ Hid (0 ≤ x ∧ x < 128 ^ k ∧ dec ((bytesOf s).drop k) k x = R))
 case atStart => exact ⟨0, 0, rfl, by omega, Nat.zero_le _, rfl, rfl, rfl, by decide, by decide, by rw [List.drop_zero]; exact HR.out⟩
 case round =>
  obtain ⟨k, x, hk, hk4, hks, rfl, rfl, rfl, HI⟩ := hrel
  by_cases hlt : k < s.size
  ·obtain ⟨h0, h1, h2⟩ := HI.out
   rw [bytesOf_drop s k hlt, dec_step] at h2
   have hc := UInt8.toNat_lt s[k]
   have HOB := Lib.hid (or_byte k s[k].toNat x hk4 h0 h1)
   have HNB := Lib.hid (next_bound k s[k].toNat x h0 h1)
   have e1 : ((k : Int) == (s.size : Int)) = false := beq_eq_false_iff_ne.2 (by omega)
   have i1 : (k : Int) < (s.size : Int) := by omega
   have HK := Lib.hid hk
   have w4 := way k s[k].toNat hk4
   rcases w4 with ⟨g1, g2⟩ | ⟨g1, g2⟩ | ⟨g1, g2, g3⟩ | ⟨g1, g2, g3⟩
   ·rw [if_pos ⟨g1, by omega⟩] at h2
    have e2 : ((k : Int) == 4) = true := beq_iff_eq.2 (by omega)
    have g2i : (15 : Int) < (s[k].toNat : Int) := by omega
    have H2 := Lib.hid h2
    clear h0 h1 h2 HI hk g1 g2 hks
    go_wp2_with (fail)
    go_ret3
    rw [← H2.out]
    exact ⟨rfl, rfl⟩
   ·have e2 : ((k : Int) == 4) = false ∨ (((k : Int) == 4) = true ∧ decide ((15 : Int) < (s[k].toNat : Int)) = false) := by
     by_cases h : k = 4
     ·exact .inr ⟨beq_iff_eq.2 (by omega), decide_eq_false (by omega)⟩
     ·exact .inl (beq_eq_false_iff_ne.2 (by omega))
    rw [if_neg (by omega), if_pos ⟨g1, by omega⟩] at h2
    have e3 : 0 < k := g1
    have e4 : ((s[k].toNat : Int) == 0) = true := beq_iff_eq.2 (by omega)
    have H2 := Lib.hid h2
    clear h0 h1 h2 HI hk g1 g2 hks
    rcases e2 with e2 | ⟨e2, e5⟩
    all_goals
     go_wp2_with (fail)
     go_ret3
     rw [← H2.out]
     exact ⟨rfl, rfl⟩
   ·have e2 : ((k : Int) == 4) = false ∨ (((k : Int) == 4) = true ∧ decide ((15 : Int) < (s[k].toNat : Int)) = false) := by
     by_cases h : k = 4
     ·exact .inr ⟨beq_iff_eq.2 (by omega), decide_eq_false (by omega)⟩
     ·exact .inl (beq_eq_false_iff_ne.2 (by omega))
    have e3 : (¬ 0 < k) ∨ (0 < k ∧ ((s[k].toNat : Int) == 0) = false) := by
     by_cases h : k = 0
     ·exact .inl (by omega)
     ·exact .inr ⟨by omega, beq_eq_false_iff_ne.2 (by omega)⟩
    rw [if_neg (by omega), if_neg (by omega), if_pos (by omega)] at h2
    have e6 : (s[k].toNat : Int) < 128 := by omega
    have H2 := Lib.hid (show R = (bits .or .i64 x (wrap64 ((s[k].toNat : Int) % 128 * 2 ^ (7 * k))), (k : Int) + 1, 0) by rw [HOB.out, ← h2, show (s[k].toNat : Int) % 128 = (s[k].toNat : Int) by omega])
    clear h0 h1 h2 HI hk g1 g2 g3 hks
    rcases e2 with e2 | ⟨e2, e5⟩
    all_goals
     rcases e3 with e3 | ⟨e3, e7⟩
     all_goals
      go_wp2_with (fail)
      go_ret3
      rw [H2.out]
      exact ⟨rfl, rfl⟩
   ·have e2 : ((k : Int) == 4) = false := beq_eq_false_iff_ne.2 (by omega)
    have e3 : (¬ 0 < k) ∨ (0 < k ∧ ((s[k].toNat : Int) == 0) = false) := by
     by_cases h : k = 0
     ·exact .inl (by omega)
     ·exact .inr ⟨by omega, beq_eq_false_iff_ne.2 (by omega)⟩
    rw [if_neg (by omega), if_neg (by omega), if_neg (by omega)] at h2
    have e6 : (128 : Int) ≤ (s[k].toNat : Int) := by omega
    have H2 := Lib.hid h2
    clear h0 h1 h2 HI hk g2 g3 hks
    rcases e3 with e3 | ⟨e3, e7⟩
    all_goals
     go_wp2_with (fail)
     go_roundg (5 - (k + 1))
     case measure => have := HK.out; omega
     case rel => exact ⟨k + 1, _, by have := HK.out; omega, by omega, by omega, by go_num, rfl, rfl, by rw [HOB.out]; exact ⟨HNB.out.1, HNB.out.2, H2.out⟩⟩
  ·obtain rfl : k = s.size := by omega
   have H2 := Lib.hid (show R = (0, 0, 2) by rw [← HI.out.2.2, List.drop_of_length_le (by rw [bytes_len]; omega)]; rfl)
   have e1 : ((s.size : Int) == (s.size : Int)) = true := beq_iff_eq.2 rfl
   clear HI
   go_wp2_with (fail)
   go_ret3
   rw [H2.out]
   exact ⟨rfl, rfl⟩
end Go.Proofs.YtfbbcfhdjhiejaaGreat.Vari
