/- Of the parts WLast, WApart, WFoot, WShare, WN, WMore, Lib, Sums, Fault, VariSpec: what the rows use. -/
import Derived.Test.YtfbbcfhdjhiejaaGreatZa1
import Derived.Test.YtfbbcfhdjhiejaaGreatZa2
import Derived.OrdersHeld
import Derived.Deep.RegionHeld3
import Derived.Laws.BitsLemmas
import Derived.RowKit
import Derived.WalkKit
import Derived.WalkSpells
import Derived.WalkLawsBesides
import Derived.Deep.QuietTactic
import Derived.BigQuiet
import Derived.Deep.LoopGhost
import Derived.Deep.DeepCutAuto
import Derived.Deep.CutBlock
import Derived.Deep.RegionLaw
import Derived.Lib.Hide
import Derived.Test.YtfbbcfhdjhiejaaGreatProg
import Derived.Laws.BitsAll

namespace Go.Proofs.YtfbbcfhdjhiejaaGreatW.PrintLast
section
variable {P : Program} {ops : Array Oper} {Q : Exit → Act → World → Prop} {md : Region.Mode} {S : World → Prop} {ds : List Nat}
def Region.reachB (md : Region.Mode) (ops : Array Oper) (i : Nat) : Nat → Nat → Bool
 | 0, _ => false
 | fuel + 1, d => match ops[d]? with
   | some o => o.after.any fun e => Region.binds md e && (e.on == i || Region.reachB md ops i fuel e.on)
   | none => false
def Region.closedB (md : Region.Mode) (ops : Array Oper) (listed : Array Bool) : Bool :=
 (List.range ops.size).all fun j => !listed.getD j false || match ops[j]? with
  | some o => o.after.all fun e => !Region.binds md e || listed.getD e.on false
  | none => true
def Region.lastB (md : Region.Mode) (ops : Array Oper) (listed : Array Bool) (ds : List Nat) (i : Nat) : Bool :=
 ds.all fun d => listed.getD d true || Region.reachB md ops i ops.size d
def ListedClosed (md : Region.Mode) (ops : Array Oper) (listed : Array Bool) : Prop :=
 ∀ j oj, ops[j]? = some oj → listed.getD j false = true → ∀ e ∈ oj.after, Region.binds md e = true → listed.getD e.on false = true
theorem Region.closedB_spec {listed : Array Bool} (h : Region.closedB md ops listed = true) : ListedClosed md ops listed := by
 intro j oj hj hl e he hb
 have hlt : j < ops.size := (Array.getElem?_eq_some_iff.1 hj).1
 have h1 := List.all_eq_true.1 h j (List.mem_range.2 hlt)
 simp only [hl, hj, Bool.not_true, Bool.false_or] at h1
 have h2 := Array.all_eq_true_iff_forall_mem.1 h1 e he
 simpa [hb] using h2
theorem ListedClosed.set {listed : Array Bool} {i : Nat} (h : ListedClosed md ops listed) (hi : i ∈ Region.ready md ops listed) : ListedClosed md ops (listed.setIfInBounds i true) := by
 obtain ⟨_, oi, hoi, hall⟩ := mem_ready.1 hi
 intro j oj hj hl e he hb
 by_cases hij : i = j
 ·subst hij
  have : oj = oi := Option.some.inj (hj.symm.trans hoi)
  subst this
  exact getD_set_true (hall e he hb)
 ·rw [getD_set_ne false hij] at hl
  exact getD_set_true (h j oj hj hl e he hb)
theorem Region.reach_listed {listed : Array Bool} {i : Nat} (hc : ListedClosed md ops listed) : ∀ (fuel d : Nat), Region.reachB md ops i fuel d = true → listed.getD d false = true → listed.getD i false = true
 | 0, _, h, _ => by simp [Region.reachB] at h
 | fuel + 1, d, h, hl => by
   unfold Region.reachB at h
   cases ho : ops[d]? with
   | none => rw [ho] at h; simp at h
   | some o =>
     rw [ho] at h
     obtain ⟨e, he, h1⟩ := Array.any_eq_true'.1 h
     simp only [Bool.and_eq_true, Bool.or_eq_true, beq_iff_eq] at h1
     have hle := hc d o ho hl e he h1.1
     rcases h1.2 with h2 | h2
     ·rw [← h2]; exact hle
     ·exact Region.reach_listed hc fuel e.on h2 hle
theorem Region.reach_not_ready {listed : Array Bool} {i d fuel : Nat} (hc : ListedClosed md ops listed) (hr : Region.reachB md ops i fuel d = true) (hun : listed.getD i true = false) : d ∉ Region.ready md ops listed := by
 intro hd
 obtain ⟨_, o, ho, hall⟩ := mem_ready.1 hd
 have hi : listed.getD i false = true := by
  cases fuel with
  | zero => simp [Region.reachB] at hr
  | succ n =>
    unfold Region.reachB at hr
    rw [ho] at hr
    obtain ⟨e, he, h1⟩ := Array.any_eq_true'.1 hr
    simp only [Bool.and_eq_true, Bool.or_eq_true, beq_iff_eq] at h1
    have hle := hall e he h1.1
    rcases h1.2 with h2 | h2
    ·rw [← h2]; exact hle
    ·exact Region.reach_listed hc n e.on h2 hle
 rcases Nat.lt_or_ge i listed.size with h' | h'
 ·simp [h'] at hun hi
  rw [hun] at hi
  cases hi
 ·simp [Array.getElem?_eq_none h'] at hun
def wpAnyLast (P : Program) (md : Region.Mode) (ops : Array Oper) (Q : Exit → Act → World → Prop) (S : World → Prop) (ds : List Nat) : Nat → Array Bool → Act → World → Prop
 | 0, listed, a, w => Region.ready md ops listed = [] ∧ Q .normal a w
 | fuel + 1, listed, a, w =>
   (Region.ready md ops listed = [] → Q .normal a w) ∧
   ∀ i ∈ Region.ready md ops listed, wpOp P ops Q i (fun a' w' => (i ∉ ds → S w → S w') ∧ wpAnyLast P md ops Q S ds fuel (listed.setIfInBounds i true) a' w') a w
theorem wpAny_of_last : ∀ (fuel : Nat) (listed : Array Bool) (a : Act) (w : World), wpAnyLast P md ops Q S ds fuel listed a w → wpAny P md ops Q fuel listed a w
 | 0, _, _, _, h => h
 | fuel + 1, _, _, _, h => ⟨h.1, fun i hi => wpOp_mono (fun a' w' h' => wpAny_of_last fuel _ a' w' h'.2) (h.2 i hi)⟩
theorem wpAnyLast_first {i : Nat} {oi : Oper} {v : Value} (hi : ops[i]? = some oi) (hsel : ∀ (j : Nat) (o : Oper) cs b, ops[j]? = some o → o.op ≠ .select cs b)
  (hQ : ∀ c a w, Q (.panic c) (a.put oi.dst v) w → Q (.panic c) a w) (n : Nat) :
  ∀ (fuel : Nat) (listed : Array Bool) (a : Act) (w : World),
   (∀ j oj, ops[j]? = some oj → j ≠ i → listed.getD j true = false → (∀ e ∈ oj.after, Region.binds md e = true → e.on ≠ i) → oi.apart ops oj = true) →
   ListedClosed md ops listed → (∀ d ∈ ds, listed.getD d true = false → Region.reachB md ops i n d = true) →
   i ∈ Region.ready md ops listed → YieldsIf P ops S oi v a → S w →
   wpAnyLast P md ops Q S ds fuel (listed.setIfInBounds i true) (a.put oi.dst v) w → wpAnyLast P md ops Q S ds (fuel + 1) listed a w := by
 intro fuel
 induction fuel with
 | zero =>
   intro listed a w _ _ _ hr hy hS H
   refine ⟨fun h => (by rw [h] at hr; cases hr), fun j hj => ?_⟩
   by_cases hji : j = i
   ·subst hji; exact hy.wpOp hi hS ⟨fun _ h => h, H⟩
   ·have := ready_mono hj hji
    rw [H.1] at this
    cases this
 | succ fuel ih =>
   intro listed a w hfree hc hd hr hy hS H
   refine ⟨fun h => (by rw [h] at hr; cases hr), fun j hj => ?_⟩
   by_cases hji : j = i
   ·subst hji; exact hy.wpOp hi hS ⟨fun _ h => h, H⟩
   ·have h1 := H.2 j (ready_mono hj hji)
    obtain ⟨hjun, oj, hoj, hall⟩ := mem_ready.1 hj
    have hiun := (mem_ready.1 hr).1
    have hnot : ∀ e ∈ oj.after, Region.binds md e = true → e.on ≠ i := fun e he hb heq => by
     have h1 := hall e he hb
     rw [heq] at h1
     rcases Nat.lt_or_ge i listed.size with h' | h'
     ·simp [h'] at hiun h1; rw [hiun] at h1; cases h1
     ·simp [Array.getElem?_eq_none h'] at h1
    have hjd : j ∉ ds := fun hm => Region.reach_not_ready hc (hd j hm hjun) hiun hj
    have h2 := wpOp_putIf hoj (hfree j oj hoj hji hjun hnot) (fun cs b => hsel i oi cs b hi) (fun cs b => hsel j oj cs b hoj) hQ hy h1
    have hfree' : ∀ k ok, ops[k]? = some ok → k ≠ i → (listed.setIfInBounds j true).getD k true = false →
      (∀ e ∈ ok.after, Region.binds md e = true → e.on ≠ i) → oi.apart ops ok = true := fun k ok hk hki hun hno => by
     refine hfree k ok hk hki ?_ hno
     by_cases hjk : j = k
     ·subst hjk; exact hjun
     ·rw [getD_set_ne true hjk] at hun; exact hun
    have hd' : ∀ d ∈ ds, (listed.setIfInBounds j true).getD d true = false → Region.reachB md ops i n d = true := fun d hm hun => by
     refine hd d hm ?_
     by_cases hjk : j = d
     ·subst hjk; exact hjun
     ·rw [getD_set_ne true hjk] at hun; exact hun
    refine wpOp_mono (fun a' w' h3 => ⟨h3.2.1, ih (listed.setIfInBounds j true) a' w' hfree' (hc.set hj) hd' (ready_mono hr (Ne.symm hji)) h3.1 (h3.2.1 hjd hS) ?_⟩) h2
    rw [Array.setIfInBounds_comm _ _ hji]
    exact h3.2.2
theorem wpAnyLast_any {i : Nat} {oi : Oper} {v : Value} (hi : ops[i]? = some oi) (hsel : ∀ (j : Nat) (o : Oper) cs b, ops[j]? = some o → o.op ≠ .select cs b)
  (hQ : ∀ c a w, Q (.panic c) (a.put oi.dst v) w → Q (.panic c) a w) :
  ∀ (fuel : Nat) (listed : Array Bool) (a : Act) (w : World),
   (∀ j oj, ops[j]? = some oj → j ≠ i → listed.getD j true = false → (∀ e ∈ oj.after, Region.binds md e = true → e.on ≠ i) → oi.apart ops oj = true) →
   i ∈ Region.ready md ops listed → Yields P ops oi v a →
   wpAnyLast P md ops Q S ds fuel (listed.setIfInBounds i true) (a.put oi.dst v) w → wpAnyLast P md ops Q S ds (fuel + 1) listed a w := by
 intro fuel
 induction fuel with
 | zero =>
   intro listed a w _ hr hy H
   refine ⟨fun h => (by rw [h] at hr; cases hr), fun j hj => ?_⟩
   by_cases hji : j = i
   ·subst hji; exact (hy.yieldsIf (S := fun _ => True)).wpOp hi trivial ⟨fun _ h => h, H⟩
   ·have := ready_mono hj hji
    rw [H.1] at this
    cases this
 | succ fuel ih =>
   intro listed a w hfree hr hy H
   refine ⟨fun h => (by rw [h] at hr; cases hr), fun j hj => ?_⟩
   by_cases hji : j = i
   ·subst hji; exact (hy.yieldsIf (S := fun _ => True)).wpOp hi trivial ⟨fun _ h => h, H⟩
   ·have h1 := H.2 j (ready_mono hj hji)
    obtain ⟨hjun, oj, hoj, hall⟩ := mem_ready.1 hj
    have hiun := (mem_ready.1 hr).1
    have hnot : ∀ e ∈ oj.after, Region.binds md e = true → e.on ≠ i := fun e he hb heq => by
     have h1 := hall e he hb
     rw [heq] at h1
     rcases Nat.lt_or_ge i listed.size with h' | h'
     ·simp [h'] at hiun h1; rw [hiun] at h1; cases h1
     ·simp [Array.getElem?_eq_none h'] at h1
    have h2 := wpOp_put hoj (hfree j oj hoj hji hjun hnot) (fun cs b => hsel i oi cs b hi) (fun cs b => hsel j oj cs b hoj) hQ hy h1
    have hfree' : ∀ k ok, ops[k]? = some ok → k ≠ i → (listed.setIfInBounds j true).getD k true = false →
      (∀ e ∈ ok.after, Region.binds md e = true → e.on ≠ i) → oi.apart ops ok = true := fun k ok hk hki hun hno => by
     refine hfree k ok hk hki ?_ hno
     by_cases hjk : j = k
     ·subst hjk; exact hjun
     ·rw [getD_set_ne true hjk] at hun; exact hun
    refine wpOp_mono (fun a' w' h3 => ⟨h3.2.1, ih (listed.setIfInBounds j true) a' w' hfree' (ready_mono hr (Ne.symm hji)) h3.1 ?_⟩) h2
    rw [Array.setIfInBounds_comm _ _ hji]
    exact h3.2.2
theorem wpAnyLast_take {i : Nat} {oi : Oper} {v : Value} {fuel : Nat} {listed : Array Bool} {a : Act} {w : World} (hi : ops[i]? = some oi)
  (hs : Region.noSelect ops = true) (hf : Region.free md ops listed i = true) (hr : (Region.ready md ops listed).contains i = true)
  (hc : Region.closedB md ops listed = true) (hl : Region.lastB md ops listed ds i = true)
  (hQ : ∀ c a w, Q (.panic c) (a.put oi.dst v) w → Q (.panic c) a w) (hy : YieldsIf P ops S oi v a) (hS : S w)
  (h : wpAnyLast P md ops Q S ds fuel (listed.setIfInBounds i true) (a.put oi.dst v) w) : wpAnyLast P md ops Q S ds (fuel + 1) listed a w :=
 wpAnyLast_first hi (Region.noSelect_spec hs) hQ ops.size fuel listed a w (Region.free_spec hi hf) (Region.closedB_spec hc)
  (fun d hm hun => by have := List.all_eq_true.1 hl d hm; rw [hun] at this; simpa using this) (by simpa using hr) hy hS h
theorem wpAnyLast_all {rs : List Nat} {fuel : Nat} {listed : Array Bool} {a : Act} {w : World} (hr : Region.ready md ops listed = rs) (hne : rs ≠ [])
  (h : ∀ i ∈ rs, wpOp P ops Q i (fun a' w' => (i ∉ ds → S w → S w') ∧ wpAnyLast P md ops Q S ds fuel (listed.setIfInBounds i true) a' w') a w) : wpAnyLast P md ops Q S ds (fuel + 1) listed a w :=
 ⟨fun h0 => absurd (hr ▸ h0) hne, hr ▸ h⟩
theorem wpAnyLast_done {listed : Array Bool} {a : Act} {w : World} (hr : Region.ready md ops listed = []) (h : Q .normal a w) :
  ∀ fuel, wpAnyLast P md ops Q S ds fuel listed a w
 | 0 => ⟨hr, h⟩
 | _ + 1 => ⟨fun _ => h, by rw [hr]; simp⟩
theorem wp_region_last {id : Nat} {a : Act} {w : World} (hm : P.follows .mixedOrders = true)
  (h : wpAnyLast P .any ops Q S ds ops.size (Array.replicate ops.size false) a { w with drawn := w.drawn + 1 }) : (Code.region id ops true).wp P Q a w :=
 wp_region_any hm (wpAny_of_last _ _ _ _ h)
end
section
variable {P : Program} {ops : Array Oper} {Q : Exit → Act → World → Prop} {md : Region.Mode} {S : World → Prop} {ds : List Nat}
def AllReadyL (P : Program) (md : Region.Mode) (ops : Array Oper) (Q : Exit → Act → World → Prop) (S : World → Prop) (ds : List Nat) (fuel : Nat) (listed : Array Bool) (a : Act) (w : World) (rs : List Nat) : Prop :=
 ∀ i ∈ rs, wpOp P ops Q i (fun a' w' => (i ∉ ds → S w → S w') ∧ wpAnyLast P md ops Q S ds fuel (listed.setIfInBounds i true) a' w') a w
theorem AllReadyL.nil {fuel : Nat} {listed : Array Bool} {a : Act} {w : World} : AllReadyL P md ops Q S ds fuel listed a w [] := fun _ h => by cases h
theorem AllReadyL.cons {fuel : Nat} {listed : Array Bool} {a : Act} {w : World} {i : Nat} {o : Oper} {rs : List Nat} (ho : ops[i]? = some o) (hd : i ∉ ds)
  (h : ∀ K' : Act → World → Prop, Shut (∀ a w, S w → (S w → wpAnyLast P md ops Q S ds fuel (listed.setIfInBounds i true) a w) → K' a w) → if Region.wanted o (yielded ops a.tmps) = true then Oper.wp P o a w K' Q else K' (a.put o.dst undef) w)
  (hs : AllReadyL P md ops Q S ds fuel listed a w rs) : AllReadyL P md ops Q S ds fuel listed a w (i :: rs) := fun j hj => by
 rcases List.mem_cons.1 hj with rfl | hj
 ·exact wpOp_step ho (fun K' hK => h K' (fun a w hS hW => hK a w ⟨fun _ _ => hS, hW hS⟩))
 ·exact hs j hj
theorem AllReadyL.cons_last {fuel : Nat} {listed : Array Bool} {a : Act} {w : World} {i : Nat} {o : Oper} {rs : List Nat} (ho : ops[i]? = some o) (hd : i ∈ ds)
  (h : ∀ K' : Act → World → Prop, Shut (∀ a w, wpAnyLast P md ops Q S ds fuel (listed.setIfInBounds i true) a w → K' a w) → if Region.wanted o (yielded ops a.tmps) = true then Oper.wp P o a w K' Q else K' (a.put o.dst undef) w)
  (hs : AllReadyL P md ops Q S ds fuel listed a w rs) : AllReadyL P md ops Q S ds fuel listed a w (i :: rs) := fun j hj => by
 rcases List.mem_cons.1 hj with rfl | hj
 ·exact wpOp_step ho (fun K' hK => h K' (fun a w hW => hK a w ⟨fun hn => absurd hd hn, hW⟩))
 ·exact hs j hj
theorem wpAnyLast_ready {rs : List Nat} {fuel : Nat} {listed : Array Bool} {a : Act} {w : World} (hr : Region.ready md ops listed = rs) (hne : rs ≠ [])
  (h : AllReadyL P md ops Q S ds fuel listed a w rs) : wpAnyLast P md ops Q S ds (fuel + 1) listed a w := wpAnyLast_all hr hne h
theorem start_ {id n : Nat} {a : Act} {w : World} (l : Array Bool) (hm : P.follows .mixedOrders = true) (hn : ops.size = n) (hl : Array.replicate n false = l) (hS : S w.drew)
  (h : S w.drew → wpAnyLast P .any ops Q S ds n l a w.drew) : (Code.region id ops true).wp P Q a w := by
 subst hn
 subst hl
 exact wp_region_last hm (h hS)
def takeB (md : Region.Mode) (ops : Array Oper) (ds : List Nat) (l l' : Array Bool) (i : Nat) : Bool :=
 Region.noSelect ops && Region.free md ops l i && (Region.ready md ops l).contains i && Region.closedB md ops l && Region.lastB md ops l ds i && (l.setIfInBounds i true == l')
theorem take_ {i : Nat} {N : Option Tmp} {oi : Oper} {v : Value} {fuel : Nat} {l : Array Bool} {a : Act} {w : World} (l' : Array Bool) (hi : ops[i]? = some oi) (hN : oi.dst = N) (hc : takeB md ops ds l l' i = true)
  (hQ : ∀ c a w, Q (.panic c) (a.put oi.dst v) w → Q (.panic c) a w) (hy : YieldsIf P ops S oi v a) (hS : S w) {a' : Act} (ha : a.put N v = a')
  (h : wpAnyLast P md ops Q S ds fuel l' a' w) : wpAnyLast P md ops Q S ds (fuel + 1) l a w := by
 subst ha
 subst hN
 simp only [takeB, Bool.and_eq_true, beq_iff_eq] at hc
 obtain ⟨⟨⟨⟨⟨h1, h2⟩, h3⟩, h4⟩, h5⟩, h6⟩ := hc
 subst h6
 exact wpAnyLast_take hi h1 h2 h3 h4 h5 hQ hy hS h
def anyB (md : Region.Mode) (ops : Array Oper) (l l' : Array Bool) (i : Nat) : Bool :=
 Region.noSelect ops && Region.free md ops l i && (Region.ready md ops l).contains i && (l.setIfInBounds i true == l')
theorem pure_ {i : Nat} {N : Option Tmp} {oi : Oper} {v : Value} {fuel : Nat} {l : Array Bool} {a : Act} {w : World} (l' : Array Bool) (hi : ops[i]? = some oi) (hN : oi.dst = N) (hc : anyB md ops l l' i = true)
  (hQ : ∀ c a w, Q (.panic c) (a.put oi.dst v) w → Q (.panic c) a w) (hy : Yields P ops oi v a) {a' : Act} (ha : a.put N v = a')
  (h : wpAnyLast P md ops Q S ds fuel l' a' w) : wpAnyLast P md ops Q S ds (fuel + 1) l a w := by
 subst ha
 subst hN
 simp only [anyB, Bool.and_eq_true, beq_iff_eq] at hc
 obtain ⟨⟨⟨h1, h2⟩, h3⟩, h6⟩ := hc
 subst h6
 exact wpAnyLast_any hi (Region.noSelect_spec h1) hQ fuel l a w (Region.free_spec hi h2) (by simpa using h3) hy h
def readyB (md : Region.Mode) (ops : Array Oper) (l l' : Array Bool) (i : Nat) : Bool := (Region.ready md ops l == [i]) && (l.setIfInBounds i true == l')
theorem one_ {i : Nat} {N : Option Tmp} {oi : Oper} {fuel : Nat} {l : Array Bool} {a : Act} {w : World} (l' : Array Bool) (hi : ops[i]? = some oi) (hN : oi.dst = N) (hc : readyB md ops l l' i = true) (hd : i ∉ ds)
  (h : ∀ K : Act → World → Prop, Shut (∀ a' w', S w' → (S w' → wpAnyLast P md ops Q S ds fuel l' a' w') → K a' w') → if Region.wanted oi (yielded ops a.tmps) = true then Oper.wp P oi a w K Q else K (a.put N undef) w) :
  wpAnyLast P md ops Q S ds (fuel + 1) l a w := by
 subst hN
 simp only [readyB, Bool.and_eq_true, beq_iff_eq] at hc
 obtain ⟨h1, h2⟩ := hc
 subst h2
 exact wpAnyLast_ready h1 (by simp) (AllReadyL.cons hi hd (fun K hK => h K hK) AllReadyL.nil)
theorem last_ {i : Nat} {N : Option Tmp} {oi : Oper} {fuel : Nat} {l : Array Bool} {a : Act} {w : World} (l' : Array Bool) (hi : ops[i]? = some oi) (hN : oi.dst = N) (hc : readyB md ops l l' i = true) (hd : i ∈ ds)
  (h : ∀ K : Act → World → Prop, Shut (∀ a' w', wpAnyLast P md ops Q S ds fuel l' a' w' → K a' w') → if Region.wanted oi (yielded ops a.tmps) = true then Oper.wp P oi a w K Q else K (a.put N undef) w) :
  wpAnyLast P md ops Q S ds (fuel + 1) l a w := by
 subst hN
 simp only [readyB, Bool.and_eq_true, beq_iff_eq] at hc
 obtain ⟨h1, h2⟩ := hc
 subst h2
 exact wpAnyLast_ready h1 (by simp) (AllReadyL.cons_last hi hd (fun K hK => h K hK) AllReadyL.nil)
theorem done_ {l : Array Bool} {a : Act} {w : World} {n : Nat} (hr : (Region.ready md ops l == []) = true) (h : Q .normal a w) : wpAnyLast P md ops Q S ds n l a w := wpAnyLast_done (by simpa using hr) h n
theorem two_ {i j : Nat} {Ni Nj : Option Tmp} {oi oj : Oper} {fuel : Nat} {l : Array Bool} {a : Act} {w : World} (li lj : Array Bool) (hi : ops[i]? = some oi) (hj : ops[j]? = some oj) (hNi : oi.dst = Ni) (hNj : oj.dst = Nj)
  (hc : (Region.ready md ops l == [i, j] && l.setIfInBounds i true == li && l.setIfInBounds j true == lj) = true) (hdi : i ∉ ds) (hdj : j ∉ ds)
  (h1 : ∀ K : Act → World → Prop, Shut (∀ a' w', S w' → (S w' → wpAnyLast P md ops Q S ds fuel li a' w') → K a' w') → if Region.wanted oi (yielded ops a.tmps) = true then Oper.wp P oi a w K Q else K (a.put Ni undef) w)
  (h2 : ∀ K : Act → World → Prop, Shut (∀ a' w', S w' → (S w' → wpAnyLast P md ops Q S ds fuel lj a' w') → K a' w') → if Region.wanted oj (yielded ops a.tmps) = true then Oper.wp P oj a w K Q else K (a.put Nj undef) w) :
  wpAnyLast P md ops Q S ds (fuel + 1) l a w := by
 subst hNi
 subst hNj
 simp only [Bool.and_eq_true, beq_iff_eq] at hc
 obtain ⟨⟨h3, h4⟩, h5⟩ := hc
 subst h4
 subst h5
 exact wpAnyLast_ready h3 (by simp) (AllReadyL.cons hi hdi (fun K hK => h1 K hK) (AllReadyL.cons hj hdj (fun K hK => h2 K hK) AllReadyL.nil))
def putAll : Act → List (Tmp × Value) → Act
 | a, [] => a
 | a, (n, v) :: r => putAll (a.put (some n) v) r
theorem join_ {σ : Type} {fuel : Nat} {l : Array Bool} {a : Act} {w : World} (fuel' : Nat) (l' : Array Bool) (ns : σ → List (Tmp × Value)) (F : σ → World → Prop)
  (hcont : ∀ s w', F s w' → wpAnyLast P md ops Q S ds fuel' l' (putAll a (ns s)) w')
  (h : (∀ s w', F s w' → wpAnyLast P md ops Q S ds fuel' l' (putAll a (ns s)) w') → wpAnyLast P md ops Q S ds fuel l a w) : wpAnyLast P md ops Q S ds fuel l a w := h hcont
theorem norm_ {fuel : Nat} {l : Array Bool} {a a' : Act} {w : World} (ha : a = a') (h : wpAnyLast P md ops Q S ds fuel l a' w) : wpAnyLast P md ops Q S ds fuel l a w := by
 subst ha
 exact h
theorem call_ {oi : Oper} {N : Option Tmp} {a : Act} {w : World} {K : Act → World → Prop} (f : FuncId) (args : Array Value) (hw : Region.wanted oi (yielded ops a.tmps) = true) (hN : oi.dst = N) (hrun : (execOp a.eval oi).run P w = .ok (.enter f args) w)
  (h : Calls P f args w fun e w' => ∃ v, e = .returned v ∧ K (a.put N v) w') : if Region.wanted oi (yielded ops a.tmps) = true then Oper.wp P oi a w K Q else K (a.put N undef) w := by
 rw [if_pos hw]
 subst hN
 unfold Oper.wp
 rw [hrun, Oper.upon_enter]
 refine h.mono fun e w'' hh => ?_
 obtain ⟨v, rfl, hk⟩ := hh
 exact hk
theorem enters_ {f : FuncId} {fn : Func} (hf : P.funcs[f]? = some fn) (hname : (fn.name == "runtime.NumGoroutine") = false) (hb : fn.body.isSome = true) (args : Array Value) (w : World) : (callFunc f args).run P w = .ok (.enter f args) w := by
 have h1 : fn.name ≠ "runtime.NumGoroutine" := by simpa using hname
 obtain ⟨c, hc⟩ := Option.isSome_iff_exists.1 hb
 simp [callFunc, hf, h1, hc]
theorem goes_ {oi : Oper} {N : Option Tmp} {a : Act} {w : World} {K : Act → World → Prop} {f : FuncId} {fn : Func} {as_ : Array Operand} {ts : Array TypeId} (hf : P.funcs[f]? = some fn) (hname : (fn.name == "runtime.NumGoroutine") = false) (hb : fn.body.isSome = true) (args : Array Value)
  (hw : Region.wanted oi (yielded ops a.tmps) = true) (hN : oi.dst = N) (hop : oi.op = .call { callee := .value (.func f), args := as_, argTypes := ts }) (hargs : as_.map a.eval = args)
  (h : Calls P f args w fun e w' => ∃ v, e = .returned v ∧ K (a.put N v) w') : if Region.wanted oi (yielded ops a.tmps) = true then Oper.wp P oi a w K Q else K (a.put N undef) w := by
 refine call_ f args hw hN ?_ h
 have he := enters_ hf hname hb args w
 unfold execOp
 simp [hop, resolve, Deferred.ofValue, invoke, Act.eval, hargs, he]
theorem goesL_ {rest : List Oper} {oi : Oper} {a : Act} {w : World} (N : Option Tmp) (hd : oi.dst = N) (hg : oi.guard = none) {f : FuncId} {fn : Func} {as_ : Array Operand} {ts : Array TypeId} (hf : P.funcs[f]? = some fn) (hname : (fn.name == "runtime.NumGoroutine") = false) (hb : fn.body.isSome = true) (args : Array Value)
  (hop : oi.op = .call { callee := .value (.func f), args := as_, argTypes := ts }) (hargs : as_.map a.eval = args)
  (h : Calls P f args w fun e w' => ∃ v, e = .returned v ∧ wpList P ops Q rest (a.put N v) w') : wpList P ops Q (oi :: rest) a w := by
 refine wpList_plain hg fun K hK => ?_
 have he := enters_ hf hname hb args w
 have hrun : (execOp a.eval oi).run P w = .ok (.enter f args) w := by
  unfold execOp
  simp [hop, resolve, Deferred.ofValue, invoke, Act.eval, hargs, he]
 unfold Oper.wp
 rw [hrun, Oper.upon_enter]
 refine h.mono fun e w'' hh => ?_
 obtain ⟨v, rfl, hk⟩ := hh
 subst hd
 exact hK _ _ hk
theorem value_ {oi : Oper} {N : Option Tmp} {a : Act} {w w1 : World} {v : Value} {K : Act → World → Prop} (hw : Region.wanted oi (yielded ops a.tmps) = true) (hN : oi.dst = N) (hrun : (execOp a.eval oi).run P w = .ok (.value v) w1)
  (h : K (a.put N v) w1) : if Region.wanted oi (yielded ops a.tmps) = true then Oper.wp P oi a w K Q else K (a.put N undef) w := by
 rw [if_pos hw]
 subst hN
 unfold Oper.wp
 rw [hrun]
 exact h
theorem i64_w (n : Int) : IntKind.i64.wrap n = Go.RowKit.wrap64 n := by unfold Go.RowKit.wrap64; exact IntKind.wrap_i64 n
theorem i32_w (n : Int) : IntKind.i32.wrap n = Go.RowKit.wrap32 n := by unfold Go.RowKit.wrap32; exact IntKind.wrap_i32 n
end
end Go.Proofs.YtfbbcfhdjhiejaaGreatW.PrintLast


namespace Go.Proofs.YtfbbcfhdjhiejaaGreatW.PrintWords
open Go.RowKit
namespace Kd
def tag {α : Type} (f : Nat → Nat) (d : Kd α) : Kd (α × Nat) where
 sz := d.sz
 E := d.E
 K := fun w x cs => d.K w x.1 cs
 M := fun w base ok x cs => d.M w base (fun k => ok k ∧ f k = x.2) x.1 cs
 K_len := fun h => d.K_len h
 K_one := fun h => d.K_one h
 K_below := fun hb h => d.K_below hb h
 K_of_M := fun h => d.K_of_M h
 M_mono := fun hok h => d.M_mono (fun k hk => ⟨hok k hk.1, hk.2⟩) h
 M_bound := fun h => d.M_mono (fun _ hk => ⟨⟨hk.1.1, hk.2⟩, hk.1.2⟩) (d.M_bound h)
 M_move := fun hm h => d.M_move (fun k hk => hm k hk.1) h
 M_lower := fun hb h => d.M_lower hb h
def raw (sz : Nat) : Kd (List Value) where
 sz := sz
 E := []
 K := fun _ x cs => cs = x ∧ cs.length = sz ∧ ∀ u ∈ cs, u.oneCell' = true
 M := fun _ _ _ x cs => cs = x ∧ cs.length = sz ∧ ∀ u ∈ cs, u.oneCell' = true
 K_len := fun h => h.2.1
 K_one := fun h => h.2.2
 K_below := fun _ h => h
 K_of_M := fun h => h
 M_mono := fun _ h => h
 M_bound := fun h => h
 M_move := fun _ h => h
 M_lower := fun _ h => h
def S {α : Type} (d : Kd α) (e : Nat) (w : World) (base : Nat) (ok : Nat → Prop) (v : Value) (xs : List α) : Prop := ∃ f, (tag f d).R e w base ok v xs.zipIdx
def gap {α : Type} (f : Nat → Nat) (d : Kd α) (i : Nat) (c : List Value) : Kd (α × Nat) where
 sz := d.sz
 E := d.E
 K := fun w x cs => (x.2 = i → cs = c ∧ cs.length = d.sz ∧ ∀ u ∈ cs, u.oneCell' = true) ∧ (x.2 ≠ i → d.K w x.1 cs)
 M := fun w base ok x cs => (x.2 = i → cs = c ∧ cs.length = d.sz ∧ ∀ u ∈ cs, u.oneCell' = true) ∧ (x.2 ≠ i → d.M w base (fun k => ok k ∧ f k = x.2) x.1 cs)
 K_len := fun {w x cs} h => by
  by_cases hx : x.2 = i
  ·exact (h.1 hx).2.1
  ·exact d.K_len (h.2 hx)
 K_one := fun {w x cs} h => by
  by_cases hx : x.2 = i
  ·exact (h.1 hx).2.2
  ·exact d.K_one (h.2 hx)
 K_below := fun hb h => ⟨h.1, fun hx => d.K_below hb (h.2 hx)⟩
 K_of_M := fun h => ⟨h.1, fun hx => d.K_of_M (h.2 hx)⟩
 M_mono := fun hok h => ⟨h.1, fun hx => d.M_mono (fun k hk => ⟨hok k hk.1, hk.2⟩) (h.2 hx)⟩
 M_bound := fun h => ⟨h.1, fun hx => d.M_mono (fun _ hk => ⟨⟨hk.1.1, hk.2⟩, hk.1.2⟩) (d.M_bound (h.2 hx))⟩
 M_move := fun hm h => ⟨h.1, fun hx => d.M_move (fun k hk => hm k hk.1) (h.2 hx)⟩
 M_lower := fun hb h => ⟨h.1, fun hx => d.M_lower hb (h.2 hx)⟩
def H {α : Type} (d : Kd α) (e : Nat) (w : World) (base : Nat) (ok : Nat → Prop) (v : Value) (xs : List α) (i : Int) (oki : Nat → Prop) (c : List Value) : Prop :=
 (∀ k, oki k → ok k) ∧ ∃ f, (gap f d i.toNat c).R e w base (fun k => ok k ∧ ¬ oki k) v xs.zipIdx
end Kd
end Go.Proofs.YtfbbcfhdjhiejaaGreatW.PrintWords


namespace Go.Proofs.YtfbbcfhdjhiejaaGreatW.PrintWords
open Go.RowKit
namespace Kd
structure Heap {α : Type} (d : Kd α) : Prop where
 K : ∀ {w w1 : World} {x : α} {cs : List Value}, (∀ k, k < w.heap.size → w1.heap[k]? = w.heap[k]?) → d.K w x cs → d.K w1 x cs
end Kd
end Go.Proofs.YtfbbcfhdjhiejaaGreatW.PrintWords


namespace Go.Proofs.YtfbbcfhdjhiejaaGreatW.PrintWords
open Go.RowKit
def Foot (P : World → Prop) (W : World) (ok : Nat → Prop) : Prop := ∀ W' : World, (∀ k, ok k → k < W.heap.size → W'.heap[k]? = W.heap[k]?) → P W'
namespace Foot
variable {P Q : World → Prop} {W W1 : World} {ok ok' : Nat → Prop}
end Foot
namespace Kd
def F {α : Type} (d : Kd α) (W : World) (ok : Nat → Prop) (A : Option Addr) (n : Nat) (xs : List α) : Prop := Foot (fun W => d.C W A n xs) W ok
def FK {α : Type} (d : Kd α) (W : World) (ok : Nat → Prop) (x : α) (c : List Value) : Prop := Foot (fun W => d.K W x c) W ok
end Kd
end Go.Proofs.YtfbbcfhdjhiejaaGreatW.PrintWords


namespace Go.Proofs.YtfbbcfhdjhiejaaGreatW.PrintWords
open Go.RowKit
namespace Kd
section
variable {α : Type} {d : Kd α} {e base n cc g : Nat} {ok ok' okp S : Nat → Prop} {w w1 W W1 : World} {A : Option Addr} {u v v1 : Value} {xs : List α} {x : α} {c : List Value}
def N {α : Type} (d : Kd α) (e : Nat) (w : World) (base : Nat) (ok : Nat → Prop) (v : Value) (xs : List α) : Prop :=
 (∀ k, v.ownBlock = some k → ok k) ∧ ∃ rows : List (List Value), rows.length = xs.length ∧ (raw d.sz).R e w base (fun k => some k = v.ownBlock) v rows ∧ ∀ (j : Nat) (x : α) (c : List Value), xs[j]? = some x → rows[j]? = some c → FK d w (fun k => ok k ∧ some k ≠ v.ownBlock) x c
end
end Kd
end Go.Proofs.YtfbbcfhdjhiejaaGreatW.PrintWords

namespace Go.Proofs.YtfbbcfhdjhiejaaGreatW.PrintMore
open Go.RowKit Go.Proofs.YtfbbcfhdjhiejaaGreatW.PrintWords
namespace Kd
open Go.Proofs.YtfbbcfhdjhiejaaGreatW.PrintWords.Kd
end Kd
namespace Kd
open Go.Proofs.YtfbbcfhdjhiejaaGreatW.PrintWords.Kd
end Kd
theorem min2_int (k k' : IntKind) (x y : Int) : Builtin.min2 (.int k x) (.int k' y) = pure (.int k (if y < x then y else x)) := by simp only [Builtin.min2]
theorem min_two (ats : Array TypeId) (ty : TypeId) (a b : Value) : Builtin.min_ ats ty #[a, b] = (Builtin.min2 a b >>= fun s => pure s) := by simp only [Builtin.min_, List.foldlM_cons, List.foldlM_nil]
end Go.Proofs.YtfbbcfhdjhiejaaGreatW.PrintMore
namespace Go.Proofs.YtfbbcfhdjhiejaaGreatW.PrintWords
open Go.RowKit
section
variable {P : Program} {ops : Array Oper} {rest : List Oper} {o : Oper} {a : Act} {Q : Exit → Act → World → Prop} {W : World}
theorem gate_callee {f : FuncId} {as_ : Array Operand} {ts : Array TypeId} (_ho : o.op = .call { callee := .value (.func f), args := as_, argTypes := ts }) (h : wpList P ops Q (o :: rest) a W) : wpList P ops Q (o :: rest) a W := h
theorem gate_builtin {b : Builtin} {xs : Array Operand} {ts : Array TypeId} (_ho : o.op = .call { callee := .builtin b, args := xs, argTypes := ts }) (h : wpList P ops Q (o :: rest) a W) : wpList P ops Q (o :: rest) a W := h
end
def mn (a b : Int) : Int := if b < a then b else a
namespace Kd
end Kd
end Go.Proofs.YtfbbcfhdjhiejaaGreatW.PrintWords
namespace Go.Proofs.YtfbbcfhdjhiejaaGreatW.PrintWords
open Go.RowKit
namespace Kd
def V {α : Type} (d : Kd α) (_e : Nat) (W : World) (_base : Nat) (ok : Nat → Prop) (v : Value) (xs : List α) : Prop := ∃ A c, v = .slice A xs.length c ∧ xs.length ≤ c ∧ F d W ok A xs.length xs
end Kd
end Go.Proofs.YtfbbcfhdjhiejaaGreatW.PrintWords

/- Words used throughout: what a call may change, whole blocks read and written. No program in sight. -/
namespace Go.Proofs.YtfbbcfhdjhiejaaGreat.L
open Go.RowKit Go.Proofs.YtfbbcfhdjhiejaaGreatW.PrintWords Go.Proofs.YtfbbcfhdjhiejaaGreatW.PrintMore
/-- Of the blocks that were there only those of S may have turned. -/
structure Chg (S : Nat → Prop) (w w' : World) : Prop where
 os : w'.os = w.os
 tape : w'.tape = w.tape
 output : w'.output = w.output
 size : w.heap.size ≤ w'.heap.size
 block : ∀ k, k < w.heap.size → ¬ S k → w'.heap[k]? = w.heap[k]?
theorem Chg.of_below {S : Nat → Prop} {w w' : World} (h : Below w.heap.size w w') : Chg S w w' := ⟨h.os, h.tape, h.output, h.size, fun k hk _ => h.block k hk⟩
theorem Chg.refl (S : Nat → Prop) (w : World) : Chg S w w := ⟨rfl, rfl, rfl, Nat.le_refl _, fun _ _ _ => rfl⟩
theorem Chg.mono {S S' : Nat → Prop} {w w' : World} (h : Chg S w w') (hs : ∀ k, S k → S' k) : Chg S' w w' := ⟨h.os, h.tape, h.output, h.size, fun k hk hn => h.block k hk (fun x => hn (hs k x))⟩
theorem Chg.trans {S : Nat → Prop} {a b c : World} (h : Chg S a b) (k : Chg S b c) : Chg S a c :=
 ⟨k.os.trans h.os, k.tape.trans h.tape, k.output.trans h.output, Nat.le_trans h.size k.size, fun i hi hn => (k.block i (Nat.lt_of_lt_of_le hi h.size) hn).trans (h.block i hi hn)⟩
/-- A second step may also turn what the first one made. -/
theorem Chg.trans' {S S' : Nat → Prop} {a b c : World} (h : Chg S a b) (k : Chg S' b c) (hs : ∀ i, i < a.heap.size → S' i → S i) : Chg S a c :=
 ⟨k.os.trans h.os, k.tape.trans h.tape, k.output.trans h.output, Nat.le_trans h.size k.size, fun i hi hn => (k.block i (Nat.lt_of_lt_of_le hi h.size) (fun x => hn (hs i hi x))).trans (h.block i hi hn)⟩
theorem Chg.below {S : Nat → Prop} {B : Nat} {w w' : World} (h : Chg S w w') (hB : B ≤ w.heap.size) (hs : ∀ k, S k → B ≤ k) : Below B w w' :=
 ⟨h.os, h.tape, h.output, h.size, fun k hk => h.block k (Nat.lt_of_lt_of_le hk hB) (fun x => by have := hs k x; omega)⟩
theorem Chg.drew {S : Nat → Prop} {a w : World} (h : Chg S a w) : Chg S a w.drew := ⟨h.os, h.tape, h.output, h.size, h.block⟩
theorem Chg.drewN {S : Nat → Prop} {a w : World} (h : Chg S a w) (n : Nat) : Chg S a (w.drewN n) := ⟨h.os, h.tape, h.output, h.size, h.block⟩
theorem Chg.alloc {S : Nat → Prop} {a w : World} (h : Chg S a w) (o : Obj) : Chg S a (w.alloc o) :=
 ⟨h.os, h.tape, h.output, Nat.le_trans h.size (by simp), fun i hi hn => (Below.heap_alloc _ _ _ (Nat.lt_of_lt_of_le hi h.size)).trans (h.block i hi hn)⟩
theorem Chg.setCell {S : Nat → Prop} {a w : World} (h : Chg S a w) {p : Addr} (hp : p.block < a.heap.size → S p.block) (u : Value) : Chg S a (w.setCell p u) :=
 ⟨h.os, h.tape, h.output, by simpa [World.setCell] using h.size, fun i hi hn => (Below.heap_setCell _ _ _ _ (fun e => hn (by rw [e]; exact hp (by rw [← e]; exact hi)))).trans (h.block i hi hn)⟩
theorem Chg.grown {S : Nat → Prop} {a w w' : World} {row : Option Nat} (h : Chg S a w) (hg : w.grownBy w' row) (hr : ∀ k, row = some k → k < a.heap.size → S k) : Chg S a w' :=
 ⟨hg.os.trans h.os, hg.tape.trans h.tape, hg.output.trans h.output, Nat.le_trans h.size hg.size, fun i hi hn => (hg.block i (Nat.lt_of_lt_of_le hi h.size) (fun e => hn (hr i e.symm hi))).trans (h.block i hi hn)⟩
/-- A slice of a kind stays where none of its blocks has turned. -/
theorem R_chg {α : Type} {d : Kd α} {e : Nat} {w w1 : World} {base : Nat} {ok S : Nat → Prop} {v : Value} {xs : List α} (h : d.R e w base ok v xs) (hc : Chg S w w1) (hd : ∀ k, ok k → ¬ S k) : d.R e w1 base ok v xs :=
 Kd.R_step h (fun k ho hk => hc.block k hk (hd k ho))
theorem int_ne {k : IntKind} {t t' : Nat} (h : t ≠ t') : ∀ q, q ∈ t :: (Kd.int k).E → q ≠ t' := by
 intro q hq
 rcases List.mem_cons.1 hq with rfl | hq
 ·exact h
 ·cases hq
/-- A block of one cell, of two. -/
theorem two_cells {w : World} {b t : Nat} {x y : Value} (h : w.heap[b]? = some (.cells #[x, y] t (0, 0))) :
  w.cell? ⟨b, 0, none⟩ = some x ∧ w.cell? ⟨b, 1, none⟩ = some y ∧ w.frozen? ⟨b, 0, none⟩ = false ∧ w.frozen? ⟨b, 1, none⟩ = false := by
 simp [World.cell?, World.frozen?, h]
theorem two_set0 {w : World} {b t : Nat} {x y : Value} (h : w.heap[b]? = some (.cells #[x, y] t (0, 0))) (u : Value) : (w.setCell ⟨b, 0, none⟩ u).heap[b]? = some (.cells #[u, y] t (0, 0)) := by
 rw [heap_setCell_same w b 0 _ _ _ h]; rfl
theorem two_set1 {w : World} {b t : Nat} {x y : Value} (h : w.heap[b]? = some (.cells #[x, y] t (0, 0))) (u : Value) : (w.setCell ⟨b, 1, none⟩ u).heap[b]? = some (.cells #[x, u] t (0, 0)) := by
 rw [heap_setCell_same w b 1 _ _ _ h]; rfl
theorem three_cells {w : World} {b t : Nat} {x y z : Value} (h : w.heap[b]? = some (.cells #[x, y, z] t (0, 0))) :
  w.cell? ⟨b, 0, none⟩ = some x ∧ w.cell? ⟨b, 1, none⟩ = some y ∧ w.cell? ⟨b, 2, none⟩ = some z ∧ w.frozen? ⟨b, 0, none⟩ = false ∧ w.frozen? ⟨b, 1, none⟩ = false ∧ w.frozen? ⟨b, 2, none⟩ = false := by
 simp [World.cell?, World.frozen?, h]
theorem one_cell {w : World} {b t : Nat} {x : Value} (h : w.heap[b]? = some (.cells #[x] t (0, 0))) :
  w.cell? ⟨b, 0, none⟩ = some x ∧ w.frozen? ⟨b, 0, none⟩ = false := by
 simp [World.cell?, World.frozen?, h]
theorem heap_alloc_self (w : World) (o : Obj) : (w.alloc o).heap[w.heap.size]? = some o := by
 show (w.heap.push o)[w.heap.size]? = some o
 simp
theorem heap_alloc_old {w : World} {b : Nat} {o : Obj} (h : w.heap[b]? = some o) (x : Obj) : (w.alloc x).heap[b]? = some o := by
 rw [Below.heap_alloc _ _ _ (blk_lt h)]; exact h
theorem setCell_far {w : World} {b : Nat} {o : Obj} (h : w.heap[b]? = some o) {p : Addr} (hp : b ≠ p.block) (u : Value) : (w.setCell p u).heap[b]? = some o := by
 rw [Below.heap_setCell _ _ _ _ hp]; exact h
/-- Where a walk is to stand still. -/
def Stopper (p : Prop) : Prop := p
theorem stopper {p : Prop} (h : Stopper p) : p := h
end Go.Proofs.YtfbbcfhdjhiejaaGreat.L

/- Sums and names of bytes: crc and fnv, the program's and the document's. -/
namespace Go.Proofs.YtfbbcfhdjhiejaaGreat.Sums
set_option linter.unusedVariables false
set_option linter.unusedSimpArgs false
open Go.RowKit Go.Proofs.YtfbbcfhdjhiejaaGreatW.PrintWords Go.Proofs.YtfbbcfhdjhiejaaGreatW.PrintMore Go.Proofs.YtfbbcfhdjhiejaaGreat.L
/-! ### plain -/
def crcBit (v : Nat) : Nat := if v % 2 = 1 then (v / 2) ^^^ 3988292384 else v / 2
def crcBits : Nat → Nat → Nat
 | 0, v => v
 | k + 1, v => crcBit (crcBits k v)
def crcL (l : List UInt8) : Nat := l.foldl (fun v c => crcBits 8 (v ^^^ c.toNat)) 4294967295
def crc (s : ByteArray) : Nat := 4294967295 ^^^ crcL s.data.toList
def fnvB (v : Nat) (c : UInt8) : Nat := (v ^^^ c.toNat) * 1099511628211 % 18446744073709551616
def fnvL (l : List UInt8) : Nat := l.foldl fnvB 14695981039346656037
def fnv (s : ByteArray) : Nat := fnvL s.data.toList
theorem xor32 {a b : Nat} (ha : a < 4294967296) (hb : b < 4294967296) : a ^^^ b < 4294967296 := Nat.xor_lt_two_pow (n := 32) ha hb
theorem crcBit_lt {v : Nat} (h : v < 4294967296) : crcBit v < 4294967296 := by
 unfold crcBit
 split
 ·exact xor32 (by omega) (by omega)
 ·omega
theorem crcBits_lt : ∀ (k : Nat) {v : Nat}, v < 4294967296 → crcBits k v < 4294967296
 | 0, v, h => h
 | k + 1, v, h => crcBit_lt (crcBits_lt k h)
theorem u8_lt (c : UInt8) : c.toNat < 256 := UInt8.toNat_lt c
theorem crcL_lt (l : List UInt8) : crcL l < 4294967296 := by
 unfold crcL
 suffices ∀ (v : Nat), v < 4294967296 → l.foldl (fun v c => crcBits 8 (v ^^^ c.toNat)) v < 4294967296 from this _ (by decide)
 induction l with
 | nil => intro v h; exact h
 | cons c l ih => intro v h; exact ih _ (crcBits_lt 8 (xor32 h (by have := u8_lt c; omega)))
theorem crc_lt (s : ByteArray) : crc s < 4294967296 := xor32 (by decide) (crcL_lt _)
theorem fnvL_lt (l : List UInt8) : fnvL l < 18446744073709551616 := by
 unfold fnvL
 suffices ∀ (v : Nat), v < 18446744073709551616 → l.foldl fnvB v < 18446744073709551616 from this _ (by decide)
 induction l with
 | nil => intro v h; exact h
 | cons c l ih => intro v h; exact ih _ (Nat.mod_lt _ (by decide))
theorem take_snoc (s : ByteArray) (k : Nat) (h : k < s.size) : s.data.toList.take (k + 1) = s.data.toList.take k ++ [s[k]] := by
 rw [List.take_succ_eq_append_getElem (by simpa using h)]; rfl
theorem fold_snoc {α β : Type} (f : β → α → β) (b : β) (l : List α) (c : α) : (l ++ [c]).foldl f b = f (l.foldl f b) c := by rw [List.foldl_append]; rfl
theorem crc_snoc (l : List UInt8) (c : UInt8) : crcL (l ++ [c]) = crcBits 8 (crcL l ^^^ c.toNat) := by unfold crcL; exact fold_snoc _ _ _ _
theorem fnv_snoc (l : List UInt8) (c : UInt8) : fnvL (l ++ [c]) = fnvB (fnvL l) c := by unfold fnvL; exact fold_snoc _ _ _ _
/-! ### crc -/
theorem not32 (v : Nat) (h : v < 4294967296) : bits .xor .u32 IntKind.u32.max (v : Int) = ((4294967295 ^^^ v : Nat) : Int) := u32_xor_nat 4294967295 v (by decide) h
theorem and_one (v : Nat) (h : v < 4294967296) : bits .and .u32 (v : Int) 1 = ((v % 2 : Nat) : Int) := by
 have := u32_and_nat v 1 h (by decide)
 rw [Nat.and_one_is_mod] at this
 exact this
theorem half_turn (U : Nat) (hU : U < 4294967296) : bits .xor .u32 ((U : Int) / 2) 3988292384 = ((U / 2 ^^^ 3988292384 : Nat) : Int) := by
 have hxx := u32_xor_nat (U / 2) 3988292384 (by omega) (by decide)
 rw [show ((U / 2 : Nat) : Int) = (U : Int) / 2 by omega] at hxx
 exact hxx
set_option maxHeartbeats 1000000 in
theorem ref_crc (s : ByteArray) (w : World) (hs : s.size ≤ 140737488351232) :
  Calls Tryz.prog 55 #[.string s] w fun e w' => e = .returned (.int .u32 (crc s : Nat)) ∧ w' = w := by
 go_enter Tryz.func55, Tryz.ntmps55
 go_wp2_with (fail)
 go_loopg [3, 4] s.size (fun j v i wr => ∃ k : Nat, k + j = s.size ∧ i = .int .i64 k ∧ v = .int .u32 (crcL (s.data.toList.take k) : Nat) ∧ wr = w)
 case atStart => exact ⟨0, by omega, rfl, rfl, rfl⟩
 case round =>
  obtain ⟨k, hk, rfl, rfl, rfl⟩ := hrel
  have hl := crcL_lt (s.data.toList.take k)
  by_cases hlt : k < s.size
  ·have hsn := crc_snoc (s.data.toList.take k) s[k]
   rw [← take_snoc s k hlt] at hsn
   have hc := u8_lt s[k]
   obtain ⟨V, hV⟩ : ∃ V, crcL (s.data.toList.take k) = V := ⟨_, rfl⟩
   rw [hV] at hl hsn ⊢
   have hx := u32_xor_nat V s[k].toNat hl (by omega)
   have hxl := xor32 (a := V) (b := s[k].toNat) hl (by omega)
   obtain ⟨X, hX⟩ : ∃ X, V ^^^ s[k].toNat = X := ⟨_, rfl⟩
   rw [hX] at hx hxl hsn
   have HSN := Lib.hid hsn
   have HK := Lib.hid hk
   clear hV hsn hX hk
   go_wp2_with (fail)
   go_loopg [3, 5] 8 (fun j v i w2 => ∃ k : Nat, k + j = 8 ∧ i = .int .i64 k ∧ v = .int .u32 (crcBits k X : Nat) ∧ w2 = wr)
   case atStart => exact ⟨0, by omega, rfl, rfl, rfl⟩
   case round =>
    obtain ⟨q, hq, rfl, rfl, rfl⟩ := hrel
    by_cases hlq : q < 8
    ·have hU := crcBits_lt q hxl
     have hs2 : crcBits (q + 1) X = crcBit (crcBits q X) := rfl
     obtain ⟨U, hU2⟩ : ∃ U, crcBits q X = U := ⟨_, rfl⟩
     rw [hU2] at hU hs2 ⊢
     unfold crcBit at hs2
     have ha := and_one U hU
     have hqz : (q : Int) < 8 := by omega
     by_cases ho : U % 2 = 1
     ·rw [if_pos ho] at hs2
      have ho2 : ((U % 2 : Nat) : Int) = 1 := by omega
      have hxx := half_turn U hU
      rw [ho2] at ha
      have HS2 := Lib.hid hs2
      clear hs2 hU2 ho ho2
      have HQ := Lib.hid hq
      clear hq
      go_wp2_with (fail)
      go_roundg (8 - (q + 1))
      case measure => have := HQ.out; omega
      case rel => exact ⟨q + 1, by omega, by go_num, by rw [HS2.out], rfl⟩
     ·rw [if_neg ho] at hs2
      have ho2 : ((U % 2 : Nat) : Int) = 0 := by omega
      rw [ho2] at ha
      have HS2 := Lib.hid (show ((crcBits (q + 1) X : Nat) : Int) = (U : Int) / 2 by rw [hs2]; omega)
      clear hs2 hU2 ho ho2
      have HQ := Lib.hid hq
      clear hq
      go_wp2_with (fail)
      go_roundg (8 - (q + 1))
      case measure => have := HQ.out; omega
      case rel => exact ⟨q + 1, by omega, by go_num, by rw [HS2.out], rfl⟩
    ·obtain rfl : q = 8 := by omega
     go_wp2_with (fail)
     go_roundg (s.size - (k + 1))
     case measure => have := HK.out; omega
     case rel => exact ⟨k + 1, by have := HK.out; omega, by go_num, by rw [HSN.out], rfl⟩
  ·obtain rfl : k = s.size := by omega
   rw [List.take_of_length_le (show s.data.toList.length ≤ s.size by simp)] at hl ⊢
   have hn := not32 _ hl
   have HF := Lib.hid (show crc s = 4294967295 ^^^ crcL s.data.toList from rfl)
   obtain ⟨V, hV⟩ : ∃ V, crcL s.data.toList = V := ⟨_, rfl⟩
   rw [hV] at hn hl ⊢
   have HV := Lib.hid hV
   clear hV
   go_wp2_with (fail)
   go_ret
   rw [HF.out, HV.out]
   exact ⟨rfl, rfl⟩
set_option maxHeartbeats 1000000 in
theorem add_any (b : Nat) (s : ByteArray) (w : World) (hs : s.size ≤ 140737488351232) (h : w.heap[b]? = some (.cells #[.int .u32 0] 201 (0, 0))) :
  Calls Tryz.prog 148 #[.pointer (some ⟨b, 0, none⟩), .string s] w fun e w' => e = .returned (.tuple #[]) ∧ w' = w.setCell ⟨b, 0, none⟩ (.int .u32 (crc s : Nat)) := by
 obtain ⟨c0, c1⟩ := one_cell h
 have n0 : bits .xor .u32 IntKind.u32.max 0 = 4294967295 := not32 0 (by decide)
 clear h
 go_enter Tryz.func148, Tryz.ntmps148
 go_wp2_with (fail)
 go_loopg [4, 16] s.size (fun j v i wr => ∃ k : Nat, k + j = s.size ∧ i = .int .i64 k ∧ v = .int .u32 (crcL (s.data.toList.take k) : Nat) ∧ wr = w)
 case atStart => exact ⟨0, by omega, rfl, rfl, rfl⟩
 case round =>
  obtain ⟨k, hk, rfl, rfl, rfl⟩ := hrel
  have hl := crcL_lt (s.data.toList.take k)
  by_cases hlt : k < s.size
  ·have hsn := crc_snoc (s.data.toList.take k) s[k]
   rw [← take_snoc s k hlt] at hsn
   have hc := u8_lt s[k]
   obtain ⟨V, hV⟩ : ∃ V, crcL (s.data.toList.take k) = V := ⟨_, rfl⟩
   rw [hV] at hl hsn ⊢
   have hx := u32_xor_nat V s[k].toNat hl (by omega)
   have hxl := xor32 (a := V) (b := s[k].toNat) hl (by omega)
   obtain ⟨X, hX⟩ : ∃ X, V ^^^ s[k].toNat = X := ⟨_, rfl⟩
   rw [hX] at hx hxl hsn
   have HSN := Lib.hid hsn
   have HK := Lib.hid hk
   clear hV hsn hX hk n0
   go_wp2_with (fail)
   go_loopg [4, 25] 8 (fun j v i w2 => ∃ k : Nat, k + j = 8 ∧ i = .int .i64 k ∧ v = .int .u32 (crcBits k X : Nat) ∧ w2 = wr)
   case atStart => exact ⟨0, by omega, rfl, rfl, rfl⟩
   case round =>
    obtain ⟨q, hq, rfl, rfl, rfl⟩ := hrel
    by_cases hlq : q < 8
    ·have hU := crcBits_lt q hxl
     have hs2 : crcBits (q + 1) X = crcBit (crcBits q X) := rfl
     obtain ⟨U, hU2⟩ : ∃ U, crcBits q X = U := ⟨_, rfl⟩
     rw [hU2] at hU hs2 ⊢
     unfold crcBit at hs2
     have ha := and_one U hU
     have hqz : (q : Int) < 8 := by omega
     by_cases ho : U % 2 = 1
     ·rw [if_pos ho] at hs2
      have ho2 : ((U % 2 : Nat) : Int) = 1 := by omega
      have hxx := half_turn U hU
      rw [ho2] at ha
      have HS2 := Lib.hid hs2
      clear hs2 hU2 ho ho2
      have HQ := Lib.hid hq
      clear hq
      go_wp2_with (fail)
      go_roundg (8 - (q + 1))
      case measure => have := HQ.out; omega
      case rel => exact ⟨q + 1, by omega, by go_num, by rw [HS2.out], rfl⟩
     ·rw [if_neg ho] at hs2
      have ho2 : ((U % 2 : Nat) : Int) = 0 := by omega
      rw [ho2] at ha
      have HS2 := Lib.hid (show ((crcBits (q + 1) X : Nat) : Int) = (U : Int) / 2 by rw [hs2]; omega)
      clear hs2 hU2 ho ho2
      have HQ := Lib.hid hq
      clear hq
      go_wp2_with (fail)
      go_roundg (8 - (q + 1))
      case measure => have := HQ.out; omega
      case rel => exact ⟨q + 1, by omega, by go_num, by rw [HS2.out], rfl⟩
    ·obtain rfl : q = 8 := by omega
     go_wp2_with (fail)
     go_roundg (s.size - (k + 1))
     case measure => have := HK.out; omega
     case rel => exact ⟨k + 1, by have := HK.out; omega, by go_num, by rw [HSN.out], rfl⟩
  ·obtain rfl : k = s.size := by omega
   rw [List.take_of_length_le (show s.data.toList.length ≤ s.size by simp)] at hl ⊢
   have hn := not32 _ hl
   have HF := Lib.hid (show crc s = 4294967295 ^^^ crcL s.data.toList from rfl)
   obtain ⟨V, hV⟩ : ∃ V, crcL s.data.toList = V := ⟨_, rfl⟩
   rw [hV] at hn hl ⊢
   have HV := Lib.hid hV
   clear hV n0
   go_wp2_with (fail)
   go_end0
   rw [HF.out, HV.out]
   exact ⟨rfl, rfl⟩
theorem now_any (b : Nat) (v : Int) (w : World) (h : w.heap[b]? = some (.cells #[.int .u32 v] 201 (0, 0))) :
  Calls Tryz.prog 149 #[.pointer (some ⟨b, 0, none⟩)] w fun e w' => e = .returned (.int .u32 v) ∧ w' = w := by
 obtain ⟨c0, c1⟩ := one_cell h
 clear h
 go_enter Tryz.func149, Tryz.ntmps149
 go_wp2_with (fail)
 go_ret
 exact ⟨rfl, rfl⟩
theorem crc_of (s : ByteArray) (w : World) (hs : s.size ≤ 140737488351232) :
  Calls Tryz.prog 118 #[.string s] w fun e w' => e = .returned (.int .u32 (crc s : Nat)) ∧ Below w.heap.size w w' := by
 go_enter Tryz.func118, Tryz.ntmps118
 go_wp2_with (fail)
 refine (add_any _ s _ hs (heap_alloc_self _ _)).mono ?_
 rintro e w1 ⟨rfl, rfl⟩
 go_wp2_with (fail)
 refine (now_any _ (crc s : Nat) _ (heap_alloc_self _ _)).mono ?_
 rintro e w1 ⟨rfl, rfl⟩
 go_wp2_with (fail)
 go_ret
 exact ⟨rfl, (Below.refl _ w).alloc (Nat.le_refl _) _⟩
/-! ### fnv -/
theorem xor64 {a b : Nat} (ha : a < 18446744073709551616) (hb : b < 18446744073709551616) : a ^^^ b < 18446744073709551616 := Nat.xor_lt_two_pow (n := 64) ha hb
def big64 (n : Nat) : Prop := n < 18446744073709551616
theorem fnv_step (V : Nat) (c : UInt8) (h : big64 V) : bits .xor .u64 (V : Int) (c.toNat : Int) = ((V ^^^ c.toNat : Nat) : Int) ∧ IntKind.u64.wrap (((V ^^^ c.toNat : Nat) : Int) * 1099511628211) = ((fnvB V c : Nat) : Int) := by
 have hc := u8_lt c
 refine ⟨u64_xor_nat _ _ h (by omega), ?_⟩
 rw [IntKind.wrap_u64]
 unfold fnvB
 omega
theorem wrap_byte (c : UInt8) : IntKind.u64.wrap (c.toNat : Int) = (c.toNat : Int) := by
 have := u8_lt c
 rw [IntKind.wrap_u64]
 omega
theorem fnvL_big (l : List UInt8) : big64 (fnvL l) := fnvL_lt l
theorem xor_first (v : Nat) (h : big64 v) : bits .xor .u64 (v : Int) 14695981039346656037 = ((v ^^^ 14695981039346656037 : Nat) : Int) := u64_xor_nat v 14695981039346656037 h (by decide)
set_option maxHeartbeats 1000000 in
theorem ref_fnv (s : ByteArray) (w : World) (hs : s.size ≤ 140737488351232) :
  Calls Tryz.prog 51 #[.string s] w fun e w' => e = .returned (.int .u64 (fnv s : Nat)) ∧ w' = w := by
 go_enter Tryz.func51, Tryz.ntmps51
 go_wp2_with (fail)
 go_loopg [3, 4] s.size (fun j v i wr => ∃ k : Nat, k + j = s.size ∧ i = .int .i64 k ∧ v = .int .u64 (fnvL (s.data.toList.take k) : Nat) ∧ wr = w)
 case atStart => exact ⟨0, by omega, rfl, rfl, rfl⟩
 case round =>
  obtain ⟨k, hk, rfl, rfl, rfl⟩ := hrel
  by_cases hlt : k < s.size
  ·have hsn := fnv_snoc (s.data.toList.take k) s[k]
   rw [← take_snoc s k hlt] at hsn
   obtain ⟨h1, h2⟩ := fnv_step _ s[k] (fnvL_big (s.data.toList.take k))
   obtain ⟨V, hV⟩ : ∃ V, fnvL (s.data.toList.take k) = V := ⟨_, rfl⟩
   rw [hV] at h1 h2 hsn ⊢
   obtain ⟨X, hX⟩ : ∃ X, V ^^^ s[k].toNat = X := ⟨_, rfl⟩
   rw [hX] at h1 h2
   rw [← hsn] at h2
   have hall : IntKind.u64.wrap (bits .xor .u64 (V : Int) (IntKind.u64.wrap (s[k].toNat : Int)) * 1099511628211) = ((fnvL (s.data.toList.take (k + 1)) : Nat) : Int) := by rw [wrap_byte, h1, h2]
   have HA := Lib.hid hall
   clear hV hsn hX h1 h2 hall
   go_wp2_with (fail)
   go_roundg (s.size - (k + 1))
   case measure => omega
   case rel => exact ⟨k + 1, by omega, by go_num, by rw [HA.out], rfl⟩
  ·obtain rfl : k = s.size := by omega
   rw [List.take_of_length_le (show s.data.toList.length ≤ s.size by simp)]
   have HF := Lib.hid (show fnv s = fnvL s.data.toList from rfl)
   go_wp2_with (fail)
   go_ret
   rw [HF.out]
   exact ⟨rfl, rfl⟩
def with_ (s : ByteArray) : Nat := fnv s ^^^ 14695981039346656037
theorem with_first (s : ByteArray) : with_ s ^^^ 14695981039346656037 = fnv s := by unfold with_; rw [Nat.xor_assoc, Nat.xor_self, Nat.xor_zero]
theorem with_big (s : ByteArray) : big64 (with_ s) := xor64 (fnvL_lt _) (by decide)
set_option maxHeartbeats 1000000 in
theorem hash_add (b : Nat) (s : ByteArray) (w : World) (hs : s.size ≤ 140737488351232) (h : w.heap[b]? = some (.cells #[.int .u64 0] 160 (0, 0))) :
  Calls Tryz.prog 97 #[.pointer (some ⟨b, 0, none⟩), .string s] w fun e w' => e = .returned (.tuple #[]) ∧ w' = w.setCell ⟨b, 0, none⟩ (.int .u64 (with_ s : Nat)) := by
 obtain ⟨c0, c1⟩ := one_cell h
 have n0 : bits .xor .u64 0 14695981039346656037 = 14695981039346656037 := xor_first 0 (by unfold big64; decide)
 clear h
 go_enter Tryz.func97, Tryz.ntmps97
 go_wp2_with (fail)
 go_loopg [4, 15] s.size (fun j v i wr => ∃ k : Nat, k + j = s.size ∧ i = .int .i64 k ∧ v = .int .u64 (fnvL (s.data.toList.take k) : Nat) ∧ wr = w)
 case atStart => exact ⟨0, by omega, rfl, rfl, rfl⟩
 case round =>
  obtain ⟨k, hk, rfl, rfl, rfl⟩ := hrel
  clear n0
  by_cases hlt : k < s.size
  ·have hsn := fnv_snoc (s.data.toList.take k) s[k]
   rw [← take_snoc s k hlt] at hsn
   obtain ⟨h1, h2⟩ := fnv_step _ s[k] (fnvL_big (s.data.toList.take k))
   obtain ⟨V, hV⟩ : ∃ V, fnvL (s.data.toList.take k) = V := ⟨_, rfl⟩
   rw [hV] at h1 h2 hsn ⊢
   obtain ⟨X, hX⟩ : ∃ X, V ^^^ s[k].toNat = X := ⟨_, rfl⟩
   rw [hX] at h1 h2
   rw [← hsn] at h2
   have hall : IntKind.u64.wrap (bits .xor .u64 (V : Int) (IntKind.u64.wrap (s[k].toNat : Int)) * 1099511628211) = ((fnvL (s.data.toList.take (k + 1)) : Nat) : Int) := by rw [wrap_byte, h1, h2]
   have HA := Lib.hid hall
   clear hV hsn hX h1 h2 hall
   go_wp2_with (fail)
   go_roundg (s.size - (k + 1))
   case measure => omega
   case rel => exact ⟨k + 1, by omega, by go_num, by rw [HA.out], rfl⟩
  ·obtain rfl : k = s.size := by omega
   rw [List.take_of_length_le (show s.data.toList.length ≤ s.size by simp)]
   have hn : bits .xor .u64 ((fnvL s.data.toList : Nat) : Int) 14695981039346656037 = ((with_ s : Nat) : Int) := xor_first _ (fnvL_big _)
   go_wp2_with (fail)
   go_end0
   exact ⟨rfl, rfl⟩
theorem hash_now (b : Nat) (s : ByteArray) (w : World) (h : w.heap[b]? = some (.cells #[.int .u64 (with_ s : Nat)] 160 (0, 0))) :
  Calls Tryz.prog 98 #[.pointer (some ⟨b, 0, none⟩)] w fun e w' => e = .returned (.int .u64 (fnv s : Nat)) ∧ w' = w := by
 obtain ⟨c0, c1⟩ := one_cell h
 have hn := xor_first _ (with_big s)
 rw [with_first] at hn
 clear h
 go_enter Tryz.func98, Tryz.ntmps98
 go_wp2_with (fail)
 go_ret
 exact ⟨rfl, rfl⟩
theorem fnv_of (s : ByteArray) (w : World) (hs : s.size ≤ 140737488351232) :
  Calls Tryz.prog 64 #[.string s] w fun e w' => e = .returned (.int .u64 (fnv s : Nat)) ∧ Below w.heap.size w w' := by
 go_enter Tryz.func64, Tryz.ntmps64
 go_wp2_with (fail)
 refine (hash_add _ s _ hs (heap_alloc_self _ _)).mono ?_
 rintro e w1 ⟨rfl, rfl⟩
 go_wp2_with (fail)
 refine (hash_now _ s _ (heap_alloc_self _ _)).mono ?_
 rintro e w1 ⟨rfl, rfl⟩
 go_wp2_with (fail)
 go_ret
 exact ⟨rfl, (Below.refl _ w).alloc (Nat.le_refl _) _⟩
end Go.Proofs.YtfbbcfhdjhiejaaGreat.Sums

/- Faults: how they are made, and told. -/
namespace Go.Proofs.YtfbbcfhdjhiejaaGreat.Fa
set_option linter.unusedVariables false
set_option linter.unusedSimpArgs false
open Go.RowKit Go.Proofs.YtfbbcfhdjhiejaaGreatW.PrintWords Go.Proofs.YtfbbcfhdjhiejaaGreatW.PrintMore Go.Proofs.YtfbbcfhdjhiejaaGreat.L
def errV (o : Option (Int × Nat)) : Value := match o with
 | none => .nilIface
 | some x => .iface 105 (.agg #[.int .i64 x.1, .int .i64 x.2])
theorem new_any (c a : Int) (w : World) (h0 : 0 ≤ a) (hc : c ≠ 0) : Calls Tryz.prog 65 #[.int .i64 c, .int .i64 a] w fun e w' => e = .returned (errV (some (c, a.toNat))) ∧ w' = w := by
 have h : (c == 0) = false := beq_eq_false_iff_ne.2 hc
 obtain ⟨A, rfl⟩ := Int.eq_ofNat_of_zero_le h0
 go_enter Tryz.func65, Tryz.ntmps65
 go_wp2_with (fail)
 go_ret
 exact ⟨rfl, rfl⟩
theorem bel_alloc (w : World) (o : Obj) : Below w.heap.size w (w.alloc o) := (Below.refl _ w).alloc (Nat.le_refl _) _
theorem assert_some (v : Value) (W : World) : (Instr.typeAssert (.iface 105 v) 37 105 true).run Tryz.prog W = .ok (.tuple #[v, .bool true]) W := by
 simp [Instr.typeAssert, run_underlying Tryz.underlying105, go_sem]
set_option maxRecDepth 100000 in
theorem of_some (c a : Int) (w : World) : Calls Tryz.prog 56 #[.iface 105 (.agg #[.int .i64 c, .int .i64 a])] w fun e w' => e = .returned (.tuple #[.agg #[.int .i64 c, .int .i64 a], .bool true]) ∧ Below w.heap.size w w' := by
 have ta := assert_some (.agg #[.int .i64 c, .int .i64 a])
 go_enter Tryz.func56, Tryz.ntmps56
 go_wp2_with (fail)
 exact bodyPost_ret (v := .tuple #[.agg #[.int .i64 c, .int .i64 a], .bool true]) (by simp [results, Tryz.results56, go_sem]) rfl ⟨rfl, ((Below.refl _ w).alloc (Nat.le_refl _) _).alloc (by simp) _⟩
set_option maxRecDepth 100000 in
theorem told_same (c : Int) (a : Nat) (w : World) (hc : c ≠ 0) : Calls Tryz.prog 21 #[errV (some (c, a)), .int .i64 c, .int .i64 a] w fun e w' => e = .returned (.bool true) ∧ Below w.heap.size w w' := by
 have h : (c == 0) = false := beq_eq_false_iff_ne.2 hc
 show Calls Tryz.prog 21 #[.iface 105 (.agg #[.int .i64 c, .int .i64 a]), .int .i64 c, .int .i64 a] w _
 go_enter Tryz.func21, Tryz.ntmps21
 go_wp2_with (fail)
 refine (of_some c a _).mono ?_
 rintro e w1 ⟨rfl, hb⟩
 have HB := Lib.hid hb
 clear hb
 go_wp2_with (fail)
 go_ret
 exact ⟨rfl, HB.out.alloc HB.out.size _⟩
end Go.Proofs.YtfbbcfhdjhiejaaGreat.Fa

/- The plain law of numbers of one to five bytes: what is written is read, and nothing else is. No program in sight. -/
namespace Go.Proofs.YtfbbcfhdjhiejaaGreat.VariSpec
open Go.RowKit Go.Proofs.YtfbbcfhdjhiejaaGreatW.PrintWords Go.Proofs.YtfbbcfhdjhiejaaGreatW.PrintMore
/-- A number as bytes; f: how many bytes may come ahead of the last one. -/
def encN : Nat → Int → List Int
 | 0, n => [n]
 | f + 1, n => if 128 ≤ n then (n % 128 + 128) :: encN f (n / 128) else [n]
/-- What f bytes and the last one may bear. -/
def cap : Nat → Int
 | 0 => 16
 | f + 1 => 128 * cap f
/-- The number of bytes, from place i on, n gathered so far. -/
def dec : List Int → Nat → Int → Int × Int × Int
 | [], _, _ => (0, 0, 2)
 | c :: cs, i, n => if i = 4 ∧ 15 < c then (0, 0, 4) else if 0 < i ∧ c = 0 then (0, 0, 3) else if c < 128 then (n + c * 128 ^ i, (i : Int) + 1, 0) else dec cs (i + 1) (n + c % 128 * 128 ^ i)
theorem encN_len : ∀ f n, 1 ≤ (encN f n).length ∧ (encN f n).length ≤ f + 1
 | 0, n => by simp [encN]
 | f + 1, n => by
   have := encN_len f (n / 128)
   simp only [encN]
   split <;> simp <;> omega
theorem encN_bytes : ∀ f n, 0 ≤ n → n < cap f → ∀ x ∈ encN f n, 0 ≤ x ∧ x < 256
 | 0, n, h0, h1 => by simp only [cap] at h1; simp [encN]; omega
 | f + 1, n, h0, h1 => by
   simp only [cap] at h1
   have ih := encN_bytes f (n / 128) (by omega) (by omega)
   simp only [encN]
   intro x hx
   split at hx
   ·rcases List.mem_cons.1 hx with rfl | hx
    ·omega
    ·exact ih x hx
   ·simp at hx; omega
theorem mulpart (n Q : Int) : n % 128 * Q + n / 128 * (128 * Q) = n * Q := by
 have h := Int.emod_add_mul_ediv n 128
 rw [← Int.mul_assoc, Int.mul_comm (n / 128) 128, ← Int.add_mul, h]
theorem pow_succ' (i : Nat) : (128 : Int) ^ (i + 1) = 128 * 128 ^ i := by rw [Int.pow_succ, Int.mul_comm]
/-- What is written is read, whatever stands behind it. -/
theorem dec_enc : ∀ f i n acc rest, i + f = 4 → 0 ≤ n → n < cap f → (0 < i → 0 < n) → dec (encN f n ++ rest) i acc = (acc + n * 128 ^ i, (i : Int) + (encN f n).length, 0)
 | 0, i, n, acc, rest, hi, h0, h1, hp => by
   simp only [cap] at h1
   obtain rfl : i = 4 := by omega
   have := hp (by omega)
   simp only [encN, List.singleton_append, dec]
   rw [if_neg (by omega), if_neg (by omega), if_pos (by omega)]
   simp
 | f + 1, i, n, acc, rest, hi, h0, h1, hp => by
   simp only [cap] at h1
   simp only [encN]
   by_cases h : 128 ≤ n
   ·rw [if_pos h]
    simp only [List.cons_append, dec]
    rw [if_neg (by omega), if_neg (by omega), if_neg (by omega)]
    have e1 : (n % 128 + 128) % 128 = n % 128 := by omega
    rw [e1, dec_enc f (i + 1) (n / 128) _ rest (by omega) (by omega) (by omega) (by omega), pow_succ', Int.add_assoc, mulpart]
    simp only [List.length_cons, Prod.mk.injEq, and_true, true_and]
    omega
   ·rw [if_neg h]
    simp only [List.singleton_append, dec]
    rw [if_neg (by omega), if_neg (by omega), if_pos (by omega)]
    simp
/-! bytes as lists of numbers -/
theorem bytesOf_append (x y : ByteArray) : bytesOf (x ++ y) = bytesOf x ++ bytesOf y := by
 unfold bytesOf
 rw [ByteArray.data_append]
 simp
theorem bytesOf_str (xs : List Int) (h : ∀ x ∈ xs, 0 ≤ x ∧ x < 256) : bytesOf (strOfNums xs) = xs := by
 unfold bytesOf
 rw [strOfNums_data, List.map_map]
 have : ∀ x ∈ xs, ((fun b : UInt8 => (b.toNat : Int)) ∘ fun n : Int => UInt8.ofNat n.toNat) x = id x := by
  intro x hx
  have := h x hx
  simp only [Function.comp, UInt8.toNat_ofNat', id]
  omega
 rw [List.map_congr_left this, List.map_id]
end Go.Proofs.YtfbbcfhdjhiejaaGreat.VariSpec
