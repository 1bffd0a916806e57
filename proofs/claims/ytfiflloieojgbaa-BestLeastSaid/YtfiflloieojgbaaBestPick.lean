/- Chapter 15: what is behind a place costs no more than one token and what is behind that; and just so much for one of them: in plain Lean. -/
import Derived.Test.YtfiflloieojgbaaBestTile
import Derived.Test.YtfiflloieojgbaaRefParse
namespace Go.Proofs.Ytfiflloieojgbaa.Best
set_option linter.unusedVariables false
set_option linter.unusedSimpArgs false
open Go.RowKit Go.Proofs.YtfiflloieojgbaaW.PrintWords Go.Proofs.YtfiflloieojgbaaW.PrintMore Go.Proofs.Ytfiflloieojgbaa.L Go.Proofs.Ytfiflloieojgbaa.Texts Go.Proofs.Ytfiflloieojgbaa.Dict Go.Proofs.Ytfiflloieojgbaa.Ints Go.Proofs.Ytfiflloieojgbaa.Greedy Go.Proofs.Ytfiflloieojgbaa.Cost Go.Proofs.Ytfiflloieojgbaa.Fl Go.Proofs.Ytfiflloieojgbaa.Say

def KC : Kd Cst := Kd.scalar (fun x : Cst => cx x.1 x.2) (fun _ => rfl)
/-- What may be picked at a place. -/
def pick (l : List ByteArray) (b : ByteArray) (a : Nat) (n : Nat) : Cst := add (oc (tokenOf l b a n)) (VV l b (a + n))
def allAt (l : List ByteArray) (b : ByteArray) (a k : Nat) : List Cst := add (oc (byteAt b a)) (VV l b (a + 1)) :: ((stands_ l b a).take k).map (fun x => pick l b a x.toNat)
theorem allAt_len (l : List ByteArray) (b : ByteArray) (a k : Nat) (hk : k ≤ (stands_ l b a).length) : (allAt l b a k).length = k + 1 := by
  unfold allAt
  rw [List.length_cons, List.length_map, List.length_take, Nat.min_eq_left hk]
theorem allAt_succ (l : List ByteArray) (b : ByteArray) (a k : Nat) (hk : k < (stands_ l b a).length) : allAt l b a (k + 1) = allAt l b a k ++ [pick l b a ((stands_ l b a).getD k 0).toNat] := by
  unfold allAt
  rw [List.take_succ_eq_append_getElem hk, List.map_append, List.cons_append, List.getD_eq_getElem?_getD, List.getElem?_eq_getElem hk]
  rfl
theorem stands_mem (l : List ByteArray) (b : ByteArray) (a k : Nat) (hk : k < (stands_ l b a).length) : ∃ m : Nat, (stands_ l b a).getD k 0 = m ∧ 1 ≤ m ∧ m ≤ 40 ∧ m ≤ b.size - a ∧ has (piece b a m) l = true := by
  have h : (stands_ l b a).getD k 0 ∈ stands_ l b a := by rw [List.getD_eq_getElem?_getD, List.getElem?_eq_getElem hk]; exact List.getElem_mem hk
  obtain ⟨m, h1, h2, h3, h4⟩ := (standsDown_mem l b a _ _).1 h
  exact ⟨m, h1, h2, by omega, by omega, h4⟩
theorem pick_step {l : List ByteArray} {b : ByteArray} {a m : Nat} (h1 : 1 ≤ m) (h2 : a + m ≤ b.size) (h3 : has (piece b a m) l = true) : (tokenOf l b a m, m) ∈ steps l b a := by
  have hi : idx (piece b a m) l < l.length := (idx_mem _ l).2 ((has_iff _ l).1 h3)
  have hg := idx_get _ l hi
  have hz := piece_size b a m h2
  unfold steps
  refine List.mem_append_left _ ((phr_mem l b a _ _).2 ⟨idx (piece b a m) l, hi, (stands_iff l b a _ (by omega)).2 ?_, ?_⟩)
  · rw [hg, hz]
    exact ⟨by omega, rfl⟩
  · rw [hg, hz]
    unfold tokenOf
    rw [if_pos h3]
theorem step_pick {l : List ByteArray} (hok : okTexts l) {b : ByteArray} {a : Nat} (ha : a < b.size) {s : Stp} (hs : s ∈ steps l b a) : s = (byteAt b a, 1) ∨ ∃ m : Nat, s = (tokenOf l b a m, m) ∧ ((m : Nat) : Int) ∈ stands_ l b a := by
  rcases List.mem_append.1 hs with h | h
  · right
    obtain ⟨j, h1, h2, rfl⟩ := (phr_mem l b a s _).1 h
    have h3 := (stands_iff l b a j (by omega)).1 h2
    obtain ⟨k1, k2, k3, k4⟩ := hok.2 j h1
    have h5 : has (piece b a (l.getD j no).size) l = true := by
      rw [h3.2]
      exact (has_iff _ l).2 (getD_mem l j h1)
    refine ⟨(l.getD j no).size, ?_, (standsDown_mem l b a _ _).2 ⟨_, rfl, by omega, by omega, h5⟩⟩
    unfold tokenOf
    rw [if_pos h5, h3.2]
    have h6 := idx_self l j h1
    rw [show idx (l.getD j no) l = j by omega]
  · rw [List.mem_singleton] at h
    exact .inl h
theorem all_by {l : List ByteArray} (hok : okTexts l) {b : ByteArray} (hb : b.size ≤ 1024) {a : Nat} (ha : a < b.size) : (∀ x ∈ allAt l b a (stands_ l b a).length, ¬ lt x (VV l b a)) ∧ VV l b a ∈ allAt l b a (stands_ l b a).length := by
  have ht := taken (fine hok hb) (b.size - a) (by omega) (by omega)
  have hst : stq l b (b.size - a) = steps l b a := by unfold stq; rw [if_neg (by omega), show b.size - (b.size - a) = a by omega]
  rw [hst] at ht
  have hV : VV l b a = V (stq l b) oc (b.size - a) := rfl
  rw [← hV] at ht
  obtain ⟨t1, t2, t3, t4⟩ := ht
  unfold allAt
  rw [List.take_length]
  constructor
  · intro x hx
    rcases List.mem_cons.1 hx with rfl | hx
    · have := t3 (byteAt b a, 1) (List.mem_append_right _ List.mem_cons_self)
      rwa [by_place l b a _ (by simp only; omega)] at this
    · obtain ⟨y, hy, rfl⟩ := List.mem_map.1 hx
      obtain ⟨m, rfl, h2, h3, h4⟩ := (standsDown_mem l b a _ _).1 hy
      have := t3 _ (pick_step h2 (by omega) h4)
      rw [by_place l b a _ (by simp only; omega)] at this
      rw [Int.toNat_natCast]
      exact this
  · have hf := steps_fit hok ha t1
    rw [by_place l b a _ (by omega)] at t2
    rcases step_pick hok ha t1 with h | ⟨m, h, hm⟩
    · rw [h] at t2
      rw [t2]
      exact List.mem_cons_self
    · rw [h] at t2
      rw [t2]
      exact List.mem_cons_of_mem _ (List.mem_map.2 ⟨_, hm, by rw [Int.toNat_natCast]; rfl⟩)
theorem pick_bound {l : List ByteArray} (hok : okTexts l) {b : ByteArray} (hb : b.size ≤ 1024) (t : Int) (i : Nat) (h0 : 0 ≤ t) (h1 : t ≤ 1000) : (add (oc t) (VV l b i)).1 ≤ 1025 ∧ (add (oc t) (VV l b i)).2 ≤ 41000 := by
  have h1 := oc_tok t h0 h1
  have h2 := VV_bound hok hb i
  unfold add
  simp only
  omega
theorem all_bound {l : List ByteArray} (hok : okTexts l) {b : ByteArray} (hb : b.size ≤ 1024) {a : Nat} (ha : a < b.size) (k : Nat) : ∀ x ∈ allAt l b a k, x.1 ≤ 1025 ∧ x.2 ≤ 41000 := by
  intro x hx
  have h100 := hok.1
  rcases List.mem_cons.1 hx with rfl | hx
  · have := byteAt_lt b a
    exact pick_bound hok hb _ _ (by omega) (by omega)
  · obtain ⟨y, _, rfl⟩ := List.mem_map.1 hx
    have := token_range l b a y.toNat h100
    exact pick_bound hok hb _ _ (by omega) (by omega)
/-- The costs, as a block of one's own. -/
theorem CBlk_of_R {w : World} {base : Nat} {ok : Nat → Prop} {v : Value} {xs : List Cst} (h : KC.R 47 w base ok v xs) (hn : 0 < xs.length) :
    ∃ g cap, v = .slice (some ⟨g, 0, none⟩) xs.length cap ∧ base ≤ g ∧ CBlk w g xs.length (fun j => xs.getD j (0, 0)) := by
  obtain ⟨g, cap, hv, hge, hgl, cells, hcell⟩ := Kd.R_form h hn
  subst hv
  refine ⟨g, cap, rfl, hge, cells, hcell, fun j hj => ?_⟩
  obtain ⟨ad, c, e, _, hK, hc⟩ := ReadsRow.get_ (Kd.R_reads' h).2.2 (0, 0) (j : Int) (by omega) (by omega)
  rw [Int.toNat_natCast] at hK hc
  have hK : c = [cx (xs.getD j (0, 0)).1 (xs.getD j (0, 0)).2] := hK
  subst hK
  injection e with e
  subst e
  have := hc 0 _ rfl
  rw [show KC.sz = 1 from rfl, Nat.add_zero, Nat.mul_one, add_plain, cell_of_row w g j cells _ _ hcell] at this
  exact this
end Go.Proofs.Ytfiflloieojgbaa.Best
