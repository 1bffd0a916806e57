/- Chapter 17: what counting computes. -/
import Derived.Test.YthncomijfpbeeaaInts
namespace Go.Proofs.Ythncomijfpbeeaa.Hist
set_option linter.unusedVariables false
set_option linter.unusedSimpArgs false
open Go.RowKit Go.Proofs.YthncomijfpbeeaaW.PrintWords Go.Proofs.YthncomijfpbeeaaW.PrintMore Go.Proofs.Ythncomijfpbeeaa.L Go.Proofs.Ythncomijfpbeeaa.Ints

/-! ### what is computed -/
def bump (h : List Int) (t : Int) : List Int := h.set t.toNat (h.getD t.toNat 0 + 1)
def counted (h l : List Int) : List Int := l.foldl bump h
def inR (n : Nat) (t : Int) : Prop := 0 ≤ t ∧ t < (n : Int)
instance (n : Nat) (t : Int) : Decidable (inR n t) := by unfold inR; exact inferInstance
theorem bump_length (h : List Int) (t : Int) : (bump h t).length = h.length := List.length_set ..
theorem counted_length : ∀ (l h : List Int), (counted h l).length = h.length
  | [], h => rfl
  | t :: l, h => by
    show (counted (bump h t) l).length = _
    rw [counted_length l, bump_length]
theorem counted_snoc (h l : List Int) (t : Int) : counted h (l ++ [t]) = bump (counted h l) t := by simp [counted, List.foldl_append]
theorem counted_append (h a b : List Int) : counted h (a ++ b) = counted (counted h a) b := by simp [counted, List.foldl_append]
theorem counted_le : ∀ (l h : List Int) (M : Int), (∀ x ∈ h, -M ≤ x ∧ x ≤ M) → ∀ i, i < h.length → -M ≤ (counted h l).getD i 0 ∧ (counted h l).getD i 0 ≤ M + l.length := by
  intro l
  induction l with
  | nil =>
    intro h M hb i hi
    have : h.getD i 0 ∈ h := by
      rw [List.getD_eq_getElem?_getD, List.getElem?_eq_getElem hi]
      exact List.getElem_mem hi
    have := hb _ this
    simp only [counted, List.foldl_nil, List.length_nil]
    omega
  | cons t l ih =>
    intro h M hb i hi
    show -M ≤ (counted (bump h t) l).getD i 0 ∧ (counted (bump h t) l).getD i 0 ≤ _
    have key : ∀ x ∈ bump h t, -(M + 1) ≤ x ∧ x ≤ M + 1 := by
      intro x hx
      unfold bump at hx
      rcases List.mem_or_eq_of_mem_set hx with hx | rfl
      · have := hb x hx; omega
      · by_cases hl : t.toNat < h.length
        · have : h.getD t.toNat 0 ∈ h := by
            rw [List.getD_eq_getElem?_getD, List.getElem?_eq_getElem hl]
            exact List.getElem_mem hl
          have := hb _ this
          omega
        · rw [List.set_eq_of_length_le (by omega)] at hx
          have h0 := hb _ hx
          omega
    have low : ∀ (l h : List Int), (∀ x ∈ h, -M ≤ x) → ∀ i, i < h.length → -M ≤ (counted h l).getD i 0 := by
      intro l
      induction l with
      | nil =>
        intro h hb i hi
        refine hb _ ?_
        simp only [counted, List.foldl_nil]
        rw [List.getD_eq_getElem?_getD, List.getElem?_eq_getElem hi]
        exact List.getElem_mem hi
      | cons t l ih2 =>
        intro h hb i hi
        refine ih2 (bump h t) ?_ i (by rw [bump_length]; exact hi)
        intro x hx
        unfold bump at hx
        rcases List.mem_or_eq_of_mem_set hx with hx | rfl
        · exact hb x hx
        · by_cases hl : t.toNat < h.length
          · have : h.getD t.toNat 0 ∈ h := by
              rw [List.getD_eq_getElem?_getD, List.getElem?_eq_getElem hl]
              exact List.getElem_mem hl
            have := hb _ this
            omega
          · rw [List.set_eq_of_length_le (by omega)] at hx
            exact hb _ hx
    have h1 := ih (bump h t) (M + 1) key i (by rw [bump_length]; exact hi)
    have h2 := low (t :: l) h (fun x hx => (hb x hx).1) i hi
    simp only [List.length_cons]
    refine ⟨h2, ?_⟩
    omega

/-! ### Total and Used -/
def total (h : List Int) : Int := h.foldl (fun n c => n + c) 0
def used (h : List Int) : Int := h.foldl (fun n c => if 0 < c then n + 1 else n) 0
theorem total_snoc (h : List Int) (c : Int) : total (h ++ [c]) = total h + c := by simp [total]
theorem used_snoc (h : List Int) (c : Int) : used (h ++ [c]) = if 0 < c then used h + 1 else used h := by simp [used]
theorem used_range : ∀ (h : List Int), 0 ≤ used h ∧ used h ≤ h.length := by
  intro h
  have : ∀ (h : List Int) (n : Int), n ≤ h.foldl (fun n c => if 0 < c then n + 1 else n) n ∧ h.foldl (fun n c => if 0 < c then n + 1 else n) n ≤ n + h.length := by
    intro h
    induction h with
    | nil => intro n; simp
    | cons c h ih =>
      intro n
      simp only [List.foldl_cons, List.length_cons]
      have h1 := ih (n + 1)
      have h2 := ih n
      split <;> omega
  have := this h 0
  unfold used
  omega
theorem total_any (A : Option Addr) (n c : Nat) (h : List Int) (w : World) (hh : KI.C w A n h) (hb : ∀ k, k ≤ h.length → -(2 ^ 63) ≤ total (h.take k) ∧ total (h.take k) < 2 ^ 63) :
    Calls Try.prog 20 #[.slice A n c] w fun e w' => e = .returned (.int .i64 (total h)) ∧ w' = w := by
  have H := Lib.hid hh
  have hmx := Kd.C_max hh
  have hnl := ki_len hh
  have HB := Lib.hid hb
  clear hh hb
  subst hnl
  go_enter Try.func20, Try.ntmps20
  go_wp2_with (fail)
  go_loopg [3, 8] h.length (fun j s i wr => ∃ k : Nat, k + j = h.length ∧ i = .int .i64 k ∧ s = .int .i64 (total (h.take k)) ∧ wr = w)
  case atStart => exact ⟨0, by omega, rfl, rfl, rfl⟩
  case round =>
    obtain ⟨k, hk, rfl, rfl, rfl⟩ := hrel
    by_cases hlt : k < h.length
    · obtain ⟨ad, rfl, x0⟩ := ints_at H.out k hlt
      obtain ⟨x, hx⟩ : ∃ x, h.getD k 0 = x := ⟨_, rfl⟩
      rw [hx] at x0
      have hn : total (h.take (k + 1)) = total (h.take k) + x := by rw [take_succ_getD h k hlt, total_snoc, hx]
      have h1 := HB.out (k + 1) (by omega)
      rw [hn] at h1
      have h2 : wrap64 (total (h.take k) + x) = total (h.take k) + x := by unfold wrap64; omega
      have i0 : (0 : Int) ≤ k := by omega
      have i1 : (k : Int) < (h.length : Int) := by omega
      have i2 : ((k : Int)).toNat = k := by omega
      have HN := Lib.hid hn
      have H2 := Lib.hid h2
      clear hn h1 hx
      go_wp2_with (fail)
      go_roundg (h.length - (k + 1))
      case measure => omega
      case rel => exact ⟨k + 1, by omega, by go_num, by rw [HN.out, H2.out], rfl⟩
    · obtain rfl : k = h.length := by omega
      go_wp2_with (fail)
      go_ret
      rw [List.take_length]
      exact ⟨rfl, rfl⟩
theorem used_any (A : Option Addr) (n c : Nat) (h : List Int) (w : World) (hh : KI.C w A n h) :
    Calls Try.prog 21 #[.slice A n c] w fun e w' => e = .returned (.int .i64 (used h)) ∧ w' = w := by
  have H := Lib.hid hh
  have hmx := Kd.C_max hh
  have hnl := ki_len hh
  clear hh
  subst hnl
  go_enter Try.func21, Try.ntmps21
  go_wp2_with (fail)
  go_loopg [3, 8] h.length (fun j s i wr => ∃ k : Nat, k + j = h.length ∧ i = .int .i64 k ∧ s = .int .i64 (used (h.take k)) ∧ wr = w)
  case atStart => exact ⟨0, by omega, rfl, rfl, rfl⟩
  case round =>
    obtain ⟨k, hk, rfl, rfl, rfl⟩ := hrel
    by_cases hlt : k < h.length
    · obtain ⟨ad, rfl, x0⟩ := ints_at H.out k hlt
      obtain ⟨x, hx⟩ : ∃ x, h.getD k 0 = x := ⟨_, rfl⟩
      rw [hx] at x0
      have hn : used (h.take (k + 1)) = if 0 < x then used (h.take k) + 1 else used (h.take k) := by rw [take_succ_getD h k hlt, used_snoc, hx]
      have h1 := used_range (h.take k)
      have h3 := List.length_take_le k h
      have h2 : wrap64 (used (h.take k) + 1) = used (h.take k) + 1 := by unfold wrap64; omega
      have i0 : (0 : Int) ≤ k := by omega
      have i1 : (k : Int) < (h.length : Int) := by omega
      have i2 : ((k : Int)).toNat = k := by omega
      have HN := Lib.hid hn
      have H2 := Lib.hid h2
      clear hn h1 h3 hx
      by_cases hp : 0 < x
      · have HP := Lib.hid hp
        go_wp2_with (fail)
        go_roundg (h.length - (k + 1))
        case measure => omega
        case rel => exact ⟨k + 1, by omega, by go_num, by rw [HN.out, if_pos (by have := HP.out; omega), H2.out], rfl⟩
      · have HP := Lib.hid hp
        go_wp2_with (fail)
        go_roundg (h.length - (k + 1))
        case measure => omega
        case rel => exact ⟨k + 1, by omega, by go_num, by rw [HN.out, if_neg (by have := HP.out; omega)], rfl⟩
    · obtain rfl : k = h.length := by omega
      go_wp2_with (fail)
      go_ret
      rw [List.take_length]
      exact ⟨rfl, rfl⟩

/-! ### Add and Of -/
def good (n : Nat) (l : List Int) : Prop := ∀ t ∈ l, inR n t
instance (n : Nat) (l : List Int) : Decidable (good n l) := by unfold good; exact inferInstance
set_option maxRecDepth 100000 in
set_option maxHeartbeats 1000000 in
theorem add_any (A B : Option Addr) (n m c c' : Nat) (h l : List Int) (w : World) (hh : KI.C w A n h) (hl : KI.C w B m l) (h356 : h.length ≤ 356) (hb : ∀ x ∈ h, -(2 ^ 62) ≤ x ∧ x ≤ 2 ^ 62) (hm : m * 8 ≤ 140737488351232) :
    Calls Try.prog 17 #[.slice A n c, .slice B m c'] w fun e w' => Below w.heap.size w w' ∧
      ((good h.length l ∧ ∃ v, e = .returned (.tuple #[v, .int .i64 0]) ∧ KI.R 3 w' w.heap.size (fun _ => True) v (counted h l)) ∨ (¬ good h.length l ∧ e = .returned (.tuple #[.slice none 0 0, .int .i64 9]))) := by
  have H := Lib.hid hh
  have HL := Lib.hid hl
  have hnl := ki_len hh
  have hml := ki_len hl
  have HB := Lib.hid hb
  clear hh hl hb
  subst hnl
  subst hml
  go_enter Try.func17, Try.ntmps17
  go_wp2_with (fail)
  refine (clone_ints _ _ _ _ _ H.out (by omega)).mono ?_
  rintro e w1 ⟨v, rfl, hr, hbw⟩
  obtain ⟨A1, c1, rfl⟩ := Kd.R_slice hr
  have HR := Lib.hid hr
  have HW := Lib.hid hbw
  clear hr hbw
  go_wp2_with (fail)
  go_loopg [16] l.length (fun j i wr => ∃ k : Nat, k + j = l.length ∧ i = .int .i64 k ∧ Hid (good h.length (l.take k) ∧ KI.R 3 wr w.heap.size (fun _ => True) (.slice A1 h.length c1) (counted h (l.take k)) ∧ Below w.heap.size w wr))
  case atStart => exact ⟨0, by omega, rfl, by intro t ht; simp at ht, HR.out, HW.out⟩
  case round =>
    obtain ⟨k, hk, rfl, HI⟩ := hrel
    by_cases hlt : k < l.length
    · obtain ⟨hg, hr, hbw⟩ := HI.out
      obtain ⟨ad, rfl, x0⟩ := ints_at (Kd.C_below HL.out ⟨hbw.os, hbw.tape, hbw.output, hbw.size, hbw.block⟩) k hlt
      obtain ⟨t, ht⟩ : ∃ t, l.getD k 0 = t := ⟨_, rfl⟩
      rw [ht] at x0
      have htm : t ∈ l := by
        rw [← ht, List.getD_eq_getElem?_getD, List.getElem?_eq_getElem hlt]
        exact List.getElem_mem hlt
      have hsn : l.take (k + 1) = l.take k ++ [t] := by rw [take_succ_getD l k hlt, ht]
      have i0 : (0 : Int) ≤ k := by omega
      have i1 : (k : Int) < (l.length : Int) := by omega
      have i2 : ((k : Int)).toNat = k := by omega
      by_cases hin : inR h.length t
      · obtain ⟨t0, t1⟩ := hin
        have hlen : (counted h (l.take k)).length = h.length := counted_length _ _
        have hx := counted_le (l.take k) h (2 ^ 62) HB.out t.toNat (by omega)
        have hlk := List.length_take_le k l
        obtain ⟨g, cap, hv, hge, hgl, cells, hcell⟩ := Kd.R_form hr (by rw [hlen]; omega)
        rw [hlen] at hv
        injection hv with hv1 hv2 hv3
        subst hv1 hv3
        have hr' := hr
        rw [← hlen] at hr'
        obtain ⟨y0, y1⟩ := Kd.R_cell (enc := Value.int .i64) (h1 := fun _ => rfl) (0 : Int) hr' t t0 (by rw [hlen]; exact t1)
        obtain ⟨p0, p1⟩ := Kd.R_put (enc := Value.int .i64) (h1 := fun _ => rfl) hr' t ((counted h (l.take k)).getD t.toNat 0 + 1)
        rw [hlen] at p0
        obtain ⟨x, hxx⟩ : ∃ x, (counted h (l.take k)).getD t.toNat 0 = x := ⟨_, rfl⟩
        rw [show rdOf (0 : Int) (counted h (l.take k)) t = x from hxx] at y0
        rw [hxx] at p0 p1 hx
        have hbump : (counted h (l.take k)).set t.toNat (x + 1) = counted h (l.take (k + 1)) := by rw [hsn, counted_snoc]; unfold bump; rw [hxx]
        rw [hbump] at p0
        have hw2 : wrap64 (x + 1) = x + 1 := by unfold wrap64; omega
        have P0 := Lib.hid p0
        have P1 := Lib.hid p1
        have HG := Lib.hid (show good h.length (l.take (k + 1)) from by
          rw [hsn]
          intro u hu
          rcases List.mem_append.1 hu with hu | hu
          · exact hg u hu
          · rw [List.mem_singleton.1 hu]; exact ⟨t0, t1⟩)
        have HBW := Lib.hid (hbw.grown p1 hbw.size (fun k hk => by
          injection hk with hk
          omega))
        clear hr hr' hbw HI p0 p1 hbump hxx hx hlk hlen hg hcell hge hgl hsn ht htm
        go_wp2_with (fail)
        go_roundg (l.length - (k + 1))
        case measure => omega
        case rel => exact ⟨k + 1, by omega, by go_num, HG.out, P0.out, HBW.out⟩
      · have HIN := Lib.hid (show ¬ good h.length l from fun hgd => hin (hgd t htm))
        have HBW := Lib.hid hbw
        clear hr hbw HI hg hsn ht htm
        by_cases t0 : t < 0
        · clear hin
          go_wp2_with (fail)
          go_ret2
          exact ⟨HBW.out, .inr ⟨HIN.out, rfl⟩⟩
        · have t1 : (h.length : Int) ≤ t := by
            unfold inR at hin
            omega
          clear hin
          go_wp2_with (fail)
          go_ret2
          exact ⟨HBW.out, .inr ⟨HIN.out, rfl⟩⟩
    · obtain rfl : k = l.length := by omega
      obtain ⟨hg, hr, hbw⟩ := HI.out
      rw [List.take_length] at hg hr
      have HG := Lib.hid hg
      have HR2 := Lib.hid hr
      have HBW := Lib.hid hbw
      clear hg hr hbw HI
      go_wp2_with (fail)
      go_ret2
      exact ⟨HBW.out, .inl ⟨HG.out, _, rfl, HR2.out⟩⟩

theorem zeros_any (n : Nat) : ∀ x ∈ List.replicate n (0 : Int), -(2 ^ 62) ≤ x ∧ x ≤ 2 ^ 62 := by
  intro x hx
  rw [List.eq_of_mem_replicate hx]
  decide
set_option maxRecDepth 100000 in
theorem of_arg (B : Option Addr) (m c' : Nat) (size : Int) (w : World) (hs : size < 0 ∨ 356 < size) :
    Calls Try.prog 15 #[.int .i64 size, .slice B m c'] w fun e w' => e = .returned (.tuple #[.slice none 0 0, .int .i64 1]) ∧ w' = w := by
  go_enter Try.func15, Try.ntmps15
  by_cases h0 : size < 0
  · clear hs
    go_wp2_with (fail)
    go_ret2
    exact ⟨rfl, rfl⟩
  · have h1 : 356 < size := by omega
    clear hs
    go_wp2_with (fail)
    go_ret2
    exact ⟨rfl, rfl⟩
set_option maxRecDepth 100000 in
set_option maxHeartbeats 1000000 in
theorem of_any (B : Option Addr) (m c' : Nat) (size : Int) (l : List Int) (w : World) (hl : KI.C w B m l) (h0 : 0 ≤ size) (h356 : size ≤ 356) (hm : m * 8 ≤ 140737488351232) :
    Calls Try.prog 15 #[.int .i64 size, .slice B m c'] w fun e w' => Below w.heap.size w w' ∧
      ((good size.toNat l ∧ ∃ v, e = .returned (.tuple #[v, .int .i64 0]) ∧ KI.R 3 w' w.heap.size (fun _ => True) v (counted (List.replicate size.toNat 0) l)) ∨ (¬ good size.toNat l ∧ e = .returned (.tuple #[.slice none 0 0, .int .i64 9]))) := by
  have HL := Lib.hid hl
  clear hl
  go_enter Try.func15, Try.ntmps15
  go_wp2_with ((with_reducible refine gate_dst (N := 13) rfl ?_); apply stopper)
  unfold Stopper
  refine Kd.R_make KI (w0 := w) w.heap.size 3 rfl (N := 13) rfl 22 _ _ rfl size rfl rfl Try.underlying22 (.int .i64 0) 8 infoInt rfl (by decide) (by omega) 0 (ok := fun _ => True) (okp := fun _ => True) ?mM (fun _ hk => hk) trivial h0 ?mL (Below.refl _ _) (Nat.le_refl _) ?_
  case mM => exact rfl
  case mL => omega
  intro v1 w1 hr hb hg hat
  obtain ⟨A1, c1, rfl⟩ := Kd.R_slice hr
  have HR := Lib.hid hr
  have HB := Lib.hid hb
  clear hr hb hg hat
  go_wp2_with (fail)
  obtain ⟨_, _, hc⟩ := Kd.R_reads' HR.out
  rw [List.length_replicate] at hc
  have hb := HB.out
  refine (add_any _ _ _ _ _ _ _ _ _ hc (Kd.C_below HL.out ⟨hb.os, hb.tape, hb.output, hb.size, hb.block⟩) (by simp; omega) (zeros_any _) (by omega)).mono ?_
  rintro e w2 ⟨hb2, ⟨hg, v, rfl, hr2⟩ | ⟨hg, rfl⟩⟩
  · have HB2 := Lib.hid (hb.trans ⟨hb2.os, hb2.tape, hb2.output, hb2.size, fun k hk => hb2.block k (by have := hb.size; omega)⟩)
    have HR2 := Lib.hid (Kd.R_lower hr2 hb.size)
    rw [List.length_replicate] at hg
    have HG := Lib.hid hg
    clear hb2 hr2 hb hg hc
    go_wp2_with (fail)
    go_ret2
    exact ⟨HB2.out, .inl ⟨HG.out, _, rfl, HR2.out⟩⟩
  · have HB2 := Lib.hid (hb.trans ⟨hb2.os, hb2.tape, hb2.output, hb2.size, fun k hk => hb2.block k (by have := hb.size; omega)⟩)
    rw [List.length_replicate] at hg
    have HG := Lib.hid hg
    clear hb2 hb hg hc
    go_wp2_with (fail)
    go_ret2
    exact ⟨HB2.out, .inr ⟨HG.out, rfl⟩⟩
end Go.Proofs.Ythncomijfpbeeaa.Hist
