/- Of the parts RefA, RefCode, RefPack, RefTab, RefLay: what the rows use. -/
import Derived.Test.YtfbbcfhdjhiejaaGreatZa1
import Derived.Test.YtfbbcfhdjhiejaaGreatZa4
import Derived.Test.YtfbbcfhdjhiejaaGreatZa13
import Derived.Test.YtfbbcfhdjhiejaaGreatZa14
import Derived.Test.YtfbbcfhdjhiejaaGreatZa19
/- The document's own: which configs there are; tokens. -/
namespace Go.Proofs.YtfbbcfhdjhiejaaGreat.Blk
set_option linter.unusedVariables false
set_option linter.unusedSimpArgs false
open Go.RowKit Go.Proofs.YtfbbcfhdjhiejaaGreatW.PrintWords Go.Proofs.YtfbbcfhdjhiejaaGreatW.PrintMore Go.Proofs.YtfbbcfhdjhiejaaGreat.L Go.Proofs.YtfbbcfhdjhiejaaGreat.Texts Go.Proofs.YtfbbcfhdjhiejaaGreat.Dict Go.Proofs.YtfbbcfhdjhiejaaGreat.Ints
set_option maxRecDepth 100000 in
set_option maxHeartbeats 4000000 in
theorem ref_config (c : Cf) (w : World) (h : c.ok) : Calls Tryz.prog 43 #[c.val] w fun e w' => e = .returned (.bool true) ∧ Below w.heap.size w w' := by
 obtain ⟨p, k, b, n⟩ := c
 obtain ⟨h1, h2, h3, h4, h5, h6⟩ := h
 dsimp only at h1 h2 h3 h4 h5 h6
 unfold Cf.val
 dsimp only
 have p0 : (0 : Int) ≤ (p : Int) := by omega
 have p1 : (p : Int) ≤ 2 := by omega
 have k0 : (0 : Int) ≤ (k : Int) := by omega
 have k1 : (k : Int) ≤ 1 := by omega
 have b0 : (1 : Int) ≤ (b : Int) := by omega
 have b1 : (b : Int) ≤ 1024 := by omega
 have n0 : (1 : Int) ≤ (n : Int) := by omega
 have n1 : (n : Int) ≤ 1024 := by omega
 clear h1 h2 h3 h4 h5 h6
 go_enter Tryz.func43, Tryz.ntmps43
 go_wp2_with (fail)
 go_ret
 exact ⟨by simp [p0, p1, k0, k1, b0, b1, n0, n1], (Below.refl _ w).alloc (Nat.le_refl _) _⟩
set_option maxRecDepth 100000 in
set_option maxHeartbeats 4000000 in
theorem ref_tokens (A : Option Addr) (cc : Nat) (l : List ByteArray) (c : Cf) (b : ByteArray) (w : World) (h : KS.C w A l.length l) (hcc : l.length ≤ cc) (hok : okTexts l) (hc : c.ok) (h0 : b.size ≠ 0) (hb : b.size ≤ c.block) (h400 : b.size ≤ 400) :
  Calls Tryz.prog 115 #[.slice A l.length cc, c.val, .string b] w fun e w' => ∃ v, e = .returned (.tuple #[v, .int .i64 0]) ∧ KI.R 3 w' w.heap.size (fun _ => True) v (toksP l c b) ∧ Below w.heap.size w w' := by
 obtain ⟨p0, k, m, n⟩ := c
 have HR := Lib.hid (fun W => ref_config ⟨p0, k, m, n⟩ W hc)
 unfold Cf.val at HR ⊢
 obtain ⟨h1, h2, h3, h4, h5, h6⟩ := hc
 dsimp only at h1 h2 h3 h4 h5 h6 hb HR ⊢
 have H := Lib.hid h
 have HOK := Lib.hid hok
 have hb1 : ¬ (m : Int) < (b.size : Int) := by omega
 have hb2 : ¬ (b.size : Int) < 1 := by omega
 have HBS := Lib.hid (And.intro hcc h400)
 have HWN := Lib.hid (And.intro h5 h6)
 clear h hok h2 h3 h4 h5 h6 h0 hb h400 hcc
 go_enter Tryz.func115, Tryz.ntmps115
 go_wp2_with (fail)
 refine (HR.out _).mono ?_
 rintro e w1 ⟨rfl, hb2'⟩
 have hblk : w1.heap[w.heap.size]? = some (.cells #[.int .i64 p0, .int .i64 k, .int .i64 m, .int .i64 n] 24 (0, 0)) := (hb2'.block _ (by simp)).trans (heap_alloc_self w _)
 obtain ⟨k0, k1, k2, k3⟩ := four hblk
 have HB2 := Lib.hid (Ints.bel_trans ((Below.refl _ w).alloc (Nat.le_refl _) (.cells #[.int .i64 p0, .int .i64 k, .int .i64 m, .int .i64 n] 24 (0, 0))) (by simp) hb2')
 have HD := Lib.hid (Kd.C_below H.out HB2.out)
 clear hb2' hblk HR
 have hp : p0 = 0 ∨ p0 = 1 ∨ p0 = 2 := by omega
 rcases hp with rfl | rfl | rfl
 ·go_wp2_with (fail)
  refine (Greedy.ref_greedy _ _ _ _ _ HD.out HOK.out.1 (by have := HBS.out; omega)).mono ?_
  rintro e w3 ⟨v3, rfl, hr3, hb3⟩
  have HR3 := Lib.hid (Kd.R_lower hr3 HB2.out.size)
  have HB3 := Lib.hid (Ints.bel_trans HB2.out HB2.out.size hb3)
  clear hr3 hb3
  go_wp2_with (fail)
  go_ret2
  exact ⟨_, rfl, HR3.out, HB3.out⟩
 ·go_wp2_with (fail)
  refine (Flex.ref_flex _ _ _ _ _ HD.out HOK.out (by have := HBS.out; omega)).mono ?_
  rintro e w3 ⟨v3, rfl, hr3, hb3⟩
  have HR3 := Lib.hid (Kd.R_lower hr3 HB2.out.size)
  have HB3 := Lib.hid (Ints.bel_trans HB2.out HB2.out.size hb3)
  clear hr3 hb3
  go_wp2_with (fail)
  go_ret2
  exact ⟨_, rfl, HR3.out, HB3.out⟩
 ·go_wp2_with (fail)
  refine (Best.ref_best _ _ _ _ _ _ HD.out HBS.out.1 HOK.out HBS.out.2 HWN.out.1 HWN.out.2).mono ?_
  rintro e w3 ⟨v3, rfl, hr3, hb3⟩
  have HR3 := Lib.hid (Kd.R_lower hr3 HB2.out.size)
  have HB3 := Lib.hid (Ints.bel_trans HB2.out HB2.out.size hb3)
  clear hr3 hb3
  go_wp2_with (fail)
  go_ret2
  exact ⟨_, rfl, HR3.out, HB3.out⟩
end Go.Proofs.YtfbbcfhdjhiejaaGreat.Blk

/- Chapter 19: the document's answer. -/
namespace Go.Proofs.YtfbbcfhdjhiejaaGreat.Code
set_option linter.unusedVariables false
set_option linter.unusedSimpArgs false
open Go.RowKit Go.Proofs.YtfbbcfhdjhiejaaGreatW.PrintWords Go.Proofs.YtfbbcfhdjhiejaaGreatW.PrintMore Go.Proofs.YtfbbcfhdjhiejaaGreat.L Go.Proofs.YtfbbcfhdjhiejaaGreat.Ints
set_option maxHeartbeats 1000000 in
theorem ref_kraft (A : Option Addr) (n c : Nat) (l : List Int) (w : World) (hh : KI.C w A n l) (h8 : n * 8 ≤ 140737488351232) :
  Calls Tryz.prog 150 #[.slice A n c] w fun e w' => e = .returned (.int .i64 (kraft l : Nat)) ∧ w' = w := by
 have H := Lib.hid hh
 have hnl := ki_len hh
 clear hh
 subst hnl
 go_enter Tryz.func150, Tryz.ntmps150
 go_wp2_with (fail)
 go_loopg [3, 4] l.length (fun j s i wr => ∃ k : Nat, k + j = l.length ∧ i = .int .i64 k ∧ s = .int .i64 (kraft (l.take k) : Nat) ∧ wr = w)
 case atStart => exact ⟨0, by omega, rfl, rfl, rfl⟩
 case round =>
  obtain ⟨k, hk, rfl, rfl, rfl⟩ := hrel
  by_cases hlt : k < l.length
  ·obtain ⟨ad, rfl, x0⟩ := ints_at H.out k hlt
   have hn := kraft_take_succ l k hlt
   obtain ⟨x, hx⟩ : ∃ x, l.getD k 0 = x := ⟨_, rfl⟩
   rw [hx] at x0 hn
   have h1 := kraft_le (l.take k)
   have h3 := List.length_take_le k l
   obtain ⟨S, hS⟩ : ∃ S, kraft (l.take k) = S := ⟨_, rfl⟩
   rw [hS] at hn h1 ⊢
   have hs2 : (S : Int) ≤ 288230376151711744 := by omega
   have i0 : (0 : Int) ≤ k := by omega
   have i1 : (k : Int) < (l.length : Int) := by omega
   have i2 : ((k : Int)).toNat = k := by omega
   have HN := Lib.hid hn
   clear hn h1 h3 hx hS
   by_cases hp : 1 ≤ x ∧ x ≤ 15
   ·obtain ⟨p1, p2⟩ := hp
    have hw := pow_term x p1 p2
    have hwu : IntKind.u64.wrap (15 - x) = 15 - x := u64_small _ (by omega) (by omega)
    have hw2 : IntKind.i64.wrap (2 ^ min (15 - x).toNat 64) = ((term x : Nat) : Int) := by
     obtain ⟨n, hn⟩ : ∃ n : Nat, (15 - x).toNat = n := ⟨_, rfl⟩
     have ht : term x = 2 ^ n := by unfold term; rw [if_pos ⟨p1, p2⟩, ← hn, show 15 - x.toNat = (15 - x).toNat by omega]
     rw [hn, pow_form n (by omega), ht]
    obtain ⟨T, hT⟩ : ∃ T, term x = T := ⟨_, rfl⟩
    have ht := term_le x
    rw [hT] at hw hw2 ht HN
    have ht2 : (T : Int) ≤ 16384 := by omega
    have ht3 : (0 : Int) ≤ (T : Int) := by omega
    have hg : (0 : Int) ≤ 15 - x := by omega
    clear hT
    go_wp2_with (fail)
    go_roundg (l.length - (k + 1))
    case measure => omega
    case rel => exact ⟨k + 1, by omega, by go_num, by rw [HN.out]; go_num, rfl⟩
   ·have HT := Lib.hid (show term x = 0 by unfold term; rw [if_neg hp])
    by_cases p1 : x < 1
    ·clear hp
     go_wp2_with (fail)
     go_roundg (l.length - (k + 1))
     case measure => omega
     case rel => exact ⟨k + 1, by omega, by go_num, by rw [HN.out, HT.out]; rfl, rfl⟩
    ·have p2 : 15 < x := by omega
     have p3 : 1 ≤ x := by omega
     clear hp p1
     go_wp2_with (fail)
     go_roundg (l.length - (k + 1))
     case measure => omega
     case rel => exact ⟨k + 1, by omega, by go_num, by rw [HN.out, HT.out]; rfl, rfl⟩
  ·obtain rfl : k = l.length := by omega
   go_wp2_with (fail)
   go_ret
   rw [List.take_length]
   exact ⟨rfl, rfl⟩
theorem alone_eq (l : List Int) : alone l = (decide (used l = 1) && decide (lastPos l = 1)) := by
 unfold alone
 by_cases h1 : used l = 1
 ·have := lastPos_one l h1
  rw [decide_eq_true h1, Bool.true_and, Bool.true_and, Bool.eq_iff_iff, ← this, decide_eq_true_eq]
 ·rw [decide_eq_false h1]
  rfl
theorem wrong_at {l : List Int} {k : Nat} (h : k < l.length) (hx : l.getD k 0 < 0 ∨ 15 < l.getD k 0) : wrong l = true := by
 unfold wrong
 rw [List.any_eq_true]
 refine ⟨_, getD_mem' h, ?_⟩
 rw [Bool.or_eq_true, decide_eq_true_eq, decide_eq_true_eq]
 exact hx
theorem wrong_not {l : List Int} (h : ∀ k, k < l.length → 0 ≤ l.getD k 0 ∧ l.getD k 0 ≤ 15) : wrong l = false := by
 cases hw : wrong l
 ·rfl
 ·unfold wrong at hw
  rw [List.any_eq_true] at hw
  obtain ⟨x, hx, h2⟩ := hw
  rw [Bool.or_eq_true, decide_eq_true_eq, decide_eq_true_eq] at h2
  obtain ⟨k, hk, rfl⟩ := List.getElem_of_mem hx
  have := h k hk
  rw [List.getD_eq_getElem?_getD, List.getElem?_eq_getElem hk, Option.getD_some] at this
  omega
set_option maxRecDepth 100000 in
set_option maxHeartbeats 2000000 in
theorem ref_right (A : Option Addr) (n c : Nat) (l : List Int) (w : World) (hh : KI.C w A n l) (h8 : n * 8 ≤ 140737488351232) :
  Calls Tryz.prog 122 #[.slice A n c] w fun e w' => e = .returned (.int .i64 (right l)) ∧ w' = w := by
 have H := Lib.hid hh
 have hnl := ki_len hh
 clear hh
 subst hnl
 go_enter Tryz.func122, Tryz.ntmps122
 go_wp2_with (fail)
 go_loopg [3, 4, 5] l.length (fun j s o i wr => ∃ k : Nat, k + j = l.length ∧ i = .int .i64 k ∧ s = .int .i64 (used (l.take k) : Nat) ∧ o = .int .i64 (lastPos (l.take k)) ∧ Hid (∀ q, q < k → 0 ≤ l.getD q 0 ∧ l.getD q 0 ≤ 15) ∧ wr = w)
 case atStart => exact ⟨0, by omega, rfl, rfl, rfl, fun q h => absurd h (Nat.not_lt_zero q), rfl⟩
 case round =>
  obtain ⟨k, hk, rfl, rfl, rfl, HI, rfl⟩ := hrel
  by_cases hlt : k < l.length
  ·obtain ⟨ad, rfl, x0⟩ := ints_at H.out k hlt
   have hn := used_take_succ l k hlt
   have hp2 : lastPos (l.take (k + 1)) = if 0 < l.getD k 0 then l.getD k 0 else lastPos (l.take k) := by rw [take_succ_getD l k hlt, lastPos_snoc]
   have hwa := wrong_at hlt
   have hall : 0 ≤ l.getD k 0 ∧ l.getD k 0 ≤ 15 → ∀ q, q < k + 1 → 0 ≤ l.getD q 0 ∧ l.getD q 0 ≤ 15 := fun h q hq => by
    by_cases e : q = k
    ·rw [e]; exact h
    ·exact HI.out q (by omega)
   obtain ⟨x, hx⟩ : ∃ x, l.getD k 0 = x := ⟨_, rfl⟩
   rw [hx] at x0 hn hp2 hwa hall
   have h1 := used_le (l.take k)
   have h3 := List.length_take_le k l
   obtain ⟨S, hS⟩ : ∃ S, used (l.take k) = S := ⟨_, rfl⟩
   obtain ⟨Lp, hL⟩ : ∃ Lp, lastPos (l.take k) = Lp := ⟨_, rfl⟩
   rw [hS] at hn h1 ⊢
   rw [hL] at hp2 ⊢
   have hs2 : (S : Int) ≤ 9223372036854775806 := by omega
   have i0 : (0 : Int) ≤ k := by omega
   have i1 : (k : Int) < (l.length : Int) := by omega
   have i2 : ((k : Int)).toNat = k := by omega
   have HN := Lib.hid hn
   have HP2 := Lib.hid hp2
   have HWA := Lib.hid hwa
   have HALL := Lib.hid hall
   clear hn h1 h3 hx hS hL hp2 hwa hall
   by_cases hw0 : x < 0
   ·have hr := Lib.hid (show right l = 1 by unfold right; rw [if_pos (HWA.out (.inl hw0))])
    go_wp2_with (fail)
    go_ret
    rw [hr.out]
    exact ⟨rfl, rfl⟩
   ·have hw00 : 0 ≤ x := by omega
    by_cases hw1 : 15 < x
    ·have hr := Lib.hid (show right l = 1 by unfold right; rw [if_pos (HWA.out (.inr hw1))])
     clear hw0
     go_wp2_with (fail)
     go_ret
     rw [hr.out]
     exact ⟨rfl, rfl⟩
    ·have hw10 : x ≤ 15 := by omega
     have HAL := Lib.hid (HALL.out ⟨hw00, hw10⟩)
     by_cases hp : 0 < x
     ·have HP := Lib.hid hp
      clear hw0 hw1
      go_wp2_with (fail)
      go_roundg (l.length - (k + 1))
      case measure => omega
      case rel => exact ⟨k + 1, by omega, by go_num, by rw [HN.out, if_pos HP.out]; go_num, by rw [HP2.out, if_pos HP.out], HAL, rfl⟩
     ·obtain rfl : x = 0 := by omega
      clear hw0 hw1 hp
      go_wp2_with (fail)
      go_roundg (l.length - (k + 1))
      case measure => omega
      case rel => exact ⟨k + 1, by omega, by go_num, by rw [HN.out, if_neg (by omega)]; rfl, by rw [HP2.out, if_neg (by omega)], HAL, rfl⟩
  ·obtain rfl : k = l.length := by omega
   rw [List.take_length]
   have hwr := wrong_not HI.out
   have hae := alone_eq l
   obtain ⟨S, hS⟩ : ∃ S, used l = S := ⟨_, rfl⟩
   obtain ⟨Lp, hL⟩ : ∃ Lp, lastPos l = Lp := ⟨_, rfl⟩
   obtain ⟨K, hK⟩ : ∃ K, kraft l = K := ⟨_, rfl⟩
   rw [hS, hL] at hae ⊢
   have hr : right l = if K = 32768 ∨ (decide (S = 1) && decide (Lp = 1)) = true then 0 else 8 := by
    unfold right
    rw [hwr, hae, hK, if_neg (by decide)]
   have HR := Lib.hid hr
   have HK := Lib.hid hK
   clear hwr hae hS hL hK hr
   go_wp2_with (fail)
   refine (ref_kraft _ _ _ l _ H.out h8).mono ?_
   rintro e w1 ⟨rfl, rfl⟩
   rw [HK.out]
   by_cases hk1 : K = 32768
   ·subst hk1
    have hr := Lib.hid (show right l = 0 by rw [HR.out, if_pos (.inl rfl)])
    go_wp2_with (fail)
    go_ret
    rw [hr.out]
    exact ⟨rfl, rfl⟩
   ·have hk2 : ((K : Int) == 32768) = false := by simpa using (show ¬ (K : Int) = 32768 by omega)
    by_cases hs1 : S = 1
    ·subst hs1
     by_cases hl1 : Lp = 1
     ·subst hl1
      have hr := Lib.hid (show right l = 0 by rw [HR.out, if_pos (.inr (by decide))])
      clear hk1
      go_wp2_with (fail)
      go_ret
      rw [hr.out]
      exact ⟨rfl, rfl⟩
     ·have hr := Lib.hid (show right l = 8 by rw [HR.out, if_neg (by simp [hk1, hl1])])
      have hl2 : (Lp == 1) = false := by simpa using hl1
      clear hk1 hl1
      go_wp2_with (fail)
      go_ret
      rw [hr.out]
      exact ⟨rfl, rfl⟩
    ·have hr := Lib.hid (show right l = 8 by rw [HR.out, if_neg (by simp [hk1, hs1])])
     have hs2 : ((S : Int) == 1) = false := by simpa using (show ¬ (S : Int) = 1 by omega)
     clear hk1 hs1
     go_wp2_with (fail)
     go_ret
     rw [hr.out]
     exact ⟨rfl, rfl⟩
/-! ### Codes -/
set_option maxRecDepth 100000 in
set_option maxHeartbeats 4000000 in
theorem ref_codes_ok (A : Option Addr) (c : Nat) (l : List Int) (w : World) (hh : KI.C w A l.length l) (hl : l.length ≤ 100000) (hr : right l = 0) :
  Calls Tryz.prog 84 #[.slice A l.length c] w fun e w' => ∃ v, e = .returned (.tuple #[v, .int .i64 0]) ∧ KI.R 3 w' w.heap.size (fun _ => True) v (codes l) ∧ Below w.heap.size w w' := by
 have H := Lib.hid hh
 have HR := Lib.hid hr
 have HK := Lib.hid (right_kraft hr)
 have HRG := Lib.hid (right_range hr)
 clear hh hr
 go_enter Tryz.func84, Tryz.ntmps84
 go_wp2_with (fail)
 refine (ref_right _ _ _ l _ H.out (by omega)).mono ?_
 rintro e w1 ⟨rfl, rfl⟩
 rw [HR.out]
 go_wp2_with ((with_reducible refine gate_dst (N := 16) rfl ?_); apply stopper)
 unfold Stopper
 refine Kd.R_make KI (w0 := w1) w1.heap.size 3 rfl (N := 16) rfl 26 _ _ rfl (l.length : Int) rfl rfl Tryz.underlying26 (.int .i64 0) 8 infoInt rfl (by decide) (by omega) 0 (ok := fun _ => True) (okp := fun _ => True) ?mM (fun _ hk => hk) trivial (by omega) ?mL (Below.refl _ _) (Nat.le_refl _) ?_
 case mM => exact rfl
 case mL => omega
 intro v1 w2 hr hb hg hat
 rw [Int.toNat_natCast] at hr
 obtain ⟨A1, c1, rfl⟩ := Kd.R_slice hr
 rw [List.length_replicate] at hr ⊢
 have HR1 := Lib.hid hr
 have HB1 := Lib.hid hb
 clear hr hb hg hat
 go_wp2_with (fail)
 go_loopg [6, 7] 15 (fun j nxt n wr => ∃ m : Nat, m + j = 15 ∧ n = .int .i64 ((m : Int) + 1) ∧ nxt = .int .i64 (nx l m : Nat) ∧ Hid ((∃ o, Filled l (m + 1) 0 o ∧ KI.R 3 wr w1.heap.size (fun _ => True) (.slice A1 l.length c1) o) ∧ Below w1.heap.size w1 wr))
 case atStart => exact ⟨0, by omega, rfl, rfl, ⟨_, filled_start l, HR1.out⟩, HB1.out⟩
 case round =>
  obtain ⟨wo, rfl⟩ : ∃ wo : World, wo = wr := ⟨_, rfl⟩
  obtain ⟨m, hm, rfl, rfl, HI⟩ := hrel
  by_cases hlt : m < 15
  ·obtain ⟨⟨o, hf, hr⟩, hb⟩ := HI.out
   have hnb := nx_bound l HK.out m (by omega)
   have hpw : 2 ^ m ≤ 2 ^ 14 := Nat.pow_le_pow_right (by decide) (by omega)
   obtain ⟨X, hX⟩ : ∃ X, nx l m = X := ⟨_, rfl⟩
   rw [hX] at hnb ⊢
   have hx1 : (X : Int) ≤ 16384 := by omega
   have hx0 : (0 : Int) ≤ (X : Int) := by omega
   have hlti : (m : Int) + 1 ≤ 15 := by omega
   have HF := Lib.hid hf
   have HR2 := Lib.hid hr
   have HB2 := Lib.hid hb
   have HX := Lib.hid hX
   have HM := Lib.hid hm
   clear hf hr hb HI hnb hpw hX hm
   go_wp2_with (fail)
   go_loopg [6, 8] l.length (fun j nxt i wr => ∃ s : Nat, s + j = l.length ∧ i = .int .i64 s ∧ nxt = .int .i64 ((X : Int) * 2 + (cnt (l.take s) (m + 1) : Nat)) ∧ Hid ((∃ o, Filled l (m + 1) s o ∧ KI.R 3 wr w1.heap.size (fun _ => True) (.slice A1 l.length c1) o) ∧ Below w1.heap.size w1 wr))
   case atStart => exact ⟨0, by omega, rfl, by rw [List.take_zero, cnt_nil]; go_num, ⟨o, HF.out, HR2.out⟩, HB2.out⟩
   case round =>
    obtain ⟨s, hs, rfl, rfl, HJ⟩ := hrel
    obtain ⟨⟨o, hf, hr⟩, hb⟩ := HJ.out
    by_cases hst : s < l.length
    ·obtain ⟨ad, rfl, x0⟩ := ints_at (Kd.C_below H.out hb) s hst
     have hcs := cnt_take_succ l s (m + 1) hst
     have hcl := cnt_le_length (l.take s) (m + 1)
     have hcl2 := List.length_take_le s l
     obtain ⟨x, hx⟩ : ∃ x, l.getD s 0 = x := ⟨_, rfl⟩
     rw [hx] at x0 hcs
     have i0 : (0 : Int) ≤ s := by omega
     have i1 : (s : Int) < (l.length : Int) := by omega
     have i2 : ((s : Int)).toNat = s := by omega
     have HB3 := Lib.hid hb
     by_cases he : x = (m : Int) + 1
     ·subst he
      rw [if_pos (by omega)] at hcs
      have hfs := filled_set hf hst (by rw [hx]; omega) (by omega)
      have hol := hf.1
      obtain ⟨g, cap, hv, hge, hgl, cells, hcell⟩ := Kd.R_form hr (by rw [hol]; omega)
      rw [hol] at hv
      injection hv with hv1 hv2 hv3
      subst hv1 hv3
      have hr' := hr
      rw [← hol] at hr'
      obtain ⟨y0, y1⟩ := Kd.R_cell (enc := Value.int .i64) (h1 := fun _ => rfl) (0 : Int) hr' (s : Int) i0 (by rw [hol]; exact i1)
      obtain ⟨p0, p1⟩ := Kd.R_put (enc := Value.int .i64) (h1 := fun _ => rfl) hr' (s : Int) ((X : Int) * 2 + (cnt (l.take s) (m + 1) : Nat))
      rw [hol] at p0
      rw [i2] at p0 p1 y0 y1
      have hval : (((2 * nx l m + cnt (l.take s) (m + 1) : Nat)) : Int) = (X : Int) * 2 + (cnt (l.take s) (m + 1) : Nat) := by rw [HX.out]; omega
      rw [hval] at hfs
      obtain ⟨C, hC⟩ : ∃ C, cnt (l.take s) (m + 1) = C := ⟨_, rfl⟩
      rw [hC] at hcs hcl p0 p1 hfs ⊢
      obtain ⟨old, hold⟩ : ∃ old, wr.cell? ⟨g, s, none⟩ = some old := ⟨_, y0⟩
      have hCb : (C : Int) ≤ 100000 := by omega
      have hC0 : (0 : Int) ≤ (C : Int) := by omega
      have e1 : ((m : Int) + 1 == (m : Int) + 1) = true := by simp
      have P0 := Lib.hid p0
      have HFS := Lib.hid hfs
      have HCS := Lib.hid hcs
      have HBW := Lib.hid (hb.grown p1 hb.size (fun k hk => by injection hk with hk; omega))
      have HS := Lib.hid hs
      clear hr hr' hb HJ hf hol y0 p0 p1 hfs hcs hcl hcl2 hx hval hC hcell HB3 hs
      go_wp2_with (fail)
      go_roundg (l.length - (s + 1))
      case measure => have := HS.out; omega
      case rel => exact ⟨s + 1, by have := HS.out; omega, by go_num, by rw [HCS.out]; go_num, ⟨_, HFS.out, P0.out⟩, HBW.out⟩
     ·have hne : (x == (m : Int) + 1) = false := by simpa using he
      rw [if_neg (by omega)] at hcs
      have HFS := Lib.hid (filled_skip hf (by rw [hx]; omega))
      have HR3 := Lib.hid hr
      have HCS := Lib.hid hcs
      have HS := Lib.hid hs
      generalize cnt (l.take s) (m + 1) = C at *
      have hCb : (C : Int) ≤ 100000 := by omega
      have hC0 : (0 : Int) ≤ (C : Int) := by omega
      clear hr hb HJ hf hcs hcl hcl2 hx he hs
      go_wp2_with (fail)
      go_roundg (l.length - (s + 1))
      case measure => have := HS.out; omega
      case rel => exact ⟨s + 1, by have := HS.out; omega, by go_num, by rw [HCS.out]; go_num, ⟨_, HFS.out, HR3.out⟩, HB3.out⟩
    ·obtain rfl : s = l.length := by omega
     have HFS := Lib.hid (filled_next hf)
     have HR3 := Lib.hid hr
     have HB3 := Lib.hid hb
     have hnx : (X : Int) * 2 + ((cnt (l.take l.length) (m + 1) : Nat) : Int) = ((nx l (m + 1) : Nat) : Int) := by
      rw [List.take_length]
      show _ = ((2 * nx l m + cnt l (m + 1) : Nat) : Int)
      rw [HX.out]
      omega
     rw [hnx]
     have hnb := nx_bound l HK.out (m + 1) (by omega)
     clear hr hb HJ hf hnx
     generalize hN : nx l (m + 1) = Nx at *
     have HN := Lib.hid hN
     clear hN hnb
     go_wp2_with (fail)
     go_roundg (15 - (m + 1))
     case measure => have := HM.out; omega
     case rel => exact ⟨m + 1, by have := HM.out; omega, by go_num, by rw [HN.out], ⟨_, HFS.out, HR3.out⟩, HB3.out⟩
  ·obtain rfl : m = 15 := by omega
   obtain ⟨⟨o, hf, hr⟩, hb⟩ := HI.out
   have ho := filled_end hf HRG.out
   rw [ho] at hr
   have HR2 := Lib.hid hr
   have HB2 := Lib.hid hb
   clear hf hr hb HI ho
   generalize nx l 15 = Nx
   go_wp2_with (fail)
   go_ret2
   exact ⟨_, rfl, HR2.out, HB2.out⟩
end Go.Proofs.YtfbbcfhdjhiejaaGreat.Code

/- The document's answer: bits as bytes, 0s at the end. -/
namespace Go.Proofs.YtfbbcfhdjhiejaaGreat.Bits
set_option linter.unusedVariables false
set_option linter.unusedSimpArgs false
open Go.RowKit Go.Proofs.YtfbbcfhdjhiejaaGreatW.PrintWords Go.Proofs.YtfbbcfhdjhiejaaGreatW.PrintMore Go.Proofs.YtfbbcfhdjhiejaaGreat.L Go.Proofs.YtfbbcfhdjhiejaaGreat.BP Go.Proofs.YtfbbcfhdjhiejaaGreat.Ints
theorem take_len {l : List Int} {k : Nat} (h : k ≤ l.length) : (l.take k).length = k := by rw [List.length_take]; omega
/-- The bytes, one bit more to come. -/
def grown (l : List Int) (k : Nat) : List Int := if k % 8 = 0 then pack (l.take k) ++ [0] else pack (l.take k)
theorem grown_len {l : List Int} {k : Nat} (h : k ≤ l.length) : (grown l k).length = k / 8 + 1 := by
 unfold grown
 split
 ·rw [List.length_append, pack_length, take_len h]; simp; omega
 ·rw [pack_length, take_len h]; omega
theorem grown_at {l : List Int} {k : Nat} (h : k ≤ l.length) : (grown l k).getD (k / 8) 0 = byteAt (l.take k) (k / 8) := by
 have hl := take_len h
 unfold grown
 by_cases h8 : k % 8 = 0
 ·have := byte_new (l.take k) (by rw [hl]; exact h8)
  rw [hl] at this
  rw [if_pos h8, this.1, this.2]
 ·have := byte_here (l.take k) (by rw [hl]; exact h8)
  rw [hl] at this
  rw [if_neg h8, this]
theorem grown_set {l : List Int} {k : Nat} (h : k < l.length) : pack (l.take (k + 1)) = (grown l k).set (k / 8) (byteAt (l.take k) (k / 8) + l.getD k 0 * 2 ^ (7 - k % 8)) := by
 have hl := take_len (l := l) (k := k) (by omega)
 have := pack_snoc (l.take k) (l.getD k 0)
 rw [hl] at this
 rw [take_succ_getD l k h, this]
 rfl
theorem bit_shift (x : Int) (k : Nat) (hx : x = 0 ∨ x = 1) : 0 ≤ x * 2 ^ (7 - k % 8) ∧ x * 2 ^ (7 - k % 8) ≤ 128 := by
 obtain ⟨r, hr⟩ : ∃ r, 7 - k % 8 = r := ⟨_, rfl⟩
 rw [hr]
 have hr7 : r ≤ 7 := by omega
 have hp : (2 : Int) ^ r ≤ 128 := by
  have := Nat.pow_le_pow_right (n := 2) (by decide) hr7
  exact_mod_cast this
 have hp0 : (0 : Int) < 2 ^ r := Int.pow_pos (by omega)
 generalize (2 : Int) ^ r = P at *
 rcases hx with h | h
 ·rw [h]; omega
 ·rw [h]; omega
theorem grown_or {l : List Int} (hb : Bits l) {k : Nat} (h : k < l.length) : Go.bits .or .u8 (byteAt (l.take k) (k / 8)) (l.getD k 0 * 2 ^ (7 - k % 8)) = byteAt (l.take k) (k / 8) + l.getD k 0 * 2 ^ (7 - k % 8) := by
 have hl := take_len (l := l) (k := k) (by omega)
 have hx : l.getD k 0 = 0 ∨ l.getD k 0 = 1 := by have := bits_getD hb k; omega
 have := or_here (hb.take k) (l.getD k 0) hx
 rw [hl] at this
 exact this
set_option maxRecDepth 100000 in
set_option maxHeartbeats 1000000 in
theorem ref_pack (A : Option Addr) (c : Nat) (l : List Int) (w : World) (hl : KI.C w A l.length l) (hb : Bits l) (hlen : l.length ≤ 1000000) :
  Calls Tryz.prog 146 #[.slice A l.length c] w fun e w' => e = .returned (.string (strOfNums (pack l))) ∧ Below w.heap.size w w' := by
 have HL := Lib.hid hl
 have HBI := Lib.hid hb
 clear hl hb
 go_enter Tryz.func146, Tryz.ntmps146
 go_wp2_with (fail)
 go_loopg [3, 4] l.length (fun j v i wr => ∃ k : Nat, k + j = l.length ∧ i = .int .i64 k ∧ Hid (Kd.R (Kd.int .u8) 5 wr w.heap.size (fun _ => True) v (pack (l.take k)) ∧ Below w.heap.size w wr))
 case atStart => exact ⟨0, by omega, rfl, by rw [List.take_zero, pack_nil]; exact Kd.R_nil _ _ _ _ _, Below.refl _ _⟩
 case round =>
  obtain ⟨k, hk, rfl, HI⟩ := hrel
  by_cases hlt : k < l.length
  ·obtain ⟨hr, hbw⟩ := HI.out
   have HK := Lib.hid hk
   have hlti : (k : Int) < (l.length : Int) := by omega
   have hk0 : (0 : Int) ≤ (k : Int) := by omega
   have HR := Lib.hid hr
   have HBW := Lib.hid hbw
   clear hr hbw HI hk
   go_upto_if 13 with (fail)
   go_cut [3] (fun cv wc => Hid (Kd.R (Kd.int .u8) 5 wc w.heap.size (fun _ => True) cv (grown l k) ∧ Below w.heap.size w wc))
   case first =>
    by_cases h8 : k % 8 = 0
    ·have h8b : ((k : Int) % 8 == 0) = true := by simp; omega
     have HG := Lib.hid (show grown l k = pack (l.take k) ++ [0] from if_pos h8)
     have HPL := Lib.hid (show (pack (l.take k)).length ≤ 200000 by rw [pack_length, take_len (by omega)]; omega)
     clear h8
     go_wp2_with (((with_reducible refine gate_builtin (b := .append) (xs := #[.tmp 14, .tmp 15]) rfl ?_); at_builtin; apply stopper))
     unfold Stopper
     refine Kd.R_append (Kd.int .u8) (w0 := w) w.heap.size rfl (.tmp 14) (.tmp 15) 49 5 (.int .u8 0) 1 rfl Tryz.underlying49 infoU8 rfl (by decide) (by omega) u3 (pack (l.take k)) 0 [.int .u8 0] (fun _ => True) (fun _ => False) rfl rfl ?aP (fun _ hk => hk.elim) ?aF ?aO ?aB ?aS ?aL ?_
     case aP => exact rfl
     case aF => exact (fun _ _ => trivial)
     case aO => exact HR.out
     case aB => exact HBW.out
     case aS => exact HBW.out.size
     case aL => have := HPL.out; omega
     intro p1 w6 ho hb6 hg hat
     rw [← HG.out] at ho
     have HP8 := Lib.hid ho
     have HB8 := Lib.hid hb6
     clear ho hb6 hg hat
     go_wp2_with (fail)
     go_meet
     case rel => exact ⟨HP8.out, HB8.out⟩
    ·have h8b : ((k : Int) % 8 == 0) = false := by simp; omega
     have HG := Lib.hid (show grown l k = pack (l.take k) from if_neg h8)
     clear h8
     go_wp2_with (fail)
     go_meet
     case rel => exact ⟨by rw [HG.out]; exact HR.out, HBW.out⟩
   case rest =>
    clear HR HBW
    obtain ⟨hr, hbw⟩ := hcut.out
    have hgl := grown_len (l := l) (k := k) (by omega)
    obtain ⟨ad, rfl, x0⟩ := ints_at (Kd.C_below HL.out hbw) k hlt
    have hx : l.getD k 0 = 0 ∨ l.getD k 0 = 1 := by have := bits_getD HBI.out k; omega
    have hor := grown_or HBI.out hlt
    have hset := grown_set hlt
    have hsh := bit_shift (l.getD k 0) k hx
    have hga := grown_at (l := l) (k := k) (by omega)
    obtain ⟨x, hxx⟩ : ∃ x, l.getD k 0 = x := ⟨_, rfl⟩
    rw [hxx] at x0 hx hor hset hsh
    obtain ⟨zs, hzs⟩ : ∃ zs, grown l k = zs := ⟨_, rfl⟩
    rw [hzs] at hr hgl hset hga
    obtain ⟨g, cp, rfl, hg0, hg1, cells, hg2⟩ := Kd.R_form hr (by omega)
    obtain ⟨d0, d1⟩ := Kd.R_celln 0 hr ((k / 8 : Nat) : Int) (by omega) (by omega)
    rw [Int.toNat_natCast] at d0 d1
    rw [show rdOf 0 zs ((k / 8 : Nat) : Int) = byteAt (l.take k) (k / 8) by show zs.getD ((k / 8 : Nat) : Int).toNat 0 = _; rw [Int.toNat_natCast]; exact hga] at d0
    obtain ⟨z, hz⟩ : ∃ z, byteAt (l.take k) (k / 8) = z := ⟨_, rfl⟩
    rw [hz] at d0 hor hset
    have HSET := Lib.hid hset
    have HO := Lib.hid hr
    have HBW := Lib.hid hbw
    have HOR := Lib.hid hor
    have HSH := Lib.hid hsh
    have HGL := Lib.hid hgl
    have HG0 := Lib.hid (show w.heap.size ≤ g from hg0)
    have HL2 := Lib.hid hlen
    rw [hgl] at *
    have e1 : ((k / 8 + 1 : Nat) : Int) - 1 = ((k / 8 : Nat) : Int) := by omega
    have e2 : (0 : Int) ≤ ((k / 8 : Nat) : Int) := by omega
    have e3 : ((k / 8 : Nat) : Int) < ((k / 8 + 1 : Nat) : Int) := by omega
    have e7 : (0 : Int) ≤ 7 - (k : Int) % 8 := by omega
    clear hr hbw hcut hor hset hsh hga hxx hzs hg0 hg1 hg2 hz hgl
    go_upto_region 7 with (fail)
    go_region
    go_wp2
    go_roundg (l.length - (k + 1))
    case measure => have := HK.out; omega
    case rel =>
     have hw64 : wrap64 (x * 2 ^ (7 - k % 8)) % 256 = x * 2 ^ (7 - k % 8) := by
      have := HSH.out
      generalize x * 2 ^ (7 - k % 8) = P at *
      unfold wrap64
      omega
     rw [hw64, HOR.out]
     refine ⟨k + 1, by have := HK.out; omega, by go_num, ?_, ?_⟩
     ·rw [HSET.out]
      have h := Kd.R_putn HO.out ((k / 8 : Nat) : Int) (z + x * 2 ^ (7 - k % 8))
      rw [Int.toNat_natCast] at h
      exact Kd.R_drew h
     ·exact (HBW.out.setCell (p := ⟨g, k / 8, none⟩) HG0.out _).drew
  ·obtain rfl : k = l.length := by omega
   have HP := Lib.hid HI.out.1
   have HBW := Lib.hid HI.out.2
   rw [List.take_length] at HP
   have hcv := own_string (P := Tryz.prog) Tryz.underlying49 Tryz.underlying5 Tryz.underlying9 (Kd.own_of_R HP.out)
   clear HI
   go_wp2_with (fail)
   go_ret
   exact ⟨rfl, HBW.out⟩
end Go.Proofs.YtfbbcfhdjhiejaaGreat.Bits

/- Lengths as bytes: the document's. -/
namespace Go.Proofs.YtfbbcfhdjhiejaaGreat.Tb
set_option linter.unusedVariables false
set_option linter.unusedSimpArgs false
open Go.RowKit Go.Proofs.YtfbbcfhdjhiejaaGreatW.PrintWords Go.Proofs.YtfbbcfhdjhiejaaGreatW.PrintMore Go.Proofs.YtfbbcfhdjhiejaaGreat.L Go.Proofs.YtfbbcfhdjhiejaaGreat.Ints Go.Proofs.YtfbbcfhdjhiejaaGreat.Bits
theorem rle_put (l : List Int) (k r : Nat) (h : k < l.length) (hc : r + 1 = 16 ∨ k + 1 = l.length ∨ (k + 1 < l.length ∧ l.getD (k + 1) 0 ≠ l.getD k 0)) :
  rle r (l.drop k) = (16 * l.getD k 0 + (r : Nat)) :: rle 0 (l.drop (k + 1)) := by
 rw [drop_getD l k h]
 by_cases h1 : k + 1 = l.length
 ·rw [h1, List.drop_length]
  rfl
 ·rw [drop_getD l (k + 1) (by omega)]
  simp only [rle]
  rw [if_pos (by rcases hc with h2 | h2 | h2; exact .inl h2; exact absurd h2 h1; exact .inr h2.2)]
theorem rle_on (l : List Int) (k r : Nat) (h : k + 1 < l.length) (h16 : r + 1 ≠ 16) (he : l.getD (k + 1) 0 = l.getD k 0) : rle r (l.drop k) = rle (r + 1) (l.drop (k + 1)) := by
 rw [drop_getD l k (by omega), drop_getD l (k + 1) h]
 simp only [rle]
 rw [if_neg (by rintro (h2 | h2); exact h16 h2; exact h2 he)]
theorem rle_len : ∀ (l : List Int) (r : Nat), (rle r l).length ≤ l.length
 | [], _ => Nat.le_refl _
 | [x], _ => Nat.le_refl _
 | x :: y :: ys, r => by
   have h1 := rle_len (y :: ys) 0
   have h2 := rle_len (y :: ys) (r + 1)
   simp only [rle]
   rw [List.length_cons] at h1 h2 ⊢
   split
   ·rw [List.length_cons]; simp at h1 ⊢; omega
   ·simp at h2 ⊢; omega
set_option maxRecDepth 100000 in
set_option maxHeartbeats 4000000 in
theorem ref_tab (A : Option Addr) (n c : Nat) (l : List Int) (w : World) (h : KI.C w A n l) (hl : l.length ≤ 356) (hb : ∀ x ∈ l, 0 ≤ x ∧ x ≤ 15) :
  Calls Tryz.prog 145 #[.slice A n c] w fun e w' => e = .returned (.tuple #[.string (strOfNums (tabL l)), .bool true]) ∧ Below w.heap.size w w' := by
 have hnl := ki_len h
 subst hnl
 have H := Lib.hid h
 have HB := Lib.hid hb
 have HRT := Lib.hid (rle_tab l.length l (Nat.le_refl _))
 have hl2 : (l.length : Int) ≤ 356 := by omega
 clear h hb
 go_enter Tryz.func145, Tryz.ntmps145
 go_wp2_with (fail)
 go_loopg [4, 5, 6] l.length (fun j v rv i wr => ∃ k r : Nat, k + j = l.length ∧ r ≤ 15 ∧ i = .int .i64 k ∧ rv = .int .i64 r ∧ Hid (∃ acc : List Int, acc ++ rle r (l.drop k) = rle 0 l ∧ Kd.R (Kd.int .u8) 5 wr w.heap.size (fun _ => True) v acc ∧ Below w.heap.size w wr))
 case atStart => exact ⟨0, 0, by omega, by omega, rfl, rfl, [], rfl, Kd.R_nil _ _ _ _ _, Below.refl _ _⟩
 case round =>
  obtain ⟨k, r, hk, hr15, rfl, rfl, HI⟩ := hrel
  obtain ⟨acc, ha, hr, hbw⟩ := HI.out
  by_cases hlt : k < l.length
  ·have hx0 := HB.out _ (by rw [show l.getD k 0 = l[k] by rw [List.getD_eq_getElem?_getD, List.getElem?_eq_getElem hlt]; rfl]; exact List.getElem_mem hlt : l.getD k 0 ∈ l)
   obtain ⟨ad, rfl, x0⟩ := ints_at (Kd.C_below H.out hbw) k hlt
   have hput := rle_put l k r hlt
   have hon := rle_on l k r
   obtain ⟨x, hx⟩ : ∃ x, l.getD k 0 = x := ⟨_, rfl⟩
   rw [hx] at x0 hx0 hput hon
   have HA := Lib.hid ha
   have HR := Lib.hid hr
   have HBW := Lib.hid hbw
   have HK := Lib.hid hk
   have HAL := Lib.hid (show acc.length ≤ 356 by
    have h1 := rle_len l 0
    rw [← ha, List.length_append] at h1
    omega)
   obtain ⟨N, hN⟩ : ∃ N, r + 1 = N := ⟨_, rfl⟩
   obtain ⟨P, hP⟩ : ∃ P, k + 1 = P := ⟨_, rfl⟩
   have p1 : IntKind.i64.wrap ((k : Int) + 1) = (P : Int) := by rw [IntKind.wrap_i64]; omega
   have p3 : IntKind.i64.wrap ((l.length : Int) - 1) = (l.length : Int) - 1 := by rw [IntKind.wrap_i64]; omega
   have p0 : (0 : Int) ≤ (P : Int) := by omega
   have p2 : ((P : Int)).toNat = P := by omega
   have n1 : (r : Int) + 1 = (N : Int) := by omega
   have HN := Lib.hid hN
   have HP := Lib.hid hP
   obtain ⟨xx0, xx15⟩ := hx0
   have i0 : (0 : Int) ≤ k := by omega
   have i1 : (k : Int) < (l.length : Int) := by omega
   have i2 : ((k : Int)).toNat = k := by omega
   have hby : (16 * x + (N : Int) - 1) % 256 = 16 * x + (N : Int) - 1 := by omega
   have nn : N ≤ 16 := by omega
   rw [hN] at hput hon
   rw [hP] at hput hon
   by_cases g4 : N ≠ 16 ∧ P < l.length ∧ l.getD P 0 = x
   ·obtain ⟨ad2, had2, y0⟩ := ints_at (Kd.C_below H.out hbw) P g4.2.1
    cases had2
    rw [g4.2.2] at y0
    have f1 : ((N : Int) == 16) = false := beq_eq_false_iff_ne.2 (by omega)
    have f2 : ((k : Int) == (l.length : Int) - 1) = false := beq_eq_false_iff_ne.2 (by omega)
    have f3 : (x != x) = false := by rw [bne_eq_false_iff_eq]
    have f4 : (P : Int) < (l.length : Int) := by omega
    have HON := Lib.hid (show acc ++ rle N (l.drop P) = rle 0 l by rw [← hon g4.2.1 g4.1 g4.2.2]; exact ha)
    have HN15 := Lib.hid (show N ≤ 15 by omega)
    clear ha hr hbw hx hk HI hput hon hN hP g4
    go_wp2_with (fail)
    go_quiet (fail)
    go_wp2_with (fail)
    go_roundg (l.length - P)
    case measure => have := HP.out; have := HK.out; omega
    case rel => exact ⟨P, N, by have := HP.out; omega, HN15.out, rfl, rfl, acc, HON.out, Kd.R_drewN HR.out _, below_drewN HBW.out _⟩
   ·have hc : N = 16 ∨ P = l.length ∨ (P < l.length ∧ l.getD P 0 ≠ x) := by
     by_cases a1 : N = 16
     ·exact .inl a1
     ·by_cases a2 : P = l.length
      ·exact .inr (.inl a2)
      ·exact .inr (.inr ⟨by omega, fun h => g4 ⟨a1, by omega, h⟩⟩)
    have hst : ((N : Int) == 16) = true ∨ (((N : Int) == 16) = false ∧ ((k : Int) == (l.length : Int) - 1) = true) ∨
      (((N : Int) == 16) = false ∧ ((k : Int) == (l.length : Int) - 1) = false ∧ (P : Int) < (l.length : Int) ∧ ∃ y, wr.cell? (ad.add P) = some (.int .i64 y) ∧ (y != x) = true) := by
     by_cases a1 : N = 16
     ·exact .inl (beq_iff_eq.2 (by omega))
     ·by_cases a2 : P = l.length
      ·exact .inr (.inl ⟨beq_eq_false_iff_ne.2 (by omega), beq_iff_eq.2 (by omega)⟩)
      ·obtain ⟨ad2, had2, y0⟩ := ints_at (Kd.C_below H.out hbw) P (by omega)
       cases had2
       exact .inr (.inr ⟨beq_eq_false_iff_ne.2 (by omega), beq_eq_false_iff_ne.2 (by omega), by omega, _, y0, by rw [bne_iff_ne]; exact fun h => g4 ⟨a1, by omega, h⟩⟩)
    have HAPP := Lib.hid (show acc ++ [16 * x + (N : Int) - 1] ++ rle 0 (l.drop P) = rle 0 l by
     rw [List.append_assoc, show 16 * x + (N : Int) - 1 = 16 * x + (r : Int) by omega]
     have := hput hc
     rw [this] at ha
     exact ha)
    clear ha hr hbw hx hk HI hput hon hN hP g4 hc
    rcases hst with f1 | ⟨f1, f2⟩ | ⟨f1, f2, f4, y, y0, f3⟩
    all_goals
     go_wp2_with (fail)
     go_quiet (fail)
     go_wp2_with (((with_reducible refine gate_builtin (b := .append) (xs := #[.tmp 51, .tmp 61]) rfl ?_); at_builtin; apply stopper))
     unfold Stopper
     refine Kd.R_append (Kd.int .u8) (w0 := w) w.heap.size rfl (.tmp 51) (.tmp 61) 49 5 (.int .u8 0) 1 rfl Tryz.underlying49 infoU8 rfl (by decide) (by omega) u4 acc (16 * x + (N : Int) - 1) [.int .u8 (16 * x + (N : Int) - 1)] (fun _ => True) (fun _ => False) rfl rfl rfl (fun _ hk => hk.elim) (fun _ _ => trivial) (Kd.R_drewN HR.out _) (below_drewN HBW.out _) HBW.out.size (by have := HAL.out; omega) ?_
     intro p1 w6 ho hb6 hg hat
     have HO := Lib.hid ho
     have HB6 := Lib.hid hb6
     clear ho hb6 hg hat
     go_wp2_with (fail)
     go_roundg (l.length - P)
     case measure => have := HP.out; have := HK.out; omega
     case rel => exact ⟨P, 0, by have := HP.out; omega, by omega, rfl, rfl, _, HAPP.out, HO.out, HB6.out⟩
  ·obtain rfl : k = l.length := by omega
   rw [List.drop_length] at ha
   have e : acc = tabL l := by rw [← HRT.out, ← ha]; exact (List.append_nil acc).symm
   subst e
   have hcv := own_string (P := Tryz.prog) Tryz.underlying49 Tryz.underlying5 Tryz.underlying9 (Kd.own_of_R hr)
   have HBW := Lib.hid hbw
   clear ha hr hbw HI
   go_wp2_with (fail)
   go_ret2
   exact ⟨rfl, HBW.out⟩
end Go.Proofs.YtfbbcfhdjhiejaaGreat.Tb

/- The document's own: tokens laid out. -/
namespace Go.Proofs.YtfbbcfhdjhiejaaGreat.Blk
set_option linter.unusedVariables false
set_option linter.unusedSimpArgs false
open Go.RowKit Go.Proofs.YtfbbcfhdjhiejaaGreatW.PrintWords Go.Proofs.YtfbbcfhdjhiejaaGreatW.PrintMore Go.Proofs.YtfbbcfhdjhiejaaGreat.L Go.Proofs.YtfbbcfhdjhiejaaGreat.Texts Go.Proofs.YtfbbcfhdjhiejaaGreat.Dict Go.Proofs.YtfbbcfhdjhiejaaGreat.Ints
/-- What is asked of the document's lengths. -/
def LensTold (n : Nat) (hs ns : List Int) : Prop := ∀ (W : World) (A : Option Addr) (c : Nat), KI.C W A n hs → Calls Tryz.prog 144 #[.int .i64 15, .slice A n c] W fun e w' => ∃ v, e = .returned (.tuple #[v, .int .i64 0]) ∧ KI.R 3 w' W.heap.size (fun _ => True) v ns ∧ Below W.heap.size W w'
theorem bitsV_down (n : Nat) (v : Int) (k : Nat) (hk : k < n) : (BP.bitsV n v).take (k + 1) = (BP.bitsV n v).take k ++ [v / 2 ^ (n - 1 - k) % 2] := by
 rw [List.take_add_one]
 congr 1
 unfold BP.bitsV
 rw [List.getElem?_map, List.getElem?_range hk]
 rfl
set_option maxRecDepth 100000 in
set_option maxHeartbeats 8000000 in
theorem ref_lay (A B : Option Addr) (cc how m c2 : Nat) (l : List ByteArray) (ts : List Int) (w : World) (h : KS.C w A l.length l) (hok : okTexts l) (ht : KI.C w B m ts) (hm : ts.length ≤ 1024) (h0 : ts.length ≠ 0) (hk : allTk l ts) (hhow : how ≤ 1) (hco : how = 1 → CodesOk l ts ∧ LensTold (256 + l.length) (hst l ts) (lns l ts)) :
  Calls Tryz.prog 116 #[.slice A l.length cc, .int .i64 how, .slice B m c2] w fun e w' => e = .returned (.tuple #[.string (layP l how ts), .int .i64 0]) ∧ Below w.heap.size w w' := by
 have hml := ki_len ht
 subst hml
 have HT := Lib.hid ht
 have HK := Lib.hid hk
 have HCO := Lib.hid hco
 have HL := Lib.hid hm
 have hl100 := hok.1
 have e0 : ((ts.length : Int) == 0) = false := by simp; intro h; rw [h] at h0; exact h0 rfl
 have s0 : ¬ ((how : Int) < 0) := by omega
 have s1 : ¬ ((1 : Int) < (how : Int)) := by omega
 have n1 : (0 : Int) ≤ 256 + (l.length : Int) := by omega
 have n2 : (256 : Int) + (l.length : Int) ≤ 356 := by omega
 have hw1 : wrap64 (256 + (l.length : Int)) = ((256 + l.length : Nat) : Int) := by unfold wrap64; omega
 clear h ht hk hco h0 hok
 obtain ⟨N, hN⟩ : ∃ N, 256 + l.length = N := ⟨_, rfl⟩
 rw [hN] at hw1 HCO
 have hn3 : N ≤ 356 := by omega
 have HN := Lib.hid hN
 clear hN hl100 n1 n2
 go_enter Tryz.func116, Tryz.ntmps116
 go_wp2_with ((with_reducible refine gate_dst (N := 37) rfl ?_); apply stopper)
 unfold Stopper
 refine Kd.R_make KI (w0 := w) w.heap.size 3 rfl (N := 37) rfl 26 _ _ rfl (N : Int) rfl rfl Tryz.underlying26 (.int .i64 0) 8 infoInt rfl (by decide) (by omega) 0 (ok := fun _ => True) (okp := fun _ => True) ?mM (fun _ hk => hk) trivial (by omega) ?mL (Below.refl _ _) (Nat.le_refl _) ?_
 case mM => exact rfl
 case mL => omega
 intro v1 w2 hr hb hg hat
 rw [Int.toNat_natCast] at hr
 obtain ⟨A1, c1, rfl⟩ := Kd.R_slice hr
 rw [List.length_replicate] at hr ⊢
 have HR1 := Lib.hid hr
 have HB1 := Lib.hid hb
 clear hr hb hg hat
 go_wp2_with (fail)
 go_loopg [10] ts.length (fun j i wr => ∃ k : Nat, k + j = ts.length ∧ i = .int .i64 k ∧ Hid (KI.R 3 wr w.heap.size (fun _ => True) (.slice A1 N c1) (Hist.counted (List.replicate N 0) (ts.take k)) ∧ Below w.heap.size w wr))
 case atStart => exact ⟨0, by omega, rfl, by rw [List.take_zero]; exact HR1.out, HB1.out⟩
 case round =>
  obtain ⟨k, hk, rfl, HI⟩ := hrel
  obtain ⟨hr, hb⟩ := HI.out
  by_cases hlt : k < ts.length
  ·obtain ⟨ad, rfl, x0⟩ := ints_at (Kd.C_below HT.out hb) k hlt
   have hsr := HK.out (ts.getD k 0) (by rw [List.getD_eq_getElem?_getD, List.getElem?_eq_getElem hlt]; exact List.getElem_mem hlt)
   obtain ⟨s, hs⟩ : ∃ s, ts.getD k 0 = s := ⟨_, rfl⟩
   rw [hs] at x0 hsr
   obtain ⟨s0, s1'⟩ := hsr
   have hN2 := HN.out
   have s2 : s < (N : Int) := by omega
   have s3 : ¬ ((N : Int) ≤ s) := by omega
   have s4 : ¬ (s < 0) := by omega
   have i0 : (0 : Int) ≤ k := by omega
   have i1 : (k : Int) < (ts.length : Int) := by omega
   have i2 : ((k : Int)).toNat = k := by omega
   have hts : ts.take (k + 1) = ts.take k ++ [s] := by rw [take_succ_getD ts k hlt, hs]
   obtain ⟨Q, hQ⟩ : ∃ Q, Hist.counted (List.replicate N 0) (ts.take k) = Q := ⟨_, rfl⟩
   have hnx : Hist.counted (List.replicate N 0) (ts.take (k + 1)) = Hist.bump Q s := by rw [hts, Hist.counted_snoc, hQ]
   have hQl : Q.length = N := by rw [← hQ, Hist.counted_length, List.length_replicate]
   have hQb : ∀ x ∈ Q, 0 ≤ x ∧ x ≤ 0 + ((ts.take k).length : Int) := by rw [← hQ]; exact counted_pos (ts.take k) (List.replicate N 0) 0 (by intro y hy; have := (List.mem_replicate.1 hy).2; omega) (by omega)
   have htk : (ts.take k).length ≤ 1024 := by rw [List.length_take]; omega
   rw [hQ] at hr
   obtain ⟨g, cap, hv, hge, hgl, cells, hcell⟩ := Kd.R_form hr (by omega)
   rw [hQl] at hv
   injection hv with hv1 hv2 hv3
   subst hv1 hv3
   have hr' := hr
   rw [← hQl] at hr'
   obtain ⟨y0, y1⟩ := Kd.R_cell (enc := Value.int .i64) (h1 := fun _ => rfl) (0 : Int) hr' s s0 (by rw [hQl]; exact s2)
   obtain ⟨x, hx2⟩ : ∃ x, Q.getD s.toNat 0 = x := ⟨_, rfl⟩
   have hxb : 0 ≤ x ∧ x ≤ 1024 := by
    have := hQb x (by rw [← hx2, List.getD_eq_getElem?_getD, List.getElem?_eq_getElem (by omega)]; exact List.getElem_mem (by omega))
    omega
   have hw : IntKind.i64.wrap (x + 1) = x + 1 := by rw [IntKind.wrap_i64]; first | omega | (unfold wrap64; omega)
   obtain ⟨p0, p1⟩ := Kd.R_put (enc := Value.int .i64) (h1 := fun _ => rfl) hr' s (x + 1)
   rw [hQl] at p0
   rw [show rdOf (0 : Int) Q s = x from hx2] at y0
   have hset : Q.set s.toNat (x + 1) = Hist.bump Q s := by unfold Hist.bump; rw [hx2]
   rw [hset, ← hnx] at p0
   have P0 := Lib.hid p0
   have HB2 := Lib.hid (hb.grown p1 hb.size (fun q hq => by
    injection hq with hq
    omega))
   have HKK := Lib.hid hk
   clear hr hr' hb HI p0 p1 hset hx2 hs hts hQ hnx hQl hcell hge hgl hk hQb htk hN2 s1'
   go_wp2_with (fail)
   go_roundg (ts.length - (k + 1))
   case measure => have := HKK.out; omega
   case rel => exact ⟨k + 1, by have := HKK.out; omega, by go_num, P0.out, HB2.out⟩
  ·obtain rfl : k = ts.length := by omega
   rw [List.take_length] at hr
   have HR2 := Lib.hid hr
   have HB2 := Lib.hid hb
   have HTW := Lib.hid (Kd.C_below HT.out hb)
   have hlt2 : ¬ ((ts.length : Int) < (ts.length : Int)) := by omega
   clear hr hb HI hk hlt
   have hh : how = 0 ∨ how = 1 := by omega
   rcases hh with rfl | rfl
   ·have HLP := Lib.hid (show layP l 0 ts = numsB ts from if_neg (by decide))
    obtain ⟨w5, hw5⟩ : ∃ x : World, x = wr := ⟨_, rfl⟩
    rw [← hw5] at HR2 HB2 HTW ⊢
    clear hw5
    go_wp2_with (fail)
    go_loopg [11, 12] ts.length (fun j o i wr => ∃ k : Nat, k + j = ts.length ∧ i = .int .i64 k ∧ o = .string (numsB (ts.take k)) ∧ Hid (Below w5.heap.size w5 wr))
    case atStart => exact ⟨0, by omega, rfl, rfl, Below.refl _ _⟩
    case round =>
     obtain ⟨k, hk, rfl, rfl, HI⟩ := hrel
     by_cases hlt : k < ts.length
     ·obtain ⟨ad, rfl, x0⟩ := ints_at (Kd.C_below HTW.out HI.out) k hlt
      obtain ⟨s, hs⟩ : ∃ s, ts.getD k 0 = s := ⟨_, rfl⟩
      rw [hs] at x0
      have i0 : (0 : Int) ≤ k := by omega
      have i1 : (k : Int) < (ts.length : Int) := by omega
      have i2 : ((k : Int)).toNat = k := by omega
      have HNX := Lib.hid (show numsB (ts.take (k + 1)) = numsB (ts.take k) ++ Vari.numS s by rw [take_succ_getD ts k hlt, numsB_snoc, hs])
      have hz := numsB_size (ts.take (k + 1))
      rw [HNX.out, ByteArray.size_append] at hz
      have hz2 : (ts.take (k + 1)).length ≤ 1024 := by rw [List.length_take]; omega
      have hzz : ¬ 9223372036854775807 < (numsB (ts.take k)).size + (Vari.numS s).size := by omega
      obtain ⟨P, hP⟩ : ∃ P, numsB (ts.take k) = P := ⟨_, rfl⟩
      rw [hP] at HNX hzz ⊢
      have HKK := Lib.hid hk
      clear hs hz hz2 hP hk
      go_wp2_with (fail)
      refine (Vari.ref_number s _).mono ?_
      rintro e w6 ⟨rfl, hb6⟩
      have HB6 := Lib.hid (Ints.bel_trans HI.out HI.out.size hb6)
      clear hb6
      go_wp2_with (fail)
      go_roundg (ts.length - (k + 1))
      case measure => have := HKK.out; omega
      case rel => exact ⟨k + 1, by have := HKK.out; omega, by go_num, by rw [HNX.out], HB6.out⟩
     ·obtain rfl : k = ts.length := by omega
      rw [List.take_length]
      have HB6 := Lib.hid (HB2.out.trans (HI.out.mono HB2.out.size))
      clear HI hk hlt
      go_wp2_with (fail)
      go_ret2
      exact ⟨by rw [HLP.out]; rfl, HB6.out⟩
   ·have HLP := Lib.hid (show layP l 1 ts = codesB l ts from if_pos rfl)
    obtain ⟨hco1, hlt1⟩ := HCO.out rfl
    have hHs : Hist.counted (List.replicate N 0) ts = hst l ts := by rw [← HN.out]; rfl
    have hLl : (lns l ts).length = N := by rw [lns_length, HN.out]
    have HLL := Lib.hid hLl
    have hcb : codesB l ts = strOfNums (Tb.tabL (lns l ts)) ++ strOfNums (BP.pack (Code.stream (lns l ts) ts)) := rfl
    rw [hHs] at HR2
    obtain ⟨ns, hns⟩ : ∃ ns, lns l ts = ns := ⟨_, rfl⟩
    have hrt := hco1.2
    rw [hns] at hlt1 hcb HLL hrt
    rw [hcb] at HLP
    have HTOLD := Lib.hid hlt1
    have HRT := Lib.hid hrt
    clear hco1 hlt1 hHs hLl hcb hns hrt HCO
    go_wp2_with (fail)
    refine (HTOLD.out _ A1 c1 (by have h := (Kd.R_reads' HR2.out).2.2; rwa [hst_length, HN.out] at h)).mono ?_
    rintro e w3 ⟨v3, rfl, hr3, hb3⟩
    obtain ⟨A3, c3, rfl⟩ := Kd.R_slice hr3
    have HR3 := Lib.hid (Kd.R_reads' hr3).2.2
    have HB3 := Lib.hid (Ints.bel_trans HB2.out HB2.out.size hb3)
    clear hr3 hb3
    go_wp2_with (fail)
    refine (Code.ref_codes_ok _ _ ns _ HR3.out (by have := HLL.out; omega) HRT.out).mono ?_
    rintro e w4 ⟨v4, rfl, hr4, hb4⟩
    obtain ⟨A4, c4, rfl⟩ := Kd.R_slice hr4
    have HR4 := Lib.hid (Kd.R_reads' hr4).2.2
    rw [Code.codes_length] at HR4 ⊢
    have HR3b := Lib.hid (Kd.C_below HR3.out hb4)
    have HB4 := Lib.hid (Ints.bel_trans HB3.out HB3.out.size hb4)
    have HT4 := Lib.hid (Kd.C_below HT.out HB4.out)
    clear hr4 hb4
    have hnl := HLL.out
    rw [hnl] at HR3b HR4 ⊢
    clear hnl HR3 HTW HR2
    go_wp2_with (fail)
    go_loopg [19, 20] ts.length (fun j o i wr => ∃ k : Nat, k + j = ts.length ∧ i = .int .i64 k ∧ Hid (KI.R 3 wr w4.heap.size (fun _ => True) o (Code.stream ns (ts.take k)) ∧ Below w4.heap.size w4 wr))
    case atStart => exact ⟨0, by omega, rfl, Kd.R_nil _ _ _ _ _, Below.refl _ _⟩
    case round =>
     obtain ⟨k, hk, rfl, HI⟩ := hrel
     obtain ⟨hr, hb⟩ := HI.out
     obtain ⟨w5, hw5⟩ : ∃ x : World, x = wr := ⟨_, rfl⟩
     rw [← hw5] at hr hb ⊢
     clear hw5 HI
     by_cases hlt : k < ts.length
     ·obtain ⟨ad, rfl, x0⟩ := ints_at (Kd.C_below HT4.out hb) k hlt
      have hsr := HK.out (ts.getD k 0) (by rw [List.getD_eq_getElem?_getD, List.getElem?_eq_getElem hlt]; exact List.getElem_mem hlt)
      obtain ⟨s, hs⟩ : ∃ s, ts.getD k 0 = s := ⟨_, rfl⟩
      rw [hs] at x0 hsr
      have HNX := Lib.hid (show Code.stream ns (ts.take (k + 1)) = Code.stream ns (ts.take k) ++ Code.symBits ns s by rw [take_succ_getD ts k hlt, Code.stream_append, hs, Code.stream_one])
      have hsN : s.toNat < N := by have := HN.out; omega
      obtain ⟨ad3, rfl, y0⟩ := ints_at (Kd.C_below HR3b.out hb) s.toNat hsN
      obtain ⟨ad4, rfl, z0⟩ := ints_at (Kd.C_below HR4.out hb) s.toNat hsN
      obtain ⟨L, hL⟩ : ∃ L, ns.getD s.toNat 0 = L := ⟨_, rfl⟩
      obtain ⟨C, hC⟩ : ∃ C, (Code.codes ns).getD s.toNat 0 = C := ⟨_, rfl⟩
      rw [hL] at y0
      rw [hC] at z0
      have HSX := Lib.hid hs
      have HCX := Lib.hid hC
      have HLX := Lib.hid hL
      have hLr : 0 ≤ L ∧ L ≤ 15 := by
       have hm9 : L ∈ ns := by rw [← hL, List.getD_eq_getElem?_getD, List.getElem?_eq_getElem (by rw [HLL.out]; exact hsN)]; exact List.getElem_mem (by rw [HLL.out]; exact hsN)
       exact Code.right_range HRT.out L hm9
      have hCr : C = (Code.codeAt ns s.toNat : Int) := by rw [← hC]; exact Code.codes_getD ns s.toNat (by rw [HLL.out]; exact hsN)
      have HSB := Lib.hid (show Code.symBits ns s = BP.bitsV L.toNat C by
       cases hcd : Code.coded ns s
       ·rw [Code.symBits_no hcd]
        have hL0 : L = 0 := by
         have h1 := of_decide_eq_false hcd
         rw [hL, HLL.out] at h1
         omega
        rw [hL0]
        rfl
       ·rw [Code.symBits_yes hcd, hL, hCr])
      obtain ⟨q0, q1⟩ := hsr
      have q2 : s < (N : Int) := by omega
      obtain ⟨r0, r1⟩ := hLr
      have i0 : (0 : Int) ≤ k := by omega
      have i1 : (k : Int) < (ts.length : Int) := by omega
      have i2 : ((k : Int)).toNat = k := by omega
      have hw1' : wrap64 (L - 1) = L - 1 := by unfold wrap64; omega
      have HKK := Lib.hid hk
      have HR5 := Lib.hid hr
      have HB5 := Lib.hid hb
      have HCR := Lib.hid hCr
      clear hr hb hk hs hL hC hCr hsN q1
      go_wp2_with (fail)
      go_loopg [19, 21] L.toNat (fun j o i wr => ∃ t : Nat, t + j = L.toNat ∧ i = .int .i64 (L - 1 - (t : Int)) ∧ Hid (KI.R 3 wr w4.heap.size (fun _ => True) o (Code.stream ns (ts.take k) ++ (BP.bitsV L.toNat C).take t) ∧ Below w4.heap.size w4 wr))
      case atStart => exact ⟨0, by omega, by congr 1; omega, by rw [List.take_zero, List.append_nil]; exact HR5.out, HB5.out⟩
      case round =>
       obtain ⟨t, ht, rfl, HI⟩ := hrel
       obtain ⟨hr, hb⟩ := HI.out
       by_cases htl : t < L.toNat
       ·have g0 : (0 : Int) ≤ L - 1 - (t : Int) := by omega
        obtain ⟨D, hD⟩ : ∃ D : Nat, L - 1 - (t : Int) = (D : Int) := ⟨(L - 1 - (t : Int)).toNat, by omega⟩
        rw [hD] at g0 ⊢
        have hD15 : D ≤ 15 := by omega
        obtain ⟨_, e', x1⟩ := ints_at (Kd.C_below HT4.out hb) k (by omega)
        cases e'
        have hsN : s.toNat < N := by omega
        obtain ⟨_, e', z1⟩ := ints_at (Kd.C_below HR4.out hb) s.toNat hsN
        cases e'
        rw [HSX.out] at x1
        rw [HCX.out] at z1
        have hw9 : IntKind.u64.wrap (D : Int) = (D : Int) := by rw [IntKind.wrap_u64]; omega
        have hDD : L.toNat - 1 - t = D := by omega
        have hnt := bitsV_down L.toNat C t htl
        rw [hDD] at hnt
        obtain ⟨P, hP⟩ : ∃ P, Code.stream ns (ts.take k) ++ (BP.bitsV L.toNat C).take t = P := ⟨_, rfl⟩
        have HNX2 := Lib.hid (show Code.stream ns (ts.take k) ++ (BP.bitsV L.toNat C).take (t + 1) = P ++ [C / 2 ^ D % 2] by rw [hnt, ← List.append_assoc, hP])
        have HPL := Lib.hid (show P.length ≤ 100000 by
         have h1 := Code.stream_le (Code.right_range HRT.out) (ts.take k)
         have h2 : (ts.take k).length ≤ 1024 := by rw [List.length_take]; omega
         rw [← hP, List.length_append, List.length_take]
         omega)
        rw [hP] at hr
        have hRP := Lib.hid hr
        have HBP := Lib.hid hb
        have c0 : 0 ≤ C := by rw [HCR.out]; omega
        have c1' : C ≤ 1000000 := by
         have h1 := Code.code_bound ns (Code.right_kraft HRT.out) s.toNat
         have hL2 : ns.getD s.toNat 0 = L := HLX.out
         have h2 := h1 (L.toNat - 1) (by rw [hL2]; omega) (by omega)
         have h3 : 2 ^ (L.toNat - 1 + 1) ≤ 2 ^ 15 := Nat.pow_le_pow_right (by decide) (by omega)
         rw [HCR.out]
         omega
        have q6 : bits BinOp.and IntKind.i64 (C / 2 ^ D) 1 = C / 2 ^ D % 2 := by
         have hpw : (0 : Int) < 2 ^ D := Int.pow_pos (by omega)
         exact BP.and_one _ (Int.ediv_nonneg c0 (by omega)) (by have := Int.ediv_le_self (2 ^ D) c0; omega)
        have hdw : wrap64 ((D : Int) - 1) = (D : Int) - 1 := by unfold wrap64; omega
        clear x0 y0 z0 hnt hP hr hb HI hDD
        go_wp2_with (((with_reducible refine gate_builtin (b := .append) (xs := #[.tmp 114, .tmp 126]) rfl ?_); at_builtin; apply stopper))
        unfold Stopper
        refine Kd.R_append KI (w0 := w4) w4.heap.size rfl (.tmp 114) (.tmp 126) 26 3 (.int .i64 0) 8 rfl Tryz.underlying26 infoInt rfl (by decide) (by omega) u19 P (C / 2 ^ D % 2) [.int .i64 (C / 2 ^ D % 2)] (fun _ => True) (fun _ => False) rfl rfl rfl (fun _ hk => hk.elim) (fun _ _ => trivial) (by exact hRP.out) HBP.out HBP.out.size (by have := HPL.out; omega) ?_
        intro v9 w9 ho9 hb9 hg9 hat9
        rw [← HNX2.out] at ho9
        have HR9 := Lib.hid ho9
        have HB9 := Lib.hid hb9
        clear ho9 hb9 hg9 hat9 hRP x1 z1 q6
        go_wp2_with (fail)
        go_roundg (L.toNat - (t + 1))
        case measure => omega
        case rel => exact ⟨t + 1, by omega, by first | (rw [hdw]; congr 1; omega) | (congr 1; omega), HR9.out, HB9.out⟩
       ·obtain rfl : t = L.toNat := by omega
        rw [show L - 1 - ((L.toNat : Nat) : Int) = -1 by omega]
        have htk : (BP.bitsV L.toNat C).take L.toNat = BP.bitsV L.toNat C := List.take_of_length_le (by rw [BP.bitsV_length]; exact Nat.le_refl _)
        rw [htk, ← HSB.out, ← HNX.out] at hr
        have HR9 := Lib.hid hr
        have HB9 := Lib.hid hb
        clear hr hb HI htk ht htl
        go_wp2_with (fail)
        go_roundg (ts.length - (k + 1))
        case measure => have := HKK.out; omega
        case rel => exact ⟨k + 1, by have := HKK.out; omega, by go_num, HR9.out, HB9.out⟩
     ·obtain rfl : k = ts.length := by omega
      rw [List.take_length] at hr
      obtain ⟨A5, c5, rfl⟩ := Kd.R_slice hr
      have HR5 := Lib.hid (Kd.R_reads' hr).2.2
      have HB5 := Lib.hid (Ints.bel_trans HB4.out HB4.out.size hb)
      have HR3c := Lib.hid (Kd.C_below HR3b.out hb)
      have hsl := Code.stream_le (Code.right_range HRT.out) ts
      have HSL := Lib.hid (show (Code.stream ns ts).length ≤ 15 * ts.length from hsl)
      have HSB := Lib.hid (Code.stream_bits ns ts)
      have htz : (strOfNums (Tb.tabL ns)).size ≤ 356 := by rw [strOfNums_size]; have := Tb.tabL_len _ ns (Nat.le_refl _); have := HLL.out; omega
      have hpz : (strOfNums (BP.pack (Code.stream ns ts))).size ≤ 100000 := by rw [strOfNums_size, BP.pack_length]; omega
      have hzz : ¬ 9223372036854775807 < (strOfNums (Tb.tabL ns)).size + (strOfNums (BP.pack (Code.stream ns ts))).size := by omega
      obtain ⟨S, hS⟩ : ∃ S, Code.stream ns ts = S := ⟨_, rfl⟩
      rw [hS] at HLP HR5 HSL HSB hzz ⊢
      obtain ⟨TT, hTT⟩ : ∃ TT, strOfNums (Tb.tabL ns) = TT := ⟨_, rfl⟩
      have HTB := Lib.hid (fun W A c h => show Calls Tryz.prog 145 #[.slice A N c] W fun e w' => e = .returned (.tuple #[.string TT, .bool true]) ∧ Below W.heap.size W w' by rw [← hTT]; exact Tb.ref_tab A N c ns W h (by have := HLL.out; omega) (Code.right_range HRT.out))
      obtain ⟨PP, hPP⟩ : ∃ PP, strOfNums (BP.pack S) = PP := ⟨_, rfl⟩
      have HPK := Lib.hid (fun W A c h => show Calls Tryz.prog 146 #[.slice A S.length c] W fun e w' => e = .returned (.string PP) ∧ Below W.heap.size W w' by rw [← hPP]; exact Bits.ref_pack A c S W h HSB.out (by have := HSL.out; omega))
      rw [hTT, hPP] at HLP hzz
      clear hr hb hk hlt hsl htz hpz hS hTT hPP
      go_wp2_with (fail)
      refine (HTB.out _ _ _ HR3c.out).mono ?_
      rintro e w6 ⟨rfl, hb6⟩
      have HB6 := Lib.hid (Ints.bel_trans HB5.out HB5.out.size hb6)
      have HR6 := Lib.hid (Kd.C_below HR5.out hb6)
      clear hb6
      go_wp2_with (fail)
      refine (HPK.out _ _ _ HR6.out).mono ?_
      rintro e w7 ⟨rfl, hb7⟩
      have HB7 := Lib.hid (Ints.bel_trans HB6.out HB6.out.size hb7)
      clear hb7
      go_wp2_with (fail)
      go_ret2
      exact ⟨by rw [HLP.out]; rfl, HB7.out⟩
end Go.Proofs.YtfbbcfhdjhiejaaGreat.Blk
