/- Chapter 21: the document's answer: the symbol whose code stands at a place. -/
import Derived.Test.YtadijdcdonommaaReadNext
namespace Go.Proofs.Ytadijdcdonommaa.Read
set_option linter.unusedVariables false
set_option linter.unusedSimpArgs false
open Go.RowKit Go.Proofs.YtadijdcdonommaaW.PrintWords Go.Proofs.YtadijdcdonommaaW.PrintMore Go.Proofs.Ytadijdcdonommaa.L Go.Proofs.Ytadijdcdonommaa.Ints Go.Proofs.Ytadijdcdonommaa.Code Go.Proofs.Ytadijdcdonommaa.BP Go.Proofs.Ytadijdcdonommaa.Bits

theorem most_used {l : List Int} (h : 0 < used l) : 0 < most l := by
  obtain ⟨x, hx, hp⟩ := List.countP_pos_iff.1 h
  have := most_ge l x hx
  rw [decide_eq_true_eq] at hp
  omega
/-- Is one longer? -/
def longer (l : List Int) (n : Nat) : Bool := l.any (fun x => decide ((n : Int) < x))
theorem longer_most (l : List Int) (n : Nat) : longer l n = decide (n < most l) := by
  unfold longer
  by_cases h : n < most l
  · rw [decide_eq_true h]
    by_cases h2 : l.any (fun x => decide ((n : Int) < x)) = true
    · exact h2
    · exfalso
      have := most_le l n (fun x hx => by
        have h3 : ¬ decide ((n : Int) < x) = true := fun h4 => h2 (List.any_eq_true.2 ⟨x, hx, h4⟩)
        rw [decide_eq_true_eq] at h3
        omega)
      omega
  · rw [decide_eq_false h]
    by_cases h2 : l.any (fun x => decide ((n : Int) < x)) = true
    · exfalso
      obtain ⟨x, hx, h3⟩ := List.any_eq_true.1 h2
      rw [decide_eq_true_eq] at h3
      have := most_ge l x hx
      omega
    · simpa using h2
theorem drop_getD (l : List Int) (a n : Nat) : (l.drop a).getD n 0 = l.getD (a + n) 0 := by
  rw [List.getD_eq_getElem?_getD, List.getElem?_drop, ← List.getD_eq_getElem?_getD]
set_option maxRecDepth 100000 in
set_option maxHeartbeats 4000000 in
theorem ref_next (A B D : Option Addr) (c c2 c3 : Nat) (l bits : List Int) (at_ : Nat) (w : World) (hl : KI.C w A l.length l) (hc : KI.C w B l.length (codes l)) (hb : KI.C w D bits.length bits) (hbits : Bits bits) (hat : at_ ≤ bits.length)
    (hbl : bits.length ≤ 100000000) (hrt : right l = 0) :
    Calls Try.prog 16 #[.slice A l.length c, .slice B l.length c2, .slice D bits.length c3, .int .i64 at_] w fun e w' =>
      e = .returned (.tuple #[.int .i64 (next l (bits.drop at_)).1, .int .i64 (next l (bits.drop at_)).2.2, .int .i64 (next l (bits.drop at_)).2.1]) ∧ w' = w := by
  have HL := Lib.hid hl
  have HC := Lib.hid hc
  have HB := Lib.hid hb
  obtain ⟨bs, hbs⟩ : ∃ bs, bits.drop at_ = bs := ⟨_, rfl⟩
  have hbb : Bits bs := by rw [← hbs]; exact hbits.drop _
  have HBB := Lib.hid hbb
  have HBS := Lib.hid hbs
  have hlen : bs.length = bits.length - at_ := by rw [← hbs, List.length_drop]
  obtain ⟨M, hM⟩ : ∃ M, most l = M := ⟨_, rfl⟩
  have m0 := most_used (used_pos hrt)
  have m15 := most_15 hrt
  rw [hM] at m0 m15
  rw [hbs]
  have HLEN := Lib.hid hlen
  have HM := Lib.hid hM
  have HN := Lib.hid (show next l bs = nextR l bs 1 M by rw [← hM]; rfl)
  have HAT := Lib.hid hat
  have at9 : (at_ : Int) ≤ 100000000 := by omega
  have lmx := Kd.C_max hl
  clear hl hc hb hbits hbb hbs hlen hM hrt hat
  go_enter Try.func16, Try.ntmps16
  go_wp2_with (fail)
  go_loopg [11, 12] 15 (fun j v i wr => ∃ n : Nat, n + j = 15 ∧ n < M ∧ i = .int .i64 ((n : Int) + 1) ∧ v = .int .i64 (valN bs n) ∧ Hid (nextR l bs (n + 1) (M - n) = next l bs) ∧ wr = w)
  case atStart => exact ⟨0, by omega, m0, rfl, rfl, by rw [HN.out]; rfl, rfl⟩
  case round =>
    obtain ⟨n, hn, hnM, rfl, rfl, HNX, rfl⟩ := hrel
    have n15 : n + 1 ≤ 15 := by omega
    have n16 : (n : Int) + 1 ≤ 15 := by omega
    have HNN := Lib.hid hn
    clear hn m0
    by_cases hnl : bs.length < n + 1
    · have n2 : (bits.length : Int) < (at_ : Int) + ((n : Int) + 1) := by have := HLEN.out; omega
      have HE := Lib.hid (show next l bs = (0, 2, 0) by rw [← HNX.out, show M - n = (M - n - 1) + 1 by omega]; exact nextR_more hnl)
      clear hnl
      go_wp2_with (fail)
      go_ret3
      rw [HE.out]
      exact ⟨rfl, rfl⟩
    · have n2 : (at_ : Int) + ((n : Int) + 1) ≤ (bits.length : Int) := by have := HLEN.out; have := HAT.out; omega
      have n3 : at_ + n < bits.length := by omega
      obtain ⟨dd, rfl, x0⟩ := ints_at HB.out (at_ + n) n3
      have hx1 : bits.getD (at_ + n) 0 = bs.getD n 0 := by rw [← HBS.out, drop_getD]
      have hx2 := bits_getD HBB.out n
      have hv := valN_range HBB.out n
      have hV2 : valN bs (n + 1) = valN bs n * 2 + bits.getD (at_ + n) 0 := by rw [hx1]; rfl
      rw [← hx1] at hx2
      obtain ⟨x, hx⟩ : ∃ x, bits.getD (at_ + n) 0 = x := ⟨_, rfl⟩
      rw [hx] at x0 hx2 hV2
      obtain ⟨V, hV⟩ : ∃ V, valN bs n = V := ⟨_, rfl⟩
      rw [hV] at hv hV2 ⊢
      have v2 : V < 32768 := by
        have h4 : (2 : Int) ^ n ≤ 2 ^ 15 := by exact_mod_cast Nat.pow_le_pow_right (by decide : 0 < 2) (show n ≤ 15 by omega)
        omega
      obtain ⟨v0, _⟩ := hv
      obtain ⟨x1, x2⟩ := hx2
      have j1 : ((at_ : Int) + ((n : Int) + 1) - 1).toNat = at_ + n := by omega
      have j2 : (0 : Int) ≤ (at_ : Int) + ((n : Int) + 1) - 1 := by omega
      have j3 : (at_ : Int) + ((n : Int) + 1) - 1 < (bits.length : Int) := by omega
      have HV2 := Lib.hid hV2
      clear hx1 hx hV hV2 hnl
      have x3 : 0 ≤ V * 2 + x := by omega
      have x4 : V * 2 + x < 65536 := by omega
      obtain ⟨Y, hY⟩ : ∃ Y, V * 2 + x = Y := ⟨_, rfl⟩
      have HY := Lib.hid (show valN bs (n + 1) = Y by rw [HV2.out, hY])
      have HYE := Lib.hid hY
      clear hY
      obtain ⟨wo, rfl⟩ : ∃ x : World, x = wr := ⟨_, rfl⟩
      go_wp2_with (fail)
      rw [HYE.out]
      clear x0 j1 j2 j3 n2 x1 x2 v0 v2 x3 x4
      go_loopg [13, 14] l.length (fun j m i wr => ∃ k : Nat, k + j = l.length ∧ i = .int .i64 k ∧ m = .bool (longer (l.take k) (n + 1)) ∧ Hid (∀ t, t < k → l.getD t 0 = ((n + 1 : Nat) : Int) → (codeAt l t : Int) ≠ Y) ∧ wr = wo)
      case atStart => exact ⟨0, by omega, rfl, rfl, fun t ht => absurd ht (by omega), rfl⟩
      case round =>
        obtain ⟨k, hk, rfl, rfl, HT, rfl⟩ := hrel
        by_cases hlt : k < l.length
        · obtain ⟨ad, rfl, y0⟩ := ints_at HL.out k hlt
          obtain ⟨bd, rfl, z0⟩ := ints_at HC.out k hlt
          rw [codes_getD l k hlt] at z0
          have hlo : longer (l.take (k + 1)) (n + 1) = (longer (l.take k) (n + 1) || decide (((n + 1 : Nat) : Int) < l.getD k 0)) := by
            unfold longer
            rw [any_snoc l k hlt]
          obtain ⟨y, hy⟩ : ∃ y, l.getD k 0 = y := ⟨_, rfl⟩
          obtain ⟨z, hz⟩ : ∃ z : Nat, codeAt l k = z := ⟨_, rfl⟩
          rw [hy] at y0 hlo
          rw [hz] at z0
          have i0 : (0 : Int) ≤ k := by omega
          have i1 : (k : Int) < (l.length : Int) := by omega
          have i2 : ((k : Int)).toNat = k := by omega
          have HK := Lib.hid hk
          have HLO := Lib.hid hlo
          have HYK := Lib.hid hy
          have HZK := Lib.hid hz
          clear hk hlo hy hz
          by_cases hyn : y = (n : Int) + 1 ∧ (z : Int) = Y
          · obtain ⟨e1, e2⟩ := hyn
            have b1 : (y == (n : Int) + 1) = true := beq_iff_eq.2 e1
            have b2 : ((z : Int) == Y) = true := beq_iff_eq.2 e2
            have HE := Lib.hid (show next l bs = ((k : Int), 0, n + 1) by
              rw [← HNX.out, show M - n = (M - n - 1) + 1 by omega]
              refine nextR_hit (by have := HLEN.out; have := HAT.out; omega) ?_
              rw [HY.out, ← e2, ← HZK.out]
              exact hit_of (by rw [HYK.out, e1]; omega) n15)
            clear e1 e2
            go_wp2_with (fail)
            go_ret3
            rw [HE.out]
            exact ⟨rfl, rfl⟩
          · have HT2 := Lib.hid (show ∀ t, t < k + 1 → l.getD t 0 = ((n + 1 : Nat) : Int) → (codeAt l t : Int) ≠ Y by
              intro t ht h1 h2
              by_cases htk : t = k
              · subst htk
                rw [HYK.out] at h1
                rw [HZK.out] at h2
                exact hyn ⟨by omega, h2⟩
              · exact HT.out t (by omega) h1 h2)
            obtain ⟨G, hG⟩ : ∃ G, longer (l.take k) (n + 1) = G := ⟨_, rfl⟩
            rw [hG] at HLO ⊢
            clear hG
            have hcase : (y ≠ (n : Int) + 1) ∨ (y = (n : Int) + 1 ∧ (z : Int) ≠ Y) := by
              by_cases h : y = (n : Int) + 1
              · exact .inr ⟨h, fun h2 => hyn ⟨h, h2⟩⟩
              · exact .inl h
            clear hyn HT
            rcases hcase with h1 | ⟨h1, h2⟩
            case' inl =>
              have b1 : (y == (n : Int) + 1) = false := beq_eq_false_iff_ne.2 h1
            case' inr =>
              have b1 : (y == (n : Int) + 1) = true := beq_iff_eq.2 h1
              have b2 : ((z : Int) == Y) = false := beq_eq_false_iff_ne.2 h2
              clear h2
            all_goals
              clear h1
              cases G
              · obtain ⟨Q, hQ⟩ : ∃ Q, decide (((n : Int) + 1) < y) = Q := ⟨_, rfl⟩
                have HQ := Lib.hid (show longer (l.take (k + 1)) (n + 1) = Q by rw [HLO.out, ← hQ, show ((n + 1 : Nat) : Int) = (n : Int) + 1 by omega]; rfl)
                go_wp2_with (fail)
                go_roundg (l.length - (k + 1))
                case measure => have := HK.out; omega
                case rel => exact ⟨k + 1, by have := HK.out; omega, by go_num, by rw [HQ.out], HT2.out, rfl⟩
              · have HQ := Lib.hid (show longer (l.take (k + 1)) (n + 1) = true by rw [HLO.out]; rfl)
                go_wp2_with (fail)
                go_roundg (l.length - (k + 1))
                case measure => have := HK.out; omega
                case rel => exact ⟨k + 1, by have := HK.out; omega, by go_num, by rw [HQ.out], HT2.out, rfl⟩
        · obtain rfl : k = l.length := by omega
          have HE := Lib.hid (show nextR l bs (n + 1 + 1) (M - (n + 1)) = next l bs by
            rw [← HNX.out, show M - n = (M - (n + 1)) + 1 by omega]
            refine (nextR_on (by have := HLEN.out; have := HAT.out; omega) ?_).symm
            rw [HY.out]
            exact hit_none (fun t ht h1 => HT.out t ht h1))
          have hlm := longer_most l (n + 1)
          rw [HM.out] at hlm
          rw [List.take_length]
          clear hk HT
          by_cases hm : n + 1 < M
          · rw [hlm, decide_eq_true hm]
            clear hlm
            go_wp2_with (fail)
            go_roundg (15 - (n + 1))
            case measure => have := HNN.out; omega
            case rel => exact ⟨n + 1, by omega, hm, by go_num, by rw [HY.out], HE.out, rfl⟩
          · rw [hlm, decide_eq_false hm]
            have HE2 := Lib.hid (show next l bs = (0, 8, 0) by rw [← HE.out, show M - (n + 1) = 0 by omega]; rfl)
            clear hlm hm
            go_wp2_with (fail)
            go_ret3
            rw [HE2.out]
            exact ⟨rfl, rfl⟩
end Go.Proofs.Ytadijdcdonommaa.Read
