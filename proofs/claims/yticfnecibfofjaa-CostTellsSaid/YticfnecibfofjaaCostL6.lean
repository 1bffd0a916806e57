/- Chapter 12: the document's own bits of a token; the sums that a law takes. -/
import Derived.Test.YticfnecibfofjaaCostL1
import Derived.Test.YticfnecibfofjaaPCostTellsx1
namespace Go.Proofs.Yticfnecibfofjaa.Cost
set_option linter.unusedVariables false
set_option linter.unusedSimpArgs false
open Go.RowKit Go.Proofs.YticfnecibfofjaaW.PrintWords Go.Proofs.YticfnecibfofjaaW.PrintMore Go.Proofs.YticfnecibfofjaaW.PrintLast Go.Proofs.Yticfnecibfofjaa.L Go.Proofs.Yticfnecibfofjaa.Ints Go.Proofs.Yticfnecibfofjaa.Fl Go.Proofs.Yticfnecibfofjaa.VariSpec Go.Proofs.Yticfnecibfofjaa.PCostTells

theorem number_l0 : ∀ (f : Nat) (n : Int) (acc : List Int) (k : Nat), 0 ≤ n → n < cap f → n ≤ 4294967295 → f < k → acc.length + f < 1000 →
    lexiphaneref1_Number.l0 k n acc = some (strOfNums (acc ++ encN f n), true)
  | f, n, acc, 0, _, _, _, hk, _ => absurd hk (by omega)
  | 0, n, acc, k + 1, h0, h1, hm, hk, hl => by
    simp only [cap] at h1
    simp only [lexiphaneref1_Number.l0, encN]
    rw [if_neg (by omega), if_pos (by omega), Int.emod_eq_of_lt h0 (by omega)]
  | f + 1, n, acc, k + 1, h0, h1, hm, hk, hl => by
    simp only [cap] at h1
    simp only [lexiphaneref1_Number.l0, encN]
    by_cases h : n ≥ 128
    · have e : (wrap64 (128 + Int.tmod n 128)) % 256 = n % 128 + 128 := by
        rw [Int.tmod_eq_emod_of_nonneg h0]; unfold wrap64; omega
      have e2 : wrap64 (Int.tdiv n 128) = n / 128 := by
        rw [Int.tdiv_eq_ediv_of_nonneg h0]; unfold wrap64; omega
      rw [if_pos h, if_pos (by omega), if_pos (show 128 ≤ n from h), e, e2, number_l0 f (n / 128) _ k (by omega) (by omega) (by omega) (by omega) (by simp; omega)]
      simp
    · rw [if_neg h, if_pos (by omega), if_neg h, Int.emod_eq_of_lt h0 (by omega)]
theorem number_f (k : Nat) (n : Int) (hk : 10 ≤ k) : lexiphaneref1_Number.f k n = some (if 0 ≤ n ∧ n ≤ 4294967295 then (strOfNums (encN 4 n), true) else ((⟨#[]⟩ : ByteArray), false)) := by
  obtain ⟨k, rfl⟩ : ∃ m, k = m + 1 := ⟨k - 1, by omega⟩
  unfold lexiphaneref1_Number.f
  by_cases h0 : n < 0
  · rw [if_pos h0, if_neg (by omega)]; simp only [lexiphaneref1_Number.j0]; rw [if_pos trivial]
  · rw [if_neg h0]
    simp only [lexiphaneref1_Number.j0]
    by_cases h1 : n > 4294967295
    · rw [if_pos (by simpa using h1), if_neg (by omega)]
    · rw [if_neg (by simpa using h1), if_pos (by omega), number_l0 4 n [] k (by omega) (by simp only [cap]; omega) (by omega) (by omega) (by simp)]
      simp
theorem ref_bits (n : Int) (w : World) : Calls Try.prog 21 #[.int .i64 n] w fun e w' => e = .returned (.int .i64 (8 * vlen n : Nat)) ∧ Below w.heap.size w w' := by
  have h : lexiphaneref1_Bits.f 10 n = some ((8 * vlen n : Nat) : Int) := by
    have h5 := vlen_le n
    unfold lexiphaneref1_Bits.f
    rw [number_f 10 n (by omega)]
    unfold vlen at h5 ⊢
    split
    · rename_i hc
      rw [if_pos hc] at h5
      simp only [Option.bind_some, strOfNums_size]
      congr 1
      unfold wrap64
      omega
    · have hz : ((⟨#[]⟩ : ByteArray).size : Int) = 0 := rfl
      simp only [Option.bind_some]
      congr 1
      unfold wrap64
      omega
  exact lexiphaneref1_Bits.calls 10 n _ w h
set_option maxRecDepth 100000 in
set_option maxHeartbeats 1000000 in
theorem sums_any (A : Option Addr) (c : Nat) (l : List Int) (w : World) (h : KI.C w A l.length l) (hl : l.length ≤ 1000000) :
    Calls Try.prog 20 #[.slice A l.length c] w fun e w' => e = .returned (.tuple #[.int .i64 (sumT l : Nat), .int .i64 (sumB l : Nat)]) ∧ Below w.heap.size w w' := by
  have H := Lib.hid h
  clear h
  go_enter Try.func20, Try.ntmps20
  go_wp2_with (fail)
  go_loopg [4, 5, 11] l.length (fun j t b i wr => ∃ k : Nat, k + j = l.length ∧ i = .int .i64 k ∧ t = .int .i64 (sumT (l.take k) : Nat) ∧ b = .int .i64 (sumB (l.take k) : Nat) ∧ Hid (Below w.heap.size w wr))
  case atStart => exact ⟨0, by omega, rfl, rfl, rfl, Below.refl _ _⟩
  case round =>
    obtain ⟨k, hk, rfl, rfl, rfl, HI⟩ := hrel
    have hb := HI.out
    by_cases hlt : k < l.length
    · obtain ⟨ad, rfl, x0⟩ := ints_at (Kd.C_below H.out hb) k hlt
      obtain ⟨x, hx⟩ : ∃ x, l.getD k 0 = x := ⟨_, rfl⟩
      rw [hx] at x0
      have hn1 : sumT (l.take (k + 1)) = sumT (l.take k) + cT x := by rw [take_succ_getD l k hlt, sumT_snoc, hx]
      have hn2 : sumB (l.take (k + 1)) = sumB (l.take k) + 8 * vlen x := by rw [take_succ_getD l k hlt, sumB_snoc, hx]
      have hs1 := sumT_le (l.take k)
      have hs2 := sumB_le (l.take k)
      have hs3 := List.length_take_le k l
      have hv5 := vlen_le x
      obtain ⟨P, hP⟩ : ∃ P, sumT (l.take k) = P := ⟨_, rfl⟩
      obtain ⟨Q, hQ⟩ : ∃ Q, sumB (l.take k) = Q := ⟨_, rfl⟩
      obtain ⟨v, hv⟩ : ∃ v, vlen x = v := ⟨_, rfl⟩
      have hc : cT x = if v = 0 then 0 else 1 := by rw [← hv]; rfl
      rw [hP] at hn1 hs1 ⊢
      rw [hQ] at hn2 hs2 ⊢
      rw [hv] at hn2 hv5
      rw [hc] at hn1
      have cP : (P : Int) ≤ 1000000 := by omega
      have cQ : (Q : Int) ≤ 40000000 := by omega
      have cV : (v : Int) ≤ 5 := by omega
      have i0 : (0 : Int) ≤ k := by omega
      have i1 : (k : Int) < (l.length : Int) := by omega
      have i2 : ((k : Int)).toNat = k := by omega
      have HV := Lib.hid hv
      have HB := Lib.hid hb
      have HK := Lib.hid hk
      by_cases h0 : v = 0
      · subst h0
        rw [if_pos rfl] at hn1
        have HN1 := Lib.hid hn1
        have HN2 := Lib.hid hn2
        clear hn1 hn2 hs1 hs2 hs3 hx hb HI hP hQ hc hv hv5 hk
        go_wp2_with (fail)
        refine (ref_bits x _).mono ?_
        rintro e w1 ⟨rfl, hb1⟩
        rw [HV.out]
        have HB1 := Lib.hid (Ints.bel_trans HB.out HB.out.size hb1)
        clear hb1 HB
        go_wp2_with (fail)
        go_roundg (l.length - (k + 1))
        case measure => have := HK.out; omega
        case rel => exact ⟨k + 1, by have := HK.out; omega, by go_num, by rw [HN1.out]; rfl, by rw [HN2.out]; rfl, HB1.out⟩
      · rw [if_neg h0] at hn1
        have HN1 := Lib.hid hn1
        have HN2 := Lib.hid hn2
        obtain ⟨V, hV⟩ : ∃ V, 8 * v = V := ⟨_, rfl⟩
        have v0 : (0 : Int) < (V : Int) := by omega
        have cV2 : (V : Int) ≤ 40 := by omega
        have HVV := Lib.hid hV
        clear hn1 hn2 hs1 hs2 hs3 hx hb HI hP hQ hc hv hv5 hk h0 hV
        go_wp2_with (fail)
        refine (ref_bits x _).mono ?_
        rintro e w1 ⟨rfl, hb1⟩
        rw [HV.out, HVV.out]
        have HB1 := Lib.hid (Ints.bel_trans HB.out HB.out.size hb1)
        clear hb1 HB
        go_wp2_with (fail)
        go_roundg (l.length - (k + 1))
        case measure => have := HK.out; omega
        case rel => exact ⟨k + 1, by have := HK.out; omega, by go_num, by rw [HN1.out]; go_num, by rw [HN2.out, HVV.out]; go_num, HB1.out⟩
    · obtain rfl : k = l.length := by omega
      have HB := Lib.hid hb
      clear hb HI
      go_wp2_with (fail)
      go_ret2
      rw [List.take_length]
      exact ⟨rfl, HB.out⟩
end Go.Proofs.Yticfnecibfofjaa.Cost
