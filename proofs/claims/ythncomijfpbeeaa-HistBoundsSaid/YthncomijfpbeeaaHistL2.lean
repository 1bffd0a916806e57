/- Tokens that are none of those that are counted are refused; so is a size that may not be. -/
import Derived.Test.YthncomijfpbeeaaHistPure
namespace Go.Proofs.Ythncomijfpbeeaa.Hist
set_option linter.unusedVariables false
set_option linter.unusedSimpArgs false
open Go.RowKit Go.Proofs.YthncomijfpbeeaaW.PrintWords Go.Proofs.YthncomijfpbeeaaW.PrintMore Go.Proofs.Ythncomijfpbeeaa.L Go.Proofs.Ythncomijfpbeeaa.Ints

set_option maxRecDepth 100000 in
set_option maxHeartbeats 1000000 in
theorem HistBounds_walk (size token : Int) (w : World) (hs : (Lit.int .i64 size).wf = true) (ht : (Lit.int .i64 token).wf = true) :
    Calls Try.prog 5 #[.int .i64 size, .int .i64 token] w fun e w' => e = .returned (.bool true) ∧ Below w.heap.size w w' := by
  go_enter Try.func5, Try.ntmps5
  go_wp2_with (fail)
  refine (alive_any _).mono ?_
  rintro e w1 ⟨rfl, hb1⟩
  have HB1 := Lib.hid hb1
  clear hb1
  go_wp2_with (fail)
  have hb2 := HB1.out.alloc HB1.out.size (.cells #[.int .i64 token] 3 (0, 0))
  by_cases hsz : size < 0 ∨ 356 < size
  · refine (of_arg _ _ _ _ _ hsz).mono ?_
    rintro e w2 ⟨rfl, rfl⟩
    have HB2 := Lib.hid hb2
    clear hb2
    by_cases h0 : size < 0
    · clear hsz
      go_wp2_with (fail)
      go_ret
      exact ⟨rfl, HB2.out⟩
    · have h1 : 356 < size := by omega
      clear hsz
      go_wp2_with (fail)
      go_ret
      exact ⟨rfl, HB2.out⟩
  · have h0 : 0 ≤ size := by omega
    have h1 : size ≤ 356 := by omega
    clear hsz
    obtain ⟨n, rfl⟩ := Int.eq_ofNat_of_zero_le h0
    refine (of_any _ _ _ _ [token] _ (lit_ints w1 3 [token] (by simp)) h0 h1 (by simp)).mono ?_
    rw [Int.toNat_natCast]
    rintro e w2 ⟨hb3, ⟨hg, v, rfl, hr⟩ | ⟨hg, rfl⟩⟩
    · obtain ⟨t0, t1⟩ := hg token (by simp)
      obtain ⟨t, rfl⟩ := Int.eq_ofNat_of_zero_le t0
      obtain ⟨A1, c1, rfl⟩ := Kd.R_slice hr
      obtain ⟨_, _, hc⟩ := Kd.R_reads' hr
      have hlen : (counted (List.replicate n 0) [(t : Int)]).length = n := by rw [counted_length, List.length_replicate]
      have htot : total (counted (List.replicate n 0) [(t : Int)]) = 1 := by
        rw [total_counted _ _ (by rw [List.length_replicate]; exact hg), total_zeros]; rfl
      have hnn : ∀ x ∈ counted (List.replicate n 0) [(t : Int)], 0 ≤ x := counted_nonneg _ _ (fun x hx => by rw [List.eq_of_mem_replicate hx]; decide)
      have hused : used (counted (List.replicate n 0) [(t : Int)]) = 1 := by
        show used ((List.replicate n 0).set (t : Int).toNat _) = 1
        rw [Int.toNat_natCast, used_set _ _ _ (by rw [List.length_replicate]; omega), getD_zeros, used_zeros]; rfl
      have hat : (counted (List.replicate n 0) [(t : Int)]).getD t 0 = 1 := by
        show ((List.replicate n 0).set (t : Int).toNat _).getD t 0 = 1
        rw [Int.toNat_natCast, List.getD_eq_getElem?_getD, List.getElem?_set_self (by rw [List.length_replicate]; omega), getD_zeros]; rfl
      obtain ⟨H, hH⟩ : ∃ H, counted (List.replicate n 0) [(t : Int)] = H := ⟨_, rfl⟩
      rw [hH] at hc hlen htot hnn hused hat
      rw [hH]
      have hbt : ∀ k, k ≤ H.length → -(2 ^ 63) ≤ total (H.take k) ∧ total (H.take k) < 2 ^ 63 := by
        intro k _
        have := total_take H hnn k
        rw [htot] at this
        constructor
        · exact Int.le_trans (by decide) this.1
        · exact Int.lt_of_le_of_lt this.2 (by decide)
      rw [hlen] at hc
      obtain ⟨ad, rfl, x0⟩ := ints_at hc t (by omega)
      rw [hat] at x0
      rw [hlen]
      have HC := Lib.hid hc
      have HT := Lib.hid htot
      have HU := Lib.hid hused
      have HBT := Lib.hid hbt
      have HB2 := Lib.hid (bel_trans hb2 (by have := HB1.out.size; simp; omega) hb3)
      have i0 : (0 : Int) ≤ (t : Int) := by omega
      have i2 : ((t : Int)).toNat = t := by omega
      clear hr hc hlen htot hnn hused hat hH hbt hb2 hb3 hg
      go_wp2_with (first
        | (go_at_call 20; refine (total_any _ _ _ _ _ HC.out HBT.out).mono ?_; rintro e w3 ⟨rfl, rfl⟩; rw [HT.out])
        | (go_at_call 21; refine (used_any _ _ _ _ _ HC.out).mono ?_; rintro e w3 ⟨rfl, rfl⟩; rw [HU.out]))
      go_ret
      exact ⟨rfl, HB2.out⟩
    · have hin : ¬ inR n token := fun h => hg (by intro x hx; rw [List.mem_singleton.1 hx]; exact h)
      have HB2 := Lib.hid (bel_trans hb2 (by have := HB1.out.size; simp; omega) hb3)
      clear hb2 hb3 hg
      by_cases t0 : token < 0
      · clear hin
        go_wp2_with (fail)
        go_ret
        exact ⟨rfl, HB2.out⟩
      · have t1 : (n : Int) ≤ token := by
          unfold inR at hin
          omega
        clear hin
        go_wp2_with (fail)
        go_ret
        exact ⟨rfl, HB2.out⟩
end Go.Proofs.Ythncomijfpbeeaa.Hist
