/- A reader is at its end, if fewer than eight bits are left, and all are 0: the walk of the law. -/
import Derived.Test.YthncomijfpbeeaaBitsAlive
namespace Go.Proofs.Ythncomijfpbeeaa.Bits
open Go.RowKit Go.Proofs.YthncomijfpbeeaaW.PrintWords Go.Proofs.YthncomijfpbeeaaW.PrintMore Go.Proofs.Ythncomijfpbeeaa.L Go.Proofs.Ythncomijfpbeeaa.BP

theorem last_bits : ∀ (c : Fin 256) (L : Fin 8), valN ((byteBits (c.val : Int)).drop (8 - L.val)) L.val = (c.val : Int) % 2 ^ L.val := by decide +kernel
theorem valN_take (l : List Int) : ∀ n, valN (l.take n) n = valN l n := by
  have key : ∀ m n, m ≤ n → valN (l.take n) m = valN l m := by
    intro m
    induction m with
    | zero => intro n _; rfl
    | succ m ih =>
      intro n h
      simp only [valN]
      rw [ih n (by omega)]
      congr 1
      rw [List.getD_eq_getElem?_getD, List.getD_eq_getElem?_getD, List.getElem?_take_of_lt (by omega)]
  exact fun n => key n n (Nat.le_refl _)
theorem unpack_last (l : List Int) (c : Int) : unpack (l ++ [c]) = unpack l ++ byteBits c := by simp [unpack]
theorem rem_last (s : ByteArray) (n L : Nat) (hL : 8 * s.size - n = L) (h1 : 0 < L) (h2 : L < 8) (hsz : s.size - 1 < s.size) :
    valN (rem s n) L = ((s[s.size - 1]'hsz).toNat : Int) % 2 ^ L := by
  have hl : (bytesOf s) = (bytesOf s).take (s.size - 1) ++ [((s[s.size - 1]'hsz).toNat : Int)] := by
    have h := List.take_append_drop (s.size - 1) (bytesOf s)
    have hb : s.size - 1 < (bytesOf s).length := by rw [bytesOf_length]; omega
    rw [List.drop_eq_getElem_cons hb, List.drop_of_length_le (by rw [bytesOf_length]; omega)] at h
    have e : (bytesOf s)[s.size - 1] = ((s[s.size - 1]'hsz).toNat : Int) := by
      simp only [bytesOf, List.getElem_map]
      rfl
    rw [e] at h
    exact h.symm
  have hr : rem s n = (byteBits ((s[s.size - 1]'hsz).toNat : Int)).drop (8 - L) := by
    unfold rem
    rw [hl, unpack_last, List.drop_append, List.drop_of_length_le (by rw [unpack_length, List.length_take, bytesOf_length]; omega), List.nil_append]
    congr 1
    rw [unpack_length, List.length_take, bytesOf_length]
    omega
  rw [hr]
  exact last_bits ⟨(s[s.size - 1]'hsz).toNat, UInt8.toNat_lt _⟩ ⟨L, by omega⟩

theorem and_mask (c L : Nat) (hc : c < 256) (hL : L < 8) : bits BinOp.and IntKind.i64 (wrap64 (c : Int)) (wrap64 (wrap64 (2 ^ L) - 1)) = (c : Int) % 2 ^ L := by
  have hp : (2 : Int) ^ L ≤ 128 ∧ 0 < (2 : Int) ^ L := by
    have := Nat.pow_le_pow_right (n := 2) (by decide) (show L ≤ 7 by omega)
    exact ⟨by exact_mod_cast this, Int.pow_pos (by omega)⟩
  have e1 : wrap64 (c : Int) = c := by unfold wrap64; omega
  have e2 : wrap64 (wrap64 ((2 : Int) ^ L) - 1) = 2 ^ L - 1 := by
    generalize (2 : Int) ^ L = q at *
    unfold wrap64; omega
  rw [e1, e2]
  have h62 : (L : Nat) ≤ 62 := by omega
  exact bits_mask .i64 62 (by decide) i64_small L h62 c (by omega) (by omega)

set_option maxHeartbeats 1000000 in
theorem BitsRest_walk (s : ByteArray) (n : Int) (w : World) (hs : s.size ≤ 140737488351232) (hn : (Lit.int .i64 n).wf = true) :
    Calls Try.prog 9 #[.string s, .int .i64 n] w fun e w' => e = .returned (.bool true) ∧ Below w.heap.size w w' := by
  by_cases hin : s.size ≤ 60 ∧ 0 ≤ n ∧ n ≤ 8 * (s.size : Int)
  · obtain ⟨h60, h0, h8⟩ := hin
    obtain ⟨m, rfl⟩ := Int.eq_ofNat_of_zero_le h0
    obtain ⟨L, hL⟩ : ∃ L, 8 * s.size - m = L := ⟨_, rfl⟩
    go_enter Try.func9, Try.ntmps9
    go_wp2_with (fail)
    refine (alive_any _).mono ?_
    rintro e w1 ⟨rfl, hb1⟩
    have HB1 := Lib.hid hb1
    clear hb1
    go_wp2_with (fail)
    refine (newReader _ _ (by omega)).mono ?_
    rintro e w2 ⟨rfl, hw2⟩
    have hR := rr_new s w1 (by omega)
    rw [← hw2] at hR
    have HR := Lib.hid hR
    have HB := Lib.hid (show Below w.heap.size w w2 by rw [hw2]; exact HB1.out.alloc HB1.out.size _)
    have HSZ := Lib.hid HB1.out.size
    have HL := Lib.hid hL
    clear hR hw2 HB1 hL
    go_wp2_with (fail)
    refine (skip_ok _ _ _ _ _ HR.out (by omega) (by omega)).mono ?_
    rintro e w3 ⟨rfl, hR3, hC3⟩
    rw [Nat.zero_add, Int.toNat_natCast] at hR3
    have HR3 := Lib.hid hR3
    have HB3 := Lib.hid (HB.out.trans (hC3.below (B := w.heap.size) HB.out.size (fun q hq => by have := HSZ.out; omega)))
    clear HR HB hR3 hC3
    go_wp2_with (fail)
    refine (left_any _ _ _ _ HR3.out).mono ?_
    rintro e w4 ⟨rfl, q, rfl⟩
    rw [HL.out]
    have hne : ((L : Int) != 8 * (s.size : Int) - m) = false := by have := HL.out; simp; omega
    go_wp2_with (fail)
    refine (left_any _ _ _ _ (HR3.out.drewN q)).mono ?_
    rintro e w4 ⟨rfl, q2, hw4⟩
    rw [World.drewN_drewN] at hw4
    rw [HL.out]
    subst hw4
    have hLb : L ≤ 480 := by have := HL.out; omega
    have hrl : (rem s m).length = L := by rw [rem_length]; exact HL.out
    by_cases h8 : L < 8
    · by_cases hp : 0 < L
      · have hsz : s.size - 1 < s.size := by have := HL.out; omega
        have hx := rem_last s m L HL.out hp h8 hsz
        obtain ⟨c, hc⟩ : ∃ c : Nat, (s[s.size - 1]'hsz).toNat = c := ⟨_, rfl⟩
        have hc8 : c < 256 := by rw [← hc]; exact UInt8.toNat_lt _
        rw [hc] at hx
        have hval : isRest (rem s m) = ((c : Int) % 2 ^ L == 0) := by
          have := valN_zero (rem s m) (rem_bits s m)
          unfold isRest
          rw [← this, hrl, hx, decide_eq_true h8, Bool.true_and]
        have HV := Lib.hid hval
        have HC := Lib.hid hc
        clear hval hx hrl hc
        have i0 : (0 : Int) ≤ (s.size : Int) - 1 := by omega
        have i1 : (s.size : Int) - 1 < (s.size : Int) := by omega
        go_wp2_with (go_at_call 32; refine (left_any _ _ _ _ (by exact HR3.out)).mono ?_; rintro e w4 ⟨rfl, q3, hw4⟩; rw [World.drewN_drewN] at hw4; rw [HL.out]; subst hw4)
        have s1 : IntKind.i64.wrap ((s.size : Int) - 1) = (s.size : Int) - 1 := by rw [IntKind.wrap_i64]; omega
        have i3 : (1 : Int) ≤ (s.size : Int) := by omega
        have s2 : ((s.size : Int) - 1).toNat = s.size - 1 := by omega
        have s3 : IntKind.u64.wrap (L : Int) = L := by simp [IntKind.wrap, IntKind.bits, IntKind.signed]; omega
        go_quiet ((go_at_call 32; exact quiet2 (left_eq _ _ _ _ _ (by exact HR3.out) HL.out)))
        go_wp2_with (go_at_call 33; refine (rest_any _ _ _ _ (by exact HR3.out)).mono ?_; rintro e w4 ⟨rfl, q4, hw4⟩; rw [World.drewN_drewN] at hw4; rw [HV.out]; subst hw4)
        go_ret
        refine ⟨?_, below_drewN HB3.out _⟩
        show Ending.returned (.bool (((c : Int) % 2 ^ L == 0) == (bits BinOp.and IntKind.i64 (wrap64 ((s[s.size - 1]'hsz).toNat : Int)) (wrap64 (wrap64 (2 ^ L) - 1)) == 0))) = _
        rw [HC.out, and_mask c L hc8 h8]
        simp
      · have hv : isRest (rem s m) = true := by
          have : rem s m = [] := List.eq_nil_of_length_eq_zero (by omega)
          rw [this]; rfl
        have HV := Lib.hid hv
        clear hrl hv
        go_wp2_with (first | (go_at_call 32; refine (left_eq _ _ _ _ _ (by exact HR3.out) HL.out).mono ?_; rintro e w4 ⟨rfl, q3, hw4⟩; rw [World.drewN_drewN] at hw4; subst hw4) | (go_at_call 33; refine (rest_any _ _ _ _ (by exact HR3.out)).mono ?_; rintro e w4 ⟨rfl, q4, hw4⟩; rw [World.drewN_drewN] at hw4; rw [HV.out]; subst hw4))
        go_ret
        exact ⟨rfl, below_drewN HB3.out _⟩
    · have hv : isRest (rem s m) = false := by
        unfold isRest
        rw [hrl, decide_eq_false h8, Bool.false_and]
      have HV := Lib.hid hv
      clear hrl hv
      go_wp2_with (first | (go_at_call 32; refine (left_eq _ _ _ _ _ (by exact HR3.out) HL.out).mono ?_; rintro e w4 ⟨rfl, q3, hw4⟩; rw [World.drewN_drewN] at hw4; subst hw4) | (go_at_call 33; refine (rest_any _ _ _ _ (by exact HR3.out)).mono ?_; rintro e w4 ⟨rfl, q4, hw4⟩; rw [World.drewN_drewN] at hw4; rw [HV.out]; subst hw4))
      go_ret
      exact ⟨rfl, below_drewN HB3.out _⟩
  · go_enter Try.func9, Try.ntmps9
    go_wp2_with (go_at_call 23; refine (alive_any _).mono ?_; rintro e w' ⟨rfl, hb⟩)
    all_goals first | (exfalso; omega) | (go_ret; exact ⟨rfl, hb⟩)
end Go.Proofs.Ythncomijfpbeeaa.Bits
