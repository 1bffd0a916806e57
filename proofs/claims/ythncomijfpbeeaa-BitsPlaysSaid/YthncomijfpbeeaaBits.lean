/- What the functions of package bits do: contracts. -/
import Derived.Test.YthncomijfpbeeaaProg
import Derived.Test.YthncomijfpbeeaaLib
import Derived.Test.YthncomijfpbeeaaBitsPure
import Derived.Test.YthncomijfpbeeaaWFour
import Derived.Deep.DeepFit
import Derived.Outline
import Derived.BigRegion
namespace Go.Proofs.Ythncomijfpbeeaa.Bits
set_option linter.unusedVariables false
set_option linter.unusedSimpArgs false
open Go.RowKit Go.Proofs.YthncomijfpbeeaaW.PrintWords Go.Proofs.YthncomijfpbeeaaW.PrintMore Go.Proofs.Ythncomijfpbeeaa.L Go.Proofs.Ythncomijfpbeeaa.BP

theorem infoU8 : (Try.prog.info? 5).map (fun i => (i.zero, i.size, i.bytes)) = some (some (.int .u8 0), 1, 1) := by kernel_rfl
/-- A writer in block b: v are its bytes, bs its bits. -/
def WR (w : World) (b base : Nat) (v : Value) (bs : List Int) : Prop :=
  w.heap[b]? = some (.cells #[v, .int .i64 bs.length] 47 (0, 0)) ∧ Kd.R (Kd.int .u8) 5 w base (fun _ => True) v (pack bs) ∧ Bits bs
/-- A reader in block b: at bit n of s. -/
def RR (w : World) (b : Nat) (s : ByteArray) (n : Nat) : Prop :=
  w.heap[b]? = some (.cells #[.string s, .int .i64 n] 76 (0, 0)) ∧ n ≤ 8 * s.size ∧ s.size ≤ 1000000000

theorem RR.drewN {w : World} {b : Nat} {s : ByteArray} {n : Nat} (h : RR w b s n) (q : Nat) : RR (w.drewN q) b s n := h

/-! ### NewReader -/
set_option maxHeartbeats 400000 in
theorem newReader (s : ByteArray) (w : World) (_hs : s.size ≤ 1000000000) :
    Calls Try.prog 24 #[.string s] w fun e w' => e = .returned (.pointer (some ⟨w.heap.size, 0, none⟩)) ∧ w' = w.alloc (.cells #[.string s, .int .i64 0] 76 (0, 0)) := by
  go_enter Try.func24, Try.ntmps24
  go_wp2
  go_ret
  exact ⟨rfl, rfl⟩
theorem rr_new (s : ByteArray) (w : World) (hs : s.size ≤ 1000000000) : RR (w.alloc (.cells #[.string s, .int .i64 0] 76 (0, 0))) w.heap.size s 0 :=
  ⟨heap_alloc_self _ _, Nat.zero_le _, hs⟩

/-! ### (*Reader).Left -/
set_option maxHeartbeats 400000 in
theorem left_nil (w : World) :
    Calls Try.prog 32 #[.pointer none] w fun e w' => e = .returned (.int .i64 0) ∧ w' = w := by
  go_enter Try.func32, Try.ntmps32
  go_wp2
  go_ret
  exact ⟨rfl, rfl⟩
set_option maxHeartbeats 400000 in
theorem left_any (b n : Nat) (s : ByteArray) (w : World) (h : RR w b s n) :
    Calls Try.prog 32 #[.pointer (some ⟨b, 0, none⟩)] w fun e w' => e = .returned (.int .i64 ((8 * s.size - n : Nat) : Int)) ∧ ∃ k, w' = w.drewN k := by
  obtain ⟨hb, hn, hs⟩ := h
  obtain ⟨c0, c1, _, _⟩ := two_cells hb
  have hn' : (n : Int) ≤ 8 * (s.size : Int) := by omega
  clear hb
  go_enter Try.func32, Try.ntmps32
  go_wp2
  go_quiet (fail)
  go_wp2
  go_ret
  refine ⟨?_, _, rfl⟩
  show Ending.returned (.int .i64 (8 * (s.size : Int) - n)) = _
  congr 2
  omega

/-! ### (*Reader).Peek -/
set_option maxHeartbeats 400000 in
theorem peek_off (p : Option Addr) (n : Int) (w : World) (h : n < 0 ∨ 32 < n) :
    Calls Try.prog 27 #[.pointer p, .int .i64 n] w fun e w' => e = .returned (.int .i64 0) ∧ w' = w := by
  rcases h with h | h
  · go_enter Try.func27, Try.ntmps27
    go_wp2
    go_ret
    exact ⟨rfl, rfl⟩
  · have h0 : ¬ n < 0 := by omega
    go_enter Try.func27, Try.ntmps27
    go_wp2
    go_ret
    exact ⟨rfl, rfl⟩
/-- What is left of a reader's bits. -/
def rem (s : ByteArray) (at_ : Nat) : List Int := (unpack (bytesOf s)).drop at_
theorem rem_bits (s : ByteArray) (a : Nat) : Bits (rem s a) := (unpack_bits _).drop a
theorem rem_length (s : ByteArray) (a : Nat) : (rem s a).length = 8 * s.size - a := by
  unfold rem; rw [List.length_drop, unpack_length, bytesOf_length]
theorem rem_getD (s : ByteArray) (a k : Nat) : (rem s a).getD k 0 = bt s (((a + k) / 8 : Nat) : Int) / 2 ^ (7 - (a + k) % 8) % 2 := by
  unfold rem
  rw [List.getD_eq_getElem?_getD, List.getElem?_drop, ← List.getD_eq_getElem?_getD]
  have e : a + k = 8 * ((a + k) / 8) + (a + k) % 8 := by omega
  conv => lhs; rw [e]
  rw [unpack_getD _ _ _ (by omega)]
  congr 2
  rw [← rd_bytesOf]
  rfl
set_option maxHeartbeats 800000 in
theorem peek_any (b at_ : Nat) (s : ByteArray) (n : Int) (w : World) (h : RR w b s at_) (h0 : 0 ≤ n) (h1 : n ≤ 32) :
    Calls Try.prog 27 #[.pointer (some ⟨b, 0, none⟩), .int .i64 n] w fun e w' => e = .returned (.int .i64 (valN (rem s at_) n.toNat)) ∧ ∃ k, w' = w.drewN k := by
  have HR := Aside0.mk h
  clear h
  obtain ⟨N, rfl⟩ := Int.eq_ofNat_of_zero_le h0
  rw [Int.toNat_natCast]
  go_enter Try.func27, Try.ntmps27
  go_wp2
  go_loopg [5, 15] N (fun j v i wr => ∃ k : Nat, k + j = N ∧ i = .int .i64 k ∧ v = .int .i64 (valN (rem s at_) k) ∧ ∃ q, wr = w.drewN q)
  case atStart => exact ⟨0, by omega, rfl, rfl, 0, rfl⟩
  case round =>
    obtain ⟨k, hk, rfl, rfl, q, rfl⟩ := hrel
    have hv := valN_range (rem_bits s at_) k
    cases gk with
    | zero =>
      obtain rfl : k = N := by omega
      go_wp2
      go_ret
      exact ⟨rfl, q, rfl⟩
    | succ gk =>
      have hv2 : valN (rem s at_) k < 4294967296 := by
        have : (2 : Int) ^ k ≤ 2 ^ 32 := by
          have := Nat.pow_le_pow_right (n := 2) (by decide) (show k ≤ 32 by omega)
          exact_mod_cast this
        omega
      obtain ⟨hv1, _⟩ := hv
      have HK := Aside0.mk hk
      have hkN : k < N := by omega
      clear hk
      obtain ⟨hb, hat, hsz⟩ := HR.out
      obtain ⟨c0, c1, _, _⟩ := two_cells hb
      clear hb
      by_cases hlt : k < 8 * s.size - at_
      · have i0 : (0 : Int) ≤ ((at_ : Int) + k) / 8 := by omega
        have i1 : ((at_ : Int) + k) / 8 < (s.size : Int) := by omega
        have i2 : (0 : Int) ≤ 7 - ((at_ : Int) + k) % 8 := by omega
        go_wp2_with (go_at_call 32; refine (left_any b at_ s _ (HR.out.drewN q)).mono ?_; rintro e w' ⟨rfl, q2, hw2⟩; rw [World.drewN_drewN] at hw2; subst hw2)
        go_roundg gk
        case measure => omega
        case rel =>
          refine ⟨k + 1, by have := HK.out; omega, by go_num, ?_, _, rfl⟩
          rw [peek_bit _ _ _ hv1 hv2 (UInt8.toNat_lt _)]
          rw [show valN (rem s at_) (k + 1) = valN (rem s at_) k * 2 + (rem s at_).getD k 0 from rfl, rem_getD]
          congr 3
          rw [← bt_at s _ (by rw [Int.toNat_natCast]; omega)]
          rfl
      · go_wp2_with (go_at_call 32; refine (left_any b at_ s _ (HR.out.drewN q)).mono ?_; rintro e w' ⟨rfl, q2, hw2⟩; rw [World.drewN_drewN] at hw2; subst hw2)
        go_roundg gk
        case measure => omega
        case rel =>
          refine ⟨k + 1, by have := HK.out; omega, by go_num, ?_, _, rfl⟩
          rw [show valN (rem s at_) (k + 1) = valN (rem s at_) k * 2 + (rem s at_).getD k 0 from rfl, getD_past _ _ (by rw [rem_length]; omega), Int.add_zero]

/-! ### (*Reader).Skip -/
set_option maxHeartbeats 400000 in
theorem skip_nil (n : Int) (w : World) :
    Calls Try.prog 28 #[.pointer none, .int .i64 n] w fun e w' => e = .returned (.bool false) ∧ w' = w := by
  go_enter Try.func28, Try.ntmps28
  go_wp2
  go_ret
  exact ⟨rfl, rfl⟩
set_option maxHeartbeats 400000 in
theorem skip_no (b at_ : Nat) (s : ByteArray) (n : Int) (w : World) (h : RR w b s at_) (hn : n < 0 ∨ ((8 * s.size - at_ : Nat) : Int) < n) :
    Calls Try.prog 28 #[.pointer (some ⟨b, 0, none⟩), .int .i64 n] w fun e w' => e = .returned (.bool false) ∧ ∃ q, w' = w.drewN q := by
  rcases hn with hn | hn
  · go_enter Try.func28, Try.ntmps28
    go_wp2
    go_ret
    exact ⟨rfl, 0, rfl⟩
  · have h0 : ¬ n < 0 := by omega
    go_enter Try.func28, Try.ntmps28
    go_wp2_with (go_at_call 32; refine (left_any b at_ s _ h).mono ?_; rintro e w' ⟨rfl, q2, rfl⟩)
    go_ret
    exact ⟨rfl, _, rfl⟩
set_option maxHeartbeats 400000 in
theorem skip_yes (b at_ : Nat) (s : ByteArray) (n : Nat) (w : World) (h : RR w b s at_) (hn : n ≤ 8 * s.size - at_) :
    Calls Try.prog 28 #[.pointer (some ⟨b, 0, none⟩), .int .i64 n] w fun e w' => e = .returned (.bool true) ∧ RR w' b s (at_ + n) ∧ Chg (fun k => k = b) w w' := by
  have h0 : ¬ ((n : Int) < 0) := by omega
  have h1 : ¬ (((8 * s.size - at_ : Nat) : Int) < (n : Int)) := by omega
  have HR := Aside0.mk h
  obtain ⟨hb, hat, hsz⟩ := h
  obtain ⟨c0, c1, _, f1⟩ := two_cells hb
  have HB := Aside0.mk hb
  clear hb
  go_enter Try.func28, Try.ntmps28
  go_wp2_with (go_at_call 32; refine (left_any b at_ s _ HR.out).mono ?_; rintro e w' ⟨rfl, q2, rfl⟩)
  go_ret
  refine ⟨rfl, ⟨?_, by omega, hsz⟩, ((Chg.refl (fun k => k = b) w).drewN q2).setCell (p := ⟨b, 1, none⟩) (fun _ => rfl) _⟩
  rw [show ((at_ + n : Nat) : Int) = (at_ : Int) + n from by omega]
  exact two_set1 (w := w.drewN q2) HB.out (.int .i64 ((at_ : Int) + n))

/-! ### (*Reader).Get -/
set_option maxHeartbeats 400000 in
theorem get_many (p : Option Addr) (n : Int) (w : World) (h : 32 < n) :
    Calls Try.prog 26 #[.pointer p, .int .i64 n] w fun e w' => e = .returned (.tuple #[.int .i64 0, .bool false]) ∧ w' = w := by
  go_enter Try.func26, Try.ntmps26
  go_wp2
  go_ret2
  exact ⟨rfl, rfl⟩
set_option maxHeartbeats 400000 in
theorem get_no (b at_ : Nat) (s : ByteArray) (n : Int) (w : World) (h : RR w b s at_) (hm : n ≤ 32) (hn : n < 0 ∨ ((8 * s.size - at_ : Nat) : Int) < n) :
    Calls Try.prog 26 #[.pointer (some ⟨b, 0, none⟩), .int .i64 n] w fun e w' => e = .returned (.tuple #[.int .i64 0, .bool false]) ∧ ∃ q, w' = w.drewN q := by
  have hp : Calls Try.prog 27 #[.pointer (some ⟨b, 0, none⟩), .int .i64 n] w fun e w' => (∃ v, e = .returned (.int .i64 v)) ∧ ∃ q, w' = w.drewN q := by
    by_cases h0 : n < 0
    · exact (peek_off _ n w (.inl h0)).mono fun e w' ⟨he, hw⟩ => ⟨⟨_, he⟩, 0, hw⟩
    · exact (peek_any b at_ s n w h (by omega) hm).mono fun e w' ⟨he, hw⟩ => ⟨⟨_, he⟩, hw⟩
  have HP := Lib.hid hp
  have HN := Lib.hid hn
  clear hp hn
  go_enter Try.func26, Try.ntmps26
  go_wp2_with (first | (go_at_call 27; refine HP.out.mono ?_; rintro e w' ⟨⟨v, rfl⟩, q, rfl⟩) | (go_at_call 28; refine (skip_no b at_ s n _ (h.drewN q) HN.out).mono ?_; rintro e w' ⟨rfl, q2, rfl⟩))
  go_ret2
  exact ⟨rfl, _, rfl⟩
set_option maxHeartbeats 400000 in
theorem get_yes (b at_ : Nat) (s : ByteArray) (n : Nat) (w : World) (h : RR w b s at_) (hm : n ≤ 32) (hn : n ≤ 8 * s.size - at_) :
    Calls Try.prog 26 #[.pointer (some ⟨b, 0, none⟩), .int .i64 n] w fun e w' => e = .returned (.tuple #[.int .i64 (valN (rem s at_) n), .bool true]) ∧ RR w' b s (at_ + n) ∧ Chg (fun k => k = b) w w' := by
  have h0 : (0 : Int) ≤ n := by omega
  have h1 : (n : Int) ≤ 32 := by omega
  go_enter Try.func26, Try.ntmps26
  go_wp2_with (first | (go_at_call 27; refine (peek_any b at_ s n _ h h0 h1).mono ?_; rintro e w' ⟨rfl, q, rfl⟩) | (go_at_call 28; refine (skip_yes b at_ s n _ (h.drewN q) hn).mono ?_; rintro e w' ⟨rfl, hr, hc⟩))
  go_ret2
  exact ⟨rfl, hr, (Chg.drewN (Chg.refl _ w) q).trans hc⟩
set_option maxHeartbeats 400000 in
theorem peek_nil (n : Int) (w : World) (h0 : 0 ≤ n) (h1 : n ≤ 32) :
    Calls Try.prog 27 #[.pointer none, .int .i64 n] w fun e w' => e = .returned (.int .i64 0) ∧ w' = w := by
  obtain ⟨N, rfl⟩ := Int.eq_ofNat_of_zero_le h0
  go_enter Try.func27, Try.ntmps27
  go_wp2
  go_loopg [5, 15] N (fun j v i wr => ∃ k : Nat, k + j = N ∧ i = .int .i64 k ∧ v = .int .i64 0 ∧ wr = w)
  case atStart => exact ⟨0, by omega, rfl, rfl, rfl⟩
  case round =>
    obtain ⟨k, hk, rfl, rfl, rfl⟩ := hrel
    cases gk with
    | zero =>
      obtain rfl : k = N := by omega
      go_wp2
      go_ret
      exact ⟨rfl, rfl⟩
    | succ gk =>
      have HK := Aside0.mk hk
      have hkN : k < N := by omega
      have hk0 : ¬ ((k : Int) < 0) := by omega
      clear hk
      go_wp2_with (go_at_call 32; refine (left_nil _).mono ?_; rintro e w' ⟨rfl, rfl⟩)
      go_roundg gk
      case measure => omega
      case rel => exact ⟨k + 1, by have := HK.out; omega, by go_num, rfl, rfl⟩
set_option maxHeartbeats 400000 in
theorem get_nil (n : Int) (w : World) (h0 : 0 ≤ n) (h1 : n ≤ 32) :
    Calls Try.prog 26 #[.pointer none, .int .i64 n] w fun e w' => e = .returned (.tuple #[.int .i64 0, .bool false]) ∧ w' = w := by
  go_enter Try.func26, Try.ntmps26
  go_wp2_with (first | (go_at_call 27; refine (peek_nil n _ h0 h1).mono ?_; rintro e w' ⟨rfl, rfl⟩) | (go_at_call 28; refine (skip_nil n _).mono ?_; rintro e w' ⟨rfl, rfl⟩))
  go_ret2
  exact ⟨rfl, rfl⟩

/-! ### (*Reader).Rest -/
def isRest (l : List Int) : Bool := decide (l.length < 8) && l.all (· == 0)
theorem valN_zero : ∀ (l : List Int), Bits l → ((valN l l.length == 0) = l.all (· == 0)) := by
  intro l
  have key : ∀ (m : Nat) (l : List Int), Bits l → m ≤ l.length → ((valN l m == 0) = (l.take m).all (· == 0)) := by
    intro m
    induction m with
    | zero => intro l _ _; simp [valN]
    | succ m ih =>
      intro l hl hm
      have h1 := valN_range hl m
      have h2 := bits_getD hl m
      have ht : l.take (m + 1) = l.take m ++ [l.getD m 0] := by
        rw [List.take_succ_eq_append_getElem (by omega)]
        simp [List.getD_eq_getElem?_getD, List.getElem?_eq_getElem (show m < l.length by omega)]
      rw [ht, List.all_append, ← ih l hl (by omega)]
      simp only [valN, List.all_cons, List.all_nil, Bool.and_true]
      rw [Bool.eq_iff_iff]
      simp only [Bool.and_eq_true, beq_iff_eq]
      omega
  intro hl
  have := key l.length l hl (Nat.le_refl _)
  rwa [List.take_length] at this
set_option maxHeartbeats 400000 in
theorem rest_nil (w : World) :
    Calls Try.prog 33 #[.pointer none] w fun e w' => e = .returned (.bool false) ∧ w' = w := by
  go_enter Try.func33, Try.ntmps33
  go_wp2
  go_ret
  exact ⟨rfl, rfl⟩
set_option maxHeartbeats 800000 in
theorem rest_any (b at_ : Nat) (s : ByteArray) (w : World) (h : RR w b s at_) :
    Calls Try.prog 33 #[.pointer (some ⟨b, 0, none⟩)] w fun e w' => e = .returned (.bool (isRest (rem s at_))) ∧ ∃ q, w' = w.drewN q := by
  by_cases hlt : 8 * s.size - at_ < 8
  · have hd : decide (8 * s.size - at_ < 8) = true := decide_eq_true hlt
    obtain ⟨L, hL⟩ : ∃ L, 8 * s.size - at_ = L := ⟨_, rfl⟩
    have HL := Lib.hid hL
    have hf : (valN (rem s at_) (8 * s.size - at_) == 0) = isRest (rem s at_) := by
      have := valN_zero (rem s at_) (rem_bits s at_)
      rw [rem_length] at this
      rw [this]
      unfold isRest
      rw [rem_length, hd, Bool.true_and]
    have HF := Lib.hid hf
    clear hf hL
    go_enter Try.func33, Try.ntmps33
    go_wp2_with (first | (go_at_call 32; refine (left_any b at_ s _ (by exact h)).mono ?_; rintro e w' ⟨rfl, q2, hw2⟩; (try rw [World.drewN_drewN] at hw2); subst hw2) | (go_at_call 27; refine (peek_any b at_ s _ _ (by exact h) (by omega) (by omega)).mono ?_; rintro e w' ⟨rfl, q2, hw2⟩; (try rw [World.drewN_drewN] at hw2); subst hw2))
    go_ret
    refine ⟨?_, _, rfl⟩
    rw [← HF.out]
    rfl
  · have hd : decide (8 * s.size - at_ < 8) = false := decide_eq_false hlt
    have hf : isRest (rem s at_) = false := by
      unfold isRest
      rw [rem_length, hd, Bool.false_and]
    have HF := Lib.hid hf
    clear hf
    go_enter Try.func33, Try.ntmps33
    go_wp2_with (go_at_call 32; refine (left_any b at_ s _ (by exact h)).mono ?_; rintro e w' ⟨rfl, q2, hw2⟩; (try rw [World.drewN_drewN] at hw2); subst hw2)
    go_ret
    refine ⟨?_, _, rfl⟩
    rw [HF.out]
    rfl

/-! ### (*Writer).Len, Bytes, Put -/
set_option maxHeartbeats 400000 in
theorem wlen_nil (w : World) :
    Calls Try.prog 29 #[.pointer none] w fun e w' => e = .returned (.int .i64 0) ∧ w' = w := by
  go_enter Try.func29, Try.ntmps29
  go_wp2
  go_ret
  exact ⟨rfl, rfl⟩
set_option maxHeartbeats 400000 in
theorem wlen_any (b base : Nat) (v : Value) (bs : List Int) (w : World) (h : WR w b base v bs) :
    Calls Try.prog 29 #[.pointer (some ⟨b, 0, none⟩)] w fun e w' => e = .returned (.int .i64 bs.length) ∧ w' = w := by
  obtain ⟨hb, _, _⟩ := h
  obtain ⟨_, c1, _, _⟩ := two_cells hb
  clear hb
  go_enter Try.func29, Try.ntmps29
  go_wp2
  go_ret
  exact ⟨rfl, rfl⟩
set_option maxHeartbeats 400000 in
theorem bytes_nil (w : World) :
    Calls Try.prog 30 #[.pointer none] w fun e w' => e = .returned (.string ⟨#[]⟩) ∧ w' = w := by
  go_enter Try.func30, Try.ntmps30
  go_wp2
  go_ret
  exact ⟨rfl, rfl⟩
set_option maxHeartbeats 400000 in
theorem bytes_any (b base : Nat) (v : Value) (bs : List Int) (w : World) (h : WR w b base v bs) :
    Calls Try.prog 30 #[.pointer (some ⟨b, 0, none⟩)] w fun e w' => e = .returned (.string (strOfNums (pack bs))) ∧ w' = w := by
  obtain ⟨hb, hr, _⟩ := h
  obtain ⟨c0, _, _, _⟩ := two_cells hb
  have hcv := own_string (P := Try.prog) Try.underlying45 Try.underlying5 Try.underlying9 (Kd.own_of_R hr)
  obtain ⟨A, c, rfl⟩ := Kd.R_slice hr
  clear hb hr
  go_enter Try.func30, Try.ntmps30
  go_wp2
  go_ret
  exact ⟨rfl, rfl⟩
set_option maxHeartbeats 400000 in
theorem put_nil (v n : Int) (w : World) :
    Calls Try.prog 25 #[.pointer none, .int .i64 v, .int .i64 n] w fun e w' => e = .returned (.bool false) ∧ w' = w := by
  go_enter Try.func25, Try.ntmps25
  go_wp2
  go_ret
  exact ⟨rfl, rfl⟩
/-- What may be put: n bits, a number of so many. -/
def mayPut (v n : Int) : Bool := decide (0 ≤ n ∧ n ≤ 32 ∧ 0 ≤ v ∧ v < 2 ^ n.toNat)
theorem pow_small {n : Int} (h1 : n ≤ 32) : wrap64 (2 ^ n.toNat) = 2 ^ n.toNat ∧ (2 : Int) ^ n.toNat ≤ 4294967296 := by
  have : (2 : Int) ^ n.toNat ≤ 2 ^ 32 := by
    have := Nat.pow_le_pow_right (n := 2) (by decide) (show n.toNat ≤ 32 by omega)
    exact_mod_cast this
  have h0 : (0 : Int) < 2 ^ n.toNat := Int.pow_pos (by omega)
  generalize (2 : Int) ^ n.toNat = q at *
  constructor
  · unfold wrap64; omega
  · omega
set_option maxHeartbeats 400000 in
theorem put_no (p : Addr) (v n : Int) (w : World) (h : mayPut v n = false) :
    Calls Try.prog 25 #[.pointer (some p), .int .i64 v, .int .i64 n] w fun e w' => e = .returned (.bool false) ∧ w' = w := by
  simp only [mayPut, decide_eq_false_iff_not] at h
  by_cases h0 : n < 0
  · clear h
    go_enter Try.func25, Try.ntmps25
    go_wp2
    go_ret
    exact ⟨rfl, rfl⟩
  · by_cases h1 : 32 < n
    · clear h
      go_enter Try.func25, Try.ntmps25
      go_wp2
      go_ret
      exact ⟨rfl, rfl⟩
    · by_cases h2 : v < 0
      · clear h
        go_enter Try.func25, Try.ntmps25
        go_wp2
        go_ret
        exact ⟨rfl, rfl⟩
      · have hp := pow_small (n := n) (by omega)
        have h3 : decide (wrap64 (2 ^ n.toNat) ≤ v) = true := by
          rw [hp.1]; exact decide_eq_true (by omega)
        clear h hp
        go_enter Try.func25, Try.ntmps25
        go_wp2
        go_ret
        exact ⟨rfl, rfl⟩
set_option maxHeartbeats 1600000 in
theorem put_yes (b base : Nat) (v0 : Value) (bs : List Int) (v m : Int) (w : World) (h : WR w b base v0 bs) (hp : mayPut v m = true) (hbase : base ≤ w.heap.size) (hlen : bs.length ≤ 1000000000) :
    Calls Try.prog 25 #[.pointer (some ⟨b, 0, none⟩), .int .i64 v, .int .i64 m] w fun e w' => e = .returned (.bool true) ∧
      ∃ v1, WR w' b base v1 (bs ++ bitsV m.toNat v) ∧ Chg (fun k => k = b ∨ some k = v0.ownBlock) w w' ∧ (v1.ownBlock = v0.ownBlock ∨ ∃ k, v1.ownBlock = some k ∧ w.heap.size ≤ k) := by
  simp only [mayPut, decide_eq_true_eq] at hp
  obtain ⟨hm, hm2, hv, hv2⟩ := hp
  have hd : decide (wrap64 (2 ^ m.toNat) ≤ v) = false := by
    rw [(pow_small hm2).1]; exact decide_eq_false (by omega)
  have hvs : v < 4294967296 := by have := (pow_small hm2).2; omega
  have HW := Aside0.mk h
  have HL := Aside0.mk hlen
  have HBS := Aside0.mk hbase
  clear h hv2 hlen hbase
  go_enter Try.func25, Try.ntmps25
  go_wp2
  go_loopg [7] m.toNat (fun j i wr => i = .int .i64 ((j : Int) - 1) ∧ j ≤ m.toNat ∧ Aside0 (∃ v1, WR wr b base v1 (bs ++ (bitsV m.toNat v).take (m.toNat - j)) ∧ Chg (fun k => k = b ∨ some k = v0.ownBlock) w wr ∧ (v1.ownBlock = v0.ownBlock ∨ ∃ k, v1.ownBlock = some k ∧ w.heap.size ≤ k)))
  case atStart => exact ⟨by simp; omega, Nat.le_refl _, ⟨v0, by simpa using HW.out, Chg.refl _ _, .inl rfl⟩⟩
  case round =>
    obtain ⟨rfl, hj, HR⟩ := hrel
    clear HW
    obtain ⟨vv, ⟨hb, hr, hbit⟩, hch, hown⟩ := HR.out
    cases gk with
    | zero =>
      go_wp2
      go_ret
      refine ⟨rfl, vv, ?_, hch, hown⟩
      have e : (bitsV m.toNat v).take (m.toNat - 0) = bitsV m.toNat v := List.take_of_length_le (by rw [bitsV_length]; omega)
      rw [e] at hb hr hbit
      exact ⟨hb, hr, hbit⟩
    | succ gk =>
      obtain ⟨ys, hys⟩ : ∃ ys, bs ++ (bitsV m.toNat v).take (m.toNat - (gk + 1)) = ys := ⟨_, rfl⟩
      rw [hys] at hb hr hbit
      have LEN : Aside0 (ys.length ≤ 1000000032) := ⟨by
        have := HL.out
        rw [← hys, List.length_append]
        have := List.length_take_le (m.toNat - (gk + 1)) (bitsV m.toNat v)
        omega⟩
      have hnext : ys ++ [v / 2 ^ gk % 2] = bs ++ (bitsV m.toNat v).take (m.toNat - gk) := by
        have := bitsV_take m.toNat v (m.toNat - (gk + 1)) (by omega)
        rw [show m.toNat - gk = m.toNat - (gk + 1) + 1 from by omega, this, ← hys, List.append_assoc]
        rw [show m.toNat - 1 - (m.toNat - (gk + 1)) = gk from by omega]
      have HNX := Aside0.mk hnext
      have HB := Aside0.mk hb
      have HO := Aside0.mk hr
      have HBI := Aside0.mk hbit
      have HC := Aside0.mk hch
      have HOW := Aside0.mk hown
      have hlt := Aside0.mk (blk_lt hb)
      have hne : Aside0 (∀ k, vv.ownBlock = some k → k ≠ b) := ⟨fun k hk e => Kd.R_ne hr hb (by decide) (by rw [← e]; exact hk.symm)⟩
      obtain ⟨c0, c1, f0, f1⟩ := two_cells hb
      clear hb hr HR hbit hch hown hnext hys
      have eg : ((gk + 1 : Nat) : Int) - 1 = gk := by omega
      rw [eg]
      clear eg
      go_upto_if 39 with (fail)
      go_cut [] (fun wc => Aside0 (∃ v1, wc.heap[b]? = some (.cells #[v1, .int .i64 ys.length] 47 (0, 0)) ∧ Kd.R (Kd.int .u8) 5 wc base (fun _ => True) v1 (if ys.length % 8 = 0 then pack ys ++ [0] else pack ys) ∧ Chg (fun k => k = b ∨ some k = v0.ownBlock) w wc ∧ (v1.ownBlock = v0.ownBlock ∨ ∃ k, v1.ownBlock = some k ∧ w.heap.size ≤ k)))
      case first =>
        by_cases h8 : ys.length % 8 = 0
        · have h8b : ((ys.length : Int) % 8 == 0) = true := by simp; omega
          have h8i := Aside0.mk h8
          clear h8
          go_wp2_with (first | ((with_reducible refine gate_builtin (b := .append) (xs := #[.tmp 44, .tmp 45]) rfl ?_); at_builtin; refine Kd.R_append (Kd.int .u8) (w0 := wr) base rfl (.tmp 44) (.tmp 45) 45 5 (.int .u8 0) 1 rfl Try.underlying45 infoU8 rfl (by decide) (by omega) vv (pack ys) 0 [.int .u8 0] (fun _ => True) (fun _ => False) rfl rfl ?aP (fun _ hk => hk.elim) ?aF ?aO ?aB ?aS ?aL ?_; (case aP => exact rfl); (case aF => exact (fun _ _ => trivial)); (case aO => exact HO.out); (case aB => exact Below.refl _ _); (case aS => exact Nat.le_trans HBS.out HC.out.size); (case aL => rw [pack_length]; have := LEN.out; omega); intro v1 w1 ho hb1 hg hat; obtain ⟨A1, k1, rfl⟩ := Kd.R_slice ho; have HO1 := Aside0.mk ho; have HB1 := Aside0.mk ((hg.block b hlt.out (fun e => hne.out b e.symm rfl)).trans HB.out); have HG1 := Aside0.mk hg; have HAT := Aside0.mk hat; clear ho hb1 hg hat; obtain ⟨c10, c11, f10, f11⟩ := two_cells HB1.out))
          go_meet
          case rel =>
            refine ⟨_, two_set0 HB1.out _, ?_, ?_, ?_⟩
            · rw [if_pos h8i.out]
              have h := Kd.R_set HO1.out HB1.out (int_ne (by decide)) 0 (.slice A1 ((pack ys).length + 1) k1)
              simpa using h
            · exact (Chg.trans' HC.out (S' := fun k => some k = vv.ownBlock) ⟨HG1.out.os, HG1.out.tape, HG1.out.output, HG1.out.size, HG1.out.block⟩ (fun i hi e => by
                rcases HOW.out with h | ⟨k, h, hk⟩
                · exact .inr (e.trans h)
                · rw [h] at e; injection e with e; omega)).setCell (p := ⟨b, 0, none⟩) (fun _ => .inl rfl) _
            · rcases HAT.out with h | ⟨k, h, hk⟩
              · have h : (Value.slice A1 ((pack ys).length + 1) k1).ownBlock = vv.ownBlock := by simpa using h
                rw [h]; exact HOW.out
              · exact .inr ⟨k, by simpa using h, Nat.le_trans HC.out.size hk⟩
        · have h8b : ((ys.length : Int) % 8 == 0) = false := by simp; omega
          have h8i := Aside0.mk h8
          clear h8
          go_wp2
          go_meet
          case rel => exact ⟨vv, HB.out, by rw [if_neg h8i.out]; exact HO.out, HC.out, HOW.out⟩
      case rest =>
        clear HB HO hlt hne c0 c1 f0 f1 HC HOW
        obtain ⟨v1, hb, hr, hch, hown⟩ := hcut.out
        obtain ⟨zs, hzs⟩ : ∃ zs, (if ys.length % 8 = 0 then pack ys ++ [0] else pack ys) = zs := ⟨_, rfl⟩
        rw [hzs] at hr
        have hzl : ys.length / 8 < zs.length := by
          rw [← hzs]
          split
          · rw [List.length_append, pack_length]; simp; omega
          · rw [pack_length]; omega
        obtain ⟨g, cp, rfl, hg0, hg1, cells, hg2⟩ := Kd.R_form hr (by omega)
        have q1 : 0 ≤ (ys.length : Int) / 8 := by omega
        have q2 : (ys.length : Int) / 8 < (zs.length : Int) := by omega
        obtain ⟨d0, d1⟩ := Kd.R_celln 0 hr ((ys.length : Int) / 8) q1 q2
        have et : ((ys.length : Int) / 8).toNat = ys.length / 8 := by omega
        rw [et] at d0 d1
        clear et
        obtain ⟨c0, c1, f0, f1⟩ := two_cells hb
        have HB := Aside0.mk hb
        have HO := Aside0.mk hr
        have HC := Aside0.mk hch
        have HOW := Aside0.mk hown
        have HZ := Aside0.mk hzs
        have hlt := Aside0.mk (blk_lt hb)
        have hgb : g ≠ b := fun e => Kd.R_ne hr hb (by decide) (by rw [e]; rfl)
        have e7 : (0 : Int) ≤ 7 - (ys.length : Int) % 8 := by omega
        have hyl := LEN.out
        have w8 : wrap64 ((ys.length : Int) / 8) = (ys.length : Int) / 8 := by unfold wrap64; omega
        clear hb hr hcut hg0 hg1 hg2 hch hown hzs hzl
        replace q1 := eq_true q1
        replace q2 := eq_true q2
        go_upto_region 8 with (fail)
        generalize hW : wc = W8 at *
        go_region
        go_wp2
        go_roundg gk
        case measure => omega
        case rel =>
          have hx : v / 2 ^ gk % 2 = 0 ∨ v / 2 ^ gk % 2 = 1 := by have := Int.emod_two_eq (v / 2 ^ gk); omega
          have hv0 : 0 ≤ v / 2 ^ gk ∧ v / 2 ^ gk ≤ v := by
            have hp : (0 : Int) < 2 ^ gk := Int.pow_pos (by omega)
            exact ⟨Int.ediv_nonneg hv (by omega), Int.ediv_le_self _ hv⟩
          have hval : bits BinOp.or IntKind.u8 (rdOf 0 zs ((ys.length : Int) / 8)) (bits BinOp.and IntKind.i64 (v / 2 ^ gk) 1 % 256 * 2 ^ (7 - ys.length % 8) % 256) = byteAt ys (ys.length / 8) + v / 2 ^ gk % 2 * 2 ^ (7 - ys.length % 8) := by
            have e1 : rdOf 0 zs ((ys.length : Int) / 8) = byteAt ys (ys.length / 8) := by
              show zs.getD ((ys.length : Int) / 8).toNat 0 = _
              rw [show ((ys.length : Int) / 8).toNat = ys.length / 8 from by omega, ← HZ.out]
              by_cases h8 : ys.length % 8 = 0
              · rw [if_pos h8, (byte_new ys h8).1, (byte_new ys h8).2]
              · rw [if_neg h8, byte_here ys h8]
            have e2 : bits BinOp.and IntKind.i64 (v / 2 ^ gk) 1 % 256 * 2 ^ (7 - ys.length % 8) % 256 = v / 2 ^ gk % 2 * 2 ^ (7 - ys.length % 8) := by
              rw [and_one _ hv0.1 (by omega)]
              obtain ⟨r, hr⟩ : ∃ r, 7 - ys.length % 8 = r := ⟨_, rfl⟩
              rw [hr]
              have hr7 : r ≤ 7 := by omega
              have hp : (2 : Int) ^ r ≤ 128 := by
                have := Nat.pow_le_pow_right (n := 2) (by decide) hr7
                exact_mod_cast this
              have hp0 : (0 : Int) < 2 ^ r := Int.pow_pos (by omega)
              generalize (2 : Int) ^ r = P at *
              rcases hx with h | h
              · rw [h]; simp
              · rw [h]; omega
            rw [e1, e2, or_here HBI.out _ hx]
          rw [hval]
          refine ⟨rfl, by omega, ⟨_, ⟨?_, ?_, ?_⟩, ?_, HOW.out⟩⟩
          · have h := two_set1 (setCell_far HB.out (p := ⟨g, ys.length / 8, none⟩) (fun e => hgb e.symm) (.int .u8 (byteAt ys (ys.length / 8) + v / 2 ^ gk % 2 * 2 ^ (7 - ys.length % 8)))) (.int .i64 ((ys.length : Int) + 1))
            rw [← HNX.out, List.length_append]
            exact h
          · rw [← HNX.out, pack_snoc, HZ.out]
            have h := Kd.R_putn HO.out ((ys.length : Int) / 8) (byteAt ys (ys.length / 8) + v / 2 ^ gk % 2 * 2 ^ (7 - ys.length % 8))
            rw [show ((ys.length : Int) / 8).toNat = ys.length / 8 from by omega] at h
            have h2 := Kd.R_set h (setCell_far HB.out (p := ⟨g, ys.length / 8, none⟩) (fun e => hgb e.symm) (.int .u8 (byteAt ys (ys.length / 8) + v / 2 ^ gk % 2 * 2 ^ (7 - ys.length % 8)))) (int_ne (by decide)) 1 (.int .i64 ((ys.length : Int) + 1))
            exact Kd.R_drew h2
          · rw [← HNX.out]
            exact HBI.out.append (fun y hy => by simp at hy; rw [hy]; exact hx)
          · refine ((HC.out.setCell (p := ⟨g, ys.length / 8, none⟩) (fun hlt => ?_) _).setCell (p := ⟨b, 1, none⟩) (fun _ => .inl rfl) _).drew
            rcases HOW.out with h | ⟨k, h, hk⟩
            · exact .inr (by rw [← h]; rfl)
            · have h' : g = k := by simpa [Value.ownBlock] using h
              have hlt' : g < w.heap.size := hlt
              omega
end Go.Proofs.Ythncomijfpbeeaa.Bits
