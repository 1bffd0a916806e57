/- The document's own parses: which phrases stand at a place, the token there, greedy's parse. -/
import Derived.Test.YtfiflloieojgbaaGreedyPure
import Derived.Test.YtfiflloieojgbaaInts
namespace Go.Proofs.Ytfiflloieojgbaa.Greedy
set_option linter.unusedVariables false
set_option linter.unusedSimpArgs false
open Go.RowKit Go.Proofs.YtfiflloieojgbaaW.PrintWords Go.Proofs.YtfiflloieojgbaaW.PrintMore Go.Proofs.Ytfiflloieojgbaa.L Go.Proofs.Ytfiflloieojgbaa.Texts Go.Proofs.Ytfiflloieojgbaa.Dict Go.Proofs.Ytfiflloieojgbaa.Ints

theorem bt_byteAt' (b : ByteArray) (a : Nat) (h : a < b.size) : wrap64 (((b[a]'h).toNat : Nat) : Int) = byteAt b a := by
  have h1 : (((b[a]'h).toNat : Nat) : Int) = byteAt b a := by
    unfold byteAt
    rw [List.getD_eq_getElem?_getD, List.getElem?_eq_getElem (by rw [Array.length_toList]; exact h)]
    rfl
  rw [h1]
  have := byteAt_lt b a
  unfold wrap64
  omega
theorem find_has {s : ByteArray} {l : List ByteArray} (h : has s l = true) : find s l = ((idx s l : Nat) : Int) := by
  unfold has at h
  unfold find
  rw [if_pos (of_decide_eq_true h)]
theorem find_none {s : ByteArray} {l : List ByteArray} (h : ¬ has s l = true) : find s l = -1 := by
  unfold has at h
  unfold find
  rw [if_neg (fun h2 => h (decide_eq_true h2))]
set_option maxRecDepth 100000 in
set_option maxHeartbeats 1000000 in
theorem ref_token (A : Option Addr) (c : Nat) (l : List ByteArray) (b : ByteArray) (a n : Nat) (w : World) (h : KS.C w A l.length l) (h100 : l.length ≤ 100) (ha : a < b.size) (hn : a + n ≤ b.size) (hbs : b.size ≤ 1000000) :
    Calls Try.prog 25 #[.slice A l.length c, .string b, .int .i64 a, .int .i64 n] w fun e w' => e = .returned (.int .i64 (tokenOf l b a n)) ∧ ∃ q, w' = w.drewN q := by
  have H := Lib.hid h
  have a0 : (0 : Int) ≤ (a : Int) := by omega
  have a1 : (a : Int) + (n : Int) ≤ (b.size : Int) := by omega
  have a2 : (a : Int) < (b.size : Int) := by omega
  have hsl : b.extract a (a + n) = piece b a n := rfl
  clear h
  by_cases hh : has (piece b a n) l = true
  · have ht := Lib.hid (show tokenOf l b a n = 256 + ((idx (piece b a n) l : Nat) : Int) by unfold tokenOf; rw [if_pos hh])
    have hf := Lib.hid (find_has hh)
    have hi := idx_le (piece b a n) l
    obtain ⟨I, hI⟩ : ∃ I, idx (piece b a n) l = I := ⟨_, rfl⟩
    have HI := Lib.hid hI
    have hi2 : I ≤ 100 := by omega
    have hi3 : (0 : Int) ≤ (I : Int) := by omega
    clear hh hI hi
    go_enter Try.func25, Try.ntmps25
    go_wp2_with (fail)
    refine (find_any _ _ _ l (piece b a n) _ H.out).mono ?_
    rintro e w1 ⟨rfl, q, rfl⟩
    rw [hf.out, HI.out]
    go_wp2_with (fail)
    go_ret
    rw [ht.out, HI.out]
    exact ⟨rfl, _, rfl⟩
  · have ht := Lib.hid (show tokenOf l b a n = byteAt b a by unfold tokenOf; rw [if_neg hh])
    have hf := Lib.hid (find_none hh)
    have hb := Lib.hid (bt_byteAt' b a ha)
    clear hh
    go_enter Try.func25, Try.ntmps25
    go_wp2_with (fail)
    refine (find_any _ _ _ l (piece b a n) _ H.out).mono ?_
    rintro e w1 ⟨rfl, q, rfl⟩
    rw [hf.out]
    go_wp2_with (fail)
    go_ret
    rw [ht.out, ← hb.out]
    exact ⟨rfl, _, rfl⟩
/-- The lengths up to n of phrases that stand at a place, the greatest first. -/
def standsDown (l : List ByteArray) (b : ByteArray) (a : Nat) : Nat → List Int
  | 0 => []
  | n + 1 => if has (piece b a (n + 1)) l = true then ((n + 1 : Nat) : Int) :: standsDown l b a n else standsDown l b a n
theorem standsDown_len (l : List ByteArray) (b : ByteArray) (a : Nat) : ∀ n, (standsDown l b a n).length ≤ n
  | 0 => Nat.le_refl _
  | n + 1 => by
    have := standsDown_len l b a n
    unfold standsDown
    split
    · rw [List.length_cons]; omega
    · omega
theorem standsDown_mem (l : List ByteArray) (b : ByteArray) (a : Nat) (x : Int) : ∀ n, x ∈ standsDown l b a n ↔ ∃ m : Nat, x = m ∧ 1 ≤ m ∧ m ≤ n ∧ has (piece b a m) l = true
  | 0 => by
    constructor
    · intro h; simp [standsDown] at h
    · rintro ⟨m, _, h1, h2, _⟩; omega
  | n + 1 => by
    have ih := standsDown_mem l b a x n
    unfold standsDown
    by_cases hh : has (piece b a (n + 1)) l = true
    · rw [if_pos hh, List.mem_cons, ih]
      constructor
      · rintro (h | ⟨m, h1, h2, h3, h4⟩)
        · exact ⟨n + 1, h, by omega, Nat.le_refl _, hh⟩
        · exact ⟨m, h1, h2, by omega, h4⟩
      · rintro ⟨m, h1, h2, h3, h4⟩
        by_cases he : m = n + 1
        · subst he
          exact .inl h1
        · exact .inr ⟨m, h1, h2, by omega, h4⟩
    · rw [if_neg hh, ih]
      constructor
      · rintro ⟨m, h1, h2, h3, h4⟩
        exact ⟨m, h1, h2, by omega, h4⟩
      · rintro ⟨m, h1, h2, h3, h4⟩
        by_cases he : m = n + 1
        · subst he
          exact absurd h4 hh
        · exact ⟨m, h1, h2, by omega, h4⟩
theorem standsDown_head (l : List ByteArray) (b : ByteArray) (a : Nat) : ∀ n, (standsDown l b a n = [] ∧ lon l b a n = 0) ∨ (∃ t, standsDown l b a n = ((lon l b a n : Nat) : Int) :: t ∧ lon l b a n ≠ 0)
  | 0 => .inl ⟨rfl, rfl⟩
  | n + 1 => by
    unfold standsDown lon
    by_cases hh : has (piece b a (n + 1)) l = true
    · rw [if_pos hh, if_pos hh]
      exact .inr ⟨_, rfl, by omega⟩
    · rw [if_neg hh, if_neg hh]
      exact standsDown_head l b a n
theorem standsDown_pos (l : List ByteArray) (b : ByteArray) (a m K : Nat) (h : m = K + 1) : standsDown l b a m = if has (piece b a m) l = true then (m : Int) :: standsDown l b a K else standsDown l b a K := by
  subst h
  rfl
def stands_ (l : List ByteArray) (b : ByteArray) (a : Nat) : List Int := standsDown l b a (min 40 (b.size - a))
set_option maxRecDepth 100000 in
set_option maxHeartbeats 2000000 in
theorem ref_stands (A : Option Addr) (c : Nat) (l : List ByteArray) (b : ByteArray) (a : Nat) (w : World) (h : KS.C w A l.length l) (ha : a ≤ b.size) (hbs : b.size ≤ 1000000) :
    Calls Try.prog 24 #[.slice A l.length c, .string b, .int .i64 a] w fun e w' => ∃ v, e = .returned v ∧ KI.R 3 w' w.heap.size (fun _ => True) v (stands_ l b a) ∧ Below w.heap.size w w' := by
  have H := Lib.hid h
  obtain ⟨N, hN⟩ : ∃ N, min 40 (b.size - a) = N := ⟨_, rfl⟩
  have hst := Lib.hid (show stands_ l b a = standsDown l b a N by unfold stands_; rw [hN])
  have hmn : min (40 : Int) ((b.size : Int) - (a : Int)) = (N : Int) := by omega
  have hN40 : N ≤ 40 := by omega
  have hNa : a + N ≤ b.size := by omega
  have a0 : (0 : Int) ≤ (a : Int) := by omega
  clear h hN
  go_enter Try.func24, Try.ntmps24
  go_wp2_with (fail)
  go_loopg [7, 8] N (fun j v i wr => ∃ (m : Nat) (xs : List Int), i = .int .i64 m ∧ Hid (m = j ∧ m ≤ N ∧ xs.length + m ≤ N ∧ xs ++ standsDown l b a m = standsDown l b a N ∧ KI.R 3 wr w.heap.size (fun _ => True) v xs ∧ Below w.heap.size w wr))
  case atStart => exact ⟨N, [], rfl, rfl, Nat.le_refl _, by simp, rfl, Kd.R_nil _ _ _ _ _, Below.refl _ _⟩
  case round =>
    obtain ⟨m, xs, rfl, HI⟩ := hrel
    obtain ⟨hmj, hmN, hxl, hgo, hr, hb⟩ := HI.out
    subst hmj
    obtain ⟨A7, c7, rfl⟩ := Kd.R_slice hr
    have HR := Lib.hid hr
    have HB := Lib.hid hb
    have HXL := Lib.hid hxl
    by_cases hm1 : 1 ≤ m
    · obtain ⟨k, hk⟩ : ∃ k, m = k + 1 := ⟨m - 1, by omega⟩
      have hm1i : (1 : Int) ≤ (m : Int) := by omega
      have a1 : (a : Int) + (m : Int) ≤ (b.size : Int) := by omega
      have a2 : (0 : Int) ≤ (m : Int) := by omega
      have hm40 : (m : Int) ≤ 40 := by omega
      have hkm : k < m := by omega
      have hkN : k ≤ N := by omega
      have HK1 := Lib.hid (show (m : Int) - 1 = (k : Int) by omega)
      have hsl : b.extract a (a + m) = piece b a m := rfl
      rw [standsDown_pos l b a m k hk] at hgo
      have HKK := Lib.hid hk
      clear hk
      by_cases hh : has (piece b a m) l = true
      · rw [if_pos hh] at hgo
        have HGO := Lib.hid hgo
        have hf := Lib.hid (find_has hh)
        obtain ⟨I, hI⟩ : ∃ I, idx (piece b a m) l = I := ⟨_, rfl⟩
        have HII := Lib.hid hI
        have hi3 : (0 : Int) ≤ (I : Int) := by omega
        clear hgo hr hb hxl HI hh hI
        go_wp2_with (fail)
        refine (find_any _ _ _ l (piece b a m) _ (Kd.C_below H.out HB.out)).mono ?_
        rintro e w1 ⟨rfl, q, rfl⟩
        rw [hf.out, HII.out]
        go_wp2_with (((with_reducible refine gate_builtin (b := .append) (xs := #[.tmp 27, .tmp 29]) rfl ?_); at_builtin; apply stopper))
        unfold Stopper
        refine Kd.R_append KI (w0 := w) w.heap.size rfl (.tmp 27) (.tmp 29) 27 3 (.int .i64 0) 8 rfl Try.underlying27 infoInt rfl (by decide) (by omega) (.slice A7 xs.length c7) xs (m : Int) [.int .i64 (m : Int)] (fun _ => True) (fun _ => False) rfl rfl rfl (fun _ hk => hk.elim) (fun _ _ => trivial) (Kd.R_drewN HR.out q) (below_drewN HB.out q) HB.out.size (by have := HXL.out; omega) ?_
        intro v1 w2 ho hb2 hg2 hat2
        have HR2 := Lib.hid ho
        have HB2 := Lib.hid hb2
        clear ho hb2 hg2 hat2 HR HB
        go_wp2
        go_roundg k
        case measure => omega
        case rel => exact ⟨k, xs ++ [(m : Int)], by rw [HK1.out], rfl, hkN, by rw [List.length_append, List.length_singleton]; have := HXL.out; have := HKK.out; omega, by rw [List.append_assoc]; exact HGO.out, HR2.out, HB2.out⟩
      · rw [if_neg hh] at hgo
        have HGO := Lib.hid hgo
        have hf := Lib.hid (find_none hh)
        clear hgo hr hb hxl HI hh
        go_wp2_with (fail)
        refine (find_any _ _ _ l (piece b a m) _ (Kd.C_below H.out HB.out)).mono ?_
        rintro e w1 ⟨rfl, q, rfl⟩
        rw [hf.out]
        go_wp2_with (fail)
        go_roundg k
        case measure => omega
        case rel => exact ⟨k, xs, by rw [HK1.out], rfl, hkN, by have := HXL.out; have := HKK.out; omega, HGO.out, Kd.R_drewN HR.out q, below_drewN HB.out q⟩
    · obtain rfl : m = 0 := by omega
      rw [show standsDown l b a 0 = [] from rfl, List.append_nil] at hgo
      have HGO := Lib.hid hgo
      clear hgo hr hb hxl HI
      go_wp2_with (fail)
      go_ret
      exact ⟨_, rfl, by rw [hst.out, ← HGO.out]; exact HR.out, HB.out⟩
end Go.Proofs.Ytfiflloieojgbaa.Greedy
