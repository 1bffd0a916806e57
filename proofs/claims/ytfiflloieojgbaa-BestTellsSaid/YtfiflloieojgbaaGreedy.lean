/- Chapter 13: the walks. -/
import Derived.Test.YtfiflloieojgbaaGreedyPure
import Derived.Test.YtfiflloieojgbaaLent
namespace Go.Proofs.Ytfiflloieojgbaa.Greedy
set_option linter.unusedVariables false
set_option linter.unusedSimpArgs false
open Go.RowKit Go.Proofs.YtfiflloieojgbaaW.PrintWords Go.Proofs.YtfiflloieojgbaaW.PrintMore Go.Proofs.Ytfiflloieojgbaa.L Go.Proofs.Ytfiflloieojgbaa.Texts Go.Proofs.Ytfiflloieojgbaa.Dict Go.Proofs.Ytfiflloieojgbaa.Ints

def isPre (s p : ByteArray) : Bool := decide (p.size ≤ s.size ∧ s.extract 0 p.size = p)
set_option maxRecDepth 100000 in
theorem prefix_lite (s p : ByteArray) (w : World) (hs : s.size ≤ 140737488351232) (hp : p.size ≤ 140737488351232) :
    Calls Try.prog 89 #[.string s, .string p] w fun e w' => e = .returned (.bool (isPre s p)) ∧ w' = w := by
  by_cases h : p.size ≤ s.size
  · have hi : (p.size : Int) ≤ (s.size : Int) := by omega
    by_cases he : s.extract 0 p.size = p
    · have hb : ((s.extract 0 p.size).toList == p.toList) = true := (Lib.bytes_beq_iff _ _).2 he
      have hr := Lib.hid (show isPre s p = true from decide_eq_true ⟨h, he⟩)
      clear h he
      go_enter Try.func89, Try.ntmps89
      go_wp2_with (fail)
      go_ret
      rw [hr.out]
      exact ⟨rfl, rfl⟩
    · have hb : ((s.extract 0 p.size).toList == p.toList) = false := (Lib.bytes_beq_false_iff _ _).2 he
      have hr := Lib.hid (show isPre s p = false from decide_eq_false (fun h => he h.2))
      clear h he
      go_enter Try.func89, Try.ntmps89
      go_wp2_with (fail)
      go_ret
      rw [hr.out]
      exact ⟨rfl, rfl⟩
  · have hi : (s.size : Int) < (p.size : Int) := by omega
    have hr := Lib.hid (show isPre s p = false from decide_eq_false (fun hh => h hh.1))
    clear h
    go_enter Try.func89, Try.ntmps89
    go_wp2_with (fail)
    go_ret
    rw [hr.out]
    exact ⟨rfl, rfl⟩
theorem prefix_any (s p : ByteArray) (w : World) (hs : s.size ≤ 140737488351232) (hp : p.size ≤ 140737488351232) :
    Calls Try.prog 82 #[.string s, .string p] w fun e w' => e = .returned (.bool (isPre s p)) ∧ w' = w := by
  go_enter Try.func82, Try.ntmps82
  go_wp2_with (fail)
  refine (prefix_lite s p w hs hp).mono ?_
  rintro e w1 ⟨rfl, rfl⟩
  go_wp2_with (fail)
  go_ret
  exact ⟨rfl, rfl⟩
theorem all_any (p : Option Addr) (l : List ByteArray) (w : World) (h : DP w p l) (h100 : l.length ≤ 100) :
    Calls Try.prog 65 #[.pointer p] w fun e w' => ∃ v, e = .returned v ∧ KS.R 9 w' w.heap.size (fun _ => True) v l ∧ Below w.heap.size w w' := by
  rcases h with ⟨rfl, rfl⟩ | ⟨b, rfl, A, c, hb, hc⟩
  · go_enter Try.func65, Try.ntmps65
    go_wp2_with (fail)
    go_ret
    exact ⟨_, rfl, Kd.R_nil _ _ _ _ _, Below.refl _ _⟩
  · obtain ⟨d0, d1⟩ := one_cell hb
    have HC := Lib.hid hc
    clear hb hc
    go_enter Try.func65, Try.ntmps65
    go_wp2_with (fail)
    refine (clone_texts _ _ _ _ _ HC.out (by omega)).mono ?_
    rintro e w1 ⟨v, rfl, hr, hbw⟩
    have HR := Lib.hid hr
    have HB := Lib.hid hbw
    clear hr hbw
    go_wp2_with (fail)
    go_ret
    exact ⟨_, rfl, HR.out, HB.out⟩

/-! ### hits.Longest -/
/-- Does phrase k stand at a? -/
def stands (l : List ByteArray) (b : ByteArray) (a k : Nat) : Bool := isPre (b.extract a b.size) (l.getD k no)
theorem stands_iff (l : List ByteArray) (b : ByteArray) (a k : Nat) (ha : a ≤ b.size) : stands l b a k = true ↔ (l.getD k no).size ≤ b.size - a ∧ piece b a (l.getD k no).size = l.getD k no := by
  unfold stands isPre piece
  rw [decide_eq_true_eq, ByteArray.size_extract, ByteArray.extract_extract]
  constructor
  · rintro ⟨h1, h2⟩
    refine ⟨by omega, ?_⟩
    rw [Nat.add_zero, Nat.min_eq_left (by omega)] at h2
    exact h2
  · rintro ⟨h1, h2⟩
    refine ⟨by omega, ?_⟩
    rw [Nat.min_eq_left (by omega)]
    simpa using h2
def Inv (l : List ByteArray) (b : ByteArray) (a k : Nat) (id : Int) (long : Nat) : Prop :=
  ((id = -1 ∧ long = 0) ∨ ∃ j : Nat, j < k ∧ id = j ∧ stands l b a j = true ∧ long = (l.getD j no).size ∧ long ≠ 0) ∧ ∀ i, i < k → stands l b a i = true → (l.getD i no).size ≤ long
/-- The number of the longest phrase that stands there; -1: none does. -/
def idOf (l : List ByteArray) (b : ByteArray) (a : Nat) : Int := if longest l b a = 0 then (-1 : Int) else ((idx (piece b a (longest l b a)) l : Nat) : Int)
theorem idOf_none {l : List ByteArray} {b : ByteArray} {a : Nat} (h : longest l b a = 0) : idOf l b a = -1 := by unfold idOf; rw [if_pos h]
theorem idOf_some {l : List ByteArray} {b : ByteArray} {a : Nat} (h : longest l b a ≠ 0) : idOf l b a = ((idx (piece b a (longest l b a)) l : Nat) : Int) := by unfold idOf; rw [if_neg h]
theorem inv_end (l : List ByteArray) (b : ByteArray) (a : Nat) (ha : a ≤ b.size) (id : Int) (long : Nat) (hok : okTexts l) (h : Inv l b a l.length id long) :
    long = longest l b a ∧ id = idOf l b a := by
  obtain ⟨h1, h2⟩ := h
  have hle : longest l b a ≤ long := by
    by_cases h0 : longest l b a = 0
    · omega
    · have hh : has (piece b a (longest l b a)) l = true := lon_has l b a (min 40 (b.size - a)) h0
      have hl : longest l b a ≤ min 40 (b.size - a) := lon_le l b a (min 40 (b.size - a))
      have hp := piece_size b a (longest l b a) (by omega)
      have hi := (idx_mem _ _).2 ((has_iff _ _).1 hh)
      have hg := idx_get _ _ hi
      have hs := (stands_iff l b a (idx (piece b a (longest l b a)) l) ha).2 (by
        rw [show l.getD (idx (piece b a (longest l b a)) l) no = piece b a (longest l b a) from hg, hp]
        exact ⟨by omega, rfl⟩)
      have := h2 _ hi hs
      rw [show l.getD (idx (piece b a (longest l b a)) l) no = piece b a (longest l b a) from hg, hp] at this
      exact this
  rcases h1 with ⟨rfl, rfl⟩ | ⟨j, hj, rfl, hs, hl, hn⟩
  · have h0 : longest l b a = 0 := by omega
    exact ⟨h0.symm, (idOf_none h0).symm⟩
  · obtain ⟨s1, s2⟩ := (stands_iff l b a j ha).1 hs
    have hmem : l.getD j no ∈ l := getD_mem l j hj
    have h40 := (hok.2 j hj).2.1
    have hge : long ≤ longest l b a := lon_ge l b a _ long (by rw [hl]; omega) hn ((has_iff _ _).2 (by rw [hl, s2]; exact hmem))
    have he : long = longest l b a := by omega
    refine ⟨he, ?_⟩
    rw [idOf_some (by omega), ← he, hl, s2]
    have h3 := (hok.2 j hj).2.2.2
    have h4 := idx_self l j hj
    omega
set_option maxRecDepth 100000 in
set_option maxHeartbeats 1000000 in
theorem longest_any (p : Option Addr) (l : List ByteArray) (b : ByteArray) (a : Nat) (w : World) (h : DP w p l) (hok : okTexts l) (ha : a < b.size) (hbs : b.size ≤ 140737488351232) :
    Calls Try.prog 81 #[.pointer p, .string b, .int .i64 a] w fun e w' => Below w.heap.size w w' ∧
      e = .returned (.tuple #[.int .i64 (idOf l b a), .int .i64 (longest l b a : Nat)]) := by
  have H := Lib.hid h
  have HOK := Lib.hid hok
  have h100 := hok.1
  have ha0 : (0 : Int) ≤ (a : Int) := by omega
  have ha1 : (a : Int) < (b.size : Int) := by omega
  have ha2 : (a : Int) ≤ (b.size : Int) := by omega
  have ha3 : ((a : Int)).toNat = a := by omega
  clear h hok
  go_enter Try.func81, Try.ntmps81
  go_wp2_with (fail)
  refine (all_any _ _ _ H.out h100).mono ?_
  rintro e w1 ⟨v, rfl, hr, hb1⟩
  obtain ⟨A1, c1, rfl⟩ := Kd.R_slice hr
  have HC := Lib.hid (Kd.R_reads' hr).2.2
  have HB := Lib.hid hb1
  clear hr hb1
  go_wp2_with (fail)
  go_loopg [8, 9, 23] l.length (fun j id long i wr => ∃ (k : Nat) (I : Int) (L : Nat), k + j = l.length ∧ i = .int .i64 k ∧ id = .int .i64 I ∧ long = .int .i64 (L : Nat) ∧ Hid (Inv l b a k I L ∧ ∃ q, wr = w1.drewN q))
  case atStart => exact ⟨0, -1, 0, by omega, rfl, rfl, rfl, ⟨.inl ⟨rfl, rfl⟩, fun i hi => absurd hi (Nat.not_lt_zero i)⟩, 0, rfl⟩
  case round =>
    obtain ⟨k, I, L, hk, rfl, rfl, rfl, HI⟩ := hrel
    obtain ⟨hinv, q, rfl⟩ := HI.out
    by_cases hlt : k < l.length
    · obtain ⟨ad, rfl, x0⟩ := strs_at (Kd.C_drewN HC.out q) k hlt
      have h40 := (HOK.out.2 k hlt).2.1
      obtain ⟨hi1, hi2⟩ := hinv
      have hst : stands l b a k = isPre (b.extract a b.size) (l.getD k no) := rfl
      obtain ⟨s, hs⟩ : ∃ s, l.getD k no = s := ⟨_, rfl⟩
      rw [hs] at x0 h40 hst
      have i0 : (0 : Int) ≤ k := by omega
      have i1 : (k : Int) < (l.length : Int) := by omega
      have i2 : ((k : Int)).toNat = k := by omega
      have HS := Lib.hid hs
      have H1 := Lib.hid hi1
      have H2 := Lib.hid hi2
      have HST := Lib.hid hst
      have hes : (b.extract a b.size).size ≤ 140737488351232 := by rw [ByteArray.size_extract]; omega
      clear HI hi1 hi2 hs hst
      by_cases hL : L < s.size
      · have hLi : (L : Int) < (s.size : Int) := by omega
        cases hpre : isPre (b.extract a b.size) s
        · have HP := Lib.hid hpre
          go_wp2_with (go_at_call 82; refine (prefix_any _ _ _ hes (by omega)).mono ?_; rintro e w2 ⟨rfl, rfl⟩; rw [HP.out])
          go_roundg (l.length - (k + 1))
          case measure => omega
          case rel =>
            refine ⟨k + 1, I, L, by omega, by go_num, rfl, rfl, ⟨?_, fun i hi hsi => ?_⟩, _, rfl⟩
            · rcases H1.out with h | ⟨j, hj, h⟩
              · exact .inl h
              · exact .inr ⟨j, by omega, h⟩
            · by_cases hik : i = k
              · subst hik
                rw [HST.out, HP.out] at hsi
                cases hsi
              · exact H2.out i (by omega) hsi
        · have HP := Lib.hid hpre
          go_wp2_with (go_at_call 82; refine (prefix_any _ _ _ hes (by omega)).mono ?_; rintro e w2 ⟨rfl, rfl⟩; rw [HP.out])
          go_roundg (l.length - (k + 1))
          case measure => omega
          case rel =>
            refine ⟨k + 1, k, s.size, by omega, by go_num, rfl, rfl, ⟨.inr ⟨k, by omega, rfl, by rw [HST.out, HP.out], by rw [HS.out], by omega⟩, fun i hi hsi => ?_⟩, _, rfl⟩
            by_cases hik : i = k
            · subst hik
              rw [HS.out]
              exact Nat.le_refl _
            · have := H2.out i (by omega) hsi
              omega
      · have hLi : (s.size : Int) ≤ (L : Int) := by omega
        go_wp2_with (fail)
        go_roundg (l.length - (k + 1))
        case measure => omega
        case rel =>
          refine ⟨k + 1, I, L, by omega, by go_num, rfl, rfl, ⟨?_, fun i hi hsi => ?_⟩, _, rfl⟩
          · rcases H1.out with h | ⟨j, hj, h⟩
            · exact .inl h
            · exact .inr ⟨j, by omega, h⟩
          · by_cases hik : i = k
            · subst hik
              rw [HS.out]
              omega
            · exact H2.out i (by omega) hsi
    · obtain rfl : k = l.length := by omega
      obtain ⟨e1, e2⟩ := inv_end l b a (by omega) I L HOK.out hinv
      have E1 := Lib.hid e1
      have E2 := Lib.hid e2
      clear hinv HI e1 e2
      go_wp2_with (fail)
      go_ret2
      rw [← E1.out, ← E2.out]
      exact ⟨below_drewN HB.out q, rfl⟩

/-! ### Next and Parse -/
theorem bt_byteAt (b : ByteArray) (a : Nat) (h : a < b.size) : (((b[a]'h).toNat : Nat) : Int) = byteAt b a := by
  unfold byteAt
  rw [List.getD_eq_getElem?_getD, List.getElem?_eq_getElem (by rw [Array.length_toList]; exact h)]
  rfl
def nextTok (l : List ByteArray) (b : ByteArray) (k : Int) : Int := if 0 ≤ k ∧ k < (b.size : Int) then tokenOf l b k.toNat (firstLen l b k.toNat) else 0
def nextLen (l : List ByteArray) (b : ByteArray) (k : Int) : Nat := if 0 ≤ k ∧ k < (b.size : Int) then firstLen l b k.toNat else 0
theorem next_in {l : List ByteArray} {b : ByteArray} {a : Nat} (h : a < b.size) : nextTok l b a = tokenOf l b a (firstLen l b a) ∧ nextLen l b a = firstLen l b a := by
  unfold nextTok nextLen
  rw [if_pos (by omega), if_pos (by omega), Int.toNat_natCast]
  exact ⟨rfl, rfl⟩
theorem next_out {l : List ByteArray} {b : ByteArray} {k : Int} (h : k < 0 ∨ (b.size : Int) ≤ k) : nextTok l b k = 0 ∧ nextLen l b k = 0 := by
  unfold nextTok nextLen
  rw [if_neg (by omega), if_neg (by omega)]
  exact ⟨rfl, rfl⟩
set_option maxRecDepth 100000 in
set_option maxHeartbeats 1000000 in
theorem next_any (p : Option Addr) (l : List ByteArray) (b : ByteArray) (k : Int) (w : World) (h : DP w p l) (hok : okTexts l) (hbs : b.size ≤ 140737488351232) :
    Calls Try.prog 63 #[.pointer p, .string b, .int .i64 k] w fun e w' => Below w.heap.size w w' ∧ e = .returned (.tuple #[.int .i64 (nextTok l b k), .int .i64 (nextLen l b k : Nat)]) := by
  have H := Lib.hid h
  have HOK := Lib.hid hok
  have h100 := hok.1
  clear h hok
  by_cases h0 : k < 0
  · obtain ⟨n1, n2⟩ := next_out (l := l) (b := b) (k := k) (.inl h0)
    have N1 := Lib.hid n1
    have N2 := Lib.hid n2
    clear n1 n2
    go_enter Try.func63, Try.ntmps63
    go_wp2_with (fail)
    go_ret2
    rw [N1.out, N2.out]
    exact ⟨Below.refl _ _, rfl⟩
  · by_cases h1 : (b.size : Int) ≤ k
    · obtain ⟨n1, n2⟩ := next_out (l := l) (b := b) (k := k) (.inr h1)
      have N1 := Lib.hid n1
      have N2 := Lib.hid n2
      have h00 : 0 ≤ k := by omega
      clear n1 n2 h0
      go_enter Try.func63, Try.ntmps63
      go_wp2_with (fail)
      go_ret2
      rw [N1.out, N2.out]
      exact ⟨Below.refl _ _, rfl⟩
    · obtain ⟨a, rfl⟩ := Int.eq_ofNat_of_zero_le (by omega : 0 ≤ k)
      have ha : a < b.size := by omega
      have ha0 : (0 : Int) ≤ (a : Int) := by omega
      have ha1 : (a : Int) < (b.size : Int) := by omega
      have ha3 : ((a : Int)).toNat = a := by omega
      obtain ⟨n1, n2⟩ := next_in (l := l) ha
      by_cases hl : longest l b a = 0
      · obtain ⟨t1, t2⟩ := token_byte l b a ha hl
        have N1 := Lib.hid (show nextTok l b a = wrap64 (((b[a]'ha).toNat : Nat) : Int) by
          rw [n1, t1, t2, bt_byteAt b a ha]
          have := byteAt_lt b a
          unfold wrap64
          omega)
        have N2 := Lib.hid (show nextLen l b a = 1 by rw [n2, t1])
        have I1 := Lib.hid (idOf_none hl)
        have HL := Lib.hid hl
        clear n1 n2 t1 t2 h0 h1 hl
        go_enter Try.func63, Try.ntmps63
        go_wp2_with (fail)
        refine (longest_any _ _ _ _ _ H.out HOK.out ha hbs).mono ?_
        rintro e w1 ⟨hb, rfl⟩
        have HB := Lib.hid hb
        rw [I1.out, HL.out]
        clear hb
        go_wp2_with (fail)
        go_ret2
        rw [N1.out, N2.out]
        exact ⟨HB.out, rfl⟩
      · obtain ⟨t1, t2, t3⟩ := token_phrase l b a hl
        obtain ⟨L, hL⟩ : ∃ L, longest l b a = L := ⟨_, rfl⟩
        obtain ⟨I, hI⟩ : ∃ I, idx (piece b a (longest l b a)) l = I := ⟨_, rfl⟩
        have hI2 : I ≤ 100 := by have := idx_le (piece b a (longest l b a)) l; omega
        have hI3 : (0 : Int) ≤ (I : Int) := by omega
        have N1 := Lib.hid (show nextTok l b a = 256 + (I : Int) by rw [n1, t1, t3, hI])
        have N2 := Lib.hid (show nextLen l b a = L by rw [n2, t1, hL])
        have I1 := Lib.hid (show idOf l b a = (I : Int) by rw [idOf_some hl, hI])
        have HL := Lib.hid hL
        clear n1 n2 t1 t2 t3 h0 h1 hl hL hI
        go_enter Try.func63, Try.ntmps63
        go_wp2_with (fail)
        refine (longest_any _ _ _ _ _ H.out HOK.out ha hbs).mono ?_
        rintro e w1 ⟨hb, rfl⟩
        have HB := Lib.hid hb
        rw [I1.out, HL.out]
        clear hb
        go_wp2_with (fail)
        go_ret2
        rw [N1.out, N2.out]
        exact ⟨HB.out, rfl⟩
set_option maxRecDepth 100000 in
set_option maxHeartbeats 1000000 in
theorem parse_any (p : Option Addr) (l : List ByteArray) (b : ByteArray) (w : World) (h : DP w p l) (hok : okTexts l) (hbs : b.size ≤ 1024) :
    Calls Try.prog 30 #[.pointer p, .string b] w fun e w' => ∃ v, e = .returned v ∧ KI.R 3 w' w.heap.size (fun _ => True) v (parse l b) ∧ Below w.heap.size w w' := by
  have H := Lib.hid h
  have HOK := Lib.hid hok
  have hbi : (b.size : Int) ≤ 1024 := by omega
  clear h hok
  go_enter Try.func30, Try.ntmps30
  go_wp2_with (fail)
  go_loopg [5, 6] b.size (fun j v i wr => ∃ (a : Nat) (xs : List Int), i = .int .i64 a ∧ Hid (a + j = b.size ∧ xs.length ≤ a ∧ parse l b = xs ++ from_ l b a ∧ KI.R 3 wr w.heap.size (fun _ => True) v xs ∧ Below w.heap.size w wr))
  case atStart => exact ⟨0, [], rfl, by omega, Nat.le_refl _, (from_zero l b).symm, Kd.R_nil _ _ _ _ _, Below.refl _ _⟩
  case round =>
    obtain ⟨a, xs, rfl, HI⟩ := hrel
    obtain ⟨haj, hxa, hgo, hr, hb⟩ := HI.out
    by_cases hlt : a < b.size
    · have hlti : (a : Int) < (b.size : Int) := by omega
      obtain ⟨n1, n2⟩ := next_in (l := l) hlt
      have hst := from_step l b a hlt
      have hf1 := firstLen_pos l b a
      have hf2 := firstLen_fits l b a hlt
      obtain ⟨T, hT⟩ : ∃ T, tokenOf l b a (firstLen l b a) = T := ⟨_, rfl⟩
      obtain ⟨F, hF⟩ : ∃ F, firstLen l b a = F := ⟨_, rfl⟩
      rw [hT] at n1 hst
      rw [hF] at n2 hst hf1 hf2
      rw [hst] at hgo
      have N1 := Lib.hid n1
      have N2 := Lib.hid n2
      have HGO := Lib.hid hgo
      have HXA := Lib.hid hxa
      have HAJ := Lib.hid haj
      have HR := Lib.hid hr
      have HB := Lib.hid hb
      obtain ⟨A5, c5, rfl⟩ := Kd.R_slice hr
      have s1 : ((a + F : Nat) : Int) = (a : Int) + (F : Int) := by omega
      have S1 := Lib.hid s1
      clear n1 n2 hst hgo hxa haj hr hb hT hF HI s1
      go_wp2_with (fail)
      refine (next_any _ _ _ _ _ (H.out.below HB.out) HOK.out (by omega)).mono ?_
      rintro e w1 ⟨hb1, rfl⟩
      rw [N1.out, N2.out]
      have HB1 := Lib.hid (Ints.bel_trans HB.out HB.out.size hb1)
      have HR1 := Lib.hid (Kd.R_below HR.out hb1)
      clear hb1 HB HR
      go_wp2_with (((with_reducible refine gate_builtin (b := .append) (xs := #[.tmp 23, .tmp 25]) rfl ?_); at_builtin; apply stopper))
      unfold Stopper
      refine Kd.R_append KI (w0 := w) w.heap.size rfl (.tmp 23) (.tmp 25) 27 3 (.int .i64 0) 8 rfl Try.underlying27 infoInt rfl (by decide) (by omega) (.slice A5 xs.length c5) xs T [.int .i64 T] (fun _ => True) (fun _ => False) rfl rfl rfl (fun _ hk => hk.elim) (fun _ _ => trivial) HR1.out HB1.out HB1.out.size (by have := HXA.out; omega) ?_
      intro v1 w2 ho hb2 hg2 hat2
      have HR2 := Lib.hid ho
      have HB2 := Lib.hid hb2
      clear ho hb2 hg2 hat2 HR1 HB1
      go_wp2
      go_roundg (b.size - (a + F))
      case measure => have := HAJ.out; omega
      case rel => exact ⟨a + F, xs ++ [T], by rw [S1.out], by omega, by rw [List.length_append]; have := HXA.out; simp; omega, by rw [HGO.out, List.append_assoc]; rfl, HR2.out, HB2.out⟩
    · have hge : (b.size : Int) ≤ (a : Int) := by omega
      rw [from_end l b a (by omega), List.append_nil] at hgo
      have HGO := Lib.hid hgo
      have HR := Lib.hid hr
      have HB := Lib.hid hb
      clear hgo hr hb HI haj hxa
      go_wp2_with (fail)
      go_ret
      exact ⟨_, rfl, by rw [HGO.out]; exact HR.out, HB.out⟩
end Go.Proofs.Ytfiflloieojgbaa.Greedy
