/- Of the parts GreedyPure, Greedy, FlexPure, Flex, RefParse: what the rows use. -/
import Derived.Test.YtfbbcfhdjhiejaaGreatZa1
import Derived.Test.YtfbbcfhdjhiejaaGreatZa4
import Derived.Test.YtfbbcfhdjhiejaaGreatZa5
import Derived.Deep.RegionHeld3
/- Chapter 13: what greedy computes, in plain Lean. -/
namespace Go.Proofs.YtfbbcfhdjhiejaaGreat.Greedy
set_option linter.unusedVariables false
set_option linter.unusedSimpArgs false
open Go.Proofs.YtfbbcfhdjhiejaaGreat.Texts Go.Proofs.YtfbbcfhdjhiejaaGreat.Dict
/-- n bytes of b from a place on. -/
def piece (b : ByteArray) (at_ n : Nat) : ByteArray := b.extract at_ (at_ + n)
theorem piece_size (b : ByteArray) (a n : Nat) (h : a + n ≤ b.size) : (piece b a n).size = n := by
 unfold piece
 rw [ByteArray.size_extract]
 omega
/-- The greatest length up to n of which a phrase stands at a place; 0: none. -/
def lon (l : List ByteArray) (b : ByteArray) (a : Nat) : Nat → Nat
 | 0 => 0
 | n + 1 => if has (piece b a (n + 1)) l = true then n + 1 else lon l b a n
theorem lon_le (l : List ByteArray) (b : ByteArray) (a : Nat) : ∀ n, lon l b a n ≤ n
 | 0 => Nat.le_refl _
 | n + 1 => by
   unfold lon
   have := lon_le l b a n
   split <;> omega
theorem lon_has (l : List ByteArray) (b : ByteArray) (a : Nat) : ∀ n, lon l b a n ≠ 0 → has (piece b a (lon l b a n)) l = true
 | 0, h => absurd rfl h
 | n + 1, h => by
   unfold lon at h ⊢
   by_cases hh : has (piece b a (n + 1)) l = true
   ·rw [if_pos hh]; exact hh
   ·rw [if_neg hh] at h ⊢
    exact lon_has l b a n h
theorem lon_ge (l : List ByteArray) (b : ByteArray) (a : Nat) : ∀ n m, m ≤ n → m ≠ 0 → has (piece b a m) l = true → m ≤ lon l b a n
 | 0, m, h, h0, _ => by omega
 | n + 1, m, h, h0, hm => by
   unfold lon
   by_cases hh : has (piece b a (n + 1)) l = true
   ·rw [if_pos hh]; exact h
   ·rw [if_neg hh]
    by_cases e : m = n + 1
    ·rw [e] at hm; exact absurd hm hh
    ·exact lon_ge l b a n m (by omega) h0 hm
def longest (l : List ByteArray) (b : ByteArray) (a : Nat) : Nat := lon l b a (min 40 (b.size - a))
/-- The token at a place, and how many bytes it takes. -/
def firstLen (l : List ByteArray) (b : ByteArray) (a : Nat) : Nat := if longest l b a = 0 then 1 else longest l b a
def byteAt (b : ByteArray) (a : Nat) : Int := ((b.data.toList.getD a 0).toNat : Int)
def tokenOf (l : List ByteArray) (b : ByteArray) (a n : Nat) : Int := if has (piece b a n) l = true then 256 + (idx (piece b a n) l : Nat) else byteAt b a
theorem firstLen_pos (l : List ByteArray) (b : ByteArray) (a : Nat) : 1 ≤ firstLen l b a := by
 unfold firstLen
 split <;> omega
theorem firstLen_fits (l : List ByteArray) (b : ByteArray) (a : Nat) (h : a < b.size) : a + firstLen l b a ≤ b.size := by
 unfold firstLen
 split
 ·omega
 ·have := lon_le l b a (min 40 (b.size - a))
  unfold longest
  omega
/-- The tokens of bytes, from a place on. -/
def parseGo (l : List ByteArray) (b : ByteArray) : Nat → Nat → List Int
 | 0, _ => []
 | f + 1, a => if a < b.size then tokenOf l b a (firstLen l b a) :: parseGo l b f (a + firstLen l b a) else []
def parse (l : List ByteArray) (b : ByteArray) : List Int := parseGo l b b.size 0
theorem parseGo_fuel (l : List ByteArray) (b : ByteArray) : ∀ f a, b.size - a ≤ f → parseGo l b f a = parseGo l b (b.size - a) a := by
 intro f
 induction f using Nat.strongRecOn with
 | _ f ih =>
   intro a h
   by_cases ha : a < b.size
   ·obtain ⟨f', rfl⟩ : ∃ f', f = f' + 1 := ⟨f - 1, by omega⟩
    obtain ⟨g, hg⟩ : ∃ g, b.size - a = g + 1 := ⟨b.size - a - 1, by omega⟩
    have h1 := firstLen_pos l b a
    rw [hg]
    unfold parseGo
    rw [if_pos ha, if_pos ha, ih f' (by omega) (a + firstLen l b a) (by omega)]
    by_cases hgf : g < f' + 1
    ·rw [ih g hgf (a + firstLen l b a) (by omega)]
    ·omega
   ·have e : b.size - a = 0 := by omega
    rw [e]
    cases f with
    | zero => rfl
    | succ f => unfold parseGo; rw [if_neg ha]
/-- The tokens from a place on. -/
def from_ (l : List ByteArray) (b : ByteArray) (a : Nat) : List Int := parseGo l b (b.size - a) a
theorem from_zero (l : List ByteArray) (b : ByteArray) : from_ l b 0 = parse l b := by unfold from_ parse; rw [Nat.sub_zero]
theorem from_step (l : List ByteArray) (b : ByteArray) (a : Nat) (h : a < b.size) : from_ l b a = tokenOf l b a (firstLen l b a) :: from_ l b (a + firstLen l b a) := by
 unfold from_
 obtain ⟨g, hg⟩ : ∃ g, b.size - a = g + 1 := ⟨b.size - a - 1, by omega⟩
 have h1 := firstLen_pos l b a
 rw [hg]
 show (if a < b.size then _ else _) = _
 rw [if_pos h, parseGo_fuel l b g _ (by omega)]
theorem from_end (l : List ByteArray) (b : ByteArray) (a : Nat) (h : b.size ≤ a) : from_ l b a = [] := by
 unfold from_
 rw [show b.size - a = 0 by omega]
 rfl
/-- No phrase stands there: the byte itself. -/
theorem token_byte (l : List ByteArray) (b : ByteArray) (a : Nat) (h : a < b.size) (h0 : longest l b a = 0) : firstLen l b a = 1 ∧ tokenOf l b a 1 = byteAt b a := by
 refine ⟨by unfold firstLen; rw [if_pos h0], ?_⟩
 unfold tokenOf
 by_cases hh : has (piece b a 1) l = true
 ·have := lon_ge l b a (min 40 (b.size - a)) 1 (by omega) (by decide) hh
  unfold longest at h0
  omega
 ·rw [if_neg hh]
theorem token_phrase (l : List ByteArray) (b : ByteArray) (a : Nat) (h0 : longest l b a ≠ 0) : firstLen l b a = longest l b a ∧ has (piece b a (longest l b a)) l = true ∧ tokenOf l b a (longest l b a) = 256 + (idx (piece b a (longest l b a)) l : Nat) := by
 have hh : has (piece b a (longest l b a)) l = true := lon_has l b a (min 40 (b.size - a)) h0
 refine ⟨by unfold firstLen; rw [if_neg h0], hh, ?_⟩
 unfold tokenOf
 rw [if_pos hh]
theorem byteAt_lt (b : ByteArray) (a : Nat) : 0 ≤ byteAt b a ∧ byteAt b a < 256 := by
 unfold byteAt
 have := (b.data.toList.getD a 0).toNat_lt
 omega
/-- A piece of one byte is the byte. -/
theorem piece_one (b : ByteArray) (a : Nat) (h : a < b.size) : piece b a 1 = ⟨#[UInt8.ofNat (byteAt b a).toNat]⟩ := by
 unfold piece byteAt
 apply ByteArray.ext
 rw [ByteArray.data_extract]
 have hl : a < b.data.toList.length := by rw [Array.length_toList]; exact h
 have e1 : b.data.toList.getD a 0 = b.data[a]'(h) := by
  rw [List.getD_eq_getElem?_getD, List.getElem?_eq_getElem hl]
  rfl
 rw [e1, Int.toNat_natCast]
 apply Array.ext
 ·simp
  have : a + 1 ≤ b.data.size := h
  omega
 ·intro i h1 h2
  have hi : i = 0 := by simpa using h2
  subst hi
  simp
theorem piece_all (b : ByteArray) : piece b 0 b.size = b := by
 unfold piece
 rw [Nat.zero_add]
 apply ByteArray.ext
 simp
end Go.Proofs.YtfbbcfhdjhiejaaGreat.Greedy

/- Chapter 13: the walks. -/
namespace Go.Proofs.YtfbbcfhdjhiejaaGreat.Greedy
set_option linter.unusedVariables false
set_option linter.unusedSimpArgs false
open Go.RowKit Go.Proofs.YtfbbcfhdjhiejaaGreatW.PrintWords Go.Proofs.YtfbbcfhdjhiejaaGreatW.PrintMore Go.Proofs.YtfbbcfhdjhiejaaGreat.L Go.Proofs.YtfbbcfhdjhiejaaGreat.Texts Go.Proofs.YtfbbcfhdjhiejaaGreat.Dict Go.Proofs.YtfbbcfhdjhiejaaGreat.Ints
def isPre (s p : ByteArray) : Bool := decide (p.size ≤ s.size ∧ s.extract 0 p.size = p)
set_option maxRecDepth 100000 in
theorem prefix_lite (s p : ByteArray) (w : World) (hs : s.size ≤ 140737488351232) (hp : p.size ≤ 140737488351232) :
  Calls Tryz.prog 123 #[.string s, .string p] w fun e w' => e = .returned (.bool (isPre s p)) ∧ w' = w := by
 by_cases h : p.size ≤ s.size
 ·have hi : (p.size : Int) ≤ (s.size : Int) := by omega
  by_cases he : s.extract 0 p.size = p
  ·have hb : ((s.extract 0 p.size).toList == p.toList) = true := (Lib.bytes_beq_iff _ _).2 he
   have hr := Lib.hid (show isPre s p = true from decide_eq_true ⟨h, he⟩)
   clear h he
   go_enter Tryz.func123, Tryz.ntmps123
   go_wp2_with (fail)
   go_ret
   rw [hr.out]
   exact ⟨rfl, rfl⟩
  ·have hb : ((s.extract 0 p.size).toList == p.toList) = false := (Lib.bytes_beq_false_iff _ _).2 he
   have hr := Lib.hid (show isPre s p = false from decide_eq_false (fun h => he h.2))
   clear h he
   go_enter Tryz.func123, Tryz.ntmps123
   go_wp2_with (fail)
   go_ret
   rw [hr.out]
   exact ⟨rfl, rfl⟩
 ·have hi : (s.size : Int) < (p.size : Int) := by omega
  have hr := Lib.hid (show isPre s p = false from decide_eq_false (fun hh => h hh.1))
  clear h
  go_enter Tryz.func123, Tryz.ntmps123
  go_wp2_with (fail)
  go_ret
  rw [hr.out]
  exact ⟨rfl, rfl⟩
theorem prefix_any (s p : ByteArray) (w : World) (hs : s.size ≤ 140737488351232) (hp : p.size ≤ 140737488351232) :
  Calls Tryz.prog 90 #[.string s, .string p] w fun e w' => e = .returned (.bool (isPre s p)) ∧ w' = w := by
 go_enter Tryz.func90, Tryz.ntmps90
 go_wp2_with (fail)
 refine (prefix_lite s p w hs hp).mono ?_
 rintro e w1 ⟨rfl, rfl⟩
 go_wp2_with (fail)
 go_ret
 exact ⟨rfl, rfl⟩
theorem all_any (p : Option Addr) (l : List ByteArray) (w : World) (h : DP w p l) (h100 : l.length ≤ 100) :
  Calls Tryz.prog 40 #[.pointer p] w fun e w' => ∃ v, e = .returned v ∧ KS.R 9 w' w.heap.size (fun _ => True) v l ∧ Below w.heap.size w w' := by
 rcases h with ⟨rfl, rfl⟩ | ⟨b, rfl, A, c, hb, hc⟩
 ·go_enter Tryz.func40, Tryz.ntmps40
  go_wp2_with (fail)
  go_ret
  exact ⟨_, rfl, Kd.R_nil _ _ _ _ _, Below.refl _ _⟩
 ·obtain ⟨d0, d1⟩ := one_cell hb
  have HC := Lib.hid hc
  clear hb hc
  go_enter Tryz.func40, Tryz.ntmps40
  go_wp2_with (fail)
  refine (clone_texts _ _ _ _ _ HC.out (by omega)).mono ?_
  rintro e w1 ⟨v, rfl, hr, hbw⟩
  have HR := Lib.hid hr
  have HB := Lib.hid hbw
  clear hr hbw
  go_wp2_with (fail)
  go_ret
  exact ⟨_, rfl, HR.out, HB.out⟩
/-! ### hits.Longest -/
/-- Does phrase k stand at a? -/
def stands (l : List ByteArray) (b : ByteArray) (a k : Nat) : Bool := isPre (b.extract a b.size) (l.getD k no)
theorem stands_iff (l : List ByteArray) (b : ByteArray) (a k : Nat) (ha : a ≤ b.size) : stands l b a k = true ↔ (l.getD k no).size ≤ b.size - a ∧ piece b a (l.getD k no).size = l.getD k no := by
 unfold stands isPre piece
 rw [decide_eq_true_eq, ByteArray.size_extract, ByteArray.extract_extract]
 constructor
 ·rintro ⟨h1, h2⟩
  refine ⟨by omega, ?_⟩
  rw [Nat.add_zero, Nat.min_eq_left (by omega)] at h2
  exact h2
 ·rintro ⟨h1, h2⟩
  refine ⟨by omega, ?_⟩
  rw [Nat.min_eq_left (by omega)]
  simpa using h2
def Inv (l : List ByteArray) (b : ByteArray) (a k : Nat) (id : Int) (long : Nat) : Prop :=
 ((id = -1 ∧ long = 0) ∨ ∃ j : Nat, j < k ∧ id = j ∧ stands l b a j = true ∧ long = (l.getD j no).size ∧ long ≠ 0) ∧ ∀ i, i < k → stands l b a i = true → (l.getD i no).size ≤ long
/-- The number of the longest phrase that stands there; -1: none does. -/
def idOf (l : List ByteArray) (b : ByteArray) (a : Nat) : Int := if longest l b a = 0 then (-1 : Int) else ((idx (piece b a (longest l b a)) l : Nat) : Int)
theorem idOf_none {l : List ByteArray} {b : ByteArray} {a : Nat} (h : longest l b a = 0) : idOf l b a = -1 := by unfold idOf; rw [if_pos h]
theorem idOf_some {l : List ByteArray} {b : ByteArray} {a : Nat} (h : longest l b a ≠ 0) : idOf l b a = ((idx (piece b a (longest l b a)) l : Nat) : Int) := by unfold idOf; rw [if_neg h]
theorem inv_end (l : List ByteArray) (b : ByteArray) (a : Nat) (ha : a ≤ b.size) (id : Int) (long : Nat) (hok : okTexts l) (h : Inv l b a l.length id long) :
  long = longest l b a ∧ id = idOf l b a := by
 obtain ⟨h1, h2⟩ := h
 have hle : longest l b a ≤ long := by
  by_cases h0 : longest l b a = 0
  ·omega
  ·have hh : has (piece b a (longest l b a)) l = true := lon_has l b a (min 40 (b.size - a)) h0
   have hl : longest l b a ≤ min 40 (b.size - a) := lon_le l b a (min 40 (b.size - a))
   have hp := piece_size b a (longest l b a) (by omega)
   have hi := (idx_mem _ _).2 ((has_iff _ _).1 hh)
   have hg := idx_get _ _ hi
   have hs := (stands_iff l b a (idx (piece b a (longest l b a)) l) ha).2 (by
    rw [show l.getD (idx (piece b a (longest l b a)) l) no = piece b a (longest l b a) from hg, hp]
    exact ⟨by omega, rfl⟩)
   have := h2 _ hi hs
   rw [show l.getD (idx (piece b a (longest l b a)) l) no = piece b a (longest l b a) from hg, hp] at this
   exact this
 rcases h1 with ⟨rfl, rfl⟩ | ⟨j, hj, rfl, hs, hl, hn⟩
 ·have h0 : longest l b a = 0 := by omega
  exact ⟨h0.symm, (idOf_none h0).symm⟩
 ·obtain ⟨s1, s2⟩ := (stands_iff l b a j ha).1 hs
  have hmem : l.getD j no ∈ l := getD_mem l j hj
  have h40 := (hok.2 j hj).2.1
  have hge : long ≤ longest l b a := lon_ge l b a _ long (by rw [hl]; omega) hn ((has_iff _ _).2 (by rw [hl, s2]; exact hmem))
  have he : long = longest l b a := by omega
  refine ⟨he, ?_⟩
  rw [idOf_some (by omega), ← he, hl, s2]
  have h3 := (hok.2 j hj).2.2.2
  have h4 := idx_self l j hj
  omega
set_option maxRecDepth 100000 in
set_option maxHeartbeats 1000000 in
theorem longest_any (p : Option Addr) (l : List ByteArray) (b : ByteArray) (a : Nat) (w : World) (h : DP w p l) (hok : okTexts l) (ha : a < b.size) (hbs : b.size ≤ 140737488351232) :
  Calls Tryz.prog 89 #[.pointer p, .string b, .int .i64 a] w fun e w' => Below w.heap.size w w' ∧
   e = .returned (.tuple #[.int .i64 (idOf l b a), .int .i64 (longest l b a : Nat)]) := by
 have H := Lib.hid h
 have HOK := Lib.hid hok
 have h100 := hok.1
 have ha0 : (0 : Int) ≤ (a : Int) := by omega
 have ha1 : (a : Int) < (b.size : Int) := by omega
 have ha2 : (a : Int) ≤ (b.size : Int) := by omega
 have ha3 : ((a : Int)).toNat = a := by omega
 clear h hok
 go_enter Tryz.func89, Tryz.ntmps89
 go_wp2_with (fail)
 refine (all_any _ _ _ H.out h100).mono ?_
 rintro e w1 ⟨v, rfl, hr, hb1⟩
 obtain ⟨A1, c1, rfl⟩ := Kd.R_slice hr
 have HC := Lib.hid (Kd.R_reads' hr).2.2
 have HB := Lib.hid hb1
 clear hr hb1
 go_wp2_with (fail)
 go_loopg [8, 9, 23] l.length (fun j id long i wr => ∃ (k : Nat) (I : Int) (L : Nat), k + j = l.length ∧ i = .int .i64 k ∧ id = .int .i64 I ∧ long = .int .i64 (L : Nat) ∧ Hid (Inv l b a k I L ∧ ∃ q, wr = w1.drewN q))
 case atStart => exact ⟨0, -1, 0, by omega, rfl, rfl, rfl, ⟨.inl ⟨rfl, rfl⟩, fun i hi => absurd hi (Nat.not_lt_zero i)⟩, 0, rfl⟩
 case round =>
  obtain ⟨k, I, L, hk, rfl, rfl, rfl, HI⟩ := hrel
  obtain ⟨hinv, q, rfl⟩ := HI.out
  by_cases hlt : k < l.length
  ·obtain ⟨ad, rfl, x0⟩ := strs_at (Kd.C_drewN HC.out q) k hlt
   have h40 := (HOK.out.2 k hlt).2.1
   obtain ⟨hi1, hi2⟩ := hinv
   have hst : stands l b a k = isPre (b.extract a b.size) (l.getD k no) := rfl
   obtain ⟨s, hs⟩ : ∃ s, l.getD k no = s := ⟨_, rfl⟩
   rw [hs] at x0 h40 hst
   have i0 : (0 : Int) ≤ k := by omega
   have i1 : (k : Int) < (l.length : Int) := by omega
   have i2 : ((k : Int)).toNat = k := by omega
   have HS := Lib.hid hs
   have H1 := Lib.hid hi1
   have H2 := Lib.hid hi2
   have HST := Lib.hid hst
   have hes : (b.extract a b.size).size ≤ 140737488351232 := by rw [ByteArray.size_extract]; omega
   clear HI hi1 hi2 hs hst
   by_cases hL : L < s.size
   ·have hLi : (L : Int) < (s.size : Int) := by omega
    cases hpre : isPre (b.extract a b.size) s
    ·have HP := Lib.hid hpre
     go_wp2_with (go_at_call 90; refine (prefix_any _ _ _ hes (by omega)).mono ?_; rintro e w2 ⟨rfl, rfl⟩; rw [HP.out])
     go_roundg (l.length - (k + 1))
     case measure => omega
     case rel =>
      refine ⟨k + 1, I, L, by omega, by go_num, rfl, rfl, ⟨?_, fun i hi hsi => ?_⟩, _, rfl⟩
      ·rcases H1.out with h | ⟨j, hj, h⟩
       ·exact .inl h
       ·exact .inr ⟨j, by omega, h⟩
      ·by_cases hik : i = k
       ·subst hik
        rw [HST.out, HP.out] at hsi
        cases hsi
       ·exact H2.out i (by omega) hsi
    ·have HP := Lib.hid hpre
     go_wp2_with (go_at_call 90; refine (prefix_any _ _ _ hes (by omega)).mono ?_; rintro e w2 ⟨rfl, rfl⟩; rw [HP.out])
     go_roundg (l.length - (k + 1))
     case measure => omega
     case rel =>
      refine ⟨k + 1, k, s.size, by omega, by go_num, rfl, rfl, ⟨.inr ⟨k, by omega, rfl, by rw [HST.out, HP.out], by rw [HS.out], by omega⟩, fun i hi hsi => ?_⟩, _, rfl⟩
      by_cases hik : i = k
      ·subst hik
       rw [HS.out]
       exact Nat.le_refl _
      ·have := H2.out i (by omega) hsi
       omega
   ·have hLi : (s.size : Int) ≤ (L : Int) := by omega
    go_wp2_with (fail)
    go_roundg (l.length - (k + 1))
    case measure => omega
    case rel =>
     refine ⟨k + 1, I, L, by omega, by go_num, rfl, rfl, ⟨?_, fun i hi hsi => ?_⟩, _, rfl⟩
     ·rcases H1.out with h | ⟨j, hj, h⟩
      ·exact .inl h
      ·exact .inr ⟨j, by omega, h⟩
     ·by_cases hik : i = k
      ·subst hik
       rw [HS.out]
       omega
      ·exact H2.out i (by omega) hsi
  ·obtain rfl : k = l.length := by omega
   obtain ⟨e1, e2⟩ := inv_end l b a (by omega) I L HOK.out hinv
   have E1 := Lib.hid e1
   have E2 := Lib.hid e2
   clear hinv HI e1 e2
   go_wp2_with (fail)
   go_ret2
   rw [← E1.out, ← E2.out]
   exact ⟨below_drewN HB.out q, rfl⟩
/-! ### Next and Parse -/
theorem bt_byteAt (b : ByteArray) (a : Nat) (h : a < b.size) : (((b[a]'h).toNat : Nat) : Int) = byteAt b a := by
 unfold byteAt
 rw [List.getD_eq_getElem?_getD, List.getElem?_eq_getElem (by rw [Array.length_toList]; exact h)]
 rfl
def nextTok (l : List ByteArray) (b : ByteArray) (k : Int) : Int := if 0 ≤ k ∧ k < (b.size : Int) then tokenOf l b k.toNat (firstLen l b k.toNat) else 0
def nextLen (l : List ByteArray) (b : ByteArray) (k : Int) : Nat := if 0 ≤ k ∧ k < (b.size : Int) then firstLen l b k.toNat else 0
theorem next_in {l : List ByteArray} {b : ByteArray} {a : Nat} (h : a < b.size) : nextTok l b a = tokenOf l b a (firstLen l b a) ∧ nextLen l b a = firstLen l b a := by
 unfold nextTok nextLen
 rw [if_pos (by omega), if_pos (by omega), Int.toNat_natCast]
 exact ⟨rfl, rfl⟩
theorem next_out {l : List ByteArray} {b : ByteArray} {k : Int} (h : k < 0 ∨ (b.size : Int) ≤ k) : nextTok l b k = 0 ∧ nextLen l b k = 0 := by
 unfold nextTok nextLen
 rw [if_neg (by omega), if_neg (by omega)]
 exact ⟨rfl, rfl⟩
set_option maxRecDepth 100000 in
set_option maxHeartbeats 1000000 in
theorem next_any (p : Option Addr) (l : List ByteArray) (b : ByteArray) (k : Int) (w : World) (h : DP w p l) (hok : okTexts l) (hbs : b.size ≤ 140737488351232) :
  Calls Tryz.prog 59 #[.pointer p, .string b, .int .i64 k] w fun e w' => Below w.heap.size w w' ∧ e = .returned (.tuple #[.int .i64 (nextTok l b k), .int .i64 (nextLen l b k : Nat)]) := by
 have H := Lib.hid h
 have HOK := Lib.hid hok
 have h100 := hok.1
 clear h hok
 by_cases h0 : k < 0
 ·obtain ⟨n1, n2⟩ := next_out (l := l) (b := b) (k := k) (.inl h0)
  have N1 := Lib.hid n1
  have N2 := Lib.hid n2
  clear n1 n2
  go_enter Tryz.func59, Tryz.ntmps59
  go_wp2_with (fail)
  go_ret2
  rw [N1.out, N2.out]
  exact ⟨Below.refl _ _, rfl⟩
 ·by_cases h1 : (b.size : Int) ≤ k
  ·obtain ⟨n1, n2⟩ := next_out (l := l) (b := b) (k := k) (.inr h1)
   have N1 := Lib.hid n1
   have N2 := Lib.hid n2
   have h00 : 0 ≤ k := by omega
   clear n1 n2 h0
   go_enter Tryz.func59, Tryz.ntmps59
   go_wp2_with (fail)
   go_ret2
   rw [N1.out, N2.out]
   exact ⟨Below.refl _ _, rfl⟩
  ·obtain ⟨a, rfl⟩ := Int.eq_ofNat_of_zero_le (by omega : 0 ≤ k)
   have ha : a < b.size := by omega
   have ha0 : (0 : Int) ≤ (a : Int) := by omega
   have ha1 : (a : Int) < (b.size : Int) := by omega
   have ha3 : ((a : Int)).toNat = a := by omega
   obtain ⟨n1, n2⟩ := next_in (l := l) ha
   by_cases hl : longest l b a = 0
   ·obtain ⟨t1, t2⟩ := token_byte l b a ha hl
    have N1 := Lib.hid (show nextTok l b a = wrap64 (((b[a]'ha).toNat : Nat) : Int) by
     rw [n1, t1, t2, bt_byteAt b a ha]
     have := byteAt_lt b a
     unfold wrap64
     omega)
    have N2 := Lib.hid (show nextLen l b a = 1 by rw [n2, t1])
    have I1 := Lib.hid (idOf_none hl)
    have HL := Lib.hid hl
    clear n1 n2 t1 t2 h0 h1 hl
    go_enter Tryz.func59, Tryz.ntmps59
    go_wp2_with (fail)
    refine (longest_any _ _ _ _ _ H.out HOK.out ha hbs).mono ?_
    rintro e w1 ⟨hb, rfl⟩
    have HB := Lib.hid hb
    rw [I1.out, HL.out]
    clear hb
    go_wp2_with (fail)
    go_ret2
    rw [N1.out, N2.out]
    exact ⟨HB.out, rfl⟩
   ·obtain ⟨t1, t2, t3⟩ := token_phrase l b a hl
    obtain ⟨L, hL⟩ : ∃ L, longest l b a = L := ⟨_, rfl⟩
    obtain ⟨I, hI⟩ : ∃ I, idx (piece b a (longest l b a)) l = I := ⟨_, rfl⟩
    have hI2 : I ≤ 100 := by have := idx_le (piece b a (longest l b a)) l; omega
    have hI3 : (0 : Int) ≤ (I : Int) := by omega
    have N1 := Lib.hid (show nextTok l b a = 256 + (I : Int) by rw [n1, t1, t3, hI])
    have N2 := Lib.hid (show nextLen l b a = L by rw [n2, t1, hL])
    have I1 := Lib.hid (show idOf l b a = (I : Int) by rw [idOf_some hl, hI])
    have HL := Lib.hid hL
    clear n1 n2 t1 t2 t3 h0 h1 hl hL hI
    go_enter Tryz.func59, Tryz.ntmps59
    go_wp2_with (fail)
    refine (longest_any _ _ _ _ _ H.out HOK.out ha hbs).mono ?_
    rintro e w1 ⟨hb, rfl⟩
    have HB := Lib.hid hb
    rw [I1.out, HL.out]
    clear hb
    go_wp2_with (fail)
    go_ret2
    rw [N1.out, N2.out]
    exact ⟨HB.out, rfl⟩
set_option maxRecDepth 100000 in
set_option maxHeartbeats 1000000 in
theorem parse_any (p : Option Addr) (l : List ByteArray) (b : ByteArray) (w : World) (h : DP w p l) (hok : okTexts l) (hbs : b.size ≤ 1024) :
  Calls Tryz.prog 24 #[.pointer p, .string b] w fun e w' => ∃ v, e = .returned v ∧ KI.R 3 w' w.heap.size (fun _ => True) v (parse l b) ∧ Below w.heap.size w w' := by
 have H := Lib.hid h
 have HOK := Lib.hid hok
 have hbi : (b.size : Int) ≤ 1024 := by omega
 clear h hok
 go_enter Tryz.func24, Tryz.ntmps24
 go_wp2_with (fail)
 go_loopg [5, 6] b.size (fun j v i wr => ∃ (a : Nat) (xs : List Int), i = .int .i64 a ∧ Hid (a + j = b.size ∧ xs.length ≤ a ∧ parse l b = xs ++ from_ l b a ∧ KI.R 3 wr w.heap.size (fun _ => True) v xs ∧ Below w.heap.size w wr))
 case atStart => exact ⟨0, [], rfl, by omega, Nat.le_refl _, (from_zero l b).symm, Kd.R_nil _ _ _ _ _, Below.refl _ _⟩
 case round =>
  obtain ⟨a, xs, rfl, HI⟩ := hrel
  obtain ⟨haj, hxa, hgo, hr, hb⟩ := HI.out
  by_cases hlt : a < b.size
  ·have hlti : (a : Int) < (b.size : Int) := by omega
   obtain ⟨n1, n2⟩ := next_in (l := l) hlt
   have hst := from_step l b a hlt
   have hf1 := firstLen_pos l b a
   have hf2 := firstLen_fits l b a hlt
   obtain ⟨T, hT⟩ : ∃ T, tokenOf l b a (firstLen l b a) = T := ⟨_, rfl⟩
   obtain ⟨F, hF⟩ : ∃ F, firstLen l b a = F := ⟨_, rfl⟩
   rw [hT] at n1 hst
   rw [hF] at n2 hst hf1 hf2
   rw [hst] at hgo
   have N1 := Lib.hid n1
   have N2 := Lib.hid n2
   have HGO := Lib.hid hgo
   have HXA := Lib.hid hxa
   have HAJ := Lib.hid haj
   have HR := Lib.hid hr
   have HB := Lib.hid hb
   obtain ⟨A5, c5, rfl⟩ := Kd.R_slice hr
   have s1 : ((a + F : Nat) : Int) = (a : Int) + (F : Int) := by omega
   have S1 := Lib.hid s1
   clear n1 n2 hst hgo hxa haj hr hb hT hF HI s1
   go_wp2_with (fail)
   refine (next_any _ _ _ _ _ (H.out.below HB.out) HOK.out (by omega)).mono ?_
   rintro e w1 ⟨hb1, rfl⟩
   rw [N1.out, N2.out]
   have HB1 := Lib.hid (Ints.bel_trans HB.out HB.out.size hb1)
   have HR1 := Lib.hid (Kd.R_below HR.out hb1)
   clear hb1 HB HR
   go_wp2_with (((with_reducible refine gate_builtin (b := .append) (xs := #[.tmp 23, .tmp 25]) rfl ?_); at_builtin; apply stopper))
   unfold Stopper
   refine Kd.R_append KI (w0 := w) w.heap.size rfl (.tmp 23) (.tmp 25) 26 3 (.int .i64 0) 8 rfl Tryz.underlying26 infoInt rfl (by decide) (by omega) (.slice A5 xs.length c5) xs T [.int .i64 T] (fun _ => True) (fun _ => False) rfl rfl rfl (fun _ hk => hk.elim) (fun _ _ => trivial) HR1.out HB1.out HB1.out.size (by have := HXA.out; omega) ?_
   intro v1 w2 ho hb2 hg2 hat2
   have HR2 := Lib.hid ho
   have HB2 := Lib.hid hb2
   clear ho hb2 hg2 hat2 HR1 HB1
   go_wp2
   go_roundg (b.size - (a + F))
   case measure => have := HAJ.out; omega
   case rel => exact ⟨a + F, xs ++ [T], by rw [S1.out], by omega, by rw [List.length_append]; have := HXA.out; simp; omega, by rw [HGO.out, List.append_assoc]; rfl, HR2.out, HB2.out⟩
  ·have hge : (b.size : Int) ≤ (a : Int) := by omega
   rw [from_end l b a (by omega), List.append_nil] at hgo
   have HGO := Lib.hid hgo
   have HR := Lib.hid hr
   have HB := Lib.hid hb
   clear hgo hr hb HI haj hxa
   go_wp2_with (fail)
   go_ret
   exact ⟨_, rfl, by rw [HGO.out]; exact HR.out, HB.out⟩
end Go.Proofs.YtfbbcfhdjhiejaaGreat.Greedy

/- Chapter 14: what flex computes, in plain Lean. -/
namespace Go.Proofs.YtfbbcfhdjhiejaaGreat.Flex
set_option linter.unusedVariables false
set_option linter.unusedSimpArgs false
open Go.Proofs.YtfbbcfhdjhiejaaGreat.Texts Go.Proofs.YtfbbcfhdjhiejaaGreat.Dict Go.Proofs.YtfbbcfhdjhiejaaGreat.Greedy
/-! ### going step by step -/
def stepsGo (size : Nat) (tok : Nat → Int) (st : Nat → Nat) : Nat → Nat → List Int
 | 0, _ => []
 | f + 1, a => if a < size then tok a :: stepsGo size tok st f (a + st a) else []
def stepsFrom (size : Nat) (tok : Nat → Int) (st : Nat → Nat) (a : Nat) : List Int := stepsGo size tok st (size - a) a
theorem stepsGo_fuel (size : Nat) (tok : Nat → Int) (st : Nat → Nat) (h1 : ∀ a, a < size → 1 ≤ st a) : ∀ f a, size - a ≤ f → stepsGo size tok st f a = stepsFrom size tok st a := by
 intro f
 induction f using Nat.strongRecOn with
 | _ f ih =>
   intro a h
   unfold stepsFrom
   by_cases ha : a < size
   ·obtain ⟨f', rfl⟩ : ∃ f', f = f' + 1 := ⟨f - 1, by omega⟩
    obtain ⟨g, hg⟩ : ∃ g, size - a = g + 1 := ⟨size - a - 1, by omega⟩
    have h1 := h1 a ha
    rw [hg]
    unfold stepsGo
    rw [if_pos ha, if_pos ha, ih f' (by omega) (a + st a) (by omega)]
    by_cases hgf : g < f' + 1
    ·rw [ih g hgf (a + st a) (by omega)]
    ·omega
   ·have e : size - a = 0 := by omega
    rw [e]
    cases f with
    | zero => rfl
    | succ f => unfold stepsGo; rw [if_neg ha]
theorem steps_step (size : Nat) (tok : Nat → Int) (st : Nat → Nat) (h1 : ∀ a, a < size → 1 ≤ st a) (a : Nat) (h : a < size) : stepsFrom size tok st a = tok a :: stepsFrom size tok st (a + st a) := by
 obtain ⟨g, hg⟩ : ∃ g, size - a = g + 1 := ⟨size - a - 1, by omega⟩
 have h2 := h1 a h
 have h3 := stepsGo_fuel size tok st h1 g (a + st a) (by omega)
 rw [← h3]
 unfold stepsFrom
 rw [hg]
 show (if a < size then _ else _) = _
 rw [if_pos h]
theorem steps_end (size : Nat) (tok : Nat → Int) (st : Nat → Nat) (a : Nat) (h : size ≤ a) : stepsFrom size tok st a = [] := by
 unfold stepsFrom
 rw [show size - a = 0 by omega]
 rfl
/-! ### the choice at a place -/
/-- How many bytes greedy takes at a place; 0 behind the end. -/
def nl (l : List ByteArray) (b : ByteArray) (x : Nat) : Nat := if x < b.size then firstLen l b x else 0
def reach (l : List ByteArray) (b : ByteArray) (a n : Nat) : Nat := a + n + nl l b (a + n)
theorem reach_le (l : List ByteArray) (b : ByteArray) (a n : Nat) (h : a + n ≤ b.size) : reach l b a n ≤ b.size := by
 unfold reach nl
 split
 ·rename_i h2
  exact firstLen_fits l b _ h2
 ·omega
/-- May n bytes be taken there? -/
def cand (l : List ByteArray) (b : ByteArray) (a n : Nat) : Prop := 1 ≤ n ∧ a + n ≤ b.size ∧ (has (piece b a n) l = true ∨ n = 1)
instance (l : List ByteArray) (b : ByteArray) (a n : Nat) : Decidable (cand l b a n) := by unfold cand; exact inferInstance
/-- The best of the lengths up to n; 0: there is none. -/
def sec (l : List ByteArray) (b : ByteArray) (a : Nat) : Nat → Nat
 | 0 => 0
 | n + 1 => if cand l b a (n + 1) ∧ (sec l b a n = 0 ∨ reach l b a (sec l b a n) ≤ reach l b a (n + 1)) then n + 1 else sec l b a n
def IsBest (l : List ByteArray) (b : ByteArray) (a n : Nat) : Prop := cand l b a n ∧ ∀ m, cand l b a m → reach l b a m < reach l b a n ∨ (reach l b a m = reach l b a n ∧ m ≤ n)
theorem isBest_one {l : List ByteArray} {b : ByteArray} {a n m : Nat} (hn : IsBest l b a n) (hm : IsBest l b a m) : n = m := by
 have h1 := hn.2 m hm.1
 have h2 := hm.2 n hn.1
 omega
theorem sec_spec (l : List ByteArray) (b : ByteArray) (a : Nat) : ∀ N, (sec l b a N = 0 ∧ ∀ m, m ≤ N → ¬ cand l b a m) ∨ (sec l b a N ≤ N ∧ cand l b a (sec l b a N) ∧ ∀ m, m ≤ N → cand l b a m → reach l b a m < reach l b a (sec l b a N) ∨ (reach l b a m = reach l b a (sec l b a N) ∧ m ≤ sec l b a N))
 | 0 => by
   left
   refine ⟨rfl, fun m hm hc => ?_⟩
   have := hc.1
   omega
 | N + 1 => by
   unfold sec
   by_cases hc : cand l b a (N + 1) ∧ (sec l b a N = 0 ∨ reach l b a (sec l b a N) ≤ reach l b a (N + 1))
   ·rw [if_pos hc]
    right
    refine ⟨Nat.le_refl _, hc.1, fun m hm hcm => ?_⟩
    by_cases he : m = N + 1
    ·subst he
     exact .inr ⟨rfl, Nat.le_refl _⟩
    ·rcases sec_spec l b a N with ⟨h1, h2⟩ | ⟨h1, h2, h3⟩
     ·exact absurd hcm (h2 m (by omega))
     ·have h4 := h3 m (by omega) hcm
      have h5 : reach l b a (sec l b a N) ≤ reach l b a (N + 1) := by
       rcases hc.2 with h | h
       ·have := h2.1
        omega
       ·exact h
      omega
   ·rw [if_neg hc]
    rcases sec_spec l b a N with ⟨h1, h2⟩ | ⟨h1, h2, h3⟩
    ·left
     refine ⟨h1, fun m hm hcm => ?_⟩
     by_cases he : m = N + 1
     ·subst he
      exact hc ⟨hcm, .inl h1⟩
     ·exact h2 m (by omega) hcm
    ·right
     refine ⟨by omega, h2, fun m hm hcm => ?_⟩
     by_cases he : m = N + 1
     ·subst he
      left
      rcases Nat.lt_or_ge (reach l b a (N + 1)) (reach l b a (sec l b a N)) with h | h
      ·exact h
      ·exact absurd ⟨hcm, .inr h⟩ hc
     ·exact h3 m (by omega) hcm
def bestLen (l : List ByteArray) (b : ByteArray) (a : Nat) : Nat := sec l b a (b.size - a)
theorem cand_one (l : List ByteArray) (b : ByteArray) (a : Nat) (h : a < b.size) : cand l b a 1 := ⟨Nat.le_refl _, by omega, .inr rfl⟩
theorem best_is (l : List ByteArray) (b : ByteArray) (a : Nat) (h : a < b.size) : IsBest l b a (bestLen l b a) := by
 unfold bestLen
 rcases sec_spec l b a (b.size - a) with ⟨h1, h2⟩ | ⟨h1, h2, h3⟩
 ·exact absurd (cand_one l b a h) (h2 1 (by omega))
 ·exact ⟨h2, fun m hm => h3 m (by have := hm.2.1; omega) hm⟩
theorem best_pos (l : List ByteArray) (b : ByteArray) (a : Nat) (h : a < b.size) : 1 ≤ bestLen l b a := (best_is l b a h).1.1
theorem best_fits (l : List ByteArray) (b : ByteArray) (a : Nat) (h : a < b.size) : a + bestLen l b a ≤ b.size := (best_is l b a h).1.2.1
theorem best_has (l : List ByteArray) (b : ByteArray) (a : Nat) (h : a < b.size) : has (piece b a (bestLen l b a)) l = true ∨ bestLen l b a = 1 := (best_is l b a h).1.2.2
/-- flex's tokens from a place on. -/
def fromF (l : List ByteArray) (b : ByteArray) (a : Nat) : List Int := stepsFrom b.size (fun a => tokenOf l b a (bestLen l b a)) (bestLen l b) a
def parseF (l : List ByteArray) (b : ByteArray) : List Int := fromF l b 0
theorem fromF_step (l : List ByteArray) (b : ByteArray) (a : Nat) (h : a < b.size) : fromF l b a = tokenOf l b a (bestLen l b a) :: fromF l b (a + bestLen l b a) := steps_step _ _ _ (best_pos l b) a h
theorem fromF_end (l : List ByteArray) (b : ByteArray) (a : Nat) (h : b.size ≤ a) : fromF l b a = [] := steps_end _ _ _ a h
end Go.Proofs.YtfbbcfhdjhiejaaGreat.Flex

/- Chapter 14: the walks. -/
namespace Go.Proofs.YtfbbcfhdjhiejaaGreat.Flex
set_option linter.unusedVariables false
set_option linter.unusedSimpArgs false
open Go.RowKit Go.Proofs.YtfbbcfhdjhiejaaGreatW.PrintWords Go.Proofs.YtfbbcfhdjhiejaaGreatW.PrintMore Go.Proofs.YtfbbcfhdjhiejaaGreat.L Go.Proofs.YtfbbcfhdjhiejaaGreat.Texts Go.Proofs.YtfbbcfhdjhiejaaGreat.Dict Go.Proofs.YtfbbcfhdjhiejaaGreat.Ints Go.Proofs.YtfbbcfhdjhiejaaGreat.Greedy
/-! ### Reach -/
theorem nl_next (l : List ByteArray) (b : ByteArray) (x : Nat) : nextLen l b (x : Int) = nl l b x := by
 unfold nl
 by_cases h : x < b.size
 ·rw [if_pos h, (next_in h).2]
 ·rw [if_neg h, (next_out (.inr (by omega))).2]
set_option maxRecDepth 100000 in
set_option maxHeartbeats 1000000 in
theorem reach_in (p : Option Addr) (l : List ByteArray) (b : ByteArray) (a n : Nat) (w : World) (h : DP w p l) (hok : okTexts l) (hbs : b.size ≤ 1000000) (han : a + n ≤ b.size) :
  Calls Tryz.prog 91 #[.pointer p, .string b, .int .i64 a, .int .i64 n] w fun e w' => Below w.heap.size w w' ∧ e = .returned (.int .i64 (reach l b a n : Nat)) := by
 have H := Lib.hid h
 have HOK := Lib.hid hok
 have a0 : (0 : Int) ≤ (a : Int) := by omega
 have n0 : (0 : Int) ≤ (n : Int) := by omega
 have a1 : (a : Int) ≤ (b.size : Int) := by omega
 have n1 : (n : Int) ≤ (b.size : Int) - (a : Int) := by omega
 have an : (a : Int) + (n : Int) ≤ 1000000 := by omega
 have hnx : nextLen l b ((a : Int) + (n : Int)) = nl l b (a + n) := by rw [show (a : Int) + (n : Int) = ((a + n : Nat) : Int) by omega, nl_next]
 have hle : reach l b a n ≤ b.size := reach_le l b a n han
 obtain ⟨M, hM⟩ : ∃ M, nl l b (a + n) = M := ⟨_, rfl⟩
 have hr : ((reach l b a n : Nat) : Int) = (a : Int) + (n : Int) + (M : Int) := by unfold reach; rw [hM]; omega
 have hm : (M : Int) ≤ 1000000 := by omega
 have hm0 : (0 : Int) ≤ (M : Int) := by omega
 rw [hM] at hnx
 have HNX := Lib.hid hnx
 have HR := Lib.hid hr
 clear h hok hnx hr hle hM
 go_enter Tryz.func91, Tryz.ntmps91
 go_wp2_with (fail)
 refine (next_any _ l b _ _ H.out HOK.out (by omega)).mono ?_
 rintro e w1 ⟨hb, rfl⟩
 rw [HNX.out]
 have HB := Lib.hid hb
 generalize nextTok l b ((a : Int) + (n : Int)) = T
 clear hb
 go_wp2_with (fail)
 go_ret
 rw [HR.out]
 exact ⟨HB.out, rfl⟩
/-! ### better -/
def betterB (r n r' n' : Int) : Bool := if r = r' then decide (n' < n) else decide (r' < r)
set_option maxRecDepth 100000 in
theorem better_any (t n r t' n' r' : Int) (w : World) :
  Calls Tryz.prog 92 #[.agg #[.int .i64 t, .int .i64 n, .int .i64 r], .agg #[.int .i64 t', .int .i64 n', .int .i64 r']] w fun e w' => e = .returned (.bool (betterB r n r' n')) ∧ Below w.heap.size w w' := by
 have hb2 : Below w.heap.size w ((w.alloc (.cells #[.int .i64 t, .int .i64 n, .int .i64 r] 150 (0, 0))).alloc (.cells #[.int .i64 t', .int .i64 n', .int .i64 r'] 150 (0, 0))) := ((Below.refl _ _).alloc (Nat.le_refl _) _).alloc (by simp) _
 have HB := Lib.hid hb2
 clear hb2
 by_cases h : r = r'
 ·subst h
  have hr := Lib.hid (show betterB r n r n' = decide (n' < n) by unfold betterB; rw [if_pos rfl])
  have e1 : (r != r) = false := by simp
  go_enter Tryz.func92, Tryz.ntmps92
  go_wp2_with (fail)
  go_ret
  rw [hr.out]
  exact ⟨rfl, HB.out⟩
 ·have hr := Lib.hid (show betterB r n r' n' = decide (r' < r) by unfold betterB; rw [if_neg h])
  have e1 : (r != r') = true := bne_iff_ne.2 h
  clear h
  go_enter Tryz.func92, Tryz.ntmps92
  go_wp2_with (fail)
  go_ret
  rw [hr.out]
  exact ⟨rfl, HB.out⟩
end Go.Proofs.YtfbbcfhdjhiejaaGreat.Flex

/- The document's own parses: which phrases stand at a place, the token there, greedy's parse. -/
namespace Go.Proofs.YtfbbcfhdjhiejaaGreat.Greedy
set_option linter.unusedVariables false
set_option linter.unusedSimpArgs false
open Go.RowKit Go.Proofs.YtfbbcfhdjhiejaaGreatW.PrintWords Go.Proofs.YtfbbcfhdjhiejaaGreatW.PrintMore Go.Proofs.YtfbbcfhdjhiejaaGreat.L Go.Proofs.YtfbbcfhdjhiejaaGreat.Texts Go.Proofs.YtfbbcfhdjhiejaaGreat.Dict Go.Proofs.YtfbbcfhdjhiejaaGreat.Ints
theorem bt_byteAt' (b : ByteArray) (a : Nat) (h : a < b.size) : wrap64 (((b[a]'h).toNat : Nat) : Int) = byteAt b a := by
 have h1 : (((b[a]'h).toNat : Nat) : Int) = byteAt b a := by
  unfold byteAt
  rw [List.getD_eq_getElem?_getD, List.getElem?_eq_getElem (by rw [Array.length_toList]; exact h)]
  rfl
 rw [h1]
 have := byteAt_lt b a
 unfold wrap64
 omega
theorem find_has {s : ByteArray} {l : List ByteArray} (h : has s l = true) : find s l = ((idx s l : Nat) : Int) := by
 unfold has at h
 unfold find
 rw [if_pos (of_decide_eq_true h)]
theorem find_none {s : ByteArray} {l : List ByteArray} (h : ¬ has s l = true) : find s l = -1 := by
 unfold has at h
 unfold find
 rw [if_neg (fun h2 => h (decide_eq_true h2))]
set_option maxRecDepth 100000 in
set_option maxHeartbeats 1000000 in
theorem ref_token (A : Option Addr) (c : Nat) (l : List ByteArray) (b : ByteArray) (a n : Nat) (w : World) (h : KS.C w A l.length l) (h100 : l.length ≤ 100) (ha : a < b.size) (hn : a + n ≤ b.size) (hbs : b.size ≤ 1000000) :
  Calls Tryz.prog 164 #[.slice A l.length c, .string b, .int .i64 a, .int .i64 n] w fun e w' => e = .returned (.int .i64 (tokenOf l b a n)) ∧ ∃ q, w' = w.drewN q := by
 have H := Lib.hid h
 have a0 : (0 : Int) ≤ (a : Int) := by omega
 have a1 : (a : Int) + (n : Int) ≤ (b.size : Int) := by omega
 have a2 : (a : Int) < (b.size : Int) := by omega
 have hsl : b.extract a (a + n) = piece b a n := rfl
 clear h
 by_cases hh : has (piece b a n) l = true
 ·have ht := Lib.hid (show tokenOf l b a n = 256 + ((idx (piece b a n) l : Nat) : Int) by unfold tokenOf; rw [if_pos hh])
  have hf := Lib.hid (find_has hh)
  have hi := idx_le (piece b a n) l
  obtain ⟨I, hI⟩ : ∃ I, idx (piece b a n) l = I := ⟨_, rfl⟩
  have HI := Lib.hid hI
  have hi2 : I ≤ 100 := by omega
  have hi3 : (0 : Int) ≤ (I : Int) := by omega
  clear hh hI hi
  go_enter Tryz.func164, Tryz.ntmps164
  go_wp2_with (fail)
  refine (find_any _ _ _ l (piece b a n) _ H.out).mono ?_
  rintro e w1 ⟨rfl, q, rfl⟩
  rw [hf.out, HI.out]
  go_wp2_with (fail)
  go_ret
  rw [ht.out, HI.out]
  exact ⟨rfl, _, rfl⟩
 ·have ht := Lib.hid (show tokenOf l b a n = byteAt b a by unfold tokenOf; rw [if_neg hh])
  have hf := Lib.hid (find_none hh)
  have hb := Lib.hid (bt_byteAt' b a ha)
  clear hh
  go_enter Tryz.func164, Tryz.ntmps164
  go_wp2_with (fail)
  refine (find_any _ _ _ l (piece b a n) _ H.out).mono ?_
  rintro e w1 ⟨rfl, q, rfl⟩
  rw [hf.out]
  go_wp2_with (fail)
  go_ret
  rw [ht.out, ← hb.out]
  exact ⟨rfl, _, rfl⟩
/-- The lengths up to n of phrases that stand at a place, the greatest first. -/
def standsDown (l : List ByteArray) (b : ByteArray) (a : Nat) : Nat → List Int
 | 0 => []
 | n + 1 => if has (piece b a (n + 1)) l = true then ((n + 1 : Nat) : Int) :: standsDown l b a n else standsDown l b a n
theorem standsDown_len (l : List ByteArray) (b : ByteArray) (a : Nat) : ∀ n, (standsDown l b a n).length ≤ n
 | 0 => Nat.le_refl _
 | n + 1 => by
   have := standsDown_len l b a n
   unfold standsDown
   split
   ·rw [List.length_cons]; omega
   ·omega
theorem standsDown_mem (l : List ByteArray) (b : ByteArray) (a : Nat) (x : Int) : ∀ n, x ∈ standsDown l b a n ↔ ∃ m : Nat, x = m ∧ 1 ≤ m ∧ m ≤ n ∧ has (piece b a m) l = true
 | 0 => by
   constructor
   ·intro h; simp [standsDown] at h
   ·rintro ⟨m, _, h1, h2, _⟩; omega
 | n + 1 => by
   have ih := standsDown_mem l b a x n
   unfold standsDown
   by_cases hh : has (piece b a (n + 1)) l = true
   ·rw [if_pos hh, List.mem_cons, ih]
    constructor
    ·rintro (h | ⟨m, h1, h2, h3, h4⟩)
     ·exact ⟨n + 1, h, by omega, Nat.le_refl _, hh⟩
     ·exact ⟨m, h1, h2, by omega, h4⟩
    ·rintro ⟨m, h1, h2, h3, h4⟩
     by_cases he : m = n + 1
     ·subst he
      exact .inl h1
     ·exact .inr ⟨m, h1, h2, by omega, h4⟩
   ·rw [if_neg hh, ih]
    constructor
    ·rintro ⟨m, h1, h2, h3, h4⟩
     exact ⟨m, h1, h2, by omega, h4⟩
    ·rintro ⟨m, h1, h2, h3, h4⟩
     by_cases he : m = n + 1
     ·subst he
      exact absurd h4 hh
     ·exact ⟨m, h1, h2, by omega, h4⟩
theorem standsDown_head (l : List ByteArray) (b : ByteArray) (a : Nat) : ∀ n, (standsDown l b a n = [] ∧ lon l b a n = 0) ∨ (∃ t, standsDown l b a n = ((lon l b a n : Nat) : Int) :: t ∧ lon l b a n ≠ 0)
 | 0 => .inl ⟨rfl, rfl⟩
 | n + 1 => by
   unfold standsDown lon
   by_cases hh : has (piece b a (n + 1)) l = true
   ·rw [if_pos hh, if_pos hh]
    exact .inr ⟨_, rfl, by omega⟩
   ·rw [if_neg hh, if_neg hh]
    exact standsDown_head l b a n
theorem standsDown_pos (l : List ByteArray) (b : ByteArray) (a m K : Nat) (h : m = K + 1) : standsDown l b a m = if has (piece b a m) l = true then (m : Int) :: standsDown l b a K else standsDown l b a K := by
 subst h
 rfl
def stands_ (l : List ByteArray) (b : ByteArray) (a : Nat) : List Int := standsDown l b a (min 40 (b.size - a))
set_option maxRecDepth 100000 in
set_option maxHeartbeats 2000000 in
theorem ref_stands (A : Option Addr) (c : Nat) (l : List ByteArray) (b : ByteArray) (a : Nat) (w : World) (h : KS.C w A l.length l) (ha : a ≤ b.size) (hbs : b.size ≤ 1000000) :
  Calls Tryz.prog 178 #[.slice A l.length c, .string b, .int .i64 a] w fun e w' => ∃ v, e = .returned v ∧ KI.R 3 w' w.heap.size (fun _ => True) v (stands_ l b a) ∧ Below w.heap.size w w' := by
 have H := Lib.hid h
 obtain ⟨N, hN⟩ : ∃ N, min 40 (b.size - a) = N := ⟨_, rfl⟩
 have hst := Lib.hid (show stands_ l b a = standsDown l b a N by unfold stands_; rw [hN])
 have hmn : min (40 : Int) ((b.size : Int) - (a : Int)) = (N : Int) := by omega
 have hN40 : N ≤ 40 := by omega
 have hNa : a + N ≤ b.size := by omega
 have a0 : (0 : Int) ≤ (a : Int) := by omega
 clear h hN
 go_enter Tryz.func178, Tryz.ntmps178
 go_wp2_with (fail)
 go_loopg [7, 8] N (fun j v i wr => ∃ (m : Nat) (xs : List Int), i = .int .i64 m ∧ Hid (m = j ∧ m ≤ N ∧ xs.length + m ≤ N ∧ xs ++ standsDown l b a m = standsDown l b a N ∧ KI.R 3 wr w.heap.size (fun _ => True) v xs ∧ Below w.heap.size w wr))
 case atStart => exact ⟨N, [], rfl, rfl, Nat.le_refl _, by simp, rfl, Kd.R_nil _ _ _ _ _, Below.refl _ _⟩
 case round =>
  obtain ⟨m, xs, rfl, HI⟩ := hrel
  obtain ⟨hmj, hmN, hxl, hgo, hr, hb⟩ := HI.out
  subst hmj
  obtain ⟨A7, c7, rfl⟩ := Kd.R_slice hr
  have HR := Lib.hid hr
  have HB := Lib.hid hb
  have HXL := Lib.hid hxl
  by_cases hm1 : 1 ≤ m
  ·obtain ⟨k, hk⟩ : ∃ k, m = k + 1 := ⟨m - 1, by omega⟩
   have hm1i : (1 : Int) ≤ (m : Int) := by omega
   have a1 : (a : Int) + (m : Int) ≤ (b.size : Int) := by omega
   have a2 : (0 : Int) ≤ (m : Int) := by omega
   have hm40 : (m : Int) ≤ 40 := by omega
   have hkm : k < m := by omega
   have hkN : k ≤ N := by omega
   have HK1 := Lib.hid (show (m : Int) - 1 = (k : Int) by omega)
   have hsl : b.extract a (a + m) = piece b a m := rfl
   rw [standsDown_pos l b a m k hk] at hgo
   have HKK := Lib.hid hk
   clear hk
   by_cases hh : has (piece b a m) l = true
   ·rw [if_pos hh] at hgo
    have HGO := Lib.hid hgo
    have hf := Lib.hid (find_has hh)
    obtain ⟨I, hI⟩ : ∃ I, idx (piece b a m) l = I := ⟨_, rfl⟩
    have HII := Lib.hid hI
    have hi3 : (0 : Int) ≤ (I : Int) := by omega
    clear hgo hr hb hxl HI hh hI
    go_wp2_with (fail)
    refine (find_any _ _ _ l (piece b a m) _ (Kd.C_below H.out HB.out)).mono ?_
    rintro e w1 ⟨rfl, q, rfl⟩
    rw [hf.out, HII.out]
    go_wp2_with (((with_reducible refine gate_builtin (b := .append) (xs := #[.tmp 27, .tmp 29]) rfl ?_); at_builtin; apply stopper))
    unfold Stopper
    refine Kd.R_append KI (w0 := w) w.heap.size rfl (.tmp 27) (.tmp 29) 26 3 (.int .i64 0) 8 rfl Tryz.underlying26 infoInt rfl (by decide) (by omega) (.slice A7 xs.length c7) xs (m : Int) [.int .i64 (m : Int)] (fun _ => True) (fun _ => False) rfl rfl rfl (fun _ hk => hk.elim) (fun _ _ => trivial) (Kd.R_drewN HR.out q) (below_drewN HB.out q) HB.out.size (by have := HXL.out; omega) ?_
    intro v1 w2 ho hb2 hg2 hat2
    have HR2 := Lib.hid ho
    have HB2 := Lib.hid hb2
    clear ho hb2 hg2 hat2 HR HB
    go_wp2
    go_roundg k
    case measure => omega
    case rel => exact ⟨k, xs ++ [(m : Int)], by rw [HK1.out], rfl, hkN, by rw [List.length_append, List.length_singleton]; have := HXL.out; have := HKK.out; omega, by rw [List.append_assoc]; exact HGO.out, HR2.out, HB2.out⟩
   ·rw [if_neg hh] at hgo
    have HGO := Lib.hid hgo
    have hf := Lib.hid (find_none hh)
    clear hgo hr hb hxl HI hh
    go_wp2_with (fail)
    refine (find_any _ _ _ l (piece b a m) _ (Kd.C_below H.out HB.out)).mono ?_
    rintro e w1 ⟨rfl, q, rfl⟩
    rw [hf.out]
    go_wp2_with (fail)
    go_roundg k
    case measure => omega
    case rel => exact ⟨k, xs, by rw [HK1.out], rfl, hkN, by have := HXL.out; have := HKK.out; omega, HGO.out, Kd.R_drewN HR.out q, below_drewN HB.out q⟩
  ·obtain rfl : m = 0 := by omega
   rw [show standsDown l b a 0 = [] from rfl, List.append_nil] at hgo
   have HGO := Lib.hid hgo
   clear hgo hr hb hxl HI
   go_wp2_with (fail)
   go_ret
   exact ⟨_, rfl, by rw [hst.out, ← HGO.out]; exact HR.out, HB.out⟩
set_option maxRecDepth 100000 in
set_option maxHeartbeats 1000000 in
theorem ref_first (A : Option Addr) (c : Nat) (l : List ByteArray) (b : ByteArray) (a : Nat) (w : World) (h : KS.C w A l.length l) (ha : a ≤ b.size) (hbs : b.size ≤ 1000000) :
  Calls Tryz.prog 163 #[.slice A l.length c, .string b, .int .i64 a] w fun e w' => e = .returned (.int .i64 (firstLen l b a : Nat)) ∧ Below w.heap.size w w' := by
 have H := Lib.hid h
 clear h
 go_enter Tryz.func163, Tryz.ntmps163
 go_wp2_with (fail)
 refine (ref_stands _ _ l b a _ H.out ha hbs).mono ?_
 rintro e w1 ⟨v, rfl, hr, hb⟩
 have HB := Lib.hid hb
 rcases standsDown_head l b a (min 40 (b.size - a)) with ⟨h1, h2⟩ | ⟨t, h1, h2⟩
 ·have h1' : stands_ l b a = [] := h1
  have hf := Lib.hid (show firstLen l b a = 1 by unfold firstLen longest; rw [if_pos h2])
  rw [h1'] at hr
  obtain ⟨A7, c7, rfl⟩ := Kd.R_slice hr
  clear hb h1 h1' h2 hr
  go_wp2_with (fail)
  go_ret
  rw [hf.out]
  exact ⟨rfl, HB.out⟩
 ·have h1' : stands_ l b a = ((lon l b a (min 40 (b.size - a)) : Nat) : Int) :: t := h1
  have hf := Lib.hid (show firstLen l b a = lon l b a (min 40 (b.size - a)) by unfold firstLen longest; rw [if_neg h2])
  obtain ⟨F, hF⟩ : ∃ F, lon l b a (min 40 (b.size - a)) = F := ⟨_, rfl⟩
  rw [h1', hF] at hr
  rw [hF] at hf
  obtain ⟨A7, c7, rfl⟩ := Kd.R_slice hr
  obtain ⟨ad, rfl, x0⟩ := ints_at (Kd.R_reads' hr).2.2 0 (by rw [List.length_cons]; omega)
  have hlen : (0 : Int) < (((F : Int) :: t).length : Int) := by rw [List.length_cons]; omega
  obtain ⟨Ln, hLn⟩ : ∃ Ln, ((F : Int) :: t).length = Ln := ⟨_, rfl⟩
  rw [hLn] at hlen ⊢
  have hlen2 : 0 < Ln := by omega
  have x1 : w1.cell? (ad.add 0) = some (.int .i64 F) := x0
  have x2 : w1.cell? ad = some (.int .i64 F) := by
   have h0 : ad.add 0 = ad := by cases ad; simp [Addr.add]
   rw [h0] at x1
   exact x1
  clear hb h1 h1' h2 hr hF x0 hLn
  go_wp2_with (fail)
  go_ret
  rw [hf.out]
  exact ⟨rfl, HB.out⟩
set_option maxRecDepth 100000 in
set_option maxHeartbeats 1000000 in
theorem ref_greedy (A : Option Addr) (c : Nat) (l : List ByteArray) (b : ByteArray) (w : World) (h : KS.C w A l.length l) (h100 : l.length ≤ 100) (hbs : b.size ≤ 1000000) :
  Calls Tryz.prog 141 #[.slice A l.length c, .string b] w fun e w' => ∃ v, e = .returned v ∧ KI.R 3 w' w.heap.size (fun _ => True) v (parse l b) ∧ Below w.heap.size w w' := by
 have H := Lib.hid h
 clear h
 go_enter Tryz.func141, Tryz.ntmps141
 go_wp2_with (fail)
 go_loopg [5, 6] b.size (fun j v i wr => ∃ (a : Nat) (xs : List Int), i = .int .i64 a ∧ Hid (a + j = b.size ∧ xs.length ≤ a ∧ parse l b = xs ++ from_ l b a ∧ KI.R 3 wr w.heap.size (fun _ => True) v xs ∧ Below w.heap.size w wr))
 case atStart => exact ⟨0, [], rfl, by omega, Nat.le_refl _, (from_zero l b).symm, Kd.R_nil _ _ _ _ _, Below.refl _ _⟩
 case round =>
  obtain ⟨a, xs, rfl, HI⟩ := hrel
  obtain ⟨haj, hxa, hgo, hr, hb⟩ := HI.out
  by_cases hlt : a < b.size
  ·have hlti : (a : Int) < (b.size : Int) := by omega
   have hst := from_step l b a hlt
   have hf1 := firstLen_pos l b a
   have hf2 := firstLen_fits l b a hlt
   obtain ⟨F, hF⟩ : ∃ F, firstLen l b a = F := ⟨_, rfl⟩
   rw [hF] at hst hf1 hf2
   obtain ⟨T, hT⟩ : ∃ T, tokenOf l b a F = T := ⟨_, rfl⟩
   rw [hT] at hst
   rw [hst] at hgo
   have HT := Lib.hid hT
   have HF := Lib.hid hF
   have HGO := Lib.hid hgo
   have HXA := Lib.hid hxa
   have HAJ := Lib.hid haj
   have HR := Lib.hid hr
   have HB := Lib.hid hb
   obtain ⟨A5, c5, rfl⟩ := Kd.R_slice hr
   have S1 := Lib.hid (show ((a + F : Nat) : Int) = (a : Int) + (F : Int) by omega)
   clear hst hgo hxa haj hr hb hT hF HI
   go_wp2_with (fail)
   refine (ref_first _ _ l b a _ (Kd.C_below H.out HB.out) (by omega) hbs).mono ?_
   rintro e w1 ⟨rfl, hb1⟩
   rw [HF.out]
   have HB1 := Lib.hid (Ints.bel_trans HB.out HB.out.size hb1)
   have HR1 := Lib.hid (Kd.R_below HR.out hb1)
   clear hb1 HB HR
   go_wp2_with (fail)
   refine (ref_token _ _ l b a F _ (Kd.C_below H.out HB1.out) h100 hlt hf2 hbs).mono ?_
   rintro e w2 ⟨rfl, q, rfl⟩
   rw [HT.out]
   go_wp2_with (((with_reducible refine gate_builtin (b := .append) (xs := #[.tmp 16, .tmp 22]) rfl ?_); at_builtin; apply stopper))
   unfold Stopper
   refine Kd.R_append KI (w0 := w) w.heap.size rfl (.tmp 16) (.tmp 22) 26 3 (.int .i64 0) 8 rfl Tryz.underlying26 infoInt rfl (by decide) (by omega) (.slice A5 xs.length c5) xs T [.int .i64 T] (fun _ => True) (fun _ => False) rfl rfl rfl (fun _ hk => hk.elim) (fun _ _ => trivial) (Kd.R_drewN HR1.out q) (below_drewN HB1.out q) HB1.out.size (by have := HXA.out; omega) ?_
   intro v1 w3 ho hb2 hg2 hat2
   have HR2 := Lib.hid ho
   have HB2 := Lib.hid hb2
   clear ho hb2 hg2 hat2 HR1 HB1
   go_wp2
   go_roundg (b.size - (a + F))
   case measure => have := HAJ.out; omega
   case rel => exact ⟨a + F, xs ++ [T], by rw [S1.out], by omega, by rw [List.length_append]; have := HXA.out; simp; omega, by rw [HGO.out, List.append_assoc]; rfl, HR2.out, HB2.out⟩
  ·have hge : (b.size : Int) ≤ (a : Int) := by omega
   rw [from_end l b a (by omega), List.append_nil] at hgo
   have HGO := Lib.hid hgo
   have HR := Lib.hid hr
   have HB := Lib.hid hb
   clear hgo hr hb HI haj hxa
   go_wp2_with (fail)
   go_ret
   exact ⟨_, rfl, by rw [HGO.out]; exact HR.out, HB.out⟩
end Go.Proofs.YtfbbcfhdjhiejaaGreat.Greedy
