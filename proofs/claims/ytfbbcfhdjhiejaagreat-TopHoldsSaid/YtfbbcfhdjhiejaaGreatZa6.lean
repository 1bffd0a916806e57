/- Of the parts Head, Frame, Get, GetF, GetG: what the rows use. -/
import Derived.Test.YtfbbcfhdjhiejaaGreatZa1
import Derived.Test.YtfbbcfhdjhiejaaGreatZa3
import Derived.Test.YtfbbcfhdjhiejaaGreatZa5
import Derived.Deep.RegionHeld3
import Derived.Deep.RegionWith
import Derived.Lib.SlicesS
/- Heads as bytes: the program's and the document's. -/
namespace Go.Proofs.YtfbbcfhdjhiejaaGreat.Fr
set_option linter.unusedVariables false
set_option linter.unusedSimpArgs false
open Go.RowKit Go.Proofs.YtfbbcfhdjhiejaaGreat.Sums Go.Proofs.YtfbbcfhdjhiejaaGreatW.PrintWords Go.Proofs.YtfbbcfhdjhiejaaGreatW.PrintMore Go.Proofs.YtfbbcfhdjhiejaaGreat.L Go.Proofs.YtfbbcfhdjhiejaaGreat.Ints Go.Proofs.YtfbbcfhdjhiejaaGreat.Bits Go.Proofs.YtfbbcfhdjhiejaaGreat.Co
theorem big_int (n k : Int) (w : World) (h0 : 0 ≤ n) (k0 : 0 ≤ k) (k8 : k ≤ 8) :
  Calls Tryz.prog 119 #[.int .u64 n, .int .i64 k] w fun e w' => e = .returned (.string (big n.toNat k.toNat)) ∧ Below w.heap.size w w' := by
 obtain ⟨N, rfl⟩ := Int.eq_ofNat_of_zero_le h0
 obtain ⟨K, rfl⟩ := Int.eq_ofNat_of_zero_le k0
 exact big_any N K w (by omega)
theorem rbig_int (n k : Int) (w : World) (h0 : 0 ≤ n) (k0 : 0 ≤ k) (k8 : k ≤ 8) :
  Calls Tryz.prog 34 #[.int .u64 n, .int .i64 k] w fun e w' => e = .returned (.string (big n.toNat k.toNat)) ∧ Below w.heap.size w w' := by
 obtain ⟨N, rfl⟩ := Int.eq_ofNat_of_zero_le h0
 obtain ⟨K, rfl⟩ := Int.eq_ofNat_of_zero_le k0
 exact ref_big N K w (by omega)
theorem size_any (n : Int) (w : World) : Calls Tryz.prog 147 #[.int .i64 n] w fun e w' => e = .returned (.bool (decide (1 ≤ n ∧ n ≤ 1024))) ∧ w' = w := by
 by_cases h1 : 1 ≤ n
 ·by_cases h2 : n ≤ 1024
  ·rw [decide_eq_true ⟨h1, h2⟩]
   go_enter Tryz.func147, Tryz.ntmps147
   go_wp2_with (fail)
   go_ret
   exact ⟨rfl, rfl⟩
  ·rw [decide_eq_false (fun h => h2 h.2)]
   have h3 : decide (n ≤ 1024) = false := decide_eq_false h2
   go_enter Tryz.func147, Tryz.ntmps147
   go_wp2_with (fail)
   go_ret
   exact ⟨rfl, rfl⟩
 ·rw [decide_eq_false (fun h => h1 h.1)]
  have h3 : decide (1 ≤ n) = false := decide_eq_false h1
  go_enter Tryz.func147, Tryz.ntmps147
  go_wp2_with (fail)
  go_ret
  exact ⟨rfl, rfl⟩
def headB (code block id : Nat) : ByteArray := magic ++ big 1 1 ++ big code 1 ++ big block 3 ++ big id 8
theorem bel_on {W0 W w1 : World} (h : Below W0.heap.size W0 W) (hb : Below W.heap.size W w1) : Below W0.heap.size W0 w1 := h.trans ⟨hb.os, hb.tape, hb.output, hb.size, fun k hk => hb.block k (Nat.lt_of_lt_of_le hk h.size)⟩
set_option maxRecDepth 100000 in
set_option maxHeartbeats 2000000 in
theorem putHead (code block id : Nat) (w : World) (hc : code ≤ 1) (h1 : 1 ≤ block) (h2 : block ≤ 1024) (hi : big64 id) :
  Calls Tryz.prog 117 #[.agg #[.int .i64 code, .int .i64 block, .int .u64 id]] w fun e w' => e = .returned (.tuple #[.string (headB code block id), .bool true]) ∧ Below w.heap.size w w' := by
 have HS := Lib.hid (show headB code block id = magic ++ big 1 1 ++ big code 1 ++ big block 3 ++ big id 8 from rfl)
 have hd : decide ((1 : Int) ≤ (block : Int) ∧ (block : Int) ≤ 1024) = true := decide_eq_true ⟨by omega, by omega⟩
 have cc : (((code : Int) != 0) = true ∧ ((code : Int) != 1) = false) ∨ ((code : Int) != 0) = false := by
  by_cases h : code = 0
  ·exact .inr (by rw [bne_eq_false_iff_eq]; omega)
  ·exact .inl ⟨by rw [bne_iff_ne]; omega, by rw [bne_eq_false_iff_eq]; omega⟩
 have wc : IntKind.u64.wrap (code : Int) = (code : Int) := by rw [IntKind.wrap_u64]; omega
 have wb : IntKind.u64.wrap (block : Int) = (block : Int) := by rw [IntKind.wrap_u64]; omega
 go_enter Tryz.func117, Tryz.ntmps117
 rcases cc with ⟨c1, c3⟩ | c1
 all_goals
  go_upto_region 3 with (go_at_call 147; refine (size_any _ _).mono ?_; rintro e w1 ⟨rfl, rfl⟩; rw [hd])
  obtain ⟨W1, hW1⟩ : ∃ x, x = w.alloc (.cells #[.int .i64 code, .int .i64 block, .int .u64 id] 71) := ⟨_, rfl⟩
  rw [← hW1]
  have HB0 := Lib.hid (show Below w.heap.size w W1 by rw [hW1]; exact (Below.refl _ w).alloc (Nat.le_refl _) _)
  have hblk : W1.heap[w.heap.size]? = some (.cells #[.int .i64 code, .int .i64 block, .int .u64 id] 71 (0, 0)) := by rw [hW1]; exact heap_alloc_self _ _
  have HK := Lib.hid (show ∀ W' : World, Below W1.heap.size W1 W' → (W'.cell? ⟨w.heap.size, 0, none⟩ = some (.int .i64 code) ∧ W'.cell? ⟨w.heap.size, 1, none⟩ = some (.int .i64 block) ∧ W'.cell? ⟨w.heap.size, 2, none⟩ = some (.int .u64 id)) from fun W' hb => by
   obtain ⟨k0, k1, k2, _⟩ := three_cells ((hb.block _ (blk_lt hblk)).trans hblk)
   exact ⟨k0, k1, k2⟩)
  have HB := Lib.hid (Below.refl W1.heap.size W1)
  obtain ⟨k0, k1, k2⟩ := HK.out _ HB.out
  clear hblk hW1
  have hbs := big_size
  go_region_held3 (fun w' => w'.cell? ⟨w.heap.size, 0, none⟩ = some (.int .i64 code) ∧ w'.cell? ⟨w.heap.size, 1, none⟩ = some (.int .i64 block) ∧ w'.cell? ⟨w.heap.size, 2, none⟩ = some (.int .u64 id)) (first | exact ⟨k0, k1, k2⟩ | exact HK.out _ HB.out | exact HK.out _ (below_drew HB.out) | go_keep)
   (first
    | (go_at_call 119; (with_reducible refine Calls.mono (big_int _ _ _ (by omega) (by omega) (by omega)) ?_); rintro e w7 ⟨rfl, hb7⟩; have HB7 := Lib.hid (bel_on (show Below W1.heap.size W1 _ from (by first | exact HB.out | exact below_drew HB.out)) hb7); clear HB k0 k1 k2 hb7; have HB := HB7; obtain ⟨k0, k1, k2⟩ := HK.out _ HB7.out; clear HB7))
  all_goals
   go_wp2_with (fail)
   go_ret2
   exact ⟨rfl, bel_on HB0.out HB.out⟩
set_option maxRecDepth 100000 in
set_option maxHeartbeats 2000000 in
theorem ref_head (code block id : Nat) (w : World) (hc : code ≤ 1) (h1 : 1 ≤ block) (h2 : block ≤ 1024) (hi : big64 id) :
  Calls Tryz.prog 32 #[.agg #[.int .i64 code, .int .i64 block, .int .u64 id]] w fun e w' => e = .returned (.tuple #[.string (headB code block id), .bool true]) ∧ Below w.heap.size w w' := by
 have HS := Lib.hid (show headB code block id = magic ++ big 1 1 ++ big code 1 ++ big block 3 ++ big id 8 from rfl)
 have wc : IntKind.u64.wrap (code : Int) = (code : Int) := by rw [IntKind.wrap_u64]; omega
 have wb : IntKind.u64.wrap (block : Int) = (block : Int) := by rw [IntKind.wrap_u64]; omega
 go_enter Tryz.func32, Tryz.ntmps32
 have f0 : ¬ (code : Int) < 0 := by omega
 have f1 : (code : Int) ≤ 1 := by omega
 have f2 : (1 : Int) ≤ (block : Int) := by omega
 have f3 : (block : Int) ≤ 1024 := by omega
 have HF := Lib.hid (And.intro h1 h2)
 clear h1 h2 hc
 all_goals
  go_upto_region 3 with (fail)
  obtain ⟨W1, hW1⟩ : ∃ x, x = w.alloc (.cells #[.int .i64 code, .int .i64 block, .int .u64 id] 71) := ⟨_, rfl⟩
  rw [← hW1]
  have HB0 := Lib.hid (show Below w.heap.size w W1 by rw [hW1]; exact (Below.refl _ w).alloc (Nat.le_refl _) _)
  have hblk : W1.heap[w.heap.size]? = some (.cells #[.int .i64 code, .int .i64 block, .int .u64 id] 71 (0, 0)) := by rw [hW1]; exact heap_alloc_self _ _
  have HK := Lib.hid (show ∀ W' : World, Below W1.heap.size W1 W' → (W'.cell? ⟨w.heap.size, 0, none⟩ = some (.int .i64 code) ∧ W'.cell? ⟨w.heap.size, 1, none⟩ = some (.int .i64 block) ∧ W'.cell? ⟨w.heap.size, 2, none⟩ = some (.int .u64 id)) from fun W' hb => by
   obtain ⟨k0, k1, k2, _⟩ := three_cells ((hb.block _ (blk_lt hblk)).trans hblk)
   exact ⟨k0, k1, k2⟩)
  have HB := Lib.hid (Below.refl W1.heap.size W1)
  obtain ⟨k0, k1, k2⟩ := HK.out _ HB.out
  clear hblk hW1
  have hbs := big_size
  go_region_held3 (fun w' => w'.cell? ⟨w.heap.size, 0, none⟩ = some (.int .i64 code) ∧ w'.cell? ⟨w.heap.size, 1, none⟩ = some (.int .i64 block) ∧ w'.cell? ⟨w.heap.size, 2, none⟩ = some (.int .u64 id)) (first | exact ⟨k0, k1, k2⟩ | exact HK.out _ HB.out | exact HK.out _ (below_drew HB.out) | go_keep)
   (first
    | (go_at_call 34; (with_reducible refine Calls.mono (rbig_int _ _ _ (by omega) (by omega) (by omega)) ?_); rintro e w7 ⟨rfl, hb7⟩; have HB7 := Lib.hid (bel_on (show Below W1.heap.size W1 _ from (by first | exact HB.out | exact below_drew HB.out)) hb7); clear HB k0 k1 k2 hb7; have HB := HB7; obtain ⟨k0, k1, k2⟩ := HK.out _ HB7.out; clear HB7))
  all_goals
   go_wp2_with (fail)
   go_ret2
   exact ⟨rfl, bel_on HB0.out HB.out⟩
end Go.Proofs.YtfbbcfhdjhiejaaGreat.Fr

/- Frames as bytes: the program's and the document's. -/
namespace Go.Proofs.YtfbbcfhdjhiejaaGreat.Fr
set_option linter.unusedVariables false
set_option linter.unusedSimpArgs false
open Go.RowKit Go.Proofs.YtfbbcfhdjhiejaaGreat.Sums Go.Proofs.YtfbbcfhdjhiejaaGreatW.PrintWords Go.Proofs.YtfbbcfhdjhiejaaGreatW.PrintMore Go.Proofs.YtfbbcfhdjhiejaaGreat.L Go.Proofs.YtfbbcfhdjhiejaaGreat.Ints Go.Proofs.YtfbbcfhdjhiejaaGreat.Bits Go.Proofs.YtfbbcfhdjhiejaaGreat.Co
def okSize (n : Int) : Bool := decide (1 ≤ n ∧ n ≤ 1024)
theorem size_ok (n : Int) (w : World) : Calls Tryz.prog 147 #[.int .i64 n] w fun e w' => e = .returned (.bool (okSize n)) ∧ w' = w := size_any n w
theorem fits_leaf (kind raw n : Nat) (w : World) (r : Bool) (hr : Co.fits kind raw n = r)
  (hw : Calls Tryz.prog 120 #[.int .i64 kind, .int .i64 raw, .int .i64 n] w fun e w' => e = .returned (.bool r) ∧ w' = w) :
  Calls Tryz.prog 120 #[.int .i64 kind, .int .i64 raw, .int .i64 n] w fun e w' => e = .returned (.bool (Co.fits kind raw n)) ∧ w' = w := by rw [hr]; exact hw
set_option maxHeartbeats 1000000 in
theorem fits_any (kind raw n : Nat) (w : World) :
  Calls Tryz.prog 120 #[.int .i64 kind, .int .i64 raw, .int .i64 n] w fun e w' => e = .returned (.bool (Co.fits kind raw n)) ∧ w' = w := by
 by_cases hs : 1 ≤ raw ∧ raw ≤ 1024
 ·have s1 : okSize (raw : Int) = true := decide_eq_true (by omega)
  by_cases hn : 1 ≤ n
  ·have n1 : (1 : Int) ≤ (n : Int) := by omega
   by_cases k1 : kind = 1
   ·have e1 : ((kind : Int) == 1) = true := beq_iff_eq.2 (by omega)
    have e2 : ((kind : Int) == 2) = false := beq_eq_false_iff_ne.2 (by omega)
    by_cases h : n = raw
    ·refine fits_leaf _ _ _ _ true (decide_eq_true (by omega)) ?_
     have e3 : ((n : Int) == (raw : Int)) = true := beq_iff_eq.2 (by omega)
     clear hs hn k1 h
     go_enter Tryz.func120, Tryz.ntmps120
     go_wp2_with (go_at_call 147; refine (size_ok _ _).mono ?_; rintro e w1 ⟨rfl, rfl⟩; rw [s1])
     go_ret
     exact ⟨rfl, rfl⟩
    ·refine fits_leaf _ _ _ _ false (decide_eq_false (by omega)) ?_
     have e3 : ((n : Int) == (raw : Int)) = false := beq_eq_false_iff_ne.2 (by omega)
     clear hs hn k1 h
     go_enter Tryz.func120, Tryz.ntmps120
     go_wp2_with (go_at_call 147; refine (size_ok _ _).mono ?_; rintro e w1 ⟨rfl, rfl⟩; rw [s1])
     go_ret
     exact ⟨rfl, rfl⟩
   ·have e1 : ((kind : Int) == 1) = false := beq_eq_false_iff_ne.2 (by omega)
    by_cases k2 : kind = 2
    ·have e2 : ((kind : Int) == 2) = true := beq_iff_eq.2 (by omega)
     by_cases h : n < raw
     ·refine fits_leaf _ _ _ _ true (decide_eq_true (by omega)) ?_
      have e3 : decide (n < raw) = true := decide_eq_true h
      clear hs hn k1 k2 h
      go_enter Tryz.func120, Tryz.ntmps120
      go_wp2_with (go_at_call 147; refine (size_ok _ _).mono ?_; rintro e w1 ⟨rfl, rfl⟩; rw [s1])
      go_ret
      exact ⟨rfl, rfl⟩
     ·refine fits_leaf _ _ _ _ false (decide_eq_false (by omega)) ?_
      have e3 : decide (n < raw) = false := decide_eq_false h
      clear hs hn k1 k2 h
      go_enter Tryz.func120, Tryz.ntmps120
      go_wp2_with (go_at_call 147; refine (size_ok _ _).mono ?_; rintro e w1 ⟨rfl, rfl⟩; rw [s1])
      go_ret
      exact ⟨rfl, rfl⟩
    ·refine fits_leaf _ _ _ _ false (decide_eq_false (by omega)) ?_
     have e2 : ((kind : Int) == 2) = false := beq_eq_false_iff_ne.2 (by omega)
     clear hs hn k1 k2
     go_enter Tryz.func120, Tryz.ntmps120
     go_wp2_with (go_at_call 147; refine (size_ok _ _).mono ?_; rintro e w1 ⟨rfl, rfl⟩; rw [s1])
     go_ret
     exact ⟨rfl, rfl⟩
  ·refine fits_leaf _ _ _ _ false (decide_eq_false (by omega)) ?_
   have n1 : decide ((1 : Int) ≤ (n : Int)) = false := decide_eq_false (by omega)
   clear hs
   go_enter Tryz.func120, Tryz.ntmps120
   go_wp2_with (go_at_call 147; refine (size_ok _ _).mono ?_; rintro e w1 ⟨rfl, rfl⟩; rw [s1])
   go_ret
   exact ⟨rfl, rfl⟩
 ·refine fits_leaf _ _ _ _ false (decide_eq_false (by omega)) ?_
  have s1 : okSize (raw : Int) = false := decide_eq_false (by omega)
  clear hs
  go_enter Tryz.func120, Tryz.ntmps120
  go_wp2_with (go_at_call 147; refine (size_ok _ _).mono ?_; rintro e w1 ⟨rfl, rfl⟩; rw [s1])
  go_ret
  exact ⟨rfl, rfl⟩
set_option maxHeartbeats 1000000 in
/-- The document's, where a payload fits. -/
theorem ref_fits (kind raw n : Nat) (w : World) (hf : Co.fits kind raw n = true) :
  Calls Tryz.prog 81 #[.int .i64 kind, .int .i64 raw, .int .i64 n, .int .i64 1024] w fun e w' => e = .returned (.bool true) ∧ w' = w := by
 obtain ⟨h1, h2, h3, h4⟩ := of_decide_eq_true hf
 have f1 : (1 : Int) ≤ (raw : Int) := by omega
 have f2 : (raw : Int) ≤ 1024 := by omega
 have f3 : (1 : Int) ≤ (n : Int) := by omega
 rcases h4 with ⟨rfl, rfl⟩ | ⟨rfl, h5⟩
 ·have e3 : ((n : Int) == (n : Int)) = true := beq_iff_eq.2 rfl
  clear hf h1 h2 h3
  go_enter Tryz.func81, Tryz.ntmps81
  go_wp2_with (fail)
  go_ret
  exact ⟨rfl, rfl⟩
 ·have e3 : decide (n < raw) = true := decide_eq_true h5
  clear hf h1 h2 h3
  go_enter Tryz.func81, Tryz.ntmps81
  go_wp2_with (fail)
  go_ret
  exact ⟨rfl, rfl⟩
/-! ### frames -/
def endB (raw : Nat) : ByteArray := big 0 1 ++ big raw 4
def frameB (kind raw sum : Nat) (p : ByteArray) : ByteArray := big kind 1 ++ big raw 2 ++ big p.size 2 ++ big sum 4 ++ p
theorem four_cells {w : World} {b t : Nat} {x y z u : Value} (h : w.heap[b]? = some (.cells #[x, y, z, u] t (0, 0))) :
  w.cell? ⟨b, 0, none⟩ = some x ∧ w.cell? ⟨b, 1, none⟩ = some y ∧ w.cell? ⟨b, 2, none⟩ = some z ∧ w.cell? ⟨b, 3, none⟩ = some u := by
 simp [World.cell?, h]
theorem wrap_small (n : Nat) (h : n < 4294967296) : IntKind.u64.wrap (n : Int) = (n : Int) := by rw [IntKind.wrap_u64]; omega
set_option maxRecDepth 100000 in
set_option maxHeartbeats 2000000 in
theorem putEnd (raw : Nat) (w : World) (hr : raw < 4294967296) :
  Calls Tryz.prog 78 #[.agg #[.int .i64 0, .int .i64 raw, .int .u32 0, .string ⟨#[]⟩]] w fun e w' => e = .returned (.tuple #[.string (endB raw), .bool true]) ∧ Below w.heap.size w w' := by
 have f0 : ¬ (raw : Int) < 0 := by omega
 have f1 : (raw : Int) ≤ 4294967295 := by omega
 have wr := wrap_small raw hr
 go_enter Tryz.func78, Tryz.ntmps78
 go_upto_region 4 with (fail)
 obtain ⟨W1, hW1⟩ : ∃ x, x = w.alloc (.cells #[.int .i64 0, .int .i64 raw, .int .u32 0, .string ⟨#[]⟩] 99) := ⟨_, rfl⟩
 rw [← hW1]
 have HB0 := Lib.hid (show Below w.heap.size w W1 by rw [hW1]; exact (Below.refl _ w).alloc (Nat.le_refl _) _)
 have hblk : W1.heap[w.heap.size]? = some (.cells #[.int .i64 0, .int .i64 raw, .int .u32 0, .string ⟨#[]⟩] 99 (0, 0)) := by rw [hW1]; exact heap_alloc_self _ _
 have HK := Lib.hid (show ∀ W' : World, Below W1.heap.size W1 W' → W'.cell? ⟨w.heap.size, 1, none⟩ = some (.int .i64 raw) from fun W' hb => (four_cells ((hb.block _ (blk_lt hblk)).trans hblk)).2.1)
 have HB := Lib.hid (Below.refl W1.heap.size W1)
 have k0 := HK.out _ HB.out
 clear hblk hW1
 have hbs := big_size
 go_region_held3 (fun w' => w'.cell? ⟨w.heap.size, 1, none⟩ = some (.int .i64 raw)) (first | exact k0 | exact HK.out _ HB.out | exact HK.out _ (below_drew HB.out) | go_keep)
  (first
   | (go_at_call 119; (with_reducible refine Calls.mono (big_int _ _ _ (by omega) (by omega) (by omega)) ?_); rintro e w7 ⟨rfl, hb7⟩; have HB7 := Lib.hid (bel_on (show Below W1.heap.size W1 _ from (by first | exact HB.out | exact below_drew HB.out)) hb7); clear HB k0 hb7; have HB := HB7; have k0 := HK.out _ HB7.out; clear HB7))
 all_goals
  go_wp2_with (fail)
  go_ret2
  exact ⟨rfl, bel_on HB0.out HB.out⟩
set_option maxRecDepth 100000 in
set_option maxHeartbeats 4000000 in
theorem putFrame (kind raw sum : Nat) (p : ByteArray) (w : World) (hf : Co.fits kind raw p.size = true) (hs : sum < 4294967296) :
  Calls Tryz.prog 78 #[.agg #[.int .i64 kind, .int .i64 raw, .int .u32 sum, .string p]] w fun e w' => e = .returned (.tuple #[.string (frameB kind raw sum p), .bool true]) ∧ Below w.heap.size w w' := by
 have hd := of_decide_eq_true hf
 have HF := Lib.hid hf
 have e0 : ((kind : Int) == 0) = false := beq_eq_false_iff_ne.2 (by omega)
 have wk := wrap_small kind (by omega)
 have wr := wrap_small raw (by omega)
 have wp := wrap_small p.size (by omega)
 have ws := wrap_small sum hs
 have hps : p.size ≤ 1024 := by omega
 have hq : ¬ 9223372036854775807 < 9 + p.size := by omega
 have HFS := Lib.hid (show ∀ W, Calls Tryz.prog 120 #[.int .i64 kind, .int .i64 raw, .int .i64 p.size] W fun e w' => e = .returned (.bool true) ∧ w' = W from fun W => by have := fits_any kind raw p.size W; rw [hf] at this; exact this)
 clear hf hd
 go_enter Tryz.func78, Tryz.ntmps78
 go_upto_region 7 with (go_at_call 120; refine (HFS.out _).mono ?_; rintro e w1 ⟨rfl, rfl⟩)
 obtain ⟨W1, hW1⟩ : ∃ x, x = w.alloc (.cells #[.int .i64 kind, .int .i64 raw, .int .u32 sum, .string p] 99) := ⟨_, rfl⟩
 rw [← hW1]
 have HB0 := Lib.hid (show Below w.heap.size w W1 by rw [hW1]; exact (Below.refl _ w).alloc (Nat.le_refl _) _)
 have hblk : W1.heap[w.heap.size]? = some (.cells #[.int .i64 kind, .int .i64 raw, .int .u32 sum, .string p] 99 (0, 0)) := by rw [hW1]; exact heap_alloc_self _ _
 have HK := Lib.hid (show ∀ W' : World, Below W1.heap.size W1 W' → (W'.cell? ⟨w.heap.size, 0, none⟩ = some (.int .i64 kind) ∧ W'.cell? ⟨w.heap.size, 1, none⟩ = some (.int .i64 raw) ∧ W'.cell? ⟨w.heap.size, 2, none⟩ = some (.int .u32 sum) ∧ W'.cell? ⟨w.heap.size, 3, none⟩ = some (.string p)) from fun W' hb => four_cells ((hb.block _ (blk_lt hblk)).trans hblk))
 have HB := Lib.hid (Below.refl W1.heap.size W1)
 obtain ⟨k0, k1, k2, k3⟩ := HK.out _ HB.out
 clear hblk hW1
 have hbs := big_size
 go_region_held3 (fun w' => w'.cell? ⟨w.heap.size, 0, none⟩ = some (.int .i64 kind) ∧ w'.cell? ⟨w.heap.size, 1, none⟩ = some (.int .i64 raw) ∧ w'.cell? ⟨w.heap.size, 2, none⟩ = some (.int .u32 sum) ∧ w'.cell? ⟨w.heap.size, 3, none⟩ = some (.string p)) (first | exact ⟨k0, k1, k2, k3⟩ | exact HK.out _ HB.out | exact HK.out _ (below_drew HB.out) | go_keep)
  (first
   | (go_at_call 119; (with_reducible refine Calls.mono (big_int _ _ _ (by omega) (by omega) (by omega)) ?_); rintro e w7 ⟨rfl, hb7⟩; have HB7 := Lib.hid (bel_on (show Below W1.heap.size W1 _ from (by first | exact HB.out | exact below_drew HB.out)) hb7); clear HB k0 k1 k2 k3 hb7; have HB := HB7; obtain ⟨k0, k1, k2, k3⟩ := HK.out _ HB7.out; clear HB7))
 all_goals
  go_wp2_with (fail)
  go_ret2
  exact ⟨rfl, bel_on HB0.out HB.out⟩
set_option maxRecDepth 100000 in
set_option maxHeartbeats 2000000 in
theorem ref_end (raw : Nat) (w : World) (hr : raw < 4294967296) :
  Calls Tryz.prog 75 #[.agg #[.int .i64 0, .int .i64 raw, .int .u32 0, .string ⟨#[]⟩]] w fun e w' => e = .returned (.tuple #[.string (endB raw), .bool true]) ∧ Below w.heap.size w w' := by
 have f0 : ¬ (raw : Int) < 0 := by omega
 have f1 : (raw : Int) ≤ 4294967295 := by omega
 have wr := wrap_small raw hr
 go_enter Tryz.func75, Tryz.ntmps75
 go_upto_region 4 with (fail)
 obtain ⟨W1, hW1⟩ : ∃ x, x = w.alloc (.cells #[.int .i64 0, .int .i64 raw, .int .u32 0, .string ⟨#[]⟩] 99) := ⟨_, rfl⟩
 rw [← hW1]
 have HB0 := Lib.hid (show Below w.heap.size w W1 by rw [hW1]; exact (Below.refl _ w).alloc (Nat.le_refl _) _)
 have hblk : W1.heap[w.heap.size]? = some (.cells #[.int .i64 0, .int .i64 raw, .int .u32 0, .string ⟨#[]⟩] 99 (0, 0)) := by rw [hW1]; exact heap_alloc_self _ _
 have HK := Lib.hid (show ∀ W' : World, Below W1.heap.size W1 W' → W'.cell? ⟨w.heap.size, 1, none⟩ = some (.int .i64 raw) from fun W' hb => (four_cells ((hb.block _ (blk_lt hblk)).trans hblk)).2.1)
 have HB := Lib.hid (Below.refl W1.heap.size W1)
 have k0 := HK.out _ HB.out
 clear hblk hW1
 have hbs := big_size
 go_region_held3 (fun w' => w'.cell? ⟨w.heap.size, 1, none⟩ = some (.int .i64 raw)) (first | exact k0 | exact HK.out _ HB.out | exact HK.out _ (below_drew HB.out) | go_keep)
  (first
   | (go_at_call 34; (with_reducible refine Calls.mono (rbig_int _ _ _ (by omega) (by omega) (by omega)) ?_); rintro e w7 ⟨rfl, hb7⟩; have HB7 := Lib.hid (bel_on (show Below W1.heap.size W1 _ from (by first | exact HB.out | exact below_drew HB.out)) hb7); clear HB k0 hb7; have HB := HB7; have k0 := HK.out _ HB7.out; clear HB7))
 all_goals
  go_wp2_with (fail)
  go_ret2
  exact ⟨rfl, bel_on HB0.out HB.out⟩
set_option maxRecDepth 100000 in
set_option maxHeartbeats 4000000 in
theorem ref_frame (kind raw sum : Nat) (p : ByteArray) (w : World) (hf : Co.fits kind raw p.size = true) (hs : sum < 4294967296) :
  Calls Tryz.prog 75 #[.agg #[.int .i64 kind, .int .i64 raw, .int .u32 sum, .string p]] w fun e w' => e = .returned (.tuple #[.string (frameB kind raw sum p), .bool true]) ∧ Below w.heap.size w w' := by
 have hd := of_decide_eq_true hf
 have HF := Lib.hid hf
 have e0 : ((kind : Int) == 0) = false := beq_eq_false_iff_ne.2 (by omega)
 have wk := wrap_small kind (by omega)
 have wr := wrap_small raw (by omega)
 have wp := wrap_small p.size (by omega)
 have ws := wrap_small sum hs
 have hps : p.size ≤ 1024 := by omega
 have hq : ¬ 9223372036854775807 < 9 + p.size := by omega
 have HFS := Lib.hid (show ∀ W, Calls Tryz.prog 81 #[.int .i64 kind, .int .i64 raw, .int .i64 p.size, .int .i64 1024] W fun e w' => e = .returned (.bool true) ∧ w' = W from fun W => ref_fits kind raw p.size W hf)
 clear hf hd
 go_enter Tryz.func75, Tryz.ntmps75
 go_upto_region 7 with (go_at_call 81; refine (HFS.out _).mono ?_; rintro e w1 ⟨rfl, rfl⟩)
 obtain ⟨W1, hW1⟩ : ∃ x, x = w.alloc (.cells #[.int .i64 kind, .int .i64 raw, .int .u32 sum, .string p] 99) := ⟨_, rfl⟩
 rw [← hW1]
 have HB0 := Lib.hid (show Below w.heap.size w W1 by rw [hW1]; exact (Below.refl _ w).alloc (Nat.le_refl _) _)
 have hblk : W1.heap[w.heap.size]? = some (.cells #[.int .i64 kind, .int .i64 raw, .int .u32 sum, .string p] 99 (0, 0)) := by rw [hW1]; exact heap_alloc_self _ _
 have HK := Lib.hid (show ∀ W' : World, Below W1.heap.size W1 W' → (W'.cell? ⟨w.heap.size, 0, none⟩ = some (.int .i64 kind) ∧ W'.cell? ⟨w.heap.size, 1, none⟩ = some (.int .i64 raw) ∧ W'.cell? ⟨w.heap.size, 2, none⟩ = some (.int .u32 sum) ∧ W'.cell? ⟨w.heap.size, 3, none⟩ = some (.string p)) from fun W' hb => four_cells ((hb.block _ (blk_lt hblk)).trans hblk))
 have HB := Lib.hid (Below.refl W1.heap.size W1)
 obtain ⟨k0, k1, k2, k3⟩ := HK.out _ HB.out
 clear hblk hW1
 have hbs := big_size
 go_region_held3 (fun w' => w'.cell? ⟨w.heap.size, 0, none⟩ = some (.int .i64 kind) ∧ w'.cell? ⟨w.heap.size, 1, none⟩ = some (.int .i64 raw) ∧ w'.cell? ⟨w.heap.size, 2, none⟩ = some (.int .u32 sum) ∧ w'.cell? ⟨w.heap.size, 3, none⟩ = some (.string p)) (first | exact ⟨k0, k1, k2, k3⟩ | exact HK.out _ HB.out | exact HK.out _ (below_drew HB.out) | go_keep)
  (first
   | (go_at_call 34; (with_reducible refine Calls.mono (rbig_int _ _ _ (by omega) (by omega) (by omega)) ?_); rintro e w7 ⟨rfl, hb7⟩; have HB7 := Lib.hid (bel_on (show Below W1.heap.size W1 _ from (by first | exact HB.out | exact below_drew HB.out)) hb7); clear HB k0 k1 k2 k3 hb7; have HB := HB7; obtain ⟨k0, k1, k2, k3⟩ := HK.out _ HB7.out; clear HB7))
 all_goals
  go_wp2_with (fail)
  go_ret2
  exact ⟨rfl, bel_on HB0.out HB.out⟩
end Go.Proofs.YtfbbcfhdjhiejaaGreat.Fr

/- Heads and frames are read: the program's. -/
namespace Go.Proofs.YtfbbcfhdjhiejaaGreat.Fr
set_option linter.unusedVariables false
set_option linter.unusedSimpArgs false
open Go.RowKit Go.Proofs.YtfbbcfhdjhiejaaGreat.Sums Go.Proofs.YtfbbcfhdjhiejaaGreatW.PrintWords Go.Proofs.YtfbbcfhdjhiejaaGreatW.PrintMore Go.Proofs.YtfbbcfhdjhiejaaGreat.L Go.Proofs.YtfbbcfhdjhiejaaGreat.Ints Go.Proofs.YtfbbcfhdjhiejaaGreat.Bits Go.Proofs.YtfbbcfhdjhiejaaGreat.Co
def numL (l : List UInt8) : Nat := l.foldl (fun n x => n * 256 + x.toNat) 0
theorem numL_snoc (l : List UInt8) (c : UInt8) : numL (l ++ [c]) = numL l * 256 + c.toNat := by unfold numL; exact fold_snoc _ _ _ _
theorem numL_from : ∀ (l : List UInt8) (a k : Nat), a < 256 ^ k → l.foldl (fun n x => n * 256 + x.toNat) a < 256 ^ (k + l.length)
 | [], a, k, h => h
 | c :: l, a, k, h => by
   have := numL_from l (a * 256 + c.toNat) (k + 1) (by have := u8_lt c; rw [Nat.pow_succ]; omega)
   rw [List.length_cons, show k + (l.length + 1) = k + 1 + l.length by omega]
   exact this
theorem numL_lt (l : List UInt8) : numL l < 256 ^ l.length := by
 have := numL_from l 0 0 (by decide)
 rw [Nat.zero_add] at this
 exact this
theorem num_lt (s : ByteArray) : num s < 256 ^ s.size := by
 have := numL_lt s.data.toList
 rw [Array.length_toList] at this
 exact this
theorem pow_most {k : Nat} (h : k ≤ 7) : 256 ^ k ≤ 72057594037927936 := by
 have := Nat.pow_le_pow_right (n := 256) (by decide) h
 exact this
theorem num_step (x : Nat) (c : UInt8) (h : x < 72057594037927936) : bits .or .u64 (IntKind.u64.wrap ((x : Int) * 256)) (IntKind.u64.wrap (c.toNat : Int)) = ((x * 256 + c.toNat : Nat) : Int) := by
 have hc := u8_lt c
 rw [Sums.wrap_byte, IntKind.wrap_u64, show ((x : Int) * 256) % 18446744073709551616 = ((x * 256 : Nat) : Int) by omega, u64_or_nat _ _ (by omega) (by omega), nat_join 8 (x * 256) c.toNat (by omega) (by omega)]
set_option maxHeartbeats 1000000 in
theorem num_any (s : ByteArray) (w : World) (hs : s.size ≤ 8) :
  Calls Tryz.prog 126 #[.string s] w fun e w' => e = .returned (.int .u64 (num s : Nat)) ∧ w' = w := by
 go_enter Tryz.func126, Tryz.ntmps126
 go_wp2_with (fail)
 go_loopg [3, 7] s.size (fun j v i wr => ∃ k : Nat, k + j = s.size ∧ i = .int .i64 k ∧ v = .int .u64 (numL (s.data.toList.take k) : Nat) ∧ wr = w)
 case atStart => exact ⟨0, by omega, rfl, rfl, rfl⟩
 case round =>
  obtain ⟨k, hk, rfl, rfl, rfl⟩ := hrel
  by_cases hlt : k < s.size
  ·have hsn := numL_snoc (s.data.toList.take k) s[k]
   rw [← Sums.take_snoc s k hlt] at hsn
   have hl := numL_lt (s.data.toList.take k)
   rw [List.length_take, Array.length_toList] at hl
   have hx := num_step (numL (s.data.toList.take k)) s[k] (Nat.lt_of_lt_of_le hl (pow_most (by omega)))
   rw [← hsn] at hx
   have HX := Lib.hid hx
   obtain ⟨V, hV⟩ : ∃ V, numL (s.data.toList.take k) = V := ⟨_, rfl⟩
   rw [hV] at HX ⊢
   clear hsn hl hx hV
   go_wp2_with (fail)
   go_roundg (s.size - (k + 1))
   case measure => omega
   case rel => exact ⟨k + 1, by omega, by go_num, by rw [HX.out], rfl⟩
  ·obtain rfl : k = s.size := by omega
   rw [List.take_of_length_le (show s.data.toList.length ≤ s.size by simp)]
   have HF := Lib.hid (show num s = numL s.data.toList from rfl)
   go_wp2_with (fail)
   go_ret
   rw [HF.out]
   exact ⟨rfl, rfl⟩
theorem at8_get (s : ByteArray) (i : Nat) (h : i < s.size) : s[i].toNat = at8 s i := by
 unfold at8
 rw [List.getD_eq_getElem?_getD, List.getElem?_eq_getElem (by simpa using h)]
 rfl
/-- A head that is told. -/
def headV (e : Int) (c b i : Nat) : Value := if e = 0 then .agg #[.int .i64 c, .int .i64 b, .int .u64 i] else .agg #[.int .i64 0, .int .i64 0, .int .u64 0]
set_option maxRecDepth 100000 in
set_option maxHeartbeats 4000000 in
theorem getHead (s : ByteArray) (w : World) (hs : s.size ≤ 140737488351232) :
  Calls Tryz.prog 125 #[.string s] w fun e w' => e = .returned (.tuple #[headV (headE s) (at8 s 5) (headBlock s) (headId s), .int .i64 (headE s)]) ∧ Below w.heap.size w w' := by
 by_cases h17 : s.size < 17
 ·have he : headE s = 2 := by unfold headE; rw [if_pos h17]
  rw [he]
  have h17i : (s.size : Int) < 17 := by omega
  clear he
  go_enter Tryz.func125, Tryz.ntmps125
  go_wp2_with (fail)
  exact bodyPost_ret (v := .tuple #[.agg #[.int .i64 0, .int .i64 0, .int .u64 0], .int .i64 2]) (by simp [results, Tryz.results125, go_sem]) rfl ⟨rfl, (Below.refl _ w).alloc (Nat.le_refl _) _⟩
 ·have e5 := at8_get s 5 (by omega)
  have e4 := at8_get s 4 (by omega)
  have i17 : ¬ (s.size : Int) < 17 := by omega
  have i5 : (5 : Int) < (s.size : Int) := by omega
  have i4 : (4 : Int) < (s.size : Int) := by omega
  have j9 : (9 : Int) ≤ (s.size : Int) := by omega
  have j17 : (17 : Int) ≤ (s.size : Int) := by omega
  have j4 : (4 : Int) ≤ (s.size : Int) := by omega
  have z1 : (s.extract 6 9).size ≤ 8 := by rw [ByteArray.size_extract]; omega
  have z2 : (s.extract 9 17).size ≤ 8 := by rw [ByteArray.size_extract]; omega
  have n1 := num_lt (s.extract 6 9)
  rw [show (s.extract 6 9).size = 3 by rw [ByteArray.size_extract]; omega] at n1
  have a5 : at8 s 5 < 256 := u8_lt _
  have a4 : at8 s 4 < 256 := u8_lt _
  have w5 : IntKind.i64.wrap (at8 s 5 : Int) = (at8 s 5 : Int) := by rw [IntKind.wrap_i64]; omega
  have w6 : IntKind.i64.wrap (num (s.extract 6 9) : Int) = (headBlock s : Int) := by unfold headBlock; rw [IntKind.wrap_i64]; omega
  have hE : headE s = if s.extract 0 4 ≠ magic ∨ at8 s 4 ≠ 1 then 3 else if 1 < at8 s 5 then 8 else if headBlock s < 1 ∨ 1024 < headBlock s then 4 else 0 := by
   show (if s.size < 17 then (2 : Int) else _) = _
   rw [if_neg h17]
  have hI : num (s.extract 9 17) = headId s := rfl
  obtain ⟨B, hB⟩ : ∃ x, headBlock s = x := ⟨_, rfl⟩
  obtain ⟨I, hI2⟩ : ∃ x, headId s = x := ⟨_, rfl⟩
  obtain ⟨C, hC⟩ : ∃ x, at8 s 5 = x := ⟨_, rfl⟩
  obtain ⟨V, hV⟩ : ∃ x, at8 s 4 = x := ⟨_, rfl⟩
  obtain ⟨M, hM⟩ : ∃ x, s.extract 0 4 = x := ⟨_, rfl⟩
  obtain ⟨E, hEE⟩ : ∃ x, headE s = x := ⟨_, rfl⟩
  rw [hI2] at hI
  rw [hEE, hB, hC, hV, hM] at hE
  rw [hB] at w6
  rw [hC] at w5 e5 a5
  rw [hV] at e4 a4
  rw [hB, hI2, hC, hEE]
  have HE := Lib.hid hE
  have HM := Lib.hid hM
  have hBs : B < 16777216 := by
   have : headBlock s < 256 ^ 3 := n1
   rw [hB] at this
   exact this
  clear hE hM hB hI2 hC hV hEE n1
  go_enter Tryz.func125, Tryz.ntmps125
  go_upto_region 3 with (fail)
  go_cut [4] (fun v4 wc => v4 = .pointer (some ⟨w.heap.size + 1, 0, none⟩) ∧ Hid (wc = ((w.alloc (.cells #[.int .i64 0, .int .i64 0, .int .u64 0] 71)).alloc (.cells #[.int .i64 C, .int .i64 B, .int .u64 I] 71)).drew))
  case first =>
   go_region_with (first
    | (go_at_call 126; (with_reducible refine Calls.mono (num_any _ _ z1) ?_); rintro e w7 ⟨rfl, rfl⟩)
    | (go_at_call 126; (with_reducible refine Calls.mono (num_any _ _ z2) ?_); rintro e w7 ⟨rfl, rfl⟩))
   all_goals
    go_wp2_with (fail)
    go_meet
    case rel => exact ⟨rfl, rfl⟩
  case rest =>
   obtain ⟨rfl, HW⟩ := hcut
   have hw := HW.out
   have hb1 : wc.heap[w.heap.size + 1]? = some (.cells #[.int .i64 C, .int .i64 B, .int .u64 I] 71 (0, 0)) := by
    have := heap_alloc_self (w.alloc (.cells #[.int .i64 0, .int .i64 0, .int .u64 0] 71)) (.cells #[.int .i64 C, .int .i64 B, .int .u64 I] 71)
    rw [show (w.alloc (.cells #[.int .i64 0, .int .i64 0, .int .u64 0] 71)).heap.size = w.heap.size + 1 by simp] at this
    rw [hw]; exact this
   have hb0 : wc.heap[w.heap.size]? = some (.cells #[.int .i64 0, .int .i64 0, .int .u64 0] 71 (0, 0)) := by rw [hw]; exact L.heap_alloc_old (L.heap_alloc_self w _) _
   have hbe : Below w.heap.size w wc := by rw [hw]; exact (((Below.refl _ w).alloc (Nat.le_refl _) _).alloc (by simp) _).drew
   obtain ⟨k0, k1, k2, k3, k4, k5⟩ := three_cells hb1
   obtain ⟨l0, l1, l2, l3, l4, l5⟩ := three_cells hb0
   have HBE := Lib.hid (show ∀ u v x, Below w.heap.size w (((wc.setCell ⟨w.heap.size, 0, none⟩ u).setCell ⟨w.heap.size, 1, none⟩ v).setCell ⟨w.heap.size, 2, none⟩ x) from fun u v x => ((hbe.setCell (p := ⟨w.heap.size, 0, none⟩) (Nat.le_refl _) u).setCell (p := ⟨w.heap.size, 1, none⟩) (Nat.le_refl _) v).setCell (p := ⟨w.heap.size, 2, none⟩) (Nat.le_refl _) x)
   clear hw HW hb1 hb0 hbe
   have hmg : ((s.extract 0 4).toList == [76, 88, 80, 72]) = decide (M = magic) := by
    rw [HM.out]
    rw [show ([76, 88, 80, 72] : List UInt8) = magic.toList by rw [ByteArray.toList_eq]; rfl]
    by_cases h : M = magic
    ·rw [decide_eq_true h, (Lib.bytes_beq_iff M magic).2 h]
    ·rw [decide_eq_false h, (Lib.bytes_beq_false_iff M magic).2 h]
   have v12 : (((V : Int) == 1) = true ∧ ((V : Int) != 1) = false ∧ V = 1) ∨ (((V : Int) == 1) = false ∧ ((V : Int) != 1) = true ∧ V ≠ 1) := by
    by_cases h : V = 1
    ·exact .inl ⟨beq_iff_eq.2 (by omega), by rw [bne_eq_false_iff_eq]; omega, h⟩
    ·exact .inr ⟨beq_eq_false_iff_ne.2 (by omega), by rw [bne_iff_ne]; omega, h⟩
   have hE := HE.out
   clear w5 w6 e5 a5 a4 z1 z2
   by_cases g1 : M = magic
   ·rw [decide_eq_true g1] at hmg
    rcases v12 with ⟨v1, v2, g2⟩ | ⟨v1, v2, g2⟩
    ·rw [if_neg (by rintro (h | h); exact h g1; exact h g2)] at hE
     by_cases g3 : 1 < C
     ·rw [if_pos g3] at hE
      subst hE
      have c1 : ((C : Int) != 0) = true := by rw [bne_iff_ne]; omega
      have c2 : ((C : Int) != 1) = true := by rw [bne_iff_ne]; omega
      clear g1 g2 g3
      go_wp2_with (fail)
      exact bodyPost_ret (v := .tuple #[.agg #[.int .i64 0, .int .i64 0, .int .u64 0], .int .i64 8]) (by simp [results, Tryz.results125, go_sem, l0, l1, l2]) rfl ⟨rfl, HBE.out _ _ _⟩
     ·rw [if_neg g3] at hE
      have c12 : ((C : Int) != 0) = false ∨ (((C : Int) != 0) = true ∧ ((C : Int) != 1) = false) := by
       by_cases h : C = 0
       ·exact .inl (by rw [bne_eq_false_iff_eq]; omega)
       ·exact .inr ⟨by rw [bne_iff_ne]; omega, by rw [bne_eq_false_iff_eq]; omega⟩
      clear g1 g2 g3
      by_cases g4 : B < 1 ∨ 1024 < B
      ·rw [if_pos g4] at hE
       subst hE
       have s1 : okSize (B : Int) = false := decide_eq_false (by omega)
       clear g4
       rcases c12 with c1 | ⟨c1, c2⟩
       all_goals
        go_wp2_with (go_at_call 147; refine (size_ok _ _).mono ?_; rintro e w1 ⟨rfl, rfl⟩; rw [s1])
        exact bodyPost_ret (v := .tuple #[.agg #[.int .i64 0, .int .i64 0, .int .u64 0], .int .i64 4]) (by simp [results, Tryz.results125, go_sem, l0, l1, l2]) rfl ⟨rfl, HBE.out _ _ _⟩
      ·rw [if_neg g4] at hE
       subst hE
       have s1 : okSize (B : Int) = true := decide_eq_true (by omega)
       clear g4
       rcases c12 with c1 | ⟨c1, c2⟩
       all_goals
        go_wp2_with (go_at_call 147; refine (size_ok _ _).mono ?_; rintro e w1 ⟨rfl, rfl⟩; rw [s1])
        exact bodyPost_ret (v := .tuple #[.agg #[.int .i64 C, .int .i64 B, .int .u64 I], .int .i64 0]) (by simp [results, Tryz.results125, go_sem, l0, l1, l2]) rfl ⟨rfl, HBE.out _ _ _⟩
    ·rw [if_pos (.inr g2)] at hE
     subst hE
     clear g1 g2
     go_wp2_with (fail)
     exact bodyPost_ret (v := .tuple #[.agg #[.int .i64 0, .int .i64 0, .int .u64 0], .int .i64 3]) (by simp [results, Tryz.results125, go_sem, l0, l1, l2]) rfl ⟨rfl, HBE.out _ _ _⟩
   ·rw [decide_eq_false g1] at hmg
    rw [if_pos (.inl g1)] at hE
    subst hE
    clear g1 v12
    go_wp2_with (fail)
    exact bodyPost_ret (v := .tuple #[.agg #[.int .i64 0, .int .i64 0, .int .u64 0], .int .i64 3]) (by simp [results, Tryz.results125, go_sem, l0, l1, l2]) rfl ⟨rfl, HBE.out _ _ _⟩
end Go.Proofs.YtfbbcfhdjhiejaaGreat.Fr

/- Frames are read: the program's. -/
namespace Go.Proofs.YtfbbcfhdjhiejaaGreat.Fr
set_option linter.unusedVariables false
set_option linter.unusedSimpArgs false
open Go.RowKit Go.Proofs.YtfbbcfhdjhiejaaGreat.Sums Go.Proofs.YtfbbcfhdjhiejaaGreatW.PrintWords Go.Proofs.YtfbbcfhdjhiejaaGreatW.PrintMore Go.Proofs.YtfbbcfhdjhiejaaGreat.L Go.Proofs.YtfbbcfhdjhiejaaGreat.Ints Go.Proofs.YtfbbcfhdjhiejaaGreat.Bits Go.Proofs.YtfbbcfhdjhiejaaGreat.Co
/-- A frame that is told. -/
def frV (e : Int) (k r su : Nat) (p : ByteArray) : Value := if e = 0 then .agg #[.int .i64 k, .int .i64 r, .int .u32 su, .string p] else .agg #[.int .i64 0, .int .i64 0, .int .u32 0, .string ⟨#[]⟩]
def frNV (e : Int) (n : Nat) : Int := if e = 0 then (n : Int) else 0
theorem empty_to {s : ByteArray} (h : s.size = 0) : s.toList = [] := by
 rw [ByteArray.toList_eq]
 exact List.eq_nil_of_length_eq_zero (by rw [Array.length_toList]; exact h)
theorem full_to {s : ByteArray} (h : s.size ≠ 0) : s.toList.isEmpty = false := by
 rw [List.isEmpty_eq_false_iff, ByteArray.toList_eq]
 intro e
 exact h (by show s.data.size = 0; rw [← Array.length_toList, e]; rfl)
theorem four_all {w : World} {b t : Nat} {x y z u : Value} (h : w.heap[b]? = some (.cells #[x, y, z, u] t (0, 0))) :
  w.cell? ⟨b, 0, none⟩ = some x ∧ w.cell? ⟨b, 1, none⟩ = some y ∧ w.cell? ⟨b, 2, none⟩ = some z ∧ w.cell? ⟨b, 3, none⟩ = some u ∧ w.frozen? ⟨b, 0, none⟩ = false ∧ w.frozen? ⟨b, 1, none⟩ = false ∧ w.frozen? ⟨b, 2, none⟩ = false ∧ w.frozen? ⟨b, 3, none⟩ = false := by
 simp [World.cell?, World.frozen?, h]
/-- What is told of a fault. -/
theorem bel_alloc (w : World) (o : Obj) : Below w.heap.size w (w.alloc o) := (Below.refl _ w).alloc (Nat.le_refl _) _
def GetSays (s : ByteArray) (bl : Nat) (w : World) (e : Ending) (w' : World) : Prop :=
 e = .returned (.tuple #[frV (frE s bl) (frKind s) (frRaw s) (frSum s) (frPay s), .int .i64 (frNV (frE s bl) (frN s)), .int .i64 (frE s bl)]) ∧ Below w.heap.size w w'
theorem says_fault {s : ByteArray} {bl : Nat} {w w' : World} {E : Int} (h : frE s bl = E) (hE : E ≠ 0) (hb : Below w.heap.size w w') :
  GetSays s bl w (.returned (.tuple #[.agg #[.int .i64 0, .int .i64 0, .int .u32 0, .string ⟨#[]⟩], .int .i64 0, .int .i64 E])) w' := by
 refine ⟨?_, hb⟩
 rw [h]
 unfold frV frNV
 rw [if_neg hE, if_neg hE]
set_option maxRecDepth 100000 in
set_option maxHeartbeats 4000000 in
theorem get_short (s : ByteArray) (bl : Nat) (w : World) (hs : s.size ≤ 140737488351232) (E : Int) (hE : frE s bl = E)
  (hc : (s.size = 0 ∧ E = 2) ∨ (s.size ≠ 0 ∧ 2 < frKind s ∧ E = 3) ∨ (s.size ≠ 0 ∧ frKind s = 0 ∧ s.size < 5 ∧ E = 2) ∨ (s.size ≠ 0 ∧ (frKind s = 1 ∨ frKind s = 2) ∧ s.size < 9 ∧ E = 2)) :
  Calls Tryz.prog 101 #[.string s, .int .i64 bl] w (GetSays s bl w) := by
 have HE := Lib.hid hE
 clear hE
 rcases hc with ⟨h0, rfl⟩ | ⟨h0, hk, rfl⟩ | ⟨h0, hk, h5, rfl⟩ | ⟨h0, hk, h9, rfl⟩
 ·have e0 := empty_to h0
  clear h0
  go_enter Tryz.func101, Tryz.ntmps101
  go_wp2_with (fail)
  exact bodyPost_ret (v := .tuple #[.agg #[.int .i64 0, .int .i64 0, .int .u32 0, .string ⟨#[]⟩], .int .i64 0, .int .i64 2]) (by simp [results, Tryz.results101, go_sem]) rfl (says_fault HE.out (by decide) (bel_alloc _ _))
 ·have e0 := full_to h0
  have z0 : 0 < s.size := by omega
  have g0 := at8_get s 0 z0
  have k1 : frKind s = at8 s 0 := rfl
  rw [← k1] at g0
  obtain ⟨K, hK⟩ : ∃ K, frKind s = K := ⟨_, rfl⟩
  rw [hK] at g0 hk
  have hki : (2 : Int) < (K : Int) := by omega
  clear h0 k1 hK
  go_enter Tryz.func101, Tryz.ntmps101
  go_wp2_with (fail)
  exact bodyPost_ret (v := .tuple #[.agg #[.int .i64 0, .int .i64 0, .int .u32 0, .string ⟨#[]⟩], .int .i64 0, .int .i64 3]) (by simp [results, Tryz.results101, go_sem]) rfl (says_fault HE.out (by decide) (bel_alloc _ _))
 ·have e0 := full_to h0
  have z0 : 0 < s.size := by omega
  have g0 := at8_get s 0 z0
  have k1 : frKind s = at8 s 0 := rfl
  rw [← k1, hk] at g0
  have h5i : (s.size : Int) < 5 := by omega
  clear h0 k1 hk
  go_enter Tryz.func101, Tryz.ntmps101
  go_wp2_with (fail)
  exact bodyPost_ret (v := .tuple #[.agg #[.int .i64 0, .int .i64 0, .int .u32 0, .string ⟨#[]⟩], .int .i64 0, .int .i64 2]) (by simp [results, Tryz.results101, go_sem]) rfl (says_fault HE.out (by decide) (bel_alloc _ _))
 ·have e0 := full_to h0
  have z0 : 0 < s.size := by omega
  have g0 := at8_get s 0 z0
  have k1 : frKind s = at8 s 0 := rfl
  rw [← k1] at g0
  have h9i : (s.size : Int) < 9 := by omega
  clear h0 k1
  rcases hk with hk | hk
  all_goals
   rw [hk] at g0
   clear hk
   go_enter Tryz.func101, Tryz.ntmps101
   go_wp2_with (fail)
   exact bodyPost_ret (v := .tuple #[.agg #[.int .i64 0, .int .i64 0, .int .u32 0, .string ⟨#[]⟩], .int .i64 0, .int .i64 2]) (by simp [results, Tryz.results101, go_sem]) rfl (says_fault HE.out (by decide) (bel_alloc _ _))
set_option maxRecDepth 100000 in
set_option maxHeartbeats 4000000 in
theorem get_end (s : ByteArray) (bl : Nat) (w : World) (hs : s.size ≤ 140737488351232) (hk : frKind s = 0) (h5 : 5 ≤ s.size) :
  Calls Tryz.prog 101 #[.string s, .int .i64 bl] w (GetSays s bl w) := by
 have hE : frE s bl = 0 := by
  unfold frE
  rw [if_neg (by omega), if_neg (by omega), if_neg (by omega), if_pos hk]
 have hP : GetSays s bl w = fun e w' => e = .returned (.tuple #[.agg #[.int .i64 0, .int .i64 (num (s.extract 1 5) : Nat), .int .u32 0, .string ⟨#[]⟩], .int .i64 5, .int .i64 0]) ∧ Below w.heap.size w w' := by
  funext e w'
  unfold GetSays frV frNV frRaw frSum frN frPay
  rw [hE, if_pos rfl, if_pos rfl, if_pos hk, if_pos hk, if_pos hk, if_pos hk, hk]
  rfl
 have HP := Lib.hid hP
 have e0 := full_to (by omega : s.size ≠ 0)
 have z0 : 0 < s.size := by omega
 have g0 := at8_get s 0 z0
 have k1 : frKind s = at8 s 0 := rfl
 rw [← k1, hk] at g0
 have h5i : (5 : Int) ≤ (s.size : Int) := by omega
 have z1 : (s.extract 1 5).size ≤ 8 := by rw [ByteArray.size_extract]; omega
 have n1 := num_lt (s.extract 1 5)
 rw [show (s.extract 1 5).size = 4 by rw [ByteArray.size_extract]; omega] at n1
 have n2 : num (s.extract 1 5) < 4294967296 := n1
 have w6 : IntKind.i64.wrap (num (s.extract 1 5) : Int) = (num (s.extract 1 5) : Int) := by rw [IntKind.wrap_i64]; omega
 clear n1 n2 hE hP k1 hk
 rw [HP.out]
 go_enter Tryz.func101, Tryz.ntmps101
 go_wp2_with ((go_at_call 126; (with_reducible refine Calls.mono (num_any _ _ z1) ?_); rintro e w7 ⟨rfl, rfl⟩))
 exact bodyPost_ret (v := .tuple #[.agg #[.int .i64 0, .int .i64 (num (s.extract 1 5) : Nat), .int .u32 0, .string ⟨#[]⟩], .int .i64 5, .int .i64 0]) (by simp [results, Tryz.results101, go_sem]) rfl ⟨rfl, bel_alloc _ _⟩
end Go.Proofs.YtfbbcfhdjhiejaaGreat.Fr

/- Frames are read: the program's, a frame of a block. -/
namespace Go.Proofs.YtfbbcfhdjhiejaaGreat.Fr
set_option linter.unusedVariables false
set_option linter.unusedSimpArgs false
open Go.RowKit Go.Proofs.YtfbbcfhdjhiejaaGreat.Sums Go.Proofs.YtfbbcfhdjhiejaaGreatW.PrintWords Go.Proofs.YtfbbcfhdjhiejaaGreatW.PrintMore Go.Proofs.YtfbbcfhdjhiejaaGreat.L Go.Proofs.YtfbbcfhdjhiejaaGreat.Ints Go.Proofs.YtfbbcfhdjhiejaaGreat.Bits Go.Proofs.YtfbbcfhdjhiejaaGreat.Co
def PostF (e0 : Int) (k r su : Nat) (p : ByteArray) (n : Int) (w : World) (e : Ending) (w' : World) : Prop :=
 e = .returned (.tuple #[frV e0 k r su p, .int .i64 n, .int .i64 e0]) ∧ Below w.heap.size w w'
set_option maxRecDepth 100000 in
set_option maxHeartbeats 8000000 in
theorem get_frame (s : ByteArray) (bl : Nat) (w : World) (hs : s.size ≤ 140737488351232) (hk : frKind s = 1 ∨ frKind s = 2) (h9 : 9 ≤ s.size) (hbl : bl ≤ 100000) :
  Calls Tryz.prog 101 #[.string s, .int .i64 bl] w (GetSays s bl w) := by
 have hk0 : frKind s ≠ 0 := by omega
 have hE : frE s bl = if bl < frRaw s ∨ Co.fits (frKind s) (frRaw s) (frLen s) = false then 10 else if s.size - 9 < frLen s then 2 else 0 := by
  unfold frE
  rw [if_neg (by omega), if_neg (by omega), if_neg (by omega), if_neg hk0]
 have hP : GetSays s bl w = PostF (frE s bl) (frKind s) (frRaw s) (frSum s) (s.extract 9 (9 + frLen s)) (frNV (frE s bl) (9 + frLen s)) w := by
  funext e w'
  unfold GetSays PostF frN frPay
  rw [if_neg hk0, if_neg hk0]
 have hR : frRaw s = num (s.extract 1 3) := by unfold frRaw; rw [if_neg hk0]
 have hS : frSum s = num (s.extract 5 9) := by unfold frSum; rw [if_neg hk0]
 have hL : frLen s = num (s.extract 3 5) := rfl
 have zz : ∀ a b, b ≤ s.size → (s.extract a b).size = b - a := fun a b h => by rw [ByteArray.size_extract]; omega
 have n1 := num_lt (s.extract 1 3)
 have n2 := num_lt (s.extract 5 9)
 have n3 := num_lt (s.extract 3 5)
 rw [zz 1 3 (by omega)] at n1
 rw [zz 5 9 (by omega)] at n2
 rw [zz 3 5 (by omega)] at n3
 have m1 : num (s.extract 1 3) < 65536 := n1
 have m2 : num (s.extract 5 9) < 4294967296 := n2
 have m3 : num (s.extract 3 5) < 65536 := n3
 have z1 : (s.extract 1 3).size ≤ 8 := by rw [zz 1 3 (by omega)]; decide
 have z2 : (s.extract 5 9).size ≤ 8 := by rw [zz 5 9 (by omega)]; decide
 have z3 : (s.extract 3 5).size ≤ 8 := by rw [zz 3 5 (by omega)]; decide
 have e0 := full_to (by omega : s.size ≠ 0)
 have z0 : 0 < s.size := by omega
 have g0 := at8_get s 0 z0
 have k1 : frKind s = at8 s 0 := rfl
 rw [← k1] at g0
 rw [hP]
 rw [hR, hL] at hE
 rw [hR, hS, hL]
 have w1 : IntKind.i64.wrap (num (s.extract 1 3) : Int) = (num (s.extract 1 3) : Int) := by rw [IntKind.wrap_i64]; omega
 have w2 : IntKind.u32.wrap (num (s.extract 5 9) : Int) = (num (s.extract 5 9) : Int) := by rw [IntKind.wrap_u32']; omega
 have w3 : IntKind.i64.wrap (num (s.extract 3 5) : Int) = (num (s.extract 3 5) : Int) := by rw [IntKind.wrap_i64]; omega
 obtain ⟨E, hEE⟩ : ∃ x, frE s bl = x := ⟨_, rfl⟩
 obtain ⟨K, hKK⟩ : ∃ x, frKind s = x := ⟨_, rfl⟩
 rw [hEE, hKK] at hE
 rw [hKK] at hk hk0 g0
 rw [hEE, hKK]
 have wK : IntKind.i64.wrap (K : Int) = (K : Int) := by rw [IntKind.wrap_i64]; omega
 obtain ⟨R, hRR⟩ : ∃ x, num (s.extract 1 3) = x := ⟨_, rfl⟩
 obtain ⟨S, hSS⟩ : ∃ x, num (s.extract 5 9) = x := ⟨_, rfl⟩
 obtain ⟨N3, hLL⟩ : ∃ x, num (s.extract 3 5) = x := ⟨_, rfl⟩
 have HN1 := Lib.hid (show ∀ W, Calls Tryz.prog 126 #[.string (s.extract 1 3)] W fun e w' => e = .returned (.int .u64 R) ∧ w' = W from fun W => by rw [← hRR]; exact num_any _ W z1)
 have HN2 := Lib.hid (show ∀ W, Calls Tryz.prog 126 #[.string (s.extract 5 9)] W fun e w' => e = .returned (.int .u64 S) ∧ w' = W from fun W => by rw [← hSS]; exact num_any _ W z2)
 have HN3 := Lib.hid (show ∀ W, Calls Tryz.prog 126 #[.string (s.extract 3 5)] W fun e w' => e = .returned (.int .u64 N3) ∧ w' = W from fun W => by rw [← hLL]; exact num_any _ W z3)
 rw [hRR] at m1 w1 hE ⊢
 rw [hSS] at m2 w2 ⊢
 rw [hLL] at m3 w3 hE ⊢
 have HE := Lib.hid hE
 have h9i : (9 : Int) ≤ (s.size : Int) := by omega
 have j3 : (3 : Int) ≤ (s.size : Int) := by omega
 have j5 : (5 : Int) ≤ (s.size : Int) := by omega
 have e1 : ((K : Int) == 0) = false := beq_eq_false_iff_ne.2 (by omega)
 have e2 : ((K : Int) != 0) = true := by rw [bne_iff_ne]; omega
 have e3 : (K : Int) ≤ 2 := by omega
 have HK := Lib.hid hk
 clear hE hP hR hS hL zz n1 n2 n3 z1 z2 z3 k1 hRR hSS hLL hEE hKK hk hk0
 go_enter Tryz.func101, Tryz.ntmps101
 go_upto_region 9 with (fail)
 go_cut [7] (fun v7 wc => v7 = .pointer (some ⟨w.heap.size + 1, 0, none⟩) ∧ Hid (wc = ((w.alloc (.cells #[.int .i64 0, .int .i64 0, .int .u32 0, .string ⟨#[]⟩] 99)).alloc (.cells #[.int .i64 K, .int .i64 R, .int .u32 S, .string ⟨#[]⟩] 99)).drew))
 case first =>
  go_region_with (first
   | (go_at_call 126; (with_reducible refine Calls.mono (HN1.out _) ?_); rintro e w7 ⟨rfl, rfl⟩)
   | (go_at_call 126; (with_reducible refine Calls.mono (HN2.out _) ?_); rintro e w7 ⟨rfl, rfl⟩))
  all_goals
   go_wp2_with (fail)
   go_meet
   case rel => exact ⟨rfl, rfl⟩
 case rest =>
  obtain ⟨rfl, HW⟩ := hcut
  have hw := HW.out
  have hb1 : wc.heap[w.heap.size + 1]? = some (.cells #[.int .i64 K, .int .i64 R, .int .u32 S, .string ⟨#[]⟩] 99 (0, 0)) := by
   have := heap_alloc_self (w.alloc (.cells #[.int .i64 0, .int .i64 0, .int .u32 0, .string ⟨#[]⟩] 99)) (.cells #[.int .i64 K, .int .i64 R, .int .u32 S, .string ⟨#[]⟩] 99)
   rw [show (w.alloc (.cells #[.int .i64 0, .int .i64 0, .int .u32 0, .string ⟨#[]⟩] 99)).heap.size = w.heap.size + 1 by simp] at this
   rw [hw]; exact this
  have hb0 : wc.heap[w.heap.size]? = some (.cells #[.int .i64 0, .int .i64 0, .int .u32 0, .string ⟨#[]⟩] 99 (0, 0)) := by rw [hw]; exact L.heap_alloc_old (L.heap_alloc_self w _) _
  have hbe : Below w.heap.size w wc := by rw [hw]; exact (((Below.refl _ w).alloc (Nat.le_refl _) _).alloc (by simp) _).drew
  obtain ⟨k0, k1, k2, k3, k4, k5, k6, k7⟩ := four_all hb1
  obtain ⟨l0, l1, l2, l3, l4, l5, l6, l7⟩ := four_all hb0
  have HBE := Lib.hid hbe
  clear hw HW hb1 hb0 hbe w1 w2 wK
  have HB4 := Lib.hid (show ∀ u v x y, Below w.heap.size w ((((wc.setCell ⟨w.heap.size, 0, none⟩ u).setCell ⟨w.heap.size, 1, none⟩ v).setCell ⟨w.heap.size, 2, none⟩ x).setCell ⟨w.heap.size, 3, none⟩ y) from fun u v x y => (((HBE.out.setCell (p := ⟨w.heap.size, 0, none⟩) (Nat.le_refl _) u).setCell (p := ⟨w.heap.size, 1, none⟩) (Nat.le_refl _) v).setCell (p := ⟨w.heap.size, 2, none⟩) (Nat.le_refl _) x).setCell (p := ⟨w.heap.size, 3, none⟩) (Nat.le_refl _) y)
  have hE := HE.out
  by_cases g1 : bl < R
  ·rw [if_pos (.inl g1)] at hE
   subst hE
   have g1i : (bl : Int) < (R : Int) := by omega
   clear HBE
   go_wp2_with ((go_at_call 126; (with_reducible refine Calls.mono (HN3.out _) ?_); rintro e w7 ⟨rfl, rfl⟩))
   exact bodyPost_ret (v := .tuple #[.agg #[.int .i64 0, .int .i64 0, .int .u32 0, .string ⟨#[]⟩], .int .i64 0, .int .i64 10]) (by simp [results, Tryz.results101, go_sem, l0, l1, l2, l3]) rfl ⟨rfl, HB4.out _ _ _ _⟩
  ·have g1i : (R : Int) ≤ (bl : Int) := by omega
   obtain ⟨F, hF⟩ : ∃ F, Co.fits K R N3 = F := ⟨_, rfl⟩
   have HFT := Lib.hid (show ∀ W, Calls Tryz.prog 120 #[.int .i64 K, .int .i64 R, .int .i64 N3] W fun e w' => e = .returned (.bool F) ∧ w' = W from fun W => by rw [← hF]; exact fits_any K R N3 W)
   rw [hF] at hE
   cases F
   ·rw [if_pos (.inr rfl)] at hE
    subst hE
    clear HBE hF g1
    go_wp2_with (first
     | ((go_at_call 126; (with_reducible refine Calls.mono (HN3.out _) ?_); rintro e w7 ⟨rfl, rfl⟩))
     | ((go_at_call 120; (with_reducible refine Calls.mono (HFT.out _) ?_); rintro e w7 ⟨rfl, rfl⟩)))
    exact bodyPost_ret (v := .tuple #[.agg #[.int .i64 0, .int .i64 0, .int .u32 0, .string ⟨#[]⟩], .int .i64 0, .int .i64 10]) (by simp [results, Tryz.results101, go_sem, l0, l1, l2, l3]) rfl ⟨rfl, HB4.out _ _ _ _⟩
   ·rw [if_neg (by rintro (h | h); omega; cases h)] at hE
    by_cases g2 : s.size - 9 < N3
    ·rw [if_pos g2] at hE
     subst hE
     have g2i : (s.size : Int) - 9 < (N3 : Int) := by omega
     clear HBE hF g1 g2
     go_wp2_with (first
      | ((go_at_call 126; (with_reducible refine Calls.mono (HN3.out _) ?_); rintro e w7 ⟨rfl, rfl⟩))
      | ((go_at_call 120; (with_reducible refine Calls.mono (HFT.out _) ?_); rintro e w7 ⟨rfl, rfl⟩)))
     exact bodyPost_ret (v := .tuple #[.agg #[.int .i64 0, .int .i64 0, .int .u32 0, .string ⟨#[]⟩], .int .i64 0, .int .i64 2]) (by simp [results, Tryz.results101, go_sem, l0, l1, l2, l3]) rfl ⟨rfl, HB4.out _ _ _ _⟩
    ·rw [if_neg g2] at hE
     subst hE
     have g2i : (N3 : Int) ≤ (s.size : Int) - 9 := by omega
     have g3i : (9 : Int) + (N3 : Int) ≤ (s.size : Int) := by omega
     have HB5 := Lib.hid (show ∀ u v x y z, Below w.heap.size w (((((wc.setCell ⟨w.heap.size + 1, 3, none⟩ z).setCell ⟨w.heap.size, 0, none⟩ u).setCell ⟨w.heap.size, 1, none⟩ v).setCell ⟨w.heap.size, 2, none⟩ x).setCell ⟨w.heap.size, 3, none⟩ y) from fun u v x y z => ((((HBE.out.setCell (p := ⟨w.heap.size + 1, 3, none⟩) (Nat.le_succ _) z).setCell (p := ⟨w.heap.size, 0, none⟩) (Nat.le_refl _) u).setCell (p := ⟨w.heap.size, 1, none⟩) (Nat.le_refl _) v).setCell (p := ⟨w.heap.size, 2, none⟩) (Nat.le_refl _) x).setCell (p := ⟨w.heap.size, 3, none⟩) (Nat.le_refl _) y)
     clear HBE HB4 hF g1 g2
     go_wp2_with (first
      | ((go_at_call 126; (with_reducible refine Calls.mono (HN3.out _) ?_); rintro e w7 ⟨rfl, rfl⟩))
      | ((go_at_call 120; (with_reducible refine Calls.mono (HFT.out _) ?_); rintro e w7 ⟨rfl, rfl⟩)))
     refine bodyPost_ret (v := .tuple #[.agg #[.int .i64 K, .int .i64 R, .int .u32 S, .string (s.extract 9 (9 + N3))], .int .i64 (9 + (N3 : Int)), .int .i64 0]) (by simp [results, Tryz.results101, go_sem, l0, l1, l2, l3]) rfl ⟨?_, HB5.out _ _ _ _ _⟩
     unfold frV frNV
     rw [if_pos rfl, if_pos rfl, Int.natCast_add]
     rfl
/-- A frame is read, or a fault is told. -/
theorem getFrame (s : ByteArray) (bl : Nat) (w : World) (hs : s.size ≤ 140737488351232) (hbl : bl ≤ 100000) :
  Calls Tryz.prog 101 #[.string s, .int .i64 bl] w (GetSays s bl w) := by
 by_cases h0 : s.size = 0
 ·exact get_short s bl w hs 2 (by unfold frE; rw [if_pos h0]) (.inl ⟨h0, rfl⟩)
 ·by_cases h2 : 2 < frKind s
  ·exact get_short s bl w hs 3 (by unfold frE; rw [if_neg h0, if_pos h2]) (.inr (.inl ⟨h0, h2, rfl⟩))
  ·by_cases hk : frKind s = 0
   ·by_cases h5 : s.size < 5
    ·exact get_short s bl w hs 2 (by unfold frE; rw [if_neg h0, if_neg h2, if_pos (.inl ⟨hk, h5⟩)]) (.inr (.inr (.inl ⟨h0, hk, h5, rfl⟩)))
    ·exact get_end s bl w hs hk (by omega)
   ·by_cases h9 : s.size < 9
    ·exact get_short s bl w hs 2 (by unfold frE; rw [if_neg h0, if_neg h2, if_pos (.inr ⟨hk, h9⟩)]) (.inr (.inr (.inr ⟨h0, by omega, h9, rfl⟩)))
    ·exact get_frame s bl w hs (by omega) (by omega) hbl
end Go.Proofs.YtfbbcfhdjhiejaaGreat.Fr
