/- The contracts of package bits in their callers' form. -/
import Derived.Test.YthncomijfpbeeaaBits
namespace Go.Proofs.Ythncomijfpbeeaa.Bits
set_option linter.unusedVariables false
set_option linter.unusedSimpArgs false
open Go.RowKit Go.Proofs.YthncomijfpbeeaaW.PrintWords Go.Proofs.YthncomijfpbeeaaW.PrintMore Go.Proofs.Ythncomijfpbeeaa.L Go.Proofs.Ythncomijfpbeeaa.BP

/-! ### in the callers' form: numbers of bits as whole numbers; what stays -/
theorem RR.chg {w w' : World} {b : Nat} {s : ByteArray} {n : Nat} {S : Nat → Prop} (h : RR w b s n) (hc : Chg S w w') (hS : ¬ S b) : RR w' b s n :=
  ⟨(hc.block b (blk_lt h.1) hS).trans h.1, h.2⟩
theorem WR.chg {w w' : World} {b base : Nat} {v : Value} {bs : List Int} {S : Nat → Prop} (h : WR w b base v bs) (hc : Chg S w w') (hb : ¬ S b) (hv : ∀ k, v.ownBlock = some k → ¬ S k) : WR w' b base v bs := by
  refine ⟨(hc.block b (blk_lt h.1) hb).trans h.1, ?_, h.2.2⟩
  have hr : Kd.R (Kd.int .u8) 5 w base (fun k => some k = v.ownBlock) v (pack bs) := Kd.R_of_own (Kd.own_of_R h.2.1) (fun k hk => hk.symm)
  exact Kd.R_mono (R_chg hr hc (fun k hk => hv k hk.symm)) (fun _ _ => trivial)
theorem WR.ne {w : World} {b base : Nat} {v : Value} {bs : List Int} (h : WR w b base v bs) : v.ownBlock ≠ some b := fun e => Kd.R_ne h.2.1 h.1 (by decide) e.symm
/-- A reader's block is none of a writer's. -/
theorem WR.apart {w : World} {b base c : Nat} {v : Value} {bs : List Int} {s : ByteArray} {n : Nat} (h : WR w b base v bs) (hr : RR w c s n) : ¬ (c = b ∨ some c = v.ownBlock) := by
  rintro (e | e)
  · subst e
    have h1 := h.1
    rw [hr.1] at h1
    simp at h1
  · exact Kd.R_ne h.2.1 hr.1 (by decide) e
theorem wr_new (w : World) (base : Nat) : WR (w.alloc (.cells #[.slice none 0 0, .int .i64 0] 47 (0, 0))) w.heap.size base (.slice none 0 0) [] :=
  ⟨heap_alloc_self _ _, Kd.R_nil _ _ _ _ _, bits_nil⟩
/-- What a writer's call leaves of rows of other types. -/
theorem R_wr {α : Type} {d : Kd α} {e : Nat} {w w1 : World} {base base' b : Nat} {ok : Nat → Prop} {v v0 : Value} {xs : List α} {bs : List Int} (h : d.R e w base ok v xs)
    (hw : WR w b base' v0 bs) (hc : Chg (fun k => k = b ∨ some k = v0.ownBlock) w w1) (h1 : ∀ q, q ∈ e :: d.E → q ≠ 47) (h2 : ∀ q, q ∈ e :: d.E → q ≠ 5) : d.R e w1 base ok v xs := by
  have g1 := Kd.R_types h hw.1 h1
  rcases hv : v0.ownBlock with _ | g
  · rw [hv] at hc
    exact Kd.R_mono (R_chg g1 hc (fun k hk e => by rcases e with e | e; exact hk.2 e; cases e)) (fun _ hk => hk.1)
  · rw [hv] at hc
    obtain ⟨cells, hg⟩ := own_typed (Kd.own_of_R hw.2.1) g hv
    have g2 := Kd.R_types g1 hg h2
    exact Kd.R_mono (R_chg g2 hc (fun k hk e => by rcases e with e | e; exact hk.1.2 e; injection e with e; exact hk.2 e)) (fun _ hk => hk.1.1)
theorem left_eq (b n L : Nat) (s : ByteArray) (w : World) (h : RR w b s n) (hL : 8 * s.size - n = L) :
    Calls Try.prog 32 #[.pointer (some ⟨b, 0, none⟩)] w fun e w' => e = .returned (.int .i64 (L : Int)) ∧ ∃ k, w' = w.drewN k := by
  subst hL
  exact left_any b n s w h
theorem get_ok (b at_ : Nat) (s : ByteArray) (n : Int) (w : World) (h : RR w b s at_) (h0 : 0 ≤ n) (hm : n ≤ 32) (hn : n ≤ ((8 * s.size - at_ : Nat) : Int)) :
    Calls Try.prog 26 #[.pointer (some ⟨b, 0, none⟩), .int .i64 n] w fun e w' => e = .returned (.tuple #[.int .i64 (valN (rem s at_) n.toNat), .bool true]) ∧ RR w' b s (at_ + n.toNat) ∧ Chg (fun k => k = b) w w' := by
  obtain ⟨N, rfl⟩ := Int.eq_ofNat_of_zero_le h0
  exact get_yes b at_ s N w h (by omega) (by omega)
theorem skip_ok (b at_ : Nat) (s : ByteArray) (n : Int) (w : World) (h : RR w b s at_) (h0 : 0 ≤ n) (hn : n ≤ ((8 * s.size - at_ : Nat) : Int)) :
    Calls Try.prog 28 #[.pointer (some ⟨b, 0, none⟩), .int .i64 n] w fun e w' => e = .returned (.bool true) ∧ RR w' b s (at_ + n.toNat) ∧ Chg (fun k => k = b) w w' := by
  obtain ⟨N, rfl⟩ := Int.eq_ofNat_of_zero_le h0
  exact skip_yes b at_ s N w h (by omega)

/-- Bit k of s, as the laws spell it. -/
theorem bit_spelt (s : ByteArray) (k : Nat) (h : k / 8 < s.size) : (rem s k).getD 0 0 = bits BinOp.and IntKind.i64 (wrap64 ((s[k / 8]'h).toNat : Int) / 2 ^ (7 - k % 8)) 1 := by
  have hc := UInt8.toNat_lt (s[k / 8]'h)
  have e : wrap64 ((s[k / 8]'h).toNat : Int) = (s[k / 8]'h).toNat := by unfold wrap64; omega
  have hd : 0 ≤ ((s[k / 8]'h).toNat : Int) / 2 ^ (7 - k % 8) ∧ ((s[k / 8]'h).toNat : Int) / 2 ^ (7 - k % 8) ≤ (s[k / 8]'h).toNat := by
    have hp : (0 : Int) < 2 ^ (7 - k % 8) := Int.pow_pos (by omega)
    exact ⟨Int.ediv_nonneg (by omega) (by omega), Int.ediv_le_self _ (by omega)⟩
  rw [e, and_one _ hd.1 (by omega), rem_getD]
  congr 2
  rw [← bt_at s _ (by rw [Int.toNat_natCast]; omega)]
  rfl
theorem valN_one (l : List Int) : valN l 1 = l.getD 0 0 := by simp [valN]
theorem unpack_take_succ (s : ByteArray) (k : Nat) (h : k < 8 * s.size) : (unpack (bytesOf s)).take (k + 1) = (unpack (bytesOf s)).take k ++ [(rem s k).getD 0 0] := by
  have hl : k < (unpack (bytesOf s)).length := by rw [unpack_length, bytesOf_length]; exact h
  have e : (rem s k).getD 0 0 = (unpack (bytesOf s))[k] := by
    unfold rem
    rw [List.getD_eq_getElem?_getD, List.getElem?_drop, Nat.add_zero, List.getElem?_eq_getElem hl]
    rfl
  rw [List.take_succ_eq_append_getElem hl, e]
theorem bitsV_one (x : Int) (h : x = 0 ∨ x = 1) : bitsV 1 x = [x] := by
  rcases h with h | h <;> (rw [h]; decide +kernel)
theorem mayPut_one (x : Int) (h : x = 0 ∨ x = 1) : mayPut x 1 = true := by
  rcases h with h | h <;> (rw [h]; decide +kernel)
theorem rem_bit (s : ByteArray) (k : Nat) : (rem s k).getD 0 0 = 0 ∨ (rem s k).getD 0 0 = 1 := by
  have := bits_getD (rem_bits s k) 0
  omega
theorem byte_sum : ∀ c : Fin 256, ((c.val : Int) / 2 ^ 7 % 2 * 128 + (c.val : Int) / 2 ^ 6 % 2 * 64 + (c.val : Int) / 2 ^ 5 % 2 * 32 + (c.val : Int) / 2 ^ 4 % 2 * 16 + (c.val : Int) / 2 ^ 3 % 2 * 8 + (c.val : Int) / 2 ^ 2 % 2 * 4 + (c.val : Int) / 2 ^ 1 % 2 * 2 + (c.val : Int) / 2 ^ 0 % 2) = c.val := by decide +kernel
theorem pack_unpack (l : List Int) (h : ∀ x ∈ l, 0 ≤ x ∧ x ≤ 255) : pack (unpack l) = l := by
  refine List.ext_getElem ?_ ?_
  · rw [pack_length, unpack_length]; omega
  · intro j h1 h2
    have e1 : (pack (unpack l))[j] = byteAt (unpack l) j := by simp [pack]
    rw [e1]
    unfold byteAt
    have g := fun i hi => unpack_getD l j i hi
    have g0 := g 0 (by omega); have g1 := g 1 (by omega); have g2 := g 2 (by omega); have g3 := g 3 (by omega)
    have g4 := g 4 (by omega); have g5 := g 5 (by omega); have g6 := g 6 (by omega); have g7 := g 7 (by omega)
    rw [Nat.add_zero] at g0
    rw [g0, g1, g2, g3, g4, g5, g6, g7]
    have e2 : l.getD j 0 = l[j] := by rw [List.getD_eq_getElem?_getD, List.getElem?_eq_getElem h2]; rfl
    rw [e2]
    have := h l[j] (List.getElem_mem h2)
    obtain ⟨C, hC⟩ := Int.eq_ofNat_of_zero_le this.1
    rw [hC]
    exact byte_sum ⟨C, by omega⟩
theorem str_bytesOf (s : ByteArray) : strOfNums (bytesOf s) = s := by
  unfold strOfNums bytesOf
  rw [List.map_map]
  have : ((fun n : Int => UInt8.ofNat n.toNat) ∘ fun b : UInt8 => (b.toNat : Int)) = id := by
    funext b
    simp
  rw [this, List.map_id]
theorem bytesOf_range' (s : ByteArray) : ∀ x ∈ bytesOf s, 0 ≤ x ∧ x ≤ 255 := by
  intro x hx
  unfold bytesOf at hx
  obtain ⟨b, _, rfl⟩ := List.mem_map.1 hx
  have := b.toNat_lt
  omega
theorem str_pack_unpack (s : ByteArray) : strOfNums (pack (unpack (bytesOf s))) = s := by
  rw [pack_unpack _ (bytesOf_range' s), str_bytesOf]
end Go.Proofs.Ythncomijfpbeeaa.Bits
