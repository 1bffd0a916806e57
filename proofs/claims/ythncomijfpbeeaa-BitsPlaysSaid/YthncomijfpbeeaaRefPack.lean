/- The document's answer: bits as bytes, 0s at the end. -/
import Derived.Test.YthncomijfpbeeaaBitsUse
import Derived.Test.YthncomijfpbeeaaInts
namespace Go.Proofs.Ythncomijfpbeeaa.Bits
set_option linter.unusedVariables false
set_option linter.unusedSimpArgs false
open Go.RowKit Go.Proofs.YthncomijfpbeeaaW.PrintWords Go.Proofs.YthncomijfpbeeaaW.PrintMore Go.Proofs.Ythncomijfpbeeaa.L Go.Proofs.Ythncomijfpbeeaa.BP Go.Proofs.Ythncomijfpbeeaa.Ints

theorem take_bits {l : List Int} (hb : Bits l) (k : Nat) : Bits (l.take k) := hb.take k
theorem take_len {l : List Int} {k : Nat} (h : k ≤ l.length) : (l.take k).length = k := by rw [List.length_take]; omega
/-- The bytes, one bit more to come. -/
def grown (l : List Int) (k : Nat) : List Int := if k % 8 = 0 then pack (l.take k) ++ [0] else pack (l.take k)
theorem grown_len {l : List Int} {k : Nat} (h : k ≤ l.length) : (grown l k).length = k / 8 + 1 := by
  unfold grown
  split
  · rw [List.length_append, pack_length, take_len h]; simp; omega
  · rw [pack_length, take_len h]; omega
theorem grown_at {l : List Int} {k : Nat} (h : k ≤ l.length) : (grown l k).getD (k / 8) 0 = byteAt (l.take k) (k / 8) := by
  have hl := take_len h
  unfold grown
  by_cases h8 : k % 8 = 0
  · have := byte_new (l.take k) (by rw [hl]; exact h8)
    rw [hl] at this
    rw [if_pos h8, this.1, this.2]
  · have := byte_here (l.take k) (by rw [hl]; exact h8)
    rw [hl] at this
    rw [if_neg h8, this]
theorem grown_set {l : List Int} {k : Nat} (h : k < l.length) : pack (l.take (k + 1)) = (grown l k).set (k / 8) (byteAt (l.take k) (k / 8) + l.getD k 0 * 2 ^ (7 - k % 8)) := by
  have hl := take_len (l := l) (k := k) (by omega)
  have := pack_snoc (l.take k) (l.getD k 0)
  rw [hl] at this
  rw [take_succ_getD l k h, this]
  rfl
theorem bit_shift (x : Int) (k : Nat) (hx : x = 0 ∨ x = 1) : 0 ≤ x * 2 ^ (7 - k % 8) ∧ x * 2 ^ (7 - k % 8) ≤ 128 := by
  obtain ⟨r, hr⟩ : ∃ r, 7 - k % 8 = r := ⟨_, rfl⟩
  rw [hr]
  have hr7 : r ≤ 7 := by omega
  have hp : (2 : Int) ^ r ≤ 128 := by
    have := Nat.pow_le_pow_right (n := 2) (by decide) hr7
    exact_mod_cast this
  have hp0 : (0 : Int) < 2 ^ r := Int.pow_pos (by omega)
  generalize (2 : Int) ^ r = P at *
  rcases hx with h | h
  · rw [h]; omega
  · rw [h]; omega
theorem grown_or {l : List Int} (hb : Bits l) {k : Nat} (h : k < l.length) : Go.bits .or .u8 (byteAt (l.take k) (k / 8)) (l.getD k 0 * 2 ^ (7 - k % 8)) = byteAt (l.take k) (k / 8) + l.getD k 0 * 2 ^ (7 - k % 8) := by
  have hl := take_len (l := l) (k := k) (by omega)
  have hx : l.getD k 0 = 0 ∨ l.getD k 0 = 1 := by have := bits_getD hb k; omega
  have := or_here (hb.take k) (l.getD k 0) hx
  rw [hl] at this
  exact this

set_option maxRecDepth 100000 in
set_option maxHeartbeats 1000000 in
theorem ref_pack (A : Option Addr) (c : Nat) (l : List Int) (w : World) (hl : KI.C w A l.length l) (hb : Bits l) (hlen : l.length ≤ 1000000) :
    Calls Try.prog 31 #[.slice A l.length c] w fun e w' => e = .returned (.string (strOfNums (pack l))) ∧ Below w.heap.size w w' := by
  have HL := Lib.hid hl
  have HBI := Lib.hid hb
  clear hl hb
  go_enter Try.func31, Try.ntmps31
  go_wp2_with (fail)
  go_loopg [3, 4] l.length (fun j v i wr => ∃ k : Nat, k + j = l.length ∧ i = .int .i64 k ∧ Hid (Kd.R (Kd.int .u8) 5 wr w.heap.size (fun _ => True) v (pack (l.take k)) ∧ Below w.heap.size w wr))
  case atStart => exact ⟨0, by omega, rfl, by rw [List.take_zero, pack_nil]; exact Kd.R_nil _ _ _ _ _, Below.refl _ _⟩
  case round =>
    obtain ⟨k, hk, rfl, HI⟩ := hrel
    by_cases hlt : k < l.length
    · obtain ⟨hr, hbw⟩ := HI.out
      have HK := Lib.hid hk
      have hlti : (k : Int) < (l.length : Int) := by omega
      have hk0 : (0 : Int) ≤ (k : Int) := by omega
      have HR := Lib.hid hr
      have HBW := Lib.hid hbw
      clear hr hbw HI hk
      go_upto_if 13 with (fail)
      go_cut [3] (fun cv wc => Hid (Kd.R (Kd.int .u8) 5 wc w.heap.size (fun _ => True) cv (grown l k) ∧ Below w.heap.size w wc))
      case first =>
        by_cases h8 : k % 8 = 0
        · have h8b : ((k : Int) % 8 == 0) = true := by simp; omega
          have HG := Lib.hid (show grown l k = pack (l.take k) ++ [0] from if_pos h8)
          have HPL := Lib.hid (show (pack (l.take k)).length ≤ 200000 by rw [pack_length, take_len (by omega)]; omega)
          clear h8
          go_wp2_with (((with_reducible refine gate_builtin (b := .append) (xs := #[.tmp 14, .tmp 15]) rfl ?_); at_builtin; apply stopper))
          unfold Stopper
          refine Kd.R_append (Kd.int .u8) (w0 := w) w.heap.size rfl (.tmp 14) (.tmp 15) 45 5 (.int .u8 0) 1 rfl Try.underlying45 infoU8 rfl (by decide) (by omega) u3 (pack (l.take k)) 0 [.int .u8 0] (fun _ => True) (fun _ => False) rfl rfl ?aP (fun _ hk => hk.elim) ?aF ?aO ?aB ?aS ?aL ?_
          case aP => exact rfl
          case aF => exact (fun _ _ => trivial)
          case aO => exact HR.out
          case aB => exact HBW.out
          case aS => exact HBW.out.size
          case aL => have := HPL.out; omega
          intro p1 w6 ho hb6 hg hat
          rw [← HG.out] at ho
          have HP8 := Lib.hid ho
          have HB8 := Lib.hid hb6
          clear ho hb6 hg hat
          go_wp2_with (fail)
          go_meet
          case rel => exact ⟨HP8.out, HB8.out⟩
        · have h8b : ((k : Int) % 8 == 0) = false := by simp; omega
          have HG := Lib.hid (show grown l k = pack (l.take k) from if_neg h8)
          clear h8
          go_wp2_with (fail)
          go_meet
          case rel => exact ⟨by rw [HG.out]; exact HR.out, HBW.out⟩
      case rest =>
        clear HR HBW
        obtain ⟨hr, hbw⟩ := hcut.out
        have hgl := grown_len (l := l) (k := k) (by omega)
        obtain ⟨ad, rfl, x0⟩ := ints_at (Kd.C_below HL.out hbw) k hlt
        have hx : l.getD k 0 = 0 ∨ l.getD k 0 = 1 := by have := bits_getD HBI.out k; omega
        have hor := grown_or HBI.out hlt
        have hset := grown_set hlt
        have hsh := bit_shift (l.getD k 0) k hx
        have hga := grown_at (l := l) (k := k) (by omega)
        obtain ⟨x, hxx⟩ : ∃ x, l.getD k 0 = x := ⟨_, rfl⟩
        rw [hxx] at x0 hx hor hset hsh
        obtain ⟨zs, hzs⟩ : ∃ zs, grown l k = zs := ⟨_, rfl⟩
        rw [hzs] at hr hgl hset hga
        obtain ⟨g, cp, rfl, hg0, hg1, cells, hg2⟩ := Kd.R_form hr (by omega)
        obtain ⟨d0, d1⟩ := Kd.R_celln 0 hr ((k / 8 : Nat) : Int) (by omega) (by omega)
        rw [Int.toNat_natCast] at d0 d1
        rw [show rdOf 0 zs ((k / 8 : Nat) : Int) = byteAt (l.take k) (k / 8) by show zs.getD ((k / 8 : Nat) : Int).toNat 0 = _; rw [Int.toNat_natCast]; exact hga] at d0
        obtain ⟨z, hz⟩ : ∃ z, byteAt (l.take k) (k / 8) = z := ⟨_, rfl⟩
        rw [hz] at d0 hor hset
        have HSET := Lib.hid hset
        have HO := Lib.hid hr
        have HBW := Lib.hid hbw
        have HOR := Lib.hid hor
        have HSH := Lib.hid hsh
        have HGL := Lib.hid hgl
        have HG0 := Lib.hid (show w.heap.size ≤ g from hg0)
        have HL2 := Lib.hid hlen
        rw [hgl] at *
        have e1 : ((k / 8 + 1 : Nat) : Int) - 1 = ((k / 8 : Nat) : Int) := by omega
        have e2 : (0 : Int) ≤ ((k / 8 : Nat) : Int) := by omega
        have e3 : ((k / 8 : Nat) : Int) < ((k / 8 + 1 : Nat) : Int) := by omega
        have e7 : (0 : Int) ≤ 7 - (k : Int) % 8 := by omega
        clear hr hbw hcut hor hset hsh hga hxx hzs hg0 hg1 hg2 hz hgl
        go_upto_region 7 with (fail)
        go_region
        go_wp2
        go_roundg (l.length - (k + 1))
        case measure => have := HK.out; omega
        case rel =>
          have hw64 : wrap64 (x * 2 ^ (7 - k % 8)) % 256 = x * 2 ^ (7 - k % 8) := by
            have := HSH.out
            generalize x * 2 ^ (7 - k % 8) = P at *
            unfold wrap64
            omega
          rw [hw64, HOR.out]
          refine ⟨k + 1, by have := HK.out; omega, by go_num, ?_, ?_⟩
          · rw [HSET.out]
            have h := Kd.R_putn HO.out ((k / 8 : Nat) : Int) (z + x * 2 ^ (7 - k % 8))
            rw [Int.toNat_natCast] at h
            exact Kd.R_drew h
          · exact (HBW.out.setCell (p := ⟨g, k / 8, none⟩) HG0.out _).drew
    · obtain rfl : k = l.length := by omega
      have HP := Lib.hid HI.out.1
      have HBW := Lib.hid HI.out.2
      rw [List.take_length] at HP
      have hcv := own_string (P := Try.prog) Try.underlying45 Try.underlying5 Try.underlying9 (Kd.own_of_R HP.out)
      clear HI
      go_wp2_with (fail)
      go_ret
      exact ⟨rfl, HBW.out⟩
end Go.Proofs.Ythncomijfpbeeaa.Bits
