/- Chapter 19: a symbol's code is put: one contract for both outcomes. -/
import Derived.Test.YtfdpgngdccdmpaaCodeL1
import Derived.Test.YtfdpgngdccdmpaaCodeSmall
namespace Go.Proofs.Ytfdpgngdccdmpaa.Code
set_option linter.unusedVariables false
set_option linter.unusedSimpArgs false
open Go.RowKit Go.Proofs.YtfdpgngdccdmpaaW.PrintWords Go.Proofs.YtfdpgngdccdmpaaW.PrintMore Go.Proofs.Ytfdpgngdccdmpaa.L Go.Proofs.Ytfdpgngdccdmpaa.Ints Go.Proofs.Ytfdpgngdccdmpaa.BP

/-- A symbol that has a code. -/
def coded (l : List Int) (s : Int) : Bool := decide (0 ≤ s ∧ s < (l.length : Int) ∧ 0 < l.getD s.toNat 0)
theorem coded_put {l : List Int} (hr : ∀ x ∈ l, 0 ≤ x ∧ x ≤ 15) (s : Int) : putOk l (codes l) s = coded l s := by
  unfold putOk coded
  apply decide_eq_decide.2
  rw [codes_length]
  constructor
  · rintro ⟨h1, h2, _, h3, _⟩
    exact ⟨h1, h2, by omega⟩
  · rintro ⟨h1, h2, h3⟩
    have := hr _ (getD_mem' (l := l) (k := s.toNat) (by omega))
    exact ⟨h1, h2, h2, by omega, by omega⟩
theorem coded_may {l : List Int} (hr : ∀ x ∈ l, 0 ≤ x ∧ x ≤ 15) (hk : kraft l ≤ 32768) (s : Int) (h : coded l s = true) : Bits.mayPut ((codes l).getD s.toNat 0) (l.getD s.toNat 0) = true := by
  obtain ⟨h1, h2, h3⟩ := of_decide_eq_true h
  have hlt : s.toNat < l.length := by omega
  have hx := hr _ (getD_mem' hlt)
  rw [codes_getD l s.toNat hlt]
  rcases len_case _ hx with h0 | ⟨n, hn, hn15⟩
  · omega
  · have hb := code_bound l hk s.toNat n hn hn15
    unfold Bits.mayPut
    refine decide_eq_true ⟨by omega, by omega, by omega, ?_⟩
    rw [hn, Int.toNat_natCast]
    exact_mod_cast hb
/-- A symbol's bits; none, if it has no code. -/
def symBits (l : List Int) (s : Int) : List Int := if coded l s = true then bitsV (l.getD s.toNat 0).toNat (codeAt l s.toNat : Nat) else []
theorem symBits_yes {l : List Int} {s : Int} (h : coded l s = true) : symBits l s = bitsV (l.getD s.toNat 0).toNat (codeAt l s.toNat : Nat) := if_pos h
theorem symBits_no {l : List Int} {s : Int} (h : coded l s = false) : symBits l s = [] := if_neg (by rw [h]; decide)
theorem symBits_le {l : List Int} (hr : ∀ x ∈ l, 0 ≤ x ∧ x ≤ 15) (s : Int) : (symBits l s).length ≤ 15 := by
  cases h : coded l s
  · rw [symBits_no h]; exact Nat.zero_le _
  · rw [symBits_yes h, bitsV_length]
    obtain ⟨h1, h2, h3⟩ := of_decide_eq_true h
    have := hr _ (getD_mem' (l := l) (k := s.toNat) (by omega))
    omega
def stream (l ss : List Int) : List Int := ss.flatMap (symBits l)
theorem stream_append (l a b : List Int) : stream l (a ++ b) = stream l a ++ stream l b := by unfold stream; rw [List.flatMap_append]
theorem stream_one (l : List Int) (s : Int) : stream l [s] = symBits l s := by simp [stream]
theorem stream_bits (l ss : List Int) : Bits (stream l ss) := by
  intro x hx
  obtain ⟨s, _, hs⟩ := List.mem_flatMap.1 hx
  unfold symBits at hs
  split at hs
  · exact bitsV_bits _ _ x hs
  · simp at hs
theorem stream_le {l : List Int} (hr : ∀ x ∈ l, 0 ≤ x ∧ x ≤ 15) : ∀ ss, (stream l ss).length ≤ 15 * ss.length
  | [] => Nat.zero_le _
  | s :: ss => by
    have h1 := stream_append l [s] ss
    rw [stream_one] at h1
    rw [show s :: ss = [s] ++ ss from rfl, h1, List.length_append]
    have h2 := symBits_le hr s
    have h3 := stream_le hr ss
    simp only [List.length_append, List.length_singleton]
    omega
theorem stream_filter (l : List Int) : ∀ ss, stream l (ss.filter (coded l)) = stream l ss
  | [] => rfl
  | s :: ss => by
    have h1 := stream_append l [s] ss
    rw [stream_one] at h1
    rw [show s :: ss = [s] ++ ss from rfl, h1, List.filter_append, stream_append, stream_filter l ss]
    congr 1
    cases h : coded l s
    · rw [symBits_no h]
      simp [h, stream]
    · simp [h, stream]
/-- A symbol is put: its bits, if it has a code; else nothing. -/
theorem put_sym (A B : Option Addr) (c c2 : Nat) (l : List Int) (s : Int) (wb base : Nat) (v : Value) (bs : List Int) (w : World)
    (hl : KI.C w A l.length l) (hc : KI.C w B l.length (codes l)) (hW : Bits.WR w wb base v bs) (hbase : base ≤ w.heap.size) (hlen : bs.length ≤ 1000000000) (hr : right l = 0) :
    Calls Try.prog 22 #[.pointer (some ⟨wb, 0, none⟩), .slice A l.length c, .slice B l.length c2, .int .i64 s] w fun e w' =>
      e = .returned (.bool (coded l s)) ∧ Hid (∃ v1, Bits.WR w' wb base v1 (bs ++ symBits l s) ∧ Chg (fun k => k = wb ∨ some k = v.ownBlock) w w') := by
  have hrg := right_range hr
  have hk := right_kraft hr
  have hc' : KI.C w B (codes l).length (codes l) := by rw [codes_length]; exact hc
  cases hcd : coded l s
  · have h := cput_no (some ⟨wb, 0, none⟩) A B c c2 l (codes l) s w hl hc' (by rw [coded_put hrg, hcd])
    rw [codes_length] at h
    refine h.mono ?_
    rintro e w1 ⟨rfl, rfl⟩
    exact ⟨rfl, v, by rw [symBits_no hcd, List.append_nil]; exact hW, Chg.refl _ _⟩
  · obtain ⟨h1, h2, h3⟩ := of_decide_eq_true hcd
    have hlt : s.toNat < l.length := by omega
    have hmy := coded_may hrg hk s hcd
    have h := cput_go (Q := fun r w' => r = true ∧ ∃ v1, Bits.WR w' wb base v1 (bs ++ symBits l s) ∧ Chg (fun k => k = wb ∨ some k = v.ownBlock) w w') (some ⟨wb, 0, none⟩) A B c c2 l (codes l) s w hl hc' (by rw [coded_put hrg, hcd]) (fun q => by
      refine (Bits.put_yes _ _ _ _ _ _ _ (hW.chg ((Chg.refl (fun _ => False) _).drewN q) (fun h => h) (fun _ _ h => h)) hmy hbase hlen).mono ?_
      rintro e w4 ⟨rfl, v1, hW4, hC4, _⟩
      rw [codes_getD l s.toNat hlt] at hW4
      refine ⟨true, rfl, rfl, v1, ?_, ((Chg.refl _ w).drewN q).trans hC4⟩
      rw [symBits_yes hcd]
      exact hW4)
    rw [codes_length] at h
    refine h.mono ?_
    rintro e w1 ⟨r, rfl, HQ⟩
    obtain ⟨rfl, h2⟩ := HQ.out
    exact ⟨rfl, h2⟩
end Go.Proofs.Ytfdpgngdccdmpaa.Code
