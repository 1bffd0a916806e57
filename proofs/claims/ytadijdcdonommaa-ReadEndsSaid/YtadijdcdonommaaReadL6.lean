/- Chapter 21: bits that end ahead of a code's end are too few; nothing goes then. -/
import Derived.Test.YtadijdcdonommaaReadL5
namespace Go.Proofs.Ytadijdcdonommaa.Read
set_option linter.unusedVariables false
set_option linter.unusedSimpArgs false
open Go.RowKit Go.Proofs.YtadijdcdonommaaW.PrintWords Go.Proofs.YtadijdcdonommaaW.PrintMore Go.Proofs.Ytadijdcdonommaa.L Go.Proofs.Ytadijdcdonommaa.Ints Go.Proofs.Ytadijdcdonommaa.Code Go.Proofs.Ytadijdcdonommaa.BP Go.Proofs.Ytadijdcdonommaa.Bits

/-! ### the plain law -/
/-- Fewer bits than the code has: too few. -/
theorem next_short (l : List Int) (s n : Nat) (hs : l.getD s 0 = ((n + 1 : Nat) : Int)) (hn : n + 1 ≤ 15) (hk : kraft l ≤ 32768) (R rest : List Int) (hR : R ++ rest = bitsV (n + 1) (codeAt l s : Int)) (hl : R.length < n + 1) :
    next l R = (0, 2, 0) := by
  have hb := code_bound l hk s n hs hn
  have hm := most_getD l s
  rw [hs, Int.toNat_natCast] at hm
  have key : ∀ d m, m + d = R.length + 1 → 1 ≤ m → nextR l R m (most l + 1 - m) = (0, 2, 0) := by
    intro d
    induction d with
    | zero =>
      intro m h1 h2
      rw [show most l + 1 - m = (most l - m) + 1 by omega]
      exact nextR_more (by omega)
    | succ d ih =>
      intro m h1 h2
      rw [show most l + 1 - m = (most l - m) + 1 by omega]
      rw [nextR_on (by omega) ?_]
      · rw [show most l - m = most l + 1 - (m + 1) by omega]
        exact ih (m + 1) (by omega) (by omega)
      · rw [← valN_take (a := R) (b := rest) m (by omega), hR, valN_bitsV _ _ hb _ (by omega)]
        refine hit_none fun t ht hl2 he => ?_
        obtain ⟨q, rfl⟩ : ∃ q, m = q + 1 := ⟨m - 1, by omega⟩
        have hne : t ≠ s := by
          rintro rfl
          rw [hl2] at hs
          omega
        refine code_free l t s q (n - q) hl2 (by rw [hs]; congr 1; omega) (by omega) hne ?_
        rw [show n + 1 - (q + 1) = n - q by omega] at he
        exact_mod_cast he.symm
  have := key R.length 1 (by omega) (Nat.le_refl _)
  rwa [show most l + 1 - 1 = most l by omega] at this
/-- So many were read, and so far one is. -/
def Inv (l ps : List Int) (k p : Nat) : Prop := (k ≤ ps.length ∧ p = (stream l (ps.take k)).length) ∨ ((stream l ps).length ≤ p ∧ k + (stream l ps).length ≤ ps.length + p)
theorem inv_step (l ps pad : List Int) (hr : right l = 0) (hc : ∀ x ∈ ps, coded l x = true) (T k p : Nat) (hT : T ≤ (stream l ps ++ pad).length) (h : Inv l ps k p) (s : Int) (m : Nat) (hX : next l (((stream l ps ++ pad).take T).drop p) = (s, 0, m)) (hm : 1 ≤ m) :
    Inv l ps (k + 1) (p + m) := by
  rcases h with ⟨hk, hp⟩ | ⟨h1, h2⟩
  · by_cases hlt : k < ps.length
    · refine .inl ⟨hlt, ?_⟩
      obtain ⟨n, h1, h2, h3, h4⟩ := coded_at hr (hc _ (getD_mem' hlt))
      have hst := stream_step l ps k hlt
      have hC := symBits_yes (hc _ (getD_mem' hlt))
      rw [h1, Int.toNat_natCast] at hC
      have hd : ((stream l ps ++ pad).take T).drop p = (symBits l (ps.getD k 0) ++ (stream l (ps.drop (k + 1)) ++ pad)).take (T - p) := by
        rw [List.drop_take]
        congr 1
        rw [stream_split l ps k hlt, List.append_assoc, hp, List.drop_left, List.append_assoc]
      rw [hd, hC] at hX
      by_cases hfit : n + 1 ≤ T - p
      · rw [List.take_append, List.take_of_length_le (by rw [bitsV_length]; exact hfit), next_code l _ n h1 h2 (right_kraft hr)] at hX
        have hm2 : m = n + 1 := by injection hX with _ hX; injection hX with _ hX; exact hX.symm
        rw [hst, List.length_append, hC, bitsV_length, ← hp, hm2]
      · exfalso
        rw [List.take_append_of_le_length (by rw [bitsV_length]; omega)] at hX
        rw [next_short l _ n h1 h2 (right_kraft hr) _ ((bitsV (n + 1) (codeAt l (ps.getD k 0).toNat : Nat)).drop (T - p)) (List.take_append_drop _ _) (by rw [List.length_take, bitsV_length]; omega)] at hX
        injection hX with _ hX
        injection hX with hX _
        omega
    · have hke : k = ps.length := by omega
      rw [List.take_of_length_le (by omega)] at hp
      exact .inr ⟨by omega, by omega⟩
  · exact .inr ⟨by omega, by omega⟩
theorem inv_end {l ps : List Int} {k p T : Nat} (h : Inv l ps k p) (hp : p ≤ T) (hT : T ≤ (stream l ps).length + 7) : k ≤ ps.length + 7 := by
  rcases h with ⟨hk, _⟩ | ⟨h1, h2⟩ <;> omega
theorem unpack_take (xs : List Int) (n : Nat) (h : n ≤ xs.length) : unpack (xs.take n) = (unpack xs).take (8 * n) := by
  have h1 : unpack xs = unpack (xs.take n) ++ unpack (xs.drop n) := by
    unfold unpack
    rw [← List.flatMap_append, List.take_append_drop]
  rw [h1, List.take_append_of_le_length (by rw [unpack_length, List.length_take]; omega), List.take_of_length_le (l := unpack (xs.take n)) (by rw [unpack_length, List.length_take]; omega)]
theorem rem_cut (st : ByteArray) (n : Nat) (h : n ≤ st.size) : rem (st.extract 0 n) 0 = (rem st 0).take (8 * n) := by
  unfold rem
  rw [List.drop_zero, List.drop_zero, ← unpack_take _ _ (by rw [bytesOf_length]; exact h)]
  congr 1
  unfold bytesOf
  rw [ByteArray.data_extract]
  simp [List.map_take]
theorem turn_n (k : Int) (L : Nat) (hL : L ≤ 1000) : ∃ N : Nat, (wrap64 (wrap64 (k.tmod (↑L + 1) + ↑L) + 1)).tmod (↑L + 1) = (N : Int) ∧ N ≤ L := by
  have a1 := Int.lt_tmod_of_pos k (show (0 : Int) < (L : Int) + 1 by omega)
  have a2 := Int.tmod_lt_of_pos k (show (0 : Int) < (L : Int) + 1 by omega)
  have h1 : wrap64 (k.tmod ((L : Int) + 1) + L) = k.tmod ((L : Int) + 1) + L := by unfold wrap64; omega
  have h2 : wrap64 (k.tmod ((L : Int) + 1) + L + 1) = k.tmod ((L : Int) + 1) + L + 1 := by unfold wrap64; omega
  rw [h1, h2]
  have h3 : 0 ≤ k.tmod ((L : Int) + 1) + L + 1 := by omega
  have h4 := Int.tmod_lt_of_pos (k.tmod ((L : Int) + 1) + L + 1) (show (0 : Int) < (L : Int) + 1 by omega)
  have h5 := Int.tmod_nonneg ((L : Int) + 1) h3
  exact ⟨((k.tmod ((L : Int) + 1) + L + 1).tmod ((L : Int) + 1)).toNat, by omega, by omega⟩
theorem left_int (b n : Nat) (X : Int) (s : ByteArray) (w : World) (h : RR w b s n) (hX : ((8 * s.size - n : Nat) : Int) = X) :
    Calls Try.prog 17 #[.pointer (some ⟨b, 0, none⟩)] w fun e w' => e = .returned (.int .i64 X) ∧ ∃ k, w' = w.drewN k := by
  subst hX
  exact left_any b n s w h
set_option maxRecDepth 100000 in
set_option maxHeartbeats 4000000 in
theorem ReadEnds_walk (A : Option Addr) (l : List Int) (c : Nat) (B : Option Addr) (ss : List Int) (c' : Nat) (cut : Int) (w : World) (hl : KI.C w A l.length l) (hlc : l.length ≤ c) (h8 : l.length * 8 ≤ 140737488351232) (hlw : ∀ x ∈ l, (Lit.int .i64 x).wf = true)
    (hs : KI.C w B ss.length ss) (hsc : ss.length ≤ c') (s8 : ss.length * 8 ≤ 140737488351232) (hsw : ∀ x ∈ ss, (Lit.int .i64 x).wf = true) (hcut : (Lit.int .i64 cut).wf = true) :
    Calls Try.prog 7 #[.slice A l.length c, .slice B ss.length c', .int .i64 cut] w fun e w' => e = .returned (.bool true) ∧ Below w.heap.size w w' := by
  have HL := Lib.hid hl
  have HSS := Lib.hid hs
  clear hl hlc hlw hs hsc hsw hcut
  have hcase : ((200 : Int) < (l.length : Int) ∨ ((l.length : Int) ≤ 200 ∧ (100 : Int) < (ss.length : Int))) ∨ ((l.length : Int) ≤ 200 ∧ (ss.length : Int) ≤ 100) := by omega
  rcases hcase with hcase | ⟨h1, h2⟩
  · rcases hcase with h | ⟨h0, h⟩
    all_goals
      go_enter Try.func7, Try.ntmps7
      go_wp2_with (go_at_call 9; refine (alive_any _).mono ?_; rintro e w' ⟨rfl, hb⟩)
      go_ret
      exact ⟨rfl, hb⟩
  · by_cases hr : right l = 0
    · have HR := Lib.hid hr
      have HRG := Lib.hid (right_range hr)
      clear hr
      go_enter Try.func7, Try.ntmps7
      go_wp2_with (fail)
      refine (alive_any _).mono ?_
      rintro e w1 ⟨rfl, hb1⟩
      have HB1 := Lib.hid hb1
      clear hb1
      go_wp2_with (fail)
      refine (of_ok _ _ l _ (Kd.C_below HL.out HB1.out) (by omega) HR.out).mono ?_
      rintro e w2 ⟨v2, rfl, hr2, hb2⟩
      obtain ⟨A2, c2, rfl⟩ := Kd.R_slice hr2
      rw [codes_length] at hr2 ⊢
      have HC2 := Lib.hid (show KI.C w2 A2 l.length (codes l) by have := (Kd.R_reads' hr2).2.2; rwa [codes_length] at this)
      have HB2 := Lib.hid (Ints.bel_trans HB1.out HB1.out.size hb2)
      clear hr2 hb2 HB1
      go_wp2_with (fail)
      refine (new_ok _ _ l _ (Kd.C_below HL.out HB2.out) (by omega) HR.out).mono ?_
      rintro e w3 ⟨tb, rfl, ht, hb3⟩
      have HT3 := Lib.hid ht
      have HC3 := Lib.hid (Kd.C_below HC2.out hb3)
      have HB3 := Lib.hid (Ints.bel_trans HB2.out HB2.out.size hb3)
      have HL3 := Lib.hid (Kd.C_below HL.out HB3.out)
      have HS3 := Lib.hid (Kd.C_below HSS.out HB3.out)
      clear ht hb3 HB2 HC2 HSS
      go_wp2_with (fail)
      have HW0 := Lib.hid (wr_new w3 w3.heap.size)
      have HB0 := Lib.hid ((Below.refl w3.heap.size w3).alloc (Nat.le_refl _) (.cells #[.slice none 0 0, .int .i64 0] 47 (0, 0)))
      go_loopg [63] ss.length (fun j i wr => ∃ k : Nat, k + j = ss.length ∧ i = .int .i64 k ∧ Hid ((∃ v, WR wr w3.heap.size w3.heap.size v (stream l (ss.take k))) ∧ Below w3.heap.size w3 wr))
      case atStart => exact ⟨0, by omega, rfl, ⟨_, HW0.out⟩, HB0.out⟩
      case round =>
        obtain ⟨k, hk, rfl, HI⟩ := hrel
        clear HW0 HB0
        obtain ⟨⟨v, hW⟩, hB⟩ := HI.out
        by_cases hlt : k < ss.length
        · obtain ⟨sd, rfl, x0⟩ := ints_at (Kd.C_below HS3.out hB) k hlt
          have hst := stream_step l ss k hlt
          have hle := stream_le HRG.out (ss.take k)
          have hle3 := List.length_take_le k ss
          obtain ⟨s, hs⟩ : ∃ s, ss.getD k 0 = s := ⟨_, rfl⟩
          rw [hs] at x0 hst
          have i0 : (0 : Int) ≤ k := by omega
          have i1 : (k : Int) < (ss.length : Int) := by omega
          have i2 : ((k : Int)).toNat = k := by omega
          have HST := Lib.hid hst
          have HLE := Lib.hid hle
          have HLE3 := Lib.hid hle3
          have HW := Lib.hid hW
          have HB := Lib.hid hB
          have HK := Lib.hid hk
          clear hs hst hle hle3 hW hB HI hk
          go_wp2_with (fail)
          refine (put_sym _ _ _ _ l s w3.heap.size w3.heap.size v _ _ (Kd.C_below HL3.out HB.out) (Kd.C_below HC3.out HB.out) HW.out HB.out.size (by have := HLE.out; have := HLE3.out; omega) HR.out).mono ?_
          rintro e w5 ⟨rfl, HQ⟩
          obtain ⟨v1, hW5, hC5⟩ := HQ.out
          have HB5 := Lib.hid (HB.out.trans (hC5.below (B := w3.heap.size) HB.out.size (fun t ht => by
            rcases ht with rfl | ht
            · exact Nat.le_refl _
            · exact own_base (Kd.own_of_R HW.out.2.1) t ht.symm)))
          rw [← HST.out] at hW5
          have HW5 := Lib.hid hW5
          clear hW5 hC5 HQ HW HB
          generalize coded l s = cd
          go_wp2_with (fail)
          go_roundg (ss.length - (k + 1))
          case measure => have := HK.out; omega
          case rel => exact ⟨k + 1, by have := HK.out; omega, by go_num, ⟨_, HW5.out⟩, HB5.out⟩
        · obtain rfl : k = ss.length := by omega
          rw [List.take_length, ← stream_filter] at hW
          have hpc : ∀ x ∈ ss.filter (coded l), coded l x = true := fun x hx => (List.mem_filter.1 hx).2
          have hpl := List.length_filter_le (coded l) ss
          obtain ⟨ps, hps⟩ : ∃ ps, ss.filter (coded l) = ps := ⟨_, rfl⟩
          rw [hps] at hW hpc hpl
          have hbb := stream_bits l ps
          have hbl := stream_le HRG.out ps
          obtain ⟨bs, hbs⟩ : ∃ bs, stream l ps = bs := ⟨_, rfl⟩
          rw [hbs] at hW hbb hbl
          have HW := Lib.hid hW
          have HB := Lib.hid hB
          have HBS := Lib.hid hbs
          have HCD := Lib.hid hpc
          have HPL := Lib.hid hpl
          have HRP := Lib.hid (rem_pack hbb)
          have hsz : (strOfNums (pack bs)).size ≤ 1000 := by rw [strOfNums_size, pack_length]; omega
          have HSZ := Lib.hid (show (strOfNums (pack bs)).size = (bs.length + 7) / 8 by rw [strOfNums_size, pack_length])
          clear hW hB hbb hbs hbl hpc hpl hps hk HI
          go_wp2_with (fail)
          refine (bytes_any _ _ _ _ _ HW.out).mono ?_
          rintro e w5 ⟨rfl, rfl⟩
          obtain ⟨st, hst⟩ : ∃ st, strOfNums (pack bs) = st := ⟨_, rfl⟩
          rw [hst] at HRP hsz HSZ ⊢
          obtain ⟨N, hN, hNL⟩ := turn_n cut st.size (by omega)
          have n0 : (0 : Int) ≤ N := by omega
          have n1 : (N : Int) ≤ (st.size : Int) := by omega
          have n2 : ((N : Int)).toNat = N := by omega
          clear hst
          go_wp2_with (fail)
          have hcsz : (st.extract 0 N).size = N := by rw [ByteArray.size_extract]; omega
          have hcrem := rem_cut st N (by omega)
          have hNb : 8 * N ≤ bs.length + 7 := by have := HSZ.out; omega
          obtain ⟨ct, hct⟩ : ∃ ct, st.extract 0 N = ct := ⟨_, rfl⟩
          rw [hct] at hcsz hcrem ⊢
          rw [HRP.out] at hcrem
          have HCR := Lib.hid (show ∀ p, rem ct p = ((stream l ps ++ List.replicate (8 * ((bs.length + 7) / 8) - bs.length) 0).take (8 * N)).drop p from fun p => by rw [HBS.out, ← hcrem, rem_drop])
          have HTL := Lib.hid (show 8 * N ≤ (stream l ps ++ List.replicate (8 * ((bs.length + 7) / 8) - bs.length) 0).length by rw [HBS.out, List.length_append, List.length_replicate]; have := HSZ.out; omega)
          have HNB := Lib.hid (show 8 * N ≤ (stream l ps).length + 7 by rw [HBS.out]; exact hNb)
          have HCS := Lib.hid hcsz
          have n3 : (N : Int) ≤ 1000 := by omega
          clear hct hcsz hcrem hNb hN hNL n1 n2 hsz
          refine (newReader ct _ (by have := HCS.out; omega)).mono ?_
          rintro e w6 ⟨rfl, rfl⟩
          have HN := (Below.refl w5.heap.size w5).alloc (Nat.le_refl _) (.cells #[.string ct, .int .i64 0] 60 (0, 0))
          have HR6 := Lib.hid (rr_new ct w5 (by have := HCS.out; omega))
          have HT6 := Lib.hid ((HT3.out.below HB.out).below HN)
          have HB6 := Lib.hid (Ints.bel_trans HB3.out HB3.out.size (HB.out.alloc HB.out.size (.cells #[.string ct, .int .i64 0] 60 (0, 0))))
          have HRB := Lib.hid (show w.heap.size ≤ w5.heap.size from Nat.le_trans HB3.out.size HB.out.size)
          clear HN HW HB
          generalize hW6 : w5.alloc (.cells #[.string ct, .int .i64 0] 60 (0, 0)) = W6 at *
          obtain ⟨rb, hrb⟩ : ∃ x, w5.heap.size = x := ⟨_, rfl⟩
          rw [hrb] at HR6 HRB ⊢
          clear hW6 hrb
          go_wp2_with (fail)
          go_loopg [17] 900 (fun j i wr => ∃ k p : Nat, k + j = 900 ∧ i = .int .i64 k ∧ Hid (Inv l ps k p ∧ p ≤ 8 * N) ∧ Hid (RR wr rb ct p ∧ TOK wr tb l ∧ Below w.heap.size w wr))
          case atStart => exact ⟨0, 0, by omega, rfl, ⟨.inl ⟨Nat.zero_le _, rfl⟩, Nat.zero_le _⟩, HR6.out, HT6.out, HB6.out⟩
          case round =>
            obtain ⟨k, p, hk, rfl, HV, HI⟩ := hrel
            clear HR6 HT6 HB6
            obtain ⟨hr, ht, hb⟩ := HI.out
            have hke := inv_end HV.out.1 HV.out.2 HNB.out
            have hki : (k : Int) < 900 := by have := HPL.out; omega
            obtain ⟨L, hL⟩ : ∃ L, 8 * ct.size - p = L := ⟨_, rfl⟩
            have hLp : L + p = 8 * N := by have := HCS.out; have := HV.out.2; omega
            have hLi : (L : Int) ≤ 8000 := by omega
            have hsays := next_says l (rem ct p)
            rw [rem_length, hL] at hsays
            have HLE := Lib.hid hL
            have HR7 := Lib.hid hr
            have HT7 := Lib.hid ht
            have HB7 := Lib.hid hb
            have HK := Lib.hid hk
            have HLP := Lib.hid hLp
            clear hr ht hb HI hk hke hL hLp
            rcases hsays with ⟨s, m, hX, hs, hsm, hmL, hm1, hm2⟩ | ⟨hX, hLm⟩ | hX
            · have HX := Lib.hid hX
              have HSM := Lib.hid hsm
              have HM1 := Lib.hid hm1
              have hsi : (s : Int) < (l.length : Int) := by omega
              have s0 : (0 : Int) ≤ s := by omega
              have s2 : ((s : Int)).toNat = s := by omega
              have m1i : (1 : Int) ≤ m := by omega
              have mLi : (m : Int) ≤ (L : Int) := by omega
              have wv : IntKind.i64.wrap ((L : Int) - (m : Int)) = (L : Int) - (m : Int) := Code.i64_small _ (by omega) (by omega)
              have t1 : ((L : Int) - (m : Int) != (L : Int) - (m : Int)) = false := by simp
              have HL2 := Lib.hid (show ((8 * ct.size - (p + m) : Nat) : Int) = (L : Int) - (m : Int) by have := HLP.out; have := HCS.out; omega)
              have t2 : decide ((m : Int) < 1) = false := decide_eq_false (by omega)
              have t3 : decide ((s : Int) < 0) = false := decide_eq_false (by omega)
              have t4 : decide (l.length ≤ s) = false := decide_eq_false (by omega)
              have t5 : decide (m = 0) = false := decide_eq_false (by omega)
              clear hX hs hsm hmL hm1 hm2
              go_wp2_with (fail)
              refine (left_eq _ _ L _ _ HR7.out HLE.out).mono ?_
              rintro e w8 ⟨rfl, q8, rfl⟩
              go_wp2_with (fail)
              refine (next_any tb rb p ct l _ (HT7.out.drewN q8) (HR7.out.drewN q8) (by omega) HR.out).mono ?_
              rintro e w9 ⟨rfl, hr9, hc9⟩
              have HT9 := Lib.hid (RR.tab (HT7.out.drewN q8) hc9 (HR7.out.drewN q8))
              have HB9 := Lib.hid ((below_drewN HB7.out q8).trans (hc9.below (B := w.heap.size) HB7.out.size (fun k hk => by have := HRB.out; omega)))
              rw [HX.out] at hr9 ⊢
              have HR9 := Lib.hid hr9
              obtain ⟨ad, rfl, x0⟩ := ints_at (Kd.C_below HL.out HB9.out) s (by omega)
              rw [HSM.out] at x0
              clear hr9 hc9 HT7 HB7 HR7
              go_wp2_with (fail)
              go_quiet ((go_at_call 17; exact Calls.quiet_of (left_int _ _ _ _ _ (by exact HR9.out) HL2.out)))
              go_wp2_with (fail)
              go_roundg (900 - (k + 1))
              case measure => have := HK.out; omega
              case rel => exact ⟨k + 1, p + m, by have := HK.out; omega, by go_num, ⟨inv_step l ps _ HR.out HCD.out (8 * N) k p HTL.out HV.out.1 s m (by rw [← HCR.out p]; exact HX.out) HM1.out, by have := HLP.out; omega⟩, HR9.out.drewN _, HT9.out.drewN _, below_drewN HB9.out _⟩
            · have HX := Lib.hid hX
              have hLm2 : (L : Int) < (most l : Int) := by omega
              have t1 : ((L : Int) == (L : Int)) = true := by simp
              have HL2 := Lib.hid (show 8 * ct.size - (p + 0) = L from HLE.out)
              clear hX hLm
              go_wp2_with (fail)
              refine (left_eq _ _ L _ _ HR7.out HLE.out).mono ?_
              rintro e w8 ⟨rfl, q8, rfl⟩
              go_wp2_with (fail)
              refine (next_any tb rb p ct l _ (HT7.out.drewN q8) (HR7.out.drewN q8) (by omega) HR.out).mono ?_
              rintro e w9 ⟨rfl, hr9, hc9⟩
              have HT9 := Lib.hid (RR.tab (HT7.out.drewN q8) hc9 (HR7.out.drewN q8))
              have HB9 := Lib.hid ((below_drewN HB7.out q8).trans (hc9.below (B := w.heap.size) HB7.out.size (fun k hk => by have := HRB.out; omega)))
              rw [HX.out] at hr9 ⊢
              have HR9 := Lib.hid hr9
              clear hr9 hc9 HT7 HB7 HR7
              go_wp2_with (fail)
              refine (left_eq _ _ L _ _ HR9.out HL2.out).mono ?_
              rintro e w10 ⟨rfl, q10, rfl⟩
              go_wp2_with (fail)
              refine (tmost_any _ _ _ (HT9.out.drewN q10)).mono ?_
              rintro e w11 ⟨rfl, rfl⟩
              go_wp2_with (fail)
              go_ret
              exact ⟨rfl, below_drewN HB9.out q10⟩
            · have HX := Lib.hid hX
              have t1 : ((L : Int) == (L : Int)) = true := by simp
              have HL2 := Lib.hid (show 8 * ct.size - (p + 0) = L from HLE.out)
              clear hX
              go_wp2_with (fail)
              refine (left_eq _ _ L _ _ HR7.out HLE.out).mono ?_
              rintro e w8 ⟨rfl, q8, rfl⟩
              go_wp2_with (fail)
              refine (next_any tb rb p ct l _ (HT7.out.drewN q8) (HR7.out.drewN q8) (by omega) HR.out).mono ?_
              rintro e w9 ⟨rfl, hr9, hc9⟩
              have HB9 := Lib.hid ((below_drewN HB7.out q8).trans (hc9.below (B := w.heap.size) HB7.out.size (fun k hk => by have := HRB.out; omega)))
              rw [HX.out] at hr9 ⊢
              have HR9 := Lib.hid hr9
              clear hr9 hc9 HT7 HB7 HR7
              go_wp2_with (fail)
              refine (left_eq _ _ L _ _ HR9.out HL2.out).mono ?_
              rintro e w10 ⟨rfl, q10, rfl⟩
              go_wp2_with (fail)
              go_ret
              exact ⟨rfl, below_drewN HB9.out q10⟩
    · have HR := Lib.hid hr
      have hne : (right l != 0) = true := bne_iff_ne.2 hr
      have heq : (right l == right l) = true := by simp
      obtain ⟨r, hR⟩ : ∃ r, right l = r := ⟨_, rfl⟩
      have HRR := Lib.hid hR
      rw [hR] at hne heq
      clear hr hR
      go_enter Try.func7, Try.ntmps7
      go_wp2_with (fail)
      refine (alive_any _).mono ?_
      rintro e w1 ⟨rfl, hb1⟩
      have HB1 := Lib.hid hb1
      clear hb1
      go_wp2_with (fail)
      refine (of_no _ _ l _ (Kd.C_below HL.out HB1.out) (by omega) HR.out).mono ?_
      rintro e w2 ⟨rfl, rfl⟩
      rw [HRR.out]
      go_wp2_with (fail)
      refine (new_no _ _ l _ (Kd.C_below HL.out HB1.out) (by omega) HR.out).mono ?_
      rintro e w3 ⟨rfl, rfl⟩
      rw [HRR.out]
      go_wp2_with (fail)
      go_ret
      exact ⟨rfl, HB1.out⟩
end Go.Proofs.Ytadijdcdonommaa.Read
