/- Chapter 21: symbols that were written by their codes are read as they were. -/
import Derived.Test.YtadijdcdonommaaReadL4
import Derived.Test.YtadijdcdonommaaCodePut
import Derived.Test.YtadijdcdonommaaBitsTurn
namespace Go.Proofs.Ytadijdcdonommaa.Read
set_option linter.unusedVariables false
set_option linter.unusedSimpArgs false
open Go.RowKit Go.Proofs.YtadijdcdonommaaW.PrintWords Go.Proofs.YtadijdcdonommaaW.PrintMore Go.Proofs.Ytadijdcdonommaa.L Go.Proofs.Ytadijdcdonommaa.Ints Go.Proofs.Ytadijdcdonommaa.Code Go.Proofs.Ytadijdcdonommaa.BP Go.Proofs.Ytadijdcdonommaa.Bits

theorem coded_at {l : List Int} {s : Int} (hr : right l = 0) (h : coded l s = true) : ∃ n : Nat, l.getD s.toNat 0 = ((n + 1 : Nat) : Int) ∧ n + 1 ≤ 15 ∧ ((s.toNat : Nat) : Int) = s ∧ s.toNat < l.length := by
  obtain ⟨h1, h2, h3⟩ := of_decide_eq_true h
  have h4 := right_range hr _ (getD_mem' (l := l) (k := s.toNat) (by omega))
  exact ⟨(l.getD s.toNat 0).toNat - 1, by omega, by omega, by omega, by omega⟩
theorem stream_split (l ss : List Int) (k : Nat) (hk : k < ss.length) : stream l ss = stream l (ss.take k) ++ (symBits l (ss.getD k 0) ++ stream l (ss.drop (k + 1))) := by
  have h1 : ss = ss.take k ++ ([ss.getD k 0] ++ ss.drop (k + 1)) := by
    rw [← List.append_assoc, ← take_succ_getD ss k hk, List.take_append_drop]
  conv => lhs; rw [h1, stream_append, stream_append, stream_one]
theorem stream_step (l ss : List Int) (k : Nat) (hk : k < ss.length) : stream l (ss.take (k + 1)) = stream l (ss.take k) ++ symBits l (ss.getD k 0) := by
  rw [take_succ_getD ss k hk, stream_append, stream_one]
theorem filter_one (f : Int → Bool) (s : Int) : [s].filter f = if f s = true then [s] else [] := by
  cases h : f s <;> simp [h]
/-- Where a symbol's bits begin, it stands. -/
theorem next_at (l ss pad : List Int) (k : Nat) (hr : right l = 0) (hk : k < ss.length) (hc : coded l (ss.getD k 0) = true) :
    next l ((stream l ss ++ pad).drop (stream l (ss.take k)).length) = (ss.getD k 0, 0, (symBits l (ss.getD k 0)).length) := by
  obtain ⟨n, h1, h2, h3, h4⟩ := coded_at hr hc
  rw [stream_split l ss k hk, List.append_assoc, List.drop_left, symBits_yes hc, h1, Int.toNat_natCast, List.append_assoc, bitsV_length]
  rw [next_code l _ n h1 h2 (right_kraft hr), h3]
theorem own_ne {w : World} {b base base' : Nat} {ok : Nat → Prop} {v p : Value} {bs xs : List Int} (h1 : KI.R 3 w base ok p xs) (h2 : WR w b base' v bs) : ∀ k, v.ownBlock = some k → ¬ (some k = p.ownBlock) := by
  intro k hk he
  obtain ⟨cells, hg⟩ := own_typed (Kd.own_of_R h2.2.1) k hk
  exact Kd.R_ne h1 hg (by decide) he
theorem wr_grown {w w' : World} {b base base' : Nat} {ok : Nat → Prop} {v p : Value} {bs xs : List Int} (h1 : KI.R 3 w base ok p xs) (h2 : WR w b base' v bs) (hg : w.grownBy w' p.ownBlock) : WR w' b base' v bs :=
  h2.chg (S := fun k => some k = p.ownBlock) ((Chg.refl _ w).grown hg (fun k hk _ => hk.symm)) (fun e => Kd.R_ne h1 h2.1 (by decide) e) (own_ne h1 h2)
set_option maxRecDepth 100000 in
set_option maxHeartbeats 4000000 in
theorem ReadBack_walk (A : Option Addr) (l : List Int) (c : Nat) (B : Option Addr) (ss : List Int) (c' : Nat) (w : World) (hl : KI.C w A l.length l) (hlc : l.length ≤ c) (h8 : l.length * 8 ≤ 140737488351232) (hlw : ∀ x ∈ l, (Lit.int .i64 x).wf = true)
    (hs : KI.C w B ss.length ss) (hsc : ss.length ≤ c') (s8 : ss.length * 8 ≤ 140737488351232) (hsw : ∀ x ∈ ss, (Lit.int .i64 x).wf = true) :
    Calls Try.prog 8 #[.slice A l.length c, .slice B ss.length c'] w fun e w' => e = .returned (.bool true) ∧ Below w.heap.size w w' := by
  have HL := Lib.hid hl
  have HSS := Lib.hid hs
  clear hl hlc hlw hs hsc hsw
  have hcase : ((400 : Int) < (l.length : Int) ∨ ((l.length : Int) ≤ 400 ∧ (200 : Int) < (ss.length : Int))) ∨ ((l.length : Int) ≤ 400 ∧ (ss.length : Int) ≤ 200) := by omega
  rcases hcase with hcase | ⟨h1, h2⟩
  · rcases hcase with h | ⟨h0, h⟩
    all_goals
      go_enter Try.func8, Try.ntmps8
      go_wp2_with (go_at_call 9; refine (alive_any _).mono ?_; rintro e w' ⟨rfl, hb⟩)
      go_ret
      exact ⟨rfl, hb⟩
  · by_cases hr : right l = 0
    · have HR := Lib.hid hr
      have HRG := Lib.hid (right_range hr)
      clear hr
      go_enter Try.func8, Try.ntmps8
      go_wp2_with (fail)
      refine (alive_any _).mono ?_
      rintro e w1 ⟨rfl, hb1⟩
      have HB1 := Lib.hid hb1
      clear hb1
      go_wp2_with (fail)
      refine (of_ok _ _ l _ (Kd.C_below HL.out HB1.out) (by omega) HR.out).mono ?_
      rintro e w2 ⟨v2, rfl, hr2, hb2⟩
      obtain ⟨A2, c2, rfl⟩ := Kd.R_slice hr2
      rw [codes_length] at hr2 ⊢
      have HC2 := Lib.hid (show KI.C w2 A2 l.length (codes l) by have := (Kd.R_reads' hr2).2.2; rwa [codes_length] at this)
      have HB2 := Lib.hid (Ints.bel_trans HB1.out HB1.out.size hb2)
      clear hr2 hb2 HB1
      go_wp2_with (fail)
      refine (new_ok _ _ l _ (Kd.C_below HL.out HB2.out) (by omega) HR.out).mono ?_
      rintro e w3 ⟨tb, rfl, ht, hb3⟩
      have HT3 := Lib.hid ht
      have HC3 := Lib.hid (Kd.C_below HC2.out hb3)
      have HB3 := Lib.hid (Ints.bel_trans HB2.out HB2.out.size hb3)
      have HL3 := Lib.hid (Kd.C_below HL.out HB3.out)
      have HS3 := Lib.hid (Kd.C_below HSS.out HB3.out)
      clear ht hb3 HB2 HC2 HL HSS
      go_wp2_with (fail)
      have HW0 := Lib.hid (wr_new w3 w3.heap.size)
      have HB0 := Lib.hid ((Below.refl w3.heap.size w3).alloc (Nat.le_refl _) (.cells #[.slice none 0 0, .int .i64 0] 47 (0, 0)))
      go_loopg [10, 60] ss.length (fun j p i wr => ∃ k : Nat, k + j = ss.length ∧ i = .int .i64 k ∧ Hid ((∃ v, WR wr w3.heap.size w3.heap.size v (stream l (ss.take k))) ∧ KI.R 3 wr w3.heap.size (fun _ => True) p ((ss.take k).filter (coded l)) ∧ Below w3.heap.size w3 wr))
      case atStart => exact ⟨0, by omega, rfl, ⟨_, HW0.out⟩, Kd.R_nil _ _ _ _ _, HB0.out⟩
      case round =>
        obtain ⟨k, hk, rfl, HI⟩ := hrel
        clear HW0 HB0
        obtain ⟨⟨v, hW⟩, hP, hB⟩ := HI.out
        by_cases hlt : k < ss.length
        · obtain ⟨sd, rfl, x0⟩ := ints_at (Kd.C_below HS3.out hB) k hlt
          have hst := stream_step l ss k hlt
          have hfi : (ss.take (k + 1)).filter (coded l) = (ss.take k).filter (coded l) ++ (if coded l (ss.getD k 0) = true then [ss.getD k 0] else []) := by
            rw [take_succ_getD ss k hlt, List.filter_append, filter_one]
          have hle := stream_le HRG.out (ss.take k)
          have hle2 := List.length_filter_le (coded l) (ss.take k)
          have hle3 := List.length_take_le k ss
          obtain ⟨s, hs⟩ : ∃ s, ss.getD k 0 = s := ⟨_, rfl⟩
          rw [hs] at x0 hst hfi
          obtain ⟨A7, c7, rfl⟩ := Kd.R_slice hP
          obtain ⟨P, hPP⟩ : ∃ P, ((ss.take k).filter (coded l)).length = P := ⟨_, rfl⟩
          have hP200 : (P : Int) ≤ 200 := by omega
          have i0 : (0 : Int) ≤ k := by omega
          have i1 : (k : Int) < (ss.length : Int) := by omega
          have i2 : ((k : Int)).toNat = k := by omega
          have HST := Lib.hid hst
          have HFI := Lib.hid hfi
          have HLE := Lib.hid hle
          have HLE3 := Lib.hid hle3
          have HPP := Lib.hid hPP
          have HW := Lib.hid hW
          have HP := Lib.hid hP
          have HB := Lib.hid hB
          have HK := Lib.hid hk
          clear hs hst hfi hle hle2 hle3 hW hP hB HI hk
          rw [hPP]
          clear hPP
          go_wp2_with (fail)
          refine (put_sym _ _ _ _ l s w3.heap.size w3.heap.size v _ _ (Kd.C_below HL3.out HB.out) (Kd.C_below HC3.out HB.out) HW.out HB.out.size (by have := HLE.out; have := HLE3.out; omega) HR.out).mono ?_
          rintro e w5 ⟨rfl, HQ⟩
          obtain ⟨v1, hW5, hC5⟩ := HQ.out
          have HP5 := Lib.hid (R_wr HP.out HW.out hC5 (by decide) (by decide))
          have HB5 := Lib.hid (HB.out.trans (hC5.below (B := w3.heap.size) HB.out.size (fun t ht => by
            rcases ht with rfl | ht
            · exact Nat.le_refl _
            · exact own_base (Kd.own_of_R HW.out.2.1) t ht.symm)))
          rw [← HST.out] at hW5
          have HW5 := Lib.hid hW5
          clear hW5 hC5 HQ HW HP HB
          cases hcd : coded l s
          · rw [hcd, if_neg (by decide), List.append_nil] at HFI
            go_wp2_with (fail)
            go_roundg (ss.length - (k + 1))
            case measure => have := HK.out; omega
            case rel => exact ⟨k + 1, by have := HK.out; omega, by go_num, ⟨_, HW5.out⟩, by rw [HFI.out]; have := HP5.out; rw [HPP.out] at this; exact this, HB5.out⟩
          · rw [hcd, if_pos rfl] at HFI
            go_wp2_with (((with_reducible refine gate_builtin (b := .append) (xs := #[.tmp 69, .tmp 71]) rfl ?_); at_builtin; apply stopper))
            unfold Stopper
            refine Kd.R_append KI (w0 := w3) w3.heap.size rfl (.tmp 69) (.tmp 71) 22 3 (.int .i64 0) 8 rfl Try.underlying22 infoInt rfl (by decide) (by omega) (.slice A7 P c7) ((ss.take k).filter (coded l)) s [.int .i64 s] (fun _ => True) (fun _ => False) rfl rfl rfl (fun _ hk => hk.elim) (fun _ _ => trivial) (by have := HP5.out; rw [HPP.out] at this; exact this) HB5.out HB5.out.size (by rw [HPP.out]; omega) ?_
            intro v9 w9 ho9 hb9 hg9 hat9
            rw [← HFI.out] at ho9
            have HP9 := Lib.hid ho9
            have HB9 := Lib.hid hb9
            have HW9 := Lib.hid (wr_grown (by have := HP5.out; rw [HPP.out] at this; exact this) HW5.out hg9)
            clear ho9 hb9 hg9 hat9 HP5 HB5 HW5 hcd
            go_wp2_with (fail)
            go_roundg (ss.length - (k + 1))
            case measure => have := HK.out; omega
            case rel => exact ⟨k + 1, by have := HK.out; omega, by go_num, ⟨_, HW9.out⟩, HP9.out, HB9.out⟩
        · obtain rfl : k = ss.length := by omega
          rw [List.take_length] at hW hP
          rw [← stream_filter] at hW
          have hpc : ∀ x ∈ ss.filter (coded l), coded l x = true := fun x hx => (List.mem_filter.1 hx).2
          have hpl := List.length_filter_le (coded l) ss
          obtain ⟨ps, hps⟩ : ∃ ps, ss.filter (coded l) = ps := ⟨_, rfl⟩
          rw [hps] at hW hP hpc hpl
          have hbb := stream_bits l ps
          have hbl := stream_le HRG.out ps
          obtain ⟨bs, hbs⟩ : ∃ bs, stream l ps = bs := ⟨_, rfl⟩
          rw [hbs] at hW hbb hbl
          obtain ⟨A7, c7, rfl⟩ := Kd.R_slice hP
          obtain ⟨P, hPP⟩ : ∃ P, ps.length = P := ⟨_, rfl⟩
          have HPC := Lib.hid (show KI.C wr A7 P ps by have := (Kd.R_reads' hP).2.2; rwa [hPP] at this)
          rw [hPP] at hpl ⊢
          have hP200 : (P : Int) ≤ 200 := by omega
          have HW := Lib.hid hW
          have HP := Lib.hid hP
          have HB := Lib.hid hB
          have HBB := Lib.hid hbb
          have HBS := Lib.hid hbs
          have HPP := Lib.hid hPP
          have HCD := Lib.hid hpc
          have HRP := Lib.hid (rem_pack hbb)
          have HRE := Lib.hid (rest_back hbb)
          have hsz : (strOfNums (pack bs)).size ≤ 1000 := by rw [strOfNums_size, pack_length]; omega
          have HSZ := Lib.hid (show (strOfNums (pack bs)).size = (bs.length + 7) / 8 by rw [strOfNums_size, pack_length])
          clear hW hP hB hbb hbs hPP hbl hpc hpl hps hk HI
          go_wp2_with (fail)
          refine (bytes_any _ _ _ _ _ HW.out).mono ?_
          rintro e w5 ⟨rfl, rfl⟩
          obtain ⟨st, hst⟩ : ∃ st, strOfNums (pack bs) = st := ⟨_, rfl⟩
          rw [hst] at HRP HRE hsz HSZ ⊢
          clear hst
          go_wp2_with (fail)
          refine (newReader st _ (by omega)).mono ?_
          rintro e w6 ⟨rfl, rfl⟩
          have HN := (Below.refl w5.heap.size w5).alloc (Nat.le_refl _) (.cells #[.string st, .int .i64 0] 60 (0, 0))
          have HR6 := Lib.hid (rr_new st w5 (by omega))
          have HT6 := Lib.hid ((HT3.out.below HB.out).below HN)
          have HP6 := Lib.hid (R_bel HP.out HN)
          have HB6 := Lib.hid (Ints.bel_trans HB3.out HB3.out.size (HB.out.alloc HB.out.size (.cells #[.string st, .int .i64 0] 60 (0, 0))))
          have HRB := Lib.hid (show w.heap.size ≤ w5.heap.size from Nat.le_trans HB3.out.size HB.out.size)
          clear HN HP HW HB HPC
          generalize hW6 : w5.alloc (.cells #[.string st, .int .i64 0] 60 (0, 0)) = W6 at *
          obtain ⟨rb, hrb⟩ : ∃ x, w5.heap.size = x := ⟨_, rfl⟩
          rw [hrb] at HR6 HRB ⊢
          clear hW6 hrb
          go_wp2_with (fail)
          go_loopg [81] P (fun j i wr => ∃ k : Nat, k + j = P ∧ i = .int .i64 k ∧ Hid (RR wr rb st (stream l (ps.take k)).length ∧ TOK wr tb l ∧ KI.R 3 wr w3.heap.size (fun _ => True) (.slice A7 ps.length c7) ps ∧ Below w.heap.size w wr))
          case atStart => exact ⟨0, by omega, rfl, HR6.out, HT6.out, HP6.out, HB6.out⟩
          case round =>
            obtain ⟨k, hk, rfl, HI⟩ := hrel
            clear HR6 HT6 HP6 HB6
            obtain ⟨hr, ht, hp, hb⟩ := HI.out
            by_cases hlt : k < P
            · have hkp : k < ps.length := by have := HPP.out; omega
              obtain ⟨pd, rfl, x0⟩ := ints_at (show KI.C wr A7 P ps by have := (Kd.R_reads' hp).2.2; rwa [HPP.out] at this) k hlt
              have hX := next_at l ps (List.replicate (8 * ((bs.length + 7) / 8) - bs.length) 0) k HR.out hkp (HCD.out _ (getD_mem' hkp))
              rw [HBS.out, ← HRP.out, rem_drop] at hX
              have hst2 := stream_step l ps k hkp
              obtain ⟨s, hs⟩ : ∃ s, ps.getD k 0 = s := ⟨_, rfl⟩
              rw [hs] at x0 hX hst2
              have i0 : (0 : Int) ≤ k := by omega
              have i1 : (k : Int) < (P : Int) := by omega
              have i2 : ((k : Int)).toNat = k := by omega
              have t1 : (s != s) = false := by simp
              have HX := Lib.hid hX
              have HST2 := Lib.hid hst2
              have HR7 := Lib.hid hr
              have HT7 := Lib.hid ht
              have HP7 := Lib.hid hp
              have HB7 := Lib.hid hb
              have HK := Lib.hid hk
              clear hX hst2 hr ht hp hb HI hs hk
              go_wp2_with (fail)
              refine (next_any tb rb _ st l _ HT7.out HR7.out (by omega) HR.out).mono ?_
              rintro e w8 ⟨rfl, hr8, hc8⟩
              have HT8 := Lib.hid (RR.tab HT7.out hc8 HR7.out)
              have HP8 := Lib.hid (R_rr HP7.out hc8 HR7.out)
              have HB8 := Lib.hid (HB7.out.trans (hc8.below (B := w.heap.size) HB7.out.size (fun k hk => by have := HRB.out; omega)))
              rw [HX.out] at hr8 ⊢
              have HR8 := Lib.hid hr8
              clear hr8 hc8 HT7 HP7 HB7 HR7
              go_wp2_with (fail)
              go_roundg (P - (k + 1))
              case measure => have := HK.out; omega
              case rel => exact ⟨k + 1, by have := HK.out; omega, by go_num, by have := HR8.out; rw [HST2.out, List.length_append]; exact this, HT8.out, HP8.out, HB8.out⟩
            · obtain rfl : k = P := by omega
              have hall : stream l (ps.take k) = bs := by rw [List.take_of_length_le (by have := HPP.out; omega), HBS.out]
              rw [hall] at hr
              have HR7 := Lib.hid hr
              have HB7 := Lib.hid hb
              clear hr ht hp hb HI hall hk
              go_wp2_with (fail)
              refine (rest_any _ _ _ _ HR7.out).mono ?_
              rintro e w8 ⟨rfl, q, rfl⟩
              rw [HRE.out]
              go_wp2_with (fail)
              go_ret
              exact ⟨rfl, below_drewN HB7.out q⟩
    · have HR := Lib.hid hr
      have hne : (right l != 0) = true := bne_iff_ne.2 hr
      have heq : (right l == right l) = true := by simp
      obtain ⟨r, hR⟩ : ∃ r, right l = r := ⟨_, rfl⟩
      have HRR := Lib.hid hR
      rw [hR] at hne heq
      clear hr hR
      go_enter Try.func8, Try.ntmps8
      go_wp2_with (fail)
      refine (alive_any _).mono ?_
      rintro e w1 ⟨rfl, hb1⟩
      have HB1 := Lib.hid hb1
      clear hb1
      go_wp2_with (fail)
      refine (of_no _ _ l _ (Kd.C_below HL.out HB1.out) (by omega) HR.out).mono ?_
      rintro e w2 ⟨rfl, rfl⟩
      rw [HRR.out]
      go_wp2_with (fail)
      refine (new_no _ _ l _ (Kd.C_below HL.out HB1.out) (by omega) HR.out).mono ?_
      rintro e w3 ⟨rfl, rfl⟩
      rw [HRR.out]
      go_wp2_with (fail)
      go_ret
      exact ⟨rfl, HB1.out⟩
end Go.Proofs.Ytadijdcdonommaa.Read
