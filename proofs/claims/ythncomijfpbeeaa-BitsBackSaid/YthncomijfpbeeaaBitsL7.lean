/- Numbers that are put are read as they were, in their order: the walk of the law. -/
import Derived.Test.YthncomijfpbeeaaBitsL6
namespace Go.Proofs.Ythncomijfpbeeaa.Bits
set_option linter.unusedVariables false
set_option linter.unusedSimpArgs false
open Go.RowKit Go.Proofs.YthncomijfpbeeaaW.PrintWords Go.Proofs.YthncomijfpbeeaaW.PrintMore Go.Proofs.Ythncomijfpbeeaa.L Go.Proofs.Ythncomijfpbeeaa.BP Go.Proofs.Ythncomijfpbeeaa.Ops

theorem infoOp : (Try.prog.info? 52).map (fun i => (i.zero, i.size, i.bytes)) = some (some (.agg #[.int .i64 0, .int .i64 0, .int .i64 0]), 3, 24) := by kernel_rfl
theorem take_succ_at (l : List OpT) (k : Nat) (h : k < l.length) : l.take (k + 1) = l.take k ++ [at_ l k] := by
  rw [List.take_succ_eq_append_getElem h]
  simp [at_, List.getD_eq_getElem?_getD, List.getElem?_eq_getElem h]
theorem mem_at (l : List OpT) (k : Nat) (h : k < l.length) : at_ l k ∈ l := by
  unfold at_
  rw [List.getD_eq_getElem?_getD, List.getElem?_eq_getElem h]
  exact List.getElem_mem h

theorem back_at (acc : List OpT) (hall : ∀ x ∈ acc, okO x = true) (k : Nat) (hk : k < acc.length) (o0 o1 o2 : Int) (ho : at_ acc k = (o0, o1, o2)) :
    0 ≤ o2 ∧ o2 ≤ 32 ∧ valN (rem (strOfNums (pack (bitsA acc))) (bitsA (acc.take k)).length) o2.toNat = o1 ∧ (bitsA (acc.take (k + 1))).length = (bitsA (acc.take k)).length + o2.toNat ∧ (bitsA (acc.take (k + 1))).length ≤ (bitsA acc).length := by
  have hok := hall _ (mem_at acc k hk)
  rw [ho] at hok
  simp only [okO, mayPut, decide_eq_true_eq] at hok
  have hsp : bitsA acc = bitsA (acc.take (k + 1)) ++ bitsA (acc.drop (k + 1)) := by rw [← bitsA_append, List.take_append_drop]
  have htk : bitsA (acc.take (k + 1)) = bitsA (acc.take k) ++ bitsV o2.toNat o1 := by rw [take_succ_at acc k hk, ho, bitsA_append]; simp [bitsA]
  refine ⟨hok.1, hok.2.1, ?_, ?_, ?_⟩
  · rw [read_back (bitsA_bits acc), hsp, htk, List.append_assoc, List.drop_left]
    exact valN_bitsV _ _ hok.2.2.1 hok.2.2.2 _
  · rw [htk, List.length_append, bitsV_length]
  · rw [hsp, List.length_append]; omega
theorem peek_eq (b at_ : Nat) (s : ByteArray) (n v : Int) (w : World) (h : RR w b s at_) (h0 : 0 ≤ n) (h1 : n ≤ 32) (hv : valN (rem s at_) n.toNat = v) :
    Calls Try.prog 27 #[.pointer (some ⟨b, 0, none⟩), .int .i64 n] w fun e w' => e = .returned (.int .i64 v) ∧ ∃ k, w' = w.drewN k := by
  subst hv
  exact peek_any b at_ s n w h h0 h1
set_option maxRecDepth 100000 in
set_option maxHeartbeats 1000000 in
theorem BitsBack_walk (A : Option Addr) (l : List OpT) (c : Nat) (w : World) (hr : OpK.C w A l.length l) (hc : l.length ≤ c) (hm : l.length ≤ maxLen) :
    Calls Try.prog 7 #[.slice A l.length c] w fun e w' => e = .returned (.bool true) ∧ Below w.heap.size w w' := by
  have HR := Lib.hid hr
  unfold maxLen at hm
  clear hr
  by_cases h200 : 200 < l.length
  · go_enter Try.func7, Try.ntmps7
    go_wp2_with (go_at_call 23; refine (alive_any _).mono ?_; rintro e w' ⟨rfl, hb⟩)
    go_ret
    exact ⟨rfl, hb⟩
  · go_enter Try.func7, Try.ntmps7
    go_wp2_with (fail)
    refine (alive_any _).mono ?_
    rintro e w1 ⟨rfl, hb1⟩
    have HB := Lib.hid (hb1.alloc hb1.size (.cells #[.slice none 0 0, .int .i64 0] 47 (0, 0)))
    have HW := Lib.hid (wr_new w1 w.heap.size)
    have HSZ := Lib.hid hb1.size
    clear hb1
    go_wp2_with (fail)
    go_loopg [4, 5, 25] l.length (fun j n p i wr => ∃ k : Nat, k + j = l.length ∧ i = .int .i64 k ∧ n = .int .i64 ((bitsA ((l.take k).filter okO)).length : Nat) ∧ Hid ((∃ v, WR wr w1.heap.size w.heap.size v (bitsA ((l.take k).filter okO))) ∧ Kd.R OpK 52 wr w.heap.size (fun _ => True) p ((l.take k).filter okO) ∧ Below w.heap.size w wr))
    case atStart => exact ⟨0, by omega, rfl, rfl, ⟨_, HW.out⟩, Kd.R_nil _ _ _ _ _, HB.out⟩
    case round =>
      obtain ⟨k, hk, rfl, rfl, HI⟩ := hrel
      by_cases hlt : k < l.length
      · obtain ⟨⟨v, hW⟩, hP, hB⟩ := HI.out
        obtain ⟨ad, rfl, x0, x1, x2⟩ := ops_at (Kd.C_below HR.out ⟨hB.os, hB.tape, hB.output, hB.size, hB.block⟩) k hlt
        have HW4 := Lib.hid hW
        have HP4 := Lib.hid hP
        have HB4 := Lib.hid hB
        have i0 : (0 : Int) ≤ k := by omega
        have i1 : (k : Int) < (l.length : Int) := by omega
        clear hW hP hB HI
        obtain ⟨o, ho⟩ : ∃ o, at_ l k = o := ⟨_, rfl⟩
        rw [ho] at x0 x1 x2
        have hts : (l.take (k + 1)).filter okO = (l.take k).filter okO ++ (if okO o = true then [o] else []) := by
          rw [take_succ_at l k hlt, List.filter_append, ho]
          by_cases h : okO o = true <;> simp [h]
        have HT := Lib.hid hts
        have HO := Lib.hid ho
        clear hts ho
        obtain ⟨o0, o1, o2⟩ := o
        go_wp2_with (fail)
        have hOb : (wr.alloc (.cells #[.int .i64 o0, .int .i64 o1, .int .i64 o2] 52 (0, 0))).heap[wr.heap.size]? = some (.cells #[.int .i64 o0, .int .i64 o1, .int .i64 o2] 52 (0, 0)) := heap_alloc_self _ _
        have HW5 := Lib.hid (HW4.out.chg ((Chg.refl (fun _ => False) wr).alloc (.cells #[.int .i64 o0, .int .i64 o1, .int .i64 o2] 52 (0, 0))) (fun h => h) (fun _ _ h => h))
        have HP5 := Lib.hid (Kd.R_alloc HP4.out (.cells #[.int .i64 o0, .int .i64 o1, .int .i64 o2] 52 (0, 0)))
        have HB5 := Lib.hid (HB4.out.alloc HB4.out.size (.cells #[.int .i64 o0, .int .i64 o1, .int .i64 o2] 52 (0, 0)))
        have HOB := Lib.hid hOb
        have HLT := Lib.hid (Kd.R_lt HP4.out)
        clear hOb HW4 HP4 x0 x1 x2
        by_cases hok : mayPut o1 o2 = true
        · have hok' : okO (o0, o1, o2) = true := hok
          have hlen : (bitsA ((l.take k).filter okO)).length ≤ 6400 := by
            have h1 := bitsA_le ((l.take k).filter okO) (fun x hx => (List.mem_filter.1 hx).2)
            have h2 := List.length_filter_le okO (l.take k)
            have h3 := List.length_take_le k l
            omega
          refine (put_yes _ _ _ _ _ _ _ HW5.out hok HB5.out.size (by omega)).mono ?_
          rintro e w5 ⟨rfl, v1, hW6, hC6, _⟩
          have hOb6 : w5.heap[wr.heap.size]? = some (.cells #[.int .i64 o0, .int .i64 o1, .int .i64 o2] 52 (0, 0)) := (hC6.block _ (blk_lt HOB.out) (by
            rintro (e | e)
            · have := HW5.out.1
              rw [← e, HOB.out] at this
              simp at this
            · exact Kd.R_ne HW5.out.2.1 HOB.out (by decide) e)).trans HOB.out
          have hP6 := R_wr HP5.out HW5.out hC6 (by decide) (by decide)
          have hB6 : Below w.heap.size w w5 := HB5.out.trans (hC6.below (B := w.heap.size) HB5.out.size (fun t ht => by
            rcases ht with rfl | ht
            · exact HSZ.out
            · exact own_base (Kd.own_of_R HW5.out.2.1) t ht.symm))
          rw [hok'] at HT
          have HT2 := Lib.hid (show (l.take (k + 1)).filter okO = (l.take k).filter okO ++ [(o0, o1, o2)] by rw [HT.out]; simp)
          have hlen2 : (((bitsA ((l.take k).filter okO)).length : Nat) : Int) + o2 = ((bitsA ((l.take (k + 1)).filter okO)).length : Nat) := by
            rw [HT2.out, bitsA_append, List.length_append]
            simp only [bitsA, List.append_nil, bitsV_length]
            simp only [mayPut, decide_eq_true_eq] at hok
            omega
          have hW7 : WR w5 w1.heap.size w.heap.size v1 (bitsA ((l.take (k + 1)).filter okO)) := by
            rw [HT2.out, bitsA_append]
            simpa [bitsA] using hW6
          have hm2 : 0 ≤ o2 ∧ o2 ≤ 32 := by simp only [mayPut, decide_eq_true_eq] at hok; omega
          obtain ⟨hm20, hm21⟩ := hm2
          have HW7 := Lib.hid hW7
          have HP7 := Lib.hid hP6
          have HB7 := Lib.hid hB6
          have HL2 := Lib.hid hlen2
          have HK := Lib.hid hk
          obtain ⟨y0, y1, y2, _, _, _⟩ := three_cells hOb6
          have HOb6 := Lib.hid hOb6
          clear HW5 HP5 HB5 HB4 HOB hW6 hC6 hOb6 hP6 hB6 hW7 HT hlen2 hok hok'
          go_wp2_with (((with_reducible refine gate_builtin (b := .append) (xs := #[.tmp 35, .tmp 37]) rfl ?_); at_builtin; apply stopper))
          unfold Stopper
          refine Kd.R_append OpK (w0 := w) w.heap.size rfl (.tmp 35) (.tmp 37) 43 52 (.agg #[.int .i64 0, .int .i64 0, .int .i64 0]) 24 rfl Try.underlying43 infoOp rfl (by decide) (by omega) u5 ((l.take k).filter okO) (o0, o1, o2) [.int .i64 o0, .int .i64 o1, .int .i64 o2] (fun _ => True) (fun _ => False) rfl rfl ?aP (fun _ hk => hk.elim) ?aF ?aO ?aB ?aS ?aL ?_
          case aP => exact opk_M
          case aF => exact (fun _ _ => trivial)
          case aO => exact HP7.out
          case aB => exact HB7.out
          case aS => exact HB7.out.size
          case aL => have := List.length_filter_le okO (l.take k); have := List.length_take_le k l; omega
          intro p1 w6 ho hb6 hg hat; have HP8 := Lib.hid ho; have HB8 := Lib.hid hb6; have HG8 := Lib.hid hg; clear ho hb6 hg hat
          obtain ⟨_, _, z2, _, _, _⟩ := three_cells ((HG8.out.block wr.heap.size (blk_lt HOb6.out) (fun e => absurd (HLT.out _ e.symm) (Nat.lt_irrefl _))).trans HOb6.out)
          clear y0 y1 y2
          go_wp2
          go_roundg (l.length - (k + 1))
          case measure => have := HK.out; omega
          case rel =>
            refine ⟨k + 1, by have := HK.out; omega, by go_num, ?_, ⟨v1, ?_⟩, ?_, HB8.out⟩
            · rw [← HL2.out]
            · exact HW7.out.chg (S := fun t => some t = u5.ownBlock) ⟨HG8.out.os, HG8.out.tape, HG8.out.output, HG8.out.size, HG8.out.block⟩ (fun e => Kd.R_ne HP7.out HW7.out.1 (by decide) e) (fun t ht e => by
                obtain ⟨c1, g1⟩ := own_typed (Kd.own_of_R HW7.out.2.1) t ht
                exact Kd.R_ne HP7.out g1 (by decide) e)
            · rw [HT2.out]; exact HP8.out
        · have hok' : mayPut o1 o2 = false := by simpa using hok
          have hok2 : okO (o0, o1, o2) = false := hok'
          refine (put_no _ _ _ _ hok').mono ?_
          rintro e w5 ⟨rfl, rfl⟩
          rw [hok2] at HT
          have HT2 := Lib.hid (show (l.take (k + 1)).filter okO = (l.take k).filter okO by rw [HT.out]; simp)
          clear HT
          go_wp2_with (fail)
          go_roundg (l.length - (k + 1))
          case measure => omega
          case rel => exact ⟨k + 1, by omega, by go_num, by rw [HT2.out], by rw [HT2.out]; exact ⟨⟨_, HW5.out⟩, HP5.out, HB5.out⟩⟩
      · obtain rfl : k = l.length := by omega
        obtain ⟨⟨v, hW⟩, hP, hB⟩ := HI.out
        rw [List.take_length] at hW hP
        rw [List.take_length]
        obtain ⟨acc, hacc⟩ : ∃ acc, l.filter okO = acc := ⟨_, rfl⟩
        have hal : acc.length ≤ 200 := by rw [← hacc]; have := List.length_filter_le okO l; omega
        have hall : ∀ x ∈ acc, okO x = true := by rw [← hacc]; exact fun x hx => (List.mem_filter.1 hx).2
        rw [hacc] at hW hP
        rw [hacc]
        have hlen := bitsA_le acc hall
        obtain ⟨L, hL⟩ : ∃ L, (bitsA acc).length = L := ⟨_, rfl⟩
        rw [hL] at hlen
        rw [hL]
        obtain ⟨s, hs⟩ : ∃ s, strOfNums (pack (bitsA acc)) = s := ⟨_, rfl⟩
        have hsz : s.size = (L + 7) / 8 := by rw [← hs, strOfNums_size, pack_length, hL]
        obtain ⟨A5, c5, rfl⟩ := Kd.R_slice hP
        have HW2 := Lib.hid hW
        have HP2 := Lib.hid hP
        have HB2 := Lib.hid hB
        have HALL := Lib.hid hall
        have HL := Lib.hid hL
        have HS := Lib.hid hs
        clear hW hP hB HI hacc hall hL hs HB HW
        go_wp2_with (fail)
        refine (bytes_any _ _ _ _ _ HW2.out).mono ?_
        rintro e w5 ⟨rfl, rfl⟩
        rw [HS.out]
        go_wp2_with (fail)
        refine (newReader _ _ (by omega)).mono ?_
        rintro e w6 ⟨rfl, hw6⟩
        have hR := rr_new s w5 (by omega)
        rw [← hw6] at hR
        have hW6 : WR w6 w1.heap.size w.heap.size v (bitsA acc) := by rw [hw6]; exact HW2.out.chg ((Chg.refl (fun _ => False) w5).alloc _) (fun h => h) (fun _ _ h => h)
        have hP6 : Kd.R OpK 52 w6 w.heap.size (fun _ => True) (.slice A5 acc.length c5) acc := by rw [hw6]; exact Kd.R_alloc HP2.out _
        have hB6 : Below w.heap.size w w6 := by rw [hw6]; exact HB2.out.alloc HB2.out.size _
        have HW6 := Lib.hid hW6
        have HP6 := Lib.hid hP6
        have HB6 := Lib.hid hB6
        have HR6 := Lib.hid hR
        have HWS := Lib.hid HB2.out.size
        clear hR hW6 hP6 hB6 hw6 HW2 HP2 HB2
        have t1 : (((L + 7) / 8 * 8 : Nat) : Int) = ((L : Int) + 7) / 8 * 8 := by omega
        have t2 : (((L : Int) + 7) / 8 * 8 != ((L : Int) + 7) / 8 * 8) = false := by simp
        have t3 : ((L : Int) != (L : Int)) = false := by simp
        have T1 := Lib.hid t1
        have HSZ2 := Lib.hid hsz
        clear t1 hsz
        go_wp2_with (first
          | (go_at_call 29; refine (wlen_any _ _ _ _ _ HW6.out).mono ?_; rintro e w7 ⟨rfl, rfl⟩; rw [HL.out])
          | (go_at_call 32; refine (left_eq _ _ ((L + 7) / 8 * 8) _ _ HR6.out (by have := HSZ2.out; omega)).mono ?_; rintro e w7 ⟨rfl, q7, hw7⟩; rw [T1.out]; subst hw7))
        go_loopg [66] acc.length (fun j i wx => ∃ k : Nat, k + j = acc.length ∧ i = .int .i64 k ∧ Hid (RR wx w5.heap.size s (bitsA (acc.take k)).length ∧ Kd.R OpK 52 wx w.heap.size (fun _ => True) (.slice A5 acc.length c5) acc ∧ Below w.heap.size w wx))
        case atStart => exact ⟨0, by omega, rfl, HR6.out.drewN _, Kd.R_drewN HP6.out _, below_drewN HB6.out _⟩
        case round =>
          obtain ⟨k, hk, rfl, HI⟩ := hrel
          by_cases hlt : k < acc.length
          · obtain ⟨hR, hP, hB⟩ := HI.out
            obtain ⟨_, _, hPC⟩ := Kd.R_reads' hP
            obtain ⟨ad, rfl, x0, x1, x2⟩ := ops_at hPC k hlt
            have HR7 := Lib.hid hR
            have HP7 := Lib.hid hP
            have HB7 := Lib.hid hB
            have i0 : (0 : Int) ≤ k := by omega
            have i1 : (k : Int) < (acc.length : Int) := by omega
            clear hR hP hB HI hPC
            obtain ⟨o, ho⟩ : ∃ o, at_ acc k = o := ⟨_, rfl⟩
            rw [ho] at x0 x1 x2
            obtain ⟨o0, o1, o2⟩ := o
            obtain ⟨b0, b1, b2, b3, b4⟩ := back_at acc HALL.out k hlt o0 o1 o2 ho
            rw [HS.out] at b2
            rw [HL.out] at b4
            have BV := Lib.hid b2
            have B3 := Lib.hid b3
            have B4 := Lib.hid b4
            have HK := Lib.hid hk
            clear b2 b3 b4 ho
            go_wp2_with (fail)
            have hOb : (wr.alloc (.cells #[.int .i64 o0, .int .i64 o1, .int .i64 o2] 52 (0, 0))).heap[wr.heap.size]? = some (.cells #[.int .i64 o0, .int .i64 o1, .int .i64 o2] 52 (0, 0)) := heap_alloc_self _ _
            have HR8 := Lib.hid (HR7.out.chg ((Chg.refl (fun _ => False) wr).alloc (.cells #[.int .i64 o0, .int .i64 o1, .int .i64 o2] 52 (0, 0))) (fun h => h))
            have HP8 := Lib.hid (Kd.R_alloc HP7.out (.cells #[.int .i64 o0, .int .i64 o1, .int .i64 o2] 52 (0, 0)))
            have HB8 := Lib.hid (HB7.out.alloc HB7.out.size (.cells #[.int .i64 o0, .int .i64 o1, .int .i64 o2] 52 (0, 0)))
            have HLT := Lib.hid (Kd.R_lt HP7.out)
            have HNE := Lib.hid (show w5.heap.size ≠ wr.heap.size from fun e => by
              have := blk_lt HR7.out.1
              omega)
            have HBS := Lib.hid (HB7.out.size)
            clear HR7 HP7 HB7 x0 x1 x2
            generalize wr.alloc (.cells #[.int .i64 o0, .int .i64 o1, .int .i64 o2] 52 (0, 0)) = wy at *
            have HOB := Lib.hid hOb
            obtain ⟨y0, y1, y2, _, _, _⟩ := three_cells hOb
            have n1 : (o1 != o1) = false := by simp
            clear hOb
            go_quiet ((go_at_call 27; exact Calls.quiet_of (peek_eq _ _ _ _ _ _ (by exact HR8.out) b0 b1 BV.out)))
            go_wp2_with (fail)
            refine (get_ok _ _ _ _ _ (HR8.out.drewN _) b0 b1 (by have := HSZ2.out; have := B3.out; have := B4.out; omega)).mono ?_
            rintro e w7 ⟨rfl, hR7, hC7⟩
            rw [BV.out]
            have hRn : RR w7 w5.heap.size s (bitsA (acc.take (k + 1))).length := by rw [B3.out]; exact hR7
            have hOb7 := (hC7.block wr.heap.size (blk_lt HOB.out) (fun e => HNE.out e.symm)).trans HOB.out
            have hP7 : Kd.R OpK 52 w7 w.heap.size (fun _ => True) (.slice (some ad) acc.length c5) acc := Kd.R_mono (R_chg (Kd.R_types (Kd.R_drewN HP8.out _) HR8.out.1 (by decide)) hC7 (fun k hk e => hk.2 e)) (fun _ hk => hk.1)
            have hB7 : Below w.heap.size w w7 := (below_drewN HB8.out _).trans (hC7.below (B := w.heap.size) HB8.out.size (fun t ht => by rw [ht]; exact HWS.out))
            have HRn := Lib.hid hRn
            have HP9 := Lib.hid hP7
            have HB9 := Lib.hid hB7
            obtain ⟨_, z1, _, _, _, _⟩ := three_cells hOb7
            clear hR7 hC7 hRn hOb7 hP7 hB7 HP8 HB8 HR8 HOB y0 y1 y2
            go_wp2_with (fail)
            go_roundg (acc.length - (k + 1))
            case measure => have := HK.out; omega
            case rel => exact ⟨k + 1, by have := HK.out; omega, by go_num, HRn.out, HP9.out, HB9.out⟩
          · obtain rfl : k = acc.length := by omega
            obtain ⟨hR, hP, hB⟩ := HI.out
            rw [List.take_length, HL.out] at hR
            have hrest : isRest (rem s L) = true := by
              rw [← HS.out, ← HL.out]; exact rest_back (bitsA_bits acc)
            have h8 : 8 * s.size - L < 8 := by have := HSZ2.out; omega
            have HR7 := Lib.hid hR
            have HB7 := Lib.hid hB
            have HRS := Lib.hid hrest
            obtain ⟨R, hRR⟩ : ∃ R, 8 * s.size - L = R := ⟨_, rfl⟩
            rw [hRR] at h8
            have h8i : (R : Int) < 8 := by omega
            have HRR := Lib.hid hRR
            clear hR hP hB HI hrest hRR h8
            go_wp2_with (first
              | (go_at_call 33; refine (rest_any _ _ _ _ HR7.out).mono ?_; rintro e w7 ⟨rfl, q7, hw7⟩; rw [HRS.out]; subst hw7)
              | (go_at_call 32; refine (left_eq _ _ _ _ _ (HR7.out.drewN _) HRR.out).mono ?_; rintro e w7 ⟨rfl, q8, hw7⟩; rw [World.drewN_drewN] at hw7; subst hw7))
            go_ret
            exact ⟨rfl, below_drewN HB7.out _⟩
end Go.Proofs.Ythncomijfpbeeaa.Bits
