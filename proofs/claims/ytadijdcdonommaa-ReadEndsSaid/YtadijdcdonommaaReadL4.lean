/- Chapter 21: of every lengths, every bits: symbol by symbol, what stands there, or that none does; nothing goes then. -/
import Derived.Test.YtadijdcdonommaaReadL1
import Derived.Test.YtadijdcdonommaaRefCode
namespace Go.Proofs.Ytadijdcdonommaa.Read
set_option linter.unusedVariables false
set_option linter.unusedSimpArgs false
open Go.RowKit Go.Proofs.YtadijdcdonommaaW.PrintWords Go.Proofs.YtadijdcdonommaaW.PrintMore Go.Proofs.Ytadijdcdonommaa.L Go.Proofs.Ytadijdcdonommaa.Ints Go.Proofs.Ytadijdcdonommaa.Code Go.Proofs.Ytadijdcdonommaa.BP Go.Proofs.Ytadijdcdonommaa.Bits

/-- Numbers of one's own stay where a reader turns. -/
theorem R_rr {w w' : World} {base rb n : Nat} {s : ByteArray} {ok : Nat → Prop} {v : Value} {xs : List Int} (h : KI.R 3 w base ok v xs) (hc : Chg (fun k => k = rb) w w') (hr : RR w rb s n) : KI.R 3 w' base ok v xs := by
  refine own_move' h (fun g hg => hc.block g (own_lt h g hg) (fun e => ?_))
  have e : g = rb := e
  subst e
  obtain ⟨cells, hg2⟩ := own_typed (Kd.own_of_R h) g hg
  rw [hr.1] at hg2
  injection hg2 with hg2
  injection hg2 with _ hg2
  exact absurd hg2 (by decide)
theorem R_bel {w w' : World} {base : Nat} {ok : Nat → Prop} {v : Value} {xs : List Int} (h : KI.R 3 w base ok v xs) (hb : Below w.heap.size w w') : KI.R 3 w' base ok v xs :=
  own_move' h (fun g hg => hb.block g (own_lt h g hg))
theorem RR.bel {w w' : World} {rb n : Nat} {s : ByteArray} (h : RR w rb s n) (hb : Below w.heap.size w w') : RR w' rb s n := ⟨(hb.block rb (blk_lt h.1)).trans h.1, h.2⟩
theorem rem_drop (s : ByteArray) (a : Nat) : (rem s 0).drop a = rem s a := by
  unfold rem
  rw [List.drop_zero]
/-- The document's answer, of the bits of bytes. -/
theorem ref_next_at (A B D : Option Addr) (c c2 c3 : Nat) (l : List Int) (b : ByteArray) (at_ : Nat) (w : World) (base1 base2 : Nat) (hl : KI.C w A l.length l) (hc : KI.R 3 w base1 (fun _ => True) (.slice B l.length c2) (codes l)) (hb : KI.R 3 w base2 (fun _ => True) (.slice D (8 * b.size) c3) (rem b 0))
    (hat : at_ ≤ 8 * b.size) (hbl : b.size ≤ 60) (hrt : right l = 0) :
    Calls Try.prog 16 #[.slice A l.length c, .slice B l.length c2, .slice D (8 * b.size) c3, .int .i64 at_] w fun e w' =>
      e = .returned (.tuple #[.int .i64 (next l (rem b at_)).1, .int .i64 (next l (rem b at_)).2.2, .int .i64 (next l (rem b at_)).2.1]) ∧ w' = w := by
  have hlen : (rem b 0).length = 8 * b.size := by rw [rem_length]; omega
  have h1 := (Kd.R_reads' hc).2.2
  rw [codes_length] at h1
  have h2 := ref_next A B D c c2 c3 l (rem b 0) at_ w hl h1 ((Kd.R_reads' hb).2.2) (rem_bits b 0) (by rw [hlen]; exact hat) (by rw [hlen]; omega) hrt
  rw [hlen, rem_drop] at h2
  exact h2
theorem bit_at (s : ByteArray) (k g : Nat) (h : k < s.size) (hg : g ≤ 7) :
    (unpack (bytesOf s)).take (8 * k + (8 - g)) = (unpack (bytesOf s)).take (8 * k + (7 - g)) ++ [bits BinOp.and IntKind.i64 (wrap64 ((s[k]'h).toNat : Int) / 2 ^ g) 1] := by
  have hp := unpack_take_succ s (8 * k + (7 - g)) (by omega)
  rw [bit_spelt s (8 * k + (7 - g)) (by omega)] at hp
  have e1 : (8 * k + (7 - g)) / 8 = k := by omega
  have e2 : 7 - (8 * k + (7 - g)) % 8 = g := by omega
  simp only [e1, e2] at hp
  rw [show 8 * k + (8 - g) = 8 * k + (7 - g) + 1 by omega]
  exact hp
theorem bit_len (s : ByteArray) (k g : Nat) (h : k < s.size) (hg : g ≤ 7) : ((unpack (bytesOf s)).take (8 * k + (7 - g))).length = 8 * k + (7 - g) := by
  rw [List.length_take, unpack_length, bytesOf_length]
  omega
set_option maxRecDepth 100000 in
set_option maxHeartbeats 4000000 in
theorem ReadTells_walk (A : Option Addr) (l : List Int) (c : Nat) (b : ByteArray) (w : World) (hl : KI.C w A l.length l) (hlc : l.length ≤ c) (h8 : l.length * 8 ≤ 140737488351232) (hlw : ∀ x ∈ l, (Lit.int .i64 x).wf = true) (hb : b.size ≤ 140737488351232) :
    Calls Try.prog 3 #[.slice A l.length c, .string b] w fun e w' => e = .returned (.bool true) ∧ Below w.heap.size w w' := by
  have HL := Lib.hid hl
  clear hl hlc hlw hb
  have hcase : ((400 : Int) < (l.length : Int) ∨ ((l.length : Int) ≤ 400 ∧ (60 : Int) < (b.size : Int))) ∨ ((l.length : Int) ≤ 400 ∧ (b.size : Int) ≤ 60) := by omega
  rcases hcase with hcase | ⟨h1, h2⟩
  · rcases hcase with h | ⟨h0, h⟩
    all_goals
      go_enter Try.func3, Try.ntmps3
      go_wp2_with (go_at_call 9; refine (alive_any _).mono ?_; rintro e w' ⟨rfl, hb⟩)
      go_ret
      exact ⟨rfl, hb⟩
  · by_cases hr : right l = 0
    · have HR := Lib.hid hr
      have HRG := Lib.hid (right_range hr)
      clear hr
      go_enter Try.func3, Try.ntmps3
      go_wp2_with (fail)
      refine (alive_any _).mono ?_
      rintro e w1 ⟨rfl, hb1⟩
      have HB1 := Lib.hid hb1
      clear hb1
      go_wp2_with (fail)
      refine (new_ok _ _ l _ (Kd.C_below HL.out HB1.out) (by omega) HR.out).mono ?_
      rintro e w2 ⟨tb, rfl, ht, hb2⟩
      have HT := Lib.hid ht
      have HB2 := Lib.hid (Ints.bel_trans HB1.out HB1.out.size hb2)
      clear ht hb2 HB1
      go_wp2_with (fail)
      refine (ref_codes_ok _ _ l _ (Kd.C_below HL.out HB2.out) (by omega) HR.out).mono ?_
      rintro e w3 ⟨v3, rfl, hr3, hb3⟩
      obtain ⟨A3, c3, rfl⟩ := Kd.R_slice hr3
      rw [codes_length] at hr3 ⊢
      obtain ⟨B3, hB3⟩ : ∃ x, w2.heap.size = x := ⟨_, rfl⟩
      have HT3 := Lib.hid (HT.out.below hb3)
      have HB3 := Lib.hid (Ints.bel_trans HB2.out HB2.out.size hb3)
      rw [hB3] at hr3
      have HC3 := Lib.hid hr3
      clear hr3 hb3 HT HB2 hB3
      go_wp2_with (fail)
      refine (newReader b _ (by omega)).mono ?_
      rintro e w4 ⟨rfl, rfl⟩
      have HN := (Below.refl w3.heap.size w3).alloc (Nat.le_refl _) (.cells #[.string b, .int .i64 0] 60 (0, 0))
      have HR4 := Lib.hid (rr_new b w3 (by omega))
      have HT4 := Lib.hid (HT3.out.below HN)
      have HC4 := Lib.hid (R_bel HC3.out HN)
      have HB4 := Lib.hid (HB3.out.alloc HB3.out.size (.cells #[.string b, .int .i64 0] 60 (0, 0)))
      have HRB := Lib.hid HB3.out.size
      clear HT3 HB3 HC3 HN
      generalize hW4 : w3.alloc (.cells #[.string b, .int .i64 0] 60 (0, 0)) = W4 at *
      obtain ⟨rb, hrb⟩ : ∃ x, w3.heap.size = x := ⟨_, rfl⟩
      rw [hrb] at HR4 HRB ⊢
      clear hW4 hrb
      go_wp2_with (fail)
      refine (next_nil _ _).mono ?_
      rintro e w5 ⟨rfl, rfl⟩
      go_wp2_with (fail)
      refine (tlen_nil _).mono ?_
      rintro e w6 ⟨rfl, rfl⟩
      go_wp2_with (fail)
      refine (tmost_nil _).mono ?_
      rintro e w7 ⟨rfl, rfl⟩
      obtain ⟨B4, hB4⟩ : ∃ x, w7.heap.size = x := ⟨_, rfl⟩
      have HBB := Lib.hid hB4
      clear hB4
      go_wp2_with (fail)
      go_loopg [13, 14] b.size (fun j v i wr => ∃ k : Nat, k + j = b.size ∧ i = .int .i64 k ∧ Hid (KI.R 3 wr B4 (fun _ => True) v ((unpack (bytesOf b)).take (8 * k)) ∧ Below B4 w7 wr))
      case atStart => exact ⟨0, by omega, rfl, by rw [Nat.mul_zero, List.take_zero]; exact Kd.R_nil _ _ _ _ _, by rw [← HBB.out]; exact Below.refl _ _⟩
      case round =>
        obtain ⟨w8, rfl⟩ : ∃ x : World, x = wr := ⟨_, rfl⟩
        obtain ⟨k, hk, rfl, HI⟩ := hrel
        by_cases hlt : k < b.size
        · have hlti : (k : Int) < (b.size : Int) := by omega
          have k0 : (0 : Int) ≤ k := by omega
          have HK := Lib.hid hk
          have hks : (k : Int) ≤ 60 := by omega
          clear hk
          go_wp2_with (fail)
          go_loopg [13, 15] 8 (fun j v i wr => i = .int .i64 ((j : Int) - 1) ∧ j ≤ 8 ∧ Hid (KI.R 3 wr B4 (fun _ => True) v ((unpack (bytesOf b)).take (8 * k + (8 - j))) ∧ Below B4 w7 wr))
          case atStart => exact ⟨by go_num, Nat.le_refl _, HI.out.1, HI.out.2⟩
          case round =>
            obtain ⟨rfl, hj, HJ⟩ := hrel
            cases gk with
            | zero =>
              have HJ2 := Lib.hid HJ.out
              clear HI HJ
              go_wp2_with (fail)
              go_roundg (b.size - (k + 1))
              case measure => have := HK.out; omega
              case rel => exact ⟨k + 1, by have := HK.out; omega, by go_num, by have := HJ2.out.1; rwa [show 8 * k + (8 - 0) = 8 * (k + 1) by omega] at this, HJ2.out.2⟩
            | succ gk =>
              rw [show ((gk + 1 : Nat) : Int) - 1 = gk by omega]
              have e3 : 8 * k + (8 - (gk + 1)) = 8 * k + (7 - gk) := by omega
              rw [e3] at HJ
              have hlen := bit_len b k gk hlt (by omega)
              obtain ⟨hr, hb⟩ := HJ.out
              obtain ⟨A7, c7, rfl⟩ := Kd.R_slice hr
              have HP := Lib.hid (bit_at b k gk hlt (by omega))
              have HLEN := Lib.hid hlen
              have HR7 := Lib.hid hr
              have HB7 := Lib.hid hb
              have g0 : (0 : Int) ≤ gk := by omega
              have g7 : (gk : Int) ≤ 7 := by omega
              have HJJ := Lib.hid hj
              rw [hlen]
              clear HI HJ e3 hr hb hlen hj
              go_wp2_with (((with_reducible refine gate_builtin (b := .append) (xs := #[.tmp 98, .tmp 107]) rfl ?_); at_builtin; apply stopper))
              unfold Stopper
              refine Kd.R_append KI (w0 := w7) B4 rfl (.tmp 98) (.tmp 107) 22 3 (.int .i64 0) 8 rfl Try.underlying22 infoInt rfl (by decide) (by omega) (.slice A7 (8 * k + (7 - gk)) c7) ((unpack (bytesOf b)).take (8 * k + (7 - gk))) (bits BinOp.and IntKind.i64 (wrap64 ((b[k]'hlt).toNat : Int) / 2 ^ gk) 1) [.int .i64 (bits BinOp.and IntKind.i64 (wrap64 ((b[k]'hlt).toNat : Int) / 2 ^ gk) 1)] (fun _ => True) (fun _ => False) rfl rfl rfl (fun _ hk => hk.elim) (fun _ _ => trivial) (by have := HR7.out; rw [HLEN.out] at this; exact this) HB7.out ?aS (by rw [HLEN.out]; omega) ?_
              case aS => have := HB7.out.size; have := HBB.out; omega
              intro v9 w9 ho9 hb9 hg9 hat9
              rw [← HP.out] at ho9
              have HR9 := Lib.hid ho9
              have HB9 := Lib.hid hb9
              clear ho9 hb9 hg9 hat9 HR7 HB7
              go_wp2_with (fail)
              go_roundg gk
              case measure => omega
              case rel => exact ⟨by go_num, by have := HJJ.out; omega, HR9.out, HB9.out⟩
        · obtain rfl : k = b.size := by omega
          have hub : (unpack (bytesOf b)).take (8 * b.size) = rem b 0 := by
            rw [List.take_of_length_le (by rw [unpack_length, bytesOf_length]; omega)]
            rfl
          obtain ⟨hr, hb⟩ := HI.out
          rw [hub] at hr
          obtain ⟨A8, c8, rfl⟩ := Kd.R_slice hr
          have h8l : (rem b 0).length = 8 * b.size := by rw [rem_length]; omega
          rw [h8l] at hr ⊢
          have HI8 := Lib.hid hr
          have hb7 : Below w7.heap.size w7 w8 := by rw [HBB.out]; exact hb
          have HR8 := Lib.hid (RR.bel HR4.out hb7)
          have HT8 := Lib.hid (HT4.out.below hb7)
          have HC8 := Lib.hid (R_bel HC4.out hb7)
          have HB8 := Lib.hid (Ints.bel_trans HB4.out HB4.out.size hb7)
          have HL8 := Lib.hid (Kd.C_below HL.out HB8.out)
          have HL8E := Lib.hid h8l
          clear hr hb hb7 HI hub HR4 HT4 HC4 HB4 h8l hk
          go_wp2_with (fail)
          go_loopg [16, 17, 111] l.length (fun j n m i wr => ∃ k : Nat, k + j = l.length ∧ i = .int .i64 k ∧ n = .int .i64 (used (l.take k) : Nat) ∧ m = .int .i64 (most (l.take k) : Nat) ∧ wr = w8)
          case atStart => exact ⟨0, by omega, rfl, rfl, rfl, rfl⟩
          case round =>
            obtain ⟨k, hk, rfl, rfl, rfl, rfl⟩ := hrel
            by_cases hlt : k < l.length
            · obtain ⟨ad, rfl, x0⟩ := ints_at HL8.out k hlt
              have hn := used_take_succ l k hlt
              have hm := most_pos l k hlt (fun x hx => (HRG.out x hx).1)
              obtain ⟨x, hx⟩ : ∃ x, l.getD k 0 = x := ⟨_, rfl⟩
              rw [hx] at x0 hn hm
              have g1 := used_le (l.take k)
              have g3 := List.length_take_le k l
              obtain ⟨S, hS⟩ : ∃ S, used (l.take k) = S := ⟨_, rfl⟩
              rw [hS] at hn g1 ⊢
              have hs2 : (S : Int) ≤ 400 := by omega
              have i0 : (0 : Int) ≤ k := by omega
              have i1 : (k : Int) < (l.length : Int) := by omega
              have i2 : ((k : Int)).toNat = k := by omega
              have HN := Lib.hid hn
              have HM := Lib.hid hm
              have HK := Lib.hid hk
              clear hn hm g1 g3 hx hS hk
              by_cases hp : 0 < x
              · have HP := Lib.hid hp
                go_wp2_with (fail)
                all_goals
                  go_roundg (l.length - (k + 1))
                  case measure => have := HK.out; omega
                  case rel => exact ⟨k + 1, by have := HK.out; omega, by go_num, by rw [HN.out, if_pos HP.out]; go_num, by rw [← HM.out]; refine congrArg (Value.int .i64) ?_; omega, rfl⟩
              · have HP := Lib.hid hp
                have hp2 : x ≤ 0 := by omega
                clear hp
                go_wp2_with (fail)
                all_goals
                  go_roundg (l.length - (k + 1))
                  case measure => have := HK.out; omega
                  case rel => exact ⟨k + 1, by have := HK.out; omega, by go_num, by rw [HN.out, if_neg (by have := HP.out; omega)]; rfl, by rw [← HM.out]; refine congrArg (Value.int .i64) ?_; omega, rfl⟩
            · obtain rfl : k = l.length := by omega
              rw [List.take_length]
              obtain ⟨S, hS⟩ : ∃ S, used l = S := ⟨_, rfl⟩
              obtain ⟨M, hM⟩ : ∃ M, most l = M := ⟨_, rfl⟩
              have HS := Lib.hid hS
              have HM := Lib.hid hM
              rw [hS, hM]
              clear hS hM hk
              go_wp2_with (fail)
              go_loopg [20, 21] 500 (fun j a i wr => ∃ k p : Nat, k + j = 500 ∧ i = .int .i64 k ∧ p ≤ 8 * b.size ∧ a = .int .i64 p ∧ Hid (RR wr rb b p ∧ TOK wr tb l ∧ KI.R 3 wr B3 (fun _ => True) (.slice A3 l.length c3) (codes l) ∧ KI.R 3 wr B4 (fun _ => True) (.slice A8 (8 * b.size) c8) (rem b 0) ∧ Below w.heap.size w wr))
              case atStart => exact ⟨0, 0, by omega, rfl, by omega, rfl, HR8.out, HT8.out, HC8.out, HI8.out, HB8.out⟩
              case round =>
                obtain ⟨k, p, hk, rfl, hp, rfl, HI⟩ := hrel
                clear HR8 HT8 HC8 HI8 HB8 HL8
                by_cases hlt : k < 500
                · have hlti : (k : Int) < 500 := by omega
                  have hpi : (p : Int) ≤ 480 := by omega
                  obtain ⟨hr, ht, hc, hi, hb⟩ := HI.out
                  have hsays := next_says l (rem b p)
                  rw [rem_length] at hsays
                  have HR9 := Lib.hid hr
                  have HT9 := Lib.hid ht
                  have HC9 := Lib.hid hc
                  have HI9 := Lib.hid hi
                  have HB9 := Lib.hid hb
                  have HK := Lib.hid hk
                  have HP := Lib.hid hp
                  clear hr ht hc hi hb HI hk
                  rcases hsays with ⟨s, m, hX, hs, hsm, hmL, hm1, hm2⟩ | hX
                  · have HX := Lib.hid hX
                    have hmi : (m : Int) ≤ 8 * (b.size : Int) - (p : Int) := by omega
                    have hm0 : (0 : Int) ≤ m := by omega
                    have hl2 : ((8 * b.size - (p + m) : Nat) : Int) = 8 * (b.size : Int) - (p : Int) - (m : Int) := by omega
                    have HL2 := Lib.hid hl2
                    have t1 : ((s : Int) != (s : Int)) = false := by simp
                    have t2 : (8 * (b.size : Int) - (p : Int) - (m : Int) != 8 * (b.size : Int) - (p : Int) - (m : Int)) = false := by simp
                    clear hX hs hsm hm1 hm2 hl2 hp
                    go_wp2_with (fail)
                    refine (next_any tb rb p b l _ HT9.out HR9.out (by omega) HR.out).mono ?_
                    rintro e w10 ⟨rfl, hr10, hc10⟩
                    have HT10 := Lib.hid (RR.tab HT9.out hc10 HR9.out)
                    have HC10 := Lib.hid (R_rr HC9.out hc10 HR9.out)
                    have HI10 := Lib.hid (R_rr HI9.out hc10 HR9.out)
                    have HB10 := Lib.hid (HB9.out.trans (hc10.below (B := w.heap.size) HB9.out.size (fun k hk => by have := HRB.out; omega)))
                    rw [HX.out] at hr10 ⊢
                    have HR10 := Lib.hid hr10
                    clear hr10 hc10 HT9 HC9 HI9 HB9 HR9
                    go_wp2_with (fail)
                    refine (ref_next_at _ _ _ _ _ _ l b p _ B3 B4 (Kd.C_below HL.out HB10.out) HC10.out HI10.out HP.out (by omega) HR.out).mono ?_
                    rintro e w11 ⟨rfl, rfl⟩
                    rw [HX.out]
                    go_wp2_with (fail)
                    refine (left_any _ _ _ _ HR10.out).mono ?_
                    rintro e w12 ⟨rfl, q, rfl⟩
                    rw [HL2.out]
                    go_wp2_with (fail)
                    go_roundg (500 - (k + 1))
                    case measure => have := HK.out; omega
                    case rel => exact ⟨k + 1, p + m, by have := HK.out; omega, by go_num, by have := HP.out; omega, by go_num, HR10.out.drewN q, HT10.out.drewN q, Kd.R_drewN HC10.out q, Kd.R_drewN HI10.out q, below_drewN HB10.out q⟩
                  · obtain ⟨E, hX⟩ : ∃ E : Int, next l (rem b p) = (0, E, 0) ∧ (E = 2 ∨ E = 8) := by
                      rcases hX with ⟨hX, _⟩ | hX
                      · exact ⟨2, hX, .inl rfl⟩
                      · exact ⟨8, hX, .inr rfl⟩
                    obtain ⟨hX, hE⟩ := hX
                    have HX := Lib.hid hX
                    have hl2 : ((8 * b.size - (p + 0) : Nat) : Int) = 8 * (b.size : Int) - (p : Int) := by omega
                    have HL2 := Lib.hid hl2
                    have t1 : (E != E) = false := by simp
                    have t2 : (8 * (b.size : Int) - (p : Int) != 8 * (b.size : Int) - (p : Int)) = false := by simp
                    have t3 : (E != 0) = true := bne_iff_ne.2 (by omega)
                    have t4 : (E == E) = true := by simp
                    have t5 : ((S : Int) == (S : Int)) = true := by simp
                    have t6 : ((M : Int) == (M : Int)) = true := by simp
                    clear hX hE hl2
                    go_wp2_with (fail)
                    refine (next_any tb rb p b l _ HT9.out HR9.out (by omega) HR.out).mono ?_
                    rintro e w10 ⟨rfl, hr10, hc10⟩
                    have HT10 := Lib.hid (RR.tab HT9.out hc10 HR9.out)
                    have HC10 := Lib.hid (R_rr HC9.out hc10 HR9.out)
                    have HI10 := Lib.hid (R_rr HI9.out hc10 HR9.out)
                    have HB10 := Lib.hid (HB9.out.trans (hc10.below (B := w.heap.size) HB9.out.size (fun k hk => by have := HRB.out; omega)))
                    rw [HX.out] at hr10 ⊢
                    have HR10 := Lib.hid hr10
                    clear hr10 hc10 HT9 HC9 HI9 HB9 HR9
                    go_wp2_with (fail)
                    refine (ref_next_at _ _ _ _ _ _ l b p _ B3 B4 (Kd.C_below HL.out HB10.out) HC10.out HI10.out HP.out (by omega) HR.out).mono ?_
                    rintro e w11 ⟨rfl, rfl⟩
                    rw [HX.out]
                    go_wp2_with (fail)
                    refine (left_any _ _ _ _ HR10.out).mono ?_
                    rintro e w12 ⟨rfl, q, rfl⟩
                    rw [HL2.out]
                    have HR12 := Lib.hid (HR10.out.drewN q)
                    have HT12 := Lib.hid (HT10.out.drewN q)
                    have HB12 := Lib.hid (below_drewN HB10.out q)
                    clear HR10 HT10 HC10 HI10 HB10
                    generalize w11.drewN q = W12 at *
                    go_wp2_with (fail)
                    refine (next_any tb rb p b l _ HT12.out HR12.out (by omega) HR.out).mono ?_
                    rintro e w13 ⟨rfl, hr13, hc13⟩
                    have HT13 := Lib.hid (RR.tab HT12.out hc13 HR12.out)
                    have HB13 := Lib.hid (HB12.out.trans (hc13.below (B := w.heap.size) HB12.out.size (fun k hk => by have := HRB.out; omega)))
                    rw [HX.out]
                    clear hr13 hc13 HT12 HB12 HR12
                    go_wp2_with (fail)
                    refine (next_nobody _ _).mono ?_
                    rintro e w14 ⟨rfl, rfl⟩
                    go_wp2_with (fail)
                    refine (tlen_any _ _ _ HT13.out).mono ?_
                    rintro e w15 ⟨rfl, rfl⟩
                    rw [HS.out]
                    go_wp2_with (fail)
                    refine (tmost_any _ _ _ HT13.out).mono ?_
                    rintro e w15 ⟨rfl, rfl⟩
                    rw [HM.out]
                    go_wp2_with (fail)
                    go_ret
                    exact ⟨rfl, HB13.out⟩
                · obtain rfl : k = 500 := by omega
                  have HB9 := Lib.hid HI.out.2.2.2.2
                  clear HI
                  go_wp2_with (fail)
                  go_ret
                  exact ⟨rfl, HB9.out⟩
    · have HR := Lib.hid hr
      have hne : (right l == 0) = false := beq_eq_false_iff_ne.2 hr
      have heq : (right l != right l) = false := by simp
      obtain ⟨r, hR⟩ : ∃ r, right l = r := ⟨_, rfl⟩
      have HRR := Lib.hid hR
      rw [hR] at hne heq
      clear hr hR
      go_enter Try.func3, Try.ntmps3
      go_wp2_with (fail)
      refine (alive_any _).mono ?_
      rintro e w1 ⟨rfl, hb1⟩
      have HB1 := Lib.hid hb1
      clear hb1
      go_wp2_with (fail)
      refine (new_no _ _ l _ (Kd.C_below HL.out HB1.out) (by omega) HR.out).mono ?_
      rintro e w2 ⟨rfl, rfl⟩
      rw [HRR.out]
      go_wp2_with (fail)
      refine (ref_codes_no _ _ l _ (Kd.C_below HL.out HB1.out) (by omega) HR.out).mono ?_
      rintro e w3 ⟨rfl, rfl⟩
      rw [HRR.out]
      go_wp2_with (fail)
      refine (newReader b _ (by omega)).mono ?_
      rintro e w4 ⟨rfl, rfl⟩
      go_wp2_with (fail)
      refine (next_nil _ _).mono ?_
      rintro e w5 ⟨rfl, rfl⟩
      go_wp2_with (fail)
      refine (tlen_nil _).mono ?_
      rintro e w6 ⟨rfl, rfl⟩
      go_wp2_with (fail)
      refine (tmost_nil _).mono ?_
      rintro e w7 ⟨rfl, rfl⟩
      go_wp2_with (fail)
      go_ret
      exact ⟨rfl, HB1.out.alloc HB1.out.size _⟩
end Go.Proofs.Ytadijdcdonommaa.Read
