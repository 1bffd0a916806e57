/- Chapter 15: what is behind a place costs no more than one token and what is behind that: the walk. -/
import Derived.Test.YtfiflloieojgbaaBestPick
import Derived.Test.YtfiflloieojgbaaBestL4
namespace Go.Proofs.Ytfiflloieojgbaa.Best
set_option linter.unusedVariables false
set_option linter.unusedSimpArgs false
open Go.RowKit Go.Proofs.YtfiflloieojgbaaW.PrintWords Go.Proofs.YtfiflloieojgbaaW.PrintMore Go.Proofs.Ytfiflloieojgbaa.L Go.Proofs.Ytfiflloieojgbaa.Texts Go.Proofs.Ytfiflloieojgbaa.Dict Go.Proofs.Ytfiflloieojgbaa.Ints Go.Proofs.Ytfiflloieojgbaa.Greedy Go.Proofs.Ytfiflloieojgbaa.Cost Go.Proofs.Ytfiflloieojgbaa.Fl Go.Proofs.Ytfiflloieojgbaa.Say

theorem addr_at (g a k : Nat) : (⟨g, a, none⟩ : Addr).add k = ⟨g, a + k, none⟩ := by
  unfold Addr.add
  by_cases h : k = 0
  · subst h; simp
  · simp [h]
theorem wrap_byte (b : ByteArray) (a : Nat) (h : a < b.size) : IntKind.i64.wrap (((b[a]'h).toNat : Nat) : Int) = byteAt b a := by
  have h1 := byteAt_lt b a
  rw [bt_byteAt b a h, IntKind.wrap_i64]
  generalize byteAt b a = z at *
  omega
theorem lit_cost (W : World) (base : Nat) (x : Cst) (hb : base ≤ W.heap.size) : KC.R 47 (W.alloc (.cells #[cx x.1 x.2] 47 (0, 0))) base (fun _ => True) (.slice (some ⟨W.heap.size, 0, none⟩) 1 1) [x] :=
  Kd.R_of_own (World.ownsRow_lit W #[cx x.1 x.2] 1 hb (by decide) rfl) (fun _ _ => trivial)
theorem ne_next {v v1 u : Value} {e1 base5 : Nat} {W : World} {ok : Nat → Prop} {xs : List Int} (h : ∀ q, v.ownBlock = some q → some q ≠ u.ownBlock) (h5 : KI.R e1 W base5 ok u xs) (hat : v1.ownBlock = v.ownBlock ∨ ∃ b, v1.ownBlock = some b ∧ W.heap.size ≤ b) : ∀ q, v1.ownBlock = some q → some q ≠ u.ownBlock := by
  intro q hq he
  rcases hat with e | ⟨b', e, hb'⟩
  · exact h q (e ▸ hq) he
  · have := own_lt h5 q he.symm
    rw [e] at hq
    injection hq with hq
    omega
set_option maxRecDepth 100000 in
set_option maxHeartbeats 4000000 in
theorem BestCosts_walk (A : Option Addr) (l : List ByteArray) (c : Nat) (b : ByteArray) (w : World)
    (hl : KS.C w A l.length l) (hc : l.length ≤ c) (h16 : l.length * 16 ≤ 140737488351232) (hs : ∀ s ∈ l, s.size ≤ 140737488351232) (hbs : b.size ≤ 140737488351232) :
    Calls Try.prog 6 #[.slice A l.length c, .string b] w fun e w' => e = .returned (.bool true) ∧ Below w.heap.size w w' := by
  have HL := Lib.hid hl
  go_enter Try.func6, Try.ntmps6
  go_wp2_with (fail)
  refine (dict_any _ _ _ l _ _ hl hs).mono ?_
  clear hl hs
  rintro e w1 ⟨hb1, hcase⟩
  have HB1 := Lib.hid hb1
  have HL1 := Lib.hid (Kd.C_below HL.out hb1)
  clear hb1 HL
  rcases dict_has hcase with ⟨dk, rfl, HD, HOK, hb400⟩ | rfl
  · clear hcase hbs
    have hbi : (b.size : Int) ≤ 400 := by omega
    go_wp2_with (fail)
    refine (alive_any _).mono ?_
    rintro e w2 ⟨rfl, hb2⟩
    have HB2 := Lib.hid (Ints.bel_trans HB1.out HB1.out.size hb2)
    have HD2 := Lib.hid (HD.out.below hb2)
    have HL2 := Lib.hid (Kd.C_below HL1.out hb2)
    clear hb2 HB1 HD HL1
    go_wp2_with (fail)
    refine (costs_any _ l b _ HD2.out HOK.out (by omega)).mono ?_
    rintro e w3 ⟨g, rfl, hg, hc3, hb3⟩
    have HB3 := Lib.hid (Ints.bel_trans HB2.out HB2.out.size hb3)
    have HL3 := Lib.hid (Kd.C_below HL2.out hb3)
    have HC3 := Lib.hid hc3
    have HG := Lib.hid (show g < w3.heap.size from hc3.lt)
    have x0 := hc3.cell b.size (by omega)
    rw [show VV l b b.size = (0, 0) by unfold VV; rw [Nat.sub_self]; rfl] at x0
    simp only at x0
    unfold cx at x0
    rw [fl_zero] at x0
    have e0 : (FloatKind.f64.format.order 0 0 == some Ordering.eq) = true := by decide
    have n0 : (0 : Int) ≤ (b.size : Int) := by omega
    have n1 : (b.size : Int) < (b.size : Int) + 1 := by omega
    have n2 : ((b.size : Int)).toNat = b.size := by omega
    have n3 : (((b.size : Int) + 1) != ((b.size : Int) + 1)) = false := by simp
    clear hg hc3 hb3 HB2 HD2 HL2
    go_wp2_with (fail)
    go_loopg [8] b.size (fun j i wr => ∃ a : Nat, a + j = b.size ∧ i = .int .i64 a ∧ Hid (Below w3.heap.size w3 wr))
    case atStart => exact ⟨0, by omega, rfl, Below.refl _ _⟩
    case round =>
      obtain ⟨a, haj, rfl, HI⟩ := hrel
      clear x0 e0 n0 n1 n2 n3
      by_cases hlt : a < b.size
      · obtain ⟨wo, rfl⟩ : ∃ x : World, x = wr := ⟨_, rfl⟩
        have HCW := Lib.hid (HC3.out.heap (HI.out.block g HG.out))
        have HLW := Lib.hid (Kd.C_below HL3.out HI.out)
        have HAJ := Lib.hid haj
        have x0 := HCW.out.cell (a + 1) (by omega)
        obtain ⟨⟨T1, B1⟩, hV1⟩ : ∃ x, VV l b (a + 1) = x := ⟨_, rfl⟩
        have hvb := VV_bound HOK.out (b := b) (by omega) (a + 1)
        rw [hV1] at x0 hvb
        simp only at x0 hvb
        unfold cx at x0
        have hby := byteAt_lt b a
        have hob := oc_tok (byteAt b a) (by omega) (by omega)
        have hof := fun W => of_any (byteAt b a) W
        obtain ⟨B0, hB0⟩ : ∃ x, 8 * vlen (byteAt b a) = x := ⟨_, rfl⟩
        have hcT : cT (byteAt b a) = 1 := hob.1
        have hoc : oc (byteAt b a) = (1, B0) := by unfold oc; rw [hcT, hB0]
        rw [hoc] at hob
        rw [hcT, hB0] at hof
        unfold cx at hof
        have had := fun W => addc_fl (T := 1) (B := B0) (U := T1) (C := B1) (by have : big = 9007199254740992 := rfl; omega) (by have : big = 9007199254740992 := rfl; simp only at hob; omega) W
        have hz := bt_byteAt' b a hlt
        have HOF := Lib.hid hof
        have HX0 := Lib.hid (show ∀ W, Below wo.heap.size wo W → W.cell? ⟨g, a + 1, none⟩ = some (.complex .f64 (fl T1) (fl B1)) from fun W hW => by
          have := (HCW.out.heap (hW.block g HCW.out.lt)).cell (a + 1) (by omega)
          rw [hV1] at this
          exact this)
        have i0 : (0 : Int) ≤ (a : Int) := by omega
        have i1 : (a : Int) < (b.size : Int) := by omega
        have i2 : ((a : Int)).toNat = a := by omega
        have i3 : (0 : Int) ≤ (a : Int) + 1 := by omega
        have i4 : (a : Int) + 1 < (b.size : Int) + 1 := by omega
        have i5 : ((a : Int) + 1).toNat = a + 1 := by omega
        have hz2 := wrap_byte b a hlt
        have HVP := Lib.hid (show add (oc (byteAt b a)) (VV l b (a + 1)) = (1 + T1, B0 + B1) by rw [hoc, hV1]; rfl)
        have HSZ := Lib.hid (show w3.heap.size ≤ wo.heap.size from HI.out.size)
        have iw : IntKind.i64.wrap ((a : Int) + 1) = (a : Int) + 1 := by rw [IntKind.wrap_i64]; omega
        have i6 : (0 : Int) ≤ (a : Int) + 1 ∧ (a : Int) + 1 < (b.size : Int) + 1 := ⟨i3, i4⟩
        clear hvb hby hob hof hoc hcT haj hV1 hB0
        go_wp2_with (fail)
        go_cut [10] (fun cv wc => Hid (KC.R 47 wc w3.heap.size (fun _ => True) cv [(1 + T1, B0 + B1)] ∧ Below w3.heap.size w3 wc))
        case first =>
          go_region_law (first
            | (go_simp; go_at_call 23; refine (HOF.out _).mono ?_; rintro e w7 ⟨rfl, hb7⟩; have y0 := HX0.out w7 ((below_drew (Below.refl wo.heap.size wo)).trans hb7); have HB7 := Lib.hid (HI.out.trans (((below_drew (Below.refl wo.heap.size wo)).trans hb7).mono HSZ.out)); clear hb7))
          all_goals
            have HS7 := Lib.hid (show w3.heap.size ≤ w7.heap.size from HB7.out.size)
            have HR8 := Lib.hid (lit_cost w7 w3.heap.size (1 + T1, B0 + B1) HS7.out)
            have HB8 := Lib.hid (HB7.out.alloc HS7.out (.cells #[.complex .f64 (fl (1 + T1)) (fl (B0 + B1))] 47 (0, 0)))
            go_wp2_with (fail)
            go_meet
            case rel => exact ⟨HR8.out, HB8.out⟩
        case rest =>
          have hrr := hcut.out.1
          have HBC := Lib.hid hcut.out.2
          have hl1 : [((1 + T1, B0 + B1) : Cst)] = allAt l b a 0 := by
            unfold allAt
            rw [HVP.out, List.take_zero, List.map_nil]
          rw [hl1] at hrr
          obtain ⟨Av, cv, rfl⟩ := Kd.R_slice hrr
          have HRC := Lib.hid hrr
          have HLC := Lib.hid (Kd.C_below HL3.out HBC.out)
          clear hrr hl1 hcut HVP HX0 x0 had hz hz2 iw i3 i4 i5 i6 HCW HLW HOF HI HSZ
          go_wp2_with (fail)
          refine (ref_stands _ _ l b a _ HLC.out (by omega) (by omega)).mono ?_
          rintro e w5 ⟨v5, rfl, hr5, hb5⟩
          obtain ⟨A5, c5, rfl⟩ := Kd.R_slice hr5
          have HNE := Lib.hid (show ∀ q, Value.ownBlock (.slice Av (allAt l b a 0).length cv) = some q → some q ≠ Value.ownBlock (.slice A5 (stands_ l b a).length c5) from fun q hq he => by
            have h1 := own_lt (enc := fun x : Cst => cx x.1 x.2) (h1 := fun _ => rfl) HRC.out q hq
            have h2 := own_base (Kd.own_of_R hr5) q he.symm
            omega)
          obtain ⟨S, hS⟩ : ∃ S, (stands_ l b a).length = S := ⟨_, rfl⟩
          have hS40 : S ≤ 40 := by
            have := standsDown_len l b a (min 40 (b.size - a))
            have h2 : (stands_ l b a).length = (standsDown l b a (min 40 (b.size - a))).length := rfl
            omega
          rw [hS] at HNE hr5 ⊢
          have HS := Lib.hid hS
          have hSi : (S : Int) ≤ 40 := by omega
          clear hS
          have HR5 := Lib.hid hr5
          have HB5 := Lib.hid (Ints.bel_trans HBC.out HBC.out.size hb5)
          have HRC5 := Lib.hid (Kd.R_below HRC.out hb5)
          clear hr5 hb5 HRC
          go_wp2_with (fail)
          obtain ⟨B5, hB5⟩ : ∃ q, q = wc.heap.size := ⟨_, rfl⟩
          rw [← hB5] at HR5
          clear hB5 HBC HLC
          go_loopg [70, 10] S (fun j i v wr => ∃ k : Nat, k + j = S ∧ i = .int .i64 k ∧ Hid (KC.R 47 wr w3.heap.size (fun _ => True) v (allAt l b a k) ∧ KI.R 3 wr B5 (fun _ => True) (.slice A5 S c5) (stands_ l b a) ∧ (∀ q, v.ownBlock = some q → some q ≠ (Value.slice A5 S c5).ownBlock) ∧ Below w3.heap.size w3 wr))
          case atStart => exact ⟨0, by omega, rfl, HRC5.out, HR5.out, HNE.out, HB5.out⟩
          case round =>
            obtain ⟨k, hk, rfl, HJ⟩ := hrel
            clear HRC5 HR5 HNE HB5
            obtain ⟨hr, h5, hne, hbw⟩ := HJ.out
            by_cases hkS : k < S
            · have HCW := Lib.hid (HC3.out.heap (hbw.block g HG.out))
              have HK := Lib.hid hk
              obtain ⟨m, hm, m1, m40, mb, mh⟩ := stands_mem l b a k (by have := HS.out; omega)
              obtain ⟨ad, rfl, x1⟩ := ints_at (Kd.R_reads' h5).2.2 k (by have := HS.out; omega)
              rw [hm] at x1
              have hlen := allAt_len l b a k (by have := HS.out; omega)
              have hsucc := allAt_succ l b a k (by have := HS.out; omega)
              rw [hm, Int.toNat_natCast] at hsucc
              obtain ⟨Tk, hT⟩ : ∃ t, tokenOf l b a m = t := ⟨_, rfl⟩
              obtain ⟨⟨T2, B2⟩, hV2⟩ : ∃ x, VV l b (a + m) = x := ⟨_, rfl⟩
              have htr := token_range l b a m HOK.out.1
              rw [hT] at htr
              have hvb := VV_bound HOK.out (b := b) (by omega) (a + m)
              have x0 := HCW.out.cell (a + m) (by omega)
              rw [hV2] at x0 hvb
              simp only at x0 hvb
              unfold cx at x0
              have hob := oc_tok Tk (by omega) (by omega)
              have hof := fun W => of_any Tk W
              obtain ⟨B0', hB0⟩ : ∃ x, 8 * vlen Tk = x := ⟨_, rfl⟩
              have hcT : cT Tk = 1 := hob.1
              have hoc : oc Tk = (1, B0') := by unfold oc; rw [hcT, hB0]
              rw [hoc] at hob
              rw [hcT, hB0] at hof
              unfold cx at hof
              have had := fun W => addc_fl (T := 1) (B := B0') (U := T2) (C := B2) (by have : big = 9007199254740992 := rfl; omega) (by have : big = 9007199254740992 := rfl; simp only at hob; omega) W
              have HOF := Lib.hid hof
              have htk := ref_token A c l b a m wr.drew (Kd.C_drew (Kd.C_below HL3.out hbw)) HOK.out.1 hlt (by omega) (by omega)
              rw [hT] at htk
              have HTK := Lib.hid htk
              have HX0 := Lib.hid (show ∀ W, Below wr.heap.size wr W → W.cell? ⟨g, a + m, none⟩ = some (.complex .f64 (fl T2) (fl B2)) from fun W hW => by
                have := (HCW.out.heap (hW.block g HCW.out.lt)).cell (a + m) (by omega)
                rw [hV2] at this
                exact this)
              have hpk : pick l b a m = (1 + T2, B0' + B2) := by
                unfold pick
                rw [hT, hoc, hV2]
                rfl
              rw [hpk] at hsucc
              have HSU := Lib.hid hsucc
              have HLEN := Lib.hid hlen
              obtain ⟨Aw, cw, rfl⟩ := Kd.R_slice hr
              rw [hlen] at hr hne ⊢
              have HR := Lib.hid hr
              have H5 := Lib.hid h5
              have HNE := Lib.hid hne
              have HBW := Lib.hid hbw
              have i3 : (0 : Int) ≤ (k : Int) := by omega
              have i4 : (k : Int) < (S : Int) := by omega
              have i5 : ((k : Int)).toNat = k := by omega
              have mi : (m : Int) ≤ 40 := by omega
              have i6 : (0 : Int) ≤ (a : Int) + (m : Int) := by omega
              have i7 : (a : Int) + (m : Int) < (b.size : Int) + 1 := by omega
              have i8 : ((a : Int) + (m : Int)).toNat = a + m := by omega
              have iw : IntKind.i64.wrap ((a : Int) + (m : Int)) = (a : Int) + (m : Int) := by rw [IntKind.wrap_i64]; omega
              have i9 : (0 : Int) ≤ (a : Int) + (m : Int) ∧ (a : Int) + (m : Int) < (b.size : Int) + 1 := ⟨i6, i7⟩
              have HSZ := Lib.hid (show w3.heap.size ≤ wr.heap.size from hbw.size)
              clear hr h5 hne hbw HJ hk hm m1 m40 mb mh hlen hsucc hT hV2 htr hvb hob hof hB0 hcT hoc htk hpk
              go_wp2_with (fail)
              go_region_law (first
                | (go_simp; go_at_call 25; (with_reducible refine Calls.mono HTK.out ?_); rintro e w6 ⟨rfl, q6, rfl⟩)
                | (go_simp; go_at_call 23; refine (HOF.out _).mono ?_; rintro e w7 ⟨rfl, hb7⟩; have y0 := HX0.out w7 ((below_drewN (Below.refl wr.heap.size wr) (1 + q6)).trans hb7); have HB7 := Lib.hid (HBW.out.trans (((below_drewN (Below.refl wr.heap.size wr) (1 + q6)).trans hb7).mono HSZ.out)); have HR7 := Lib.hid (Kd.R_below (Kd.R_drewN HR.out (1 + q6)) hb7); have H57 := Lib.hid (Kd.R_below (Kd.R_drewN H5.out (1 + q6)) hb7); clear hb7)
                | (refine Kd.R_append_step KC (w0 := w3) w3.heap.size (by rfl) (.tmp 74) (.tmp 88) 33 47 (.complex .f64 0 0) 16 rfl Try.underlying33 infoCost rfl (by decide) (by omega) (.slice Aw (k + 1) cw) (allAt l b a k) (1 + T2, B0' + B2) [.complex .f64 (fl (1 + T2)) (fl (B0' + B2))] (fun _ => True) (fun _ => False) (by simp [Act.eval, Act.put]) (by simp [Act.eval, Act.put]) rfl (fun _ hk => hk.elim) (fun _ _ => trivial) HR7.out HB7.out HB7.out.size (by rw [HLEN.out]; omega) ?_; intro v8 w8 ho8 hb8 hg8 hat8; rw [← HSU.out] at ho8; have HR8 := Lib.hid ho8; have HB8 := Lib.hid hb8; have H58 := Lib.hid (own_move' H57.out (fun q hq => hg8.block q (own_lt H57.out q hq) (fun e => HNE.out q e.symm hq.symm))); have HNE8 := Lib.hid (ne_next HNE.out H57.out hat8); clear ho8 hb8 hg8 hat8))
              all_goals
                go_wp2_with (fail)
                go_roundg (S - (k + 1))
                case measure => have := HK.out; omega
                case rel => exact ⟨k + 1, by have := HK.out; omega, by go_num, HR8.out, H58.out, HNE8.out, HB8.out⟩
            · have hkS2 : k = S := by omega
              subst hkS2
              obtain ⟨ag, ain⟩ := all_by HOK.out (b := b) (by omega) hlt
              have abd := all_bound HOK.out (b := b) (by omega) hlt k
              have hlen := allAt_len l b a k (by have := HS.out; omega)
              rw [HS.out] at ag ain
              obtain ⟨L, hL⟩ : ∃ L, allAt l b a k = L := ⟨_, rfl⟩
              rw [hL] at ag ain abd hlen hr
              obtain ⟨g2, cg, rfl, _, hcb⟩ := CBlk_of_R hr (by omega)
              rw [hlen] at hcb ⊢
              have HAG := Lib.hid ag
              have HAIN := Lib.hid ain
              have HABD := Lib.hid abd
              have HLEN := Lib.hid hlen
              have HCB := Lib.hid hcb
              have HBW := Lib.hid hbw
              clear hr h5 hne hbw HJ hk hkS ag ain abd hlen hcb hL
              go_wp2_with (fail)
              go_loopg [93, 9] (k + 1) (fun j i kb wr => ∃ q : Nat, q + j = k + 1 ∧ i = .int .i64 q ∧ ∃ y : Bool, kb = .bool y ∧ Hid ((y = true ↔ ∃ z, z < q ∧ L.getD z (0, 0) = VV l b a) ∧ CBlk wr g2 (k + 1) (fun j => L.getD j (0, 0)) ∧ Below w3.heap.size w3 wr))
              case atStart => exact ⟨0, by omega, rfl, false, rfl, ⟨by simp, HCB.out, HBW.out⟩⟩
              case round =>
                obtain ⟨q, hq, rfl, y, rfl, HM⟩ := hrel
                clear HCB HBW
                obtain ⟨hy, hcb, hbw⟩ := HM.out
                by_cases hqk : q < k + 1
                · have HCW := Lib.hid (HC3.out.heap (hbw.block g HG.out))
                  have x0 := hcb.cell q hqk
                  have x1 := HCW.out.cell a (by omega)
                  have hmem : L.getD q (0, 0) ∈ L := by rw [List.getD_eq_getElem?_getD, List.getElem?_eq_getElem (by have := HLEN.out; omega)]; exact List.getElem_mem _
                  have hno := lessB_no (HAG.out _ hmem)
                  have hbd := HABD.out _ hmem
                  have hvb := VV_bound HOK.out (b := b) (by omega) a
                  have hsn : ∀ y' : Bool, (y' = true ↔ (y = true ∨ L.getD q (0, 0) = VV l b a)) → (y' = true ↔ ∃ z, z < q + 1 ∧ L.getD z (0, 0) = VV l b a) := by
                    intro y' h
                    rw [h, hy]
                    constructor
                    · rintro (⟨z, h1, h2⟩ | h1)
                      · exact ⟨z, by omega, h2⟩
                      · exact ⟨q, by omega, h1⟩
                    · rintro ⟨z, h1, h2⟩
                      by_cases hzq : z = q
                      · subst hzq
                        exact .inr h2
                      · exact .inl ⟨z, by omega, h2⟩
                  obtain ⟨⟨TX, BX⟩, hX⟩ : ∃ x, L.getD q (0, 0) = x := ⟨_, rfl⟩
                  obtain ⟨⟨T3, B3⟩, hV⟩ : ∃ x, VV l b a = x := ⟨_, rfl⟩
                  have HSN := Lib.hid (show ∀ y' : Bool, (y' = true ↔ (y = true ∨ ((TX, BX) : Cst) = (T3, B3))) → (y' = true ↔ ∃ z, z < q + 1 ∧ L.getD z (0, 0) = VV l b a) from fun y' h => hsn y' (by rw [hX, hV]; exact h))
                  simp only [hX] at x0
                  rw [hV] at x1 hno hvb
                  rw [hX] at hno hbd
                  simp only at x0 x1 hno hbd hvb
                  unfold cx at x0 x1
                  have hbg : big = 9007199254740992 := rfl
                  have b1 : TX < big := by omega
                  have b2 : BX < big := by omega
                  have b3 : T3 < big := by omega
                  have b4 : B3 < big := by omega
                  have HLS := Lib.hid (fun W => less_lit TX BX T3 B3 W b1 b2 b3 b4)
                  have HNO := Lib.hid hno
                  have HE0 := Lib.hid (show (FloatKind.f64.format.order (fl TX) (fl T3) == some Ordering.eq) = decide (TX = T3) from eq_fl b1 b3)
                  have HE1 := Lib.hid (show (FloatKind.f64.format.order (fl BX) (fl B3) == some Ordering.eq) = decide (BX = B3) from eq_fl b2 b4)
                  have HQ := Lib.hid hq
                  have HCB := Lib.hid hcb
                  have HBW := Lib.hid hbw
                  have j0 : (0 : Int) ≤ (q : Int) := by omega
                  have j1 : (q : Int) < (k : Int) + 1 := by omega
                  have j2 : ((q : Int)).toNat = q := by omega
                  have j3 : (a : Int) < (b.size : Int) + 1 := by omega
                  clear hcb hbw hq hno hbd hvb hsn hX hV hbg b1 b2 b3 b4 hmem hy HM
                  go_wp2_with (fail)
                  refine (HLS.out _).mono ?_
                  rintro e w9 ⟨rfl, rfl⟩
                  rw [HNO.out]
                  cases y with
                  | true =>
                    go_wp2_with (fail)
                    go_roundg (k + 1 - (q + 1))
                    case measure => have := HQ.out; omega
                    case rel => exact ⟨q + 1, by have := HQ.out; omega, by go_num, true, rfl, ⟨HSN.out true (by simp), HCB.out, HBW.out⟩⟩
                  | false =>
                    by_cases g1 : TX = T3
                    · have e0 := HE0.out
                      rw [decide_eq_true g1] at e0
                      by_cases g2' : BX = B3
                      · have e1 := HE1.out
                        rw [decide_eq_true g2'] at e1
                        have HY := Lib.hid ((HSN.out true (by simp [g1, g2'])).1 rfl)
                        clear g1 g2'
                        go_wp2_with (fail)
                        go_roundg (k + 1 - (q + 1))
                        case measure => have := HQ.out; omega
                        case rel => exact ⟨q + 1, by have := HQ.out; omega, by go_num, true, rfl, ⟨⟨fun _ => HY.out, fun _ => rfl⟩, HCB.out, HBW.out⟩⟩
                      · have e1 := HE1.out
                        rw [decide_eq_false g2'] at e1
                        have HY := Lib.hid (HSN.out false (by simp [g1, g2']))
                        clear g1 g2'
                        go_wp2_with (fail)
                        go_roundg (k + 1 - (q + 1))
                        case measure => have := HQ.out; omega
                        case rel => exact ⟨q + 1, by have := HQ.out; omega, by go_num, false, rfl, ⟨HY.out, HCB.out, HBW.out⟩⟩
                    · have e0 := HE0.out
                      rw [decide_eq_false g1] at e0
                      have HY := Lib.hid (HSN.out false (by simp [g1]))
                      clear g1
                      go_wp2_with (fail)
                      go_roundg (k + 1 - (q + 1))
                      case measure => have := HQ.out; omega
                      case rel => exact ⟨q + 1, by have := HQ.out; omega, by go_num, false, rfl, ⟨HY.out, HCB.out, HBW.out⟩⟩
                · have hqe : q = k + 1 := by omega
                  have hyt : y = true := by
                    rw [hy, hqe]
                    obtain ⟨z, hz, hzz⟩ := List.getElem_of_mem HAIN.out
                    exact ⟨z, by have := HLEN.out; omega, by rw [List.getD_eq_getElem?_getD, List.getElem?_eq_getElem hz]; exact hzz⟩
                  subst hyt hqe
                  have HBW := Lib.hid hbw
                  clear hy hcb hbw HM hq hqk
                  go_wp2_with (fail)
                  go_roundg (b.size - (a + 1))
                  case measure => have := HAJ.out; omega
                  case rel => exact ⟨a + 1, by have := HAJ.out; omega, by go_num, HBW.out⟩
      · have hae : (b.size : Int) ≤ (a : Int) := by omega
        have HBW := Lib.hid HI.out
        clear HI
        go_wp2_with (fail)
        go_ret
        exact ⟨rfl, Ints.bel_trans HB3.out HB3.out.size (HBW.out.mono (Nat.le_refl _))⟩
  · go_wp2_with (go_at_call 12; refine (alive_any _).mono ?_; rintro e w5 ⟨rfl, hb5⟩)
    go_ret
    exact ⟨rfl, Ints.bel_trans HB1.out HB1.out.size hb5⟩
end Go.Proofs.Ytfiflloieojgbaa.Best
