/- Chapter 21: bits of 0 alone are the first symbol of the shortest length, again and again. -/
import Derived.Test.YtadijdcdonommaaReadL1
namespace Go.Proofs.Ytadijdcdonommaa.Read
set_option linter.unusedVariables false
set_option linter.unusedSimpArgs false
open Go.RowKit Go.Proofs.YtadijdcdonommaaW.PrintWords Go.Proofs.YtadijdcdonommaaW.PrintMore Go.Proofs.Ytadijdcdonommaa.L Go.Proofs.Ytadijdcdonommaa.Ints Go.Proofs.Ytadijdcdonommaa.Code Go.Proofs.Ytadijdcdonommaa.BP Go.Proofs.Ytadijdcdonommaa.Bits

/-- The first symbol of the shortest length, of the first k. -/
def fst (l : List Int) : Nat → Int
  | 0 => -1
  | k + 1 => if 0 < l.getD k 0 ∧ (fst l k < 0 ∨ l.getD k 0 < l.getD (fst l k).toNat 0) then (k : Int) else fst l k
theorem fst_range (l : List Int) : ∀ k, fst l k = -1 ∨ (0 ≤ fst l k ∧ fst l k < (k : Int) ∧ 0 < l.getD (fst l k).toNat 0)
  | 0 => .inl rfl
  | k + 1 => by
    show (if 0 < l.getD k 0 ∧ (fst l k < 0 ∨ l.getD k 0 < l.getD (fst l k).toNat 0) then (k : Int) else fst l k) = -1 ∨ _
    by_cases h : 0 < l.getD k 0 ∧ (fst l k < 0 ∨ l.getD k 0 < l.getD (fst l k).toNat 0)
    · refine .inr ?_
      have e : fst l (k + 1) = (k : Int) := by unfold fst; rw [if_pos h]
      rw [e, Int.toNat_natCast]
      exact ⟨by omega, by omega, h.1⟩
    · have e : fst l (k + 1) = fst l k := by rw [fst, if_neg h]
      rw [if_neg h, e]
      rcases fst_range l k with h1 | ⟨h1, h2, h3⟩
      · exact .inl h1
      · exact .inr ⟨h1, by omega, h3⟩
theorem fst_least (l : List Int) : ∀ k i, i < k → 0 < l.getD i 0 → 0 ≤ fst l k ∧ l.getD (fst l k).toNat 0 ≤ l.getD i 0 ∧ ((i : Int) < fst l k → l.getD (fst l k).toNat 0 < l.getD i 0)
  | 0, i, h, _ => absurd h (by omega)
  | k + 1, i, h, hi => by
    by_cases hc : 0 < l.getD k 0 ∧ (fst l k < 0 ∨ l.getD k 0 < l.getD (fst l k).toNat 0)
    · have e : fst l (k + 1) = (k : Int) := by unfold fst; rw [if_pos hc]
      rw [e, Int.toNat_natCast]
      by_cases hik : i = k
      · subst hik
        exact ⟨by omega, by omega, fun h => by omega⟩
      · obtain ⟨h1, h2, h3⟩ := fst_least l k i (by omega) hi
        exact ⟨by omega, by omega, fun _ => by omega⟩
    · have e : fst l (k + 1) = fst l k := by rw [fst, if_neg hc]
      rw [e]
      by_cases hik : i = k
      · subst hik
        have hr := fst_range l i
        exact ⟨by omega, by omega, fun h => by omega⟩
      · exact fst_least l k i (by omega) hi
theorem nx_zero (l : List Int) (m : Nat) : (∀ n, n < m → cnt l (n + 1) = 0) → nx l m = 0 := by
  induction m with
  | zero => intro _; rfl
  | succ m ih =>
    intro h
    show 2 * nx l m + cnt l (m + 1) = 0
    rw [ih (fun n hn => h n (by omega)), h m (by omega)]
theorem cnt_zero (l : List Int) (n : Nat) (h : ∀ i, i < l.length → l.getD i 0 ≠ (n : Int)) : cnt l n = 0 := by
  unfold cnt
  rw [List.countP_eq_zero]
  intro x hx
  obtain ⟨i, hi, rfl⟩ := List.getElem_of_mem hx
  have := h i hi
  rw [List.getD_eq_getElem?_getD, List.getElem?_eq_getElem hi] at this
  simpa using this
theorem valN_zeros {bs : List Int} (h : ∀ i, bs.getD i 0 = 0) : ∀ n, valN bs n = 0
  | 0 => rfl
  | n + 1 => by
    simp only [valN]
    rw [valN_zeros h n, h n]
    rfl
/-- Of bits of 0 the first symbol of the shortest length. -/
theorem next_zeros (l bs : List Int) (hr : right l = 0) (h : ∀ i, bs.getD i 0 = 0) :
    ∃ f n : Nat, fst l l.length = (f : Int) ∧ f < l.length ∧ l.getD f 0 = ((n + 1 : Nat) : Int) ∧ n + 1 ≤ 15 ∧ next l bs = if bs.length < n + 1 then (0, 2, 0) else ((f : Int), 0, n + 1) := by
  obtain ⟨x, hx, hp⟩ := List.countP_pos_iff.1 (used_pos hr)
  rw [decide_eq_true_eq] at hp
  obtain ⟨i, hi, rfl⟩ := List.getElem_of_mem hx
  have hgi : l.getD i 0 = l[i] := by rw [List.getD_eq_getElem?_getD, List.getElem?_eq_getElem hi]; rfl
  rw [← hgi] at hp
  obtain ⟨h1, h2, h3⟩ := fst_least l l.length i hi hp
  obtain ⟨f, hf⟩ := Int.eq_ofNat_of_zero_le h1
  have hfr := fst_range l l.length
  rw [hf] at hfr
  rw [Int.toNat_natCast] at hfr
  have hfl : f < l.length := by omega
  have hf0 : 0 < l.getD f 0 := by omega
  have hf15 := (right_range hr (l.getD f 0) (by rw [List.getD_eq_getElem?_getD, List.getElem?_eq_getElem hfl]; exact List.getElem_mem hfl)).2
  obtain ⟨n, hn⟩ : ∃ n : Nat, l.getD f 0 = ((n + 1 : Nat) : Int) := ⟨(l.getD f 0).toNat - 1, by omega⟩
  have hleast : ∀ j, j < l.length → 0 < l.getD j 0 → ((n + 1 : Nat) : Int) ≤ l.getD j 0 ∧ (j < f → ((n + 1 : Nat) : Int) < l.getD j 0) := by
    intro j hj hj0
    obtain ⟨a1, a2, a3⟩ := fst_least l l.length j hj hj0
    rw [hf, Int.toNat_natCast, hn] at a2 a3
    exact ⟨a2, fun h => a3 (by omega)⟩
  have hshort : ∀ m, m < n → cnt l (m + 1) = 0 := fun m hm => cnt_zero l (m + 1) (fun j hj he => by have := (hleast j hj (by omega)).1; omega)
  have hcode : codeAt l f = 0 := by
    rw [codeAt_some l f n hn (by omega), nx_zero l n hshort]
    have : cnt (l.take f) (n + 1) = 0 := cnt_zero _ _ (fun j hj he => by
      rw [List.length_take] at hj
      have e : (l.take f).getD j 0 = l.getD j 0 := by
        rw [List.getD_eq_getElem?_getD, List.getElem?_take_of_lt (by omega), ← List.getD_eq_getElem?_getD]
      rw [e] at he
      have := (hleast j (by omega) (by omega)).2 (by omega)
      omega)
    omega
  have hm := most_getD l f
  rw [hn, Int.toNat_natCast] at hm
  refine ⟨f, n, hf, hfl, hn, by omega, ?_⟩
  have key : ∀ d m, m + d = n → nextR l bs (m + 1) (most l - m) = if bs.length < n + 1 then (0, 2, 0) else ((f : Int), 0, n + 1) := by
    intro d
    induction d with
    | zero =>
      intro m h1
      obtain rfl : m = n := by omega
      rw [show most l - m = (most l - m - 1) + 1 by omega]
      by_cases hb : bs.length < m + 1
      · rw [if_pos hb, nextR_more hb]
      · rw [if_neg hb]
        refine nextR_hit (by omega) ?_
        rw [valN_zeros h]
        have := hit_of hn (by omega)
        rw [hcode] at this
        exact this
    | succ d ih =>
      intro m h1
      rw [show most l - m = (most l - (m + 1)) + 1 by omega]
      by_cases hb : bs.length < m + 1
      · rw [nextR_more hb, if_pos (by omega)]
      · rw [nextR_on (by omega) (hit_none fun s hs hl he => by have := (hleast s hs (by omega)).1; omega)]
        exact ih (m + 1) (by omega)
  exact key n 0 (by omega)
/-- A string of bytes 0. -/
def zs (n : Nat) : ByteArray := strOfNums (List.replicate n 0)
theorem zs_size (n : Nat) : (zs n).size = n := by unfold zs; rw [strOfNums_size, List.length_replicate]
theorem zs_bytes (n : Nat) : bytesOf (zs n) = List.replicate n 0 := by
  unfold zs bytesOf
  rw [strOfNums_data, List.map_map, List.map_replicate]
  rfl
theorem zs_rem (n a i : Nat) : (rem (zs n) a).getD i 0 = 0 := by
  rw [rem_getD]
  have : bt (zs n) (((a + i) / 8 : Nat) : Int) = 0 := by
    rw [← rd_bytesOf, zs_bytes]
    show (List.replicate n (0 : Int)).getD (((a + i) / 8 : Nat) : Int).toNat 0 = 0
    rw [List.getD_eq_getElem?_getD, List.getElem?_replicate]
    split <;> rfl
  rw [this]
  simp
set_option maxRecDepth 100000 in
set_option maxHeartbeats 4000000 in
theorem ReadZeros_walk (A : Option Addr) (l : List Int) (c : Nat) (n : Int) (w : World) (hl : KI.C w A l.length l) (hlc : l.length ≤ c) (h8 : l.length * 8 ≤ 140737488351232) (hlw : ∀ x ∈ l, (Lit.int .i64 x).wf = true) (hn : (Lit.int .i64 n).wf = true) :
    Calls Try.prog 6 #[.slice A l.length c, .int .i64 n] w fun e w' => e = .returned (.bool true) ∧ Below w.heap.size w w' := by
  have HL := Lib.hid hl
  clear hl hlc hlw hn
  have hcase : ((300 : Int) < (l.length : Int) ∨ ((l.length : Int) ≤ 300 ∧ (n < 0 ∨ (0 ≤ n ∧ 40 < n)))) ∨ ((l.length : Int) ≤ 300 ∧ 0 ≤ n ∧ n ≤ 40) := by omega
  rcases hcase with hcase | ⟨h1, h2, h3⟩
  · rcases hcase with h | ⟨h0, h | ⟨h1, h2⟩⟩
    all_goals
      go_enter Try.func6, Try.ntmps6
      go_wp2_with (go_at_call 9; refine (alive_any _).mono ?_; rintro e w' ⟨rfl, hb⟩)
      go_ret
      exact ⟨rfl, hb⟩
  · obtain ⟨N, rfl⟩ := Int.eq_ofNat_of_zero_le h2
    by_cases hr : right l = 0
    · have HR := Lib.hid hr
      clear hr
      go_enter Try.func6, Try.ntmps6
      go_wp2_with (fail)
      refine (right_any _ _ _ l _ HL.out h8).mono ?_
      rintro e w1 ⟨rfl, rfl⟩
      rw [HR.out]
      go_wp2_with (fail)
      refine (alive_any _).mono ?_
      rintro e w2 ⟨rfl, hb2⟩
      have HB2 := Lib.hid hb2
      clear hb2
      go_wp2_with (fail)
      refine (new_ok _ _ l _ (Kd.C_below HL.out HB2.out) (by omega) HR.out).mono ?_
      rintro e w3 ⟨b, rfl, ht, hb3⟩
      have HT := Lib.hid ht
      have HB3 := Lib.hid (Ints.bel_trans HB2.out HB2.out.size hb3)
      clear ht hb3 HB2
      go_wp2_with ((with_reducible refine gate_dst (N := 43) rfl ?_); apply stopper)
      unfold Stopper
      refine Kd.R_make (Kd.int .u8) (w0 := w3) w3.heap.size 5 rfl (N := 43) rfl 42 _ _ rfl (N : Int) rfl rfl Try.underlying42 (.int .u8 0) 1 infoU8 rfl (by decide) (by omega) 0 (ok := fun _ => True) (okp := fun _ => True) ?mM (fun _ hk => hk) trivial (by omega) ?mL (Below.refl _ _) (Nat.le_refl _) ?_
      case mM => exact rfl
      case mL => omega
      intro v4 w4 hr4 hb4 hg4 hat4
      rw [Int.toNat_natCast] at hr4
      have hcv := own_string (P := Try.prog) Try.underlying42 Try.underlying5 Try.underlying9 (Kd.own_of_R hr4)
      obtain ⟨A4, c4, rfl⟩ := Kd.R_slice hr4
      rw [List.length_replicate] at hcv ⊢
      replace hcv : (convert 42 9 (.slice A4 N c4)).run Try.prog w4 = .ok (.string (zs N)) w4 := hcv
      have HT4 := Lib.hid (HT.out.below hb4)
      have HB4 := Lib.hid (Ints.bel_trans HB3.out HB3.out.size hb4)
      clear hr4 hb4 hg4 hat4 HT HB3
      go_wp2_with (fail)
      refine (newReader (zs N) _ (by rw [zs_size]; omega)).mono ?_
      rintro e w5 ⟨rfl, rfl⟩
      have HR5 := Lib.hid (rr_new (zs N) w4 (by rw [zs_size]; omega))
      have HT5 := Lib.hid (HT4.out.below ((Below.refl w4.heap.size w4).alloc (Nat.le_refl _) (.cells #[.string (zs N), .int .i64 0] 60 (0, 0))))
      have HB5 := Lib.hid (HB4.out.alloc HB4.out.size (.cells #[.string (zs N), .int .i64 0] 60 (0, 0)))
      have HRB := Lib.hid HB4.out.size
      clear HT4 HB4 hcv
      generalize hW5 : w4.alloc (.cells #[.string (zs N), .int .i64 0] 60 (0, 0)) = W5 at *
      obtain ⟨rb, hrb⟩ : ∃ x, w4.heap.size = x := ⟨_, rfl⟩
      rw [hrb] at HR5 HRB ⊢
      clear hW5 hrb
      have HL5 := Lib.hid (Kd.C_below HL.out HB5.out)
      go_wp2_with (fail)
      go_loopg [8, 58] l.length (fun j f i wr => ∃ k : Nat, k + j = l.length ∧ i = .int .i64 k ∧ f = .int .i64 (fst l k) ∧ wr = W5)
      case atStart => exact ⟨0, by omega, rfl, rfl, rfl⟩
      case round =>
        obtain ⟨k, hk, rfl, rfl, rfl⟩ := hrel
        by_cases hlt : k < l.length
        · obtain ⟨ad, rfl, x0⟩ := ints_at HL5.out k hlt
          have hfr := fst_range l k
          have hfs : fst l (k + 1) = if 0 < l.getD k 0 ∧ (fst l k < 0 ∨ l.getD k 0 < l.getD (fst l k).toNat 0) then (k : Int) else fst l k := rfl
          obtain ⟨x, hx⟩ : ∃ x, l.getD k 0 = x := ⟨_, rfl⟩
          rw [hx] at x0 hfs
          have i0 : (0 : Int) ≤ k := by omega
          have i1 : (k : Int) < (l.length : Int) := by omega
          have i2 : ((k : Int)).toNat = k := by omega
          have HK := Lib.hid hk
          have HX := Lib.hid hx
          clear hk hx
          by_cases hp : 0 < x
          · rcases hfr with hfr | ⟨f0, f1, f2⟩
            · rw [hfr] at hfs ⊢
              rw [if_pos ⟨hp, .inl (by decide)⟩] at hfs
              have HFS := Lib.hid hfs
              clear hfs hfr
              go_wp2_with (fail)
              go_roundg (l.length - (k + 1))
              case measure => have := HK.out; omega
              case rel => exact ⟨k + 1, by have := HK.out; omega, by go_num, by rw [HFS.out], rfl⟩
            · obtain ⟨f, hf⟩ := Int.eq_ofNat_of_zero_le f0
              rw [hf] at f1 f2 hfs ⊢
              rw [Int.toNat_natCast] at f2 hfs
              obtain ⟨ad2, had2, y0⟩ := ints_at HL5.out f (by omega)
              cases had2
              obtain ⟨y, hy⟩ : ∃ y, l.getD f 0 = y := ⟨_, rfl⟩
              rw [hy] at y0 f2 hfs
              have g0 : (0 : Int) ≤ f := by omega
              have g1 : (f : Int) < (l.length : Int) := by omega
              have g2 : ((f : Int)).toNat = f := by omega
              have g3 : ¬ ((f : Int) < 0) := by omega
              by_cases hxy : x < y
              · rw [if_pos ⟨hp, .inr hxy⟩] at hfs
                have HFS := Lib.hid hfs
                clear hfs hf f0 f1 f2 hy
                go_wp2_with (fail)
                go_roundg (l.length - (k + 1))
                case measure => have := HK.out; omega
                case rel => exact ⟨k + 1, by have := HK.out; omega, by go_num, by rw [HFS.out], rfl⟩
              · rw [if_neg (fun h => by rcases h.2 with h | h <;> omega)] at hfs
                have HFS := Lib.hid hfs
                have hxy2 : y ≤ x := by omega
                clear hfs hf f0 f1 f2 hy hxy
                go_wp2_with (fail)
                go_roundg (l.length - (k + 1))
                case measure => have := HK.out; omega
                case rel => exact ⟨k + 1, by have := HK.out; omega, by go_num, by rw [HFS.out], rfl⟩
          · rw [if_neg (fun h => hp h.1)] at hfs
            have HFS := Lib.hid hfs
            have hp2 : x ≤ 0 := by omega
            obtain ⟨F, hF⟩ : ∃ F, fst l k = F := ⟨_, rfl⟩
            rw [hF] at HFS ⊢
            clear hfs hfr hp hF
            go_wp2_with (fail)
            go_roundg (l.length - (k + 1))
            case measure => have := HK.out; omega
            case rel => exact ⟨k + 1, by have := HK.out; omega, by go_num, by rw [HFS.out], rfl⟩
        · obtain rfl : k = l.length := by omega
          clear hk
          obtain ⟨f, m, hf, hfl, hfm, hm15, _⟩ := next_zeros l (rem (zs N) 0) HR.out (fun i => zs_rem N 0 i)
          obtain ⟨ad, rfl, x0⟩ := ints_at HL5.out f hfl
          rw [hfm] at x0
          rw [hf]
          have HNZ := Lib.hid (show ∀ a, next l (rem (zs N) a) = if 8 * N - a < m + 1 then (0, 2, 0) else ((f : Int), 0, m + 1) from fun a => by
            obtain ⟨f', m', hf', _, hfm', _, h⟩ := next_zeros l (rem (zs N) a) HR.out (fun i => zs_rem N a i)
            obtain rfl : f' = f := by omega
            obtain rfl : m' = m := by omega
            rw [h, rem_length, zs_size])
          have g0 : (0 : Int) ≤ f := by omega
          have g1 : (f : Int) < (l.length : Int) := by omega
          have g2 : ((f : Int)).toNat = f := by omega
          have g3 : ¬ ((f : Int) < 0) := by omega
          have g4 : ((f : Int) != (f : Int)) = false := by simp
          have m0 : (m : Int) + 1 ≤ 15 := by omega
          rw [show ((m + 1 : Nat) : Int) = (m : Int) + 1 by omega] at x0
          have HFM := Lib.hid hfm
          clear hf hfm x0
          go_wp2_with (fail)
          go_loopg [11] (8 * N) (fun j x wr => ∃ q L : Nat, q + L = 8 * N ∧ L ≤ j ∧ x = .int .i64 L ∧ Hid (RR wr rb (zs N) q ∧ TOK wr b l ∧ Below w1.heap.size w1 wr))
          case atStart => exact ⟨0, 8 * N, by omega, Nat.le_refl _, by go_num, HR5.out, HT5.out, HB5.out⟩
          case round =>
            obtain ⟨q, L, hq, hLj, rfl, HI⟩ := hrel
            obtain ⟨hr, ht, hb⟩ := HI.out
            obtain ⟨ad2, had2, y0⟩ := ints_at (Kd.C_below HL.out hb) f hfl
            cases had2
            rw [HFM.out, show ((m + 1 : Nat) : Int) = (m : Int) + 1 by omega] at y0
            have hX := HNZ.out q
            have HR6 := Lib.hid hr
            have HT6 := Lib.hid ht
            have HB6 := Lib.hid hb
            have hLi : (L : Int) ≤ 320 := by omega
            by_cases hge : m + 1 ≤ L
            · rw [if_neg (by omega)] at hX
              have HX := Lib.hid hX
              have hgi : (m : Int) + 1 ≤ (L : Int) := by omega
              have HQ := Lib.hid hq
              have HLJ := Lib.hid hLj
              clear hX hr ht hb HI hq hLj
              go_wp2_with (fail)
              refine (next_any b rb q (zs N) l _ HT6.out HR6.out (by omega) HR.out).mono ?_
              rintro e w6 ⟨rfl, hr6, hc6⟩
              have HT7 := Lib.hid (RR.tab HT6.out hc6 HR6.out)
              have HB7 := Lib.hid (HB6.out.trans (hc6.below (B := w1.heap.size) HB6.out.size (fun k hk => by have := HRB.out; omega)))
              obtain ⟨ad2, had2, z0⟩ := ints_at (Kd.C_below HL.out HB7.out) f hfl
              cases had2
              rw [HFM.out, show ((m + 1 : Nat) : Int) = (m : Int) + 1 by omega] at z0
              rw [HX.out] at hr6 ⊢
              have HR7 := Lib.hid hr6
              clear hr6 hc6 y0
              go_wp2_with (fail)
              go_roundg (L - (m + 1))
              case measure => have := HLJ.out; omega
              case rel => exact ⟨q + (m + 1), L - (m + 1), by have := HQ.out; omega, Nat.le_refl _, by refine congrArg (Value.int .i64) ?_; omega, HR7.out, HT7.out, HB7.out⟩
            · rw [if_pos (by omega)] at hX
              have HX := Lib.hid hX
              have hgi : ¬ ((m : Int) + 1 ≤ (L : Int)) := by omega
              clear hX hr ht hb HI hq hLj
              go_wp2_with (fail)
              refine (next_any b rb q (zs N) l _ HT6.out HR6.out (by omega) HR.out).mono ?_
              rintro e w6 ⟨rfl, hr6, hc6⟩
              have HB7 := Lib.hid (HB6.out.trans (hc6.below (B := w1.heap.size) HB6.out.size (fun k hk => by have := HRB.out; omega)))
              rw [HX.out] at hr6 ⊢
              clear hr6 hc6 y0
              go_wp2_with (fail)
              go_ret
              exact ⟨rfl, HB7.out⟩
    · have HR := Lib.hid hr
      have hne : (right l != 0) = true := bne_iff_ne.2 hr
      obtain ⟨r, hR⟩ : ∃ r, right l = r := ⟨_, rfl⟩
      have HRR := Lib.hid hR
      rw [hR] at hne
      clear hr hR
      go_enter Try.func6, Try.ntmps6
      go_wp2_with (fail)
      refine (right_any _ _ _ l _ HL.out h8).mono ?_
      rintro e w1 ⟨rfl, rfl⟩
      rw [HRR.out]
      go_wp2_with (go_at_call 9; refine (alive_any _).mono ?_; rintro e w' ⟨rfl, hb⟩)
      go_ret
      exact ⟨rfl, hb⟩
end Go.Proofs.Ytadijdcdonommaa.Read
