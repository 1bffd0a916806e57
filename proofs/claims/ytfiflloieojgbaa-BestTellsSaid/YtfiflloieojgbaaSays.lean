/- What tokens mean, as the document says it. -/
import Derived.Test.YtfiflloieojgbaaDictUse
import Derived.Test.YtfiflloieojgbaaInts
namespace Go.Proofs.Ytfiflloieojgbaa.Say
set_option linter.unusedVariables false
set_option linter.unusedSimpArgs false
open Go.RowKit Go.Proofs.YtfiflloieojgbaaW.PrintWords Go.Proofs.YtfiflloieojgbaaW.PrintMore Go.Proofs.Ytfiflloieojgbaa.L Go.Proofs.Ytfiflloieojgbaa.Texts Go.Proofs.Ytfiflloieojgbaa.Dict Go.Proofs.Ytfiflloieojgbaa.Ints

def means (l : List ByteArray) (t : Int) : ByteArray := if t < 0 then no else if t < 256 then ⟨#[UInt8.ofNat t.toNat]⟩ else atL l (t - 256)
def isTok (l : List ByteArray) (t : Int) : Bool := decide (0 ≤ t ∧ t < 256 + (l.length : Int))

/-- What tokens mean, behind bytes that are there: the code beside. -/
def meanGo (l : List ByteArray) (most : Int) : ByteArray → List Int → ByteArray × Int
  | acc, [] => (acc, 0)
  | acc, t :: ts => if (means l t).size = 0 then (no, 9) else if max most 0 - (acc.size : Int) < ((means l t).size : Int) then (no, 10) else meanGo l most (acc ++ means l t) ts
theorem meanGo_cons (l : List ByteArray) (most : Int) (acc : ByteArray) (t : Int) (ts : List Int) : meanGo l most acc (t :: ts) = if (means l t).size = 0 then (no, 9) else if max most 0 - (acc.size : Int) < ((means l t).size : Int) then (no, 10) else meanGo l most (acc ++ means l t) ts := rfl
theorem max_pos (most : Int) : (if most < 0 then (0 : Int) else most) = max most 0 := by omega
theorem mean_le (l : List ByteArray) (h : ∀ s ∈ l, s.size ≤ 40) (t : Int) : (means l t).size ≤ 40 := by
  unfold means
  split
  · decide
  · split
    · show 1 ≤ 40
      decide
    · unfold atL
      split
      · rename_i h2
        unfold inL at h2
        rw [decide_eq_true_eq] at h2
        exact h _ (getD_mem _ _ (by omega))
      · decide
theorem okTexts_40 {l : List ByteArray} (h : okTexts l) : ∀ s ∈ l, s.size ≤ 40 := by
  intro s hs
  obtain ⟨k, hk, rfl⟩ := List.getElem_of_mem hs
  have := (h.2 k hk).2.1
  rw [List.getD_eq_getElem?_getD, List.getElem?_eq_getElem hk] at this
  exact this
theorem wf_range {ts : List Int} (h : ∀ x ∈ ts, (Lit.int .i64 x).wf = true) : ∀ t ∈ ts, -(2 ^ 63) ≤ t ∧ t < 2 ^ 63 := by
  intro t ht
  have := h t ht
  simp [Lit.wf, IntKind.min, IntKind.max, IntKind.signed, IntKind.bits] at this
  omega
theorem wf_one {t : Int} (h : (Lit.int .i64 t).wf = true) : -(2 ^ 63) ≤ t ∧ t < 2 ^ 63 := wf_range (ts := [t]) (by simpa using h) t (by simp)
theorem no_append (s : ByteArray) : no ++ s = s := by
  apply ByteArray.ext
  rw [ByteArray.data_append]
  show #[] ++ s.data = s.data
  simp
theorem means_byte (l : List ByteArray) (c : Nat) (h : c < 256) : means l c = ⟨#[UInt8.ofNat c]⟩ := by
  unfold means
  rw [if_neg (by omega), if_pos (by omega), Int.toNat_natCast]
theorem means_phrase (l : List ByteArray) (k : Nat) (h : k < l.length) : means l (256 + (k : Int)) = l.getD k no := by
  have hi : inL l (k : Int) = true := by unfold inL; exact decide_eq_true ⟨by omega, by omega⟩
  unfold means
  rw [if_neg (by omega), if_neg (by omega), show (256 : Int) + k - 256 = k by omega]
  unfold atL
  rw [if_pos hi, Int.toNat_natCast]
theorem means_past (l : List ByteArray) (t : Int) (h : t < 0 ∨ 256 + (l.length : Int) ≤ t) : means l t = no := by
  unfold means
  by_cases h0 : t < 0
  · rw [if_pos h0]
  · have hi : ¬ inL l (t - 256) = true := by unfold inL; rw [decide_eq_true_eq]; omega
    rw [if_neg h0, if_neg (by omega)]
    unfold atL
    rw [if_neg hi]
theorem append_assoc (a b c : ByteArray) : a ++ b ++ c = a ++ (b ++ c) := by
  apply ByteArray.ext
  simp [ByteArray.data_append]
/-- All that tokens mean, if all are tokens. -/
def allMean (l : List ByteArray) : List Int → ByteArray
  | [] => no
  | t :: ts => means l t ++ allMean l ts
def allTok (l : List ByteArray) (ts : List Int) : Prop := ∀ t ∈ ts, (means l t).size ≠ 0
instance (l : List ByteArray) (ts : List Int) : Decidable (allTok l ts) := by unfold allTok; exact inferInstance
theorem allMean_append (l : List ByteArray) : ∀ a b, allMean l (a ++ b) = allMean l a ++ allMean l b
  | [], b => (no_append _).symm
  | t :: a, b => by
    rw [List.cons_append]
    show means l t ++ allMean l (a ++ b) = means l t ++ allMean l a ++ allMean l b
    rw [allMean_append l a b, append_assoc]
theorem allMean_le (l : List ByteArray) (h : ∀ s ∈ l, s.size ≤ 40) : ∀ ts, (allMean l ts).size ≤ 40 * ts.length
  | [] => Nat.le_refl _
  | t :: ts => by
    show (means l t ++ allMean l ts).size ≤ _
    rw [ByteArray.size_append, List.length_cons]
    have := mean_le l h t
    have := allMean_le l h ts
    omega
/-- Where the bound is no less, all is meant; where it is less (and all are tokens) it is too long. -/
theorem go_fits (l : List ByteArray) (most : Int) : ∀ (ts : List Int) (acc : ByteArray), allTok l ts → (acc.size : Int) + (allMean l ts).size ≤ max most 0 → meanGo l most acc ts = (acc ++ allMean l ts, 0)
  | [], acc, _, _ => by
    show (acc, (0 : Int)) = (acc ++ no, 0)
    have : acc ++ no = acc := by
      apply ByteArray.ext
      rw [ByteArray.data_append]
      show acc.data ++ #[] = acc.data
      simp
    rw [this]
  | t :: ts, acc, h, hf => by
    have hs : (allMean l (t :: ts)).size = (means l t).size + (allMean l ts).size := ByteArray.size_append
    rw [hs] at hf
    rw [meanGo_cons, if_neg (h t (by simp)), if_neg (by omega)]
    rw [go_fits l most ts (acc ++ means l t) (fun x hx => h x (by simp [hx])) (by rw [ByteArray.size_append]; omega), append_assoc]
    rfl
theorem go_long (l : List ByteArray) (most : Int) : ∀ (ts : List Int) (acc : ByteArray), allTok l ts → (acc.size : Int) ≤ max most 0 → max most 0 < (acc.size : Int) + (allMean l ts).size → meanGo l most acc ts = (no, 10)
  | [], acc, _, h1, hf => by
    exfalso
    have : (allMean l []).size = 0 := rfl
    omega
  | t :: ts, acc, h, h1, hf => by
    have hs : (allMean l (t :: ts)).size = (means l t).size + (allMean l ts).size := ByteArray.size_append
    rw [hs] at hf
    rw [meanGo_cons, if_neg (h t (by simp))]
    by_cases hc : max most 0 - (acc.size : Int) < ((means l t).size : Int)
    · rw [if_pos hc]
    · rw [if_neg hc]
      exact go_long l most ts (acc ++ means l t) (fun x hx => h x (by simp [hx])) (by rw [ByteArray.size_append]; omega) (by rw [ByteArray.size_append]; omega)
theorem go_none (l : List ByteArray) (most : Int) (h40 : ∀ s ∈ l, s.size ≤ 40) : ∀ (ts : List Int) (acc : ByteArray), ¬ allTok l ts → (acc.size : Int) + 40 * ts.length ≤ max most 0 → meanGo l most acc ts = (no, 9)
  | [], acc, h, _ => absurd (fun t ht => by simp at ht) h
  | t :: ts, acc, h, hf => by
    rw [meanGo_cons]
    by_cases h0 : (means l t).size = 0
    · rw [if_pos h0]
    · have := mean_le l h40 t
      simp only [List.length_cons] at hf
      rw [if_neg h0, if_neg (by omega)]
      refine go_none l most h40 ts _ (fun ha => h (fun x hx => ?_)) (by rw [ByteArray.size_append]; omega)
      rcases List.mem_cons.1 hx with rfl | hx
      · exact h0
      · exact ha x hx
theorem allTok_append (l : List ByteArray) (a b : List Int) : allTok l (a ++ b) ↔ allTok l a ∧ allTok l b := by
  constructor
  · intro h
    exact ⟨fun t ht => h t (List.mem_append_left _ ht), fun t ht => h t (List.mem_append_right _ ht)⟩
  · rintro ⟨h1, h2⟩ t ht
    rcases List.mem_append.1 ht with ht | ht
    · exact h1 t ht
    · exact h2 t ht

theorem isTok_size {l : List ByteArray} (h : okTexts l) (t : Int) : isTok l t = decide ((means l t).size ≠ 0) := by
  unfold isTok
  by_cases h0 : 0 ≤ t ∧ t < 256 + (l.length : Int)
  · rw [decide_eq_true h0]
    refine (decide_eq_true ?_).symm
    obtain ⟨t0, t1⟩ := h0
    by_cases h1 : t < 256
    · obtain ⟨k, rfl⟩ := Int.eq_ofNat_of_zero_le t0
      rw [means_byte l k (by omega)]
      show (1 : Nat) ≠ 0
      decide
    · obtain ⟨k, hk⟩ := Int.eq_ofNat_of_zero_le (by omega : 0 ≤ t - 256)
      obtain rfl : t = 256 + (k : Int) := by omega
      rw [means_phrase l k (by omega)]
      exact (h.2 k (by omega)).1
  · rw [decide_eq_false h0, means_past l t (by omega)]
    rfl
set_option maxRecDepth 100000 in
theorem ref_means (A : Option Addr) (c : Nat) (l : List ByteArray) (t : Int) (w : World) (h : KS.C w A l.length l) (h100 : l.length ≤ 100) (ht : -(2 ^ 63) ≤ t ∧ t < 2 ^ 63) :
    Calls Try.prog 62 #[.slice A l.length c, .int .i64 t] w fun e w' => e = .returned (.tuple #[.string (means l t), .bool (isTok l t)]) ∧ Below w.heap.size w w' := by
  have H := Lib.hid h
  clear h
  have s1 : wrap64 (256 + (l.length : Int)) = 256 + (l.length : Int) := by unfold wrap64; omega
  by_cases h0 : t < 0
  · have hm := Lib.hid (means_past l t (.inl h0))
    have hi := Lib.hid (show isTok l t = false from decide_eq_false (by omega))
    go_enter Try.func62, Try.ntmps62
    go_wp2_with (fail)
    go_ret2
    rw [hm.out, hi.out]
    exact ⟨rfl, Below.refl _ _⟩
  · by_cases h1 : 256 + (l.length : Int) ≤ t
    · have hm := Lib.hid (means_past l t (.inr h1))
      have hi := Lib.hid (show isTok l t = false from decide_eq_false (by omega))
      have h00 : 0 ≤ t := by omega
      clear h0
      go_enter Try.func62, Try.ntmps62
      go_wp2_with (fail)
      go_ret2
      rw [hm.out, hi.out]
      exact ⟨rfl, Below.refl _ _⟩
    · have hi := Lib.hid (show isTok l t = true from decide_eq_true ⟨by omega, by omega⟩)
      obtain ⟨k, rfl⟩ := Int.eq_ofNat_of_zero_le (by omega : 0 ≤ t)
      have h2 : (k : Int) < 256 + (l.length : Int) := by omega
      have h00 : (0 : Int) ≤ (k : Int) := by omega
      clear h0 h1
      by_cases h256 : k < 256
      · have hm := Lib.hid (means_byte l k h256)
        have h256i : (k : Int) < 256 := by omega
        have hw : IntKind.u8.wrap (k : Int) = k := by simp [IntKind.wrap, IntKind.bits, IntKind.signed]; omega
        have hcv : (convert 111 9 (.slice (some ⟨w.heap.size, 0, none⟩) 1 1)).run Try.prog (w.alloc (.cells #[.int .u8 k] 5)) = .ok (.string ⟨#[UInt8.ofNat k]⟩) (w.alloc (.cells #[.int .u8 k] 5)) :=
          own_string (P := Try.prog) (base := w.heap.size) (n := 1) (e' := 5) (xs := [(k : Int)]) Try.underlying111 Try.underlying5 Try.underlying9 ⟨rfl, .inr ⟨w.heap.size, 1, #[.int .u8 k], rfl, Nat.le_refl _, heap_alloc_new w _, Nat.le_refl _, by decide, rfl, rfl⟩⟩
        clear h256
        go_enter Try.func62, Try.ntmps62
        go_wp2_with (fail)
        go_ret2
        rw [hm.out, hi.out]
        exact ⟨rfl, (Below.refl _ w).alloc (Nat.le_refl _) _⟩
      · obtain ⟨j, rfl⟩ : ∃ j, k = 256 + j := ⟨k - 256, by omega⟩
        have hm := Lib.hid (show means l ((256 + j : Nat) : Int) = l.getD j no by rw [show ((256 + j : Nat) : Int) = 256 + (j : Int) by omega]; exact means_phrase l j (by omega))
        obtain ⟨ad, rfl, x0⟩ := strs_at H.out j (by omega)
        obtain ⟨x, hx⟩ : ∃ x, l.getD j no = x := ⟨_, rfl⟩
        rw [hx] at x0 hm
        have e1 : ((256 + j : Nat) : Int) = 256 + (j : Int) := by omega
        have hi2 := hi.out
        rw [e1] at hi2
        have hm2 := hm.out
        rw [e1] at hm2
        rw [e1]
        have HI := Lib.hid hi2
        have HM := Lib.hid hm2
        have i1 : (j : Int) < (l.length : Int) := by omega
        have i2 : ((j : Int)).toNat = j := by omega
        have i0 : (0 : Int) ≤ (j : Int) := by omega
        have s2 : wrap64 (256 + (j : Int) - 256) = j := by unfold wrap64; omega
        have s3 : (256 : Int) + (j : Int) - 256 = j := by omega
        have g1 : (256 : Int) ≤ 256 + (j : Int) := by omega
        have g2 : (256 : Int) + (j : Int) < 256 + (l.length : Int) := by omega
        have g3 : (0 : Int) ≤ 256 + (j : Int) := by omega
        clear hx e1 hi hm hi2 hm2 h256 h2 h00
        go_enter Try.func62, Try.ntmps62
        go_wp2_with (fail)
        go_ret2
        rw [HI.out, HM.out]
        exact ⟨rfl, Below.refl _ _⟩
set_option maxRecDepth 100000 in
set_option maxHeartbeats 1000000 in
theorem ref_mean (A B : Option Addr) (c m c' : Nat) (l : List ByteArray) (most : Int) (ts : List Int) (w : World) (h : KS.C w A l.length l) (hok : okTexts l) (hl : KI.C w B m ts) (hwf : ∀ t ∈ ts, -(2 ^ 63) ≤ t ∧ t < 2 ^ 63) (hm : ts.length ≤ 1000000) (hmost : -(2 ^ 63) ≤ most ∧ most < 2 ^ 63) :
    Calls Try.prog 28 #[.slice A l.length c, .int .i64 most, .slice B m c'] w fun e w' => e = .returned (.tuple #[.string (meanGo l most no ts).1, .int .i64 (meanGo l most no ts).2]) ∧ Below w.heap.size w w' := by
  have H := Lib.hid h
  have HL := Lib.hid hl
  have HOK := Lib.hid hok
  have H100 := Lib.hid hok.1
  have H40 := Lib.hid (okTexts_40 hok)
  have HWF := Lib.hid hwf
  have HMM := Lib.hid hmost
  have hml := ki_len hl
  clear h hl hwf hmost hok
  subst hml
  go_enter Try.func28, Try.ntmps28
  go_wp2_with (fail)
  go_loopg [8, 9] ts.length (fun j v i wr => ∃ k : Nat, k + j = ts.length ∧ i = .int .i64 k ∧ ∃ acc : ByteArray, v = .string acc ∧ Hid (acc.size ≤ 40 * k ∧ meanGo l most no ts = meanGo l most acc (ts.drop k) ∧ Below w.heap.size w wr))
  case atStart => exact ⟨0, by omega, rfl, no, rfl, Nat.le_refl _, rfl, Below.refl _ _⟩
  case round =>
    obtain ⟨k, hk, rfl, acc, rfl, HI⟩ := hrel
    obtain ⟨hacc, hgo, hb⟩ := HI.out
    by_cases hlt : k < ts.length
    · obtain ⟨ad, rfl, x0⟩ := ints_at (Kd.C_below HL.out hb) k hlt
      have hdr : ts.drop k = ts.getD k 0 :: ts.drop (k + 1) := by
        rw [List.drop_eq_getElem_cons hlt, List.getD_eq_getElem?_getD, List.getElem?_eq_getElem hlt]
        rfl
      have htm : ts.getD k 0 ∈ ts := by
        rw [List.getD_eq_getElem?_getD, List.getElem?_eq_getElem hlt]
        exact List.getElem_mem hlt
      obtain ⟨t, ht⟩ : ∃ t, ts.getD k 0 = t := ⟨_, rfl⟩
      rw [ht] at x0 hdr htm
      have hs40 := mean_le l H40.out t
      have hits := isTok_size HOK.out t
      rw [hdr, meanGo_cons] at hgo
      have i0 : (0 : Int) ≤ k := by omega
      have i1 : (k : Int) < (ts.length : Int) := by omega
      have i2 : ((k : Int)).toNat = k := by omega
      have HTW := Lib.hid (HWF.out t htm)
      have HGO := Lib.hid hgo
      have HB := Lib.hid hb
      have HACC := Lib.hid hacc
      have HIT := Lib.hid hits
      clear hgo hb HI hdr ht htm hits
      go_wp2_with (fail)
      refine (ref_means _ _ l t _ (Kd.C_below H.out HB.out) H100.out HTW.out).mono ?_
      rintro e w1 ⟨rfl, hb1⟩
      rw [HIT.out]
      obtain ⟨s, hs⟩ : ∃ s, means l t = s := ⟨_, rfl⟩
      have hgo := HGO.out
      rw [hs] at hgo hs40 ⊢
      have HB1 := Lib.hid (Ints.bel_trans HB.out HB.out.size hb1)
      by_cases h0 : s.size = 0
      · rw [if_pos h0] at hgo
        rw [decide_eq_false (by simpa using h0)]
        have HG := Lib.hid hgo
        clear hgo hb1 hs h0 hs40 hacc
        go_wp2_with (fail)
        go_ret2
        rw [HG.out]
        exact ⟨rfl, HB1.out⟩
      · rw [if_neg h0] at hgo
        rw [decide_eq_true h0]
        obtain ⟨M, hM⟩ : ∃ M, max most 0 = M := ⟨_, rfl⟩
        have hmx : (if most < 0 then (0 : Int) else most) = M := by rw [max_pos, hM]
        rw [hM] at hgo
        have HACC2 := Lib.hid (show (acc ++ s).size ≤ 40 * (k + 1) by rw [ByteArray.size_append]; omega)
        have hacc2 : (acc.size : Int) + (s.size : Int) ≤ 40000040 := by omega
        clear hb1 hs h0 hs40 hM
        by_cases h1 : M - (acc.size : Int) < (s.size : Int)
        · rw [if_pos h1] at hgo
          have HG := Lib.hid hgo
          have h1i : M < (acc.size : Int) + (s.size : Int) := by omega
          clear hgo h1 hacc
          go_wp2_with (fail)
          go_ret2
          rw [HG.out]
          exact ⟨rfl, HB1.out⟩
        · rw [if_neg h1] at hgo
          have HG := Lib.hid hgo
          have h1i : (acc.size : Int) + (s.size : Int) ≤ M := by omega
          clear hgo h1 hacc
          go_wp2_with (fail)
          go_roundg (ts.length - (k + 1))
          case measure => omega
          case rel => exact ⟨k + 1, by omega, by go_num, acc ++ s, rfl, HACC2.out, HG.out, HB1.out⟩
    · obtain rfl : k = ts.length := by omega
      rw [List.drop_length] at hgo
      have HG := Lib.hid hgo
      have HB1 := Lib.hid hb
      clear hgo hb hacc HI
      go_wp2_with (fail)
      go_ret2
      rw [HG.out]
      exact ⟨rfl, HB1.out⟩

/-! ### Says -/
/-- Do tokens mean these bytes? -/
def says (l : List ByteArray) (ts : List Int) (b : ByteArray) : Bool := decide ((meanGo l (b.size : Int) no ts).2 = 0 ∧ (meanGo l (b.size : Int) no ts).1 = b)
theorem says_of {l : List ByteArray} {ts : List Int} {b : ByteArray} (h : allTok l ts) (hm : allMean l ts = b) : says l ts b = true := by
  have := go_fits l (b.size : Int) ts no h (by rw [hm]; show ((0 : Nat) : Int) + _ ≤ _; omega)
  unfold says
  rw [this, no_append, hm]
  exact decide_eq_true ⟨rfl, rfl⟩
set_option maxRecDepth 100000 in
theorem says_any (A B : Option Addr) (c m c' : Nat) (l : List ByteArray) (ts : List Int) (b : ByteArray) (w : World) (h : KS.C w A l.length l) (hok : okTexts l) (hl : KI.C w B m ts) (hwf : ∀ t ∈ ts, -(2 ^ 63) ≤ t ∧ t < 2 ^ 63) (hm : ts.length ≤ 1000000) (hb : b.size ≤ 1000000) :
    Calls Try.prog 22 #[.slice A l.length c, .slice B m c', .string b] w fun e w' => e = .returned (.bool (says l ts b)) ∧ Below w.heap.size w w' := by
  have H := Lib.hid h
  have HL := Lib.hid hl
  have HOK := Lib.hid hok
  have HWF := Lib.hid hwf
  obtain ⟨s, hs⟩ : ∃ s, (meanGo l (b.size : Int) no ts).1 = s := ⟨_, rfl⟩
  obtain ⟨x, hx⟩ : ∃ x, (meanGo l (b.size : Int) no ts).2 = x := ⟨_, rfl⟩
  have hsy : says l ts b = decide (x = 0 ∧ s = b) := by unfold says; rw [hs, hx]
  have HSY := Lib.hid hsy
  have HS := Lib.hid hs
  have HX := Lib.hid hx
  clear h hl hwf hok hs hx hsy
  go_enter Try.func22, Try.ntmps22
  go_wp2_with (fail)
  refine (ref_mean _ _ _ _ _ l (b.size : Int) ts _ H.out HOK.out HL.out HWF.out hm (by omega)).mono ?_
  rintro e w1 ⟨rfl, hb1⟩
  rw [HS.out, HX.out]
  have HB := Lib.hid hb1
  clear hb1
  by_cases h0 : x = 0
  · subst h0
    by_cases h1 : s = b
    · subst h1
      have e1 : (s.toList == s.toList) = true := by simp
      have HR := Lib.hid (show says l ts s = true by rw [HSY.out]; exact decide_eq_true ⟨rfl, rfl⟩)
      go_wp2_with (fail)
      go_ret
      rw [HR.out]
      exact ⟨rfl, HB.out⟩
    · have e1 : (s.toList == b.toList) = false := (Lib.bytes_beq_false_iff _ _).2 h1
      have HR := Lib.hid (show says l ts b = false by rw [HSY.out]; exact decide_eq_false (fun h => h1 h.2))
      clear h1
      go_wp2_with (fail)
      go_ret
      rw [HR.out]
      exact ⟨rfl, HB.out⟩
  · have e1 : (x == 0) = false := by simpa using h0
    have HR := Lib.hid (show says l ts b = false by rw [HSY.out]; exact decide_eq_false (fun h => h0 h.1))
    clear h0
    go_wp2_with (fail)
    go_ret
    rw [HR.out]
    exact ⟨rfl, HB.out⟩
end Go.Proofs.Ytfiflloieojgbaa.Say
