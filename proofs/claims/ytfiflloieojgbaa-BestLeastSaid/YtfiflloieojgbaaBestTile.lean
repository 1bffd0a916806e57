/- Chapter 15: paths and tokens that mean these bytes; windows: in plain Lean. -/
import Derived.Test.YtfiflloieojgbaaBestUse
import Derived.Test.YtfiflloieojgbaaSays
namespace Go.Proofs.Ytfiflloieojgbaa.Best
set_option linter.unusedVariables false
set_option linter.unusedSimpArgs false
open Go.RowKit Go.Proofs.YtfiflloieojgbaaW.PrintWords Go.Proofs.YtfiflloieojgbaaW.PrintMore Go.Proofs.Ytfiflloieojgbaa.L Go.Proofs.Ytfiflloieojgbaa.Texts Go.Proofs.Ytfiflloieojgbaa.Dict Go.Proofs.Ytfiflloieojgbaa.Ints Go.Proofs.Ytfiflloieojgbaa.Greedy Go.Proofs.Ytfiflloieojgbaa.Cost Go.Proofs.Ytfiflloieojgbaa.Fl Go.Proofs.Ytfiflloieojgbaa.Say

def csum (ts : List Int) : Cst := (sumT ts, sumB ts)
theorem csum_cons (t : Int) (ts : List Int) : csum (t :: ts) = add (oc t) (csum ts) := by
  unfold csum add oc
  have h1 := sumT_append [t] ts
  have h2 := sumB_append [t] ts
  rw [List.singleton_append] at h1 h2
  rw [h1, h2, show sumT [t] = cT t by simp [sumT], show sumB [t] = 8 * vlen t by simp [sumB]]
theorem csum_append (a b : List Int) : csum (a ++ b) = add (csum a) (csum b) := by
  unfold csum add
  rw [sumT_append, sumB_append]
theorem sum_map : ∀ ss : List Stp, sum oc ss = csum (ss.map Prod.fst)
  | [] => rfl
  | s :: ss => by
    rw [List.map_cons, csum_cons, ← sum_map ss]
    rfl
/-- Do tokens mean these bytes? -/
def Tiles (l : List ByteArray) (s : ByteArray) (ts : List Int) : Prop := allTok l ts ∧ allMean l ts = s
theorem join_ext (s : ByteArray) (a m n : Nat) (h1 : a ≤ m) (h2 : m ≤ n) : s.extract a m ++ s.extract m n = s.extract a n := by
  apply ByteArray.ext
  rw [ByteArray.data_append, ByteArray.data_extract, ByteArray.data_extract, ByteArray.data_extract, Array.extract_append_extract, Nat.min_eq_left h1, Nat.max_eq_right h2]
theorem ext_left (x y : ByteArray) : (x ++ y).extract 0 x.size = x := ByteArray.extract_append_eq_left rfl
theorem ext_right (x y : ByteArray) : (x ++ y).extract x.size (x ++ y).size = y := ByteArray.extract_append_eq_right rfl (by rw [ByteArray.size_append])
theorem byteAt_ext (s : ByteArray) (a m i : Nat) (h : a + i < m) (hm : m ≤ s.size) : byteAt (s.extract a m) i = byteAt s (a + i) := by
  unfold byteAt
  have hs : s.data.size = s.size := rfl
  rw [ByteArray.data_extract, List.getD_eq_getElem?_getD, List.getD_eq_getElem?_getD, Array.getElem?_toList, Array.getElem?_toList, Array.getElem?_extract, if_pos (by omega)]
theorem byteAt_app (x y : ByteArray) (i : Nat) (h : i < x.size) : byteAt (x ++ y) i = byteAt x i := byteAt_more x y i h
/-- Of a step the token means what it takes. -/
theorem step_means {l : List ByteArray} (hok : okTexts l) {s : ByteArray} {a : Nat} (ha : a < s.size) {x : Stp} (hx : x ∈ steps l s a) : means l x.1 = s.extract a (a + x.2) ∧ (means l x.1).size = x.2 ∧ 1 ≤ x.2 ∧ a + x.2 ≤ s.size := by
  have hf := steps_fit hok ha hx
  have hm : means l x.1 = s.extract a (a + x.2) := by
    rcases List.mem_append.1 hx with h | h
    · obtain ⟨j, h1, h2, rfl⟩ := (phr_mem l s a x _).1 h
      have h3 := (stands_iff l s a j (by omega)).1 h2
      show means l (256 + (j : Int)) = _
      rw [means_phrase l j h1]
      exact h3.2.symm
    · rw [List.mem_singleton] at h
      subst h
      have hb := byteAt_lt s a
      obtain ⟨c, hc⟩ := Int.eq_ofNat_of_zero_le hb.1
      show means l (byteAt s a) = s.extract a (a + 1)
      have hp := piece_one s a ha
      unfold piece at hp
      rw [hp, hc, means_byte l c (by omega), Int.toNat_natCast]
  refine ⟨hm, ?_, hf.1, by omega⟩
  rw [hm, ByteArray.size_extract]
  omega
theorem path_tiles {l : List ByteArray} (hok : okTexts l) {s : ByteArray} : ∀ (ss : List Stp) (a : Nat), a ≤ s.size → Path (stq l s) (s.size - a) ss → Tiles l (s.extract a s.size) (ss.map Prod.fst)
  | [], a, ha, h => by
    have h : s.size - a = 0 := h
    refine ⟨fun t ht => by simp at ht, ?_⟩
    show no = _
    exact (empty_of (by rw [ByteArray.size_extract]; omega)).symm
  | x :: ss, a, ha, h => by
    have h1 := h.1
    unfold stq at h1
    by_cases h0 : s.size - a = 0
    · rw [if_pos h0] at h1
      simp at h1
    · rw [if_neg h0, show s.size - (s.size - a) = a by omega] at h1
      obtain ⟨g1, g2, g3, g4⟩ := step_means hok (by omega) h1
      have h2 := path_tiles hok ss (a + x.2) g4 (by rw [show s.size - (a + x.2) = s.size - a - x.2 by omega]; exact h.2)
      refine ⟨fun t ht => ?_, ?_⟩
      · rw [List.map_cons] at ht
        rcases List.mem_cons.1 ht with rfl | ht
        · omega
        · exact h2.1 t ht
      · show means l x.1 ++ allMean l (ss.map Prod.fst) = _
        rw [g1, h2.2, join_ext s a _ _ (by omega) g4]
theorem tiles_path {l : List ByteArray} (hok : okTexts l) {s : ByteArray} : ∀ (ts : List Int) (a : Nat), a ≤ s.size → Tiles l (s.extract a s.size) ts → ∃ ss : List Stp, ss.map Prod.fst = ts ∧ Path (stq l s) (s.size - a) ss
  | [], a, ha, h => by
    refine ⟨[], rfl, ?_⟩
    have := congrArg ByteArray.size h.2
    rw [ByteArray.size_extract] at this
    have h0 : (allMean l []).size = 0 := rfl
    show s.size - a = 0
    omega
  | t :: ts, a, ha, h => by
    obtain ⟨h1, h2⟩ := h
    have h2 : means l t ++ allMean l ts = s.extract a s.size := h2
    have hn := h1 t List.mem_cons_self
    obtain ⟨n, hnn⟩ : ∃ n, (means l t).size = n := ⟨_, rfl⟩
    have hsz := congrArg ByteArray.size h2
    rw [ByteArray.size_append, ByteArray.size_extract, hnn] at hsz
    rw [hnn] at hn
    have hl : means l t = s.extract a (a + n) := by
      have := ext_left (means l t) (allMean l ts)
      rw [h2, ByteArray.extract_extract, hnn, show min (a + n) s.size = a + n by omega, Nat.add_zero] at this
      exact this.symm
    have hr : allMean l ts = s.extract (a + n) s.size := by
      have := ext_right (means l t) (allMean l ts)
      rw [h2, ByteArray.extract_extract, ByteArray.size_extract, hnn, show min (a + (min s.size s.size - a)) s.size = s.size by omega] at this
      exact this.symm
    obtain ⟨ss, g1, g2⟩ := tiles_path hok ts (a + n) (by omega) ⟨fun x hx => h1 x (List.mem_cons_of_mem _ hx), hr⟩
    refine ⟨(t, n) :: ss, by rw [List.map_cons, g1], ?_, by rw [show s.size - a - ((t, n) : Stp).2 = s.size - (a + n) by simp only; omega]; exact g2⟩
    unfold stq
    rw [if_neg (by omega), show s.size - (s.size - a) = a by omega]
    unfold steps
    rw [List.mem_append]
    by_cases h0 : t < 0 ∨ 256 + (l.length : Int) ≤ t
    · exfalso
      rw [means_past l t h0] at hnn
      have : no.size = 0 := rfl
      omega
    · by_cases h256 : t < 256
      · right
        obtain ⟨c, rfl⟩ := Int.eq_ofNat_of_zero_le (by omega : 0 ≤ t)
        have hc : c < 256 := by omega
        have hm := means_byte l c hc
        rw [hm] at hnn hl
        have hn1 : n = 1 := hnn.symm
        subst hn1
        have hb : byteAt (s.extract a (a + 1)) 0 = byteAt s a := byteAt_ext s a (a + 1) 0 (by omega) (by omega)
        rw [← hl] at hb
        have hb2 : byteAt (⟨#[UInt8.ofNat c]⟩ : ByteArray) 0 = (c : Int) := by
          show (((UInt8.ofNat c).toNat : Nat) : Int) = c
          rw [UInt8.toNat_ofNat']
          omega
        rw [List.mem_singleton, ← hb, hb2]
      · left
        obtain ⟨k, hk⟩ := Int.eq_ofNat_of_zero_le (by omega : 0 ≤ t - 256)
        obtain rfl : t = 256 + (k : Int) := by omega
        have hkl : k < l.length := by omega
        have hm := means_phrase l k hkl
        rw [hm] at hnn hl
        refine (phr_mem l s a _ _).2 ⟨k, hkl, (stands_iff l s a k (by omega)).2 ⟨by omega, ?_⟩, by rw [hnn]⟩
        unfold piece
        rw [hnn]
        exact hl.symm
/-- The tokens of a piece mean it; they cost what is said; none that mean it cost less, none are fewer. -/
theorem toks_tiles {l : List ByteArray} (hok : okTexts l) {s : ByteArray} (hs : s.size ≤ 1024) : Tiles l s (toks l s 0) ∧ csum (toks l s 0) = VV l s 0 := by
  have h := stps_path hok hs 0
  refine ⟨?_, ?_⟩
  · have := path_tiles hok (stps l s 0) 0 (Nat.zero_le _) h.1
    rwa [ext_all s s.size (Nat.le_refl _)] at this
  · rw [toks_eq, ← sum_map, h.2]
theorem toks_least {l : List ByteArray} (hok : okTexts l) {s : ByteArray} (hs : s.size ≤ 1024) {ts : List Int} (h : Tiles l s ts) : (toks l s 0).length ≤ ts.length ∧ ¬ lt (csum ts) (csum (toks l s 0)) := by
  obtain ⟨ss, h1, h2⟩ := tiles_path hok ts 0 (Nat.zero_le _) (by rwa [ext_all s s.size (Nat.le_refl _)])
  have h3 := no_shorter hok hs 0 ss h2
  rw [sum_map, h1] at h3
  rw [(toks_tiles hok hs).2]
  refine ⟨?_, h3.2⟩
  rw [← h1, List.length_map]
  exact h3.1
theorem tiles_append {l : List ByteArray} {x y : ByteArray} {a b : List Int} (h1 : Tiles l x a) (h2 : Tiles l y b) : Tiles l (x ++ y) (a ++ b) :=
  ⟨(allTok_append l a b).2 ⟨h1.1, h2.1⟩, by rw [allMean_append, h1.2, h2.2]⟩
theorem best_tiles {l : List ByteArray} (hok : okTexts l) {win : Nat} (hw : 1 ≤ win) : ∀ (n : Nat) (c : ByteArray), c.size ≤ n → c.size ≤ 1024 → Tiles l c (best l win c)
  | 0, c, h, _ => by
    rw [best_end _ _ _ (by omega), empty_of (s := c) (by omega)]
    exact ⟨fun t ht => by simp at ht, rfl⟩
  | n + 1, c, h, h1 => by
    by_cases h0 : c.size = 0
    · rw [best_end _ _ _ h0, empty_of h0]
      exact ⟨fun t ht => by simp at ht, rfl⟩
    · have hz := ext_size c (min win c.size) (by omega)
      have h2 := (toks_tiles hok (s := c.extract 0 (min win c.size)) (by omega)).1
      have h3 := best_tiles hok hw n (c.extract (min win c.size) c.size) (by omega) (by omega)
      rw [best_step l win hw c h0]
      have := tiles_append h2 h3
      rwa [join_ext c 0 _ _ (Nat.zero_le _) (by omega), ext_all c c.size (Nat.le_refl _)] at this
/-! ### windows -/
theorem best_split {l : List ByteArray} {w : Nat} (hw : 1 ≤ w) : ∀ (k : Nat) (c : ByteArray), k * w ≤ c.size → best l w c = best l w (c.extract 0 (k * w)) ++ best l w (c.extract (k * w) c.size)
  | 0, c, h => by
    rw [Nat.zero_mul, best_end l w (c.extract 0 0) (by rw [ByteArray.size_extract]; omega), List.nil_append, ext_all c c.size (Nat.le_refl _)]
  | k + 1, c, h => by
    have hm : (k + 1) * w = k * w + w := Nat.succ_mul k w
    rw [hm] at h ⊢
    generalize hkw : k * w = m at h ⊢
    have z1 := ext_size c w (by omega)
    have z2 := ext_size c (m + w) (by omega)
    have ih := best_split (l := l) hw k (c.extract w c.size) (by omega)
    rw [hkw, z1.2, ByteArray.extract_extract, ByteArray.extract_extract] at ih
    rw [best_step l w hw c (by omega), show min w c.size = w by omega, ih, best_step l w hw (c.extract 0 (m + w)) (by omega), z2.1, show min w (m + w) = w by omega, ByteArray.extract_extract, ByteArray.extract_extract, List.append_assoc]
    rw [show min (0 + w) (m + w) = w by omega, show min (0 + (m + w)) (m + w) = m + w by omega, Nat.zero_add, Nat.add_zero, show min (w + m) c.size = m + w by omega, show min (w + (c.size - w)) c.size = c.size by omega, Nat.add_comm w m, Nat.zero_add]
theorem lt_add {a b c d : Cst} (h1 : ¬ lt a b) (h2 : ¬ lt c d) : ¬ lt (add a c) (add b d) := by unfold lt add at *; simp only; omega
theorem windows {l : List ByteArray} (hok : okTexts l) {w t : Nat} (hw : 1 ≤ w) (ht : 1 ≤ t) : ∀ (n : Nat) (c : ByteArray), c.size ≤ n → c.size ≤ 1024 → (best l (w * t) c).length ≤ (best l w c).length ∧ ¬ lt (csum (best l w c)) (csum (best l (w * t) c))
  | n, c, h, h1 => by
    have hwt : 1 ≤ w * t := Nat.mul_pos hw ht
    by_cases hc : c.size ≤ w * t
    · rw [best_one hwt hc]
      exact toks_least hok h1 (best_tiles hok hw c.size c (Nat.le_refl _) h1)
    · match n with
      | 0 => exact absurd h (by omega)
      | n + 1 =>
        have hz := ext_size c (w * t) (by omega)
        have ih := windows hok hw ht n (c.extract (w * t) c.size) (by omega) (by omega)
        have hs := best_split (l := l) hw t c (by rw [Nat.mul_comm]; omega)
        rw [Nat.mul_comm t w] at hs
        have h2 := toks_least hok (s := c.extract 0 (w * t)) (by omega) (best_tiles hok hw _ (c.extract 0 (w * t)) (Nat.le_refl _) (by omega))
        rw [hs, best_step l (w * t) hwt c (by omega), show min (w * t) c.size = w * t by omega, List.length_append, List.length_append, csum_append, csum_append]
        exact ⟨by omega, lt_add h2.2 ih.2⟩
/-- Of tokens: how many, how great. -/
theorem tiles_few {l : List ByteArray} (h100 : l.length ≤ 100) {s : ByteArray} : ∀ (ts : List Int), Tiles l s ts → ts.length ≤ s.size ∧ ∀ t ∈ ts, -(2 ^ 63) ≤ t ∧ t < 2 ^ 63 := by
  intro ts
  induction ts generalizing s with
  | nil => exact fun _ => ⟨Nat.zero_le _, fun t ht => by simp at ht⟩
  | cons x ts ih =>
    rintro ⟨h1, h2⟩
    have hx := h1 x List.mem_cons_self
    have h3 := ih (s := allMean l ts) ⟨fun t ht => h1 t (List.mem_cons_of_mem _ ht), rfl⟩
    have h4 : (means l x ++ allMean l ts).size = s.size := by rw [← h2]; rfl
    rw [ByteArray.size_append] at h4
    refine ⟨by rw [List.length_cons]; omega, fun t ht => ?_⟩
    rcases List.mem_cons.1 ht with rfl | ht
    · by_cases h0 : t < 0 ∨ 256 + (l.length : Int) ≤ t
      · rw [means_past l t h0] at hx
        exact absurd rfl hx
      · omega
    · exact h3.2 t ht
end Go.Proofs.Ytfiflloieojgbaa.Best
