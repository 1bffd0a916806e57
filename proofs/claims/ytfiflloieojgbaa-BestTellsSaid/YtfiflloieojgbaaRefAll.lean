import Derived.Test.YtfiflloieojgbaaBestUse
import Derived.Test.YtfiflloieojgbaaSays
import Derived.Test.YtfiflloieojgbaaRefParse
import Derived.Test.YtfiflloieojgbaaPBestTellsx5
import Derived.Deep.RegionHeld3
namespace Go.Proofs.Ytfiflloieojgbaa.Best
set_option linter.unusedVariables false
set_option linter.unusedSimpArgs false
open Go.RowKit Go.Proofs.YtfiflloieojgbaaW.PrintWords Go.Proofs.YtfiflloieojgbaaW.PrintMore Go.Proofs.Ytfiflloieojgbaa.L Go.Proofs.Ytfiflloieojgbaa.Texts Go.Proofs.Ytfiflloieojgbaa.Dict Go.Proofs.Ytfiflloieojgbaa.Ints Go.Proofs.Ytfiflloieojgbaa.Greedy Go.Proofs.Ytfiflloieojgbaa.Cost Go.Proofs.Ytfiflloieojgbaa.Fl Go.Proofs.Ytfiflloieojgbaa.Say

def csum (ts : List Int) : Cst := (sumT ts, sumB ts)
theorem csum_cons (t : Int) (ts : List Int) : csum (t :: ts) = add (oc t) (csum ts) := by
  unfold csum add oc
  have h1 := sumT_append [t] ts
  have h2 := sumB_append [t] ts
  rw [List.singleton_append] at h1 h2
  rw [h1, h2, show sumT [t] = cT t by simp [sumT], show sumB [t] = 8 * vlen t by simp [sumB]]
theorem csum_append (a b : List Int) : csum (a ++ b) = add (csum a) (csum b) := by
  unfold csum add
  rw [sumT_append, sumB_append]
theorem sum_map : ∀ ss : List Stp, sum oc ss = csum (ss.map Prod.fst)
  | [] => rfl
  | s :: ss => by
    rw [List.map_cons, csum_cons, ← sum_map ss]
    rfl
/-- Do tokens mean these bytes? -/
def Tiles (l : List ByteArray) (s : ByteArray) (ts : List Int) : Prop := allTok l ts ∧ allMean l ts = s
theorem join_ext (s : ByteArray) (a m n : Nat) (h1 : a ≤ m) (h2 : m ≤ n) : s.extract a m ++ s.extract m n = s.extract a n := by
  apply ByteArray.ext
  rw [ByteArray.data_append, ByteArray.data_extract, ByteArray.data_extract, ByteArray.data_extract, Array.extract_append_extract, Nat.min_eq_left h1, Nat.max_eq_right h2]
theorem ext_left (x y : ByteArray) : (x ++ y).extract 0 x.size = x := ByteArray.extract_append_eq_left rfl
theorem ext_right (x y : ByteArray) : (x ++ y).extract x.size (x ++ y).size = y := ByteArray.extract_append_eq_right rfl (by rw [ByteArray.size_append])
theorem byteAt_ext (s : ByteArray) (a m i : Nat) (h : a + i < m) (hm : m ≤ s.size) : byteAt (s.extract a m) i = byteAt s (a + i) := by
  unfold byteAt
  have hs : s.data.size = s.size := rfl
  rw [ByteArray.data_extract, List.getD_eq_getElem?_getD, List.getD_eq_getElem?_getD, Array.getElem?_toList, Array.getElem?_toList, Array.getElem?_extract, if_pos (by omega)]
theorem byteAt_app (x y : ByteArray) (i : Nat) (h : i < x.size) : byteAt (x ++ y) i = byteAt x i := byteAt_more x y i h
/-- Of a step the token means what it takes. -/
theorem step_means {l : List ByteArray} (hok : okTexts l) {s : ByteArray} {a : Nat} (ha : a < s.size) {x : Stp} (hx : x ∈ steps l s a) : means l x.1 = s.extract a (a + x.2) ∧ (means l x.1).size = x.2 ∧ 1 ≤ x.2 ∧ a + x.2 ≤ s.size := by
  have hf := steps_fit hok ha hx
  have hm : means l x.1 = s.extract a (a + x.2) := by
    rcases List.mem_append.1 hx with h | h
    · obtain ⟨j, h1, h2, rfl⟩ := (phr_mem l s a x _).1 h
      have h3 := (stands_iff l s a j (by omega)).1 h2
      show means l (256 + (j : Int)) = _
      rw [means_phrase l j h1]
      exact h3.2.symm
    · rw [List.mem_singleton] at h
      subst h
      have hb := byteAt_lt s a
      obtain ⟨c, hc⟩ := Int.eq_ofNat_of_zero_le hb.1
      show means l (byteAt s a) = s.extract a (a + 1)
      have hp := piece_one s a ha
      unfold piece at hp
      rw [hp, hc, means_byte l c (by omega), Int.toNat_natCast]
  refine ⟨hm, ?_, hf.1, by omega⟩
  rw [hm, ByteArray.size_extract]
  omega
theorem path_tiles {l : List ByteArray} (hok : okTexts l) {s : ByteArray} : ∀ (ss : List Stp) (a : Nat), a ≤ s.size → Path (stq l s) (s.size - a) ss → Tiles l (s.extract a s.size) (ss.map Prod.fst)
  | [], a, ha, h => by
    have h : s.size - a = 0 := h
    refine ⟨fun t ht => by simp at ht, ?_⟩
    show no = _
    exact (empty_of (by rw [ByteArray.size_extract]; omega)).symm
  | x :: ss, a, ha, h => by
    have h1 := h.1
    unfold stq at h1
    by_cases h0 : s.size - a = 0
    · rw [if_pos h0] at h1
      simp at h1
    · rw [if_neg h0, show s.size - (s.size - a) = a by omega] at h1
      obtain ⟨g1, g2, g3, g4⟩ := step_means hok (by omega) h1
      have h2 := path_tiles hok ss (a + x.2) g4 (by rw [show s.size - (a + x.2) = s.size - a - x.2 by omega]; exact h.2)
      refine ⟨fun t ht => ?_, ?_⟩
      · rw [List.map_cons] at ht
        rcases List.mem_cons.1 ht with rfl | ht
        · omega
        · exact h2.1 t ht
      · show means l x.1 ++ allMean l (ss.map Prod.fst) = _
        rw [g1, h2.2, join_ext s a _ _ (by omega) g4]
theorem tiles_path {l : List ByteArray} (hok : okTexts l) {s : ByteArray} : ∀ (ts : List Int) (a : Nat), a ≤ s.size → Tiles l (s.extract a s.size) ts → ∃ ss : List Stp, ss.map Prod.fst = ts ∧ Path (stq l s) (s.size - a) ss
  | [], a, ha, h => by
    refine ⟨[], rfl, ?_⟩
    have := congrArg ByteArray.size h.2
    rw [ByteArray.size_extract] at this
    have h0 : (allMean l []).size = 0 := rfl
    show s.size - a = 0
    omega
  | t :: ts, a, ha, h => by
    obtain ⟨h1, h2⟩ := h
    have h2 : means l t ++ allMean l ts = s.extract a s.size := h2
    have hn := h1 t List.mem_cons_self
    obtain ⟨n, hnn⟩ : ∃ n, (means l t).size = n := ⟨_, rfl⟩
    have hsz := congrArg ByteArray.size h2
    rw [ByteArray.size_append, ByteArray.size_extract, hnn] at hsz
    rw [hnn] at hn
    have hl : means l t = s.extract a (a + n) := by
      have := ext_left (means l t) (allMean l ts)
      rw [h2, ByteArray.extract_extract, hnn, show min (a + n) s.size = a + n by omega, Nat.add_zero] at this
      exact this.symm
    have hr : allMean l ts = s.extract (a + n) s.size := by
      have := ext_right (means l t) (allMean l ts)
      rw [h2, ByteArray.extract_extract, ByteArray.size_extract, hnn, show min (a + (min s.size s.size - a)) s.size = s.size by omega] at this
      exact this.symm
    obtain ⟨ss, g1, g2⟩ := tiles_path hok ts (a + n) (by omega) ⟨fun x hx => h1 x (List.mem_cons_of_mem _ hx), hr⟩
    refine ⟨(t, n) :: ss, by rw [List.map_cons, g1], ?_, by rw [show s.size - a - ((t, n) : Stp).2 = s.size - (a + n) by simp only; omega]; exact g2⟩
    unfold stq
    rw [if_neg (by omega), show s.size - (s.size - a) = a by omega]
    unfold steps
    rw [List.mem_append]
    by_cases h0 : t < 0 ∨ 256 + (l.length : Int) ≤ t
    · exfalso
      rw [means_past l t h0] at hnn
      have : no.size = 0 := rfl
      omega
    · by_cases h256 : t < 256
      · right
        obtain ⟨c, rfl⟩ := Int.eq_ofNat_of_zero_le (by omega : 0 ≤ t)
        have hc : c < 256 := by omega
        have hm := means_byte l c hc
        rw [hm] at hnn hl
        have hn1 : n = 1 := hnn.symm
        subst hn1
        have hb : byteAt (s.extract a (a + 1)) 0 = byteAt s a := byteAt_ext s a (a + 1) 0 (by omega) (by omega)
        rw [← hl] at hb
        have hb2 : byteAt (⟨#[UInt8.ofNat c]⟩ : ByteArray) 0 = (c : Int) := by
          show (((UInt8.ofNat c).toNat : Nat) : Int) = c
          rw [UInt8.toNat_ofNat']
          omega
        rw [List.mem_singleton, ← hb, hb2]
      · left
        obtain ⟨k, hk⟩ := Int.eq_ofNat_of_zero_le (by omega : 0 ≤ t - 256)
        obtain rfl : t = 256 + (k : Int) := by omega
        have hkl : k < l.length := by omega
        have hm := means_phrase l k hkl
        rw [hm] at hnn hl
        refine (phr_mem l s a _ _).2 ⟨k, hkl, (stands_iff l s a k (by omega)).2 ⟨by omega, ?_⟩, by rw [hnn]⟩
        unfold piece
        rw [hnn]
        exact hl.symm
/-- The tokens of a piece mean it; they cost what is said; none that mean it cost less, none are fewer. -/
theorem toks_tiles {l : List ByteArray} (hok : okTexts l) {s : ByteArray} (hs : s.size ≤ 1024) : Tiles l s (toks l s 0) ∧ csum (toks l s 0) = VV l s 0 := by
  have h := stps_path hok hs 0
  refine ⟨?_, ?_⟩
  · have := path_tiles hok (stps l s 0) 0 (Nat.zero_le _) h.1
    rwa [ext_all s s.size (Nat.le_refl _)] at this
  · rw [toks_eq, ← sum_map, h.2]
theorem toks_least {l : List ByteArray} (hok : okTexts l) {s : ByteArray} (hs : s.size ≤ 1024) {ts : List Int} (h : Tiles l s ts) : (toks l s 0).length ≤ ts.length ∧ ¬ lt (csum ts) (csum (toks l s 0)) := by
  obtain ⟨ss, h1, h2⟩ := tiles_path hok ts 0 (Nat.zero_le _) (by rwa [ext_all s s.size (Nat.le_refl _)])
  have h3 := no_shorter hok hs 0 ss h2
  rw [sum_map, h1] at h3
  rw [(toks_tiles hok hs).2]
  refine ⟨?_, h3.2⟩
  rw [← h1, List.length_map]
  exact h3.1
theorem tiles_append {l : List ByteArray} {x y : ByteArray} {a b : List Int} (h1 : Tiles l x a) (h2 : Tiles l y b) : Tiles l (x ++ y) (a ++ b) :=
  ⟨(allTok_append l a b).2 ⟨h1.1, h2.1⟩, by rw [allMean_append, h1.2, h2.2]⟩
theorem best_tiles {l : List ByteArray} (hok : okTexts l) {win : Nat} (hw : 1 ≤ win) : ∀ (n : Nat) (c : ByteArray), c.size ≤ n → c.size ≤ 1024 → Tiles l c (best l win c)
  | 0, c, h, _ => by
    rw [best_end _ _ _ (by omega), empty_of (s := c) (by omega)]
    exact ⟨fun t ht => by simp at ht, rfl⟩
  | n + 1, c, h, h1 => by
    by_cases h0 : c.size = 0
    · rw [best_end _ _ _ h0, empty_of h0]
      exact ⟨fun t ht => by simp at ht, rfl⟩
    · have hz := ext_size c (min win c.size) (by omega)
      have h2 := (toks_tiles hok (s := c.extract 0 (min win c.size)) (by omega)).1
      have h3 := best_tiles hok hw n (c.extract (min win c.size) c.size) (by omega) (by omega)
      rw [best_step l win hw c h0]
      have := tiles_append h2 h3
      rwa [join_ext c 0 _ _ (Nat.zero_le _) (by omega), ext_all c c.size (Nat.le_refl _)] at this
/-! ### windows -/
theorem best_split {l : List ByteArray} {w : Nat} (hw : 1 ≤ w) : ∀ (k : Nat) (c : ByteArray), k * w ≤ c.size → best l w c = best l w (c.extract 0 (k * w)) ++ best l w (c.extract (k * w) c.size)
  | 0, c, h => by
    rw [Nat.zero_mul, best_end l w (c.extract 0 0) (by rw [ByteArray.size_extract]; omega), List.nil_append, ext_all c c.size (Nat.le_refl _)]
  | k + 1, c, h => by
    have hm : (k + 1) * w = k * w + w := Nat.succ_mul k w
    rw [hm] at h ⊢
    generalize hkw : k * w = m at h ⊢
    have z1 := ext_size c w (by omega)
    have z2 := ext_size c (m + w) (by omega)
    have ih := best_split (l := l) hw k (c.extract w c.size) (by omega)
    rw [hkw, z1.2, ByteArray.extract_extract, ByteArray.extract_extract] at ih
    rw [best_step l w hw c (by omega), show min w c.size = w by omega, ih, best_step l w hw (c.extract 0 (m + w)) (by omega), z2.1, show min w (m + w) = w by omega, ByteArray.extract_extract, ByteArray.extract_extract, List.append_assoc]
    rw [show min (0 + w) (m + w) = w by omega, show min (0 + (m + w)) (m + w) = m + w by omega, Nat.zero_add, Nat.add_zero, show min (w + m) c.size = m + w by omega, show min (w + (c.size - w)) c.size = c.size by omega, Nat.add_comm w m, Nat.zero_add]
theorem lt_add {a b c d : Cst} (h1 : ¬ lt a b) (h2 : ¬ lt c d) : ¬ lt (add a c) (add b d) := by unfold lt add at *; simp only; omega
theorem windows {l : List ByteArray} (hok : okTexts l) {w t : Nat} (hw : 1 ≤ w) (ht : 1 ≤ t) : ∀ (n : Nat) (c : ByteArray), c.size ≤ n → c.size ≤ 1024 → (best l (w * t) c).length ≤ (best l w c).length ∧ ¬ lt (csum (best l w c)) (csum (best l (w * t) c))
  | n, c, h, h1 => by
    have hwt : 1 ≤ w * t := Nat.mul_pos hw ht
    by_cases hc : c.size ≤ w * t
    · rw [best_one hwt hc]
      exact toks_least hok h1 (best_tiles hok hw c.size c (Nat.le_refl _) h1)
    · match n with
      | 0 => exact absurd h (by omega)
      | n + 1 =>
        have hz := ext_size c (w * t) (by omega)
        have ih := windows hok hw ht n (c.extract (w * t) c.size) (by omega) (by omega)
        have hs := best_split (l := l) hw t c (by rw [Nat.mul_comm]; omega)
        rw [Nat.mul_comm t w] at hs
        have h2 := toks_least hok (s := c.extract 0 (w * t)) (by omega) (best_tiles hok hw _ (c.extract 0 (w * t)) (Nat.le_refl _) (by omega))
        rw [hs, best_step l (w * t) hwt c (by omega), show min (w * t) c.size = w * t by omega, List.length_append, List.length_append, csum_append, csum_append]
        exact ⟨by omega, lt_add h2.2 ih.2⟩
/-- Of tokens: how many, how great. -/
theorem tiles_few {l : List ByteArray} (h100 : l.length ≤ 100) {s : ByteArray} : ∀ (ts : List Int), Tiles l s ts → ts.length ≤ s.size ∧ ∀ t ∈ ts, -(2 ^ 63) ≤ t ∧ t < 2 ^ 63 := by
  intro ts
  induction ts generalizing s with
  | nil => exact fun _ => ⟨Nat.zero_le _, fun t ht => by simp at ht⟩
  | cons x ts ih =>
    rintro ⟨h1, h2⟩
    have hx := h1 x List.mem_cons_self
    have h3 := ih (s := allMean l ts) ⟨fun t ht => h1 t (List.mem_cons_of_mem _ ht), rfl⟩
    have h4 : (means l x ++ allMean l ts).size = s.size := by rw [← h2]; rfl
    rw [ByteArray.size_append] at h4
    refine ⟨by rw [List.length_cons]; omega, fun t ht => ?_⟩
    rcases List.mem_cons.1 ht with rfl | ht
    · by_cases h0 : t < 0 ∨ 256 + (l.length : Int) ≤ t
      · rw [means_past l t h0] at hx
        exact absurd rfl hx
      · omega
    · exact h3.2 t ht
end Go.Proofs.Ytfiflloieojgbaa.Best

namespace Go.Proofs.Ytfiflloieojgbaa.Best
set_option linter.unusedVariables false
set_option linter.unusedSimpArgs false
open Go.RowKit Go.Proofs.YtfiflloieojgbaaW.PrintWords Go.Proofs.YtfiflloieojgbaaW.PrintMore Go.Proofs.Ytfiflloieojgbaa.L Go.Proofs.Ytfiflloieojgbaa.Texts Go.Proofs.Ytfiflloieojgbaa.Dict Go.Proofs.Ytfiflloieojgbaa.Ints Go.Proofs.Ytfiflloieojgbaa.Greedy Go.Proofs.Ytfiflloieojgbaa.Cost Go.Proofs.Ytfiflloieojgbaa.Fl Go.Proofs.Ytfiflloieojgbaa.Say

def KC : Kd Cst := Kd.scalar (fun x : Cst => cx x.1 x.2) (fun _ => rfl)
/-- What may be picked at a place. -/
def pick (l : List ByteArray) (b : ByteArray) (a : Nat) (n : Nat) : Cst := add (oc (tokenOf l b a n)) (VV l b (a + n))
def allAt (l : List ByteArray) (b : ByteArray) (a k : Nat) : List Cst := add (oc (byteAt b a)) (VV l b (a + 1)) :: ((stands_ l b a).take k).map (fun x => pick l b a x.toNat)
theorem allAt_len (l : List ByteArray) (b : ByteArray) (a k : Nat) (hk : k ≤ (stands_ l b a).length) : (allAt l b a k).length = k + 1 := by
  unfold allAt
  rw [List.length_cons, List.length_map, List.length_take, Nat.min_eq_left hk]
theorem allAt_succ (l : List ByteArray) (b : ByteArray) (a k : Nat) (hk : k < (stands_ l b a).length) : allAt l b a (k + 1) = allAt l b a k ++ [pick l b a ((stands_ l b a).getD k 0).toNat] := by
  unfold allAt
  rw [List.take_succ_eq_append_getElem hk, List.map_append, List.cons_append, List.getD_eq_getElem?_getD, List.getElem?_eq_getElem hk]
  rfl
theorem stands_mem (l : List ByteArray) (b : ByteArray) (a k : Nat) (hk : k < (stands_ l b a).length) : ∃ m : Nat, (stands_ l b a).getD k 0 = m ∧ 1 ≤ m ∧ m ≤ 40 ∧ m ≤ b.size - a ∧ has (piece b a m) l = true := by
  have h : (stands_ l b a).getD k 0 ∈ stands_ l b a := by rw [List.getD_eq_getElem?_getD, List.getElem?_eq_getElem hk]; exact List.getElem_mem hk
  obtain ⟨m, h1, h2, h3, h4⟩ := (standsDown_mem l b a _ _).1 h
  exact ⟨m, h1, h2, by omega, by omega, h4⟩
theorem pick_step {l : List ByteArray} {b : ByteArray} {a m : Nat} (h1 : 1 ≤ m) (h2 : a + m ≤ b.size) (h3 : has (piece b a m) l = true) : (tokenOf l b a m, m) ∈ steps l b a := by
  have hi : idx (piece b a m) l < l.length := (idx_mem _ l).2 ((has_iff _ l).1 h3)
  have hg := idx_get _ l hi
  have hz := piece_size b a m h2
  unfold steps
  refine List.mem_append_left _ ((phr_mem l b a _ _).2 ⟨idx (piece b a m) l, hi, (stands_iff l b a _ (by omega)).2 ?_, ?_⟩)
  · rw [hg, hz]
    exact ⟨by omega, rfl⟩
  · rw [hg, hz]
    unfold tokenOf
    rw [if_pos h3]
theorem step_pick {l : List ByteArray} (hok : okTexts l) {b : ByteArray} {a : Nat} (ha : a < b.size) {s : Stp} (hs : s ∈ steps l b a) : s = (byteAt b a, 1) ∨ ∃ m : Nat, s = (tokenOf l b a m, m) ∧ ((m : Nat) : Int) ∈ stands_ l b a := by
  rcases List.mem_append.1 hs with h | h
  · right
    obtain ⟨j, h1, h2, rfl⟩ := (phr_mem l b a s _).1 h
    have h3 := (stands_iff l b a j (by omega)).1 h2
    obtain ⟨k1, k2, k3, k4⟩ := hok.2 j h1
    have h5 : has (piece b a (l.getD j no).size) l = true := by
      rw [h3.2]
      exact (has_iff _ l).2 (getD_mem l j h1)
    refine ⟨(l.getD j no).size, ?_, (standsDown_mem l b a _ _).2 ⟨_, rfl, by omega, by omega, h5⟩⟩
    unfold tokenOf
    rw [if_pos h5, h3.2]
    have h6 := idx_self l j h1
    rw [show idx (l.getD j no) l = j by omega]
  · rw [List.mem_singleton] at h
    exact .inl h
theorem all_by {l : List ByteArray} (hok : okTexts l) {b : ByteArray} (hb : b.size ≤ 1024) {a : Nat} (ha : a < b.size) : (∀ x ∈ allAt l b a (stands_ l b a).length, ¬ lt x (VV l b a)) ∧ VV l b a ∈ allAt l b a (stands_ l b a).length := by
  have ht := taken (fine hok hb) (b.size - a) (by omega) (by omega)
  have hst : stq l b (b.size - a) = steps l b a := by unfold stq; rw [if_neg (by omega), show b.size - (b.size - a) = a by omega]
  rw [hst] at ht
  have hV : VV l b a = V (stq l b) oc (b.size - a) := rfl
  rw [← hV] at ht
  obtain ⟨t1, t2, t3, t4⟩ := ht
  unfold allAt
  rw [List.take_length]
  constructor
  · intro x hx
    rcases List.mem_cons.1 hx with rfl | hx
    · have := t3 (byteAt b a, 1) (List.mem_append_right _ List.mem_cons_self)
      rwa [by_place l b a _ (by simp only; omega)] at this
    · obtain ⟨y, hy, rfl⟩ := List.mem_map.1 hx
      obtain ⟨m, rfl, h2, h3, h4⟩ := (standsDown_mem l b a _ _).1 hy
      have := t3 _ (pick_step h2 (by omega) h4)
      rw [by_place l b a _ (by simp only; omega)] at this
      rw [Int.toNat_natCast]
      exact this
  · have hf := steps_fit hok ha t1
    rw [by_place l b a _ (by omega)] at t2
    rcases step_pick hok ha t1 with h | ⟨m, h, hm⟩
    · rw [h] at t2
      rw [t2]
      exact List.mem_cons_self
    · rw [h] at t2
      rw [t2]
      exact List.mem_cons_of_mem _ (List.mem_map.2 ⟨_, hm, by rw [Int.toNat_natCast]; rfl⟩)
theorem pick_bound {l : List ByteArray} (hok : okTexts l) {b : ByteArray} (hb : b.size ≤ 1024) (t : Int) (i : Nat) (h0 : 0 ≤ t) (h1 : t ≤ 1000) : (add (oc t) (VV l b i)).1 ≤ 1025 ∧ (add (oc t) (VV l b i)).2 ≤ 41000 := by
  have h1 := oc_tok t h0 h1
  have h2 := VV_bound hok hb i
  unfold add
  simp only
  omega
theorem all_bound {l : List ByteArray} (hok : okTexts l) {b : ByteArray} (hb : b.size ≤ 1024) {a : Nat} (ha : a < b.size) (k : Nat) : ∀ x ∈ allAt l b a k, x.1 ≤ 1025 ∧ x.2 ≤ 41000 := by
  intro x hx
  have h100 := hok.1
  rcases List.mem_cons.1 hx with rfl | hx
  · have := byteAt_lt b a
    exact pick_bound hok hb _ _ (by omega) (by omega)
  · obtain ⟨y, _, rfl⟩ := List.mem_map.1 hx
    have := token_range l b a y.toNat h100
    exact pick_bound hok hb _ _ (by omega) (by omega)
/-- A block that begins with these costs. -/
def CRow (w : World) (g n : Nat) (f : Nat → Cst) : Prop := ∃ cs : Array Value, w.heap[g]? = some (.cells cs 47 (0, 0)) ∧ ∀ j, j < n → cs[j]? = some (cx (f j).1 (f j).2)
theorem CRow.heap {w w' : World} {g n : Nat} {c : Nat → Cst} (h : CRow w g n c) (hw : w'.heap[g]? = w.heap[g]?) : CRow w' g n c := by
  obtain ⟨cs, hb, r⟩ := h
  exact ⟨cs, hw.trans hb, r⟩
theorem CRow.lt {w : World} {g n : Nat} {c : Nat → Cst} (h : CRow w g n c) : g < w.heap.size := by obtain ⟨cs, hb, r⟩ := h; exact blk_lt hb
theorem CRow.bel {w w' : World} {g n : Nat} {c : Nat → Cst} (h : CRow w g n c) (hb : Below w.heap.size w w') : CRow w' g n c := h.heap (hb.block g h.lt)
theorem CRow.cell {w : World} {g n : Nat} {c : Nat → Cst} (h : CRow w g n c) (j : Nat) (hj : j < n) : w.cell? ⟨g, j, none⟩ = some (cx (c j).1 (c j).2) := by
  obtain ⟨cs, hb, r⟩ := h
  rw [cell_of_row w g j cs _ _ hb]
  exact r j hj
/-- The costs, as a block of one's own. -/
theorem CBlk_of_R {w : World} {base : Nat} {ok : Nat → Prop} {v : Value} {xs : List Cst} (h : KC.R 47 w base ok v xs) (hn : 0 < xs.length) :
    ∃ g cap, v = .slice (some ⟨g, 0, none⟩) xs.length cap ∧ base ≤ g ∧ CRow w g xs.length (fun j => xs.getD j (0, 0)) := by
  obtain ⟨g, cap, hv, hge, hgl, cells, hcell⟩ := Kd.R_form h hn
  subst hv
  refine ⟨g, cap, rfl, hge, cells, hcell, fun j hj => ?_⟩
  obtain ⟨ad, c, e, _, hK, hc⟩ := ReadsRow.get_ (Kd.R_reads' h).2.2 (0, 0) (j : Int) (by omega) (by omega)
  rw [Int.toNat_natCast] at hK hc
  have hK : c = [cx (xs.getD j (0, 0)).1 (xs.getD j (0, 0)).2] := hK
  subst hK
  injection e with e
  subst e
  have := hc 0 _ rfl
  rw [show KC.sz = 1 from rfl, Nat.add_zero, Nat.mul_one, add_plain, cell_of_row w g j cells _ _ hcell] at this
  exact this
end Go.Proofs.Ytfiflloieojgbaa.Best

namespace Go.Proofs.Ytfiflloieojgbaa.Best
set_option linter.unusedVariables false
set_option linter.unusedSimpArgs false
open Go.RowKit Go.Proofs.YtfiflloieojgbaaW.PrintWords Go.Proofs.YtfiflloieojgbaaW.PrintMore Go.Proofs.YtfiflloieojgbaaW.PrintLast Go.Proofs.Ytfiflloieojgbaa.L Go.Proofs.Ytfiflloieojgbaa.Texts Go.Proofs.Ytfiflloieojgbaa.Dict Go.Proofs.Ytfiflloieojgbaa.Ints Go.Proofs.Ytfiflloieojgbaa.Greedy Go.Proofs.Ytfiflloieojgbaa.Cost Go.Proofs.Ytfiflloieojgbaa.Fl Go.Proofs.Ytfiflloieojgbaa.Say Go.Proofs.Ytfiflloieojgbaa.VariSpec Go.Proofs.Ytfiflloieojgbaa.PBestTells

theorem best_fromR (l : List ByteArray) (win : Nat) (hw : 1 ≤ win) (b : ByteArray) (a : Nat) (ha : a < b.size) : best l win (b.extract a b.size) = toks l (b.extract a (min (a + win) b.size)) 0 ++ best l win (b.extract (min (a + win) b.size) b.size) := by
  have hs : (b.extract a b.size).size = b.size - a := by rw [ByteArray.size_extract]; omega
  rw [best_step l win hw _ (by omega), hs, ByteArray.extract_extract, ByteArray.extract_extract, Nat.add_zero, show min (a + min win (b.size - a)) b.size = min (a + win) b.size by omega, show a + min win (b.size - a) = min (a + win) b.size by omega, show min (a + (b.size - a)) b.size = b.size by omega]
theorem best_from_endR (l : List ByteArray) (win : Nat) (b : ByteArray) (a : Nat) (ha : b.size ≤ a) : best l win (b.extract a b.size) = [] := best_end _ _ _ (by rw [ByteArray.size_extract]; omega)
theorem w64 {x : Int} (h0 : -(2 ^ 60) ≤ x) (h1 : x ≤ 2 ^ 60) : wrap64 x = x := by unfold wrap64; omega
theorem toList_inj (a b : ByteArray) : a.toList = b.toList ↔ a = b := by
  constructor
  · intro h
    rw [ByteArray.toList_eq, ByteArray.toList_eq] at h
    apply ByteArray.ext
    exact Array.toList_inj.1 h
  · rintro rfl; rfl
theorem find_l0 (l : List ByteArray) (s : ByteArray) (hl : l.length ≤ 1000) : ∀ (m p k : Nat), p + m = l.length → m < k → p ≤ idx s l → lexiphaneref1_Find.l0 k l s (p : Int) = some (find s l)
  | m, p, 0, _, hk, _ => absurd hk (by omega)
  | 0, p, k + 1, h, _, hp => by
    unfold lexiphaneref1_Find.l0 find
    rw [if_neg (by omega), if_neg (by omega)]
  | m + 1, p, k + 1, h, hk, hp => by
    have hlt : p < l.length := by omega
    have hi := idx_at s l p hlt hp
    unfold lexiphaneref1_Find.l0
    rw [if_pos (by omega), if_pos (by omega)]
    have e : rdOf ByteArray.empty l (p : Int) = l.getD p no := by unfold rdOf; rw [Int.toNat_natCast]; rfl
    rw [e]
    by_cases he : s = l.getD p no
    · rw [if_pos ((toList_inj _ _).2 he.symm)]
      have h1 := hi.1 he
      unfold find
      rw [if_pos (by omega), h1]
    · rw [if_neg (fun h2 => he ((toList_inj _ _).1 h2).symm), w64 (by omega) (by omega)]
      exact find_l0 l s hl m (p + 1) k (by omega) (by omega) (hi.2 he)
theorem find_f (l : List ByteArray) (s : ByteArray) (hl : l.length ≤ 1000) (k : Nat) (hk : l.length < k) : lexiphaneref1_Find.f k l s = some (find s l) := by
  unfold lexiphaneref1_Find.f
  exact find_l0 l s hl l.length 0 k (by omega) hk (Nat.zero_le _)
theorem find_nn (s : ByteArray) (l : List ByteArray) : find s l ≥ 0 ↔ has s l = true := by
  unfold find has
  rw [decide_eq_true_eq]
  split
  · exact ⟨fun _ => by assumption, fun _ => by omega⟩
  · exact ⟨fun h => absurd h (by omega), fun h => absurd h (by assumption)⟩
theorem stands_l0 (l : List ByteArray) (b : ByteArray) (a : Nat) (hl : l.length ≤ 1000) (hb : b.size ≤ 1000000) : ∀ (n k : Nat) (acc : List Int), a + n ≤ b.size → n + l.length + 2 < k → acc.length + n < 100000 →
    lexiphaneref1_Stands.l0 k l b (a : Int) acc (n : Int) = some (acc ++ standsDown l b a n)
  | n, 0, acc, _, hk, _ => absurd hk (by omega)
  | 0, k + 1, acc, h, _, _ => by
    unfold lexiphaneref1_Stands.l0 standsDown
    rw [if_neg (by omega), List.append_nil]
  | n + 1, k + 1, acc, h, hk, ha => by
    have w1 : wrap64 ((a : Int) + ((n + 1 : Nat) : Int)) = ((a + (n + 1) : Nat) : Int) := by rw [w64 (by omega) (by omega)]; omega
    have w2 : wrap64 (((n + 1 : Nat) : Int) - 1) = (n : Int) := by rw [w64 (by omega) (by omega)]; omega
    unfold lexiphaneref1_Stands.l0
    rw [w1, w2, if_pos (by omega), if_pos (by omega), if_pos (by omega), if_pos (by omega), Int.toNat_natCast, Int.toNat_natCast, find_f l _ hl k (by omega)]
    simp only [Option.bind_some]
    unfold standsDown
    have hp : b.extract a (a + (n + 1)) = piece b a (n + 1) := rfl
    rw [hp]
    by_cases hh : has (piece b a (n + 1)) l = true
    · rw [if_pos ((find_nn _ _).2 hh), if_pos hh, if_pos (by omega), stands_l0 l b a hl hb n k (acc ++ [((n + 1 : Nat) : Int)]) (by omega) (by omega) (by rw [List.length_append]; simp; omega), List.append_assoc]
      rfl
    · rw [if_neg (fun h2 => hh ((find_nn _ _).1 h2)), if_neg hh]
      exact stands_l0 l b a hl hb n k acc (by omega) (by omega) (by omega)
theorem stands_f (l : List ByteArray) (b : ByteArray) (a : Nat) (hl : l.length ≤ 1000) (hb : b.size ≤ 1000000) (ha : a ≤ b.size) (k : Nat) (hk : l.length + 50 < k) : lexiphaneref1_Stands.f k l b (a : Int) = some (stands_ l b a) := by
  unfold lexiphaneref1_Stands.f
  have e : mn 40 (wrap64 ((b.size : Int) - (a : Int))) = ((min 40 (b.size - a) : Nat) : Int) := by
    rw [w64 (by omega) (by omega)]
    unfold mn
    split <;> omega
  rw [e, stands_l0 l b a hl hb _ k [] (by omega) (by omega) (by simp; omega)]
  rfl
theorem token_f (l : List ByteArray) (b : ByteArray) (a n : Nat) (hl : l.length ≤ 1000) (hb : b.size ≤ 1000000) (ha : a < b.size) (hn : a + n ≤ b.size) (k : Nat) (hk : l.length < k) : lexiphaneref1_Token.f k l b (a : Int) (n : Int) = some (tokenOf l b a n) := by
  have w1 : wrap64 ((a : Int) + (n : Int)) = ((a + n : Nat) : Int) := by rw [w64 (by omega) (by omega)]; omega
  unfold lexiphaneref1_Token.f
  rw [w1, if_pos (by omega), if_pos (by omega), if_pos (by omega), Int.toNat_natCast, Int.toNat_natCast, find_f l _ hl k hk]
  simp only [Option.bind_some]
  have hp : b.extract a (a + n) = piece b a n := rfl
  rw [hp]
  unfold tokenOf
  by_cases hh : has (piece b a n) l = true
  · have hi : idx (piece b a n) l < l.length := by unfold has at hh; exact of_decide_eq_true hh
    rw [if_pos ((find_nn _ _).2 hh), if_pos hh]
    unfold find
    rw [if_pos hi, w64 (by omega) (by omega)]
  · rw [if_neg (fun h2 => hh ((find_nn _ _).1 h2)), if_neg hh, if_pos (by omega)]
    have hby := byteAt_lt b a
    have e : bt b (a : Int) = byteAt b a := by
      unfold bt
      rw [dif_pos (by rw [Int.toNat_natCast]; exact ha)]
      have := bt_byteAt b a ha
      simpa using this
    rw [e, w64 (by omega) (by omega)]
/-! ### choices -/
def tk (l : List ByteArray) (b : ByteArray) (a : Nat) (m : Int) : S82 := ⟨tokenOf l b a m.toNat, m⟩
def chs (l : List ByteArray) (b : ByteArray) (a : Nat) : List S82 := (stands_ l b a).map (tk l b a) ++ [⟨byteAt b a, 1⟩]
theorem bt_eq (b : ByteArray) (a : Nat) (ha : a < b.size) : wrap64 (bt b (a : Int)) = byteAt b a := by
  have hby := byteAt_lt b a
  have e : bt b (a : Int) = byteAt b a := by
    unfold bt
    rw [dif_pos (by rw [Int.toNat_natCast]; exact ha)]
    have := bt_byteAt b a ha
    simpa using this
  rw [e, w64 (by omega) (by omega)]
theorem choices_l0 (l : List ByteArray) (b : ByteArray) (a : Nat) (hl : l.length ≤ 1000) (hb : b.size ≤ 1000000) (ha : a < b.size) : ∀ (m i k : Nat), i + m = (stands_ l b a).length → m + l.length + 2 < k →
    lexiphaneref1_choices.l0 k l b (a : Int) (((stands_ l b a).take i).map (tk l b a)) (stands_ l b a) (i : Int) = some (chs l b a)
  | m, i, 0, _, hk => absurd hk (by omega)
  | 0, i, k + 1, h, hk => by
    have hl40 := standsDown_len l b a (min 40 (b.size - a))
    have hl2 : (stands_ l b a).length = (standsDown l b a (min 40 (b.size - a))).length := rfl
    have hi : i = (stands_ l b a).length := by omega
    unfold lexiphaneref1_choices.l0
    rw [if_neg (by omega), if_pos (by omega), if_pos (by omega), if_pos (by rw [List.length_map, List.length_take]; omega), bt_eq b a ha, hi, List.take_length]
    rfl
  | m + 1, i, k + 1, h, hk => by
    have hl40 := standsDown_len l b a (min 40 (b.size - a))
    have hl2 : (stands_ l b a).length = (standsDown l b a (min 40 (b.size - a))).length := rfl
    have hlt : i < (stands_ l b a).length := by omega
    obtain ⟨n, hn, n1, n40, nb, nh⟩ := stands_mem l b a i hlt
    unfold lexiphaneref1_choices.l0
    have hrd : rd (stands_ l b a) (i : Int) = (n : Int) := by unfold rd; rw [Int.toNat_natCast, hn]
    rw [if_pos (by omega), if_pos (by omega), hrd, token_f l b a n hl hb ha (by omega) k (by omega)]
    simp only [Option.bind_some]
    rw [if_pos (by rw [List.length_map, List.length_take]; omega), w64 (by omega) (by omega)]
    have e : ((stands_ l b a).take i).map (tk l b a) ++ [(⟨tokenOf l b a n, (n : Int)⟩ : S82)] = ((stands_ l b a).take (i + 1)).map (tk l b a) := by
      rw [Ints.take_succ_getD _ i hlt, List.map_append, hn]
      rfl
    rw [e]
    exact choices_l0 l b a hl hb ha m (i + 1) k (by omega) (by omega)
theorem choices_f (l : List ByteArray) (b : ByteArray) (a : Nat) (hl : l.length ≤ 1000) (hb : b.size ≤ 1000000) (ha : a < b.size) (k : Nat) (hk : l.length + 50 < k) : lexiphaneref1_choices.f k l b (a : Int) = some (chs l b a) := by
  have hl40 := standsDown_len l b a (min 40 (b.size - a))
  have hl2 : (stands_ l b a).length = (standsDown l b a (min 40 (b.size - a))).length := rfl
  unfold lexiphaneref1_choices.f
  rw [stands_f l b a hl hb (by omega) k hk]
  simp only [Option.bind_some]
  have := choices_l0 l b a hl hb ha (stands_ l b a).length 0 k (by omega) (by omega)
  rw [List.take_zero] at this
  exact this
theorem chs_len (l : List ByteArray) (b : ByteArray) (a : Nat) : (chs l b a).length = (stands_ l b a).length + 1 := by unfold chs; rw [List.length_append, List.length_map]; rfl
theorem chs_le (l : List ByteArray) (b : ByteArray) (a : Nat) : (chs l b a).length ≤ 41 := by
  have hl40 := standsDown_len l b a (min 40 (b.size - a))
  have hl2 : (stands_ l b a).length = (standsDown l b a (min 40 (b.size - a))).length := rfl
  rw [chs_len]
  omega
/-- What a choice is: a step of the program's. -/
theorem chs_at {l : List ByteArray} (hok : okTexts l) {b : ByteArray} {a : Nat} (ha : a < b.size) (i : Nat) (hi : i < (chs l b a).length) :
    ∃ (t : Int) (m : Nat), (chs l b a).getD i z82 = ⟨t, m⟩ ∧ (t, m) ∈ steps l b a := by
  rw [chs_len] at hi
  by_cases h : i < (stands_ l b a).length
  · obtain ⟨n, hn, n1, n40, nb, nh⟩ := stands_mem l b a i h
    refine ⟨tokenOf l b a n, n, ?_, pick_step n1 (by omega) nh⟩
    unfold chs
    rw [List.getD_eq_getElem?_getD, List.getElem?_append_left (by rw [List.length_map]; exact h), List.getElem?_map, List.getElem?_eq_getElem h]
    have e : (stands_ l b a)[i] = (n : Int) := by rw [← hn, List.getD_eq_getElem?_getD, List.getElem?_eq_getElem h]; rfl
    rw [e]
    rfl
  · have he : i = (stands_ l b a).length := by omega
    refine ⟨byteAt b a, 1, ?_, List.mem_append_right _ List.mem_cons_self⟩
    unfold chs
    rw [List.getD_eq_getElem?_getD, List.getElem?_append_right (by rw [List.length_map]; omega), List.length_map, he, Nat.sub_self]
    rfl
/-! ### bits of a token -/
theorem number_l0 : ∀ (f : Nat) (n : Int) (acc : List Int) (k : Nat), 0 ≤ n → n < cap f → n ≤ 4294967295 → f < k → acc.length + f < 1000 →
    lexiphaneref1_Number.l0 k n acc = some (strOfNums (acc ++ encN f n), true)
  | f, n, acc, 0, _, _, _, hk, _ => absurd hk (by omega)
  | 0, n, acc, k + 1, h0, h1, hm, hk, hl => by
    simp only [cap] at h1
    simp only [lexiphaneref1_Number.l0, encN]
    rw [if_neg (by omega), if_pos (by omega), Int.emod_eq_of_lt h0 (by omega)]
  | f + 1, n, acc, k + 1, h0, h1, hm, hk, hl => by
    simp only [cap] at h1
    simp only [lexiphaneref1_Number.l0, encN]
    by_cases h : n ≥ 128
    · have e : (wrap64 (128 + Int.tmod n 128)) % 256 = n % 128 + 128 := by
        rw [Int.tmod_eq_emod_of_nonneg h0]; unfold wrap64; omega
      have e2 : wrap64 (Int.tdiv n 128) = n / 128 := by
        rw [Int.tdiv_eq_ediv_of_nonneg h0]; unfold wrap64; omega
      rw [if_pos h, if_pos (by omega), if_pos (show 128 ≤ n from h), e, e2, number_l0 f (n / 128) _ k (by omega) (by omega) (by omega) (by omega) (by simp; omega)]
      simp
    · rw [if_neg h, if_pos (by omega), if_neg h, Int.emod_eq_of_lt h0 (by omega)]
theorem number_f (k : Nat) (n : Int) (hk : 10 ≤ k) : lexiphaneref1_Number.f k n = some (if 0 ≤ n ∧ n ≤ 4294967295 then (strOfNums (encN 4 n), true) else ((⟨#[]⟩ : ByteArray), false)) := by
  obtain ⟨k, rfl⟩ : ∃ m, k = m + 1 := ⟨k - 1, by omega⟩
  unfold lexiphaneref1_Number.f
  by_cases h0 : n < 0
  · rw [if_pos h0, if_neg (by omega)]; simp only [lexiphaneref1_Number.j0]; rw [if_pos trivial]
  · rw [if_neg h0]
    simp only [lexiphaneref1_Number.j0]
    by_cases h1 : n > 4294967295
    · rw [if_pos (by simpa using h1), if_neg (by omega)]
    · rw [if_neg (by simpa using h1), if_pos (by omega), number_l0 4 n [] k (by omega) (by simp only [cap]; omega) (by omega) (by omega) (by simp)]
      simp
theorem bits_f (k : Nat) (n : Int) (hk : 10 ≤ k) : lexiphaneref1_Bits.f k n = some (((8 * vlen n : Nat)) : Int) := by
  have h5 := vlen_le n
  unfold lexiphaneref1_Bits.f
  rw [number_f k n hk]
  unfold vlen at h5 ⊢
  split
  · rename_i hc
    rw [if_pos hc] at h5
    simp only [Option.bind_some, strOfNums_size]
    congr 1
    unfold wrap64
    omega
  · have hz : ((⟨#[]⟩ : ByteArray).size : Int) = 0 := rfl
    simp only [Option.bind_some]
    congr 1
    unfold wrap64
    omega
/-! ### costs -/
def lower (c v : Cst) : Cst := if lt v c then v else c
def val (l : List ByteArray) (b : ByteArray) (a : Nat) (x : S82) : Cst := add (oc x.f0) (VV l b (a + x.f1.toNat))
def run (l : List ByteArray) (b : ByteArray) (a i : Nat) : Cst := ((chs l b a).take i).foldl (fun c x => lower c (val l b a x)) (1099511627776, 0)
theorem run_zero (l : List ByteArray) (b : ByteArray) (a : Nat) : run l b a 0 = (1099511627776, 0) := rfl
theorem run_succ (l : List ByteArray) (b : ByteArray) (a i : Nat) (h : i < (chs l b a).length) : run l b a (i + 1) = lower (run l b a i) (val l b a ((chs l b a).getD i z82)) := by
  unfold run
  rw [List.take_succ_eq_append_getElem h, List.foldl_append, List.getD_eq_getElem?_getD, List.getElem?_eq_getElem h]
  rfl
/-- Of all that were looked at none costs less; and it is one of them, or what it was. -/
theorem run_low (l : List ByteArray) (b : ByteArray) (a : Nat) : ∀ i, i ≤ (chs l b a).length → (∀ j, j < i → ¬ lt (val l b a ((chs l b a).getD j z82)) (run l b a i)) ∧ ¬ lt (1099511627776, 0) (run l b a i) ∧ (run l b a i = (1099511627776, 0) ∨ ∃ j, j < i ∧ run l b a i = val l b a ((chs l b a).getD j z82))
  | 0, _ => ⟨fun j hj => absurd hj (Nat.not_lt_zero j), lt_irrefl _, .inl rfl⟩
  | i + 1, h => by
    obtain ⟨h1, h2, h3⟩ := run_low l b a i (by omega)
    rw [run_succ l b a i (by omega)]
    unfold lower
    by_cases hc : lt (val l b a ((chs l b a).getD i z82)) (run l b a i)
    · rw [if_pos hc]
      refine ⟨fun j hj => ?_, ?_, .inr ⟨i, by omega, rfl⟩⟩
      · by_cases hji : j = i
        · subst hji; exact lt_irrefl _
        · have := h1 j (by omega)
          unfold lt at *
          omega
      · unfold lt at *
        omega
    · rw [if_neg hc]
      refine ⟨fun j hj => ?_, h2, ?_⟩
      · by_cases hji : j = i
        · subst hji; exact hc
        · exact h1 j (by omega)
      · rcases h3 with h3 | ⟨j, hj, h3⟩
        · exact .inl h3
        · exact .inr ⟨j, by omega, h3⟩
theorem val_step {l : List ByteArray} {b : ByteArray} {a : Nat} {t : Int} {m : Nat} : val l b a ⟨t, m⟩ = add (oc t) (VV l b (a + m)) := by unfold val; rw [Int.toNat_natCast]
theorem val_by {l : List ByteArray} (hok : okTexts l) {b : ByteArray} {a : Nat} (ha : a < b.size) {t : Int} {m : Nat} (h : (t, m) ∈ steps l b a) : val l b a ⟨t, m⟩ = by_ (stq l b) oc (b.size - a) (t, m) := by
  have hf := steps_fit hok ha h
  rw [val_step, by_place l b a (t, m) (by simp only at hf ⊢; omega)]
theorem steps_taken {l : List ByteArray} (hok : okTexts l) {b : ByteArray} (hb : b.size ≤ 1024) {a : Nat} (ha : a < b.size) :
    FF l b a ∈ steps l b a ∧ VV l b a = by_ (stq l b) oc (b.size - a) (FF l b a) ∧ (∀ s ∈ steps l b a, ¬ lt (by_ (stq l b) oc (b.size - a) s) (VV l b a)) ∧ ∀ s ∈ steps l b a, by_ (stq l b) oc (b.size - a) s = VV l b a → s.2 ≤ (FF l b a).2 := by
  have ht := taken (fine hok hb) (b.size - a) (by omega) (by omega)
  have hst : stq l b (b.size - a) = steps l b a := by unfold stq; rw [if_neg (by omega), show b.size - (b.size - a) = a by omega]
  rw [hst] at ht
  exact ht
/-- A step of the program's is a choice of the document's. -/
theorem step_chs {l : List ByteArray} (hok : okTexts l) {b : ByteArray} {a : Nat} (ha : a < b.size) {t : Int} {m : Nat} (h : (t, m) ∈ steps l b a) : ∃ j, j < (chs l b a).length ∧ (chs l b a).getD j z82 = ⟨t, m⟩ := by
  have hmem : (⟨t, m⟩ : S82) ∈ chs l b a := by
    unfold chs
    rw [List.mem_append]
    rcases step_pick hok ha h with h1 | ⟨m', h1, h2⟩
    · injection h1 with h1 h3
      subst h1 h3
      exact .inr List.mem_cons_self
    · injection h1 with h1 h3
      subst h1 h3
      refine .inl (List.mem_map.2 ⟨_, h2, ?_⟩)
      unfold tk
      rw [Int.toNat_natCast]
  obtain ⟨j, hj, he⟩ := List.getElem_of_mem hmem
  exact ⟨j, hj, by rw [List.getD_eq_getElem?_getD, List.getElem?_eq_getElem hj]; exact he⟩
theorem run_end {l : List ByteArray} (hok : okTexts l) {b : ByteArray} (hb : b.size ≤ 1024) {a : Nat} (ha : a < b.size) : run l b a (chs l b a).length = VV l b a := by
  obtain ⟨h1, h2, h3⟩ := run_low l b a _ (Nat.le_refl _)
  obtain ⟨t1, t2, t3, t4⟩ := steps_taken hok hb ha
  have hvb := VV_bound hok hb a
  obtain ⟨j, hj, he⟩ := step_chs (t := (FF l b a).1) (m := (FF l b a).2) hok ha t1
  have h4 := h1 j hj
  rw [he, val_by hok ha (t := (FF l b a).1) (m := (FF l b a).2) t1] at h4
  have t2' : by_ (stq l b) oc (b.size - a) ((FF l b a).1, (FF l b a).2) = VV l b a := t2.symm
  rw [t2'] at h4
  refine lt_total (fun hl => ?_) h4
  rcases h3 with h3 | ⟨i, hi, h3⟩
  · rw [h3] at hl
    unfold lt at hl
    simp only at hl
    omega
  · obtain ⟨t, m, hc, hs⟩ := chs_at hok ha i hi
    rw [h3, hc, val_by hok ha hs] at hl
    exact t3 _ hs hl
theorem run_bound {l : List ByteArray} (hok : okTexts l) {b : ByteArray} (hb : b.size ≤ 1024) {a : Nat} (ha : a < b.size) (i : Nat) (hi : i ≤ (chs l b a).length) : (run l b a i).1 ≤ 1099511627776 ∧ (run l b a i).2 ≤ 50000 := by
  obtain ⟨h1, h2, h3⟩ := run_low l b a i hi
  rcases h3 with h3 | ⟨j, hj, h3⟩
  · rw [h3]
    exact ⟨Nat.le_refl _, Nat.zero_le _⟩
  · obtain ⟨t, m, hc, hs⟩ := chs_at hok ha j (by omega)
    have hf := steps_fit hok ha hs
    have ho := oc_tok t hf.2.2.1 hf.2.2.2
    have hv := VV_bound hok hb (a + m)
    rw [h3, hc, val_step]
    unfold add
    simp only
    omega
/-! ### the tables -/
def CT (l : List ByteArray) (b : ByteArray) : List Int := (List.range (b.size + 1)).map (fun j => ((VV l b j).1 : Int))
def CB (l : List ByteArray) (b : ByteArray) : List Int := (List.range (b.size + 1)).map (fun j => ((VV l b j).2 : Int))
theorem CT_len (l : List ByteArray) (b : ByteArray) : (CT l b).length = b.size + 1 := by unfold CT; rw [List.length_map, List.length_range]
theorem CB_len (l : List ByteArray) (b : ByteArray) : (CB l b).length = b.size + 1 := by unfold CB; rw [List.length_map, List.length_range]
theorem CT_at (l : List ByteArray) (b : ByteArray) (j : Nat) (h : j ≤ b.size) : (CT l b).getD j 0 = ((VV l b j).1 : Int) := by
  unfold CT
  rw [List.getD_eq_getElem?_getD, List.getElem?_map, List.getElem?_range (by omega)]
  rfl
theorem CB_at (l : List ByteArray) (b : ByteArray) (j : Nat) (h : j ≤ b.size) : (CB l b).getD j 0 = ((VV l b j).2 : Int) := by
  unfold CB
  rw [List.getD_eq_getElem?_getD, List.getElem?_map, List.getElem?_range (by omega)]
  rfl
theorem ext_at {x y : List Int} (h : x.length = y.length) (ha : ∀ j, j < x.length → x.getD j 0 = y.getD j 0) : x = y := by
  refine List.ext_getElem h (fun j h1 h2 => ?_)
  have := ha j h1
  rw [List.getD_eq_getElem?_getD, List.getD_eq_getElem?_getD, List.getElem?_eq_getElem h1, List.getElem?_eq_getElem h2] at this
  exact this
theorem set_at (x : List Int) (a j : Nat) (v : Int) (h : a < x.length) : (x.set a v).getD j 0 = if j = a then v else x.getD j 0 := by
  rw [List.getD_eq_getElem?_getD, List.getElem?_set]
  by_cases hj : a = j
  · rw [if_pos hj, if_pos (by omega), if_pos hj.symm]
    rfl
  · rw [if_neg hj, if_neg (fun e => hj e.symm), ← List.getD_eq_getElem?_getD]
/-- The tables, right behind place a, and at a what was found so far. -/
structure Tb (l : List ByteArray) (b : ByteArray) (a : Nat) (c : Cst) (x y : List Int) : Prop where
  lx : x.length = b.size + 1
  ly : y.length = b.size + 1
  ax : x.getD a 0 = (c.1 : Int)
  ay : y.getD a 0 = (c.2 : Int)
  bx : ∀ j, a < j → j ≤ b.size → x.getD j 0 = ((VV l b j).1 : Int)
  by' : ∀ j, a < j → j ≤ b.size → y.getD j 0 = ((VV l b j).2 : Int)
theorem Tb.put {l : List ByteArray} {b : ByteArray} {a : Nat} {c : Cst} {x y : List Int} (h : Tb l b a c x y) (ha : a ≤ b.size) (v : Cst) : Tb l b a v (x.set a (v.1 : Int)) (y.set a (v.2 : Int)) := by
  have h1 := h.lx
  have h2 := h.ly
  refine ⟨by rw [List.length_set]; exact h1, by rw [List.length_set]; exact h2, ?_, ?_, fun j hj hb => ?_, fun j hj hb => ?_⟩
  · rw [set_at _ _ _ _ (by omega), if_pos rfl]
  · rw [set_at _ _ _ _ (by omega), if_pos rfl]
  · rw [set_at _ _ _ _ (by omega), if_neg (by omega), h.bx j hj hb]
  · rw [set_at _ _ _ _ (by omega), if_neg (by omega), h.by' j hj hb]
set_option maxHeartbeats 4000000 in
theorem costs_l1 {l : List ByteArray} (hok : okTexts l) {b : ByteArray} (hb : b.size ≤ 1024) {a : Nat} (ha : a < b.size) : ∀ (m i k : Nat) (x y : List Int), i + m = (chs l b a).length → m + 20 < k → Tb l b a (run l b a i) x y →
    ∃ x' y', Tb l b a (VV l b a) x' y' ∧ lexiphaneref1_Costs.l1 k l b x y (a : Int) (chs l b a) ((chs l b a).length : Int) (i : Int) = lexiphaneref1_Costs.l0 (k - m - 1) l b x' y' (wrap64 ((a : Int) - 1))
  | m, i, 0, x, y, _, hk, _ => absurd hk (by omega)
  | 0, i, k + 1, x, y, h, hk, ht => by
    have hi : i = (chs l b a).length := by omega
    rw [hi, run_end hok hb ha] at ht
    refine ⟨x, y, ht, ?_⟩
    simp only [lexiphaneref1_Costs.l1]
    rw [if_neg (by omega)]
    rfl
  | m + 1, i, k + 1, x, y, h, hk, ht => by
    have hlt : i < (chs l b a).length := by omega
    have hcl := chs_le l b a
    obtain ⟨t, n, hc, hs⟩ := chs_at hok ha i hlt
    have hf := steps_fit hok ha hs
    simp only at hf
    obtain ⟨f1, f2, f3, f4⟩ := hf
    have hn1 : a < a + n := by omega
    have hn2 : a + n ≤ b.size := by omega
    have hi1 : (i : Int) < ((chs l b a).length : Int) := by omega
    have hi2 : i ≤ 41 := by omega
    obtain ⟨⟨V1, V2⟩, hVV⟩ : ∃ p, VV l b (a + n) = p := ⟨_, rfl⟩
    obtain ⟨⟨R1, R2⟩, hR⟩ : ∃ p, run l b a i = p := ⟨_, rfl⟩
    obtain ⟨B, hB⟩ : ∃ B, vlen t = B := ⟨_, rfl⟩
    have hv : V1 ≤ 1024 ∧ V2 ≤ 40960 := by have := VV_bound hok hb (a + n); rw [hVV] at this; exact this
    have hrb : R1 ≤ 1099511627776 ∧ R2 ≤ 50000 := by have := run_bound hok hb ha i (Nat.le_of_lt hlt); rw [hR] at this; exact this
    have ho1 : cT t = 1 := (oc_tok t f3 f4).1
    have ho2 : 8 * B ≤ 40 := by have := (oc_tok t f3 f4).2; unfold oc at this; rw [hB] at this; exact this
    have hgo : k + 1 - (m + 1) - 1 = k - m - 1 := by omega
    have hbt := bits_f k t (by omega)
    rw [hB] at hbt
    have GO := Lib.hid (fun x' y' (h' : Tb l b a (run l b a (i + 1)) x' y') => costs_l1 hok hb ha m (i + 1) k x' y' (by omega) (by omega) h')
    have hrs := run_succ l b a i hlt
    rw [hc, val_step, hVV, hR] at hrs
    have HRS0 := Lib.hid hrs
    have HI1 := Lib.hid hi1
    have HB := Lib.hid hB
    have HO1 := Lib.hid ho1
    clear h hi1 hlt hcl hrs hB ho1
    have W1 := Lib.hid (show wrap64 ((a : Int) + (n : Int)) = ((a + n : Nat) : Int) by rw [w64 (by omega) (by omega)]; omega)
    have W2 := Lib.hid (show wrap64 (1 + (V1 : Int)) = ((1 + V1 : Nat) : Int) by rw [w64 (by omega) (by omega)]; omega)
    have W3 := Lib.hid (show wrap64 (((8 * B : Nat) : Int) + (V2 : Int)) = ((8 * B + V2 : Nat) : Int) by rw [w64 (by omega) (by omega)]; omega)
    have W4 := Lib.hid (show wrap64 ((i : Int) + 1) = ((i + 1 : Nat) : Int) by rw [w64 (by omega) (by omega)]; omega)
    have b1 : (0 : Int) ≤ (i : Int) := by omega
    have b2 : (0 : Int) ≤ ((a + n : Nat) : Int) := by omega
    have hlx := ht.lx
    have hly := ht.ly
    have b3 : ((a + n : Nat) : Int) < (x.length : Int) := by omega
    have b4 : ((a + n : Nat) : Int) < (y.length : Int) := by omega
    have b5 : (0 : Int) ≤ (a : Int) := by omega
    have b6 : (a : Int) < (x.length : Int) := by omega
    have b7 : (a : Int) < (y.length : Int) := by omega
    have hrs := HRS0.out
    have hadd : add (oc t) (V1, V2) = (1 + V1, 8 * B + V2) := by unfold add oc; rw [HO1.out, HB.out]
    rw [hadd] at hrs
    have hr : rd_T82 (chs l b a) (i : Int) = ⟨t, n⟩ := by unfold rd_T82; rw [Int.toNat_natCast, hc]
    have r1 : rd x ((a + n : Nat) : Int) = (V1 : Int) := by have := ht.bx (a + n) hn1 hn2; rw [hVV] at this; unfold rd; rw [Int.toNat_natCast]; exact this
    have r2 : rd y ((a + n : Nat) : Int) = (V2 : Int) := by have := ht.by' (a + n) hn1 hn2; rw [hVV] at this; unfold rd; rw [Int.toNat_natCast]; exact this
    have r3 : rd x (a : Int) = (R1 : Int) := by have := ht.ax; rw [hR] at this; unfold rd; rw [Int.toNat_natCast]; exact this
    have r4 : rd y (a : Int) = (R2 : Int) := by have := ht.ay; rw [hR] at this; unfold rd; rw [Int.toNat_natCast]; exact this
    have ht1 := ht.put (Nat.le_of_lt ha) (1 + V1, 8 * B + V2)
    have hrun : lower (R1, R2) (1 + V1, 8 * B + V2) = if 1 + V1 < R1 ∨ (1 + V1 = R1 ∧ 8 * B + V2 < R2) then (1 + V1, 8 * B + V2) else (R1, R2) := rfl
    rw [hrun] at hrs
    have HRS := Lib.hid hrs
    have HT := Lib.hid ht
    have HT1 := Lib.hid ht1
    have HR := Lib.hid hR
    clear hrs ht ht1 hR hVV hc hs hadd hrun hok hb HRS0
    rw [hgo]
    simp only [lexiphaneref1_Costs.l1, hr]
    rw [if_pos HI1.out, if_pos b1, if_pos HI1.out, W1.out, if_pos b2, if_pos b3, hbt]
    simp only [Option.bind_some]
    rw [if_pos b4, if_pos b5, if_pos b6, r1, r2, r3, r4, W2.out, W3.out, W4.out, Int.toNat_natCast]
    by_cases h1 : 1 + V1 < R1
    · have h1' : ((1 + V1 : Nat) : Int) < (R1 : Int) := by omega
      rw [if_pos h1', if_pos b7]
      exact GO.out _ _ (by rw [HRS.out, if_pos (.inl h1)]; exact HT1.out)
    · have h1' : ¬ ((1 + V1 : Nat) : Int) < (R1 : Int) := by omega
      rw [if_neg h1']
      by_cases h2 : 1 + V1 = R1
      · have h2' : ((1 + V1 : Nat) : Int) = (R1 : Int) := by omega
        rw [if_pos h2', if_pos b7]
        by_cases h3 : 8 * B + V2 < R2
        · have h3' : ((8 * B + V2 : Nat) : Int) < (R2 : Int) := by omega
          rw [if_pos h3']
          exact GO.out _ _ (by rw [HRS.out, if_pos (.inr ⟨h2, h3⟩)]; exact HT1.out)
        · have h3' : ¬ ((8 * B + V2 : Nat) : Int) < (R2 : Int) := by omega
          rw [if_neg h3']
          exact GO.out _ _ (by rw [HRS.out, if_neg (fun hc => by rcases hc with hc | hc; exact h1 hc; exact h3 hc.2), ← HR.out]; exact HT.out)
      · have h2' : ¬ ((1 + V1 : Nat) : Int) = (R1 : Int) := by omega
        rw [if_neg h2']
        exact GO.out _ _ (by rw [HRS.out, if_neg (fun hc => by rcases hc with hc | hc; exact h1 hc; exact h2 hc.1), ← HR.out]; exact HT.out)
theorem costs_l0 {l : List ByteArray} (hok : okTexts l) {b : ByteArray} (hb : b.size ≤ 1024) : ∀ (c k : Nat) (x y : List Int), c ≤ b.size → 45 * c + 200 < k → x.length = b.size + 1 → y.length = b.size + 1 → (∀ j, c ≤ j → j ≤ b.size → x.getD j 0 = ((VV l b j).1 : Int)) → (∀ j, c ≤ j → j ≤ b.size → y.getD j 0 = ((VV l b j).2 : Int)) →
    lexiphaneref1_Costs.l0 k l b x y ((c : Int) - 1) = some (CT l b, CB l b)
  | c, 0, x, y, _, hk, _, _, _, _ => absurd hk (by omega)
  | 0, k + 1, x, y, h, hk, h1, h2, h3, h4 => by
    simp only [lexiphaneref1_Costs.l0]
    rw [if_neg (by omega)]
    have e1 : x = CT l b := ext_at (by rw [h1, CT_len]) (fun j hj => by rw [h3 j (by omega) (by omega), CT_at l b j (by omega)])
    have e2 : y = CB l b := ext_at (by rw [h2, CB_len]) (fun j hj => by rw [h4 j (by omega) (by omega), CB_at l b j (by omega)])
    rw [e1, e2]
  | c + 1, k + 1, x, y, h, hk, h1, h2, h3, h4 => by
    have hl100 : l.length ≤ 100 := hok.1
    have e0 : (((c + 1 : Nat) : Int) - 1) = (c : Int) := by omega
    rw [e0]
    have ht : Tb l b c (run l b c 0) (x.set c 1099511627776) (y.set c 0) := by
      have : Tb l b c (((x.getD c 0).toNat, (y.getD c 0).toNat) : Cst) x y ∨ True := .inr trivial
      rw [run_zero]
      refine ⟨by rw [List.length_set]; exact h1, by rw [List.length_set]; exact h2, ?_, ?_, fun j hj hb' => ?_, fun j hj hb' => ?_⟩
      · rw [set_at _ _ _ _ (by omega), if_pos rfl]
        rfl
      · rw [set_at _ _ _ _ (by omega), if_pos rfl]
        rfl
      · rw [set_at _ _ _ _ (by omega), if_neg (by omega), h3 j (by omega) hb']
      · rw [set_at _ _ _ _ (by omega), if_neg (by omega), h4 j (by omega) hb']
    have hcl := chs_le l b c
    obtain ⟨x', y', hT, he⟩ := costs_l1 hok hb (a := c) (by omega) (chs l b c).length 0 k _ _ (by omega) (by omega) ht
    have w1 : wrap64 ((c : Int) - 1) = (c : Int) - 1 := w64 (by omega) (by omega)
    simp only [lexiphaneref1_Costs.l0]
    rw [if_pos (by omega), if_pos (by omega), if_pos (by omega), if_pos (by omega), choices_f l b c (by omega) (by omega) (by omega) k (by omega)]
    simp only [Option.bind_some]
    rw [Int.toNat_natCast]
    have he' := he
    rw [w1] at he'
    refine he'.trans ?_
    refine costs_l0 hok hb c _ x' y' (by omega) (by omega) hT.lx hT.ly (fun j hj hb' => ?_) (fun j hj hb' => ?_)
    · by_cases hjc : j = c
      · rw [hjc, hT.ax]
      · exact hT.bx j (by omega) hb'
    · by_cases hjc : j = c
      · rw [hjc, hT.ay]
      · exact hT.by' j (by omega) hb'
theorem costs_f {l : List ByteArray} (hok : okTexts l) {b : ByteArray} (hb : b.size ≤ 1024) (k : Nat) (hk : 50000 ≤ k) : lexiphaneref1_Costs.f k l b = some (CT l b, CB l b) := by
  have w1 : wrap64 ((b.size : Int) + 1) = ((b.size + 1 : Nat) : Int) := by rw [w64 (by omega) (by omega)]; omega
  have w2 : wrap64 ((b.size : Int) - 1) = (b.size : Int) - 1 := w64 (by omega) (by omega)
  have hz : ∀ j, b.size ≤ j → j ≤ b.size → (List.replicate (b.size + 1) (0 : Int)).getD j 0 = 0 := fun j _ _ => by
    rw [List.getD_eq_getElem?_getD, List.getElem?_replicate]
    split <;> rfl
  have hV : VV l b b.size = (0, 0) := by unfold VV; rw [Nat.sub_self]; rfl
  unfold lexiphaneref1_Costs.f
  rw [w1, w2, if_pos (by omega), Int.toNat_natCast, if_pos (by omega)]
  refine costs_l0 hok hb b.size k _ _ (Nat.le_refl _) (by omega) (by rw [List.length_replicate]) (by rw [List.length_replicate]) (fun j h1 h2 => ?_) (fun j h1 h2 => ?_)
  · rw [hz j h1 h2, show j = b.size by omega, hV]; rfl
  · rw [hz j h1 h2, show j = b.size by omega, hV]; rfl
/-! ### the tokens -/
theorem stands_down (l : List ByteArray) (b : ByteArray) (a : Nat) : ∀ n, (standsDown l b a n).Pairwise (· > ·)
  | 0 => List.Pairwise.nil
  | n + 1 => by
    unfold standsDown
    split
    · refine List.Pairwise.cons (fun x hx => ?_) (stands_down l b a n)
      obtain ⟨m, h1, h2, h3, h4⟩ := (standsDown_mem l b a x n).1 hx
      show ((n + 1 : Nat) : Int) > x
      omega
    · exact stands_down l b a n
/-- Of the choices an earlier one is longer, but for a byte's. -/
theorem chs_sorted (l : List ByteArray) (b : ByteArray) (a i j : Nat) (hij : i < j) (hj : j < (chs l b a).length) :
    ((chs l b a).getD j z82).f1 < ((chs l b a).getD i z82).f1 ∨ ((chs l b a).getD j z82 = ⟨byteAt b a, 1⟩ ∧ ∃ m : Nat, (chs l b a).getD i z82 = ⟨tokenOf l b a m, m⟩ ∧ 1 ≤ m ∧ has (piece b a m) l = true ∧ m ≤ b.size - a) := by
  rw [chs_len] at hj
  have at1 : ∀ i, i < (stands_ l b a).length → (chs l b a).getD i z82 = tk l b a ((stands_ l b a).getD i 0) := fun i h => by
    unfold chs
    rw [List.getD_eq_getElem?_getD, List.getElem?_append_left (by rw [List.length_map]; exact h), List.getElem?_map, List.getD_eq_getElem?_getD, List.getElem?_eq_getElem h]
    rfl
  by_cases h : j < (stands_ l b a).length
  · left
    rw [at1 i (by omega), at1 j h]
    have hp := stands_down l b a (min 40 (b.size - a))
    have h2 := List.pairwise_iff_getElem.1 hp i j (by show i < (stands_ l b a).length; omega) h hij
    show (stands_ l b a).getD j 0 < (stands_ l b a).getD i 0
    rw [List.getD_eq_getElem?_getD, List.getD_eq_getElem?_getD, List.getElem?_eq_getElem h, List.getElem?_eq_getElem (by omega)]
    exact h2
  · right
    have he : j = (stands_ l b a).length := by omega
    refine ⟨?_, ?_⟩
    · unfold chs
      rw [List.getD_eq_getElem?_getD, List.getElem?_append_right (by rw [List.length_map]; omega), List.length_map, he, Nat.sub_self]
      rfl
    · obtain ⟨m, hm, m1, m40, mb, mh⟩ := stands_mem l b a i (by omega)
      refine ⟨m, ?_, m1, mh, mb⟩
      rw [at1 i (by omega), hm]
      unfold tk
      rw [Int.toNat_natCast]
/-- Where a byte is taken, no phrase costs as little. -/
theorem byte_alone {l : List ByteArray} (hok : okTexts l) {b : ByteArray} (hb : b.size ≤ 1024) {a : Nat} (ha : a < b.size) (hF : FF l b a = (byteAt b a, 1)) {t : Int} {m : Nat} (ht : (t, m) ∈ phr l b a l.length) : by_ (stq l b) oc (b.size - a) (t, m) ≠ VV l b a := by
  intro he
  obtain ⟨q, hq⟩ : ∃ q, b.size - a = q + 1 := ⟨b.size - a - 1, by omega⟩
  have hst : stq l b (q + 1) = steps l b a := by rw [← hq]; unfold stq; rw [if_neg (by omega), show b.size - (b.size - a) = a by omega]
  have hfine := fine hok hb
  have hse := step_eq (stq l b) oc q (fun s hs => (hfine.pos _ (by omega) s hs).1)
  have hlt := by_lt hfine (q + 1) (by omega)
  obtain ⟨t1, t2, t3, t4⟩ := steps_taken hok hb ha
  rw [hst] at hse hlt
  unfold steps at hse hlt t3
  rw [bestOf_snoc] at hse
  rw [hq] at he t3
  have hV : VV l b a = V (stq l b) oc (q + 1) := by unfold VV; rw [hq]
  have hFF : FF l b a = F (stq l b) oc (q + 1) := by unfold FF; rw [hq]
  rw [← hV, ← hFF] at hse
  rcases best_so_far (by_ (stq l b) oc (q + 1)) (phr l b a l.length) (fun s hs => hlt s (List.mem_append_left _ hs)) with ⟨h1, _⟩ | ⟨h1, h2, h3, h4⟩
  · rw [h1] at ht
    simp at ht
  · have h5 := h3 _ ht
    rw [he] at h5
    have h6 := t3 _ (List.mem_append_left _ h1)
    rw [← h2] at h6
    have h7 := lt_total h5 h6
    obtain ⟨j, hj, _, hpj⟩ := (phr_mem l b a _ _).1 h1
    have hpos := hok.2 j hj
    have hup : upd (by_ (stq l b) oc (q + 1)) (bestOf (by_ (stq l b) oc (q + 1)) (phr l b a l.length)) (byteAt b a, 1) = bestOf (by_ (stq l b) oc (q + 1)) (phr l b a l.length) := by
      refine upd_same _ _ _ (fun hc => ?_)
      rcases hc with hc | ⟨_, hc⟩
      · rw [← h7] at hc
        exact t3 _ (List.mem_append_right _ List.mem_cons_self) hc
      · rw [hpj] at hc
        have h8 : (l.getD j no).size < 1 := hc
        exact hpos.1 (by omega)
    rw [hup] at hse
    have h9 : FF l b a = (bestOf (by_ (stq l b) oc (q + 1)) (phr l b a l.length)).2 := by rw [← hse]
    rw [hF, hpj] at h9
    injection h9 with h9 _
    have := byteAt_lt b a
    omega
/-- The first choice that costs what is least is the program's step. -/
theorem first_is {l : List ByteArray} (hok : okTexts l) {b : ByteArray} (hb : b.size ≤ 1024) {a : Nat} (ha : a < b.size) (i : Nat) (hi : i < (chs l b a).length) (hv : val l b a ((chs l b a).getD i z82) = VV l b a) (hf : ∀ j, j < i → val l b a ((chs l b a).getD j z82) ≠ VV l b a) :
    (chs l b a).getD i z82 = ⟨(FF l b a).1, ((FF l b a).2 : Int)⟩ := by
  obtain ⟨t1, t2, t3, t4⟩ := steps_taken hok hb ha
  obtain ⟨j, hj, he⟩ := step_chs (t := (FF l b a).1) (m := (FF l b a).2) hok ha t1
  have hvj : val l b a ((chs l b a).getD j z82) = VV l b a := by rw [he, val_by hok ha (t := (FF l b a).1) (m := (FF l b a).2) t1]; exact t2.symm
  by_cases hij : i = j
  · rw [hij]; exact he
  · by_cases hji : j < i
    · exact absurd hvj (hf j hji)
    · obtain ⟨t, m, hc, hs⟩ := chs_at hok ha i hi
      rw [hc, val_by hok ha hs] at hv
      have hle := t4 _ hs hv
      rcases chs_sorted l b a i j (by omega) hj with h1 | ⟨h1, m', h2, h3, h4, h5⟩
      · rw [he, hc] at h1
        simp only at h1 hle
        omega
      · exfalso
        rw [he] at h1
        injection h1 with h1 h1'
        rw [h2] at hc
        injection hc with hc1 hc2
        have hm : m = m' := by omega
        subst hm
        have hph : (t, m) ∈ phr l b a l.length := by
          rcases List.mem_append.1 (pick_step h3 (by omega) h4) with h | h
          · rw [← hc1]; exact h
          · rw [List.mem_singleton] at h
            injection h with h _
            have hby := byteAt_lt b a
            unfold tokenOf at h
            rw [if_pos h4] at h
            omega
        exact byte_alone hok hb ha (by rw [← h1]; exact Prod.ext rfl (by simp only; omega)) hph hv
theorem some_is {l : List ByteArray} (hok : okTexts l) {b : ByteArray} (hb : b.size ≤ 1024) {a : Nat} (ha : a < b.size) : ∃ i, i < (chs l b a).length ∧ val l b a ((chs l b a).getD i z82) = VV l b a := by
  obtain ⟨t1, t2, _, _⟩ := steps_taken hok hb ha
  obtain ⟨j, hj, he⟩ := step_chs (t := (FF l b a).1) (m := (FF l b a).2) hok ha t1
  exact ⟨j, hj, by rw [he, val_by hok ha (t := (FF l b a).1) (m := (FF l b a).2) t1]; exact t2.symm⟩
/-! ### contracts -/
theorem ref_costs (A : Option Addr) (c : Nat) (l : List ByteArray) (b : ByteArray) (w : World) (h : KS.C w A l.length l) (hc : l.length ≤ c) (hok : okTexts l) (hb : b.size ≤ 1024) :
    Calls Try.prog 19 #[.slice A l.length c, .string b] w fun e w' => ∃ v u : Value, e = .returned (.tuple #[v, u]) ∧ KI.R 3 w' w.heap.size (fun k => some k ≠ u.ownBlock) v (CT l b) ∧ KI.R 3 w' w.heap.size (fun k => some k ≠ v.ownBlock) u (CB l b) ∧ Below w.heap.size w w' :=
  lexiphaneref1_Costs.calls 50000 A c l b _ _ w h hc (costs_f hok hb 50000 (Nat.le_refl _))
end Go.Proofs.Ytfiflloieojgbaa.Best

namespace Go.Proofs.Ytfiflloieojgbaa.Best
set_option linter.unusedVariables false
set_option linter.unusedSimpArgs false
open Go.RowKit Go.Proofs.YtfiflloieojgbaaW.PrintWords Go.Proofs.YtfiflloieojgbaaW.PrintMore Go.Proofs.YtfiflloieojgbaaW.PrintLast Go.Proofs.Ytfiflloieojgbaa.L Go.Proofs.Ytfiflloieojgbaa.Texts Go.Proofs.Ytfiflloieojgbaa.Dict Go.Proofs.Ytfiflloieojgbaa.Ints Go.Proofs.Ytfiflloieojgbaa.Greedy Go.Proofs.Ytfiflloieojgbaa.Cost Go.Proofs.Ytfiflloieojgbaa.Fl Go.Proofs.Ytfiflloieojgbaa.Say Go.Proofs.Ytfiflloieojgbaa.VariSpec Go.Proofs.Ytfiflloieojgbaa.PBestTells

/-- The tables of a piece: they stay while blocks B0 .. B1 do. -/
structure TBS (wq : World) (B0 B1 : Nat) (A5 A6 : Option Addr) (l : List ByteArray) (s : ByteArray) : Prop where
  keep : ∀ W : World, (∀ k, B0 ≤ k → k < B1 → W.heap[k]? = wq.heap[k]?) → KI.C W A5 (s.size + 1) (CT l s) ∧ KI.C W A6 (s.size + 1) (CB l s)
theorem tbs_new {w w5 : World} {A5 A6 : Option Addr} {c5 c6 : Nat} {l : List ByteArray} {s : ByteArray} {ok ok' : Nat → Prop} (h5 : KI.R 3 w5 w.heap.size ok (.slice A5 (CT l s).length c5) (CT l s)) (h6 : KI.R 3 w5 w.heap.size ok' (.slice A6 (CB l s).length c6) (CB l s)) : TBS w5 w.heap.size w5.heap.size A5 A6 l s := by
  refine ⟨fun W hW => ⟨?_, ?_⟩⟩
  · have := (Kd.R_reads' (own_move' h5 (w1 := W) (fun g hg => hW g (own_base (Kd.own_of_R h5) g hg) (own_lt h5 g hg)))).2.2
    rwa [CT_len] at this
  · have := (Kd.R_reads' (own_move' h6 (w1 := W) (fun g hg => hW g (own_base (Kd.own_of_R h6) g hg) (own_lt h6 g hg)))).2.2
    rwa [CB_len] at this
theorem chs_cells {w : World} {A : Option Addr} {n : Nat} {xs : List S82} (h : Kd.C k82 w A n xs) (i : Nat) (hi : i < n) {t : Int} {m : Nat} (hx : xs.getD i z82 = ⟨t, m⟩) :
    ∃ ad, A = some ad ∧ w.cell? (ad.add (i * 2)) = some (.int .i64 t) ∧ w.cell? ⟨(ad.add (i * 2)).block, (ad.add (i * 2)).off + 1, none⟩ = some (.int .i64 m) := by
  have := at_T82 h (i : Int) (by omega) (by omega)
  unfold rd_T82 at this
  rw [Int.toNat_natCast, hx] at this
  exact this
theorem addr_at2 (g a k : Nat) : (⟨g, a, none⟩ : Addr).add k = ⟨g, a + k, none⟩ := by
  unfold Addr.add
  by_cases h : k = 0
  · subst h; simp
  · simp [h]
theorem eq_nat (X T : Nat) : ((X : Int) == (T : Int)) = decide (X = T) := by
  by_cases h : X = T
  · rw [h]; simp
  · rw [decide_eq_false h]
    simp only [beq_eq_false_iff_ne, ne_eq]
    omega
set_option maxRecDepth 100000 in
set_option maxHeartbeats 4000000 in
theorem ref_best (A : Option Addr) (c : Nat) (l : List ByteArray) (b : ByteArray) (W : Nat) (w : World) (h : KS.C w A l.length l) (hc : l.length ≤ c) (hok : okTexts l) (hb : b.size ≤ 400) (W1 : 1 ≤ W) (W2 : W ≤ 1024) :
    Calls Try.prog 21 #[.slice A l.length c, .string b, .int .i64 W] w fun e w' => ∃ v : Value, e = .returned v ∧ KI.R 3 w' w.heap.size (fun _ => True) v (best l W b) ∧ Below w.heap.size w w' := by
  have HL := Lib.hid h
  have HOK := Lib.hid hok
  have hbi : (b.size : Int) ≤ 400 := by omega
  have wi : (W : Int) ≤ 1024 := by omega
  clear h hok
  go_enter Try.func21, Try.ntmps21
  go_wp2_with (fail)
  go_loopg [7, 8] b.size (fun j v i wr => ∃ (a : Nat) (xs : List Int), i = .int .i64 a ∧ Hid (b.size ≤ a + j ∧ xs.length ≤ a ∧ best l W b = xs ++ best l W (b.extract a b.size) ∧ KI.R 3 wr w.heap.size (fun _ => True) v xs ∧ Below w.heap.size w wr))
  case atStart => exact ⟨0, [], rfl, by omega, Nat.le_refl _, by rw [ext_all b b.size (Nat.le_refl _), List.nil_append], Kd.R_nil _ _ _ _ _, Below.refl _ _⟩
  case round =>
    obtain ⟨a, xs, rfl, HI⟩ := hrel
    by_cases hlt : a < b.size
    · obtain ⟨wo, rfl⟩ : ∃ x : World, x = wr := ⟨_, rfl⟩
      obtain ⟨hj, hxa, hgo, hr, hbw⟩ := HI.out
      have hst := best_fromR l W W1 b a hlt
      obtain ⟨E, hE⟩ : ∃ E, min (a + W) b.size = E := ⟨_, rfl⟩
      rw [hE] at hst
      have hEi : min ((a : Int) + (W : Int)) (b.size : Int) = (E : Int) := by omega
      have aE : a < E := by omega
      have Eb : E ≤ b.size := by omega
      have eE : b.extract E b.size = b.extract (a + W) b.size := by
        by_cases h : a + W ≤ b.size
        · rw [show E = a + W by omega]
        · rw [empty_of (s := b.extract E b.size) (by rw [ByteArray.size_extract]; omega), empty_of (s := b.extract (a + W) b.size) (by rw [ByteArray.size_extract]; omega)]
      rw [eE] at hst
      obtain ⟨s, hs⟩ : ∃ s, b.extract a E = s := ⟨_, rfl⟩
      have hss : s.size = E - a := by rw [← hs, ByteArray.size_extract]; omega
      rw [hs] at hst
      rw [hst] at hgo
      obtain ⟨A4, c4, rfl⟩ := Kd.R_slice hr
      have HGO := Lib.hid hgo
      have HJ := Lib.hid hj
      have HXA := Lib.hid hxa
      have HR := Lib.hid hr
      have HBW := Lib.hid hbw
      have i0 : (0 : Int) ≤ (a : Int) := by omega
      have i1 : (a : Int) < (b.size : Int) := by omega
      have i2 : ((a : Int)).toNat = a := by omega
      have j0 : (0 : Int) ≤ (E : Int) := by omega
      have j1 : (E : Int) ≤ (b.size : Int) := by omega
      have j2 : ((E : Int)).toNat = E := by omega
      have j3 : (a : Int) ≤ (E : Int) := by omega
      have sl1 : 1 ≤ s.size := by omega
      have sl2 : s.size ≤ 400 := by omega
      have sl3 : (s.size : Int) ≤ 400 := by omega
      have HSW := Lib.hid (show s.size ≤ W by omega)
      clear hj hxa hgo hr hbw HI hst hE eE hss
      go_wp2_with (fail)
      refine (ref_costs A c l s _ (Kd.C_below HL.out HBW.out) hc HOK.out (by omega)).mono ?_
      rintro e w5 ⟨vt, vu, rfl, ht, hu, hb5⟩
      obtain ⟨A5, c5, rfl⟩ := Kd.R_slice ht
      obtain ⟨A6, c6, rfl⟩ := Kd.R_slice hu
      have HT := Lib.hid (tbs_new ht hu)
      have HB5 := Lib.hid (Ints.bel_trans HBW.out HBW.out.size hb5)
      have HR5 := Lib.hid (Kd.R_below HR.out hb5)
      have HOW := Lib.hid (show ∀ q, Value.ownBlock (.slice A4 xs.length c4) = some q → q < wo.heap.size ∨ w5.heap.size ≤ q from fun q hq => .inl (own_lt HR.out q hq))
      have HB0 := Lib.hid (show w.heap.size ≤ wo.heap.size from HBW.out.size)
      rw [CT_len, CB_len]
      obtain ⟨B0, hB0⟩ : ∃ x, wo.heap.size = x := ⟨_, rfl⟩
      obtain ⟨B1, hB1⟩ : ∃ x, w5.heap.size = x := ⟨_, rfl⟩
      rw [hB0, hB1] at HT HOW
      rw [hB0] at HB0
      have HB1 := Lib.hid hB1
      clear ht hu hb5 hB0 hB1 HR HBW
      go_wp2_with (fail)
      go_loopg [7, 12] s.size (fun j v i wq => ∃ (x : Nat) (ys : List Int), i = .int .i64 x ∧ Hid (s.size ≤ x + j ∧ x ≤ s.size ∧ ys.length ≤ xs.length + x ∧ best l W b = ys ++ (toks l s x ++ best l W (b.extract (a + W) b.size)) ∧ KI.R 3 wq w.heap.size (fun _ => True) v ys ∧ (∀ k, B0 ≤ k → k < B1 → wq.heap[k]? = w5.heap[k]?) ∧ (∀ q, v.ownBlock = some q → q < B0 ∨ B1 ≤ q) ∧ B1 ≤ wq.heap.size ∧ Below w.heap.size w wq))
      case atStart => exact ⟨0, xs, rfl, by omega, Nat.zero_le _, Nat.le_refl _, HGO.out, HR5.out, fun _ _ _ => rfl, HOW.out, Nat.le_of_eq HB1.out.symm, HB5.out⟩
      case round =>
        obtain ⟨x, ys, rfl, HX⟩ := hrel
        clear HR5 HOW HB5 HGO
        obtain ⟨hxj, hxs', hyl, hgo, hry, hkp, how, hbz, hby⟩ := HX.out
        by_cases hxs : x < s.size
        · obtain ⟨wi', rfl⟩ : ∃ q : World, q = wr := ⟨_, rfl⟩
          have HXJ := Lib.hid hxj
          have HYL := Lib.hid hyl
          have HGO := Lib.hid hgo
          obtain ⟨A7, c7, rfl⟩ := Kd.R_slice hry
          have HRY := Lib.hid hry
          have HKP := Lib.hid hkp
          have HOW := Lib.hid how
          have HBZ := Lib.hid hbz
          have HBY := Lib.hid hby
          have yl : ys.length ≤ 800 := by have := HXA.out; omega
          have x0 : (0 : Int) ≤ (x : Int) := by omega
          have x1 : (x : Int) < (s.size : Int) := by omega
          have x2 : ((x : Int)).toNat = x := by omega
          have xi : (x : Int) ≤ 400 := by omega
          have hcl := chs_le l s x
          have HFF := Lib.hid (FF_fit HOK.out (s := s) (by omega) hxs)
          have HTS := Lib.hid (toks_step HOK.out (s := s) (by omega) hxs)
          have HSI := Lib.hid (some_is HOK.out (b := s) (by omega) hxs)
          have HFI := Lib.hid (fun i hi hv hf => first_is HOK.out (b := s) (by omega) hxs i hi hv hf)
          have HCA := Lib.hid (fun i hi => chs_at HOK.out hxs i hi)
          have HSF := Lib.hid (fun z hz => steps_fit HOK.out hxs (s := z) hz)
          have HCF := Lib.hid (choices_f l s x (by have := HOK.out.1; omega) (by omega) hxs 300 (by have := HOK.out.1; omega))
          clear hxj hxs' hyl hgo hry hkp how hbz hby HX
          go_wp2_with (fail)
          refine (lexiphaneref1_choices.calls 300 A c l s (x : Int) _ _ (Kd.C_below HL.out HBY.out) hc HCF.out).mono ?_
          rintro e w6 ⟨v6, rfl, hr6, hb6⟩
          obtain ⟨g8, c8, rfl, hg8a, hg8b, cells8, hg8c⟩ := Kd.R_form hr6 (by rw [chs_len]; omega)
          have HC6 := Lib.hid (Kd.R_reads' hr6).2.2
          have HG8 := Lib.hid (show g8 < w6.heap.size from hg8b)
          have HGO8 := Lib.hid (show Value.ownBlock (.slice A7 ys.length c7) ≠ some g8 from fun e => by have := own_lt HRY.out g8 e; omega)
          have HB6 := Lib.hid hb6
          have HR6 := Lib.hid (Kd.R_below HRY.out hb6)
          obtain ⟨L, hL⟩ : ∃ L, (chs l s x).length = L := ⟨_, rfl⟩
          rw [hL] at HC6 hcl ⊢
          have HLL := Lib.hid hL
          clear hr6 hb6 hL hg8a hg8b hg8c
          go_wp2_with (fail)
          go_loopg [7, 12, 14] L (fun j o y i wr => o = .slice A7 ys.length c7 ∧ y = .int .i64 x ∧ ∃ q : Nat, q + j = L ∧ i = .int .i64 q ∧ Hid ((∀ j', j' < q → val l s x ((chs l s x).getD j' z82) ≠ VV l s x) ∧ Below w6.heap.size w6 wr))
          case atStart => exact ⟨rfl, rfl, 0, by omega, rfl, fun j' h => absurd h (Nat.not_lt_zero j'), Below.refl _ _⟩
          case round =>
            obtain ⟨rfl, rfl, q, hq, rfl, HQ⟩ := hrel
            by_cases hqL : q < L
            · obtain ⟨hnot, hbq⟩ := HQ.out
              obtain ⟨t, n, hct, hstp⟩ := HCA.out q (by rw [HLL.out]; exact hqL)
              have hf := HSF.out _ hstp
              simp only at hf
              obtain ⟨f1, f2, f3, f4⟩ := hf
              have hch : ∀ W : World, W.heap[g8]? = w6.heap[g8]? → W.cell? ⟨g8, q * 2, none⟩ = some (.int .i64 t) ∧ W.cell? ⟨g8, q * 2 + 1, none⟩ = some (.int .i64 (n : Int)) := fun W hW => by
                obtain ⟨ad, ha, z0, z1⟩ := chs_cells HC6.out q hqL hct
                injection ha with ha
                subst ha
                rw [addr_at2, Nat.zero_add] at z0 z1
                have hW1 : W.cell? ⟨g8, q * 2, none⟩ = w6.cell? ⟨g8, q * 2, none⟩ := World.cell?_of_block (w := w6) hW
                have hW2 : W.cell? ⟨g8, q * 2 + 1, none⟩ = w6.cell? ⟨g8, q * 2 + 1, none⟩ := World.cell?_of_block (w := w6) hW
                exact ⟨hW1.trans z0, hW2.trans z1⟩
              have HCH := Lib.hid hch
              have htc : ∀ W : World, Below w6.heap.size w6 W → KI.C W A5 (s.size + 1) (CT l s) ∧ KI.C W A6 (s.size + 1) (CB l s) := fun W hW => HT.out.keep W (fun k h1 h2 => by
                have h3 := HBZ.out
                have h4 := HB6.out.size
                exact (hW.block k (by omega)).trans ((HB6.out.block k (by omega)).trans (HKP.out k h1 h2)))
              have HTC := Lib.hid htc
              obtain ⟨P, hP⟩ : ∃ P, x + n = P := ⟨_, rfl⟩
              have hPs : P ≤ s.size := by omega
              obtain ⟨⟨V1, V2⟩, hV⟩ : ∃ z, VV l s P = z := ⟨_, rfl⟩
              obtain ⟨⟨T0, B0'⟩, hV0⟩ : ∃ z, VV l s x = z := ⟨_, rfl⟩
              obtain ⟨B8, hB8⟩ : ∃ z, 8 * vlen t = z := ⟨_, rfl⟩
              have hval : val l s x ⟨t, (n : Int)⟩ = (1 + V1, B8 + V2) := by
                rw [val_step, hP, hV]
                have ho1 : cT t = 1 := (oc_tok t f3 f4).1
                unfold add oc
                rw [ho1, hB8]
              have hvb : V1 ≤ 1024 ∧ V2 ≤ 40960 := by have := VV_bound HOK.out (b := s) (by omega) P; rw [hV] at this; exact this
              have hob : B8 ≤ 40 := by have := (oc_tok t f3 f4).2; unfold oc at this; rw [hB8] at this; exact this
              have ct1 := CT_at l s P hPs
              have ct2 := CT_at l s x (by omega)
              have cb1 := CB_at l s P hPs
              have cb2 := CB_at l s x (by omega)
              rw [hV] at ct1 cb1
              rw [hV0] at ct2 cb2
              simp only at ct1 ct2 cb1 cb2
              obtain ⟨bd, rfl, -⟩ := ints_at (htc wr hbq).1 P (by omega)
              obtain ⟨ed, rfl, -⟩ := ints_at (htc wr hbq).2 P (by omega)
              have hld : ∀ W : World, Below w6.heap.size w6 W → W.cell? (bd.add P) = some (.int .i64 (V1 : Int)) ∧ W.cell? (bd.add x) = some (.int .i64 (T0 : Int)) ∧ W.cell? (ed.add P) = some (.int .i64 (V2 : Int)) ∧ W.cell? (ed.add x) = some (.int .i64 (B0' : Int)) := fun W hW => by
                obtain ⟨h1, h2⟩ := HTC.out W hW
                obtain ⟨d1, e1, k1⟩ := ints_at h1 P (by omega)
                obtain ⟨d2, e2, k2⟩ := ints_at h1 x (by omega)
                obtain ⟨d3, e3, k3⟩ := ints_at h2 P (by omega)
                obtain ⟨d4, e4, k4⟩ := ints_at h2 x (by omega)
                injection e1 with e1
                injection e2 with e2
                injection e3 with e3
                injection e4 with e4
                subst e1 e2 e3 e4
                rw [ct1] at k1
                rw [ct2] at k2
                rw [cb1] at k3
                rw [cb2] at k4
                exact ⟨k1, k2, k3, k4⟩
              have HLD := Lib.hid hld
              have hbf := fun W => lexiphaneref1_Bits.calls 10 t ((8 * vlen t : Nat) : Int) W (bits_f 10 t (Nat.le_refl _))
              rw [hB8] at hbf
              have HBF := Lib.hid hbf
              have HNOT := Lib.hid hnot
              have HBQ := Lib.hid hbq
              have HCT := Lib.hid hct
              have HVAL := Lib.hid hval
              have HV0 := Lib.hid hV0
              have HPP := Lib.hid hP
              have HN1 := Lib.hid f1
              have HQ2 := Lib.hid hq
              clear hch htc hval hct hV hV0 hB8 hld hbf hnot hbq ct1 ct2 cb1 cb2 HQ hstp hq
              obtain ⟨z0, z1⟩ := HCH.out wr (HBQ.out.block g8 HG8.out)
              obtain ⟨y1, y2, y3, y4⟩ := HLD.out wr HBQ.out
              have q0 : (0 : Int) ≤ (q : Int) := by omega
              have q1 : (q : Int) < (L : Int) := by omega
              have q2 : ((q : Int)).toNat = q := by omega
              have p0 : (0 : Int) ≤ (P : Int) := by omega
              have p1 : (P : Int) < (s.size : Int) + 1 := by omega
              have p2 : ((P : Int)).toNat = P := by omega
              have p3 : (x : Int) < (s.size : Int) + 1 := by omega
              obtain ⟨X, hX⟩ : ∃ X, 1 + V1 = X := ⟨_, rfl⟩
              obtain ⟨Y, hY⟩ : ∃ Y, B8 + V2 = Y := ⟨_, rfl⟩
              have pe : (x : Int) + (n : Int) = (P : Int) := by omega
              have pw : IntKind.i64.wrap (P : Int) = (P : Int) := by rw [IntKind.wrap_i64]; omega
              have xe : 1 + (V1 : Int) = (X : Int) := by omega
              have xw : IntKind.i64.wrap (X : Int) = (X : Int) := by rw [IntKind.wrap_i64]; omega
              have ye : (B8 : Int) + (V2 : Int) = (Y : Int) := by omega
              have yw : IntKind.i64.wrap (Y : Int) = (Y : Int) := by rw [IntKind.wrap_i64]; omega
              rw [hX, hY] at HVAL
              have HX1 := Lib.hid hX
              have HY1 := Lib.hid hY
              have ni : (n : Int) ≤ 400 := by omega
              have li : (L : Int) ≤ 41 := by omega
              clear hP hX hY hvb hob f1 f2 hPs hcl
              go_wp2_with (fail)
              go_cut [90] (fun bv wc => bv = .bool (decide (val l s x ⟨t, (n : Int)⟩ = VV l s x)) ∧ Hid (Below w6.heap.size w6 wc))
              case first =>
                by_cases h1 : X = T0
                · have e1 : ((X : Int) == (T0 : Int)) = true := by rw [eq_nat]; exact decide_eq_true h1
                  have HD := Lib.hid (show decide (val l s x ⟨t, (n : Int)⟩ = VV l s x) = ((Y : Int) == (B0' : Int)) by
                    rw [HVAL.out, HV0.out, eq_nat]
                    exact decide_eq_decide.2 ⟨fun h => congrArg Prod.snd h, fun h => by rw [h1, h]⟩)
                  clear h1
                  go_region_held3 (fun w' => w'.cell? ⟨g8, q * 2, none⟩ = some (.int .i64 t) ∧ w'.cell? ⟨g8, q * 2 + 1, none⟩ = some (.int .i64 (n : Int)) ∧ w'.cell? (bd.add P) = some (.int .i64 (V1 : Int)) ∧ w'.cell? (bd.add x) = some (.int .i64 (T0 : Int)) ∧ w'.cell? (ed.add P) = some (.int .i64 (V2 : Int)) ∧ w'.cell? (ed.add x) = some (.int .i64 (B0' : Int))) (first | exact ⟨z0, z1, y1, y2, y3, y4⟩ | exact ⟨zz0, zz1, yy1, yy2, yy3, yy4⟩ | go_keep)
                    (first
                      | (go_at_call 39; (with_reducible refine Calls.mono (HBF.out _) ?_); rintro e w7 ⟨rfl, hb7⟩; have HB7 := Lib.hid (show Below w6.heap.size w6 w7 from HBQ.out.trans (((below_drew (Below.refl wr.heap.size wr)).trans hb7).mono HBQ.out.size)); obtain ⟨zz0, zz1⟩ := HCH.out w7 (HB7.out.block g8 HG8.out); obtain ⟨yy1, yy2, yy3, yy4⟩ := HLD.out w7 HB7.out; clear hb7))
                  all_goals
                    go_wp2_with (fail)
                    go_meet
                    case rel => exact ⟨by rw [HD.out], HB7.out⟩
                · have e1 : ((X : Int) == (T0 : Int)) = false := by rw [eq_nat]; exact decide_eq_false h1
                  have HD := Lib.hid (show decide (val l s x ⟨t, (n : Int)⟩ = VV l s x) = false by
                    rw [HVAL.out, HV0.out]
                    exact decide_eq_false (fun h => h1 (congrArg Prod.fst h)))
                  clear h1
                  go_region
                  go_wp2_with (fail)
                  go_meet
                  case rel => exact ⟨by rw [HD.out], below_drew HBQ.out⟩
              case rest =>
                obtain ⟨rfl, HBC⟩ := hcut
                clear z0 z1 y1 y2 y3 y4 pw xe xw ye yw HLD
                obtain ⟨z0, z1⟩ := HCH.out wc (HBC.out.block g8 HG8.out)
                by_cases hv : val l s x ⟨t, (n : Int)⟩ = VV l s x
                · rw [decide_eq_true hv]
                  have hfi := HFI.out q (by have := HLL.out; omega) (by rw [HCT.out]; exact hv) HNOT.out
                  rw [HCT.out] at hfi
                  injection hfi with e1 e2
                  have e3 : (FF l s x).2 = n := by omega
                  have hts := HTS.out
                  rw [← e1, e3, HPP.out] at hts
                  have hgo := HGO.out
                  rw [hts] at hgo
                  have HGO2 := Lib.hid hgo
                  have HRC := Lib.hid (Kd.R_below HR6.out HBC.out)
                  have HBYC := Lib.hid (Ints.bel_trans (Ints.bel_trans HBY.out HBY.out.size HB6.out) (Ints.bel_trans HBY.out HBY.out.size HB6.out).size HBC.out)
                  have HSZ := Lib.hid (show w6.heap.size ≤ wc.heap.size from HBC.out.size)
                  have HGC := Lib.hid (show wc.heap[g8]? = w6.heap[g8]? from HBC.out.block g8 HG8.out)
                  have HZC := Lib.hid (show B1 ≤ wc.heap.size by have h1 := HBZ.out; have h2 := HB6.out.size; have h3 := HBC.out.size; omega)
                  have HKC := Lib.hid (show ∀ k, B0 ≤ k → k < B1 → wc.heap[k]? = w5.heap[k]? from fun k h1 h2 => by
                    have h3 := HBZ.out
                    have h4 := HB6.out.size
                    exact (HBC.out.block k (by omega)).trans ((HB6.out.block k (by omega)).trans (HKP.out k h1 h2)))
                  have hnx : P ≤ s.size := by omega
                  have HNP := Lib.hid (show 1 ≤ n from HN1.out)
                  clear hv e1 e2 e3 hts hgo HBQ HBC
                  go_wp2_with (((with_reducible refine gate_builtin (b := .append) (xs := #[.tmp 91, .tmp 97]) rfl ?_); at_builtin; apply stopper))
                  unfold Stopper
                  refine Kd.R_append KI (w0 := w) w.heap.size rfl (.tmp 91) (.tmp 97) 27 3 (.int .i64 0) 8 rfl Try.underlying27 infoInt rfl (by decide) (by omega) (.slice A7 ys.length c7) ys t [.int .i64 t] (fun _ => True) (fun _ => False) rfl rfl rfl (fun _ hk => hk.elim) (fun _ _ => trivial) HRC.out HBYC.out HBYC.out.size (by omega) ?_
                  intro v9 w9 ho9 hb9 hg9 hat9
                  have HR9 := Lib.hid ho9
                  have HB9 := Lib.hid hb9
                  have HK9 := Lib.hid (show ∀ k, B0 ≤ k → k < B1 → w9.heap[k]? = w5.heap[k]? from fun k h1 h2 => (hg9.block k (by have := HZC.out; omega) (fun e => by have := HOW.out k e.symm; omega)).trans (HKC.out k h1 h2))
                  have HO9 := Lib.hid (show ∀ z, v9.ownBlock = some z → z < B0 ∨ B1 ≤ z from fun z hz => by
                    rcases hat9 with e | ⟨b', e, hb'⟩
                    · exact HOW.out z (e ▸ hz)
                    · rw [e] at hz
                      injection hz with hz
                      have := HZC.out
                      omega)
                  have HZ9 := Lib.hid (show B1 ≤ w9.heap.size from Nat.le_trans HZC.out hg9.size)
                  have hgw : w9.heap[g8]? = wc.heap[g8]? := hg9.block g8 (by exact Nat.lt_of_lt_of_le HG8.out HSZ.out) (fun e => HGO8.out e.symm)
                  obtain ⟨zz0, zz1⟩ := HCH.out w9 (hgw.trans HGC.out)
                  clear ho9 hb9 hg9 hat9 hgw z0 z1
                  go_wp2_with (fail)
                  go_roundg (s.size - P)
                  case measure => have := HXJ.out; have := HPP.out; have := HNP.out; omega
                  case rel => exact ⟨P, ys ++ [t], by go_num, by omega, by omega, by rw [List.length_append]; have := HYL.out; have := HPP.out; have := HNP.out; simp; omega, by rw [HGO2.out, List.append_assoc]; rfl, HR9.out, HK9.out, HO9.out, HZ9.out, HB9.out⟩
                · rw [decide_eq_false hv]
                  have HNV := Lib.hid hv
                  clear hv
                  go_wp2_with (fail)
                  go_roundg (L - (q + 1))
                  case measure => have := HQ2.out; omega
                  case rel => exact ⟨rfl, rfl, q + 1, by have := HQ2.out; omega, by go_num, fun j' hj' => by
                    by_cases hjq : j' = q
                    · rw [hjq, HCT.out]; exact HNV.out
                    · exact HNOT.out j' (by omega), HBC.out⟩
            · exfalso
              obtain ⟨j', hj', hv⟩ := HSI.out
              exact HQ.out.1 j' (by have := HLL.out; omega) hv
        · obtain rfl : x = s.size := by omega
          rw [toks_end l s s.size (Nat.le_refl _), List.nil_append] at hgo
          have HGO := Lib.hid hgo
          have HRY := Lib.hid hry
          have HBY := Lib.hid hby
          have HYL := Lib.hid hyl
          clear hxj hxs' hyl hgo hry hkp how hbz hby HX
          go_wp2_with (fail)
          go_roundg (b.size - (a + W))
          case measure => have := HJ.out; omega
          case rel => exact ⟨a + W, ys, by go_num, by have := HJ.out; omega, by have := HYL.out; have := HXA.out; have := HSW.out; omega, HGO.out, HRY.out, HBY.out⟩
    · obtain ⟨hj, hxa, hgo, hr, hbw⟩ := HI.out
      rw [best_from_endR l W b a (by omega), List.append_nil] at hgo
      have hae : (b.size : Int) ≤ (a : Int) := by omega
      have HGO := Lib.hid hgo
      have HR := Lib.hid hr
      have HBW := Lib.hid hbw
      clear hj hxa hgo hr hbw HI
      go_wp2_with (fail)
      go_ret
      exact ⟨_, rfl, by rw [HGO.out]; exact HR.out, HBW.out⟩
end Go.Proofs.Ytfiflloieojgbaa.Best

