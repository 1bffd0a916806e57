/- Chapter 15: of more phrases, of a whole block, of a tail: in plain Lean. -/
import Derived.Test.YtfiflloieojgbaaBestParse
namespace Go.Proofs.Ytfiflloieojgbaa.Best
set_option linter.unusedVariables false
set_option linter.unusedSimpArgs false
open Go.RowKit Go.Proofs.YtfiflloieojgbaaW.PrintWords Go.Proofs.YtfiflloieojgbaaW.PrintMore Go.Proofs.Ytfiflloieojgbaa.L Go.Proofs.Ytfiflloieojgbaa.Texts Go.Proofs.Ytfiflloieojgbaa.Dict Go.Proofs.Ytfiflloieojgbaa.Ints Go.Proofs.Ytfiflloieojgbaa.Greedy Go.Proofs.Ytfiflloieojgbaa.Cost Go.Proofs.Ytfiflloieojgbaa.Fl

theorem ext_all (b : ByteArray) (m : Nat) (h : b.size ≤ m) : b.extract 0 m = b := by
  apply ByteArray.ext
  have h : b.data.size ≤ m := h
  rw [ByteArray.data_extract]
  exact Array.extract_eq_self_of_le h
/-- In one window. -/
theorem best_one {l : List ByteArray} {win : Nat} {b : ByteArray} (hw : 1 ≤ win) (h : b.size ≤ win) : best l win b = toks l b 0 := by
  by_cases h0 : b.size = 0
  · rw [best_end _ _ _ h0, toks_end _ _ _ (by omega)]
  · rw [best_step l win hw b h0, show min win b.size = b.size by omega, ext_all b b.size (Nat.le_refl _), best_end _ _ _ (by rw [ByteArray.size_extract]; omega), List.append_nil]
/-- As many tokens as the cost says. -/
theorem sum_len {st : Nat → List Stp} {oc : Int → Cst} {n : Nat} (h : Fine st oc n) : ∀ (ss : List Stp) (q : Nat), q ≤ n → Path st q ss → (sum oc ss).1 = ss.length
  | [], q, _, hp => rfl
  | s :: ss, q, hq, hp => by
    have h1 := h.one q hq s hp.1
    have h2 := h.pos q hq s hp.1
    have h3 := sum_len h ss (q - s.2) (by omega) hp.2
    show (oc s.1).1 + (sum oc ss).1 = _
    rw [h1, h3, List.length_cons]
    omega
/-- The path of the tokens of a place on. -/
def stps (l : List ByteArray) (s : ByteArray) (a : Nat) : List Stp := parse (stq l s) oc (s.size - a) (s.size - a)
theorem toks_eq (l : List ByteArray) (s : ByteArray) (a : Nat) : toks l s a = (stps l s a).map Prod.fst := rfl
theorem stps_path {l : List ByteArray} (hok : okTexts l) {s : ByteArray} (hs : s.size ≤ 1024) (a : Nat) : Path (stq l s) (s.size - a) (stps l s a) ∧ sum oc (stps l s a) = VV l s a :=
  parse_path (fine hok hs) _ _ (Nat.le_refl _) (by omega)
theorem toks_len {l : List ByteArray} (hok : okTexts l) {s : ByteArray} (hs : s.size ≤ 1024) (a : Nat) : (toks l s a).length = (VV l s a).1 := by
  rw [toks_eq, List.length_map, ← (stps_path hok hs a).2]
  exact (sum_len (fine hok hs) _ _ (by omega) (stps_path hok hs a).1).symm
/-- No path is shorter. -/
theorem no_shorter {l : List ByteArray} (hok : okTexts l) {s : ByteArray} (hs : s.size ≤ 1024) (a : Nat) (ss : List Stp) (h : Path (stq l s) (s.size - a) ss) : (toks l s a).length ≤ ss.length ∧ ¬ lt (sum oc ss) (VV l s a) := by
  have h1 := least (fine hok hs) ss _ (by omega) h
  have h2 := sum_len (fine hok hs) ss _ (by omega) h
  refine ⟨?_, h1⟩
  rw [toks_len hok hs, ← h2]
  have h3 : VV l s a = V (stq l s) oc (s.size - a) := rfl
  rw [h3]
  unfold lt at h1
  omega
/-! ### of more phrases -/
theorem getD_left (l m : List ByteArray) (j : Nat) (h : j < l.length) : (l ++ m).getD j no = l.getD j no := by
  rw [List.getD_eq_getElem?_getD, List.getElem?_append_left h, ← List.getD_eq_getElem?_getD]
theorem stands_left (l m : List ByteArray) (b : ByteArray) (a j : Nat) (h : j < l.length) : stands (l ++ m) b a j = stands l b a j := by unfold stands; rw [getD_left l m j h]
theorem steps_left (l m : List ByteArray) (b : ByteArray) (a : Nat) (s : Stp) (h : s ∈ steps l b a) : s ∈ steps (l ++ m) b a := by
  unfold steps at *
  rw [List.mem_append] at *
  rcases h with h | h
  · left
    obtain ⟨j, h1, h2, h3⟩ := (phr_mem l b a s _).1 h
    exact (phr_mem _ b a s _).2 ⟨j, by rw [List.length_append]; omega, by rw [stands_left l m b a j h1]; exact h2, by rw [getD_left l m j h1]; exact h3⟩
  · exact .inr h
theorem path_left (l m : List ByteArray) (b : ByteArray) : ∀ (ss : List Stp) (q : Nat), Path (stq l b) q ss → Path (stq (l ++ m) b) q ss
  | [], q, h => h
  | s :: ss, q, h => by
    refine ⟨?_, path_left l m b ss _ h.2⟩
    have h1 := h.1
    unfold stq at *
    by_cases h0 : q = 0
    · rw [if_pos h0] at h1
      simp at h1
    · rw [if_neg h0] at *
      exact steps_left l m b _ s h1
theorem best_more {l m : List ByteArray} (hl : okTexts l) (hm : okTexts (l ++ m)) {b : ByteArray} (hb : b.size ≤ 1024) : (best (l ++ m) 1024 b).length ≤ (best l 1024 b).length := by
  rw [best_one (by decide) hb, best_one (by decide) hb, toks_eq l, List.length_map]
  exact (no_shorter hm hb 0 _ (path_left l m b _ _ (stps_path hl hb 0).1)).1
/-! ### of a tail -/
theorem tail_steps (l : List ByteArray) (b : ByteArray) (k a : Nat) (h : k + a < b.size) : steps l (b.extract k b.size) a = steps l b (k + a) := by
  have hst : ∀ j, stands l (b.extract k b.size) a j = stands l b (k + a) j := by
    intro j
    unfold stands
    rw [ByteArray.size_extract, ByteArray.extract_extract, show min (k + (min b.size b.size - k)) b.size = b.size by omega]
  have hph : ∀ n, phr l (b.extract k b.size) a n = phr l b (k + a) n := by
    intro n
    induction n with
    | zero => rfl
    | succ n ih => rw [phr, phr, hst, ih]
  have hby : byteAt (b.extract k b.size) a = byteAt b (k + a) := by
    unfold byteAt
    have hs : b.data.size = b.size := rfl
    have : (b.extract k b.size).data.toList.getD a 0 = b.data.toList.getD (k + a) 0 := by
      rw [ByteArray.data_extract, List.getD_eq_getElem?_getD, List.getD_eq_getElem?_getD, Array.getElem?_toList, Array.getElem?_toList, Array.getElem?_extract, if_pos (by omega)]
    rw [this]
  unfold steps
  rw [hph, hby]
theorem V_congr {st st' : Nat → List Stp} {oc : Int → Cst} (n : Nat) (h : ∀ q, q ≤ n → st q = st' q) (hp : ∀ q, q ≤ n → ∀ s ∈ st q, 1 ≤ s.2) : ∀ q, q ≤ n → V st oc q = V st' oc q ∧ F st oc q = F st' oc q := by
  have key : ∀ m q, q ≤ m → q ≤ n → V st oc q = V st' oc q ∧ F st oc q = F st' oc q := by
    intro m
    induction m with
    | zero =>
      intro q hq _
      obtain rfl : q = 0 := by omega
      exact ⟨rfl, rfl⟩
    | succ m ih =>
      intro q hq hn
      by_cases h0 : q = 0
      · subst h0
        exact ⟨rfl, rfl⟩
      · obtain ⟨r, rfl⟩ : ∃ r, q = r + 1 := ⟨q - 1, by omega⟩
        have e1 := step_eq st oc r (hp _ hn)
        have e2 := step_eq st' oc r (by rw [← h _ hn]; exact hp _ hn)
        have e3 : bestOf (by_ st oc (r + 1)) (st (r + 1)) = bestOf (by_ st' oc (r + 1)) (st' (r + 1)) := by
          rw [← h _ hn]
          have hpp := hp _ hn
          have hby : ∀ s ∈ st (r + 1), by_ st oc (r + 1) s = by_ st' oc (r + 1) s := by
            intro s hs
            have := hpp s hs
            unfold by_
            rw [(ih (r + 1 - s.2) (by omega) (by omega)).1]
          unfold bestOf
          generalize (M, ((0, 0) : Stp)) = z
          generalize st (r + 1) = ss at hby
          induction ss generalizing z with
          | nil => rfl
          | cons s ss ihs =>
            rw [List.foldl_cons, List.foldl_cons, show upd (by_ st oc (r + 1)) z s = upd (by_ st' oc (r + 1)) z s by unfold upd; rw [hby s List.mem_cons_self]]
            exact ihs _ (fun s' hs' => hby s' (List.mem_cons_of_mem _ hs'))
        rw [e3, ← e2] at e1
        exact ⟨congrArg Prod.fst e1, congrArg Prod.snd e1⟩
  intro q hq
  exact key q q (Nat.le_refl _) hq
theorem tail_VV {l : List ByteArray} (hok : okTexts l) {b : ByteArray} (hb : b.size ≤ 1024) (k j : Nat) (h : k ≤ b.size) : VV l (b.extract k b.size) j = VV l b (k + j) := by
  have hs : (b.extract k b.size).size = b.size - k := by rw [ByteArray.size_extract]; omega
  unfold VV
  rw [hs, show b.size - k - j = b.size - (k + j) by omega]
  refine (V_congr (b.size - k) (fun q hq => ?_) (fun q hq s hs' => ?_) _ (by omega)).1
  · unfold stq
    by_cases h0 : q = 0
    · rw [if_pos h0, if_pos h0]
    · rw [if_neg h0, if_neg h0, hs, tail_steps l b k _ (by omega), show k + (b.size - k - q) = b.size - q by omega]
  · exact ((fine hok (b := b.extract k b.size) (by omega)).pos q (by omega) s hs').1
/-! ### of a whole text -/
theorem VV_pos {l : List ByteArray} (hok : okTexts l) {b : ByteArray} (hb : b.size ≤ 1024) (j : Nat) (h : j < b.size) : 1 ≤ (VV l b j).1 := by
  have h1 := taken (fine hok hb) (b.size - j) (by omega) (by omega)
  have h2 := (fine hok hb).one _ (by omega) _ h1.1
  have h3 : VV l b j = V (stq l b) oc (b.size - j) := rfl
  rw [h3, h1.2.1]
  unfold by_ add
  simp only
  omega
theorem stands_whole (b : ByteArray) : stands [b] b 0 0 = true := by
  refine (stands_iff _ _ _ _ (Nat.zero_le _)).2 ⟨?_, ?_⟩
  · show b.size ≤ b.size - 0
    omega
  · exact piece_all b
theorem ok_one (b : ByteArray) (h1 : 1 ≤ b.size) (h40 : b.size ≤ 40) : okTexts [b] := by
  refine ⟨by simp, fun k hk => ?_⟩
  obtain rfl : k = 0 := by simpa using hk
  refine ⟨?_, ?_, ?_, Nat.zero_le _⟩
  · show b.size ≠ 0
    omega
  · show b.size ≤ 40
    omega
  · show b.size + 0 ≤ 1000
    omega
theorem whole (b : ByteArray) (h2 : 2 ≤ b.size) (h40 : b.size ≤ 40) (win : Nat) (hw : b.size ≤ win) : best [b] win b = [256] := by
  have hok := ok_one b (by omega) h40
  have hb : b.size ≤ 1024 := by omega
  rw [best_one (by omega) hw, toks_step hok hb (by omega : 0 < b.size)]
  have h1 := taken (fine hok hb) (b.size - 0) (by omega) (by omega)
  have hst : stq [b] b (b.size - 0) = [((256 : Int), b.size), (byteAt b 0, 1)] := by
    unfold stq
    rw [if_neg (by omega), show b.size - (b.size - 0) = 0 by omega]
    unfold steps
    show (if stands [b] b 0 0 = true then [] ++ [(256 + ((0 : Nat) : Int), b.size)] else []) ++ _ = _
    rw [if_pos (stands_whole b)]
    rfl
  have hF : F (stq [b] b) oc (b.size - 0) = FF [b] b 0 := rfl
  rw [hst, hF] at h1
  have : FF [b] b 0 = ((256 : Int), b.size) := by
    have h3 := h1.1
    simp only [List.mem_cons, List.not_mem_nil, or_false] at h3
    rcases h3 with h3 | h3
    · exact h3
    · exfalso
      have h4 := h1.2.2.1 _ List.mem_cons_self
      rw [h1.2.1, h3] at h4
      have hv := VV_pos hok hb 1 (by omega)
      have hv2 : VV [b] b 1 = V (stq [b] b) oc (b.size - 1) := rfl
      have o1 := (oc_tok 256 (by decide) (by decide)).1
      have hby := byteAt_lt b 0
      have o2 := (oc_tok (byteAt b 0) (by omega) (by omega)).1
      unfold by_ add lt at h4
      simp only [Nat.sub_zero, Nat.sub_self, V_zero] at h4
      rw [← hv2] at h4
      omega
  rw [this, toks_end _ _ _ (by simp only; omega)]
theorem singles (l : List ByteArray) (hok : okTexts l) (h2 : ∀ k, k < l.length → 2 ≤ (l.getD k no).size) : ∀ (n : Nat) (c : ByteArray), c.size = n → (best l 1 c).length = n ∧ ∀ i, i < n → (best l 1 c).getD i 0 = byteAt c i
  | 0, c, h => by rw [best_end _ _ _ h]; exact ⟨rfl, fun i hi => absurd hi (Nat.not_lt_zero i)⟩
  | n + 1, c, h => by
    have hz := ext_size c 1 (by omega)
    have ih := singles l hok h2 n (c.extract 1 c.size) (by omega)
    have ht : toks l (c.extract 0 1) 0 = [byteAt c 0] := by
      have hs1 : (c.extract 0 1).size = 1 := hz.1
      rw [toks_step hok (by omega) (by omega : 0 < (c.extract 0 1).size)]
      have h1 := (taken (fine hok (b := c.extract 0 1) (by omega)) (1 - 0) (by omega) (by omega)).1
      have hF : F (stq l (c.extract 0 1)) oc (1 - 0) = FF l (c.extract 0 1) 0 := by unfold FF; rw [hs1]
      rw [hF] at h1
      unfold stq at h1
      rw [if_neg (by omega), hs1] at h1
      have hb0 : byteAt (c.extract 0 1) 0 = byteAt c 0 := by
        unfold byteAt
        have hcs : c.data.size = c.size := rfl
        rw [ByteArray.data_extract, List.getD_eq_getElem?_getD, List.getD_eq_getElem?_getD, Array.getElem?_toList, Array.getElem?_toList, Array.getElem?_extract, if_pos (by omega)]
      rcases List.mem_append.1 h1 with h3 | h3
      · exfalso
        obtain ⟨j, h4, h5, _⟩ := (phr_mem l _ _ _ _).1 h3
        have h6 := (stands_iff l (c.extract 0 1) (1 - (1 - 0)) j (by omega)).1 h5
        have := h2 j h4
        omega
      · rw [List.mem_singleton] at h3
        rw [h3, toks_end _ _ _ (by simp only; omega)]
        show [byteAt (c.extract 0 1) 0] = _
        rw [hb0]
    rw [best_step l 1 (by decide) c (by omega), show min 1 c.size = 1 by omega, ht]
    refine ⟨by rw [List.length_append, ih.1]; simp; omega, fun i hi => ?_⟩
    cases i with
    | zero => rfl
    | succ i =>
      show (best l 1 (c.extract 1 c.size)).getD i 0 = _
      rw [ih.2 i (by omega)]
      unfold byteAt
      have hcs : c.data.size = c.size := rfl
      rw [ByteArray.data_extract, List.getD_eq_getElem?_getD, List.getD_eq_getElem?_getD, Array.getElem?_toList, Array.getElem?_toList, Array.getElem?_extract, if_pos (by omega), Nat.add_comm 1 i]
end Go.Proofs.Ytfiflloieojgbaa.Best
