/- Of the parts RefBestT: what the rows use. -/
import Derived.Test.YtfbbcfhdjhiejaaGreatZa1
import Derived.Test.YtfbbcfhdjhiejaaGreatZa16
import Derived.Test.YtfbbcfhdjhiejaaGreatZa17
/- Chapter 15: the document's costs and tokens: what the printed models of its functions compute: in plain Lean; and the contracts. -/
namespace Go.Proofs.YtfbbcfhdjhiejaaGreat.Best
set_option linter.unusedVariables false
set_option linter.unusedSimpArgs false
open Go.RowKit Go.Proofs.YtfbbcfhdjhiejaaGreatW.PrintWords Go.Proofs.YtfbbcfhdjhiejaaGreatW.PrintMore Go.Proofs.YtfbbcfhdjhiejaaGreatW.PrintLast Go.Proofs.YtfbbcfhdjhiejaaGreat.L Go.Proofs.YtfbbcfhdjhiejaaGreat.Texts Go.Proofs.YtfbbcfhdjhiejaaGreat.Dict Go.Proofs.YtfbbcfhdjhiejaaGreat.Ints Go.Proofs.YtfbbcfhdjhiejaaGreat.Greedy Go.Proofs.YtfbbcfhdjhiejaaGreat.Cost Go.Proofs.YtfbbcfhdjhiejaaGreat.Fl Go.Proofs.YtfbbcfhdjhiejaaGreat.Say Go.Proofs.YtfbbcfhdjhiejaaGreat.VariSpec Go.Proofs.YtfbbcfhdjhiejaaGreat.PBestTells
theorem best_fromR (l : List ByteArray) (win : Nat) (hw : 1 ≤ win) (b : ByteArray) (a : Nat) (ha : a < b.size) : best l win (b.extract a b.size) = toks l (b.extract a (min (a + win) b.size)) 0 ++ best l win (b.extract (min (a + win) b.size) b.size) := by
 have hs : (b.extract a b.size).size = b.size - a := by rw [ByteArray.size_extract]; omega
 rw [best_step l win hw _ (by omega), hs, ByteArray.extract_extract, ByteArray.extract_extract, Nat.add_zero, show min (a + min win (b.size - a)) b.size = min (a + win) b.size by omega, show a + min win (b.size - a) = min (a + win) b.size by omega, show min (a + (b.size - a)) b.size = b.size by omega]
theorem best_from_endR (l : List ByteArray) (win : Nat) (b : ByteArray) (a : Nat) (ha : b.size ≤ a) : best l win (b.extract a b.size) = [] := best_end _ _ _ (by rw [ByteArray.size_extract]; omega)
theorem w64 {x : Int} (h0 : -(2 ^ 60) ≤ x) (h1 : x ≤ 2 ^ 60) : wrap64 x = x := by unfold wrap64; omega
theorem toList_inj (a b : ByteArray) : a.toList = b.toList ↔ a = b := by
 constructor
 ·intro h
  rw [ByteArray.toList_eq, ByteArray.toList_eq] at h
  apply ByteArray.ext
  exact Array.toList_inj.1 h
 ·rintro rfl; rfl
theorem find_l0 (l : List ByteArray) (s : ByteArray) (hl : l.length ≤ 1000) : ∀ (m p k : Nat), p + m = l.length → m < k → p ≤ idx s l → lexiphaneref1_Find.l0 k l s (p : Int) = some (find s l)
 | m, p, 0, _, hk, _ => absurd hk (by omega)
 | 0, p, k + 1, h, _, hp => by
   unfold lexiphaneref1_Find.l0 find
   rw [if_neg (by omega), if_neg (by omega)]
 | m + 1, p, k + 1, h, hk, hp => by
   have hlt : p < l.length := by omega
   have hi := idx_at s l p hlt hp
   unfold lexiphaneref1_Find.l0
   rw [if_pos (by omega), if_pos (by omega)]
   have e : rdOf ByteArray.empty l (p : Int) = l.getD p no := by unfold rdOf; rw [Int.toNat_natCast]; rfl
   rw [e]
   by_cases he : s = l.getD p no
   ·rw [if_pos ((toList_inj _ _).2 he.symm)]
    have h1 := hi.1 he
    unfold find
    rw [if_pos (by omega), h1]
   ·rw [if_neg (fun h2 => he ((toList_inj _ _).1 h2).symm), w64 (by omega) (by omega)]
    exact find_l0 l s hl m (p + 1) k (by omega) (by omega) (hi.2 he)
theorem find_f (l : List ByteArray) (s : ByteArray) (hl : l.length ≤ 1000) (k : Nat) (hk : l.length < k) : lexiphaneref1_Find.f k l s = some (find s l) := by
 unfold lexiphaneref1_Find.f
 exact find_l0 l s hl l.length 0 k (by omega) hk (Nat.zero_le _)
theorem find_nn (s : ByteArray) (l : List ByteArray) : find s l ≥ 0 ↔ has s l = true := by
 unfold find has
 rw [decide_eq_true_eq]
 split
 ·exact ⟨fun _ => by assumption, fun _ => by omega⟩
 ·exact ⟨fun h => absurd h (by omega), fun h => absurd h (by assumption)⟩
theorem stands_l0 (l : List ByteArray) (b : ByteArray) (a : Nat) (hl : l.length ≤ 1000) (hb : b.size ≤ 1000000) : ∀ (n k : Nat) (acc : List Int), a + n ≤ b.size → n + l.length + 2 < k → acc.length + n < 100000 →
  lexiphaneref1_Stands.l0 k l b (a : Int) acc (n : Int) = some (acc ++ standsDown l b a n)
 | n, 0, acc, _, hk, _ => absurd hk (by omega)
 | 0, k + 1, acc, h, _, _ => by
   unfold lexiphaneref1_Stands.l0 standsDown
   rw [if_neg (by omega), List.append_nil]
 | n + 1, k + 1, acc, h, hk, ha => by
   have w1 : wrap64 ((a : Int) + ((n + 1 : Nat) : Int)) = ((a + (n + 1) : Nat) : Int) := by rw [w64 (by omega) (by omega)]; omega
   have w2 : wrap64 (((n + 1 : Nat) : Int) - 1) = (n : Int) := by rw [w64 (by omega) (by omega)]; omega
   unfold lexiphaneref1_Stands.l0
   rw [w1, w2, if_pos (by omega), if_pos (by omega), if_pos (by omega), if_pos (by omega), Int.toNat_natCast, Int.toNat_natCast, find_f l _ hl k (by omega)]
   simp only [Option.bind_some]
   unfold standsDown
   have hp : b.extract a (a + (n + 1)) = piece b a (n + 1) := rfl
   rw [hp]
   by_cases hh : has (piece b a (n + 1)) l = true
   ·rw [if_pos ((find_nn _ _).2 hh), if_pos hh, if_pos (by omega), stands_l0 l b a hl hb n k (acc ++ [((n + 1 : Nat) : Int)]) (by omega) (by omega) (by rw [List.length_append]; simp; omega), List.append_assoc]
    rfl
   ·rw [if_neg (fun h2 => hh ((find_nn _ _).1 h2)), if_neg hh]
    exact stands_l0 l b a hl hb n k acc (by omega) (by omega) (by omega)
theorem stands_f (l : List ByteArray) (b : ByteArray) (a : Nat) (hl : l.length ≤ 1000) (hb : b.size ≤ 1000000) (ha : a ≤ b.size) (k : Nat) (hk : l.length + 50 < k) : lexiphaneref1_Stands.f k l b (a : Int) = some (stands_ l b a) := by
 unfold lexiphaneref1_Stands.f
 have e : mn 40 (wrap64 ((b.size : Int) - (a : Int))) = ((min 40 (b.size - a) : Nat) : Int) := by
  rw [w64 (by omega) (by omega)]
  unfold mn
  split <;> omega
 rw [e, stands_l0 l b a hl hb _ k [] (by omega) (by omega) (by simp; omega)]
 rfl
theorem token_f (l : List ByteArray) (b : ByteArray) (a n : Nat) (hl : l.length ≤ 1000) (hb : b.size ≤ 1000000) (ha : a < b.size) (hn : a + n ≤ b.size) (k : Nat) (hk : l.length < k) : lexiphaneref1_Token.f k l b (a : Int) (n : Int) = some (tokenOf l b a n) := by
 have w1 : wrap64 ((a : Int) + (n : Int)) = ((a + n : Nat) : Int) := by rw [w64 (by omega) (by omega)]; omega
 unfold lexiphaneref1_Token.f
 rw [w1, if_pos (by omega), if_pos (by omega), if_pos (by omega), Int.toNat_natCast, Int.toNat_natCast, find_f l _ hl k hk]
 simp only [Option.bind_some]
 have hp : b.extract a (a + n) = piece b a n := rfl
 rw [hp]
 unfold tokenOf
 by_cases hh : has (piece b a n) l = true
 ·have hi : idx (piece b a n) l < l.length := by unfold has at hh; exact of_decide_eq_true hh
  rw [if_pos ((find_nn _ _).2 hh), if_pos hh]
  unfold find
  rw [if_pos hi, w64 (by omega) (by omega)]
 ·rw [if_neg (fun h2 => hh ((find_nn _ _).1 h2)), if_neg hh, if_pos (by omega)]
  have hby := byteAt_lt b a
  have e : bt b (a : Int) = byteAt b a := by
   unfold bt
   rw [dif_pos (by rw [Int.toNat_natCast]; exact ha)]
   have := bt_byteAt b a ha
   simpa using this
  rw [e, w64 (by omega) (by omega)]
/-! ### choices -/
def tk (l : List ByteArray) (b : ByteArray) (a : Nat) (m : Int) : S219 := ⟨tokenOf l b a m.toNat, m⟩
def chs (l : List ByteArray) (b : ByteArray) (a : Nat) : List S219 := (stands_ l b a).map (tk l b a) ++ [⟨byteAt b a, 1⟩]
theorem bt_eq (b : ByteArray) (a : Nat) (ha : a < b.size) : wrap64 (bt b (a : Int)) = byteAt b a := by
 have hby := byteAt_lt b a
 have e : bt b (a : Int) = byteAt b a := by
  unfold bt
  rw [dif_pos (by rw [Int.toNat_natCast]; exact ha)]
  have := bt_byteAt b a ha
  simpa using this
 rw [e, w64 (by omega) (by omega)]
theorem choices_l0 (l : List ByteArray) (b : ByteArray) (a : Nat) (hl : l.length ≤ 1000) (hb : b.size ≤ 1000000) (ha : a < b.size) : ∀ (m i k : Nat), i + m = (stands_ l b a).length → m + l.length + 2 < k →
  lexiphaneref1_choices.l0 k l b (a : Int) (((stands_ l b a).take i).map (tk l b a)) (stands_ l b a) (i : Int) = some (chs l b a)
 | m, i, 0, _, hk => absurd hk (by omega)
 | 0, i, k + 1, h, hk => by
   have hl40 := standsDown_len l b a (min 40 (b.size - a))
   have hl2 : (stands_ l b a).length = (standsDown l b a (min 40 (b.size - a))).length := rfl
   have hi : i = (stands_ l b a).length := by omega
   unfold lexiphaneref1_choices.l0
   rw [if_neg (by omega), if_pos (by omega), if_pos (by omega), if_pos (by rw [List.length_map, List.length_take]; omega), bt_eq b a ha, hi, List.take_length]
   rfl
 | m + 1, i, k + 1, h, hk => by
   have hl40 := standsDown_len l b a (min 40 (b.size - a))
   have hl2 : (stands_ l b a).length = (standsDown l b a (min 40 (b.size - a))).length := rfl
   have hlt : i < (stands_ l b a).length := by omega
   obtain ⟨n, hn, n1, n40, nb, nh⟩ := stands_mem l b a i hlt
   unfold lexiphaneref1_choices.l0
   have hrd : rd (stands_ l b a) (i : Int) = (n : Int) := by unfold rd; rw [Int.toNat_natCast, hn]
   rw [if_pos (by omega), if_pos (by omega), hrd, token_f l b a n hl hb ha (by omega) k (by omega)]
   simp only [Option.bind_some]
   rw [if_pos (by rw [List.length_map, List.length_take]; omega), w64 (by omega) (by omega)]
   have e : ((stands_ l b a).take i).map (tk l b a) ++ [(⟨tokenOf l b a n, (n : Int)⟩ : S219)] = ((stands_ l b a).take (i + 1)).map (tk l b a) := by
    rw [Ints.take_succ_getD _ i hlt, List.map_append, hn]
    rfl
   rw [e]
   exact choices_l0 l b a hl hb ha m (i + 1) k (by omega) (by omega)
theorem choices_f (l : List ByteArray) (b : ByteArray) (a : Nat) (hl : l.length ≤ 1000) (hb : b.size ≤ 1000000) (ha : a < b.size) (k : Nat) (hk : l.length + 50 < k) : lexiphaneref1_choices.f k l b (a : Int) = some (chs l b a) := by
 have hl40 := standsDown_len l b a (min 40 (b.size - a))
 have hl2 : (stands_ l b a).length = (standsDown l b a (min 40 (b.size - a))).length := rfl
 unfold lexiphaneref1_choices.f
 rw [stands_f l b a hl hb (by omega) k hk]
 simp only [Option.bind_some]
 have := choices_l0 l b a hl hb ha (stands_ l b a).length 0 k (by omega) (by omega)
 rw [List.take_zero] at this
 exact this
theorem chs_len (l : List ByteArray) (b : ByteArray) (a : Nat) : (chs l b a).length = (stands_ l b a).length + 1 := by unfold chs; rw [List.length_append, List.length_map]; rfl
theorem chs_le (l : List ByteArray) (b : ByteArray) (a : Nat) : (chs l b a).length ≤ 41 := by
 have hl40 := standsDown_len l b a (min 40 (b.size - a))
 have hl2 : (stands_ l b a).length = (standsDown l b a (min 40 (b.size - a))).length := rfl
 rw [chs_len]
 omega
/-- What a choice is: a step of the program's. -/
theorem chs_at {l : List ByteArray} (hok : okTexts l) {b : ByteArray} {a : Nat} (ha : a < b.size) (i : Nat) (hi : i < (chs l b a).length) :
  ∃ (t : Int) (m : Nat), (chs l b a).getD i z219 = ⟨t, m⟩ ∧ (t, m) ∈ steps l b a := by
 rw [chs_len] at hi
 by_cases h : i < (stands_ l b a).length
 ·obtain ⟨n, hn, n1, n40, nb, nh⟩ := stands_mem l b a i h
  refine ⟨tokenOf l b a n, n, ?_, pick_step n1 (by omega) nh⟩
  unfold chs
  rw [List.getD_eq_getElem?_getD, List.getElem?_append_left (by rw [List.length_map]; exact h), List.getElem?_map, List.getElem?_eq_getElem h]
  have e : (stands_ l b a)[i] = (n : Int) := by rw [← hn, List.getD_eq_getElem?_getD, List.getElem?_eq_getElem h]; rfl
  rw [e]
  rfl
 ·have he : i = (stands_ l b a).length := by omega
  refine ⟨byteAt b a, 1, ?_, List.mem_append_right _ List.mem_cons_self⟩
  unfold chs
  rw [List.getD_eq_getElem?_getD, List.getElem?_append_right (by rw [List.length_map]; omega), List.length_map, he, Nat.sub_self]
  rfl
/-! ### bits of a token -/
theorem number_l0 : ∀ (f : Nat) (n : Int) (acc : List Int) (k : Nat), 0 ≤ n → n < cap f → n ≤ 4294967295 → f < k → acc.length + f < 1000 →
  lexiphaneref1_Number.l0 k n acc = some (strOfNums (acc ++ encN f n), true)
 | f, n, acc, 0, _, _, _, hk, _ => absurd hk (by omega)
 | 0, n, acc, k + 1, h0, h1, hm, hk, hl => by
   simp only [cap] at h1
   simp only [lexiphaneref1_Number.l0, encN]
   rw [if_neg (by omega), if_pos (by omega), Int.emod_eq_of_lt h0 (by omega)]
 | f + 1, n, acc, k + 1, h0, h1, hm, hk, hl => by
   simp only [cap] at h1
   simp only [lexiphaneref1_Number.l0, encN]
   by_cases h : n ≥ 128
   ·have e : (wrap64 (128 + Int.tmod n 128)) % 256 = n % 128 + 128 := by
     rw [Int.tmod_eq_emod_of_nonneg h0]; unfold wrap64; omega
    have e2 : wrap64 (Int.tdiv n 128) = n / 128 := by
     rw [Int.tdiv_eq_ediv_of_nonneg h0]; unfold wrap64; omega
    rw [if_pos h, if_pos (by omega), if_pos (show 128 ≤ n from h), e, e2, number_l0 f (n / 128) _ k (by omega) (by omega) (by omega) (by omega) (by simp; omega)]
    simp
   ·rw [if_neg h, if_pos (by omega), if_neg h, Int.emod_eq_of_lt h0 (by omega)]
theorem number_f (k : Nat) (n : Int) (hk : 10 ≤ k) : lexiphaneref1_Number.f k n = some (if 0 ≤ n ∧ n ≤ 4294967295 then (strOfNums (encN 4 n), true) else ((⟨#[]⟩ : ByteArray), false)) := by
 obtain ⟨k, rfl⟩ : ∃ m, k = m + 1 := ⟨k - 1, by omega⟩
 unfold lexiphaneref1_Number.f
 by_cases h0 : n < 0
 ·rw [if_pos h0, if_neg (by omega)]; simp only [lexiphaneref1_Number.j0]; rw [if_pos trivial]
 ·rw [if_neg h0]
  simp only [lexiphaneref1_Number.j0]
  by_cases h1 : n > 4294967295
  ·rw [if_pos (by simpa using h1), if_neg (by omega)]
  ·rw [if_neg (by simpa using h1), if_pos (by omega), number_l0 4 n [] k (by omega) (by simp only [cap]; omega) (by omega) (by omega) (by simp)]
   simp
theorem bits_f (k : Nat) (n : Int) (hk : 10 ≤ k) : lexiphaneref1_Bits.f k n = some (((8 * vlen n : Nat)) : Int) := by
 have h5 := vlen_le n
 unfold lexiphaneref1_Bits.f
 rw [number_f k n hk]
 unfold vlen at h5 ⊢
 split
 ·rename_i hc
  rw [if_pos hc] at h5
  simp only [Option.bind_some, strOfNums_size]
  congr 1
  unfold wrap64
  omega
 ·have hz : ((⟨#[]⟩ : ByteArray).size : Int) = 0 := rfl
  simp only [Option.bind_some]
  congr 1
  unfold wrap64
  omega
/-! ### costs -/
def lower (c v : Cst) : Cst := if lt v c then v else c
def val (l : List ByteArray) (b : ByteArray) (a : Nat) (x : S219) : Cst := add (oc x.f0) (VV l b (a + x.f1.toNat))
def run (l : List ByteArray) (b : ByteArray) (a i : Nat) : Cst := ((chs l b a).take i).foldl (fun c x => lower c (val l b a x)) (1099511627776, 0)
theorem run_zero (l : List ByteArray) (b : ByteArray) (a : Nat) : run l b a 0 = (1099511627776, 0) := rfl
theorem run_succ (l : List ByteArray) (b : ByteArray) (a i : Nat) (h : i < (chs l b a).length) : run l b a (i + 1) = lower (run l b a i) (val l b a ((chs l b a).getD i z219)) := by
 unfold run
 rw [List.take_succ_eq_append_getElem h, List.foldl_append, List.getD_eq_getElem?_getD, List.getElem?_eq_getElem h]
 rfl
/-- Of all that were looked at none costs less; and it is one of them, or what it was. -/
theorem run_low (l : List ByteArray) (b : ByteArray) (a : Nat) : ∀ i, i ≤ (chs l b a).length → (∀ j, j < i → ¬ lt (val l b a ((chs l b a).getD j z219)) (run l b a i)) ∧ ¬ lt (1099511627776, 0) (run l b a i) ∧ (run l b a i = (1099511627776, 0) ∨ ∃ j, j < i ∧ run l b a i = val l b a ((chs l b a).getD j z219))
 | 0, _ => ⟨fun j hj => absurd hj (Nat.not_lt_zero j), lt_irrefl _, .inl rfl⟩
 | i + 1, h => by
   obtain ⟨h1, h2, h3⟩ := run_low l b a i (by omega)
   rw [run_succ l b a i (by omega)]
   unfold lower
   by_cases hc : lt (val l b a ((chs l b a).getD i z219)) (run l b a i)
   ·rw [if_pos hc]
    refine ⟨fun j hj => ?_, ?_, .inr ⟨i, by omega, rfl⟩⟩
    ·by_cases hji : j = i
     ·subst hji; exact lt_irrefl _
     ·have := h1 j (by omega)
      unfold lt at *
      omega
    ·unfold lt at *
     omega
   ·rw [if_neg hc]
    refine ⟨fun j hj => ?_, h2, ?_⟩
    ·by_cases hji : j = i
     ·subst hji; exact hc
     ·exact h1 j (by omega)
    ·rcases h3 with h3 | ⟨j, hj, h3⟩
     ·exact .inl h3
     ·exact .inr ⟨j, by omega, h3⟩
theorem val_step {l : List ByteArray} {b : ByteArray} {a : Nat} {t : Int} {m : Nat} : val l b a ⟨t, m⟩ = add (oc t) (VV l b (a + m)) := by unfold val; rw [Int.toNat_natCast]
theorem val_by {l : List ByteArray} (hok : okTexts l) {b : ByteArray} {a : Nat} (ha : a < b.size) {t : Int} {m : Nat} (h : (t, m) ∈ steps l b a) : val l b a ⟨t, m⟩ = by_ (stq l b) oc (b.size - a) (t, m) := by
 have hf := steps_fit hok ha h
 rw [val_step, by_place l b a (t, m) (by simp only at hf ⊢; omega)]
theorem steps_taken {l : List ByteArray} (hok : okTexts l) {b : ByteArray} (hb : b.size ≤ 1024) {a : Nat} (ha : a < b.size) :
  FF l b a ∈ steps l b a ∧ VV l b a = by_ (stq l b) oc (b.size - a) (FF l b a) ∧ (∀ s ∈ steps l b a, ¬ lt (by_ (stq l b) oc (b.size - a) s) (VV l b a)) ∧ ∀ s ∈ steps l b a, by_ (stq l b) oc (b.size - a) s = VV l b a → s.2 ≤ (FF l b a).2 := by
 have ht := taken (fine hok hb) (b.size - a) (by omega) (by omega)
 have hst : stq l b (b.size - a) = steps l b a := by unfold stq; rw [if_neg (by omega), show b.size - (b.size - a) = a by omega]
 rw [hst] at ht
 exact ht
/-- A step of the program's is a choice of the document's. -/
theorem step_chs {l : List ByteArray} (hok : okTexts l) {b : ByteArray} {a : Nat} (ha : a < b.size) {t : Int} {m : Nat} (h : (t, m) ∈ steps l b a) : ∃ j, j < (chs l b a).length ∧ (chs l b a).getD j z219 = ⟨t, m⟩ := by
 have hmem : (⟨t, m⟩ : S219) ∈ chs l b a := by
  unfold chs
  rw [List.mem_append]
  rcases step_pick hok ha h with h1 | ⟨m', h1, h2⟩
  ·injection h1 with h1 h3
   subst h1 h3
   exact .inr List.mem_cons_self
  ·injection h1 with h1 h3
   subst h1 h3
   refine .inl (List.mem_map.2 ⟨_, h2, ?_⟩)
   unfold tk
   rw [Int.toNat_natCast]
 obtain ⟨j, hj, he⟩ := List.getElem_of_mem hmem
 exact ⟨j, hj, by rw [List.getD_eq_getElem?_getD, List.getElem?_eq_getElem hj]; exact he⟩
theorem run_end {l : List ByteArray} (hok : okTexts l) {b : ByteArray} (hb : b.size ≤ 1024) {a : Nat} (ha : a < b.size) : run l b a (chs l b a).length = VV l b a := by
 obtain ⟨h1, h2, h3⟩ := run_low l b a _ (Nat.le_refl _)
 obtain ⟨t1, t2, t3, t4⟩ := steps_taken hok hb ha
 have hvb := VV_bound hok hb a
 obtain ⟨j, hj, he⟩ := step_chs (t := (FF l b a).1) (m := (FF l b a).2) hok ha t1
 have h4 := h1 j hj
 rw [he, val_by hok ha (t := (FF l b a).1) (m := (FF l b a).2) t1] at h4
 have t2' : by_ (stq l b) oc (b.size - a) ((FF l b a).1, (FF l b a).2) = VV l b a := t2.symm
 rw [t2'] at h4
 refine lt_total (fun hl => ?_) h4
 rcases h3 with h3 | ⟨i, hi, h3⟩
 ·rw [h3] at hl
  unfold lt at hl
  simp only at hl
  omega
 ·obtain ⟨t, m, hc, hs⟩ := chs_at hok ha i hi
  rw [h3, hc, val_by hok ha hs] at hl
  exact t3 _ hs hl
theorem run_bound {l : List ByteArray} (hok : okTexts l) {b : ByteArray} (hb : b.size ≤ 1024) {a : Nat} (ha : a < b.size) (i : Nat) (hi : i ≤ (chs l b a).length) : (run l b a i).1 ≤ 1099511627776 ∧ (run l b a i).2 ≤ 50000 := by
 obtain ⟨h1, h2, h3⟩ := run_low l b a i hi
 rcases h3 with h3 | ⟨j, hj, h3⟩
 ·rw [h3]
  exact ⟨Nat.le_refl _, Nat.zero_le _⟩
 ·obtain ⟨t, m, hc, hs⟩ := chs_at hok ha j (by omega)
  have hf := steps_fit hok ha hs
  have ho := oc_tok t hf.2.2.1 hf.2.2.2
  have hv := VV_bound hok hb (a + m)
  rw [h3, hc, val_step]
  unfold add
  simp only
  omega
/-! ### the tables -/
def CT (l : List ByteArray) (b : ByteArray) : List Int := (List.range (b.size + 1)).map (fun j => ((VV l b j).1 : Int))
def CB (l : List ByteArray) (b : ByteArray) : List Int := (List.range (b.size + 1)).map (fun j => ((VV l b j).2 : Int))
theorem CT_len (l : List ByteArray) (b : ByteArray) : (CT l b).length = b.size + 1 := by unfold CT; rw [List.length_map, List.length_range]
theorem CB_len (l : List ByteArray) (b : ByteArray) : (CB l b).length = b.size + 1 := by unfold CB; rw [List.length_map, List.length_range]
theorem CT_at (l : List ByteArray) (b : ByteArray) (j : Nat) (h : j ≤ b.size) : (CT l b).getD j 0 = ((VV l b j).1 : Int) := by
 unfold CT
 rw [List.getD_eq_getElem?_getD, List.getElem?_map, List.getElem?_range (by omega)]
 rfl
theorem CB_at (l : List ByteArray) (b : ByteArray) (j : Nat) (h : j ≤ b.size) : (CB l b).getD j 0 = ((VV l b j).2 : Int) := by
 unfold CB
 rw [List.getD_eq_getElem?_getD, List.getElem?_map, List.getElem?_range (by omega)]
 rfl
theorem ext_at {x y : List Int} (h : x.length = y.length) (ha : ∀ j, j < x.length → x.getD j 0 = y.getD j 0) : x = y := by
 refine List.ext_getElem h (fun j h1 h2 => ?_)
 have := ha j h1
 rw [List.getD_eq_getElem?_getD, List.getD_eq_getElem?_getD, List.getElem?_eq_getElem h1, List.getElem?_eq_getElem h2] at this
 exact this
theorem set_at (x : List Int) (a j : Nat) (v : Int) (h : a < x.length) : (x.set a v).getD j 0 = if j = a then v else x.getD j 0 := by
 rw [List.getD_eq_getElem?_getD, List.getElem?_set]
 by_cases hj : a = j
 ·rw [if_pos hj, if_pos (by omega), if_pos hj.symm]
  rfl
 ·rw [if_neg hj, if_neg (fun e => hj e.symm), ← List.getD_eq_getElem?_getD]
/-- The tables, right behind place a, and at a what was found so far. -/
structure Tb (l : List ByteArray) (b : ByteArray) (a : Nat) (c : Cst) (x y : List Int) : Prop where
 lx : x.length = b.size + 1
 ly : y.length = b.size + 1
 ax : x.getD a 0 = (c.1 : Int)
 ay : y.getD a 0 = (c.2 : Int)
 bx : ∀ j, a < j → j ≤ b.size → x.getD j 0 = ((VV l b j).1 : Int)
 by' : ∀ j, a < j → j ≤ b.size → y.getD j 0 = ((VV l b j).2 : Int)
theorem Tb.put {l : List ByteArray} {b : ByteArray} {a : Nat} {c : Cst} {x y : List Int} (h : Tb l b a c x y) (ha : a ≤ b.size) (v : Cst) : Tb l b a v (x.set a (v.1 : Int)) (y.set a (v.2 : Int)) := by
 have h1 := h.lx
 have h2 := h.ly
 refine ⟨by rw [List.length_set]; exact h1, by rw [List.length_set]; exact h2, ?_, ?_, fun j hj hb => ?_, fun j hj hb => ?_⟩
 ·rw [set_at _ _ _ _ (by omega), if_pos rfl]
 ·rw [set_at _ _ _ _ (by omega), if_pos rfl]
 ·rw [set_at _ _ _ _ (by omega), if_neg (by omega), h.bx j hj hb]
 ·rw [set_at _ _ _ _ (by omega), if_neg (by omega), h.by' j hj hb]
set_option maxHeartbeats 4000000 in
theorem costs_l1 {l : List ByteArray} (hok : okTexts l) {b : ByteArray} (hb : b.size ≤ 1024) {a : Nat} (ha : a < b.size) : ∀ (m i k : Nat) (x y : List Int), i + m = (chs l b a).length → m + 20 < k → Tb l b a (run l b a i) x y →
  ∃ x' y', Tb l b a (VV l b a) x' y' ∧ lexiphaneref1_Costs.l1 k l b x y (a : Int) (chs l b a) ((chs l b a).length : Int) (i : Int) = lexiphaneref1_Costs.l0 (k - m - 1) l b x' y' (wrap64 ((a : Int) - 1))
 | m, i, 0, x, y, _, hk, _ => absurd hk (by omega)
 | 0, i, k + 1, x, y, h, hk, ht => by
   have hi : i = (chs l b a).length := by omega
   rw [hi, run_end hok hb ha] at ht
   refine ⟨x, y, ht, ?_⟩
   simp only [lexiphaneref1_Costs.l1]
   rw [if_neg (by omega)]
   rfl
 | m + 1, i, k + 1, x, y, h, hk, ht => by
   have hlt : i < (chs l b a).length := by omega
   have hcl := chs_le l b a
   obtain ⟨t, n, hc, hs⟩ := chs_at hok ha i hlt
   have hf := steps_fit hok ha hs
   simp only at hf
   obtain ⟨f1, f2, f3, f4⟩ := hf
   have hn1 : a < a + n := by omega
   have hn2 : a + n ≤ b.size := by omega
   have hi1 : (i : Int) < ((chs l b a).length : Int) := by omega
   have hi2 : i ≤ 41 := by omega
   obtain ⟨⟨V1, V2⟩, hVV⟩ : ∃ p, VV l b (a + n) = p := ⟨_, rfl⟩
   obtain ⟨⟨R1, R2⟩, hR⟩ : ∃ p, run l b a i = p := ⟨_, rfl⟩
   obtain ⟨B, hB⟩ : ∃ B, vlen t = B := ⟨_, rfl⟩
   have hv : V1 ≤ 1024 ∧ V2 ≤ 40960 := by have := VV_bound hok hb (a + n); rw [hVV] at this; exact this
   have hrb : R1 ≤ 1099511627776 ∧ R2 ≤ 50000 := by have := run_bound hok hb ha i (Nat.le_of_lt hlt); rw [hR] at this; exact this
   have ho1 : cT t = 1 := (oc_tok t f3 f4).1
   have ho2 : 8 * B ≤ 40 := by have := (oc_tok t f3 f4).2; unfold oc at this; rw [hB] at this; exact this
   have hgo : k + 1 - (m + 1) - 1 = k - m - 1 := by omega
   have hbt := bits_f k t (by omega)
   rw [hB] at hbt
   have GO := Lib.hid (fun x' y' (h' : Tb l b a (run l b a (i + 1)) x' y') => costs_l1 hok hb ha m (i + 1) k x' y' (by omega) (by omega) h')
   have hrs := run_succ l b a i hlt
   rw [hc, val_step, hVV, hR] at hrs
   have HRS0 := Lib.hid hrs
   have HI1 := Lib.hid hi1
   have HB := Lib.hid hB
   have HO1 := Lib.hid ho1
   clear h hi1 hlt hcl hrs hB ho1
   have W1 := Lib.hid (show wrap64 ((a : Int) + (n : Int)) = ((a + n : Nat) : Int) by rw [w64 (by omega) (by omega)]; omega)
   have W2 := Lib.hid (show wrap64 (1 + (V1 : Int)) = ((1 + V1 : Nat) : Int) by rw [w64 (by omega) (by omega)]; omega)
   have W3 := Lib.hid (show wrap64 (((8 * B : Nat) : Int) + (V2 : Int)) = ((8 * B + V2 : Nat) : Int) by rw [w64 (by omega) (by omega)]; omega)
   have W4 := Lib.hid (show wrap64 ((i : Int) + 1) = ((i + 1 : Nat) : Int) by rw [w64 (by omega) (by omega)]; omega)
   have b1 : (0 : Int) ≤ (i : Int) := by omega
   have b2 : (0 : Int) ≤ ((a + n : Nat) : Int) := by omega
   have hlx := ht.lx
   have hly := ht.ly
   have b3 : ((a + n : Nat) : Int) < (x.length : Int) := by omega
   have b4 : ((a + n : Nat) : Int) < (y.length : Int) := by omega
   have b5 : (0 : Int) ≤ (a : Int) := by omega
   have b6 : (a : Int) < (x.length : Int) := by omega
   have b7 : (a : Int) < (y.length : Int) := by omega
   have hrs := HRS0.out
   have hadd : add (oc t) (V1, V2) = (1 + V1, 8 * B + V2) := by unfold add oc; rw [HO1.out, HB.out]
   rw [hadd] at hrs
   have hr : rd_T219 (chs l b a) (i : Int) = ⟨t, n⟩ := by unfold rd_T219; rw [Int.toNat_natCast, hc]
   have r1 : rd x ((a + n : Nat) : Int) = (V1 : Int) := by have := ht.bx (a + n) hn1 hn2; rw [hVV] at this; unfold rd; rw [Int.toNat_natCast]; exact this
   have r2 : rd y ((a + n : Nat) : Int) = (V2 : Int) := by have := ht.by' (a + n) hn1 hn2; rw [hVV] at this; unfold rd; rw [Int.toNat_natCast]; exact this
   have r3 : rd x (a : Int) = (R1 : Int) := by have := ht.ax; rw [hR] at this; unfold rd; rw [Int.toNat_natCast]; exact this
   have r4 : rd y (a : Int) = (R2 : Int) := by have := ht.ay; rw [hR] at this; unfold rd; rw [Int.toNat_natCast]; exact this
   have ht1 := ht.put (Nat.le_of_lt ha) (1 + V1, 8 * B + V2)
   have hrun : lower (R1, R2) (1 + V1, 8 * B + V2) = if 1 + V1 < R1 ∨ (1 + V1 = R1 ∧ 8 * B + V2 < R2) then (1 + V1, 8 * B + V2) else (R1, R2) := rfl
   rw [hrun] at hrs
   have HRS := Lib.hid hrs
   have HT := Lib.hid ht
   have HT1 := Lib.hid ht1
   have HR := Lib.hid hR
   clear hrs ht ht1 hR hVV hc hs hadd hrun hok hb HRS0
   rw [hgo]
   simp only [lexiphaneref1_Costs.l1, hr]
   rw [if_pos HI1.out, if_pos b1, if_pos HI1.out, W1.out, if_pos b2, if_pos b3, hbt]
   simp only [Option.bind_some]
   rw [if_pos b4, if_pos b5, if_pos b6, r1, r2, r3, r4, W2.out, W3.out, W4.out, Int.toNat_natCast]
   by_cases h1 : 1 + V1 < R1
   ·have h1' : ((1 + V1 : Nat) : Int) < (R1 : Int) := by omega
    rw [if_pos h1', if_pos b7]
    exact GO.out _ _ (by rw [HRS.out, if_pos (.inl h1)]; exact HT1.out)
   ·have h1' : ¬ ((1 + V1 : Nat) : Int) < (R1 : Int) := by omega
    rw [if_neg h1']
    by_cases h2 : 1 + V1 = R1
    ·have h2' : ((1 + V1 : Nat) : Int) = (R1 : Int) := by omega
     rw [if_pos h2', if_pos b7]
     by_cases h3 : 8 * B + V2 < R2
     ·have h3' : ((8 * B + V2 : Nat) : Int) < (R2 : Int) := by omega
      rw [if_pos h3']
      exact GO.out _ _ (by rw [HRS.out, if_pos (.inr ⟨h2, h3⟩)]; exact HT1.out)
     ·have h3' : ¬ ((8 * B + V2 : Nat) : Int) < (R2 : Int) := by omega
      rw [if_neg h3']
      exact GO.out _ _ (by rw [HRS.out, if_neg (fun hc => by rcases hc with hc | hc; exact h1 hc; exact h3 hc.2), ← HR.out]; exact HT.out)
    ·have h2' : ¬ ((1 + V1 : Nat) : Int) = (R1 : Int) := by omega
     rw [if_neg h2']
     exact GO.out _ _ (by rw [HRS.out, if_neg (fun hc => by rcases hc with hc | hc; exact h1 hc; exact h2 hc.1), ← HR.out]; exact HT.out)
theorem costs_l0 {l : List ByteArray} (hok : okTexts l) {b : ByteArray} (hb : b.size ≤ 1024) : ∀ (c k : Nat) (x y : List Int), c ≤ b.size → 45 * c + 200 < k → x.length = b.size + 1 → y.length = b.size + 1 → (∀ j, c ≤ j → j ≤ b.size → x.getD j 0 = ((VV l b j).1 : Int)) → (∀ j, c ≤ j → j ≤ b.size → y.getD j 0 = ((VV l b j).2 : Int)) →
  lexiphaneref1_Costs.l0 k l b x y ((c : Int) - 1) = some (CT l b, CB l b)
 | c, 0, x, y, _, hk, _, _, _, _ => absurd hk (by omega)
 | 0, k + 1, x, y, h, hk, h1, h2, h3, h4 => by
   simp only [lexiphaneref1_Costs.l0]
   rw [if_neg (by omega)]
   have e1 : x = CT l b := ext_at (by rw [h1, CT_len]) (fun j hj => by rw [h3 j (by omega) (by omega), CT_at l b j (by omega)])
   have e2 : y = CB l b := ext_at (by rw [h2, CB_len]) (fun j hj => by rw [h4 j (by omega) (by omega), CB_at l b j (by omega)])
   rw [e1, e2]
 | c + 1, k + 1, x, y, h, hk, h1, h2, h3, h4 => by
   have hl100 : l.length ≤ 100 := hok.1
   have e0 : (((c + 1 : Nat) : Int) - 1) = (c : Int) := by omega
   rw [e0]
   have ht : Tb l b c (run l b c 0) (x.set c 1099511627776) (y.set c 0) := by
    have : Tb l b c (((x.getD c 0).toNat, (y.getD c 0).toNat) : Cst) x y ∨ True := .inr trivial
    rw [run_zero]
    refine ⟨by rw [List.length_set]; exact h1, by rw [List.length_set]; exact h2, ?_, ?_, fun j hj hb' => ?_, fun j hj hb' => ?_⟩
    ·rw [set_at _ _ _ _ (by omega), if_pos rfl]
     rfl
    ·rw [set_at _ _ _ _ (by omega), if_pos rfl]
     rfl
    ·rw [set_at _ _ _ _ (by omega), if_neg (by omega), h3 j (by omega) hb']
    ·rw [set_at _ _ _ _ (by omega), if_neg (by omega), h4 j (by omega) hb']
   have hcl := chs_le l b c
   obtain ⟨x', y', hT, he⟩ := costs_l1 hok hb (a := c) (by omega) (chs l b c).length 0 k _ _ (by omega) (by omega) ht
   have w1 : wrap64 ((c : Int) - 1) = (c : Int) - 1 := w64 (by omega) (by omega)
   simp only [lexiphaneref1_Costs.l0]
   rw [if_pos (by omega), if_pos (by omega), if_pos (by omega), if_pos (by omega), choices_f l b c (by omega) (by omega) (by omega) k (by omega)]
   simp only [Option.bind_some]
   rw [Int.toNat_natCast]
   have he' := he
   rw [w1] at he'
   refine he'.trans ?_
   refine costs_l0 hok hb c _ x' y' (by omega) (by omega) hT.lx hT.ly (fun j hj hb' => ?_) (fun j hj hb' => ?_)
   ·by_cases hjc : j = c
    ·rw [hjc, hT.ax]
    ·exact hT.bx j (by omega) hb'
   ·by_cases hjc : j = c
    ·rw [hjc, hT.ay]
    ·exact hT.by' j (by omega) hb'
theorem costs_f {l : List ByteArray} (hok : okTexts l) {b : ByteArray} (hb : b.size ≤ 1024) (k : Nat) (hk : 50000 ≤ k) : lexiphaneref1_Costs.f k l b = some (CT l b, CB l b) := by
 have w1 : wrap64 ((b.size : Int) + 1) = ((b.size + 1 : Nat) : Int) := by rw [w64 (by omega) (by omega)]; omega
 have w2 : wrap64 ((b.size : Int) - 1) = (b.size : Int) - 1 := w64 (by omega) (by omega)
 have hz : ∀ j, b.size ≤ j → j ≤ b.size → (List.replicate (b.size + 1) (0 : Int)).getD j 0 = 0 := fun j _ _ => by
  rw [List.getD_eq_getElem?_getD, List.getElem?_replicate]
  split <;> rfl
 have hV : VV l b b.size = (0, 0) := by unfold VV; rw [Nat.sub_self]; rfl
 unfold lexiphaneref1_Costs.f
 rw [w1, w2, if_pos (by omega), Int.toNat_natCast, if_pos (by omega)]
 refine costs_l0 hok hb b.size k _ _ (Nat.le_refl _) (by omega) (by rw [List.length_replicate]) (by rw [List.length_replicate]) (fun j h1 h2 => ?_) (fun j h1 h2 => ?_)
 ·rw [hz j h1 h2, show j = b.size by omega, hV]; rfl
 ·rw [hz j h1 h2, show j = b.size by omega, hV]; rfl
/-! ### the tokens -/
theorem stands_down (l : List ByteArray) (b : ByteArray) (a : Nat) : ∀ n, (standsDown l b a n).Pairwise (· > ·)
 | 0 => List.Pairwise.nil
 | n + 1 => by
   unfold standsDown
   split
   ·refine List.Pairwise.cons (fun x hx => ?_) (stands_down l b a n)
    obtain ⟨m, h1, h2, h3, h4⟩ := (standsDown_mem l b a x n).1 hx
    show ((n + 1 : Nat) : Int) > x
    omega
   ·exact stands_down l b a n
/-- Of the choices an earlier one is longer, but for a byte's. -/
theorem chs_sorted (l : List ByteArray) (b : ByteArray) (a i j : Nat) (hij : i < j) (hj : j < (chs l b a).length) :
  ((chs l b a).getD j z219).f1 < ((chs l b a).getD i z219).f1 ∨ ((chs l b a).getD j z219 = ⟨byteAt b a, 1⟩ ∧ ∃ m : Nat, (chs l b a).getD i z219 = ⟨tokenOf l b a m, m⟩ ∧ 1 ≤ m ∧ has (piece b a m) l = true ∧ m ≤ b.size - a) := by
 rw [chs_len] at hj
 have at1 : ∀ i, i < (stands_ l b a).length → (chs l b a).getD i z219 = tk l b a ((stands_ l b a).getD i 0) := fun i h => by
  unfold chs
  rw [List.getD_eq_getElem?_getD, List.getElem?_append_left (by rw [List.length_map]; exact h), List.getElem?_map, List.getD_eq_getElem?_getD, List.getElem?_eq_getElem h]
  rfl
 by_cases h : j < (stands_ l b a).length
 ·left
  rw [at1 i (by omega), at1 j h]
  have hp := stands_down l b a (min 40 (b.size - a))
  have h2 := List.pairwise_iff_getElem.1 hp i j (by show i < (stands_ l b a).length; omega) h hij
  show (stands_ l b a).getD j 0 < (stands_ l b a).getD i 0
  rw [List.getD_eq_getElem?_getD, List.getD_eq_getElem?_getD, List.getElem?_eq_getElem h, List.getElem?_eq_getElem (by omega)]
  exact h2
 ·right
  have he : j = (stands_ l b a).length := by omega
  refine ⟨?_, ?_⟩
  ·unfold chs
   rw [List.getD_eq_getElem?_getD, List.getElem?_append_right (by rw [List.length_map]; omega), List.length_map, he, Nat.sub_self]
   rfl
  ·obtain ⟨m, hm, m1, m40, mb, mh⟩ := stands_mem l b a i (by omega)
   refine ⟨m, ?_, m1, mh, mb⟩
   rw [at1 i (by omega), hm]
   unfold tk
   rw [Int.toNat_natCast]
/-- Where a byte is taken, no phrase costs as little. -/
theorem byte_alone {l : List ByteArray} (hok : okTexts l) {b : ByteArray} (hb : b.size ≤ 1024) {a : Nat} (ha : a < b.size) (hF : FF l b a = (byteAt b a, 1)) {t : Int} {m : Nat} (ht : (t, m) ∈ phr l b a l.length) : by_ (stq l b) oc (b.size - a) (t, m) ≠ VV l b a := by
 intro he
 obtain ⟨q, hq⟩ : ∃ q, b.size - a = q + 1 := ⟨b.size - a - 1, by omega⟩
 have hst : stq l b (q + 1) = steps l b a := by rw [← hq]; unfold stq; rw [if_neg (by omega), show b.size - (b.size - a) = a by omega]
 have hfine := fine hok hb
 have hse := step_eq (stq l b) oc q (fun s hs => (hfine.pos _ (by omega) s hs).1)
 have hlt := by_lt hfine (q + 1) (by omega)
 obtain ⟨t1, t2, t3, t4⟩ := steps_taken hok hb ha
 rw [hst] at hse hlt
 unfold steps at hse hlt t3
 rw [bestOf_snoc] at hse
 rw [hq] at he t3
 have hV : VV l b a = V (stq l b) oc (q + 1) := by unfold VV; rw [hq]
 have hFF : FF l b a = F (stq l b) oc (q + 1) := by unfold FF; rw [hq]
 rw [← hV, ← hFF] at hse
 rcases best_so_far (by_ (stq l b) oc (q + 1)) (phr l b a l.length) (fun s hs => hlt s (List.mem_append_left _ hs)) with ⟨h1, _⟩ | ⟨h1, h2, h3, h4⟩
 ·rw [h1] at ht
  simp at ht
 ·have h5 := h3 _ ht
  rw [he] at h5
  have h6 := t3 _ (List.mem_append_left _ h1)
  rw [← h2] at h6
  have h7 := lt_total h5 h6
  obtain ⟨j, hj, _, hpj⟩ := (phr_mem l b a _ _).1 h1
  have hpos := hok.2 j hj
  have hup : upd (by_ (stq l b) oc (q + 1)) (bestOf (by_ (stq l b) oc (q + 1)) (phr l b a l.length)) (byteAt b a, 1) = bestOf (by_ (stq l b) oc (q + 1)) (phr l b a l.length) := by
   refine upd_same _ _ _ (fun hc => ?_)
   rcases hc with hc | ⟨_, hc⟩
   ·rw [← h7] at hc
    exact t3 _ (List.mem_append_right _ List.mem_cons_self) hc
   ·rw [hpj] at hc
    have h8 : (l.getD j no).size < 1 := hc
    exact hpos.1 (by omega)
  rw [hup] at hse
  have h9 : FF l b a = (bestOf (by_ (stq l b) oc (q + 1)) (phr l b a l.length)).2 := by rw [← hse]
  rw [hF, hpj] at h9
  injection h9 with h9 _
  have := byteAt_lt b a
  omega
/-- The first choice that costs what is least is the program's step. -/
theorem first_is {l : List ByteArray} (hok : okTexts l) {b : ByteArray} (hb : b.size ≤ 1024) {a : Nat} (ha : a < b.size) (i : Nat) (hi : i < (chs l b a).length) (hv : val l b a ((chs l b a).getD i z219) = VV l b a) (hf : ∀ j, j < i → val l b a ((chs l b a).getD j z219) ≠ VV l b a) :
  (chs l b a).getD i z219 = ⟨(FF l b a).1, ((FF l b a).2 : Int)⟩ := by
 obtain ⟨t1, t2, t3, t4⟩ := steps_taken hok hb ha
 obtain ⟨j, hj, he⟩ := step_chs (t := (FF l b a).1) (m := (FF l b a).2) hok ha t1
 have hvj : val l b a ((chs l b a).getD j z219) = VV l b a := by rw [he, val_by hok ha (t := (FF l b a).1) (m := (FF l b a).2) t1]; exact t2.symm
 by_cases hij : i = j
 ·rw [hij]; exact he
 ·by_cases hji : j < i
  ·exact absurd hvj (hf j hji)
  ·obtain ⟨t, m, hc, hs⟩ := chs_at hok ha i hi
   rw [hc, val_by hok ha hs] at hv
   have hle := t4 _ hs hv
   rcases chs_sorted l b a i j (by omega) hj with h1 | ⟨h1, m', h2, h3, h4, h5⟩
   ·rw [he, hc] at h1
    simp only at h1 hle
    omega
   ·exfalso
    rw [he] at h1
    injection h1 with h1 h1'
    rw [h2] at hc
    injection hc with hc1 hc2
    have hm : m = m' := by omega
    subst hm
    have hph : (t, m) ∈ phr l b a l.length := by
     rcases List.mem_append.1 (pick_step h3 (by omega) h4) with h | h
     ·rw [← hc1]; exact h
     ·rw [List.mem_singleton] at h
      injection h with h _
      have hby := byteAt_lt b a
      unfold tokenOf at h
      rw [if_pos h4] at h
      omega
    exact byte_alone hok hb ha (by rw [← h1]; exact Prod.ext rfl (by simp only; omega)) hph hv
theorem some_is {l : List ByteArray} (hok : okTexts l) {b : ByteArray} (hb : b.size ≤ 1024) {a : Nat} (ha : a < b.size) : ∃ i, i < (chs l b a).length ∧ val l b a ((chs l b a).getD i z219) = VV l b a := by
 obtain ⟨t1, t2, _, _⟩ := steps_taken hok hb ha
 obtain ⟨j, hj, he⟩ := step_chs (t := (FF l b a).1) (m := (FF l b a).2) hok ha t1
 exact ⟨j, hj, by rw [he, val_by hok ha (t := (FF l b a).1) (m := (FF l b a).2) t1]; exact t2.symm⟩
/-! ### contracts -/
theorem ref_costs (A : Option Addr) (c : Nat) (l : List ByteArray) (b : ByteArray) (w : World) (h : KS.C w A l.length l) (hc : l.length ≤ c) (hok : okTexts l) (hb : b.size ≤ 1024) :
  Calls Tryz.prog 166 #[.slice A l.length c, .string b] w fun e w' => ∃ v u : Value, e = .returned (.tuple #[v, u]) ∧ KI.R 3 w' w.heap.size (fun k => some k ≠ u.ownBlock) v (CT l b) ∧ KI.R 3 w' w.heap.size (fun k => some k ≠ v.ownBlock) u (CB l b) ∧ Below w.heap.size w w' :=
 lexiphaneref1_Costs.calls 50000 A c l b _ _ w h hc (costs_f hok hb 50000 (Nat.le_refl _))
end Go.Proofs.YtfbbcfhdjhiejaaGreat.Best
