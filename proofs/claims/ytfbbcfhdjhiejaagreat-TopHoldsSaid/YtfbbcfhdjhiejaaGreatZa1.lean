/- Of the parts Co: what the rows use. -/
namespace Go.Proofs.YtfbbcfhdjhiejaaGreatW.PrintWords
end Go.Proofs.YtfbbcfhdjhiejaaGreatW.PrintWords
namespace Kd
end Kd
namespace Go.Proofs.YtfbbcfhdjhiejaaGreatW.PrintLast
end Go.Proofs.YtfbbcfhdjhiejaaGreatW.PrintLast
namespace Go.Proofs.YtfbbcfhdjhiejaaGreat.Ints
end Go.Proofs.YtfbbcfhdjhiejaaGreat.Ints
namespace Go.Proofs.YtfbbcfhdjhiejaaGreat.Co
def no : ByteArray := ⟨#[]⟩
/-! ### numbers in bytes -/
def num (s : ByteArray) : Nat := s.data.toList.foldl (fun n x => n * 256 + x.toNat) 0
def bigL (n k : Nat) : List UInt8 := (List.range k).map fun j => UInt8.ofNat (n / 256 ^ (k - 1 - j))
def big (n k : Nat) : ByteArray := ⟨(bigL n k).toArray⟩
theorem bigL_succ (n k : Nat) : bigL n (k + 1) = UInt8.ofNat (n / 256 ^ k) :: bigL n k := by
 unfold bigL
 rw [List.range_succ_eq_map, List.map_cons, List.map_map]
 congr 1
 apply List.map_congr_left
 intro j hj
 rw [Function.comp]
 congr 3
 omega
theorem foldl_big (n : Nat) : ∀ (k a : Nat), (bigL n k).foldl (fun n x => n * 256 + x.toNat) a = a * 256 ^ k + n % 256 ^ k
 | 0, a => by simp [bigL, Nat.mod_one]
 | k + 1, a => by
   rw [bigL_succ, List.foldl_cons, foldl_big n k]
   have h1 : (UInt8.ofNat (n / 256 ^ k)).toNat = n / 256 ^ k % 256 := by simp
   rw [h1, Nat.pow_succ, Nat.mod_mul, Nat.add_mul, Nat.mul_assoc, Nat.mul_comm 256 (256 ^ k), Nat.mul_comm (n / 256 ^ k % 256) (256 ^ k)]
   omega
theorem num_big (n k : Nat) (h : n < 256 ^ k) : num (big n k) = n := by
 unfold num big
 rw [foldl_big, Nat.mod_eq_of_lt h]
 omega
theorem big_size (n k : Nat) : (big n k).size = k := by
 show (bigL n k).toArray.size = k
 simp [bigL]
def at8 (s : ByteArray) (i : Nat) : Nat := (s.data.toList.getD i 0).toNat
theorem at8_app (s t : ByteArray) (i : Nat) (h : i < s.size) : at8 (s ++ t) i = at8 s i := by
 unfold at8
 rw [ByteArray.toList_data_append, List.getD_eq_getElem?_getD, List.getD_eq_getElem?_getD, List.getElem?_append_left (by simpa using h)]
theorem at8_right (s t : ByteArray) (i : Nat) : at8 (s ++ t) (s.size + i) = at8 t i := by
 unfold at8
 rw [ByteArray.toList_data_append, List.getD_eq_getElem?_getD, List.getD_eq_getElem?_getD, List.getElem?_append_right (by simp)]
 congr 3
 simp
theorem ext_left (s t : ByteArray) (a b : Nat) (h : b ≤ s.size) : (s ++ t).extract a b = s.extract a b := by
 rw [ByteArray.extract_append]
 have : t.extract (a - s.size) (b - s.size) = ByteArray.empty := by rw [ByteArray.extract_eq_empty_iff]; omega
 rw [this, ByteArray.append_empty]
theorem ext_right (s t : ByteArray) (a b : Nat) (h : a = s.size) (h2 : b = s.size + t.size) : (s ++ t).extract a b = t := by
 exact ByteArray.extract_append_eq_right h h2
theorem ext_end (s t : ByteArray) (n : Nat) (h : n ≤ s.size) : (s ++ t).extract n (s ++ t).size = s.extract n s.size ++ t := by
 rw [ByteArray.extract_append, ByteArray.size_append]
 congr 1
 ·refine ByteArray.ext_getElem (by rw [ByteArray.size_extract, ByteArray.size_extract]; omega) ?_
  intro i h1 h2
  rw [ByteArray.getElem_extract, ByteArray.getElem_extract]
 ·have : n - s.size = 0 := by omega
  rw [this, Nat.add_sub_cancel_left]
  exact ByteArray.extract_zero_size
theorem app_no (s : ByteArray) : s ++ no = s := ByteArray.append_empty
theorem no_app (s : ByteArray) : no ++ s = s := ByteArray.empty_append
theorem eq_no {s : ByteArray} (h : s.size = 0) : s = no := ByteArray.size_eq_zero_iff.1 h
/-! ### heads and frames -/
def magic : ByteArray := ⟨#[76, 88, 80, 72]⟩
def headBlock (s : ByteArray) : Nat := num (s.extract 6 9)
def headId (s : ByteArray) : Nat := num (s.extract 9 17)
def headE (s : ByteArray) : Int :=
 if s.size < 17 then 2 else if s.extract 0 4 ≠ magic ∨ at8 s 4 ≠ 1 then 3 else if 1 < at8 s 5 then 8 else if headBlock s < 1 ∨ 1024 < headBlock s then 4 else 0
def fits (kind raw n : Nat) : Bool := decide (1 ≤ raw ∧ raw ≤ 1024 ∧ 1 ≤ n ∧ (kind = 1 ∧ n = raw ∨ kind = 2 ∧ n < raw))
def frKind (s : ByteArray) : Nat := at8 s 0
def frRaw (s : ByteArray) : Nat := if frKind s = 0 then num (s.extract 1 5) else num (s.extract 1 3)
def frLen (s : ByteArray) : Nat := num (s.extract 3 5)
def frSum (s : ByteArray) : Nat := if frKind s = 0 then 0 else num (s.extract 5 9)
def frN (s : ByteArray) : Nat := if frKind s = 0 then 5 else 9 + frLen s
def frPay (s : ByteArray) : ByteArray := if frKind s = 0 then no else s.extract 9 (9 + frLen s)
def frE (s : ByteArray) (block : Nat) : Int :=
 if s.size = 0 then 2 else if 2 < frKind s then 3 else if (frKind s = 0 ∧ s.size < 5) ∨ (frKind s ≠ 0 ∧ s.size < 9) then 2
 else if frKind s = 0 then 0 else if block < frRaw s ∨ fits (frKind s) (frRaw s) (frLen s) = false then 10 else if s.size - 9 < frLen s then 2 else 0
theorem headE_size {s : ByteArray} (h : headE s ≠ 2) : 17 ≤ s.size := by
 unfold headE at h
 split at h
 ·exact absurd rfl h
 ·omega
theorem head_app {s : ByteArray} (h : headE s ≠ 2) (t : ByteArray) : headE (s ++ t) = headE s ∧ at8 (s ++ t) 5 = at8 s 5 ∧ headBlock (s ++ t) = headBlock s ∧ headId (s ++ t) = headId s := by
 have h17 := headE_size h
 have e1 := at8_app s t 4 (by omega)
 have e2 := at8_app s t 5 (by omega)
 have e3 : headBlock (s ++ t) = headBlock s := by unfold headBlock; rw [ext_left _ _ _ _ (by omega)]
 have e4 : headId (s ++ t) = headId s := by unfold headId; rw [ext_left _ _ _ _ (by omega)]
 refine ⟨?_, e2, e3, e4⟩
 unfold headE
 rw [e1, e2, e3, ext_left _ _ _ _ (by omega), if_neg (by rw [ByteArray.size_append]; omega), if_neg (by omega : ¬ s.size < 17)]
/-- What is known of a frame that is told. -/
theorem frE_size {s : ByteArray} {bl : Nat} (h : frE s bl ≠ 2) : 1 ≤ s.size ∧ (frKind s ≤ 2 → (frKind s = 0 → 5 ≤ s.size) ∧ (frKind s ≠ 0 → 9 ≤ s.size)) := by
 unfold frE at h
 split at h
 ·exact absurd rfl h
 ·refine ⟨by omega, fun h2 => ?_⟩
  rw [if_neg (by omega)] at h
  split at h
  ·exact absurd rfl h
  ·omega
theorem frE_zero {s : ByteArray} {bl : Nat} (h : frE s bl = 0) : frN s ≤ s.size ∧ 5 ≤ frN s ∧ (frKind s ≠ 0 → fits (frKind s) (frRaw s) (frLen s) = true ∧ frRaw s ≤ bl) ∧ frKind s ≤ 2 := by
 unfold frE at h
 split at h
 ·exact absurd h (by decide)
 split at h
 ·exact absurd h (by decide)
 split at h
 ·exact absurd h (by decide)
 split at h
 ·unfold frN
  rename_i hk
  rw [if_pos hk]
  exact ⟨by omega, Nat.le_refl _, fun h => absurd hk h, by omega⟩
 split at h
 ·exact absurd h (by decide)
 split at h
 ·exact absurd h (by decide)
 ·unfold frN
  rename_i hk hf hn
  rw [if_neg hk]
  refine ⟨by omega, by omega, fun _ => ⟨?_, by omega⟩, by omega⟩
  cases hc : fits (frKind s) (frRaw s) (frLen s)
  ·exact absurd (.inr hc) hf
  ·rfl
theorem fr_app {s : ByteArray} {bl : Nat} (h : frE s bl ≠ 2) (t : ByteArray) : frE (s ++ t) bl = frE s bl ∧
  (frE s bl = 0 → frKind (s ++ t) = frKind s ∧ frRaw (s ++ t) = frRaw s ∧ frSum (s ++ t) = frSum s ∧ frN (s ++ t) = frN s ∧ frPay (s ++ t) = frPay s) := by
 obtain ⟨h1, h2⟩ := frE_size h
 have ek : frKind (s ++ t) = frKind s := at8_app s t 0 (by omega)
 by_cases k3 : 2 < frKind s
 ·constructor
  ·unfold frE
   rw [ek, if_neg (by rw [ByteArray.size_append]; omega), if_pos k3, if_neg (by omega), if_pos k3]
  ·intro h0
   have := (frE_zero h0).2.2.2
   omega
 ·obtain ⟨g0, g1⟩ := h2 (by omega)
  by_cases k0 : frKind s = 0
  ·have := g0 k0
   have er : frRaw (s ++ t) = frRaw s := by unfold frRaw; rw [ek, if_pos k0, if_pos k0, ext_left _ _ _ _ (by omega)]
   constructor
   ·unfold frE
    rw [ek, if_neg (by rw [ByteArray.size_append]; omega), if_neg (by omega), if_neg (by rw [ByteArray.size_append]; omega), if_pos k0, if_neg (by omega), if_neg (by omega), if_neg (by omega), if_pos k0]
   ·intro _
    refine ⟨ek, er, ?_, ?_, ?_⟩
    ·unfold frSum; rw [ek, if_pos k0, if_pos k0]
    ·unfold frN; rw [ek, if_pos k0, if_pos k0]
    ·unfold frPay; rw [ek, if_pos k0, if_pos k0]
  ·have := g1 k0
   have er : frRaw (s ++ t) = frRaw s := by unfold frRaw; rw [ek, if_neg k0, if_neg k0, ext_left _ _ _ _ (by omega)]
   have el : frLen (s ++ t) = frLen s := by unfold frLen; rw [ext_left _ _ _ _ (by omega)]
   have hE : frE (s ++ t) bl = frE s bl := by
    unfold frE at h ⊢
    rw [if_neg (by omega), if_neg (by omega), if_neg (by omega), if_neg k0] at h
    rw [ek, er, el, if_neg (by rw [ByteArray.size_append]; omega), if_neg (by omega), if_neg (by rw [ByteArray.size_append]; omega), if_neg k0, if_neg (by omega : ¬ s.size = 0), if_neg (by omega : ¬ 2 < frKind s), if_neg (by omega : ¬ ((frKind s = 0 ∧ s.size < 5) ∨ (frKind s ≠ 0 ∧ s.size < 9))), if_neg k0]
    split
    ·rfl
    ·rename_i hf
     rw [if_neg hf] at h
     split at h
     ·exact absurd rfl h
     ·rename_i hn
      rw [if_neg (by rw [ByteArray.size_append]; omega), if_neg hn]
   refine ⟨hE, fun h0 => ?_⟩
   have hn := (frE_zero h0).1
   refine ⟨ek, er, ?_, ?_, ?_⟩
   ·unfold frSum; rw [ek, if_neg k0, if_neg k0, ext_left _ _ _ _ (by omega)]
   ·unfold frN; rw [ek, if_neg k0, if_neg k0, el]
   ·unfold frN at hn
    rw [if_neg k0] at hn
    unfold frPay; rw [ek, if_neg k0, if_neg k0, el, ext_left _ _ _ _ (by omega)]
/-- While a frame lacks bytes few are held. -/
theorem frE_more {s : ByteArray} {bl : Nat} (h : frE s bl = 2) : s.size < 1033 := by
 unfold frE at h
 split at h
 ·omega
 split at h
 ·exact absurd h (by decide)
 split at h
 ·omega
 split at h
 ·exact absurd h (by decide)
 split at h
 ·exact absurd h (by decide)
 split at h
 ·rename_i hf hn
  have : fits (frKind s) (frRaw s) (frLen s) = true := by
   cases hc : fits (frKind s) (frRaw s) (frLen s)
   ·exact absurd (.inr hc) hf
   ·rfl
  unfold fits at this
  have := of_decide_eq_true this
  omega
 ·exact absurd h (by decide)
/-! ### the decoder -/
structure Env where
 id : Nat
 get : Nat → Nat → Nat → ByteArray → ByteArray × Int
 crc : ByteArray → Nat
structure DS where
 begun : Bool
 code : Nat
 block : Nat
 hid : Nat
 done : Bool
 held : ByteArray
 pos : Nat
 told : Nat
 err : Option (Int × Nat)
def d0 : DS := ⟨false, 0, 0, 0, false, no, 0, 0, none⟩
def wrong (d : DS) (e : Int) : DS := { d with err := some (e, d.pos), held := no }
def took (d : DS) (n : Nat) : DS := { d with held := d.held.extract n d.held.size, pos := d.pos + n }
def add (d : DS) (t : ByteArray) : DS := { d with held := d.held ++ t }
def begin_ (d : DS) : DS := { d with begun := true, code := at8 d.held 5, block := headBlock d.held, hid := headId d.held }
def fin (d : DS) (b : ByteArray) : DS := { d with done := decide (frKind d.held = 0), told := d.told + b.size }
variable (E : Env)
def meant (d : DS) : ByteArray × Int :=
 if frKind d.held = 0 then (no, if frRaw d.held = d.told % 4294967296 then 0 else 12)
 else if (E.get d.code (frKind d.held) (frRaw d.held) (frPay d.held)).2 = 0 ∧ E.crc (E.get d.code (frKind d.held) (frRaw d.held) (frPay d.held)).1 ≠ frSum d.held
  then ((E.get d.code (frKind d.held) (frRaw d.held) (frPay d.held)).1, 7)
 else E.get d.code (frKind d.held) (frRaw d.held) (frPay d.held)
def next (d : DS) : ByteArray × Bool × DS :=
 if d.begun = false then
  if headE d.held = 2 then (no, false, d)
  else if headE d.held ≠ 0 then (no, false, wrong d (headE d.held))
  else if headId d.held ≠ E.id then (no, false, wrong d 6)
  else (no, true, took (begin_ d) 17)
 else if d.held.size = 0 then (no, false, d)
 else if d.done = true then (no, false, wrong d 13)
 else if frE d.held d.block = 2 then (no, false, d)
 else if frE d.held d.block ≠ 0 then (no, false, wrong d (frE d.held d.block))
 else if (meant E d).2 ≠ 0 then (no, false, wrong d (meant E d).2)
 else ((meant E d).1, true, took (fin d (meant E d).1) (frN d.held))
def pump : Nat → DS → ByteArray × DS
 | 0, d => (no, d)
 | n + 1, d => if (next E d).2.1 = true then ((next E d).1 ++ (pump n (next E d).2.2).1, (pump n (next E d).2.2).2) else (no, (next E d).2.2)
/-- What one step does: it is at its end, it tells a fault, or it takes bytes; more bytes behind change only the first. -/
theorem next_cases (d : DS) (he : d.err = none) :
  (next E d = (no, false, d) ∧ (d.begun = false → d.held.size < 17) ∧ (d.begun = true → d.held.size < 1033)) ∨
  (∃ e, next E d = (no, false, wrong d e) ∧ ∀ t, next E (add d t) = (no, false, wrong d e)) ∨
  (∃ b d', next E d = (b, true, d') ∧ d'.err = none ∧ d'.held.size < d.held.size ∧ ∀ t, next E (add d t) = (b, true, add d' t)) := by
 have wr : ∀ t e, wrong (add d t) e = wrong d e := fun t e => rfl
 by_cases hb : d.begun = false
 ·have hb2 : ∀ t, (add d t).begun = false := fun t => hb
  by_cases h2 : headE d.held = 2
  ·refine .inl ⟨by unfold next; rw [if_pos hb, if_pos h2], fun _ => ?_, fun h => absurd (hb.symm.trans h) (by decide)⟩
   unfold headE at h2
   split at h2
   ·assumption
   split at h2
   ·exact absurd h2 (by decide)
   split at h2
   ·exact absurd h2 (by decide)
   split at h2
   ·exact absurd h2 (by decide)
   ·exact absurd h2 (by decide)
  ·have happ := fun t => head_app h2 t
   by_cases h0 : headE d.held = 0
   ·by_cases hi : headId d.held = E.id
    ·refine .inr (.inr ⟨no, took (begin_ d) 17, by unfold next; rw [if_pos hb, if_neg h2, if_neg (by simp [h0]), if_neg (by simp [hi])], he, ?_, fun t => ?_⟩)
     ·show (d.held.extract 17 d.held.size).size < _
      have := headE_size h2
      rw [ByteArray.size_extract]; omega
     ·obtain ⟨a1, a2, a3, a4⟩ := happ t
      unfold next
      rw [if_pos (hb2 t)]
      show (if headE (d.held ++ t) = 2 then _ else if headE (d.held ++ t) ≠ 0 then _ else if headId (d.held ++ t) ≠ E.id then _ else _) = _
      rw [a1, a4, if_neg h2, if_neg (by simp [h0]), if_neg (by simp [hi])]
      refine congrArg (fun x => (no, true, x)) ?_
      have := headE_size h2
      unfold took begin_ add
      simp only [a2, a3, a4, ext_end _ t 17 this]
    ·refine .inr (.inl ⟨6, by unfold next; rw [if_pos hb, if_neg h2, if_neg (by simp [h0]), if_pos hi], fun t => ?_⟩)
     obtain ⟨a1, a2, a3, a4⟩ := happ t
     unfold next
     rw [if_pos (hb2 t)]
     show (if headE (d.held ++ t) = 2 then _ else if headE (d.held ++ t) ≠ 0 then _ else if headId (d.held ++ t) ≠ E.id then _ else _) = _
     rw [a1, a4, if_neg h2, if_neg (by simp [h0]), if_pos hi, wr]
   ·refine .inr (.inl ⟨headE d.held, by unfold next; rw [if_pos hb, if_neg h2, if_pos h0], fun t => ?_⟩)
    obtain ⟨a1, a2, a3, a4⟩ := happ t
    unfold next
    rw [if_pos (hb2 t)]
    show (if headE (d.held ++ t) = 2 then _ else if headE (d.held ++ t) ≠ 0 then (no, false, wrong (add d t) (headE (d.held ++ t))) else _) = _
    rw [a1, if_neg h2, if_pos h0, wr]
 ·have hbt : d.begun = true := by simpa using hb
  by_cases hs : d.held.size = 0
  ·exact .inl ⟨by unfold next; rw [if_neg hb, if_pos hs], fun h => absurd h hb, fun _ => by omega⟩
  ·have hst : ∀ t, ¬ (add d t).held.size = 0 := fun t => by show ¬ (d.held ++ t).size = 0; rw [ByteArray.size_append]; omega
   by_cases hd : d.done = true
   ·refine .inr (.inl ⟨13, by unfold next; rw [if_neg hb, if_neg hs, if_pos hd], fun t => ?_⟩)
    unfold next
    rw [if_neg (show ¬ (add d t).begun = false from hb), if_neg (hst t), if_pos (show (add d t).done = true from hd), wr]
   ·by_cases h2 : frE d.held d.block = 2
    ·exact .inl ⟨by unfold next; rw [if_neg hb, if_neg hs, if_neg hd, if_pos h2], fun h => absurd h hb, fun _ => frE_more h2⟩
    ·have happ := fun t => fr_app h2 t
     by_cases h0 : frE d.held d.block = 0
     ·have hm : ∀ t, meant E (add d t) = meant E d := fun t => by
       obtain ⟨a1, a2⟩ := happ t
       obtain ⟨b1, b2, b3, b4, b5⟩ := a2 h0
       unfold meant add
       simp only [b1, b2, b3, b5]
      by_cases hm0 : (meant E d).2 = 0
      ·refine .inr (.inr ⟨(meant E d).1, took (fin d (meant E d).1) (frN d.held), by unfold next; rw [if_neg hb, if_neg hs, if_neg hd, if_neg h2, if_neg (by simp [h0]), if_neg (by simp [hm0])], he, ?_, fun t => ?_⟩)
       ·show (d.held.extract (frN d.held) d.held.size).size < _
        have := frE_zero h0
        rw [ByteArray.size_extract]; omega
       ·obtain ⟨a1, a2⟩ := happ t
        obtain ⟨b1, b2, b3, b4, b5⟩ := a2 h0
        unfold next
        rw [if_neg (show ¬ (add d t).begun = false from hb), if_neg (hst t), if_neg (show ¬ (add d t).done = true from hd), hm t]
        show (if frE (d.held ++ t) d.block = 2 then _ else if frE (d.held ++ t) d.block ≠ 0 then _ else _) = _
        rw [a1, if_neg h2, if_neg (by simp [h0]), if_neg (by simp [hm0])]
        refine congrArg (fun x => ((meant E d).1, true, x)) ?_
        have := (frE_zero h0).1
        unfold took fin add
        simp only [b1, b4, ext_end _ t _ this]
      ·refine .inr (.inl ⟨(meant E d).2, by unfold next; rw [if_neg hb, if_neg hs, if_neg hd, if_neg h2, if_neg (by simp [h0]), if_pos hm0], fun t => ?_⟩)
       obtain ⟨a1, a2⟩ := happ t
       unfold next
       rw [if_neg (show ¬ (add d t).begun = false from hb), if_neg (hst t), if_neg (show ¬ (add d t).done = true from hd), hm t]
       show (if frE (d.held ++ t) d.block = 2 then _ else if frE (d.held ++ t) d.block ≠ 0 then _ else _) = _
       rw [a1, if_neg h2, if_neg (by simp [h0]), if_pos hm0, wr]
     ·refine .inr (.inl ⟨frE d.held d.block, by unfold next; rw [if_neg hb, if_neg hs, if_neg hd, if_neg h2, if_pos h0], fun t => ?_⟩)
      obtain ⟨a1, a2⟩ := happ t
      unfold next
      rw [if_neg (show ¬ (add d t).begun = false from hb), if_neg (hst t), if_neg (show ¬ (add d t).done = true from hd)]
      show (if frE (d.held ++ t) d.block = 2 then _ else if frE (d.held ++ t) d.block ≠ 0 then (no, false, wrong (add d t) (frE (d.held ++ t) d.block)) else _) = _
      rw [a1, if_neg h2, if_pos h0, wr]
/-- Enough rounds are enough. -/
theorem pump_enough : ∀ (n m : Nat) (d : DS), d.err = none → d.held.size < n → d.held.size < m → pump E n d = pump E m d
 | 0, m, d, _, h, _ => by omega
 | n + 1, 0, d, _, _, h => by omega
 | n + 1, m + 1, d, he, h1, h2 => by
   rcases next_cases E d he with ⟨h, _⟩ | ⟨e, h, _⟩ | ⟨b, d', h, he', hl, _⟩
   ·unfold pump; rw [h]; rfl
   ·unfold pump; rw [h]; rfl
   ·unfold pump; rw [h]
    dsimp only
    rw [pump_enough n m d' he' (by omega) (by omega)]
def run (d : DS) : ByteArray × DS := pump E (d.held.size + 1) d
theorem run_eq (d : DS) (he : d.err = none) (n : Nat) (h : d.held.size < n) : pump E n d = run E d := pump_enough E _ _ d he h (by omega)
theorem run_step {d : DS} (he : d.err = none) : run E d = if (next E d).2.1 = true then ((next E d).1 ++ (run E (next E d).2.2).1, (run E (next E d).2.2).2) else (no, (next E d).2.2) := by
 rcases next_cases E d he with ⟨h, _⟩ | ⟨e, h, _⟩ | ⟨b, d', h, he', hl, _⟩
 ·unfold run pump; rw [h]; rfl
 ·unfold run pump; rw [h]; rfl
 ·show pump E (d.held.size + 1) d = _
  unfold pump; rw [h]
  dsimp only
  rw [run_eq E d' he' _ hl, if_pos rfl]
/-- Behind all that stands there few bytes are held. -/
theorem run_held : ∀ (n : Nat) (d : DS), d.held.size ≤ n → d.err = none → (run E d).2.held.size < 1033 ∧ ((run E d).2.err = none → next E (run E d).2 = (no, false, (run E d).2))
 | n, d, hn, he => by
   rw [run_step E he]
   rcases next_cases E d he with ⟨h, h1, h2⟩ | ⟨e, h, _⟩ | ⟨b, d', h, he', hl, _⟩
   ·rw [h]
    dsimp only
    rw [if_neg (by decide)]
    refine ⟨?_, fun _ => h⟩
    cases hb : d.begun
    ·have := h1 hb
     show d.held.size < _
     omega
    ·exact h2 hb
   ·rw [h]
    dsimp only
    rw [if_neg (by decide)]
    exact ⟨by show no.size < _; decide, fun h => by cases h⟩
   ·rw [h]
    dsimp only
    rw [if_pos rfl]
    cases n with
    | zero => omega
    | succ n => exact run_held n d' (by omega) he'
/-- In pieces, or at once. -/
theorem run_add : ∀ (n : Nat) (d : DS) (t : ByteArray), d.held.size ≤ n → d.err = none →
  run E (add d t) = if (run E d).2.err.isSome = true then run E d else ((run E d).1 ++ (run E (add (run E d).2 t)).1, (run E (add (run E d).2 t)).2)
 | n, d, t, hn, he => by
   have hea : (add d t).err = none := he
   rcases next_cases E d he with ⟨h, _⟩ | ⟨e, h, h3⟩ | ⟨b, d', h, he', hl, h3⟩
   ·have hr : run E d = (no, d) := by rw [run_step E he, h]; rfl
    rw [hr]
    dsimp only
    rw [if_neg (by rw [he]; decide), no_app]
   ·have hr : run E d = (no, wrong d e) := by rw [run_step E he, h]; rfl
    rw [hr, run_step E hea, h3 t]
    rfl
   ·have hr : run E d = (b ++ (run E d').1, (run E d').2) := by rw [run_step E he, h]; rfl
    rw [hr, run_step E hea, h3 t]
    dsimp only
    rw [if_pos rfl]
    cases n with
    | zero => omega
    | succ n =>
      rw [run_add n d' t (by omega) he']
      split
      ·rfl
      ·rw [ByteArray.append_assoc]
end Go.Proofs.YtfbbcfhdjhiejaaGreat.Co
