/- Chapter 21: tables: how they lie; the greatest of numbers; how a table is made. -/
import Derived.Test.YtadijdcdonommaaReadPure
import Derived.Test.YtadijdcdonommaaCode
import Derived.Test.YtadijdcdonommaaBitsUse
namespace Go.Proofs.Ytadijdcdonommaa.Read
set_option linter.unusedVariables false
set_option linter.unusedSimpArgs false
open Go.RowKit Go.Proofs.YtadijdcdonommaaW.PrintWords Go.Proofs.YtadijdcdonommaaW.PrintMore Go.Proofs.Ytadijdcdonommaa.L Go.Proofs.Ytadijdcdonommaa.Ints Go.Proofs.Ytadijdcdonommaa.Code

/-! ### the greatest -/
theorem add_zero' (ad : Addr) : ad.add 0 = ad := by
  obtain ⟨b, o, q⟩ := ad
  rfl
theorem most_pos (l : List Int) (k : Nat) (h : k < l.length) (hp : ∀ x ∈ l, 0 ≤ x) : max ((most (l.take k) : Nat) : Int) (l.getD k 0) = ((most (l.take (k + 1)) : Nat) : Int) := by
  rw [most_take_succ l k h]
  have := hp (l.getD k 0) (by rw [List.getD_eq_getElem?_getD, List.getElem?_eq_getElem h]; exact List.getElem_mem h)
  omega
set_option maxHeartbeats 1000000 in
theorem max_any (A : Option Addr) (n c : Nat) (l : List Int) (w : World) (hh : KI.C w A n l) (hp : ∀ x ∈ l, 0 ≤ x) (hne : 0 < n) :
    Calls Try.prog 23 #[.slice A n c] w fun e w' => e = .returned (.int .i64 (most l : Nat)) ∧ w' = w := by
  have H := Lib.hid hh
  have hmx := Kd.C_max hh
  have hnl := ki_len hh
  clear hh
  subst hnl
  have HP := Lib.hid hp
  obtain ⟨ad, rfl, x0⟩ := ints_at H.out 0 hne
  have hm0 := most_pos l 0 hne hp
  obtain ⟨x, hx⟩ : ∃ x, l.getD 0 0 = x := ⟨_, rfl⟩
  rw [hx] at x0 hm0
  replace x0 : w.cell? ad = some (.int .i64 x) := by rw [← x0, add_zero']
  have hx0 : 0 ≤ x := by rw [← hx, List.getD_eq_getElem?_getD, List.getElem?_eq_getElem hne]; exact hp _ (List.getElem_mem hne)
  have HM0 := Lib.hid (show ((most (l.take 1) : Nat) : Int) = x by rw [← hm0]; simp [most]; omega)
  have i1 : ¬ ((l.length : Int) < 1) := by omega
  have i2 : (0 : Int) < (l.length : Int) := by omega
  clear hx hm0 hp hx0
  go_enter Try.func23, Try.ntmps23
  go_wp2_with (fail)
  go_loopg [3, 4] (l.length - 1) (fun j m i wr => ∃ k : Nat, 1 ≤ k ∧ k + j = l.length ∧ i = .int .i64 k ∧ m = .int .i64 (most (l.take k) : Nat) ∧ wr = w)
  case atStart => exact ⟨1, Nat.le_refl _, by omega, rfl, by rw [HM0.out], rfl⟩
  case round =>
    obtain ⟨k, hk1, hk, rfl, rfl, rfl⟩ := hrel
    by_cases hlt : k < l.length
    · obtain ⟨ad, had, y0⟩ := ints_at H.out k hlt
      cases had
      have HM := Lib.hid (most_pos l k hlt HP.out)
      obtain ⟨y, hy⟩ : ∃ y, l.getD k 0 = y := ⟨_, rfl⟩
      have HY := Lib.hid hy
      rw [hy] at y0
      have i3 : (0 : Int) ≤ k := by omega
      have i4 : (k : Int) < (l.length : Int) := by omega
      have i5 : ((k : Int)).toNat = k := by omega
      have HK := Lib.hid hk
      clear hk hy hlt x0 i1 i2
      go_wp2_with (fail)
      all_goals
        go_roundg (l.length - (k + 1))
        case measure => have := HK.out; omega
        case rel => exact ⟨k + 1, by omega, by have := HK.out; omega, by go_num, by rw [← HM.out, HY.out]; refine congrArg (Value.int .i64) ?_; omega, rfl⟩
    · obtain rfl : k = l.length := by omega
      go_wp2_with (fail)
      go_ret
      rw [List.take_length]
      exact ⟨rfl, rfl⟩

/-! ### how a table lies -/
/-- A table in block b: sixteen lists, sixteen first codes, the longest length, how many. -/
def TB (w : World) (b : Nat) (v : Nat → Value) (f : Nat → Int) (m n : Int) : Prop :=
  ∃ cs : Array Value, w.heap[b]? = some (.cells cs 57 (0, 0)) ∧ cs.size = 34 ∧ (∀ k, k < 16 → cs[k]? = some (v k)) ∧ (∀ k, k < 16 → cs[16 + k]? = some (.int .i64 (f k))) ∧ cs[32]? = some (.int .i64 m) ∧ cs[33]? = some (.int .i64 n)
section
variable {w w' : World} {b : Nat} {v : Nat → Value} {f : Nat → Int} {m n : Int}
theorem tb_frozen (h : TB w b v f m n) (k : Nat) : w.frozen? ⟨b, k, none⟩ = false := by
  obtain ⟨cs, hb, _⟩ := h
  simp [World.frozen?, hb]
theorem tb_row (h : TB w b v f m n) (k : Nat) (hk : k < 16) : w.cell? ⟨b, k, none⟩ = some (v k) := by
  obtain ⟨cs, hb, _, h1, _⟩ := h
  rw [cell_of_row w b k cs _ _ hb]
  exact h1 k hk
theorem tb_first (h : TB w b v f m n) (k : Nat) (hk : k < 16) : w.cell? ⟨b, 16 + k, none⟩ = some (.int .i64 (f k)) := by
  obtain ⟨cs, hb, _, _, h1, _⟩ := h
  rw [cell_of_row w b (16 + k) cs _ _ hb]
  exact h1 k hk
theorem tb_most (h : TB w b v f m n) : w.cell? ⟨b, 32, none⟩ = some (.int .i64 m) := by
  obtain ⟨cs, hb, _, _, _, h1, _⟩ := h
  rw [cell_of_row w b 32 cs _ _ hb]
  exact h1
theorem tb_used (h : TB w b v f m n) : w.cell? ⟨b, 33, none⟩ = some (.int .i64 n) := by
  obtain ⟨cs, hb, _, _, _, _, h1⟩ := h
  rw [cell_of_row w b 33 cs _ _ hb]
  exact h1
theorem tb_heap (h : TB w b v f m n) (hw : w'.heap[b]? = w.heap[b]?) : TB w' b v f m n := by
  obtain ⟨cs, hb, r⟩ := h
  exact ⟨cs, hw.trans hb, r⟩
theorem tb_lt (h : TB w b v f m n) : b < w.heap.size := by
  obtain ⟨cs, hb, r⟩ := h
  exact blk_lt hb
theorem tb_set_row (h : TB w b v f m n) (k : Nat) (hk : k < 16) (u : Value) : TB (w.setCell ⟨b, k, none⟩ u) b (fun j => if j = k then u else v j) f m n := by
  obtain ⟨cs, hb, hs, h1, h2, h3, h4⟩ := h
  refine ⟨_, heap_setCell_same w b k _ _ _ hb, by simp [hs], fun j hj => ?_, fun j hj => ?_, ?_, ?_⟩
  · by_cases hjk : j = k
    · subst hjk
      show _ = some (if j = j then u else v j)
      rw [if_pos rfl, Array.getElem?_setIfInBounds, if_pos rfl, if_pos (by omega)]
    · show _ = some (if j = k then u else v j)
      rw [if_neg hjk, Array.getElem?_setIfInBounds, if_neg (by omega)]
      exact h1 j hj
  · rw [Array.getElem?_setIfInBounds, if_neg (by omega)]; exact h2 j hj
  · rw [Array.getElem?_setIfInBounds, if_neg (by omega)]; exact h3
  · rw [Array.getElem?_setIfInBounds, if_neg (by omega)]; exact h4
theorem tb_set_first (h : TB w b v f m n) (k : Nat) (hk : k < 16) (x : Int) : TB (w.setCell ⟨b, 16 + k, none⟩ (.int .i64 x)) b v (fun j => if j = k then x else f j) m n := by
  obtain ⟨cs, hb, hs, h1, h2, h3, h4⟩ := h
  refine ⟨_, heap_setCell_same w b (16 + k) _ _ _ hb, by simp [hs], fun j hj => ?_, fun j hj => ?_, ?_, ?_⟩
  · rw [Array.getElem?_setIfInBounds, if_neg (by omega)]; exact h1 j hj
  · by_cases hjk : j = k
    · subst hjk
      show _ = some (Value.int .i64 (if j = j then x else f j))
      rw [if_pos rfl, Array.getElem?_setIfInBounds, if_pos rfl, if_pos (by omega)]
    · show _ = some (Value.int .i64 (if j = k then x else f j))
      rw [if_neg hjk, Array.getElem?_setIfInBounds, if_neg (by omega)]
      exact h2 j hj
  · rw [Array.getElem?_setIfInBounds, if_neg (by omega)]; exact h3
  · rw [Array.getElem?_setIfInBounds, if_neg (by omega)]; exact h4
end
/-- A row of one's own looks at its own block alone. -/
theorem own_move' {α : Type} {enc : α → Value} {h1 : ∀ x : α, (enc x).oneCell' = true} {e : Nat} {w w1 : World} {base : Nat} {ok : Nat → Prop} {v : Value} {xs : List α} (h : (Kd.scalar enc h1).R e w base ok v xs) (hm : ∀ k, v.ownBlock = some k → w1.heap[k]? = w.heap[k]?) : (Kd.scalar enc h1).R e w1 base ok v xs :=
  Kd.R_of_own (own_move (Kd.own_of_R h) hm) h.1
theorem own_lt {α : Type} {enc : α → Value} {h1 : ∀ x : α, (enc x).oneCell' = true} {e : Nat} {w : World} {base : Nat} {ok : Nat → Prop} {v : Value} {xs : List α} (h : (Kd.scalar enc h1).R e w base ok v xs) (g : Nat) (hg : v.ownBlock = some g) : g < w.heap.size := by
  rcases (Kd.own_of_R h).2 with ⟨rfl, _⟩ | ⟨g', cap, cur, rfl, _, hh, _⟩
  · simp [Value.ownBlock] at hg
  · have : g' = g := by simpa [Value.ownBlock] using hg
    subst this
    exact blk_lt hh
/-- The first codes are those of the first k lengths. -/
def FI (l : List Int) (k : Nat) (f : Nat → Int) : Prop := (∀ n, n < 15 → 0 < cnt (l.take k) (n + 1) → f (n + 1) = ((2 * nx l n : Nat) : Int)) ∧ ∀ n, 0 ≤ f n ∧ f n ≤ 32768
/-- A table of lengths. -/
def TOK (w : World) (b : Nat) (l : List Int) : Prop :=
  ∃ (base : Nat) (A : Nat → Option Addr) (c : Nat → Nat) (f : Nat → Int), TB w b (fun n => .slice (A n) (cnt l n) (c n)) f (most l : Nat) (used l : Nat) ∧
    FI l l.length f ∧ ∀ n, n < 16 → KI.R 3 w base (fun _ => True) (.slice (A n) (cnt l n) (c n)) (syms l n l.length)
theorem TOK.below {w w' : World} {b : Nat} {l : List Int} (h : TOK w b l) (hb : Below w.heap.size w w') : TOK w' b l := by
  obtain ⟨base, A, c, f, h1, h2, h3⟩ := h
  exact ⟨base, A, c, f, tb_heap h1 (hb.block b (tb_lt h1)), h2, fun n hn => own_move' (h3 n hn) (fun g hg => hb.block g (own_lt (h3 n hn) g hg))⟩
theorem TOK.drewN {w : World} {b : Nat} {l : List Int} (h : TOK w b l) (q : Nat) : TOK (w.drewN q) b l := by
  obtain ⟨base, A, c, f, h1, h2, h3⟩ := h
  exact ⟨base, A, c, f, tb_heap h1 rfl, h2, fun n hn => own_move' (h3 n hn) (fun _ _ => rfl)⟩
/-- It stays where one block of another kind turns. -/
theorem TOK.chg {w w' : World} {b rb : Nat} {l : List Int} {cs : Array Value} {t : Nat} (h : TOK w b l) (hc : Chg (fun k => k = rb) w w') (hrb : w.heap[rb]? = some (.cells cs t (0, 0))) (h1 : t ≠ 3) (h2 : t ≠ 57) : TOK w' b l := by
  obtain ⟨base, A, c, f, k1, k2, k3⟩ := h
  refine ⟨base, A, c, f, tb_heap k1 (hc.block b (tb_lt k1) (fun e => ?_)), k2, fun n hn => own_move' (k3 n hn) (fun g hg => hc.block g (own_lt (k3 n hn) g hg) (fun e => ?_))⟩
  · obtain ⟨cs', hb, _⟩ := k1
    have e : b = rb := e
    subst e
    rw [hrb] at hb
    injection hb with hb
    injection hb with _ hb
    exact h2 hb
  · have e : g = rb := e
    subst e
    obtain ⟨cells, hg2⟩ := own_typed (Kd.own_of_R (k3 n hn)) g hg
    rw [hrb] at hg2
    injection hg2 with hg2
    injection hg2 with _ hg2
    exact h1 hg2
theorem RR.tab {w w' : World} {b rb : Nat} {l : List Int} {s : ByteArray} {n : Nat} (h : TOK w b l) (hc : Chg (fun k => k = rb) w w') (hr : Bits.RR w rb s n) : TOK w' b l :=
  h.chg hc hr.1 (by decide) (by decide)

/-! ### how a table is made -/
/-- A table that is being made: of the first k lengths. -/
def TI (w : World) (b base : Nat) (l : List Int) (k : Nat) (v : Nat → Value) (f : Nat → Int) : Prop :=
  TB w b v f (most l : Nat) (used l : Nat) ∧ (∀ n, n < 16 → KI.R 3 w base (fun _ => True) (v n) (syms l n k)) ∧
    (∀ n m g, n < 16 → m < 16 → n ≠ m → (v n).ownBlock = some g → (v m).ownBlock ≠ some g)
theorem tb_new (w : World) (m n : Int) : TB (w.alloc (.cells #[.slice none 0 0, .slice none 0 0, .slice none 0 0, .slice none 0 0, .slice none 0 0, .slice none 0 0, .slice none 0 0, .slice none 0 0, .slice none 0 0, .slice none 0 0, .slice none 0 0, .slice none 0 0, .slice none 0 0, .slice none 0 0, .slice none 0 0, .slice none 0 0,
    .int .i64 0, .int .i64 0, .int .i64 0, .int .i64 0, .int .i64 0, .int .i64 0, .int .i64 0, .int .i64 0, .int .i64 0, .int .i64 0, .int .i64 0, .int .i64 0, .int .i64 0, .int .i64 0, .int .i64 0, .int .i64 0, .int .i64 m, .int .i64 n] 57 (0, 0))) w.heap.size (fun _ => .slice none 0 0) (fun _ => 0) m n := by
  refine ⟨_, heap_alloc_self _ _, rfl, fun k hk => ?_, fun k hk => ?_, rfl, rfl⟩
  · match k, hk with
    | 0, _ => rfl | 1, _ => rfl | 2, _ => rfl | 3, _ => rfl | 4, _ => rfl | 5, _ => rfl | 6, _ => rfl | 7, _ => rfl
    | 8, _ => rfl | 9, _ => rfl | 10, _ => rfl | 11, _ => rfl | 12, _ => rfl | 13, _ => rfl | 14, _ => rfl | 15, _ => rfl
    | k + 16, h => exact absurd h (by omega)
  · match k, hk with
    | 0, _ => rfl | 1, _ => rfl | 2, _ => rfl | 3, _ => rfl | 4, _ => rfl | 5, _ => rfl | 6, _ => rfl | 7, _ => rfl
    | 8, _ => rfl | 9, _ => rfl | 10, _ => rfl | 11, _ => rfl | 12, _ => rfl | 13, _ => rfl | 14, _ => rfl | 15, _ => rfl
    | k + 16, h => exact absurd h (by omega)
theorem syms_put (l : List Int) (n k : Nat) (h : l.getD k 0 = (n : Int)) : syms l n (k + 1) = syms l n k ++ [(k : Int)] := by
  show (if l.getD k 0 = (n : Int) then _ else _) = _
  rw [if_pos h]
theorem syms_keep (l : List Int) (n k : Nat) (h : l.getD k 0 ≠ (n : Int)) : syms l n (k + 1) = syms l n k := by
  show (if l.getD k 0 = (n : Int) then _ else _) = _
  rw [if_neg h]
theorem ti_heap {w w' : World} {b base : Nat} {l : List Int} {k : Nat} {v : Nat → Value} {f : Nat → Int} (h : TI w b base l k v f) (hw : w'.heap = w.heap) : TI w' b base l k v f :=
  ⟨tb_heap h.1 (by rw [hw]), fun n hn => own_move' (h.2.1 n hn) (fun g _ => by rw [hw]), h.2.2⟩
theorem ti_blk {w : World} {b base : Nat} {l : List Int} {k : Nat} {v : Nat → Value} {f : Nat → Int} (h : TI w b base l k v f) (n : Nat) (hn : n < 16) : (v n).ownBlock ≠ some b := by
  obtain ⟨cs, hb, _⟩ := h.1
  exact fun e => Kd.R_ne (h.2.1 n hn) hb (by decide) e.symm
theorem ti_first {w : World} {b base : Nat} {l : List Int} {k : Nat} {v : Nat → Value} {f : Nat → Int} (h : TI w b base l k v f) (n : Nat) (hn : n < 16) (x : Int) : TI (w.setCell ⟨b, 16 + n, none⟩ (.int .i64 x)) b base l k v (fun j => if j = n then x else f j) := by
  refine ⟨tb_set_first h.1 n hn x, fun m hm => own_move' (h.2.1 m hm) (fun g hg => ?_), h.2.2⟩
  exact Below.heap_setCell _ _ _ _ (fun e => ti_blk h m hm (by rw [hg, e]))
theorem ti_put {W w1 : World} {b base : Nat} {l : List Int} {k n : Nat} {v : Nat → Value} {f : Nat → Int} {v0 v1 : Value} (h : TI W b base l k v f) (hv0 : v n = v0) (hn : n < 16) (hx : l.getD k 0 = (n : Int))
    (ho : KI.R 3 w1 base (fun _ => True) v1 (syms l n k ++ [(k : Int)])) (hg : W.grownBy w1 v0.ownBlock) (hat : v1.ownBlock = v0.ownBlock ∨ ∃ g, v1.ownBlock = some g ∧ W.heap.size ≤ g) :
    TI (w1.setCell ⟨b, n, none⟩ v1) b base l (k + 1) (fun j => if j = n then v1 else v j) f := by
  subst hv0
  have hb1 : w1.heap[b]? = W.heap[b]? := hg.block b (tb_lt h.1) (fun e => ti_blk h n hn e.symm)
  have h1 := tb_heap h.1 hb1
  obtain ⟨cs, hcs, _⟩ := id h1
  refine ⟨tb_set_row h1 n hn v1, fun m hm => ?_, fun i j g hi hj hij => ?_⟩
  · by_cases hmn : m = n
    · subst hmn
      show KI.R _ _ _ _ (if m = m then v1 else v m) _
      rw [if_pos rfl, syms_put l m k hx]
      exact Kd.R_set ho hcs (by decide) m v1
    · show KI.R _ _ _ _ (if m = n then v1 else v m) _
      rw [if_neg hmn, syms_keep l m k (by rw [hx]; omega)]
      refine own_move' (h.2.1 m hm) (fun g hgo => ?_)
      rw [Below.heap_setCell _ _ _ _ (fun e => ti_blk h m hm (by rw [hgo, e]))]
      exact hg.block g (own_lt (h.2.1 m hm) g hgo) (fun e => h.2.2 m n g hm hn hmn hgo e.symm)
  · by_cases hin : i = n
    · have hjn : j ≠ n := fun e => hij (hin.trans e.symm)
      show (if i = n then v1 else v i).ownBlock = some g → (if j = n then v1 else v j).ownBlock ≠ some g
      rw [if_pos hin, if_neg hjn]
      intro hv he
      rcases hat with hat | ⟨q, hq, hle⟩
      · exact h.2.2 n j g hn hj (fun e => hjn e.symm) (by rw [← hat]; exact hv) he
      · have := own_lt (h.2.1 j hj) g he
        rw [hq] at hv
        injection hv with hv
        omega
    · show (if i = n then v1 else v i).ownBlock = some g → (if j = n then v1 else v j).ownBlock ≠ some g
      rw [if_neg hin]
      by_cases hjn : j = n
      · rw [if_pos hjn]
        intro hv he
        rcases hat with hat | ⟨q, hq, hle⟩
        · exact h.2.2 i n g hi hn hin hv (by rw [← hat]; exact he)
        · have := own_lt (h.2.1 i hi) g hv
          rw [hq] at he
          injection he with he
          omega
      · rw [if_neg hjn]
        exact h.2.2 i j g hi hj hij
theorem fi_keep {l : List Int} {k : Nat} {f : Nat → Int} (h : FI l k f) (hk : k < l.length) (hc : l.getD k 0 < 1 ∨ ∃ n : Nat, l.getD k 0 = (n : Int) ∧ 0 < cnt (l.take k) n) : FI l (k + 1) f := by
  refine ⟨fun n hn hp => ?_, h.2⟩
  rw [cnt_take_succ l k (n + 1) hk] at hp
  by_cases hx : l.getD k 0 = ((n + 1 : Nat) : Int)
  · rcases hc with hc | ⟨m, hm, hc⟩
    · omega
    · obtain rfl : m = n + 1 := by omega
      exact h.1 n hn hc
  · rw [if_neg hx] at hp
    exact h.1 n hn (by omega)
theorem fi_put {l : List Int} {k n : Nat} {f : Nat → Int} (h : FI l k f) (hkr : kraft l ≤ 32768) (hk : k < l.length) (hx : l.getD k 0 = (n : Int)) (h1 : 0 < n) (hn : n ≤ 15) (hc : cnt (l.take k) n = 0) : FI l (k + 1) (fun j => if j = n then (codeAt l k : Int) else f j) := by
  obtain ⟨n, rfl⟩ : ∃ m, n = m + 1 := ⟨n - 1, by omega⟩
  refine ⟨fun m hm hp => ?_, fun m => ?_⟩
  · show (if m + 1 = n + 1 then (codeAt l k : Int) else f (m + 1)) = _
    by_cases he : m = n
    · subst he
      rw [if_pos rfl, codeAt_some l k m hx (by omega), hc, Nat.add_zero]
    · rw [if_neg (by omega)]
      rw [cnt_take_succ l k (m + 1) hk, if_neg (by rw [hx]; omega)] at hp
      exact h.1 m hm (by omega)
  · show 0 ≤ (if m = n + 1 then (codeAt l k : Int) else f m) ∧ (if m = n + 1 then (codeAt l k : Int) else f m) ≤ 32768
    split
    · have h3 := code_bound l hkr k n hx hn
      have h4 : 2 ^ (n + 1) ≤ 2 ^ 15 := Nat.pow_le_pow_right (by decide) hn
      omega
    · exact h.2 m
theorem tok_of {w : World} {b base : Nat} {l : List Int} {v : Nat → Value} {f : Nat → Int} (h : TI w b base l l.length v f) (hf : FI l l.length f) : TOK w b l := by
  have key : ∀ n, n < 16 → ∃ A c, v n = .slice A (cnt l n) c := by
    intro n hn
    obtain ⟨A, c, hv⟩ := Kd.R_slice (h.2.1 n hn)
    have hlen := syms_length l n l.length (Nat.le_refl _)
    rw [List.take_length] at hlen
    rw [hlen] at hv
    exact ⟨A, c, hv⟩
  have key2 : ∀ n, ∃ q : Option Addr × Nat, n < 16 → v n = .slice q.1 (cnt l n) q.2 := by
    intro n
    by_cases hn : n < 16
    · obtain ⟨A, c, r⟩ := key n hn
      exact ⟨(A, c), fun _ => r⟩
    · exact ⟨(none, 0), fun x => absurd x hn⟩
  obtain ⟨q, hq⟩ := Classical.axiomOfChoice key2
  refine ⟨base, fun n => (q n).1, fun n => (q n).2, f, ?_, hf, fun n hn => ?_⟩
  · obtain ⟨cs, h1, h2, h3, h4⟩ := h.1
    exact ⟨cs, h1, h2, fun k hk => by rw [h3 k hk, hq k hk], h4⟩
  · rw [← hq n hn]
    exact h.2.1 n hn
end Go.Proofs.Ytadijdcdonommaa.Read
