import Derived.Test.YtfiflloieojgbaaLent
import Derived.Laws.AppendOwn
import Derived.Maps.AppendAt
import Derived.Laws.Append
import Derived.Deep.RegionHeld3
namespace Go.Proofs.Ytfiflloieojgbaa.Book
set_option linter.unusedVariables false
set_option linter.unusedSimpArgs false
open Go.RowKit Go.Proofs.YtfiflloieojgbaaW.PrintWords Go.Proofs.YtfiflloieojgbaaW.PrintMore Go.Proofs.Ytfiflloieojgbaa.L Go.Proofs.Ytfiflloieojgbaa.Ints

/-! ### slices as elements -/
abbrev Sl := Option Addr × Nat × Nat
def slv (s : Sl) : Value := .slice s.1 s.2.1 s.2.2
def z0 : Sl := (none, 0, 0)
abbrev KV : Kd Sl := Kd.scalar slv (fun _ => rfl)
theorem infoRow : (Try.prog.info? 27).map (fun i => (i.zero, i.size, i.bytes)) = some (some (.slice none 0 0), 1, 24) := by kernel_rfl
theorem vals_at {w : World} {A : Option Addr} {n : Nat} {xs : List Sl} (h : KV.C w A n xs) (i : Nat) (hi : i < n) :
    ∃ ad, A = some ad ∧ w.cell? (ad.add i) = some (slv (xs.getD i z0)) := by
  obtain ⟨ad, e, hc⟩ := (Kd.reads_of_C (d := z0) h).2.2 (by omega)
  exact ⟨ad, e, hc i hi⟩
/-- What reads out of a block of its own. -/
def RC (w : World) (ok : Nat → Prop) (s : Sl) (xs : List Int) : Prop :=
  s.2.1 = xs.length ∧ xs.length ≤ 9223372036854775807 ∧ (0 < xs.length → ∃ g, s.1 = some ⟨g, 0, none⟩ ∧ ok g ∧ ∃ cells, w.heap[g]? = some (.cells cells 3 (0, 0)) ∧ ∀ j, j < xs.length → cells[j]? = some (.int .i64 (xs.getD j 0)))
theorem RC.C {w : World} {ok : Nat → Prop} {s : Sl} {xs : List Int} (h : RC w ok s xs) : KI.C w s.1 s.2.1 xs := by
  obtain ⟨h1, h2, h3⟩ := h
  refine Kd.C_of_reads (d := (0 : Int)) (h1 := fun _ => rfl) ⟨h1.symm, by omega, fun hn => ?_⟩
  obtain ⟨g, e, _, cells, hg, hc⟩ := h3 (by omega)
  refine ⟨_, e, fun j hj => ?_⟩
  rw [add_plain, cell_of_row w g j cells 3 (0, 0) hg]
  exact hc j (by omega)
theorem RC.mono {w : World} {ok ok' : Nat → Prop} {s : Sl} {xs : List Int} (h : RC w ok s xs) (hk : ∀ k, k < w.heap.size → ok k → ok' k) : RC w ok' s xs := by
  obtain ⟨h1, h2, h3⟩ := h
  refine ⟨h1, h2, fun hn => ?_⟩
  obtain ⟨g, e, ho, cells, hg, hc⟩ := h3 hn
  exact ⟨g, e, hk g (blk_lt hg) ho, cells, hg, hc⟩
theorem RC.move {w w1 : World} {ok : Nat → Prop} {s : Sl} {xs : List Int} (h : RC w ok s xs) (hm : ∀ k, ok k → k < w.heap.size → w1.heap[k]? = w.heap[k]?) : RC w1 ok s xs := by
  obtain ⟨h1, h2, h3⟩ := h
  refine ⟨h1, h2, fun hn => ?_⟩
  obtain ⟨g, e, ho, cells, hg, hc⟩ := h3 hn
  exact ⟨g, e, ho, cells, (hm g ho (blk_lt hg)).trans hg, hc⟩
theorem encs_at {α : Type} {enc : α → Value} (d : α) {xs : List α} {j : Nat} (h : j < xs.length) : (encs enc xs)[j]? = some (enc (xs.getD j d)) := encs_get xs j h
theorem RC.of_R {w : World} {base : Nat} {ok : Nat → Prop} {s : Sl} {xs : List Int} (h : KI.R 3 w base ok (slv s) xs) : RC w (fun k => ok k ∧ base ≤ k ∧ some k = (slv s).ownBlock) s xs := by
  have hmx := Kd.C_max (Kd.R_reads' (A := s.1) (n := s.2.1) (c := s.2.2) h).2.2
  have hlen := (Kd.R_reads' (A := s.1) (n := s.2.1) (c := s.2.2) h).1
  refine ⟨hlen, hmx, fun hn => ?_⟩
  have ho := Kd.own_of_R h
  have hok := h.1
  rcases ho.2 with ⟨h1, h2⟩ | ⟨g, cap, cur, h1, h2, h3, h4, h5, h6, h7⟩
  · exfalso
    have hz : s.2.1 = 0 := by unfold slv at h1; injection h1
    have hx : xs = [] := List.eq_nil_of_length_eq_zero (by omega)
    rw [hx] at hn
    exact Nat.lt_irrefl 0 hn
  · have hb : (slv s).ownBlock = some g := by rw [h1]; simp [Value.ownBlock]
    refine ⟨g, by injection h1, ⟨hok g hb, h2, hb.symm⟩, cur, h3, fun j hj => ?_⟩
    have h8 := encs_at (enc := Value.int .i64) 0 hj
    rw [← h7, List.getElem?_take] at h8
    split at h8
    · simpa using h8
    · cases h8
/-- A row of one's own looks at its own block alone. -/
theorem R_own_move {α : Type} {enc : α → Value} {h1 : ∀ x : α, (enc x).oneCell' = true} {e : Nat} {w w1 : World} {base : Nat} {ok : Nat → Prop} {v : Value} {xs : List α} (h : (Kd.scalar enc h1).R e w base ok v xs) (hm : ∀ k, v.ownBlock = some k → w1.heap[k]? = w.heap[k]?) : (Kd.scalar enc h1).R e w1 base ok v xs :=
  Kd.R_of_own (own_move (Kd.own_of_R h) hm) h.1
theorem R_reok {α : Type} {enc : α → Value} {h1 : ∀ x : α, (enc x).oneCell' = true} {e : Nat} {w : World} {base : Nat} {ok ok' : Nat → Prop} {v : Value} {xs : List α} (h : (Kd.scalar enc h1).R e w base ok v xs) (hm : ∀ k, v.ownBlock = some k → ok' k) : (Kd.scalar enc h1).R e w base ok' v xs :=
  Kd.R_of_own (Kd.own_of_R h) hm
theorem R_rebase {α : Type} {enc : α → Value} {h1 : ∀ x : α, (enc x).oneCell' = true} {e : Nat} {w : World} {base base' : Nat} {ok : Nat → Prop} {v : Value} {xs : List α} (h : (Kd.scalar enc h1).R e w base ok v xs) (hm : ∀ k, v.ownBlock = some k → base' ≤ k) : (Kd.scalar enc h1).R e w base' ok v xs := by
  have ho := Kd.own_of_R h
  refine Kd.R_of_own ⟨ho.1, ?_⟩ h.1
  rcases ho.2 with h2 | ⟨g, cap, cur, h1, h2, r⟩
  · exact .inl h2
  · exact .inr ⟨g, cap, cur, h1, hm g (by rw [h1]; simp [Value.ownBlock]), r⟩

/-! ### an append behind which the elder slice reads as it did -/
section
variable {P : Program} (w : World)
theorem run_append_keep (base : Nat) (t ty e : TypeId) (i : TypeInfo) (z : Value) (size bytes : Nat) (ht : P.underlying t = some (.slice e)) (hi : P.info? e = some i) (hz : i.zero = some z)
    (hsize : i.size = size) (hby : i.bytes = bytes) (hzs : z.cells.size = size) (hsz : 0 < size)
    (v : Value) (n : Nat) (xs : List Value) (hown : w.ownsRow base e size v n xs)
    (a : Addr) (m c : Nat) (news : List Value) (hl : news.length = m * size) (hnews : ∀ j u, news[j]? = some u → w.cell? (a.add j) = some u) (h1 : ∀ u ∈ news, u.oneCell' = true)
    (h63 : n + m ≤ maxLen) (hbytes : (n + m) * bytes ≤ 140737488355328) (hbase : base ≤ w.heap.size) :
    ∃ v' w', (Builtin.append_ #[t, t] ty #[v, .slice (some a) m c]).run P w = .ok v' w' ∧ w'.ownsRow base e size v' (n + m) (xs ++ news) ∧ w.grownBy w' v.ownBlock ∧
      (v'.ownBlock = v.ownBlock ∨ v'.ownBlock = some w.heap.size) ∧ (∀ g, v.ownBlock = some g → ∃ cells : Array Value, w'.heap[g]? = some (.cells cells e (0, 0)) ∧ ∀ (j : Nat) (u : Value), xs[j]? = some u → cells[j]? = some u) := by
  obtain ⟨v', w', hr, h2, h3, _, h5⟩ := run_append_own_at (P := P) w base t ty e i z size bytes ht hi hz hsize hby hzs hsz v n xs hown a m c news hl hnews h1 h63 hbytes hbase
  refine ⟨v', w', hr, h2, h3, h5, fun g hv => ?_⟩
  subst hsize
  subst hby
  rcases hown.2 with ⟨rfl, _⟩ | ⟨g', cap, cur, rfl, hbg, hg, hnc, hcm, hcs, htake⟩
  · simp [Value.ownBlock] at hv
  · have hgg : g' = g := by simpa [Value.ownBlock] using hv
    subst hgg
    have hold : ∀ j u, xs[j]? = some u → cur[j]? = some u ∧ j < n * i.size := by
      intro j u hj
      rw [← htake, List.getElem?_take] at hj
      split at hj
      · rename_i hlt
        exact ⟨by simpa using hj, hlt⟩
      · cases hj
    by_cases hroom : n + m ≤ cap
    · have hfit : n * i.size + news.length ≤ cur.size := by rw [hl, hcs, ← Nat.add_mul]; exact Nat.mul_le_mul_right _ hroom
      have hr2 := run_append_room (P := P) w t ty e i ht hi g' n cap cur hg a m c news hl hnews h1 hroom hfit
      rw [hr] at hr2
      injection hr2 with e1 e2
      rw [e2]
      refine ⟨_, setRow_heap w g' cur _ e _ hg, fun j u hj => ?_⟩
      obtain ⟨o1, o2⟩ := hold j u hj
      rw [List.getElem?_toArray, List.append_assoc, List.getElem?_append_left (by rw [List.length_take, Array.length_toList]; omega), List.getElem?_take, if_pos o2]
      simpa using o1
    · have holds : ∀ j u, xs[j]? = some u → w.cell? ((⟨g', 0, none⟩ : Addr).add j) = some u := hown.cells (g := g') rfl
      have hr2 := run_append_grow (P := P) w t ty e i z ht hi hz ⟨g', 0, none⟩ n cap xs hown.1 holds a m c news hl hnews (by omega) (by simp only [maxLen] at h63; omega) (growslice_fits (by omega) hbytes)
      rw [hr] at hr2
      injection hr2 with e1 e2
      rw [e2]
      refine ⟨cur, ?_, fun j u hj => (hold j u hj).1⟩
      exact (Below.heap_alloc w.drew _ g' (blk_lt hg)).trans hg
end
section
variable {P : Program} {ops : Array Oper} {rest : List Oper} {o : Oper} {a : Act} {Q : Exit → Act → World → Prop}
theorem append_keep {w0 W : World} (base : Nat) (hgd : o.guard = none) (s x : Operand) (t e : TypeId) (z : Value)
    (ho : o.op = .call { callee := .builtin .append, args := #[s, x], argTypes := #[t, t] })
    (ht : P.underlying t = some (.slice e)) (hinfo : (P.info? e).map (fun i => (i.zero, i.size, i.bytes)) = some (some z, 1, 8)) (hz : z.cells.size = 1)
    (v : Value) (xs ys : List Int) (A : Option Addr) (m c : Nat) (ok : Nat → Prop) (hs : a.eval s = v) (hx : a.eval x = .slice A m c) (hm0 : 0 < m) (hfresh : ∀ k, W.heap.size ≤ k → ok k)
    (HO : KI.R e W base ok v xs) (HR : KI.C W A m ys) (HB : Below base w0 W) (hbase : base ≤ W.heap.size) (hl : (xs.length + m) * 8 ≤ 140737488355328)
    (h : ∀ v1 w1, KI.R e w1 base ok v1 (xs ++ ys) → Below base w0 w1 → W.grownBy w1 v.ownBlock → (v1.ownBlock = v.ownBlock ∨ v1.ownBlock = some W.heap.size) →
      (∀ g, v.ownBlock = some g → ∃ cells : Array Value, w1.heap[g]? = some (.cells cells e (0, 0)) ∧ ∀ j, j < xs.length → cells[j]? = some (.int .i64 (xs.getD j 0))) → wpList P ops Q rest (a.put o.dst v1) w1) :
    wpList P ops Q (o :: rest) a W := by
  obtain ⟨i0, hi, hzz⟩ := Option.map_eq_some_iff.1 hinfo
  simp only [Prod.mk.injEq] at hzz
  obtain ⟨hz0, hz1, hz2⟩ := hzz
  have hrd := Kd.reads_of_C (d := (0 : Int)) HR
  obtain ⟨ad, rfl, hcell⟩ := hrd.2.2 hm0
  have hym : ys.length = m := hrd.1
  have hown := Kd.own_of_R HO
  obtain ⟨v1, w1, hr1, h2, h3, h4, h5⟩ := run_append_keep (P := P) W base t o.type e i0 z 1 8 ht hi hz0 hz1 hz2 hz (by decide) v xs.length (encs (Value.int .i64) xs) hown ad m c (encs (Value.int .i64) ys) (by rw [encs_length, hym, Nat.mul_one])
    (fun j u hj => by
      have hjl : j < ys.length := by
        have := (List.getElem?_eq_some_iff.1 hj).1
        rwa [encs_length] at this
      rw [encs_at 0 hjl] at hj
      injection hj with hj
      rw [← hj]
      exact hcell j (by omega))
    (fun u hu => by
      unfold encs at hu
      rw [List.mem_map] at hu
      obtain ⟨q, _, rfl⟩ := hu
      rfl)
    (by simp only [maxLen]; omega) hl hbase
  refine wpList_plain hgd fun K hK => ?_
  unfold Oper.wp execOp
  simp only [ho, resolve, invoke, builtin, Sem.run_bind, Sem.run_pure, Result.andThen_ok, List.map_toArray, List.map_cons, List.map_nil, hs, hx, hr1]
  refine hK _ _ (h v1 w1 (Kd.R_of_own (by rw [List.length_append, hym, encs_append]; exact h2) (fun k hk => ?_)) (HB.grown h3 hbase (own_base hown)) h3 h4 (fun g hg => ?_))
  · rcases h4 with e1 | e1
    · exact HO.1 k (by rw [← e1]; exact hk)
    · rw [e1] at hk
      injection hk with hk
      exact hfresh k (by omega)
  · obtain ⟨cells, hc1, hc2⟩ := h5 g hg
    exact ⟨cells, hc1, fun j hj => hc2 j _ (encs_at 0 hj)⟩
end

/-! ### marks -/
def mkAt (i k : Nat) : Int := -1000000 * (i : Int) - (k : Int) - 7
def marks (i f n : Nat) : List Int := (List.range n).map fun k => mkAt i (f + k)
theorem marks_length (i f n : Nat) : (marks i f n).length = n := by simp [marks]
theorem marks_getD (i f n k : Nat) (h : k < n) : (marks i f n).getD k 0 = mkAt i (f + k) := by
  unfold marks
  rw [List.getD_eq_getElem?_getD, List.getElem?_map, List.getElem?_range h]
  rfl
theorem marks_succ (i f n : Nat) : marks i f (n + 1) = marks i f n ++ [mkAt i (f + n)] := by
  unfold marks
  rw [List.range_succ, List.map_append]
  rfl
theorem marks_append (i f n : Nat) : ∀ m, marks i f (n + m) = marks i f n ++ marks i (f + n) m
  | 0 => by simp [marks]
  | m + 1 => by
    rw [marks_succ, ← List.append_assoc, ← marks_append i f n m, ← Nat.add_assoc, marks_succ, Nat.add_assoc]
theorem marks_zero (i f : Nat) : marks i f 0 = [] := rfl
theorem getD_append_left (a b : List Int) (j : Nat) (h : j < a.length) : (a ++ b).getD j 0 = a.getD j 0 := by
  rw [List.getD_eq_getElem?_getD, List.getD_eq_getElem?_getD, List.getElem?_append_left h]
set_option maxRecDepth 100000 in
set_option maxHeartbeats 1000000 in
theorem mark_any (i f n : Nat) (w : World) (hi : i ≤ 250) (hf : f ≤ 100000) (hn : n ≤ 100000) :
    Calls Try.prog 75 #[.int .i64 i, .int .i64 f, .int .i64 n] w fun e w' => ∃ v, e = .returned v ∧ KI.R 3 w' w.heap.size (fun _ => True) v (marks i f n) ∧ Below w.heap.size w w' := by
  go_enter Try.func75, Try.ntmps75
  go_wp2_with (fail)
  go_loopg [7, 8] n (fun j v k wr => ∃ q : Nat, q + j = n ∧ k = .int .i64 ((f : Int) + (q : Int)) ∧ Hid (KI.R 3 wr w.heap.size (fun _ => True) v (marks i f q) ∧ Below w.heap.size w wr))
  case atStart => exact ⟨0, by omega, by go_num, Kd.R_nil _ _ _ _ _, Below.refl _ _⟩
  case round =>
    obtain ⟨q, hq, rfl, HI⟩ := hrel
    obtain ⟨hr, hb⟩ := HI.out
    by_cases hlt : q < n
    · have hlti : (f : Int) + (q : Int) < (f : Int) + (n : Int) := by omega
      have HR := Lib.hid hr
      have HB := Lib.hid hb
      obtain ⟨A7, c7, rfl⟩ := Kd.R_slice hr
      rw [marks_length]
      have hmk : -1000000 * (i : Int) - ((f : Int) + (q : Int)) - 7 = mkAt i (f + q) := by unfold mkAt; omega
      have HMK := Lib.hid hmk
      have HQ := Lib.hid hq
      clear hr hb HI hmk hq
      go_wp2_with (((with_reducible refine gate_builtin (b := .append) (xs := #[.tmp 17, .tmp 23]) rfl ?_); at_builtin; apply stopper))
      unfold Stopper
      refine Kd.R_append KI (w0 := w) w.heap.size rfl (.tmp 17) (.tmp 23) 27 3 (.int .i64 0) 8 rfl Try.underlying27 infoInt rfl (by decide) (by omega) (.slice A7 q c7) (marks i f q) (-1000000 * (i : Int) - ((f : Int) + (q : Int)) - 7) [.int .i64 (-1000000 * (i : Int) - ((f : Int) + (q : Int)) - 7)] (fun _ => True) (fun _ => False) rfl rfl rfl (fun _ hk => hk.elim) (fun _ _ => trivial) (by have := HR.out; rw [marks_length] at this; exact this) HB.out HB.out.size (by rw [marks_length]; omega) ?_
      intro v1 w2 ho hb2 hg2 hat2
      rw [HMK.out, ← marks_succ] at ho
      have HR2 := Lib.hid ho
      have HB2 := Lib.hid hb2
      clear ho hb2 hg2 hat2 HR HB
      go_wp2
      go_roundg (n - (q + 1))
      case measure => have := HQ.out; omega
      case rel => exact ⟨q + 1, by have := HQ.out; omega, by go_num, HR2.out, HB2.out⟩
    · obtain rfl : q = n := by omega
      have HR := Lib.hid hr
      have HB := Lib.hid hb
      clear hr hb HI
      go_wp2_with (fail)
      go_ret
      exact ⟨_, rfl, HR.out, HB.out⟩
end Go.Proofs.Ytfiflloieojgbaa.Book

namespace Go.Proofs.Ytfiflloieojgbaa.Book
set_option linter.unusedVariables false
set_option linter.unusedSimpArgs false
open Go.RowKit Go.Proofs.YtfiflloieojgbaaW.PrintWords Go.Proofs.YtfiflloieojgbaaW.PrintMore Go.Proofs.Ytfiflloieojgbaa.L Go.Proofs.Ytfiflloieojgbaa.Ints

def nilS : Value := .slice none 0 0
def bcells (V U X Y : Value) : Array Value := #[V, U, .slice none 0 0, .slice none 0 0, .slice none 0 0, .slice none 0 0, X, Y, .slice none 0 0, .slice none 0 0]
theorem ten_cells {w : World} {b t : Nat} {V U X Y : Value} (h : w.heap[b]? = some (.cells (bcells V U X Y) t (0, 0))) :
    w.cell? ⟨b, 0, none⟩ = some V ∧ w.cell? ⟨b, 1, none⟩ = some U ∧ w.frozen? ⟨b, 0, none⟩ = false ∧ w.frozen? ⟨b, 1, none⟩ = false := by
  simp [World.cell?, World.frozen?, h, bcells]
theorem ten_rest {w : World} {b t : Nat} {V U X Y : Value} (h : w.heap[b]? = some (.cells (bcells V U X Y) t (0, 0))) :
    w.cell? ⟨b, 2, none⟩ = some (.slice none 0 0) ∧ w.cell? ⟨b, 3, none⟩ = some (.slice none 0 0) ∧ w.cell? ⟨b, 4, none⟩ = some (.slice none 0 0) ∧ w.cell? ⟨b, 5, none⟩ = some (.slice none 0 0) ∧
    w.cell? ⟨b, 6, none⟩ = some X ∧ w.cell? ⟨b, 7, none⟩ = some Y ∧ w.cell? ⟨b, 8, none⟩ = some (.slice none 0 0) ∧ w.cell? ⟨b, 9, none⟩ = some (.slice none 0 0) := by
  simp [World.cell?, h, bcells]
/-- The lists that are kept. -/
structure PK (w : World) (b base bb : Nat) (V U X Y : Value) (vs : List Sl) (xss : List (List Int)) : Prop where
  blk : w.heap[b]? = some (.cells (bcells V U X Y) 42 (0, 0))
  bge : bb ≤ b
  rv : KV.R 27 w bb (fun _ => True) V vs
  lv : vs.length = xss.length
  fv : ∀ i, i < xss.length → KI.R 3 w base (fun _ => True) (slv (vs.getD i z0)) (xss.getD i [])
  ap : ∀ i j, i < j → j < xss.length → (slv (vs.getD i z0)).ownBlock = none ∨ (slv (vs.getD i z0)).ownBlock ≠ (slv (vs.getD j z0)).ownBlock
/-- And the copies. -/
structure BK (w : World) (b base bb : Nat) (V U X Y : Value) (vs us : List Sl) (xss : List (List Int)) : Prop extends PK w b base bb V U X Y vs xss where
  ru : KV.R 27 w bb (fun _ => True) U us
  vu : V.ownBlock = none ∨ V.ownBlock ≠ U.ownBlock
  lu : us.length = xss.length
  fu : ∀ i, i < xss.length → KI.R 3 w base (fun _ => True) (slv (us.getD i z0)) (xss.getD i [])
theorem PK.below {w w1 : World} {b base bb : Nat} {V U X Y : Value} {vs : List Sl} {xss : List (List Int)} (h : PK w b base bb V U X Y vs xss) (hb : Below w.heap.size w w1) : PK w1 b base bb V U X Y vs xss :=
  ⟨(hb.block b (blk_lt h.blk)).trans h.blk, h.bge, Kd.R_below h.rv hb, h.lv, fun i hi => Kd.R_below (h.fv i hi) hb, h.ap⟩
theorem BK.below {w w1 : World} {b base bb : Nat} {V U X Y : Value} {vs us : List Sl} {xss : List (List Int)} (h : BK w b base bb V U X Y vs us xss) (hb : Below w.heap.size w w1) : BK w1 b base bb V U X Y vs us xss :=
  ⟨h.toPK.below hb, Kd.R_below h.ru hb, h.vu, h.lu, fun i hi => Kd.R_below (h.fu i hi) hb⟩
theorem bk_new (w : World) (base : Nat) : BK (w.alloc (.cells (bcells (.slice none 0 0) (.slice none 0 0) (.slice none 0 0) (.slice none 0 0)) 42 (0, 0))) w.heap.size base w.heap.size (.slice none 0 0) (.slice none 0 0) (.slice none 0 0) (.slice none 0 0) [] [] [] :=
  ⟨⟨heap_alloc_self _ _, Nat.le_refl _, Kd.R_nil _ _ _ _ _, rfl, fun i h => absurd h (Nat.not_lt_zero i), fun i j _ h => absurd h (Nat.not_lt_zero j)⟩, Kd.R_nil _ _ _ _ _, .inl rfl, rfl, fun i h => absurd h (Nat.not_lt_zero i)⟩
theorem getD_snoc {α : Type} (l : List α) (x d : α) (i : Nat) (h : i < l.length + 1) : (l ++ [x]).getD i d = if i < l.length then l.getD i d else x := by
  by_cases hi : i < l.length
  · rw [if_pos hi, List.getD_eq_getElem?_getD, List.getElem?_append_left hi, ← List.getD_eq_getElem?_getD]
  · rw [if_neg hi, List.getD_eq_getElem?_getD, List.getElem?_append_right (by omega), show i - l.length = 0 by omega]
    rfl

theorem getD_fam {P : Sl → List Int → Prop} {vs : List Sl} {xss : List (List Int)} {s : Sl} {xs : List Int} (hl : vs.length = xss.length) (h : ∀ i, i < xss.length → P (vs.getD i z0) (xss.getD i [])) (hx : P s xs) :
    ∀ i, i < (xss ++ [xs]).length → P ((vs ++ [s]).getD i z0) ((xss ++ [xs]).getD i []) := by
  intro i hi
  rw [List.length_append, List.length_singleton] at hi
  rw [getD_snoc _ _ _ _ (by omega), getD_snoc _ _ _ _ (by omega)]
  by_cases h2 : i < xss.length
  · rw [if_pos h2, if_pos (by omega)]
    exact h i h2
  · rw [if_neg h2, if_neg (by omega)]
    exact hx
theorem ap_more {vs : List Sl} {n : Nat} {s : Sl} (hl : vs.length = n) (h : ∀ i j, i < j → j < n → (slv (vs.getD i z0)).ownBlock = none ∨ (slv (vs.getD i z0)).ownBlock ≠ (slv (vs.getD j z0)).ownBlock)
    (hx : ∀ i, i < n → (slv (vs.getD i z0)).ownBlock = none ∨ (slv (vs.getD i z0)).ownBlock ≠ (slv s).ownBlock) :
    ∀ i j, i < j → j < n + 1 → (slv ((vs ++ [s]).getD i z0)).ownBlock = none ∨ (slv ((vs ++ [s]).getD i z0)).ownBlock ≠ (slv ((vs ++ [s]).getD j z0)).ownBlock := by
  intro i j hij hj
  rw [getD_snoc _ _ _ _ (by omega), getD_snoc _ _ _ _ (by omega), if_pos (by omega)]
  by_cases h2 : j < n
  · rw [if_pos (by omega)]
    exact h i j hij h2
  · rw [if_neg (by omega)]
    exact hx i (by omega)
theorem bk_more {w2 w3 : World} {b base bb : Nat} {V2 U1 U3 X Y : Value} {vs us : List Sl} {xss : List (List Int)} {s u : Sl} {xs : List Int}
    (hblk3 : w3.heap[b]? = some (.cells (bcells V2 U1 X Y) 42 (0, 0))) (bge : bb ≤ b) (hV : KV.R 27 w2 bb (fun _ => True) V2 (vs ++ [s])) (hU3 : KV.R 27 w3 bb (fun _ => True) U3 (us ++ [u]))
    (hg3 : w2.grownBy w3 U1.ownBlock) (hU1 : KV.R 27 w2 bb (fun _ => True) U1 us) (hVU : V2.ownBlock = none ∨ V2.ownBlock ≠ U1.ownBlock) (hat3 : U3.ownBlock = U1.ownBlock ∨ ∃ k, U3.ownBlock = some k ∧ w2.heap.size ≤ k)
    (lv : vs.length = xss.length) (lu : us.length = xss.length) (hfv : ∀ i, i < xss.length → KI.R 3 w2 base (fun _ => True) (slv (vs.getD i z0)) (xss.getD i [])) (hfu : ∀ i, i < xss.length → KI.R 3 w2 base (fun _ => True) (slv (us.getD i z0)) (xss.getD i []))
    (hx : KI.R 3 w2 base (fun _ => True) (slv s) xs) (hw : KI.R 3 w2 base (fun _ => True) (slv u) xs)
    (ap : ∀ i j, i < j → j < xss.length → (slv (vs.getD i z0)).ownBlock = none ∨ (slv (vs.getD i z0)).ownBlock ≠ (slv (vs.getD j z0)).ownBlock) (hap : ∀ i, i < xss.length → (slv (vs.getD i z0)).ownBlock = none ∨ (slv (vs.getD i z0)).ownBlock ≠ (slv s).ownBlock) :
    BK (w3.setCell ⟨b, 1, none⟩ U3) b base bb V2 U3 X Y (vs ++ [s]) (us ++ [u]) (xss ++ [xs]) := by
  have hint : ∀ (q : Value) (ys : List Int), KI.R 3 w2 base (fun _ => True) q ys → KI.R 3 (w3.setCell ⟨b, 1, none⟩ U3) base (fun _ => True) q ys := fun q ys hr =>
    Kd.R_set (R_own_move hr (fun k hk => hg3.block k (Kd.R_lt hr k hk) (fun e => by
      obtain ⟨cells, hc⟩ := Kd.R_typed hU1 k e.symm
      exact Kd.R_ne hr hc (by decide) hk.symm))) hblk3 (by decide) 1 U3
  refine ⟨⟨by rw [heap_setCell_same _ _ 1 _ _ _ hblk3]; rfl, bge, Kd.R_set (R_own_move hV (fun k hk => hg3.block k (Kd.R_lt hV k hk) (fun e => ?_))) hblk3 (by decide) 1 U3, by rw [List.length_append, List.length_append, lv]; rfl, ?_, ?_⟩, Kd.R_set hU3 hblk3 (by decide) 1 U3, ?_, by rw [List.length_append, List.length_append, lu]; rfl, ?_⟩
  · rcases hVU with h | h
    · rw [h] at hk; cases hk
    · exact h (by rw [hk, e])
  · exact getD_fam (P := fun q ys => KI.R 3 (w3.setCell ⟨b, 1, none⟩ U3) base (fun _ => True) (slv q) ys) lv (fun i hi => hint _ _ (hfv i hi)) (hint _ _ hx)
  · rw [List.length_append]
    exact ap_more lv ap hap
  · rcases hat3 with h | ⟨k, h, hk⟩
    · rw [h]; exact hVU
    · right
      rw [h]
      intro e
      have := Kd.R_lt hV k e
      omega
  · exact getD_fam (P := fun q ys => KI.R 3 (w3.setCell ⟨b, 1, none⟩ U3) base (fun _ => True) (slv q) ys) lu (fun i hi => hint _ _ (hfu i hi)) (hint _ _ hw)
set_option maxRecDepth 100000 in
set_option maxHeartbeats 2000000 in
theorem ints_any2 (b base bb : Nat) (V U X Y : Value) (vs us : List Sl) (xss : List (List Int)) (A : Option Addr) (n c : Nat) (xs : List Int) (w : World)
    (h : BK w b base bb V U X Y vs us xss) (hx : KI.R 3 w base (fun _ => True) (.slice A n c) xs) (hap : ∀ i, i < xss.length → (slv (vs.getD i z0)).ownBlock = none ∨ (slv (vs.getD i z0)).ownBlock ≠ (Value.slice A n c).ownBlock)
    (hbs : base ≤ w.heap.size) (hbw : bb ≤ w.heap.size) (hl : xss.length ≤ 200) (hn : xs.length ≤ 100000) :
    Calls Try.prog 17 #[.pointer (some ⟨b, 0, none⟩), .slice A n c] w fun e w' => (∃ V1 U1 u, BK w' b base bb V1 U1 X Y (vs ++ [(A, n, c)]) (us ++ [u]) (xss ++ [xs]) ∧ ∀ k, (slv u).ownBlock = some k → w.heap.size ≤ k) ∧ e = .returned (.tuple #[]) ∧ Below bb w w' := by
  obtain ⟨V1, c1, rfl⟩ := Kd.R_slice h.rv
  obtain ⟨U1, c2, rfl⟩ := Kd.R_slice h.ru
  have HLV := Lib.hid h.lv
  have HLU := Lib.hid h.lu
  have hlv : vs.length ≤ 200 := by rw [HLV.out]; exact hl
  have hlu : us.length ≤ 200 := by rw [HLU.out]; exact hl
  obtain ⟨d0, d1, d2, d3⟩ := ten_cells h.blk
  have hlen : (vs.length : Int) < 250 := by omega
  have HBK := Lib.hid h
  have HX := Lib.hid hx
  have HAP := Lib.hid hap
  clear h hx hap
  go_enter Try.func17, Try.ntmps17
  go_wp2_with (((with_reducible refine gate_builtin (b := .append) (xs := #[.tmp 14, .tmp 16]) rfl ?_); at_builtin; apply stopper))
  unfold Stopper
  refine Kd.R_append KV (w0 := w) bb rfl (.tmp 14) (.tmp 16) 36 27 (.slice none 0 0) 24 rfl Try.underlying36 infoRow rfl (by decide) (by omega) (.slice V1 vs.length c1) vs (A, n, c) [.slice A n c] (fun _ => True) (fun _ => False) rfl rfl rfl (fun _ hk => hk.elim) (fun _ _ => trivial) HBK.out.rv (Below.refl _ w) hbw (by omega) ?_
  intro v1 w1 ho hb1 hg1 hat1
  have hbne : some b ≠ (Value.slice V1 vs.length c1).ownBlock := Kd.R_ne HBK.out.rv HBK.out.blk (by decide)
  have hblk1 := (hg1.block b (blk_lt HBK.out.blk) hbne).trans HBK.out.blk
  have hru1 : KV.R 27 w1 bb (fun _ => True) (.slice U1 us.length c2) us := R_own_move HBK.out.ru (fun k hk => hg1.block k (Kd.R_lt HBK.out.ru k hk) (fun e => by
    rcases HBK.out.vu with h | h
    · rw [h] at e; cases e
    · exact h (by rw [hk, e])))
  have hvu1 : v1.ownBlock = none ∨ v1.ownBlock ≠ (Value.slice U1 us.length c2).ownBlock := by
    rcases hat1 with h | ⟨k, h, hk⟩
    · rw [h]; exact HBK.out.vu
    · right
      rw [h]
      intro e
      have := Kd.R_lt HBK.out.ru k e.symm
      omega
  have hint : ∀ (s : Value) (ys : List Int), KI.R 3 w base (fun _ => True) s ys → KI.R 3 w1 base (fun _ => True) s ys := fun s ys hr =>
    R_own_move hr (fun k hk => hg1.block k (Kd.R_lt hr k hk) (fun e => by
      obtain ⟨cells, hc⟩ := Kd.R_typed HBK.out.rv k e.symm
      exact Kd.R_ne hr hc (by decide) hk.symm))
  obtain ⟨V2, c3, rfl⟩ := Kd.R_slice ho
  rw [List.length_append, List.length_singleton] at ho hvu1 ⊢
  obtain ⟨e0, e1, e2, e3⟩ := ten_cells hblk1
  have hblka : (w1.setCell ⟨b, 0, none⟩ (.slice V2 (vs.length + 1) c3)).heap[b]? = some (.cells (bcells (.slice V2 (vs.length + 1) c3) (.slice U1 us.length c2) X Y) 42 (0, 0)) := by rw [heap_setCell_same _ _ 0 _ _ _ hblk1]; rfl
  have HBLK := Lib.hid hblka
  have HV := Lib.hid (Kd.R_set ho hblk1 (by decide) 0 (.slice V2 (vs.length + 1) c3))
  have HU := Lib.hid (Kd.R_set hru1 hblk1 (by decide) 0 (.slice V2 (vs.length + 1) c3))
  have HVU := Lib.hid hvu1
  have HFV := Lib.hid (fun i hi => Kd.R_set (hint _ _ (HBK.out.fv i hi)) hblk1 (by decide) 0 (.slice V2 (vs.length + 1) c3))
  have HFU := Lib.hid (fun i hi => Kd.R_set (hint _ _ (HBK.out.fu i hi)) hblk1 (by decide) 0 (.slice V2 (vs.length + 1) c3))
  have HX1 := Lib.hid (Kd.R_set (hint _ _ HX.out) hblk1 (by decide) 0 (.slice V2 (vs.length + 1) c3))
  have HB1 := Lib.hid (hb1.setCell (p := ⟨b, 0, none⟩) HBK.out.bge (.slice V2 (vs.length + 1) c3))
  have hxc := (Kd.R_reads' HX1.out).2.2
  have hnx := (Kd.R_reads' HX1.out).1
  have hn2 : n ≤ 100000 := by rw [hnx]; exact hn
  rw [← hnx] at hxc
  have HXC := Lib.hid hxc
  have HNX := Lib.hid hnx
  clear hxc hnx hblka hbne hblk1 hru1 hvu1 hint ho hb1 hg1 hat1 d0 d1 d2 d3
  go_wp2_with (fail)
  generalize w1.setCell ⟨b, 0, none⟩ (.slice V2 (vs.length + 1) c3) = wa at *
  clear e0 e1 e2 e3
  obtain ⟨e0, e1, e2, e3⟩ := ten_cells HBLK.out
  go_region_law (first
    | (go_simp; go_at_call 36; refine (copy_ints _ _ _ _ _ (Kd.C_drew HXC.out) (by omega)).mono ?_; rintro e w2 ⟨v2, rfl, hr2, hb2⟩; obtain ⟨A2, c4, rfl⟩ := Kd.R_slice hr2; have HBLK2 := Lib.hid ((hb2.block b (blk_lt HBLK.out)).trans HBLK.out); have HU2 := Lib.hid (Kd.R_below (Kd.R_drew HU.out) hb2); have HB2 := Lib.hid (Ints.bel_trans (below_drew HB1.out) (Nat.le_trans hbw HB1.out.size) hb2); have HW := Lib.hid hr2; have HS2 := Lib.hid hb2; obtain ⟨f0, f1, f2, f3⟩ := ten_cells HBLK2.out; have f4 := fun o : Obj => (ten_cells (L.heap_alloc_old HBLK2.out o)).2.1; clear hb2 hr2)
    | (refine Kd.R_append_step KV (w0 := w) bb (by rfl) (.tmp 24) (.tmp 27) 36 27 (.slice none 0 0) 24 rfl Try.underlying36 infoRow rfl (by decide) (by omega) (.slice U1 us.length c2) us (A2, xs.length, c4) [.slice A2 xs.length c4] (fun _ => True) (fun _ => False) (by simp [Act.eval, Act.put]) (by simp [Act.eval, Act.put]) rfl (fun _ hk => hk.elim) (fun _ _ => trivial) HU2.out HB2.out (Nat.le_trans hbw HB2.out.size) (by omega) ?_; intro v3 w3 ho3 hb3 hg3 hat3; obtain ⟨A3, c5, hv3⟩ := Kd.R_slice ho3; rw [List.length_append, List.length_singleton] at hv3; subst hv3; have HBLK3 := Lib.hid ((hg3.block b (blk_lt HBLK2.out) (Kd.R_ne HU2.out HBLK2.out (by decide))).trans HBLK2.out); have HU3 := Lib.hid ho3; have HG3 := Lib.hid hg3; have HAT3 := Lib.hid hat3; have HB3 := Lib.hid hb3; obtain ⟨g0, g1, g2, g3⟩ := ten_cells HBLK3.out; clear ho3 hb3 hg3 hat3))
  all_goals
    go_end0
    have hs2 := HS2.out
    have dr : ∀ {q : Value} {ys : List Int}, KI.R 3 wa base (fun _ => True) q ys → KI.R 3 w2 base (fun _ => True) q ys := fun h => Kd.R_below (Kd.R_drew h) hs2
    refine ⟨⟨_, _, _, bk_more (s := (A, n, c)) (u := (A2, xs.length, c4)) HBLK3.out HBK.out.bge (Kd.R_below (Kd.R_drew HV.out) hs2) HU3.out HG3.out HU2.out HVU.out HAT3.out HLV.out HLU.out (fun i hi => dr (HFV.out i hi)) (fun i hi => dr (HFU.out i hi)) (dr HX1.out) (Kd.R_lower HW.out (Nat.le_trans hbs HB1.out.size)) HBK.out.ap HAP.out, fun k hk => Nat.le_trans HB1.out.size (Kd.R_base HW.out k hk)⟩, rfl, ?_⟩
    exact HB3.out.setCell (p := ⟨b, 1, none⟩) HBK.out.bge _
theorem ints_any (b base bb : Nat) (V U X Y : Value) (vs us : List Sl) (xss : List (List Int)) (A : Option Addr) (n c : Nat) (xs : List Int) (w : World)
    (h : BK w b base bb V U X Y vs us xss) (hx : KI.R 3 w base (fun _ => True) (.slice A n c) xs) (hap : ∀ i, i < xss.length → (slv (vs.getD i z0)).ownBlock = none ∨ (slv (vs.getD i z0)).ownBlock ≠ (Value.slice A n c).ownBlock)
    (hbs : base ≤ w.heap.size) (hbw : bb ≤ w.heap.size) (hl : xss.length ≤ 200) (hn : xs.length ≤ 100000) :
    Calls Try.prog 17 #[.pointer (some ⟨b, 0, none⟩), .slice A n c] w fun e w' => (∃ V1 U1 u, BK w' b base bb V1 U1 X Y (vs ++ [(A, n, c)]) (us ++ [u]) (xss ++ [xs])) ∧ e = .returned (.tuple #[]) ∧ Below bb w w' := by
  refine (ints_any2 b base bb V U X Y vs us xss A n c xs w h hx hap hbs hbw hl hn).mono ?_
  rintro e w1 ⟨⟨V1, U1, u, hb, _⟩, r⟩
  exact ⟨⟨V1, U1, u, hb⟩, r⟩
/-- Blocks apart from the book's may be written. -/
theorem BK.chg {S : Nat → Prop} {w w1 : World} {b base bb : Nat} {V U X Y : Value} {vs us : List Sl} {xss : List (List Int)} (h : BK w b base bb V U X Y vs us xss) (hK : ∀ k, S k → k < bb) (hv : ∀ i, i < xss.length → ∀ k, (slv (vs.getD i z0)).ownBlock = some k → ¬ S k) (hu : ∀ i, i < xss.length → ∀ k, (slv (us.getD i z0)).ownBlock = some k → ¬ S k)
    (hc : L.Chg S w w1) : BK w1 b base bb V U X Y vs us xss := by
  have hbge := h.bge
  have far : ∀ (v : Value) (qs : List Sl), KV.R 27 w bb (fun _ => True) v qs → KV.R 27 w1 bb (fun _ => True) v qs := fun v qs hr =>
    R_own_move hr (fun k hk => hc.block k (Kd.R_lt hr k hk) (fun e => by have := Kd.R_base hr k hk; have := hK k e; omega))
  have near : ∀ (v : Value) (ys : List Int), (∀ k, v.ownBlock = some k → ¬ S k) → KI.R 3 w base (fun _ => True) v ys → KI.R 3 w1 base (fun _ => True) v ys := fun v ys hn hr =>
    R_own_move hr (fun k hk => hc.block k (Kd.R_lt hr k hk) (hn k hk))
  exact ⟨⟨(hc.block b (blk_lt h.blk) (fun e => by have := hK b e; omega)).trans h.blk, h.bge, far _ _ h.rv, h.lv, fun i hi => near _ _ (hv i hi) (h.fv i hi), h.ap⟩, far _ _ h.ru, h.vu, h.lu, fun i hi => near _ _ (hu i hi) (h.fu i hi)⟩
end Go.Proofs.Ytfiflloieojgbaa.Book

namespace Go.Proofs.Ytfiflloieojgbaa.Book
set_option linter.unusedVariables false
set_option linter.unusedSimpArgs false
open Go.RowKit Go.Proofs.YtfiflloieojgbaaW.PrintWords Go.Proofs.YtfiflloieojgbaaW.PrintMore Go.Proofs.Ytfiflloieojgbaa.L Go.Proofs.Ytfiflloieojgbaa.Ints

theorem same_true (A B : Option Addr) (n m c c' : Nat) (xs : List Int) (w : World) (hx : KI.C w A n xs) (hy : KI.C w B m xs) :
    Calls Try.prog 15 #[.slice A n c, .slice B m c'] w fun e w' => e = .returned (.bool true) ∧ ∃ q, w' = w.drewN q := by
  refine (same_ints A B n m c c' xs xs w hx hy).mono ?_
  rintro e w1 ⟨rfl, q, rfl⟩
  exact ⟨by rw [decide_eq_true (rfl : xs = xs)], q, rfl⟩
theorem fam_C {w : World} {base : Nat} {s : Sl} {xs : List Int} (h : KI.R 3 w base (fun _ => True) (slv s) xs) : s.2.1 = xs.length ∧ KI.C w s.1 s.2.1 xs := by
  have h1 := Kd.R_reads' (A := s.1) (n := s.2.1) (c := s.2.2) h
  exact ⟨h1.1, by rw [h1.1]; exact h1.2.2⟩
set_option maxRecDepth 100000 in
set_option maxHeartbeats 2000000 in
theorem still_any (b base bb : Nat) (V U X Y : Value) (vs us : List Sl) (xss : List (List Int)) (w : World) (h : BK w b base bb V U X Y vs us xss) (hl : xss.length ≤ 200) :
    Calls Try.prog 40 #[.pointer (some ⟨b, 0, none⟩)] w fun e w' => e = .returned (.bool true) ∧ ∃ q, w' = w.drewN q := by
  obtain ⟨V1, c1, rfl⟩ := Kd.R_slice h.rv
  obtain ⟨U1, c2, rfl⟩ := Kd.R_slice h.ru
  have HLV := Lib.hid h.lv
  have HLU := Lib.hid h.lu
  have hlv : vs.length ≤ 200 := by rw [HLV.out]; exact hl
  obtain ⟨d0, d1, d2, d3⟩ := ten_cells h.blk
  have HCV := Lib.hid (Kd.R_reads' h.rv).2.2
  have HCU := Lib.hid (Kd.R_reads' h.ru).2.2
  have HFV := Lib.hid h.fv
  have HFU := Lib.hid h.fu
  clear h
  go_enter Try.func40, Try.ntmps40
  go_wp2_with (fail)
  go_loopg [3] vs.length (fun j i wr => ∃ k : Nat, k + j = vs.length ∧ i = .int .i64 k ∧ ∃ q, wr = w.drewN q)
  case atStart => exact ⟨0, by omega, rfl, 0, rfl⟩
  case round =>
    obtain ⟨k, hk, rfl, q, rfl⟩ := hrel
    by_cases hlt : k < vs.length
    · obtain ⟨ad, rfl, x0⟩ := vals_at HCV.out k hlt
      obtain ⟨bd, rfl, y0⟩ := vals_at HCU.out k (by rw [HLU.out, ← HLV.out]; exact hlt)
      have hv := fam_C (HFV.out k (by rw [← HLV.out]; exact hlt))
      have hu := fam_C (HFU.out k (by rw [← HLV.out]; exact hlt))
      obtain ⟨⟨a1, n1, e1⟩, hs⟩ : ∃ s, vs.getD k z0 = s := ⟨_, rfl⟩
      obtain ⟨⟨a2, n2, e2⟩, ht⟩ : ∃ s, us.getD k z0 = s := ⟨_, rfl⟩
      rw [hs] at x0 hv
      rw [ht] at y0 hu
      have x1 : w.cell? (ad.add k) = some (.slice a1 n1 e1) := x0
      have y1 : w.cell? (bd.add k) = some (.slice a2 n2 e2) := y0
      have HC1 := Lib.hid hv.2
      have HC2 := Lib.hid hu.2
      have i0 : (0 : Int) ≤ k := by omega
      have i1 : (k : Int) < (vs.length : Int) := by omega
      have i3 : (k : Int) < (us.length : Int) := by have := HLU.out; have := HLV.out; omega
      have i2 : ((k : Int)).toNat = k := by omega
      clear hs ht hv hu x0 y0
      go_wp2_with (fail)
      go_quiet ((go_at_call 15; exact quiet2 (same_true _ _ _ _ _ _ (xss.getD k []) _ (by exact HC1.out) (by exact HC2.out))))
      go_wp2_with (fail)
      go_roundg (vs.length - (k + 1))
      case measure => omega
      case rel => exact ⟨k + 1, by omega, by go_num, _, rfl⟩
    · obtain rfl : k = vs.length := by omega
      go_wp2_with (fail)
      go_ret
      exact ⟨rfl, _, rfl⟩

/-! ### all are marked -/
set_option maxRecDepth 100000 in
set_option maxHeartbeats 2000000 in
theorem marked_any (A : Option Addr) (n c : Nat) (gs : List Sl) (w : World) (h : KV.C w A n gs) (hl : n ≤ 200) (hg : ∀ i, i < n → (gs.getD i z0).2.1 ≤ 100000 ∧ KI.C w (gs.getD i z0).1 (gs.getD i z0).2.1 (marks i 0 (gs.getD i z0).2.1)) :
    Calls Try.prog 55 #[.slice A n c] w fun e w' => e = .returned (.bool true) ∧ Below w.heap.size w w' := by
  have H := Lib.hid h
  have HG := Lib.hid hg
  clear h hg
  go_enter Try.func55, Try.ntmps55
  go_wp2_with (fail)
  go_loopg [3] n (fun j i wr => ∃ k : Nat, k + j = n ∧ i = .int .i64 k ∧ Hid (Below w.heap.size w wr))
  case atStart => exact ⟨0, by omega, rfl, Below.refl _ _⟩
  case round =>
    obtain ⟨k, hk, rfl, HB⟩ := hrel
    by_cases hlt : k < n
    · obtain ⟨ad, rfl, x0⟩ := vals_at (Kd.C_below H.out HB.out) k hlt
      obtain ⟨hn1, hc1⟩ := HG.out k hlt
      obtain ⟨⟨a1, n1, e1⟩, hs⟩ : ∃ s, gs.getD k z0 = s := ⟨_, rfl⟩
      rw [hs] at x0 hn1 hc1
      have x1 : wr.cell? (ad.add k) = some (.slice a1 n1 e1) := x0
      have n1l : n1 ≤ 100000 := hn1
      have HC1 := Lib.hid (show KI.C wr a1 n1 (marks k 0 n1) from Kd.C_below hc1 HB.out)
      have i0 : (0 : Int) ≤ k := by omega
      have i1 : (k : Int) < (n : Int) := by omega
      have i2 : ((k : Int)).toNat = k := by omega
      clear hs hn1 hc1 x0
      go_wp2_with (fail)
      go_region_held3 (fun w' => w'.cell? (ad.add k) = some (.slice a1 n1 e1)) (first | assumption | go_keep)
        (first
          | (go_at_call 75; refine (mark_any k 0 n1 _ (by omega) (by omega) n1l).mono ?_; rintro e w2 ⟨v2, rfl, hr2, hb2⟩; obtain ⟨A2, c2, rfl⟩ := Kd.R_slice hr2; have hl2 := marks_length k 0 n1; have HM2 := Lib.hid (Kd.R_reads' hr2).2.2; have HB2 := Lib.hid hb2; have x2 := pw_cell_below hb2 (by exact x1); have HC2 := Lib.hid (Kd.C_below (Kd.C_drew HC1.out) hb2); clear hr2)
          | (go_at_call 15; refine (same_true _ _ _ _ _ _ (marks k 0 n1) _ HC2.out (by have := HM2.out; rw [hl2] at this; exact this)).mono ?_; rintro e w3 ⟨rfl, q3, rfl⟩))
      all_goals
        have HB3 := Lib.hid (below_drewN (Ints.bel_trans (below_drew HB.out) HB.out.size HB2.out) q3)
        go_wp2_with (fail)
        go_roundg (n - (k + 1))
        case measure => omega
        case rel => exact ⟨k + 1, by omega, by go_num, HB3.out⟩
    · obtain rfl : k = n := by omega
      go_wp2_with (fail)
      go_ret
      exact ⟨rfl, HB.out⟩

/-! ### marks are put -/
theorem R_block {w : World} {base : Nat} {s : Sl} {xs : List Int} (h : KI.R 3 w base (fun _ => True) (slv s) xs) (h0 : 0 < xs.length) : ∃ g c, s = (some ⟨g, 0, none⟩, xs.length, c) ∧ base ≤ g ∧ g < w.heap.size ∧ ∃ cells, w.heap[g]? = some (.cells cells 3 (0, 0)) := by
  obtain ⟨g, cap, hv, h1, h2, h3⟩ := Kd.R_form h h0
  obtain ⟨a, n, c⟩ := s
  unfold slv at hv
  injection hv with e1 e2 e3
  exact ⟨g, cap, by rw [show a = _ from e1, show n = _ from e2, show c = _ from e3], h1, h2, h3⟩
theorem getD_set_same {α : Type} (l : List α) (k : Nat) (x d : α) (h : k < l.length) : (l.set k x).getD k d = x := by
  rw [List.getD_eq_getElem?_getD, List.getElem?_set_self h]
  rfl
theorem getD_set_ne {α : Type} (l : List α) (k i : Nat) (x d : α) (h : i ≠ k) : (l.set k x).getD i d = l.getD i d := by
  rw [List.getD_eq_getElem?_getD, List.getElem?_set_ne (Ne.symm h), ← List.getD_eq_getElem?_getD]
theorem pk_put {w : World} {b base bb : Nat} {V U X Y : Value} {vs : List Sl} {xss : List (List Int)} (h : PK w b base bb V U X Y vs xss) {k g n c : Nat} (hk : k < xss.length) (hs : vs.getD k z0 = (some ⟨g, 0, none⟩, n, c)) (q : Nat) (x : Int) :
    PK (w.setCell ⟨g, q, none⟩ (.int .i64 x)) b base bb V U X Y vs (xss.set k ((xss.getD k []).set q x)) := by
  have hr := h.fv k hk
  rw [hs] at hr
  obtain ⟨cells, hc⟩ := Kd.R_typed hr g (by simp [slv, Value.ownBlock])
  have hput := Kd.R_putn (enc := Value.int .i64) (h1 := fun _ => rfl) hr (q : Int) x
  rw [Int.toNat_natCast] at hput
  have hbg : b ≠ g := fun e => by
    have := h.blk
    rw [e, hc] at this
    simp at this
  refine ⟨(Below.heap_setCell _ _ _ _ hbg).trans h.blk, h.bge, Kd.R_set h.rv hc (by decide) q (.int .i64 x), by rw [List.length_set]; exact h.lv, fun i hi => ?_, by rw [List.length_set]; exact h.ap⟩
  rw [List.length_set] at hi
  by_cases hik : i = k
  · subst hik
    rw [getD_set_same _ _ _ _ hk, hs]
    exact hput
  · rw [getD_set_ne _ _ _ _ _ hik]
    refine R_own_move (h.fv i hi) (fun t ht => Below.heap_setCell _ _ _ _ (fun e => ?_))
    have e2 : t = g := e
    subst e2
    have hkb : (slv (vs.getD k z0)).ownBlock = some t := by rw [hs]; simp [slv, Value.ownBlock]
    rcases Nat.lt_or_gt_of_ne hik with hlt | hlt
    · rcases h.ap i k hlt hk with e3 | e3
      · rw [e3] at ht; cases ht
      · exact e3 (by rw [ht, hkb])
    · rcases h.ap k i hlt hi with e3 | e3
      · rw [e3] at hkb; cases hkb
      · exact e3 (by rw [ht, hkb])
theorem set_marks (i q : Nat) (xs : List Int) (h : q < xs.length) : (marks i 0 q ++ xs.drop q).set q (mkAt i q) = marks i 0 (q + 1) ++ xs.drop (q + 1) := by
  rw [List.set_append_right _ _ (by rw [marks_length]; exact Nat.le_refl _), marks_length, Nat.sub_self, List.drop_eq_getElem_cons h, List.set_cons_zero, marks_succ, List.append_assoc, Nat.zero_add]
  rfl
def PutFam (xss yss : List (List Int)) (k : Nat) : Prop := yss.length = xss.length ∧ (∀ i, i < k → i < xss.length → yss.getD i [] = marks i 0 (xss.getD i []).length) ∧ ∀ i, k < i → yss.getD i [] = xss.getD i []
set_option maxRecDepth 100000 in
set_option maxHeartbeats 4000000 in
theorem put_any (b base bb : Nat) (V U X Y : Value) (vs : List Sl) (xss : List (List Int)) (w : World) (h : PK w b base bb V U X Y vs xss) (hl : xss.length ≤ 200) (hn : ∀ i, i < xss.length → (xss.getD i []).length ≤ 10000) (hbs : base ≤ w.heap.size) :
    Calls Try.prog 45 #[.pointer (some ⟨b, 0, none⟩)] w fun e w' => (∃ yss, PK w' b base bb V U X Y vs yss ∧ PutFam xss yss xss.length) ∧ e = .returned (.tuple #[]) ∧ Below base w w' := by
  obtain ⟨V1, c1, rfl⟩ := Kd.R_slice h.rv
  have HLV := Lib.hid h.lv
  have hlv : vs.length ≤ 200 := by rw [HLV.out]; exact hl
  have HP := Lib.hid h
  have HN := Lib.hid hn
  clear h hn
  go_enter Try.func45, Try.ntmps45
  go_wp2_with (fail)
  go_loopg [2] vs.length (fun j i wr => ∃ k : Nat, k + j = vs.length ∧ i = .int .i64 k ∧ Hid ((∃ yss, PK wr b base bb (.slice V1 vs.length c1) U X Y vs yss ∧ PutFam xss yss k ∧ yss.getD k [] = xss.getD k []) ∧ Below base w wr))
  case atStart => exact ⟨0, by omega, rfl, ⟨xss, HP.out, ⟨rfl, fun i hi => absurd hi (Nat.not_lt_zero i), fun i _ => rfl⟩, rfl⟩, Below.refl _ _⟩
  case round =>
    obtain ⟨wo, rfl⟩ : ∃ wo : World, wo = wr := ⟨_, rfl⟩
    obtain ⟨k, hk, rfl, HI⟩ := hrel
    obtain ⟨⟨yss, hpk, hfam, hyk⟩, hb⟩ := HI.out
    obtain ⟨d0, _, d2, _⟩ := ten_cells hpk.blk
    by_cases hlt : k < vs.length
    · obtain ⟨ad, rfl, x0⟩ := vals_at (Kd.R_reads' hpk.rv).2.2 k hlt
      have hkx : k < xss.length := by rw [← HLV.out]; exact hlt
      have hky : k < yss.length := by rw [hfam.1]; exact hkx
      have hv := hpk.fv k hky
      rw [hyk] at hv
      have hnk := HN.out k hkx
      obtain ⟨L, hL⟩ : ∃ L, (xss.getD k []).length = L := ⟨_, rfl⟩
      obtain ⟨⟨a1, n1, e1⟩, hs⟩ : ∃ s, vs.getD k z0 = s := ⟨_, rfl⟩
      rw [hs] at x0 hv
      obtain rfl : n1 = L := by rw [← hL]; exact (fam_C hv).1
      have x1 : wo.cell? (ad.add k) = some (.slice a1 n1 e1) := x0
      rw [hL] at hnk
      have i0 : (0 : Int) ≤ k := by omega
      have i1 : (k : Int) < (vs.length : Int) := by omega
      have i2 : ((k : Int)).toNat = k := by omega
      have HPK := Lib.hid hpk
      have HFAM := Lib.hid hfam
      have HB := Lib.hid hb
      have HS := Lib.hid hs
      have HL := Lib.hid hL
      have HYK := Lib.hid hyk
      have HK := Lib.hid hk
      have hbsz : base ≤ wo.heap.size := Nat.le_trans hbs hb.size
      clear hpk hfam hb HI hv x0 hs hL hyk hk
      go_wp2_with (fail)
      refine (mark_any k 0 n1 _ (by omega) (by omega) (by omega)).mono ?_
      rintro e w2 ⟨v2, rfl, hr2, hb2⟩
      obtain ⟨A2, c2, rfl⟩ := Kd.R_slice hr2
      rw [marks_length] at hr2 ⊢
      have HR2 := Lib.hid hr2
      have HPK2 := Lib.hid (HPK.out.below hb2)
      have HB2 := Lib.hid (Ints.bel_trans HB.out hbsz hb2)
      have hsz2 : wo.heap.size ≤ w2.heap.size := hb2.size
      clear hr2 hb2 d0 d2 x1
      go_wp2_with (fail)
      go_loopg [4] n1 (fun j i wx => ∃ q : Nat, q + j = n1 ∧ i = .int .i64 q ∧ Hid ((∃ yss, PK wx b base bb (.slice (some ad) vs.length c1) U X Y vs yss ∧ PutFam xss yss k ∧ yss.getD k [] = marks k 0 q ++ (xss.getD k []).drop q) ∧ KI.R 3 wx wo.heap.size (fun _ => True) (.slice A2 n1 c2) (marks k 0 n1) ∧ Below base w wx))
      case atStart => exact ⟨0, by omega, rfl, ⟨yss, HPK2.out, HFAM.out, by rw [HYK.out]; rfl⟩, HR2.out, HB2.out⟩
      case round =>
        obtain ⟨q, hq, rfl, HJ⟩ := hrel
        obtain ⟨⟨zss, hpk, hfam, hzk⟩, hm, hb⟩ := HJ.out
        by_cases hqt : q < n1
        · have hkz : k < zss.length := by rw [hfam.1]; exact hkx
          have hv := hpk.fv k hkz
          have hzl : (zss.getD k []).length = n1 := by
            rw [hzk, List.length_append, marks_length, List.length_drop, HL.out]
            omega
          obtain ⟨g, cg, hs2, hg1, hg2, cells, hg3⟩ := R_block hv (by omega)
          rw [hzl] at hs2
          have hs3 := HS.out
          rw [hs2] at hs3
          injection hs3 with t1 t2
          injection t2 with t2 t3
          subst t1 t3
          obtain ⟨ad2, hA2, y0⟩ := ints_at (by have := (Kd.R_reads' hm).2.2; rw [marks_length] at this; exact this) q hqt
          subst hA2
          obtain ⟨ad3, hA3, x0⟩ := vals_at (Kd.R_reads' hpk.rv).2.2 k hlt
          injection hA3 with hA3
          subst hA3
          rw [hs2] at x0
          have x1 : wr.cell? (ad.add k) = some (.slice (some ⟨g, 0, none⟩) n1 cg) := x0
          rw [marks_getD k 0 n1 q hqt, Nat.zero_add] at y0
          obtain ⟨d0, _, d2, _⟩ := ten_cells hpk.blk
          have hgr : wo.heap.size ≤ g → False := by
            intro hge
            have h1 := HPK.out.fv k hky
            rw [hs2] at h1
            have := Kd.R_lt h1 g (by simp [slv, Value.ownBlock])
            omega
          have hv2 := hv
          rw [hs2] at hv2
          have hv3 : KI.R 3 wr base (fun _ => True) (.slice (some ⟨g, 0, none⟩) n1 cg) (zss.getD k []) := hv2
          rw [← hzl] at hv3
          obtain ⟨p0, p1⟩ := Kd.R_cell (enc := Value.int .i64) (h1 := fun _ => rfl) (0 : Int) hv3 (q : Int) (by omega) (by rw [hzl]; omega)
          have j0 : (0 : Int) ≤ q := by omega
          have j1 : (q : Int) < (n1 : Int) := by omega
          have j2 : ((q : Int)).toNat = q := by omega
          rw [j2] at p0 p1
          obtain ⟨old, p2⟩ : ∃ old, wr.cell? ⟨g, q, none⟩ = some old := ⟨_, p0⟩
          have hpk2 := pk_put hpk hkz hs2 q (mkAt k q)
          have hset : (zss.getD k []).set q (mkAt k q) = marks k 0 (q + 1) ++ (xss.getD k []).drop (q + 1) := by rw [hzk]; exact set_marks k q _ (by rw [HL.out]; exact hqt)
          rw [hset] at hpk2
          have HPK3 := Lib.hid hpk2
          have HFAM3 := Lib.hid (show PutFam xss (zss.set k (marks k 0 (q + 1) ++ (xss.getD k []).drop (q + 1))) k from ⟨by rw [List.length_set]; exact hfam.1, fun i hi hi2 => by rw [getD_set_ne _ _ _ _ _ (by omega)]; exact hfam.2.1 i hi hi2, fun i hi => by rw [getD_set_ne _ _ _ _ _ (by omega)]; exact hfam.2.2 i hi⟩)
          have HZ3 := Lib.hid (getD_set_same zss k (marks k 0 (q + 1) ++ (xss.getD k []).drop (q + 1)) [] hkz)
          have HM3 := Lib.hid (show KI.R 3 (wr.setCell ⟨g, q, none⟩ (.int .i64 (mkAt k q))) wo.heap.size (fun _ => True) (.slice (some ad2) n1 c2) (marks k 0 n1) from R_own_move hm (fun t ht => Below.heap_setCell _ _ _ _ (fun e => hgr (by have := Kd.R_base hm t ht; have e2 : t = g := e; omega))))
          have HB3 := Lib.hid (hb.setCell (p := ⟨g, q, none⟩) hg1 (.int .i64 (mkAt k q)))
          obtain ⟨M, hM⟩ : ∃ M, mkAt k q = M := ⟨_, rfl⟩
          rw [hM] at y0 HPK3 HM3 HB3
          have HQ := Lib.hid hq
          have q0 : (wr.setCell ⟨g, q, none⟩ (.int .i64 M)).drew.cell? ⟨b, 0, none⟩ = some (.slice (some ad) vs.length c1) := (ten_cells HPK3.out.blk).1
          have q1 : (wr.setCell ⟨g, q, none⟩ (.int .i64 M)).drew.cell? (ad.add k) = some (.slice (some ⟨g, 0, none⟩) n1 cg) := by
            obtain ⟨ad9, hA9, z0'⟩ := vals_at (Kd.R_reads' HPK3.out.rv).2.2 k hlt
            injection hA9 with hA9
            rw [hA9, hs2] at *
            exact z0'
          have q2 : (wr.setCell ⟨g, q, none⟩ (.int .i64 M)).drew.cell? (ad2.add q) = some (.int .i64 M) := by
            obtain ⟨ad9, hA9, z0'⟩ := ints_at (by have := (Kd.R_reads' HM3.out).2.2; rw [marks_length] at this; exact this) q hqt
            injection hA9 with hA9
            rw [marks_getD k 0 n1 q hqt, Nat.zero_add, hM, ← hA9] at z0'
            exact z0'
          clear hpk hfam hzk hm hb HJ hv hzl hg3 hv2 hv3 p0 hpk2 hset hM hs2 hgr x0 hq
          go_wp2_with (fail)
          go_region_held3 (fun w' => w'.cell? ⟨b, 0, none⟩ = some (.slice (some ad) vs.length c1) ∧ w'.cell? (ad.add k) = some (.slice (some ⟨g, 0, none⟩) n1 cg) ∧ w'.cell? (ad2.add q) = some (.int .i64 M)) (first | exact ⟨q0, q1, q2⟩ | go_keep) (fail)
          all_goals
            go_wp2_with (fail)
            go_roundg (n1 - (q + 1))
            case measure => have := HQ.out; omega
            case rel => exact ⟨q + 1, by have := HQ.out; omega, by go_num, ⟨_, HPK3.out.below (below_drew (Below.refl _ _)), HFAM3.out, HZ3.out⟩, Kd.R_drew HM3.out, below_drew HB3.out⟩
        · obtain rfl : q = n1 := by omega
          have hdn : (xss.getD k []).drop q = [] := List.drop_eq_nil_of_le (by rw [HL.out]; exact Nat.le_refl _)
          rw [hdn, List.append_nil] at hzk
          have HFAM3 := Lib.hid (show PutFam xss zss (k + 1) from ⟨hfam.1, fun i hi hi2 => by
            by_cases hik : i = k
            · rw [hik, hzk, HL.out]
            · exact hfam.2.1 i (by omega) hi2, fun i hi => hfam.2.2 i (by omega)⟩)
          have HPK3 := Lib.hid hpk
          have HB3 := Lib.hid hb
          have HZ := Lib.hid (hfam.2.2 (k + 1) (by omega))
          clear hpk hfam hzk hm hb HJ hdn
          go_wp2_with (fail)
          go_roundg (vs.length - (k + 1))
          case measure => have := HK.out; omega
          case rel => exact ⟨k + 1, by have := HK.out; omega, by go_num, ⟨zss, HPK3.out, HFAM3.out, HZ.out⟩, HB3.out⟩
    · obtain rfl : k = vs.length := by omega
      have HPK := Lib.hid hpk
      have HFAM := Lib.hid hfam
      have HB := Lib.hid hb
      clear hpk hfam hb HI hyk
      go_wp2_with (fail)
      go_end0
      exact ⟨⟨yss, HPK.out, by have := HFAM.out; rw [HLV.out] at this; exact this⟩, rfl, HB.out⟩
end Go.Proofs.Ytfiflloieojgbaa.Book

namespace Go.Proofs.Ytfiflloieojgbaa.Book
set_option linter.unusedVariables false
set_option linter.unusedSimpArgs false
open Go.RowKit Go.Proofs.YtfiflloieojgbaaW.PrintWords Go.Proofs.YtfiflloieojgbaaW.PrintMore Go.Proofs.Ytfiflloieojgbaa.L Go.Proofs.Ytfiflloieojgbaa.Ints

/-- Where place i has come to: the lists ahead of it are grown, the later ones are as they were. -/
structure GK (w : World) (b base bb : Nat) (V U X Y : Value) (vs gs : List Sl) (ns : Nat → Nat) (n i : Nat) : Prop where
  blk : w.heap[b]? = some (.cells (bcells V U X Y) 42 (0, 0))
  rv : KV.R 27 w bb (fun _ => True) V vs
  lv : vs.length = n
  lg : gs.length = i
  /-- the lists that are not grown yet -/
  rest : ∀ j, i ≤ j → j < n → KI.R 3 w base (fun _ => True) (slv (vs.getD j z0)) (marks j 0 (ns j))
  /-- those that are: the elder one still reads, and so does what was grown -/
  olds : ∀ j, j < i → RC w (fun k => base ≤ k ∧ ∀ m, i ≤ m → m < n → some k ≠ (slv (vs.getD m z0)).ownBlock) (vs.getD j z0) (marks j 0 (ns j))
  news : ∀ j, j < i → RC w (fun k => base ≤ k ∧ ∀ m, i ≤ m → m < n → some k ≠ (slv (vs.getD m z0)).ownBlock) (gs.getD j z0) (marks j 0 (ns j + 72))
  ap : ∀ i j, i < j → j < n → (slv (vs.getD i z0)).ownBlock = none ∨ (slv (vs.getD i z0)).ownBlock ≠ (slv (vs.getD j z0)).ownBlock
/-- What an append to one list leaves of a reading of its first elements. -/
theorem RC.kept {w w1 : World} {ok : Nat → Prop} {s : Sl} {xs ys : List Int} {v : Value} (h : RC w ok s xs) (hg : w.grownBy w1 v.ownBlock)
    (hk : ∀ g, v.ownBlock = some g → ∃ cells : Array Value, w1.heap[g]? = some (.cells cells 3 (0, 0)) ∧ ∀ j, j < ys.length → cells[j]? = some (.int .i64 (ys.getD j 0)))
    (hp : xs.length ≤ ys.length ∧ ∀ j, j < xs.length → ys.getD j 0 = xs.getD j 0) : RC w1 ok s xs := by
  obtain ⟨h1, h2, h3⟩ := h
  refine ⟨h1, h2, fun hn => ?_⟩
  obtain ⟨g, e, ho, cells, hc, hx⟩ := h3 hn
  by_cases hv : v.ownBlock = some g
  · obtain ⟨cells1, hc1, hx1⟩ := hk g hv
    exact ⟨g, e, ho, cells1, hc1, fun j hj => by rw [← hp.2 j hj]; exact hx1 j (by omega)⟩
  · exact ⟨g, e, ho, cells, (hg.block g (blk_lt hc) (Ne.symm hv)).trans hc, hx⟩
theorem marks_prefix (i n q : Nat) : (marks i 0 n).length ≤ (marks i 0 (n + q)).length ∧ ∀ j, j < (marks i 0 n).length → (marks i 0 (n + q)).getD j 0 = (marks i 0 n).getD j 0 := by
  rw [marks_length, marks_length]
  exact ⟨by omega, fun j hj => by rw [marks_getD _ _ _ _ (by omega), marks_getD _ _ _ _ hj]⟩
theorem gk_step {wo w3 : World} {b base bb : Nat} {V U X Y : Value} {vs gs : List Sl} {ns : Nat → Nat} {n i : Nat} {L : Sl} (h : GK wo b base bb V U X Y vs gs ns n i) (hi : i < n)
    (hc : ∀ k, k < wo.heap.size → some k ≠ (slv (vs.getD i z0)).ownBlock → w3.heap[k]? = wo.heap[k]?) (hL : KI.R 3 w3 base (fun _ => True) (slv L) (marks i 0 (ns i + 72)))
    (hat : (slv L).ownBlock = (slv (vs.getD i z0)).ownBlock ∨ ∃ k, (slv L).ownBlock = some k ∧ wo.heap.size ≤ k) (hv : RC w3 (fun k => base ≤ k ∧ some k = (slv (vs.getD i z0)).ownBlock) (vs.getD i z0) (marks i 0 (ns i))) :
    GK w3 b base bb V U X Y vs (gs ++ [L]) ns n (i + 1) := by
  have hri := h.rest i (Nat.le_refl _) hi
  have apart : ∀ m, i + 1 ≤ m → m < n → ∀ k, some k = (slv (vs.getD i z0)).ownBlock → some k ≠ (slv (vs.getD m z0)).ownBlock := by
    intro m hm hmn k hk e
    rcases h.ap i m (by omega) hmn with h1 | h1
    · rw [h1] at hk; cases hk
    · exact h1 (by rw [← hk, e])
  have ty : ∀ k t cells, wo.heap[k]? = some (.cells cells t (0, 0)) → t ≠ 3 → some k ≠ (slv (vs.getD i z0)).ownBlock := by
    intro k t cells hk ht e
    exact Kd.R_ne hri hk (Ne.symm ht) e
  have old : ∀ {ok : Nat → Prop} {s : Sl} {xs : List Int}, RC wo (fun k => base ≤ k ∧ ∀ m, i ≤ m → m < n → some k ≠ (slv (vs.getD m z0)).ownBlock) s xs → RC w3 (fun k => base ≤ k ∧ ∀ m, i + 1 ≤ m → m < n → some k ≠ (slv (vs.getD m z0)).ownBlock) s xs := fun hr =>
    (hr.move (fun k hk hlt => hc k hlt (hk.2 i (Nat.le_refl _) hi))).mono (fun k _ hk => ⟨hk.1, fun m hm hmn => hk.2 m (by omega) hmn⟩)
  refine ⟨(hc b (blk_lt h.blk) (ty b _ _ h.blk (by decide))).trans h.blk, R_own_move h.rv (fun k hk => hc k (Kd.R_lt h.rv k hk) ?_), h.lv, by rw [List.length_append, h.lg]; rfl, fun j hj hjn => R_own_move (h.rest j (by omega) hjn) (fun k hk => hc k (Kd.R_lt (h.rest j (by omega) hjn) k hk) (fun e => ?_)), fun j hj => ?_, fun j hj => ?_, h.ap⟩
  · obtain ⟨cells, hcc⟩ := Kd.R_typed h.rv k hk
    exact ty k _ cells hcc (by decide)
  · exact apart j (by omega) hjn k e hk.symm
  · by_cases hji : j < i
    · exact old (ok := fun _ => True) (h.olds j hji)
    · obtain rfl : j = i := by omega
      exact hv.mono (fun k _ hk => ⟨hk.1, fun m hm hmn => apart m hm hmn k hk.2⟩)
  · rw [getD_snoc _ _ _ _ (by rw [h.lg]; omega), h.lg]
    by_cases hji : j < i
    · rw [if_pos hji]
      exact old (ok := fun _ => True) (h.news j hji)
    · obtain rfl : j = i := by omega
      rw [if_neg hji]
      refine (RC.of_R hL).mono (fun k _ hk => ⟨hk.2.1, fun m hm hmn e => ?_⟩)
      rcases hat with h1 | ⟨k1, h1, h2⟩
      · exact apart m hm hmn k (by rw [← h1]; exact hk.2.2) e
      · have h3 := Kd.R_lt (h.rest m (by omega) hmn) k e.symm
        have h4 : k = k1 := by
          have := hk.2.2
          rw [h1] at this
          injection this
        omega
theorem gk_out {w w1 : World} {b base bb : Nat} {V U X Y : Value} {vs gs : List Sl} {ns : Nat → Nat} {n i : Nat} {row : Option Nat} (h : GK w b base bb V U X Y vs gs ns n i) (hg : w.grownBy w1 row)
    (hrow : ∀ k, row = some k → (∃ cells, w.heap[k]? = some (.cells cells 27 (0, 0))) ∧ some k ≠ V.ownBlock) : GK w1 b base bb V U X Y vs gs ns n i := by
  have ty : ∀ k t cells, w.heap[k]? = some (.cells cells t (0, 0)) → t ≠ 27 → some k ≠ row := by
    intro k t cells hk ht e
    obtain ⟨⟨cells2, h2⟩, _⟩ := hrow k e.symm
    rw [hk] at h2
    injection h2 with h2
    injection h2 with _ h2
    exact ht h2
  have rc : ∀ {ok : Nat → Prop} {s : Sl} {xs : List Int}, RC w ok s xs → RC w1 ok s xs := by
    intro ok s xs hr
    obtain ⟨h1, h2, h3⟩ := hr
    refine ⟨h1, h2, fun hn => ?_⟩
    obtain ⟨g, e, ho, cells, hc, hx⟩ := h3 hn
    exact ⟨g, e, ho, cells, (hg.block g (blk_lt hc) (ty g _ _ hc (by decide))).trans hc, hx⟩
  refine ⟨(hg.block b (blk_lt h.blk) (ty b _ _ h.blk (by decide))).trans h.blk, R_own_move h.rv (fun k hk => hg.block k (Kd.R_lt h.rv k hk) (fun e => (hrow k e.symm).2 hk.symm)), h.lv, h.lg, fun j hj hjn => R_own_move (h.rest j hj hjn) (fun k hk => ?_), fun j hj => rc (h.olds j hj), fun j hj => rc (h.news j hj), h.ap⟩
  obtain ⟨cells, hcc⟩ := Kd.R_typed (h.rest j hj hjn) k hk
  exact hg.block k (blk_lt hcc) (ty k _ _ hcc (by decide))
theorem gk_below {w w1 : World} {b base bb : Nat} {V U X Y : Value} {vs gs : List Sl} {ns : Nat → Nat} {n i : Nat} (h : GK w b base bb V U X Y vs gs ns n i) (hb : Below w.heap.size w w1) : GK w1 b base bb V U X Y vs gs ns n i :=
  gk_out h (row := none) ⟨hb.os, hb.tape, hb.output, hb.size, fun k hk _ => hb.block k hk⟩ (fun k hk => by cases hk)
/-- A list in growth. -/
structure LK (wo wr : World) (base : Nat) (s : Sl) (i n q : Nat) (L : Value) : Prop where
  hc : ∀ k, k < wo.heap.size → some k ≠ (slv s).ownBlock → wr.heap[k]? = wo.heap[k]?
  hL : KI.R 3 wr base (fun _ => True) L (marks i 0 (n + q))
  hat : L.ownBlock = (slv s).ownBlock ∨ ∃ k, L.ownBlock = some k ∧ wo.heap.size ≤ k
  hv : RC wr (fun k => base ≤ k ∧ some k = (slv s).ownBlock) s (marks i 0 n)
  sz : wo.heap.size ≤ wr.heap.size
theorem lk_below {wo wr w1 : World} {base : Nat} {s : Sl} {i n q : Nat} {L : Value} (h : LK wo wr base s i n q L) (hb : Below wr.heap.size wr w1) : LK wo w1 base s i n q L :=
  ⟨fun k hk hne => (hb.block k (Nat.lt_of_lt_of_le hk h.sz)).trans (h.hc k hk hne), Kd.R_below h.hL hb, h.hat, h.hv.move (fun k _ hk => hb.block k hk), Nat.le_trans h.sz hb.size⟩
theorem lk_more {wo w2 w3 : World} {base : Nat} {s : Sl} {i n q m : Nat} {L L1 : Value} (h : LK wo w2 base s i n q L) (hr : KI.R 3 w3 base (fun _ => True) L1 (marks i 0 (n + q) ++ marks i (n + q) m)) (hg : w2.grownBy w3 L.ownBlock)
    (hat : L1.ownBlock = L.ownBlock ∨ L1.ownBlock = some w2.heap.size)
    (hk : ∀ g, L.ownBlock = some g → ∃ cells : Array Value, w3.heap[g]? = some (.cells cells 3 (0, 0)) ∧ ∀ j, j < (marks i 0 (n + q)).length → cells[j]? = some (.int .i64 ((marks i 0 (n + q)).getD j 0))) : LK wo w3 base s i n (q + m) L1 := by
  refine ⟨fun k hk hne => (hg.block k (Nat.lt_of_lt_of_le hk h.sz) (fun e => ?_)).trans (h.hc k hk hne), ?_, ?_, h.hv.kept hg hk (marks_prefix i n q), Nat.le_trans h.sz hg.size⟩
  · rcases h.hat with h1 | ⟨k1, h1, h2⟩
    · exact hne (by rw [e, h1])
    · rw [h1] at e
      injection e with e
      omega
  · rw [← Nat.add_assoc, marks_append, Nat.zero_add]
    exact hr
  · rcases hat with h1 | h1
    · rw [h1]; exact h.hat
    · exact .inr ⟨_, h1, h.sz⟩
set_option maxRecDepth 100000 in
set_option maxHeartbeats 4000000 in
theorem grow_any (b base bb : Nat) (V U X Y : Value) (vs : List Sl) (ns : Nat → Nat) (n : Nat) (w : World) (h : GK w b base bb V U X Y vs [] ns n 0) (hl : n ≤ 200) (hn : ∀ i, i < n → ns i ≤ 10000) (hbs : base ≤ w.heap.size) :
    Calls Try.prog 50 #[.pointer (some ⟨b, 0, none⟩)] w fun e w' => (∃ gv gs, e = .returned gv ∧ KV.R 27 w' w.heap.size (fun _ => True) gv gs ∧ GK w' b base bb V U X Y vs gs ns n n) ∧ Below base w w' := by
  obtain ⟨V1, c1, rfl⟩ := Kd.R_slice h.rv
  have HLV := Lib.hid h.lv
  have hlv : vs.length ≤ 200 := by rw [HLV.out]; exact hl
  have HVB := Lib.hid (Kd.R_lt h.rv)
  have HG0 := Lib.hid h
  have HN := Lib.hid hn
  clear h hn
  go_enter Try.func50, Try.ntmps50
  go_wp2_with (fail)
  go_loopg [3, 4] vs.length (fun j out i wr => ∃ k : Nat, k + j = vs.length ∧ i = .int .i64 k ∧ Hid ((∃ gs, KV.R 27 wr w.heap.size (fun _ => True) out gs ∧ GK wr b base bb (.slice V1 vs.length c1) U X Y vs gs ns n k) ∧ Below base w wr))
  case atStart => exact ⟨0, by omega, rfl, ⟨[], Kd.R_nil _ _ _ _ _, HG0.out⟩, Below.refl _ _⟩
  case round =>
    obtain ⟨wo, rfl⟩ : ∃ wo : World, wo = wr := ⟨_, rfl⟩
    obtain ⟨k, hk, rfl, HI⟩ := hrel
    obtain ⟨⟨gs, hout, hgk⟩, hb⟩ := HI.out
    obtain ⟨d0, _, d2, _⟩ := ten_cells hgk.blk
    obtain ⟨A3, c3, rfl⟩ := Kd.R_slice hout
    by_cases hlt : k < vs.length
    · obtain ⟨ad, rfl, x0⟩ := vals_at (Kd.R_reads' hgk.rv).2.2 k hlt
      have hkn : k < n := by rw [← HLV.out]; exact hlt
      have hv := hgk.rest k (Nat.le_refl _) hkn
      obtain ⟨m, hm⟩ : ∃ m, ns k = m := ⟨_, rfl⟩
      have hm2 : m ≤ 10000 := by rw [← hm]; exact HN.out k hkn
      rw [hm] at hv
      obtain ⟨⟨a1, n1, e1⟩, hs⟩ : ∃ s, vs.getD k z0 = s := ⟨_, rfl⟩
      rw [hs] at x0 hv
      have hn1 : n1 = m := by have := (fam_C hv).1; rw [marks_length] at this; exact this
      subst hn1
      have x1 : wo.cell? (ad.add k) = some (.slice a1 n1 e1) := x0
      have i0 : (0 : Int) ≤ k := by omega
      have i1 : (k : Int) < (vs.length : Int) := by omega
      have i2 : ((k : Int)).toNat = k := by omega
      have HLK := Lib.hid (show LK wo wo base (a1, n1, e1) k n1 0 (.slice a1 n1 e1) from ⟨fun _ _ _ => rfl, hv, .inl rfl, (RC.of_R hv).mono (fun t _ ht => ht.2), Nat.le_refl _⟩)
      have HGK := Lib.hid hgk
      have HOUT := Lib.hid hout
      have HB := Lib.hid hb
      have HS := Lib.hid hs
      have HM := Lib.hid hm
      have HK := Lib.hid hk
      have hbsz : base ≤ wo.heap.size := Nat.le_trans hbs hb.size
      have hgl : gs.length ≤ 200 := by rw [hgk.lg]; omega
      clear hgk hout hb HI hv x0 hs hm hk
      go_wp2_with (fail)
      go_loopg [5, 6] 12 (fun j l i wr => ∃ q : Nat, q + j = 12 ∧ i = .int .i64 q ∧ Hid (LK wo wr base (a1, n1, e1) k n1 q l ∧ Below base w wr))
      case atStart => exact ⟨0, by omega, rfl, HLK.out, HB.out⟩
      case round =>
        obtain ⟨q, hq, rfl, HJ⟩ := hrel
        obtain ⟨hlk, hb⟩ := HJ.out
        have hL := hlk.hL
        obtain ⟨A5, c5, rfl⟩ := Kd.R_slice hL
        rw [marks_length] at hlk hL ⊢
        have HLK2 := Lib.hid hlk
        have HB2 := Lib.hid hb
        have hbs2 : base ≤ wr.heap.size := Nat.le_trans hbs hb.size
        have HQ := Lib.hid hq
        clear hlk hb HJ hL hq
        by_cases hqt : q < 12
        · have hqi : (q : Int) < 12 := by omega
          go_wp2_with (fail)
          refine (mark_any k (n1 + q) 1 _ (by omega) (by omega) (by omega)).mono ?_
          rintro e w2 ⟨v2, rfl, hr2, hb2⟩
          obtain ⟨A2, c2, rfl⟩ := Kd.R_slice hr2
          rw [marks_length] at hr2 ⊢
          have HC2 := Lib.hid (show KI.C w2 A2 1 (marks k (n1 + q) 1) by have := (Kd.R_reads' hr2).2.2; rw [marks_length] at this; exact this)
          have HLK3 := Lib.hid (lk_below HLK2.out hb2)
          have HB3 := Lib.hid (Ints.bel_trans HB2.out hbs2 hb2)
          have hbs3 : base ≤ w2.heap.size := Nat.le_trans hbs2 hb2.size
          clear hr2 hb2
          go_wp2_with (((with_reducible refine gate_builtin (b := .append) (xs := #[.tmp 27, .tmp 31]) rfl ?_); at_builtin; apply stopper))
          unfold Stopper
          refine append_keep (w0 := w) base rfl (.tmp 27) (.tmp 31) 27 3 (.int .i64 0) rfl Try.underlying27 infoInt rfl (.slice A5 (n1 + q) c5) (marks k 0 (n1 + q)) (marks k (n1 + q) 1) A2 1 c2 (fun _ => True) rfl rfl (by decide) (fun _ _ => trivial) HLK3.out.hL HC2.out HB3.out hbs3 (by rw [marks_length]; omega) ?_
          intro v3 w3 ho3 hb3 hg3 hat3 hk3
          have HLK4 := Lib.hid (lk_more HLK3.out ho3 hg3 hat3 hk3)
          have HB4 := Lib.hid hb3
          clear ho3 hb3 hg3 hat3 hk3
          go_wp2
          go_roundg (12 - (q + 1))
          case measure => have := HQ.out; omega
          case rel => exact ⟨q + 1, by have := HQ.out; omega, by go_num, HLK4.out, HB4.out⟩
        · obtain rfl : q = 12 := by have := HQ.out; omega
          go_wp2_with (fail)
          refine (mark_any k (n1 + 12) 60 _ (by omega) (by omega) (by omega)).mono ?_
          rintro e w2 ⟨v2, rfl, hr2, hb2⟩
          obtain ⟨A2, c2, rfl⟩ := Kd.R_slice hr2
          rw [marks_length] at hr2 ⊢
          have HC2 := Lib.hid (show KI.C w2 A2 60 (marks k (n1 + 12) 60) by have := (Kd.R_reads' hr2).2.2; rw [marks_length] at this; exact this)
          have HLK3 := Lib.hid (lk_below HLK2.out hb2)
          have HB3 := Lib.hid (Ints.bel_trans HB2.out hbs2 hb2)
          have hbs3 : base ≤ w2.heap.size := Nat.le_trans hbs2 hb2.size
          clear hr2 hb2
          go_wp2_with (((with_reducible refine gate_builtin (b := .append) (xs := #[.tmp 34, .tmp 38]) rfl ?_); at_builtin; apply stopper))
          unfold Stopper
          refine append_keep (w0 := w) base rfl (.tmp 34) (.tmp 38) 27 3 (.int .i64 0) rfl Try.underlying27 infoInt rfl (.slice A5 (n1 + 12) c5) (marks k 0 (n1 + 12)) (marks k (n1 + 12) 60) A2 60 c2 (fun _ => True) rfl rfl (by decide) (fun _ _ => trivial) HLK3.out.hL HC2.out HB3.out hbs3 (by rw [marks_length]; omega) ?_
          intro v3 w3 ho3 hb3 hg3 hat3 hk3
          obtain ⟨A6, c6, rfl⟩ := Kd.R_slice ho3
          have hlk4 := lk_more HLK3.out ho3 hg3 hat3 hk3
          rw [List.length_append, marks_length, marks_length] at hlk4 ⊢
          have hgk4 := gk_step (L := (A6, n1 + 12 + 60, c6)) HGK.out hkn (by rw [HS.out]; exact hlk4.hc) (by rw [HM.out]; exact hlk4.hL) (by rw [HS.out]; exact hlk4.hat) (by rw [HS.out, HM.out]; exact hlk4.hv)
          have hout4 : KV.R 27 w3 w.heap.size (fun _ => True) (.slice A3 gs.length c3) gs := R_own_move HOUT.out (fun t ht => hlk4.hc t (Kd.R_lt HOUT.out t ht) (fun e => by
            obtain ⟨cells, hcc⟩ := Kd.R_typed HOUT.out t ht
            have hr := HGK.out.rest k (Nat.le_refl _) hkn
            rw [HS.out] at hr
            exact Kd.R_ne hr hcc (by decide) e))
          have HOUT4 := Lib.hid hout4
          have HGK4 := Lib.hid hgk4
          have HB4 := Lib.hid hb3
          clear ho3 hb3 hg3 hat3 hk3 hlk4 hgk4 hout4
          go_wp2_with (((with_reducible refine gate_builtin (b := .append) (xs := #[.tmp 33, .tmp 40]) rfl ?_); at_builtin; apply stopper))
          unfold Stopper
          refine Kd.R_append KV (w0 := w3) w.heap.size rfl (.tmp 33) (.tmp 40) 36 27 (.slice none 0 0) 24 rfl Try.underlying36 infoRow rfl (by decide) (by omega) (.slice A3 gs.length c3) gs (A6, n1 + 12 + 60, c6) [.slice A6 (n1 + 12 + 60) c6] (fun _ => True) (fun _ => False) rfl rfl rfl (fun _ hk => hk.elim) (fun _ _ => trivial) HOUT4.out (Below.refl _ _) HB4.out.size (by omega) ?_
          intro v5 w5 ho5 hb5 hg5 hat5
          have HGK5 := Lib.hid (gk_out HGK4.out hg5 (fun t ht => ⟨Kd.R_typed HOUT4.out t ht, fun e => by
            have h1 := Kd.R_base HOUT4.out t ht
            have h2 := HVB.out t e.symm
            omega⟩))
          have HOUT5 := Lib.hid ho5
          have HB5 := Lib.hid (show Below base w w5 from HB4.out.grown hg5 (Nat.le_trans hbs HB4.out.size) (fun t ht => by
            have := Kd.R_base HOUT4.out t ht
            omega))
          clear ho5 hb5 hg5 hat5
          go_wp2
          go_roundg (vs.length - (k + 1))
          case measure => have := HK.out; omega
          case rel => exact ⟨k + 1, by have := HK.out; omega, by go_num, ⟨_, HOUT5.out, HGK5.out⟩, HB5.out⟩
    · obtain rfl : k = vs.length := by omega
      have HGK := Lib.hid (show GK wo b base bb (.slice V1 vs.length c1) U X Y vs gs ns n n by have := hgk; rw [HLV.out] at this; rw [HLV.out]; exact this)
      have HOUT := Lib.hid hout
      have HB := Lib.hid hb
      clear hgk hout hb HI
      go_wp2_with (fail)
      go_ret
      exact ⟨⟨_, gs, rfl, HOUT.out, HGK.out⟩, HB.out⟩
end Go.Proofs.Ytfiflloieojgbaa.Book

