/- The statements' book of lists: its words; an append behind which the elder slice still reads as it did; marks. -/
import Derived.Test.YtnjenkjoeilhhaaLent
import Derived.Laws.AppendOwn
import Derived.Maps.AppendAt
import Derived.Laws.Append
namespace Go.Proofs.Ytnjenkjoeilhhaa.Book
set_option linter.unusedVariables false
set_option linter.unusedSimpArgs false
open Go.RowKit Go.Proofs.YtnjenkjoeilhhaaW.PrintWords Go.Proofs.YtnjenkjoeilhhaaW.PrintMore Go.Proofs.Ytnjenkjoeilhhaa.L Go.Proofs.Ytnjenkjoeilhhaa.Ints

/-! ### slices as elements -/
abbrev Sl := Option Addr × Nat × Nat
def slv (s : Sl) : Value := .slice s.1 s.2.1 s.2.2
def z0 : Sl := (none, 0, 0)
abbrev KV : Kd Sl := Kd.scalar slv (fun _ => rfl)
theorem infoRow : (Try.prog.info? 27).map (fun i => (i.zero, i.size, i.bytes)) = some (some (.slice none 0 0), 1, 24) := by kernel_rfl
theorem vals_at {w : World} {A : Option Addr} {n : Nat} {xs : List Sl} (h : KV.C w A n xs) (i : Nat) (hi : i < n) :
    ∃ ad, A = some ad ∧ w.cell? (ad.add i) = some (slv (xs.getD i z0)) := by
  obtain ⟨ad, e, hc⟩ := (Kd.reads_of_C (d := z0) h).2.2 (by omega)
  exact ⟨ad, e, hc i hi⟩
/-- What reads out of a block of its own. -/
def RC (w : World) (ok : Nat → Prop) (s : Sl) (xs : List Int) : Prop :=
  s.2.1 = xs.length ∧ xs.length ≤ 9223372036854775807 ∧ (0 < xs.length → ∃ g, s.1 = some ⟨g, 0, none⟩ ∧ ok g ∧ ∃ cells, w.heap[g]? = some (.cells cells 3 (0, 0)) ∧ ∀ j, j < xs.length → cells[j]? = some (.int .i64 (xs.getD j 0)))
theorem RC.C {w : World} {ok : Nat → Prop} {s : Sl} {xs : List Int} (h : RC w ok s xs) : KI.C w s.1 s.2.1 xs := by
  obtain ⟨h1, h2, h3⟩ := h
  refine Kd.C_of_reads (d := (0 : Int)) (h1 := fun _ => rfl) ⟨h1.symm, by omega, fun hn => ?_⟩
  obtain ⟨g, e, _, cells, hg, hc⟩ := h3 (by omega)
  refine ⟨_, e, fun j hj => ?_⟩
  rw [add_plain, cell_of_row w g j cells 3 (0, 0) hg]
  exact hc j (by omega)
theorem RC.mono {w : World} {ok ok' : Nat → Prop} {s : Sl} {xs : List Int} (h : RC w ok s xs) (hk : ∀ k, k < w.heap.size → ok k → ok' k) : RC w ok' s xs := by
  obtain ⟨h1, h2, h3⟩ := h
  refine ⟨h1, h2, fun hn => ?_⟩
  obtain ⟨g, e, ho, cells, hg, hc⟩ := h3 hn
  exact ⟨g, e, hk g (blk_lt hg) ho, cells, hg, hc⟩
theorem RC.move {w w1 : World} {ok : Nat → Prop} {s : Sl} {xs : List Int} (h : RC w ok s xs) (hm : ∀ k, ok k → k < w.heap.size → w1.heap[k]? = w.heap[k]?) : RC w1 ok s xs := by
  obtain ⟨h1, h2, h3⟩ := h
  refine ⟨h1, h2, fun hn => ?_⟩
  obtain ⟨g, e, ho, cells, hg, hc⟩ := h3 hn
  exact ⟨g, e, ho, cells, (hm g ho (blk_lt hg)).trans hg, hc⟩
theorem encs_at {α : Type} {enc : α → Value} (d : α) {xs : List α} {j : Nat} (h : j < xs.length) : (encs enc xs)[j]? = some (enc (xs.getD j d)) := encs_get xs j h
theorem RC.of_R {w : World} {base : Nat} {ok : Nat → Prop} {s : Sl} {xs : List Int} (h : KI.R 3 w base ok (slv s) xs) : RC w (fun k => ok k ∧ base ≤ k ∧ some k = (slv s).ownBlock) s xs := by
  have hmx := Kd.C_max (Kd.R_reads' (A := s.1) (n := s.2.1) (c := s.2.2) h).2.2
  have hlen := (Kd.R_reads' (A := s.1) (n := s.2.1) (c := s.2.2) h).1
  refine ⟨hlen, hmx, fun hn => ?_⟩
  have ho := Kd.own_of_R h
  have hok := h.1
  rcases ho.2 with ⟨h1, h2⟩ | ⟨g, cap, cur, h1, h2, h3, h4, h5, h6, h7⟩
  · exfalso
    have hz : s.2.1 = 0 := by unfold slv at h1; injection h1
    have hx : xs = [] := List.eq_nil_of_length_eq_zero (by omega)
    rw [hx] at hn
    exact Nat.lt_irrefl 0 hn
  · have hb : (slv s).ownBlock = some g := by rw [h1]; simp [Value.ownBlock]
    refine ⟨g, by injection h1, ⟨hok g hb, h2, hb.symm⟩, cur, h3, fun j hj => ?_⟩
    have h8 := encs_at (enc := Value.int .i64) 0 hj
    rw [← h7, List.getElem?_take] at h8
    split at h8
    · simpa using h8
    · cases h8
/-- A row of one's own looks at its own block alone. -/
theorem R_own_move {α : Type} {enc : α → Value} {h1 : ∀ x : α, (enc x).oneCell' = true} {e : Nat} {w w1 : World} {base : Nat} {ok : Nat → Prop} {v : Value} {xs : List α} (h : (Kd.scalar enc h1).R e w base ok v xs) (hm : ∀ k, v.ownBlock = some k → w1.heap[k]? = w.heap[k]?) : (Kd.scalar enc h1).R e w1 base ok v xs :=
  Kd.R_of_own (own_move (Kd.own_of_R h) hm) h.1
theorem R_reok {α : Type} {enc : α → Value} {h1 : ∀ x : α, (enc x).oneCell' = true} {e : Nat} {w : World} {base : Nat} {ok ok' : Nat → Prop} {v : Value} {xs : List α} (h : (Kd.scalar enc h1).R e w base ok v xs) (hm : ∀ k, v.ownBlock = some k → ok' k) : (Kd.scalar enc h1).R e w base ok' v xs :=
  Kd.R_of_own (Kd.own_of_R h) hm
theorem R_rebase {α : Type} {enc : α → Value} {h1 : ∀ x : α, (enc x).oneCell' = true} {e : Nat} {w : World} {base base' : Nat} {ok : Nat → Prop} {v : Value} {xs : List α} (h : (Kd.scalar enc h1).R e w base ok v xs) (hm : ∀ k, v.ownBlock = some k → base' ≤ k) : (Kd.scalar enc h1).R e w base' ok v xs := by
  have ho := Kd.own_of_R h
  refine Kd.R_of_own ⟨ho.1, ?_⟩ h.1
  rcases ho.2 with h2 | ⟨g, cap, cur, h1, h2, r⟩
  · exact .inl h2
  · exact .inr ⟨g, cap, cur, h1, hm g (by rw [h1]; simp [Value.ownBlock]), r⟩

/-! ### an append behind which the elder slice reads as it did -/
section
variable {P : Program} (w : World)
theorem run_append_keep (base : Nat) (t ty e : TypeId) (i : TypeInfo) (z : Value) (size bytes : Nat) (ht : P.underlying t = some (.slice e)) (hi : P.info? e = some i) (hz : i.zero = some z)
    (hsize : i.size = size) (hby : i.bytes = bytes) (hzs : z.cells.size = size) (hsz : 0 < size)
    (v : Value) (n : Nat) (xs : List Value) (hown : w.ownsRow base e size v n xs)
    (a : Addr) (m c : Nat) (news : List Value) (hl : news.length = m * size) (hnews : ∀ j u, news[j]? = some u → w.cell? (a.add j) = some u) (h1 : ∀ u ∈ news, u.oneCell' = true)
    (h63 : n + m ≤ maxLen) (hbytes : (n + m) * bytes ≤ 140737488355328) (hbase : base ≤ w.heap.size) :
    ∃ v' w', (Builtin.append_ #[t, t] ty #[v, .slice (some a) m c]).run P w = .ok v' w' ∧ w'.ownsRow base e size v' (n + m) (xs ++ news) ∧ w.grownBy w' v.ownBlock ∧
      (v'.ownBlock = v.ownBlock ∨ v'.ownBlock = some w.heap.size) ∧ (∀ g, v.ownBlock = some g → ∃ cells : Array Value, w'.heap[g]? = some (.cells cells e (0, 0)) ∧ ∀ (j : Nat) (u : Value), xs[j]? = some u → cells[j]? = some u) := by
  obtain ⟨v', w', hr, h2, h3, _, h5⟩ := run_append_own_at (P := P) w base t ty e i z size bytes ht hi hz hsize hby hzs hsz v n xs hown a m c news hl hnews h1 h63 hbytes hbase
  refine ⟨v', w', hr, h2, h3, h5, fun g hv => ?_⟩
  subst hsize
  subst hby
  rcases hown.2 with ⟨rfl, _⟩ | ⟨g', cap, cur, rfl, hbg, hg, hnc, hcm, hcs, htake⟩
  · simp [Value.ownBlock] at hv
  · have hgg : g' = g := by simpa [Value.ownBlock] using hv
    subst hgg
    have hold : ∀ j u, xs[j]? = some u → cur[j]? = some u ∧ j < n * i.size := by
      intro j u hj
      rw [← htake, List.getElem?_take] at hj
      split at hj
      · rename_i hlt
        exact ⟨by simpa using hj, hlt⟩
      · cases hj
    by_cases hroom : n + m ≤ cap
    · have hfit : n * i.size + news.length ≤ cur.size := by rw [hl, hcs, ← Nat.add_mul]; exact Nat.mul_le_mul_right _ hroom
      have hr2 := run_append_room (P := P) w t ty e i ht hi g' n cap cur hg a m c news hl hnews h1 hroom hfit
      rw [hr] at hr2
      injection hr2 with e1 e2
      rw [e2]
      refine ⟨_, setRow_heap w g' cur _ e _ hg, fun j u hj => ?_⟩
      obtain ⟨o1, o2⟩ := hold j u hj
      rw [List.getElem?_toArray, List.append_assoc, List.getElem?_append_left (by rw [List.length_take, Array.length_toList]; omega), List.getElem?_take, if_pos o2]
      simpa using o1
    · have holds : ∀ j u, xs[j]? = some u → w.cell? ((⟨g', 0, none⟩ : Addr).add j) = some u := hown.cells (g := g') rfl
      have hr2 := run_append_grow (P := P) w t ty e i z ht hi hz ⟨g', 0, none⟩ n cap xs hown.1 holds a m c news hl hnews (by omega) (by simp only [maxLen] at h63; omega) (growslice_fits (by omega) hbytes)
      rw [hr] at hr2
      injection hr2 with e1 e2
      rw [e2]
      refine ⟨cur, ?_, fun j u hj => (hold j u hj).1⟩
      exact (Below.heap_alloc w.drew _ g' (blk_lt hg)).trans hg
end
section
variable {P : Program} {ops : Array Oper} {rest : List Oper} {o : Oper} {a : Act} {Q : Exit → Act → World → Prop}
theorem append_keep {w0 W : World} (base : Nat) (hgd : o.guard = none) (s x : Operand) (t e : TypeId) (z : Value)
    (ho : o.op = .call { callee := .builtin .append, args := #[s, x], argTypes := #[t, t] })
    (ht : P.underlying t = some (.slice e)) (hinfo : (P.info? e).map (fun i => (i.zero, i.size, i.bytes)) = some (some z, 1, 8)) (hz : z.cells.size = 1)
    (v : Value) (xs ys : List Int) (A : Option Addr) (m c : Nat) (ok : Nat → Prop) (hs : a.eval s = v) (hx : a.eval x = .slice A m c) (hm0 : 0 < m) (hfresh : ∀ k, W.heap.size ≤ k → ok k)
    (HO : KI.R e W base ok v xs) (HR : KI.C W A m ys) (HB : Below base w0 W) (hbase : base ≤ W.heap.size) (hl : (xs.length + m) * 8 ≤ 140737488355328)
    (h : ∀ v1 w1, KI.R e w1 base ok v1 (xs ++ ys) → Below base w0 w1 → W.grownBy w1 v.ownBlock → (v1.ownBlock = v.ownBlock ∨ v1.ownBlock = some W.heap.size) →
      (∀ g, v.ownBlock = some g → ∃ cells : Array Value, w1.heap[g]? = some (.cells cells e (0, 0)) ∧ ∀ j, j < xs.length → cells[j]? = some (.int .i64 (xs.getD j 0))) → wpList P ops Q rest (a.put o.dst v1) w1) :
    wpList P ops Q (o :: rest) a W := by
  obtain ⟨i0, hi, hzz⟩ := Option.map_eq_some_iff.1 hinfo
  simp only [Prod.mk.injEq] at hzz
  obtain ⟨hz0, hz1, hz2⟩ := hzz
  have hrd := Kd.reads_of_C (d := (0 : Int)) HR
  obtain ⟨ad, rfl, hcell⟩ := hrd.2.2 hm0
  have hym : ys.length = m := hrd.1
  have hown := Kd.own_of_R HO
  obtain ⟨v1, w1, hr1, h2, h3, h4, h5⟩ := run_append_keep (P := P) W base t o.type e i0 z 1 8 ht hi hz0 hz1 hz2 hz (by decide) v xs.length (encs (Value.int .i64) xs) hown ad m c (encs (Value.int .i64) ys) (by rw [encs_length, hym, Nat.mul_one])
    (fun j u hj => by
      have hjl : j < ys.length := by
        have := (List.getElem?_eq_some_iff.1 hj).1
        rwa [encs_length] at this
      rw [encs_at 0 hjl] at hj
      injection hj with hj
      rw [← hj]
      exact hcell j (by omega))
    (fun u hu => by
      unfold encs at hu
      rw [List.mem_map] at hu
      obtain ⟨q, _, rfl⟩ := hu
      rfl)
    (by simp only [maxLen]; omega) hl hbase
  refine wpList_plain hgd fun K hK => ?_
  unfold Oper.wp execOp
  simp only [ho, resolve, invoke, builtin, Sem.run_bind, Sem.run_pure, Result.andThen_ok, List.map_toArray, List.map_cons, List.map_nil, hs, hx, hr1]
  refine hK _ _ (h v1 w1 (Kd.R_of_own (by rw [List.length_append, hym, encs_append]; exact h2) (fun k hk => ?_)) (HB.grown h3 hbase (own_base hown)) h3 h4 (fun g hg => ?_))
  · rcases h4 with e1 | e1
    · exact HO.1 k (by rw [← e1]; exact hk)
    · rw [e1] at hk
      injection hk with hk
      exact hfresh k (by omega)
  · obtain ⟨cells, hc1, hc2⟩ := h5 g hg
    exact ⟨cells, hc1, fun j hj => hc2 j _ (encs_at 0 hj)⟩
end

/-! ### marks -/
def mkAt (i k : Nat) : Int := -1000000 * (i : Int) - (k : Int) - 7
def marks (i f n : Nat) : List Int := (List.range n).map fun k => mkAt i (f + k)
theorem marks_length (i f n : Nat) : (marks i f n).length = n := by simp [marks]
theorem marks_getD (i f n k : Nat) (h : k < n) : (marks i f n).getD k 0 = mkAt i (f + k) := by
  unfold marks
  rw [List.getD_eq_getElem?_getD, List.getElem?_map, List.getElem?_range h]
  rfl
theorem marks_succ (i f n : Nat) : marks i f (n + 1) = marks i f n ++ [mkAt i (f + n)] := by
  unfold marks
  rw [List.range_succ, List.map_append]
  rfl
theorem marks_append (i f n : Nat) : ∀ m, marks i f (n + m) = marks i f n ++ marks i (f + n) m
  | 0 => by simp [marks]
  | m + 1 => by
    rw [marks_succ, ← List.append_assoc, ← marks_append i f n m, ← Nat.add_assoc, marks_succ, Nat.add_assoc]
theorem marks_zero (i f : Nat) : marks i f 0 = [] := rfl
theorem getD_append_left (a b : List Int) (j : Nat) (h : j < a.length) : (a ++ b).getD j 0 = a.getD j 0 := by
  rw [List.getD_eq_getElem?_getD, List.getD_eq_getElem?_getD, List.getElem?_append_left h]
set_option maxRecDepth 100000 in
set_option maxHeartbeats 1000000 in
theorem mark_any (i f n : Nat) (w : World) (hi : i ≤ 250) (hf : f ≤ 100000) (hn : n ≤ 100000) :
    Calls Try.prog 62 #[.int .i64 i, .int .i64 f, .int .i64 n] w fun e w' => ∃ v, e = .returned v ∧ KI.R 3 w' w.heap.size (fun _ => True) v (marks i f n) ∧ Below w.heap.size w w' := by
  go_enter Try.func62, Try.ntmps62
  go_wp2_with (fail)
  go_loopg [7, 8] n (fun j v k wr => ∃ q : Nat, q + j = n ∧ k = .int .i64 ((f : Int) + (q : Int)) ∧ Hid (KI.R 3 wr w.heap.size (fun _ => True) v (marks i f q) ∧ Below w.heap.size w wr))
  case atStart => exact ⟨0, by omega, by go_num, Kd.R_nil _ _ _ _ _, Below.refl _ _⟩
  case round =>
    obtain ⟨q, hq, rfl, HI⟩ := hrel
    obtain ⟨hr, hb⟩ := HI.out
    by_cases hlt : q < n
    · have hlti : (f : Int) + (q : Int) < (f : Int) + (n : Int) := by omega
      have HR := Lib.hid hr
      have HB := Lib.hid hb
      obtain ⟨A7, c7, rfl⟩ := Kd.R_slice hr
      rw [marks_length]
      have hmk : -1000000 * (i : Int) - ((f : Int) + (q : Int)) - 7 = mkAt i (f + q) := by unfold mkAt; omega
      have HMK := Lib.hid hmk
      have HQ := Lib.hid hq
      clear hr hb HI hmk hq
      go_wp2_with (((with_reducible refine gate_builtin (b := .append) (xs := #[.tmp 17, .tmp 23]) rfl ?_); at_builtin; apply stopper))
      unfold Stopper
      refine Kd.R_append KI (w0 := w) w.heap.size rfl (.tmp 17) (.tmp 23) 27 3 (.int .i64 0) 8 rfl Try.underlying27 infoInt rfl (by decide) (by omega) (.slice A7 q c7) (marks i f q) (-1000000 * (i : Int) - ((f : Int) + (q : Int)) - 7) [.int .i64 (-1000000 * (i : Int) - ((f : Int) + (q : Int)) - 7)] (fun _ => True) (fun _ => False) rfl rfl rfl (fun _ hk => hk.elim) (fun _ _ => trivial) (by have := HR.out; rw [marks_length] at this; exact this) HB.out HB.out.size (by rw [marks_length]; omega) ?_
      intro v1 w2 ho hb2 hg2 hat2
      rw [HMK.out, ← marks_succ] at ho
      have HR2 := Lib.hid ho
      have HB2 := Lib.hid hb2
      clear ho hb2 hg2 hat2 HR HB
      go_wp2
      go_roundg (n - (q + 1))
      case measure => have := HQ.out; omega
      case rel => exact ⟨q + 1, by have := HQ.out; omega, by go_num, HR2.out, HB2.out⟩
    · obtain rfl : q = n := by omega
      have HR := Lib.hid hr
      have HB := Lib.hid hb
      clear hr hb HI
      go_wp2_with (fail)
      go_ret
      exact ⟨_, rfl, HR.out, HB.out⟩
end Go.Proofs.Ytnjenkjoeilhhaa.Book
