/- Slices of what is done (three whole numbers each): read as lists, and opened where they come in. -/
import Derived.Test.YthncomijfpbeeaaLib
import Derived.Test.YthncomijfpbeeaaProg
import Derived.Deep.Slices
import Derived.ChangeSame
namespace Go.Proofs.Ythncomijfpbeeaa.Ops
set_option linter.unusedVariables false
set_option linter.unusedSimpArgs false
open Go.RowKit Go.Proofs.YthncomijfpbeeaaW.PrintWords Go.Proofs.YthncomijfpbeeaaW.PrintMore Go.Proofs.Ythncomijfpbeeaa.L

abbrev OpT := Int × Int × Int
def OpK : Kd OpT := Kd.pair (Kd.int .i64) (Kd.pair (Kd.int .i64) (Kd.int .i64))
theorem opk_K {w : World} {x : OpT} {cs : List Value} : OpK.K w x cs ↔ cs = [.int .i64 x.1, .int .i64 x.2.1, .int .i64 x.2.2] := by
  constructor
  · rintro ⟨c0, c1, rfl, h0, c2, c3, rfl, h1, h2⟩
    have h0 : c0 = [.int .i64 x.1] := h0
    have h1 : c2 = [.int .i64 x.2.1] := h1
    have h2 : c3 = [.int .i64 x.2.2] := h2
    rw [h0, h1, h2]; rfl
  · rintro rfl
    exact ⟨[.int .i64 x.1], [.int .i64 x.2.1, .int .i64 x.2.2], rfl, rfl, [.int .i64 x.2.1], [.int .i64 x.2.2], rfl, rfl, rfl⟩
def at_ (xs : List OpT) (i : Nat) : OpT := xs.getD i (0, 0, 0)
theorem ops_at {w : World} {A : Option Addr} {n : Nat} {xs : List OpT} (h : OpK.C w A n xs) (i : Nat) (hi : i < n) :
    ∃ ad : Addr, A = some ad ∧ w.cell? (ad.add (i * 3)) = some (.int .i64 (at_ xs i).1) ∧ w.cell? ⟨(ad.add (i * 3)).block, (ad.add (i * 3)).off + 1, none⟩ = some (.int .i64 (at_ xs i).2.1) ∧ w.cell? ⟨(ad.add (i * 3)).block, (ad.add (i * 3)).off + 2, none⟩ = some (.int .i64 (at_ xs i).2.2) := by
  obtain ⟨ad, c, e, _, hK, hc⟩ := ReadsRow.get_ h (0, 0, 0) (i : Int) (by omega) (by omega)
  rw [Int.toNat_natCast] at hK hc
  have hK := opk_K.1 hK
  subst hK
  refine ⟨ad, e, ?_, ?_, ?_⟩
  · have := hc 0 _ rfl
    rw [show OpK.sz = 3 from rfl, Nat.add_zero] at this
    exact this
  · have := hc 1 _ rfl
    rw [show OpK.sz = 3 from rfl, add_field ad (i * 3) 1 (by omega)] at this
    exact this
  · have := hc 2 _ rfl
    rw [show OpK.sz = 3 from rfl, add_field ad (i * 3) 2 (by omega)] at this
    exact this
theorem opk_M {w : World} {base : Nat} {ok : Nat → Prop} {x : OpT} : OpK.M w base ok x [.int .i64 x.1, .int .i64 x.2.1, .int .i64 x.2.2] :=
  ⟨[.int .i64 x.1], [.int .i64 x.2.1, .int .i64 x.2.2], rfl, rfl, [.int .i64 x.2.1], [.int .i64 x.2.2], rfl, rfl, rfl⟩
theorem cells52 : Try.prog.cellsOf 52 = 3 := by kernel_rfl
theorem fields52 : ∃ f0 f1 f2 : Field, Try.prog.underlying 52 = some (.struct #[f0, f1, f2]) ∧ f0.type = 3 ∧ f0.offset = 0 ∧ f1.type = 3 ∧ f1.offset = 1 ∧ f2.type = 3 ∧ f2.offset = 2 :=
  ⟨_, _, _, Try.underlying52, rfl, rfl, rfl, rfl, rfl, rfl⟩
/-- What came in, opened. -/
theorem open_ops {H : Type} {enc : TypeId × Value → H} {w : World} {base : Nat} {spare : Nat → Bool} {held : Bool} {fuel : Nat} {a : Option Addr} {len cap : Nat} {x : DataW H × List MemPlace}
    (h : DataW.trod enc Try.prog w base spare held fuel 43 [.slice a len cap] = some x) :
    ∃ l : List OpT, len = l.length ∧ OpK.C w a l.length l ∧ l.length ≤ cap ∧ l.length ≤ maxLen := by
  rcases Go.Deep.open_slice Try.underlying43 h with ⟨hcs, _⟩ | ⟨ad, len', cap', m, n, D, Pl, hcs, _, hl, hm, hmm, _, hx⟩
  · simp at hcs
    obtain ⟨rfl, rfl, rfl⟩ := hcs
    exact ⟨[], rfl, ⟨rfl, by simp, fun h => absurd h (by simp)⟩, by simp, by simp⟩
  · simp at hcs
    obtain ⟨rfl, rfl, rfl⟩ := hcs
    have hlm : len ≤ m := by rw [hmm]; split <;> omega
    obtain ⟨f0, f1, f2, hu, t0, o0, t1, o1, t2, o2⟩ := fields52
    have each : ∀ i, i < len → ∃ y : OpT, ∀ j u, [Value.int .i64 y.1, .int .i64 y.2.1, .int .i64 y.2.2][j]? = some u → w.cell? (ad.add (i * 3 + j)) = some u := by
      intro i hi
      obtain ⟨cs', h1, h2⟩ := hx i (by omega)
      rw [cells52] at h1
      obtain ⟨_, hlen, hcell⟩ := World.cells?_some h1
      obtain ⟨xs, k, _, _, hcl, hxs, hf⟩ := DataW.trod_struct hu h2
      match cs', hlen with
      | [c0, c1, c2], _ =>
        match xs, hxs with
        | [y0, y1, y2], _ =>
          have g0 := hf 0 f0 rfl
          have g1 := hf 1 f1 rfl
          have g2 := hf 2 f2 rfl
          rw [t0, o0, show Try.prog.cellsOf 3 = 1 from by kernel_rfl] at g0
          rw [t1, o1, show Try.prog.cellsOf 3 = 1 from by kernel_rfl] at g1
          rw [t2, o2, show Try.prog.cellsOf 3 = 1 from by kernel_rfl] at g2
          obtain ⟨z0, e0, _, _⟩ := DataW.trod_int Try.underlying3 g0
          obtain ⟨z1, e1, _, _⟩ := DataW.trod_int Try.underlying3 g1
          obtain ⟨z2, e2, _, _⟩ := DataW.trod_int Try.underlying3 g2
          simp at e0 e1 e2
          subst e0 e1 e2
          refine ⟨(z0, z1, z2), fun j u hu => ?_⟩
          have hj : j < 3 := by have := (List.getElem?_eq_some_iff.1 hu).1; simpa using this
          have ha : (ad.add (i * 3)).add j = ad.add (i * 3 + j) := by
            unfold Addr.add
            by_cases h1 : i * 3 = 0 <;> by_cases h2 : j = 0 <;> simp [h1, h2, Nat.add_assoc]
          rw [← ha, hcell j hj]
          exact hu
    obtain ⟨Y, hY⟩ := Go.Deep.choose_lt each
    refine ⟨(List.range len).map Y, by simp, ⟨rfl, by simp; simp only [maxLen] at hm; omega, fun _ => ⟨ad, rfl, fun j p hj => ?_⟩⟩, by simpa using hl, by simp; omega⟩
    have hjl : j < len := by have := (List.getElem?_eq_some_iff.1 hj).1; simpa using this
    have hp : p = Y j := by
      rw [List.getElem?_map, List.getElem?_range hjl] at hj
      simpa using hj.symm
    subst hp
    exact ⟨_, rfl, opk_K.2 rfl, fun i u hu => hY j hjl i u hu⟩
end Go.Proofs.Ythncomijfpbeeaa.Ops
