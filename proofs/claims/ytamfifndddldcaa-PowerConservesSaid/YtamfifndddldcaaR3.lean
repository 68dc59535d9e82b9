/-
  Arguments of layer 10's laws, opened: batteries, loads, cases.
-/
import Derived.Test.YtamfifndddldcaaR2
import Derived.Test.YtamfifndddldcaaW10
namespace Go.Proofs.Ytamfifndddldcaa
open Go.ChangeShapes Go.WideShapes Go.ChangeAt Go.RowKit Go.Deep Go.Joins

def I64 (x : Int) : Prop := -9223372036854775808 ≤ x ∧ x ≤ 9223372036854775807
theorem choose_at {α : Type} [Inhabited α] {n : Nat} {Q : Nat → α → Prop} (h : ∀ i, i < n → ∃ y, Q i y) : ∃ f : Nat → α, ∀ i, i < n → Q i (f i) := by
  refine ⟨fun i => if hi : i < n then (h i hi).choose else default, fun i hi => ?_⟩
  simp only [dif_pos hi]
  exact (h i hi).choose_spec
set_option maxRecDepth 100000 in
theorem trod_bat {H : Type} {enc : TypeId × Value → H} {W : World} {fuel : Nat} {cs : List Value} {x : DataW H × List MemPlace} (h : DataW.trod enc Try.prog W 0 (fun _ => true) true fuel 23 cs = some x) :
    ∃ C ch re, cs = [.int .i64 C, .int .i64 ch, .int .i64 re] ∧ I64 C ∧ I64 ch ∧ I64 re := by
  obtain ⟨ys, n, _, _, hlen, hyl, hfld⟩ := DataW.trod_struct Try.underlying23 h
  have hC : Try.prog.cellsOf 23 = 3 := by kernel_rfl
  have k3 : Try.prog.cellsOf 3 = 1 := by kernel_rfl
  rw [hC] at hlen
  match cs, hlen with
  | [c0, c1, c2], _ =>
    have f0 : DataW.trod enc Try.prog W 0 (fun _ => true) true n 3 [c0] = some (ys[0]'(by rw [hyl]; decide)) := by
      have := hfld 0 _ rfl
      simpa [Value.cells, k3, hyl] using this
    have f1 : DataW.trod enc Try.prog W 0 (fun _ => true) true n 3 [c1] = some (ys[1]'(by rw [hyl]; decide)) := by
      have := hfld 1 _ rfl
      simpa [Value.cells, k3, hyl] using this
    have f2 : DataW.trod enc Try.prog W 0 (fun _ => true) true n 3 [c2] = some (ys[2]'(by rw [hyl]; decide)) := by
      have := hfld 2 _ rfl
      simpa [Value.cells, k3, hyl] using this
    obtain ⟨z0, e0, _, w0⟩ := DataW.trod_int Try.underlying3 f0
    obtain ⟨z1, e1, _, w1⟩ := DataW.trod_int Try.underlying3 f1
    obtain ⟨z2, e2, _, w2⟩ := DataW.trod_int Try.underlying3 f2
    simp only [List.cons.injEq, and_true] at e0 e1 e2
    simp only [Lit.wf, Bool.and_eq_true, decide_eq_true_eq] at w0 w1 w2
    subst e0 e1 e2
    exact ⟨z0, z1, z2, rfl, w0, w1, w2⟩
set_option maxRecDepth 100000 in
theorem open_bat {H : Type} {enc : TypeId × Value → H} {W : World} {base : Nat} {v : Value} {d : DataW H} {p : List MemPlace}
    (hv : Value.okWide Try.prog W .any base 23 v) (h : DataW.Trod enc Try.prog W 0 (fun _ => true) true 23 v d p) :
    ∃ C ch re, v = .agg (bcs C ch re) ∧ I64 C ∧ I64 ch ∧ I64 re := by
  obtain ⟨cs, rfl, hsz⟩ := okWide_struct Try.underlying23 hv
  obtain ⟨fuel, hf⟩ := h
  obtain ⟨C, ch, re, e, h1, h2, h3⟩ := trod_bat hf
  have e' : cs.toList = [.int .i64 C, .int .i64 ch, .int .i64 re] := by simpa [Value.cells] using e
  refine ⟨C, ch, re, ?_, h1, h2, h3⟩
  congr 1
  apply Array.toList_inj.1
  exact e'
set_option maxRecDepth 100000 in
theorem open_loads {H : Type} {enc : TypeId × Value → H} {W : World} {base : Nat} {v : Value} {d : DataW H} {p : List MemPlace}
    (hv : Value.okWide Try.prog W .any base 24 v) (h : DataW.Trod enc Try.prog W 0 (fun _ => true) true 24 v d p) :
    ∃ A c l, v = .slice A (l : List Lo).length c ∧ Loads W (.slice A l.length c) l ∧ l.length ≤ 9223372036854775807 ∧ l.length ≤ c ∧ ∀ x ∈ l, I64 x.id ∧ I64 x.pw ∧ I64 x.pr := by
  obtain ⟨a0, len, cap, rfl⟩ := okWide_slice Try.underlying24 hv
  have hC : Try.prog.cellsOf 41 = 4 := by kernel_rfl
  have k3 : Try.prog.cellsOf 3 = 1 := by kernel_rfl
  have k4 : Try.prog.cellsOf 4 = 1 := by kernel_rfl
  obtain ⟨fuel, hf⟩ := h
  rcases open_slice Try.underlying24 hf with ⟨hcs, _⟩ | ⟨a, len', cap', m, n, D, Pl, hcs, _, hl, hm, hmm, _, hel⟩
  · simp only [Value.cells, List.cons.injEq, Value.slice.injEq, and_true] at hcs
    obtain ⟨rfl, rfl, rfl⟩ := hcs
    exact ⟨none, 0, [], rfl, Sl.nil _ _, by simp, by simp, by simp⟩
  · simp only [Value.cells, List.cons.injEq, Value.slice.injEq, and_true] at hcs
    obtain ⟨rfl, rfl, rfl⟩ := hcs
    have each : ∀ i, i < len → ∃ y : Lo, (∀ j u, (lcs y)[j]? = some u → W.cell? (a.add (i * 4 + j)) = some u) ∧ I64 y.id ∧ I64 y.pw ∧ I64 y.pr := by
      intro i hi
      obtain ⟨cells, hcells, htrod⟩ := hel i (by rw [hmm]; split <;> omega)
      obtain ⟨_, hcl, hat⟩ := World.cells?_some hcells
      rw [hC] at hcl hat
      obtain ⟨ys, n', _, _, hlen, hyl, hfld⟩ := DataW.trod_struct Try.underlying41 htrod
      match cells, hcl with
      | [c0, c1, c2, c3], _ =>
        have f0 : DataW.trod enc Try.prog W 0 (fun _ => true) true n' 3 [c0] = some (ys[0]'(by rw [hyl]; decide)) := by
          have := hfld 0 _ rfl
          simpa [Value.cells, k3, hyl] using this
        have f1 : DataW.trod enc Try.prog W 0 (fun _ => true) true n' 3 [c1] = some (ys[1]'(by rw [hyl]; decide)) := by
          have := hfld 1 _ rfl
          simpa [Value.cells, k3, hyl] using this
        have f2 : DataW.trod enc Try.prog W 0 (fun _ => true) true n' 3 [c2] = some (ys[2]'(by rw [hyl]; decide)) := by
          have := hfld 2 _ rfl
          simpa [Value.cells, k3, hyl] using this
        have f3 : DataW.trod enc Try.prog W 0 (fun _ => true) true n' 4 [c3] = some (ys[3]'(by rw [hyl]; decide)) := by
          have := hfld 3 _ rfl
          simpa [Value.cells, k4, hyl] using this
        obtain ⟨z0, e0, _, w0⟩ := DataW.trod_int Try.underlying3 f0
        obtain ⟨z1, e1, _, w1⟩ := DataW.trod_int Try.underlying3 f1
        obtain ⟨z2, e2, _, w2⟩ := DataW.trod_int Try.underlying3 f2
        obtain ⟨z3, e3, _⟩ := DataW.trod_bool Try.underlying4 f3
        simp only [List.cons.injEq, and_true] at e0 e1 e2 e3
        simp only [Lit.wf, Bool.and_eq_true, decide_eq_true_eq] at w0 w1 w2
        subst e0 e1 e2 e3
        refine ⟨⟨z0, z1, z2, z3⟩, fun j u hj => ?_, w0, w1, w2⟩
        have hj4 : j < 4 := (List.getElem?_eq_some_iff.1 hj).1
        have g := hat j hj4
        rw [Go.Deep.add_add] at g
        rw [g]
        exact hj
    obtain ⟨y, hy⟩ := choose_at each
    have hlen : ((List.range len).map y).length = len := by simp
    refine ⟨some a, cap, (List.range len).map y, by rw [hlen], ?_, by rw [hlen]; unfold maxLen at hm; omega, by rw [hlen]; exact hl, ?_⟩
    · refine sl_open fun j u hj => ?_
      have hjl := (List.getElem?_eq_some_iff.1 hj).1
      rw [flat_len lcs_len, hlen] at hjl
      have h1 : j / 4 < len := by omega
      have h2 := flat_at lcs_len ((List.range len).map y) (j / 4) (by rw [hlen]; exact h1) (j % 4) (by omega)
      rw [show j / 4 * 4 + j % 4 = j by omega, hj] at h2
      have h3 := (hy (j / 4) h1).1 (j % 4) u (by rw [h2]; simp)
      rwa [show j / 4 * 4 + j % 4 = j by omega] at h3
    · intro x hx
      obtain ⟨i, hi, rfl⟩ := List.mem_map.1 hx
      exact (hy i (List.mem_range.1 hi)).2
end Go.Proofs.Ytamfifndddldcaa
