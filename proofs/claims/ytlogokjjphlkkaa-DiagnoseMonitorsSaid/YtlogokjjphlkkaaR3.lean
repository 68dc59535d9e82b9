/-
  More arguments, opened: lists of numbers with their capacity; truth values.
-/
import Derived.Test.YtlogokjjphlkkaaR2
import Derived.Test.YtlogokjjphlkkaaW3
import Derived.Deep.Grids
namespace Go.Proofs.Ytlogokjjphlkkaa
open Go.ChangeShapes Go.WideShapes Go.ChangeAt Go.RowKit Go.Deep Go.Joins

set_option maxRecDepth 100000 in
theorem open_intsc {H : Type} {enc : TypeId × Value → H} {W : World} {base : Nat} {v : Value} {d : DataW H} {p : List MemPlace}
    (hv : Value.okWide Try.prog W .any base 22 v) (h : DataW.Trod enc Try.prog W 0 (fun _ => true) true 22 v d p) :
    ∃ A c l, v = .slice A (l : List Int).length c ∧ Ints W (.slice A l.length c) l ∧ l.length ≤ 9223372036854775807 ∧ (∀ x ∈ l, -9223372036854775808 ≤ x ∧ x ≤ 9223372036854775807) ∧ l.length ≤ c := by
  obtain ⟨a0, len, cap, rfl⟩ := okWide_slice Try.underlying22 hv
  obtain ⟨fuel, hf⟩ := h
  rcases open_ints Try.underlying22 Try.underlying3 (by kernel_rfl) hf with ⟨hcs, _⟩ | ⟨a, len', cap', zs, hcs, _, hl, hm, hz, _, hcell, hwf⟩
  · simp only [Value.cells, List.cons.injEq, Value.slice.injEq, and_true] at hcs
    obtain ⟨rfl, rfl, rfl⟩ := hcs
    exact ⟨none, 0, [], rfl, Sl.nil _ _, by simp, by simp, Nat.le_refl _⟩
  · simp only [Value.cells, List.cons.injEq, Value.slice.injEq, and_true] at hcs
    obtain ⟨rfl, rfl, rfl⟩ := hcs
    simp only [if_true] at hz
    have hlen : (zs.take len).length = len := by rw [List.length_take]; omega
    refine ⟨some a, cap, zs.take len, by rw [hlen], ?_, by rw [hlen]; unfold maxLen at hm; omega, fun x hx => ?_, by rw [hlen]; exact hl⟩
    · refine sl_open fun j u hj => ?_
      have hjl : j < len := by have := (List.getElem?_eq_some_iff.1 hj).1; rw [ic_len, hlen] at this; exact this
      rw [hcell j (by omega), ← hj]
      simp only [ic, List.getElem?_map, List.getElem?_take, if_pos hjl]
      rw [List.getD_eq_getElem?_getD, List.getElem?_eq_getElem (by omega)]
      rfl
    · have hw := hwf x (List.mem_of_mem_take hx)
      simp only [Lit.wf, Bool.and_eq_true, decide_eq_true_eq] at hw
      exact hw
set_option maxRecDepth 100000 in
/-- a monitor, its past by its length alone -/
theorem open_mon {H : Type} {enc : TypeId × Value → H} {W : World} {base : Nat} {v : Value} {d : DataW H} {p : List MemPlace}
    (hv : Value.okWide Try.prog W .any base 71 v) (h : DataW.Trod enc Try.prog W 0 (fun _ => true) true 71 v d p) :
    ∃ m A c, v = .agg (mcs m (.slice A m.past.length c)) ∧ m.past.length ≤ 9223372036854775807 := by
  obtain ⟨cs, rfl, hsz⟩ := okWide_struct Try.underlying71 hv
  have hC : Try.prog.cellsOf 71 = 8 := by kernel_rfl
  rw [hC] at hsz
  obtain ⟨fuel, hf⟩ := h
  obtain ⟨ys, n, _, _, hlen, hyl, hfld⟩ := DataW.trod_struct Try.underlying71 hf
  match cs, hsz with
  | ⟨[c0, c1, c2, c3, c4, c5, c6, c7]⟩, _ =>
    have k3 : Try.prog.cellsOf 3 = 1 := by kernel_rfl
    have k4 : Try.prog.cellsOf 4 = 1 := by kernel_rfl
    have k32 : Try.prog.cellsOf 32 = 1 := by kernel_rfl
    have f0 : DataW.trod enc Try.prog W 0 (fun _ => true) true n 3 [c0] = some (ys[0]'(by rw [hyl]; decide)) := by
      have := hfld 0 _ rfl
      simpa [Value.cells, k3, hyl] using this
    have f1 : DataW.trod enc Try.prog W 0 (fun _ => true) true n 3 [c1] = some (ys[1]'(by rw [hyl]; decide)) := by
      have := hfld 1 _ rfl
      simpa [Value.cells, k3, hyl] using this
    have f2 : DataW.trod enc Try.prog W 0 (fun _ => true) true n 3 [c2] = some (ys[2]'(by rw [hyl]; decide)) := by
      have := hfld 2 _ rfl
      simpa [Value.cells, k3, hyl] using this
    have f3 : DataW.trod enc Try.prog W 0 (fun _ => true) true n 3 [c3] = some (ys[3]'(by rw [hyl]; decide)) := by
      have := hfld 3 _ rfl
      simpa [Value.cells, k3, hyl] using this
    have f4 : DataW.trod enc Try.prog W 0 (fun _ => true) true n 3 [c4] = some (ys[4]'(by rw [hyl]; decide)) := by
      have := hfld 4 _ rfl
      simpa [Value.cells, k3, hyl] using this
    have f5 : DataW.trod enc Try.prog W 0 (fun _ => true) true n 3 [c5] = some (ys[5]'(by rw [hyl]; decide)) := by
      have := hfld 5 _ rfl
      simpa [Value.cells, k3, hyl] using this
    have f6 : DataW.trod enc Try.prog W 0 (fun _ => true) true n 32 [c6] = some (ys[6]'(by rw [hyl]; decide)) := by
      have := hfld 6 _ rfl
      simpa [Value.cells, k32, hyl] using this
    have f7 : DataW.trod enc Try.prog W 0 (fun _ => true) true n 4 [c7] = some (ys[7]'(by rw [hyl]; decide)) := by
      have := hfld 7 _ rfl
      simpa [Value.cells, k4, hyl] using this
    obtain ⟨z0, e0, _, _⟩ := DataW.trod_int Try.underlying3 f0
    obtain ⟨z1, e1, _, _⟩ := DataW.trod_int Try.underlying3 f1
    obtain ⟨z2, e2, _, _⟩ := DataW.trod_int Try.underlying3 f2
    obtain ⟨z3, e3, _, _⟩ := DataW.trod_int Try.underlying3 f3
    obtain ⟨z4, e4, _, _⟩ := DataW.trod_int Try.underlying3 f4
    obtain ⟨z5, e5, _, _⟩ := DataW.trod_int Try.underlying3 f5
    obtain ⟨z7, e7, _⟩ := DataW.trod_bool Try.underlying4 f7
    simp only [List.cons.injEq, and_true] at e0 e1 e2 e3 e4 e5 e7
    subst e0 e1 e2 e3 e4 e5 e7
    rcases open_bools Try.underlying32 Try.underlying4 k4 f6 with ⟨hcs, _⟩ | ⟨a, len, cap, B, hcs, _, hl, hm, _⟩
    · simp only [List.cons.injEq, and_true] at hcs
      subst hcs
      exact ⟨⟨z0, z1, z2, z3, z4, z5, [], z7⟩, none, 0, rfl, by simp⟩
    · simp only [List.cons.injEq, and_true] at hcs
      subst hcs
      exact ⟨⟨z0, z1, z2, z3, z4, z5, List.replicate len false, z7⟩, some a, cap, by simp, by simp; unfold maxLen at hm; omega⟩
end Go.Proofs.Ytlogokjjphlkkaa
