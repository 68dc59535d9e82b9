/-
  More arguments, opened: truth values with what they are.
-/
import Derived.Test.YtlogokjjphlkkaaR3
namespace Go.Proofs.Ytlogokjjphlkkaa
open Go.ChangeShapes Go.WideShapes Go.ChangeAt Go.RowKit Go.Deep Go.Joins

set_option maxRecDepth 100000 in
theorem open_boolsv {H : Type} {enc : TypeId × Value → H} {W : World} {base : Nat} {v : Value} {d : DataW H} {p : List MemPlace}
    (hv : Value.okWide Try.prog W .any base 32 v) (h : DataW.Trod enc Try.prog W 0 (fun _ => true) true 32 v d p) :
    ∃ A c l, v = .slice A (l : List Bool).length c ∧ Bools W (.slice A l.length c) l ∧ l.length ≤ 9223372036854775807 ∧ l.length ≤ c ∧ (A = none → c = 0) := by
  obtain ⟨a0, len, cap, rfl⟩ := okWide_slice Try.underlying32 hv
  obtain ⟨fuel, hf⟩ := h
  have k4 : Try.prog.cellsOf 4 = 1 := by kernel_rfl
  rcases open_bools Try.underlying32 Try.underlying4 k4 hf with ⟨hcs, _⟩ | ⟨a, len', cap', B, hcs, _, hl, hm, _, hcell⟩
  · simp only [Value.cells, List.cons.injEq, Value.slice.injEq, and_true] at hcs
    obtain ⟨rfl, rfl, rfl⟩ := hcs
    exact ⟨none, 0, [], rfl, Sl.nil _ _, by simp, Nat.le_refl _, fun _ => rfl⟩
  · simp only [Value.cells, List.cons.injEq, Value.slice.injEq, and_true] at hcs
    obtain ⟨rfl, rfl, rfl⟩ := hcs
    have hlen : ((List.range len).map B).length = len := by simp
    refine ⟨some a, cap, (List.range len).map B, by rw [hlen], ?_, by rw [hlen]; unfold maxLen at hm; omega, by rw [hlen]; exact hl, fun h => by cases h⟩
    refine sl_open fun j u hj => ?_
    have hjl : j < len := by have := (List.getElem?_eq_some_iff.1 hj).1; rw [bc_len, hlen] at this; exact this
    rw [hcell j (by omega), ← hj]
    simp [bc, List.getElem?_map, List.getElem?_range hjl]
end Go.Proofs.Ytlogokjjphlkkaa
