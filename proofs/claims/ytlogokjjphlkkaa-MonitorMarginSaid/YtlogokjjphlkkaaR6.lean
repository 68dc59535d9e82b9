/-
  More arguments, opened: rows of numbers.
-/
import Derived.Test.YtlogokjjphlkkaaR5
import Derived.Test.YtlogokjjphlkkaaW21
import Derived.Deep.Matrix
namespace Go.Proofs.Ytlogokjjphlkkaa
open Go.ChangeShapes Go.WideShapes Go.ChangeAt Go.RowKit Go.Deep Go.Joins

set_option maxRecDepth 100000 in
theorem open_rows {H : Type} {enc : TypeId × Value → H} {W : World} {base : Nat} {v : Value} {d : DataW H} {p : List MemPlace}
    (hv : Value.okWide Try.prog W .any base 69 v) (h : DataW.Trod enc Try.prog W 0 (fun _ => true) true 69 v d p) :
    ∃ A c l, v = .slice A (l : List (List Int)).length c ∧ Rows W (.slice A l.length c) l ∧ l.length ≤ 9223372036854775807 := by
  obtain ⟨a0, len, cap, rfl⟩ := okWide_slice Try.underlying69 hv
  obtain ⟨fuel, hf⟩ := h
  rcases open_int_rows Try.underlying69 Try.underlying22 Try.underlying3 (by kernel_rfl) (by kernel_rfl) hf with ⟨hcs, _⟩ | ⟨a, len', cap', AA, L, C, Z, hcs, _, hl, hm, _, hrow⟩
  · simp only [Value.cells, List.cons.injEq, Value.slice.injEq, and_true] at hcs
    obtain ⟨rfl, rfl, rfl⟩ := hcs
    exact ⟨none, 0, [], rfl, ⟨[], Sl.nil _ _, fun k hk => absurd hk (by simp)⟩, by simp⟩
  · simp only [Value.cells, List.cons.injEq, Value.slice.injEq, and_true] at hcs
    obtain ⟨rfl, rfl, rfl⟩ := hcs
    refine ⟨some a, cap, (List.range len).map fun r => (Z r).take (L r), by simp, ⟨(List.range len).map fun r => Value.slice (AA r) (L r) (C r), ?_, fun k hk => ?_⟩, by simp; unfold maxLen at hm; omega⟩
    · rw [List.length_map, List.length_range]
      refine sl_open fun j u hj => ?_
      have hjl : j < len := by have := (List.getElem?_eq_some_iff.1 hj).1; simpa using this
      rw [(hrow j (by omega)).1, ← hj]
      simp [List.getElem?_map, List.getElem?_range hjl]
    · simp only [List.length_map, List.length_range] at hk
      obtain ⟨h1, h2, h3, h4, h5, h6, h7⟩ := hrow k (by omega)
      have hlen : ((Z k).take (L k)).length = L k := by rw [List.length_take]; omega
      refine ⟨AA k, C k, by simp [List.getElem?_map, List.getElem?_range hk]; omega, ?_, ?_, ?_⟩
      · rw [List.getElem_map, List.getElem_range, hlen]
        cases ha : AA k with
        | none =>
          have hC := h6 ha
          have hL : L k = 0 := by omega
          rw [hL, hC]; exact Sl.nil _ _
        | some a' =>
          have := sl_open (w := W) (a := a') (n := L k) (c := C k) (cs := ic ((Z k).take (L k))) fun j u hj => by
            have hjl : j < L k := by have := (List.getElem?_eq_some_iff.1 hj).1; rw [ic_len, hlen] at this; exact this
            rw [(h7 a' ha).2 j (by omega), ← hj]
            simp only [ic, List.getElem?_map, List.getElem?_take, if_pos hjl]
            rw [List.getD_eq_getElem?_getD, List.getElem?_eq_getElem (by omega)]
            rfl
          unfold Ints
          rw [hlen]
          exact this
      · rw [List.getElem_map, List.getElem_range, hlen]; unfold maxLen at h3; omega
      · rw [List.getElem_map, List.getElem_range]
        intro x hx
        have hw := h5 x (List.mem_of_mem_take hx)
        simp only [Lit.wf, Bool.and_eq_true, decide_eq_true_eq] at hw
        exact hw
end Go.Proofs.Ytlogokjjphlkkaa
