/-
  One more argument, opened: three numbers in an array.
-/
import Derived.Test.YtlogokjjphlkkaaR3
import Derived.Test.YtlogokjjphlkkaaW4
import Derived.Laws.IdiomArrays
namespace Go.Proofs.Ytlogokjjphlkkaa
open Go.ChangeShapes Go.WideShapes Go.ChangeAt Go.RowKit Go.Deep Go.Joins

set_option maxRecDepth 100000 in
theorem open_arr3 {H : Type} {enc : TypeId × Value → H} {W : World} {base : Nat} {v : Value} {d : DataW H} {p : List MemPlace}
    (hv : Value.okWide Try.prog W .any base 81 v) (h : DataW.Trod enc Try.prog W 0 (fun _ => true) true 81 v d p) :
    ∃ x y z, v = .agg #[.int .i64 x, .int .i64 y, .int .i64 z] ∧ Fits x ∧ Fits y ∧ Fits z := by
  have hC : Try.prog.cellsOf 81 = 3 := by kernel_rfl
  have k3 : Try.prog.cellsOf 3 = 1 := by kernel_rfl
  simp only [Value.okWide, Try.underlying81] at hv
  obtain ⟨cs, rfl, hsz, _⟩ := hv
  rw [hC] at hsz
  obtain ⟨fuel, hf⟩ := h
  match cs, hsz with
  | ⟨[c0, c1, c2]⟩, _ =>
    obtain ⟨y0, y1, y2, n, _, f0, f1, f2⟩ := trod_array3 Try.underlying81 k3 hf
    obtain ⟨z0, e0, _, w0⟩ := DataW.trod_int Try.underlying3 f0
    obtain ⟨z1, e1, _, w1⟩ := DataW.trod_int Try.underlying3 f1
    obtain ⟨z2, e2, _, w2⟩ := DataW.trod_int Try.underlying3 f2
    simp only [List.cons.injEq, and_true] at e0 e1 e2
    subst e0 e1 e2
    simp only [Lit.wf, Bool.and_eq_true, decide_eq_true_eq] at w0 w1 w2
    exact ⟨z0, z1, z2, rfl, w0, w1, w2⟩
end Go.Proofs.Ytlogokjjphlkkaa
