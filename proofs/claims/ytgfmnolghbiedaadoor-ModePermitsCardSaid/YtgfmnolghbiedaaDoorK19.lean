/-
  Walks of layer 30: perigeeref30.Check.
-/
import Derived.Test.YtgfmnolghbiedaaDoorK18
namespace Go.Proofs.YtgfmnolghbiedaaDoor
open Go.RowKit

theorem outB_lt {n s : Int} (h : s < 0) : outB n s = true := by unfold outB; rw [decide_eq_true h]; rfl
theorem outB_ge {n s : Int} (h : n ≤ s) : outB n s = true := by unfold outB; rw [decide_eq_true h]; simp
theorem outB_in {n s : Int} (h : ¬ s < 0) (h' : ¬ n ≤ s) : outB n s = false := by unfold outB; rw [decide_eq_false h, decide_eq_false h']; rfl
end Go.Proofs.YtgfmnolghbiedaaDoor
