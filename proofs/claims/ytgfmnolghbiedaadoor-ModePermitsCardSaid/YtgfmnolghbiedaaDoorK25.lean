/-
  Walks of layer 30: perigeeref30.Certain.
-/
import Derived.Test.YtgfmnolghbiedaaDoorK24
namespace Go.Proofs.YtgfmnolghbiedaaDoor
open Go.RowKit

/-- the explanations of the sizes below k -/
def expsBelow (sh : List (List Int)) (seen clear : List Int) (k : Nat) : List (List Int) := (List.range k).flatMap fun j => exps sh seen clear j
theorem expsBelow_succ (sh : List (List Int)) (seen clear : List Int) (k : Nat) : expsBelow sh seen clear (k + 1) = expsBelow sh seen clear k ++ exps sh seen clear k := by
  simp [expsBelow, List.range_succ]
theorem explsOf_eq (sh : List (List Int)) (seen clear : List Int) : explsOf sh seen clear = expsBelow sh seen clear (sh.length + 1) := rfl
def sureB (E : List (List Int)) (u : Int) : Bool := !E.isEmpty && E.all fun s => s.contains u
/-- the answer of the specification after u units -/
def refCertN (sh : List (List Int)) (seen clear : List Int) (k : Nat) : List Int := (units k).filter fun u => sureB (explsOf sh seen clear) u
theorem refCertN_succ (sh : List (List Int)) (seen clear : List Int) (k : Nat) : refCertN sh seen clear (k + 1) = if sureB (explsOf sh seen clear) k then refCertN sh seen clear k ++ [(k : Int)] else refCertN sh seen clear k := by
  rw [refCertN, units_succ, List.filter_append]
  by_cases h : sureB (explsOf sh seen clear) k = true
  · rw [if_pos h]; simp [refCertN, h]
  · rw [if_neg h]; simp [refCertN, h]
theorem refCertN_le (sh : List (List Int)) (seen clear : List Int) (k : Nat) : (refCertN sh seen clear k).length ≤ k := by
  have := List.length_filter_le (fun u => sureB (explsOf sh seen clear) u) (units k)
  simpa [refCertN, units] using this
theorem refCertN_eq (sh : List (List Int)) (seen clear : List Int) : refCertN sh seen clear sh.length = certOf sh seen clear := by
  rw [← certOf_ref]; rfl
/-- some and always, of the explanations seen -/
def SureAt (E : List (List Int)) (u : Int) (a b : Value) : Prop := ∃ x y : Bool, a = .bool x ∧ b = .bool y ∧ x = !E.isEmpty ∧ y = E.all fun s => s.contains u
theorem SureAt.take {E : List (List Int)} {u : Int} {y : Bool} {s : List Int} (hy : y = E.all fun s => s.contains u) : SureAt (E ++ [s]) u (.bool true) (.bool (y && s.contains u)) :=
  ⟨_, _, rfl, rfl, by simp, by rw [List.all_append, ← hy]; simp⟩
end Go.Proofs.YtgfmnolghbiedaaDoor
