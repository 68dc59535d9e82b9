/-
  Walks of layer 30: perigeeref30.Same.
-/
import Derived.Test.YtgfmnolghbiedaaDoorK12
namespace Go.Proofs.YtgfmnolghbiedaaDoor
open Go.RowKit

theorem take_eqL {xs ys : List (List Int)} {k : Nat} (h1 : k < xs.length) (h2 : k < ys.length) : (xs.take (k + 1) = ys.take (k + 1)) ↔ (xs.take k = ys.take k ∧ xs[k] = ys[k]) := by
  rw [List.take_succ_eq_append_getElem h1, List.take_succ_eq_append_getElem h2]
  constructor
  · intro h
    have := List.append_inj h (by simp; omega)
    exact ⟨this.1, by simpa using this.2⟩
  · rintro ⟨h, e⟩
    rw [h, e]
theorem same_val (A B : Option Addr) (c d : Nat) (xs ys : List Int) (w : World) (h1 : Ints w w.heap.size A xs) (h2 : Ints w w.heap.size B ys) (hm : xs.length ≤ 9223372036854775807) (t : Bool) (ht : decide (xs = ys) = t) :
    Calls Tryd.prog 20 #[.slice A xs.length c, .slice B ys.length d] w fun e w' => e = .returned (.bool t) ∧ ∃ m, w' = w.drewN m := by
  have := same_calls A B c d xs ys w h1 h2 hm
  unfold SamePost at this
  rwa [ht] at this
/-- what Same answers -/
def SamePostL (xs ys : List (List Int)) (w : World) (e : Ending) (w' : World) : Prop := e = .returned (.bool (decide (xs = ys))) ∧ ∃ m, w' = w.drewN m
end Go.Proofs.YtgfmnolghbiedaaDoor
