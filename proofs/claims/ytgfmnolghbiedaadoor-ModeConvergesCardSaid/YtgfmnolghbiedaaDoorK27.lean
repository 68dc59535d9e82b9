/-
  Walk of layer 30's examples: `lives` returns true.
-/
import Derived.Test.YtgfmnolghbiedaaDoorK26
namespace Go.Proofs.YtgfmnolghbiedaaDoor
open Go.RowKit

/-- a list of numbers that a call answers -/
def IntsPost (w : World) (l : List Int) (e : Ending) (Y : World) : Prop := ∃ (A : Option Addr) (c : Nat), e = .returned (.slice A l.length c) ∧ Ints Y Y.heap.size A l ∧ Below w.heap.size w Y
def LPost (w : World) (T : List (List Int)) (e : Ending) (Y : World) : Prop := ∃ (A : Option Addr) (c : Nat), e = .returned (.slice A T.length c) ∧ Lists Y Y.heap.size A T ∧ Below w.heap.size w Y
def SomePost (w : World) (s : List Int) (e : Ending) (Y : World) : Prop := ∃ (A : Option Addr) (c : Nat), e = .returned (.tuple #[.slice A s.length c, .bool true]) ∧ Ints Y Y.heap.size A s ∧ Below w.heap.size w Y
theorem row_ints {w : World} {l m : List Int} (hm : l = m) {e : Ending} {Y : World} (h : RowPost w l e Y) : IntsPost w m e Y := by
  subst hm
  obtain ⟨A, c, rfl, h1, h2⟩ := h
  exact ⟨A, c, rfl, ints_of_own h1, h2⟩
theorem rows_lists {w : World} {T U : List (List Int)} (hT : T = U) {e : Ending} {Y : World} (h : ListsPost w T e Y) : LPost w U e Y := by
  subst hT
  obtain ⟨ys, A, c, rfl, rfl, h1, h2, h3⟩ := h
  exact ⟨A, c, by rw [List.length_map], lists_of_own h1 h2, h3⟩
section
variable (n : Int) (AG : Option Addr) (cG : Nat) (sh : List (List Int)) (AS : Option Addr) (cS : Nat) (seen : List Int) (AC : Option Addr) (cC : Nat) (clear : List Int) (w : World)
    (hl : Lists w w.heap.size AG sh) (hn : sh.length ≤ 20) (h1 : Ints w w.heap.size AS seen) (hm1 : seen.length ≤ 9223372036854775807) (h2 : Ints w w.heap.size AC clear) (hm2 : clear.length ≤ 9223372036854775807)
include hl hn h1 hm1 h2 hm2
theorem least_some (s : List Int) (hs : leastOf sh seen clear = some s) : Calls Tryd.prog 39 #[.agg #[.int .i64 n, .slice AG sh.length cG], .slice AS seen.length cS, .slice AC clear.length cC] w (SomePost w s) := by
  refine (least_calls n AG cG sh AS cS seen AC cC clear w hl (by omega) h1 hm1 h2 hm2).mono ?_
  rintro e Y (⟨t, A, c, ht, rfl, ho, hb⟩ | ⟨ht, rfl, hb⟩)
  · rw [hs] at ht; cases ht; exact ⟨A, c, rfl, ints_of_own ho, hb⟩
  · rw [hs] at ht; cases ht
theorem least_no (hs : leastOf sh seen clear = none) : Calls Tryd.prog 39 #[.agg #[.int .i64 n, .slice AG sh.length cG], .slice AS seen.length cS, .slice AC clear.length cC] w fun e Y => e = .returned (.tuple #[.slice none 0 0, .bool false]) ∧ Below w.heap.size w Y := by
  refine (least_calls n AG cG sh AS cS seen AC cC clear w hl (by omega) h1 hm1 h2 hm2).mono ?_
  rintro e Y (⟨t, A, c, ht, rfl, ho, hb⟩ | ⟨ht, rfl, hb⟩)
  · rw [hs] at ht; cases ht
  · exact ⟨rfl, hb⟩
theorem refLeast_some (s : List Int) (hs : leastOf sh seen clear = some s) : Calls Tryd.prog 42 #[.agg #[.int .i64 n, .slice AG sh.length cG], .slice AS seen.length cS, .slice AC clear.length cC] w (SomePost w s) := by
  refine (refLeast_calls n AG cG sh AS cS seen AC cC clear w hl (by omega) h1 hm1 h2 hm2).mono ?_
  rintro e Y (⟨t, A, c, ht, rfl, ho, hb⟩ | ⟨ht, rfl, hb⟩)
  · rw [hs] at ht; cases ht; exact ⟨A, c, rfl, ints_of_own ho, hb⟩
  · rw [hs] at ht; cases ht
theorem refLeast_no (hs : leastOf sh seen clear = none) : Calls Tryd.prog 42 #[.agg #[.int .i64 n, .slice AG sh.length cG], .slice AS seen.length cS, .slice AC clear.length cC] w fun e Y => e = .returned (.tuple #[.slice none 0 0, .bool false]) ∧ Below w.heap.size w Y := by
  refine (refLeast_calls n AG cG sh AS cS seen AC cC clear w hl (by omega) h1 hm1 h2 hm2).mono ?_
  rintro e Y (⟨t, A, c, ht, rfl, ho, hb⟩ | ⟨ht, rfl, hb⟩)
  · rw [hs] at ht; cases ht
  · exact ⟨rfl, hb⟩
theorem refAll_val (T : List (List Int)) (hT : allOf sh seen clear = T) : Calls Tryd.prog 53 #[.agg #[.int .i64 n, .slice AG sh.length cG], .slice AS seen.length cS, .slice AC clear.length cC] w (LPost w T) :=
  (refAll_calls n AG cG sh AS cS seen AC cC clear w hl hn h1 hm1 h2 hm2).mono fun _ _ h => rows_lists hT h
end
theorem sameI_val (A B : Option Addr) (c d : Nat) (xs ys : List Int) (w : World) (h1 : Ints w w.heap.size A xs) (h2 : Ints w w.heap.size B ys) (hm : xs.length ≤ 9223372036854775807) (x : Bool) (hx : decide (xs = ys) = x) :
    Calls Tryd.prog 20 #[.slice A xs.length c, .slice B ys.length d] w fun e Y => e = .returned (.bool x) ∧ Below w.heap.size w Y := by
  refine (same_calls A B c d xs ys w h1 h2 hm).mono ?_
  rintro e Y ⟨rfl, m, rfl⟩
  exact ⟨by rw [hx], below_drewN (Below.refl _ _) m⟩
end Go.Proofs.YtgfmnolghbiedaaDoor
