/-
  Walks of layer 30: perigeeref30.Least.
-/
import Derived.Test.YtgfmnolghbiedaaDoorK23
namespace Go.Proofs.YtgfmnolghbiedaaDoor
open Go.RowKit

theorem refLeast_calls (n : Int) (AG : Option Addr) (cG : Nat) (sh : List (List Int)) (AS : Option Addr) (cS : Nat) (seen : List Int) (AC : Option Addr) (cC : Nat) (clear : List Int) (w : World)
    (hl : Lists w w.heap.size AG sh) (hn : sh.length ≤ 20) (h1 : Ints w w.heap.size AS seen) (hm1 : seen.length ≤ 9223372036854775807) (h2 : Ints w w.heap.size AC clear) (hm2 : clear.length ≤ 9223372036854775807) :
    Calls Tryd.prog 42 #[.agg #[.int .i64 n, .slice AG sh.length cG], .slice AS seen.length cS, .slice AC clear.length cC] w (LeastPost w (leastOf sh seen clear)) := by
  obtain ⟨W1, hW1⟩ : ∃ W1, w.alloc (.cells #[.int .i64 n, .slice AG sh.length cG] 35) = W1 := ⟨_, rfl⟩
  have s1 : W1.heap.size = w.heap.size + 1 := by rw [← hW1]; simp
  have hb1 : Below w.heap.size w W1 := by rw [← hW1]; exact (Below.refl _ _).alloc (Nat.le_refl _) _
  have hG1 : GBox W1 W1.heap.size w.heap.size n sh := by rw [s1, ← hW1]; exact gbox_new w n AG cG sh hl (by omega)
  have hS1 := (h1.below hb1).more hb1.size
  have hC1 := (h2.below hb1).more hb1.size
  obtain ⟨_, _, gi0, AGi, cGi, gi1, hlG⟩ := hG1
  have hlo := bx (show leastOf sh seen clear = (allOf sh seen clear).head? from rfl)
  go_enter Tryd.func42, Tryd.ntmps42
  go_wp2_with fail
  clear hW1 hl h1 h2
  refine (refAll_calls n AGi cGi sh AS cS seen AC cC clear W1 hlG hn hS1 hm1 hC1 hm2).mono ?_
  rintro e w3 ⟨ys, A, c, hT, rfl, row, own, hb3⟩
  have HT := bx hT
  clear hT
  have hb := hb1.trans (hb3.mono hb1.size)
  cases ys with
  | nil =>
    have HL := bx (show leastOf sh seen clear = none by rw [hlo.out, ← HT.out]; rfl)
    go_wp2
    go_ret2
    exact .inr ⟨HL.out, rfl, hb⟩
  | cons y r =>
    have HL := bx (show leastOf sh seen clear = some y.s by rw [hlo.out, ← HT.out]; rfl)
    have hyo := own y (by simp)
    obtain ⟨g, rfl, _, hg, hcell⟩ := cell_row row (q := 0) (by simp) y.v (by simp)
    have hne : (((y :: r).length : Int) == 0) = false := by simp; omega
    have hpos : 0 < (y :: r).length := by simp
    have HO := bx (own_base hyo hb1.size)
    obtain ⟨yA, yc, yl⟩ := y
    simp only [Slc.v] at hcell
    generalize ((⟨yA, yc, yl⟩ : Slc) :: r).length = m at *
    clear row own hyo
    have z1 : (0 : Int) < (m : Int) := by omega
    go_wp2
    go_ret2
    exact .inl ⟨yl, yA, yc, HL.out, rfl, HO.out, hb⟩
end Go.Proofs.YtgfmnolghbiedaaDoor
