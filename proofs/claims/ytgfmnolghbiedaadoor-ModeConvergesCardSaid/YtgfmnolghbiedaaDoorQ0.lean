/-
  The laid variable 'permitted' of a row, opened; its witness.
-/
import Derived.Test.YtgfmnolghbiedaaDoorR0
import Derived.Test.YtgfmnolghbiedaaDoorP5
import Derived.Test.YtgfmnolghbiedaaDoorCards
import Derived.Test.YtgfmnolghbiedaaDoorTie
import Derived.LaidMore
import Derived.Stop.Joined
import Derived.SevenTiedAt
namespace Go.Proofs.YtgfmnolghbiedaaDoor
open Go.ChangeShapes Go.WideShapes Go.ChangeAt Go.WideMaps Go.WideElems Go.RowKit

def laidL {H : Type} : List (String × DataW H) := [("perigee/mode.permitted", Rows.laid_perigee_mode_permitted)]
theorem gPerm : Tryd.prog.globalNamed "perigee/mode.permitted" = some 0 := by kernel_rfl
theorem tPerm : (Tryd.prog.globals[0]?).map (·.type) = some 71 := by kernel_rfl
theorem door_met (os : Os) (args : Array Value) : laidMetH Tryd.prog laidL ((World.doorLaid Tryd.prog 400 os).forCall (fun _ _ => 0) ⟨#[], args, []⟩).memory :=
  laidMetH_of_parts3 (fuel := 8) (laidMet_of_run' 8 (by kernel_rfl) (by kernel_rfl)) (by kernel_rfl) (by kernel_rfl)
theorem row_cells {H : Type} {enc : TypeId × Value → H} {W : World} {base : Nat} {sp : Nat → Bool} {held : Bool} {m : Nat} {cs : List Value} {x : DataW H × List MemPlace} {b0 b1 : Bool}
    (h : DataW.trod enc Tryd.prog W base sp held m 70 cs = some x) (hx : x.1 = .agg [.lit (.bool b0), .lit (.bool b1)]) : cs[0]? = some (.bool b0) ∧ cs[1]? = some (.bool b1) := by
  obtain ⟨ys, m1, rfl, hx1, hlen, hn, hel⟩ := DataW.trod_array Tryd.underlying70 h
  have c4 : Tryd.prog.cellsOf 4 = 1 := by kernel_rfl
  subst hx1
  match ys, hn, hx, hel with
  | [y0, y1], _, hx, hel =>
    simp only [List.map_cons, List.map_nil, DataW.agg.injEq, List.cons.injEq, and_true] at hx
    have h0 := hel 0 (by decide)
    have h1 := hel 1 (by decide)
    rw [c4] at h0 h1
    obtain ⟨d0, e0, f0⟩ := DataW.trod_bool Tryd.underlying4 (show DataW.trod enc Tryd.prog W base sp held m1 4 _ = some y0 from h0)
    obtain ⟨d1, e1, f1⟩ := DataW.trod_bool Tryd.underlying4 (show DataW.trod enc Tryd.prog W base sp held m1 4 _ = some y1 from h1)
    rw [f0, f1] at hx
    simp only [DataW.lit.injEq, Lit.bool.injEq] at hx
    obtain ⟨rfl, rfl⟩ := hx
    constructor
    · have := congrArg (fun l : List Value => l[0]?) e0
      simpa using this
    · have := congrArg (fun l : List Value => l[0]?) e1
      simpa using this
theorem of_laid {W : World} (h : laidMetH Tryd.prog laidL W) : PM W := by
  rw [MakeChecks.laidMetH_plain _ _ _ (by kernel_rfl)] at h
  obtain ⟨ps, ⟨g0, t0, cs0, f0, p0, q0, hg0, ht0, hv0, hd0, _, _⟩, _, _⟩ := h
  obtain rfl := Option.some.inj (gPerm.symm.trans hg0)
  obtain rfl := Option.some.inj (tPerm.symm.trans ht0)
  obtain ⟨xs, m1, rfl, hx1, hlen, hn3, hel⟩ := DataW.trod_array Tryd.underlying71 hd0
  have c70 : Tryd.prog.cellsOf 70 = 2 := by kernel_rfl
  simp only [Prod.mk.injEq] at hx1
  match xs, hn3, hx1, hel with
  | [x0, x1, x2], _, hx1, hel =>
    simp only [List.map_cons, List.map_nil, Rows.laid_perigee_mode_permitted, DataW.agg.injEq, List.cons.injEq, and_true] at hx1
    have h0 := hel 0 (by decide)
    have h1 := hel 1 (by decide)
    have h2 := hel 2 (by decide)
    rw [c70] at h0 h1 h2
    obtain ⟨a0, a1⟩ := row_cells (show DataW.trod _ Tryd.prog W _ _ _ m1 70 _ = some x0 from h0) hx1.1.1.symm
    obtain ⟨a2, a3⟩ := row_cells (show DataW.trod _ Tryd.prog W _ _ _ m1 70 _ = some x1 from h1) hx1.1.2.1.symm
    obtain ⟨a4, a5⟩ := row_cells (show DataW.trod _ Tryd.prog W _ _ _ m1 70 _ = some x2 from h2) hx1.1.2.2.symm
    have v := World.var?_cell hg0 hv0
    refine ⟨?_, ?_, ?_, ?_, ?_, ?_⟩
    · rw [v 0]; simpa using a0
    · rw [v 1]; simpa using a1
    · rw [v 2]; simpa using a2
    · rw [v 3]; simpa using a3
    · rw [v 4]; simpa using a4
    · rw [v 5]; simpa using a5
end Go.Proofs.YtgfmnolghbiedaaDoor
