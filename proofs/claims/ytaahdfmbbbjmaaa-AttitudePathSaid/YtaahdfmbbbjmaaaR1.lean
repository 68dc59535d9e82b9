/-
  An argument that is a slice of arcs, opened; the frame of a law's row.
-/
import Derived.Test.YtaahdfmbbbjmaaaR0
import Derived.Test.YtaahdfmbbbjmaaaW1
namespace Go.Proofs.Ytaahdfmbbbjmaaa
open Go.ChangeShapes Go.WideShapes Go.ChangeAt Go.RowKit Go.Deep

theorem open_arcs {H : Type} {enc : TypeId × Value → H} {W : World} {base : Nat} {v : Value} {d : DataW H} {p : List MemPlace}
    (hv : Value.okWide Try.prog W .any base 22 v) (h : DataW.Trod enc Try.prog W 0 (fun _ => true) true 22 v d p) :
    ∃ A c l, v = .slice A (l : ArcL).length c ∧ Arcs W W.heap.size A l ∧ l.length ≤ 9223372036854775807 := by
  obtain ⟨a0, len, cap, rfl⟩ := okWide_slice Try.underlying22 hv
  rcases open_structs Try.underlying22 Try.underlying44 (by kernel_rfl) Try.cells44 h with ⟨rfl, rfl, rfl⟩ | ⟨a, rfl, hm, hall⟩
  · exact ⟨none, 0, [], rfl, Arcs.nil, by simp⟩
  · have hcell : ∀ i, i < len → ∃ x : Int × Int, W.cell? (a.add (i * 2)) = some (.int .i64 x.1) ∧ W.cell? (a.add (i * 2 + 1)) = some (.int .i64 x.2) := by
      intro i hil
      obtain ⟨v0, y0, m0, c0, t0⟩ := hall i hil 0 _ rfl
      obtain ⟨v1, y1, m1, c1, t1⟩ := hall i hil 1 _ rfl
      obtain ⟨n0, e0, _, _⟩ := DataW.trod_int Try.underlying3 t0
      obtain ⟨n1, e1, _, _⟩ := DataW.trod_int Try.underlying3 t1
      simp only [List.cons.injEq, and_true] at e0 e1
      subst e0 e1
      exact ⟨(n0, n1), c0, c1⟩
    obtain ⟨f, hfn⟩ := choose_lt hcell
    refine ⟨some a, cap, (List.range len).map f, by simp, ⟨fun k hk => ?_⟩, by simp; unfold maxLen at hm; omega⟩
    simp only [List.length_map, List.length_range] at hk
    obtain ⟨c0, c1⟩ := hfn k hk
    obtain ⟨b, off, sp⟩ := a
    have hsp : sp = none := by
      rcases sp with _ | x
      · rfl
      · exfalso
        obtain ⟨c0', _⟩ := hfn 0 (by omega)
        rw [show (⟨b, off, some x⟩ : Addr).add (0 * 2) = ⟨b, off, some x⟩ from rfl] at c0'
        unfold World.cell? at c0'
        split at c0'
        · simp at c0'
        · cases c0'
    subst hsp
    have e : ∀ n, (⟨b, off, none⟩ : Addr).add n = ⟨b, off + n, none⟩ := fun n => Addr.add_mid b off n
    rw [e] at c0 c1
    refine ⟨b, off, rfl, World.block_lt_of_cell? W _ c0, ?_, ?_⟩
    · simpa using c0
    · simpa [Nat.add_assoc] using c1
end Go.Proofs.Ytaahdfmbbbjmaaa
