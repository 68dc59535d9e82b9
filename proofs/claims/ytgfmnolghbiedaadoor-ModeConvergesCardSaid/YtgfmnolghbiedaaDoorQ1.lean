/-
  Arguments that are modes, opened.
-/
import Derived.Test.YtgfmnolghbiedaaDoorR1
import Derived.Test.YtgfmnolghbiedaaDoorQ0
import Derived.Test.YtgfmnolghbiedaaDoorP11
namespace Go.Proofs.YtgfmnolghbiedaaDoor
open Go.ChangeShapes Go.WideShapes Go.ChangeAt Go.RowKit Go.Deep Go.Joins

theorem Tryd.cellsUnit : Tryd.prog.cellsOf 44 = 2 := by kernel_rfl
theorem open_units {H : Type} {enc : TypeId × Value → H} {W : World} {base : Nat} {A : Option Addr} {len cap : Nat} {d : DataW H} {p : List MemPlace}
    (h : DataW.Trod enc Tryd.prog W base (fun _ => true) true 22 (.slice A len cap) d p) :
    ∃ us : UL, len = us.length ∧ US W W.heap.size (.slice A us.length cap) us ∧ us.length ≤ 9223372036854775807 := by
  rcases open_structs Tryd.underlying22 Tryd.underlying44 (by kernel_rfl) Tryd.cellsUnit h with ⟨rfl, rfl, rfl⟩ | ⟨a, rfl, hm, hall⟩
  · exact ⟨[], rfl, ⟨.inl ⟨rfl, rfl⟩⟩, by simp⟩
  · have hcell : ∀ i, i < len → ∃ x : Int × Int, W.cell? (a.add (i * 2)) = some (.int .i64 x.1) ∧ W.cell? (a.add (i * 2 + 1)) = some (.int .i64 x.2) := by
      intro i hil
      obtain ⟨v0, y0, m0, c0, t0⟩ := hall i hil 0 _ rfl
      obtain ⟨v1, y1, m1, c1, t1⟩ := hall i hil 1 _ rfl
      obtain ⟨n0, e0, _, _⟩ := DataW.trod_int Tryd.underlying3 t0
      obtain ⟨n1, e1, _, _⟩ := DataW.trod_int Tryd.underlying3 t1
      simp only [List.cons.injEq, and_true] at e0 e1
      subst e0 e1
      exact ⟨(n0, n1), c0, c1⟩
    obtain ⟨f, hfn⟩ := choose_lt hcell
    refine ⟨(List.range len).map f, by simp, ?_, by simp; unfold maxLen at hm; omega⟩
    refine ⟨.inr ⟨a, cap, rfl, fun k hk => ?_⟩⟩
    simp only [List.length_map, List.length_range] at hk
    obtain ⟨c0, c1⟩ := hfn k hk
    obtain ⟨c00, _⟩ := hfn 0 (by omega)
    obtain ⟨b, off, rfl⟩ := addr_form (show W.cell? a = _ by rw [← c00]; rfl)
    have e : ∀ n, (⟨b, off, none⟩ : Addr).add n = ⟨b, off + n, none⟩ := fun n => Addr.add_mid b off n
    rw [e] at c0 c1
    refine ⟨b, off, rfl, World.block_lt_of_cell? W _ c0, ?_, ?_⟩
    · simpa using c0
    · simpa [Nat.add_assoc] using c1
theorem Tryd.cellsMode : Tryd.prog.cellsOf 24 = 3 := by kernel_rfl
theorem open_modev {H : Type} {enc : TypeId × Value → H} {W : World} {base : Nat} {v : Value} {d : DataW H} {p : List MemPlace}
    (hv : Value.okWide Tryd.prog W .any base 24 v) (h : DataW.Trod enc Tryd.prog W 0 (fun _ => true) true 24 v d p) :
    ∃ (lev bud : Int) (A : Option Addr) (c : Nat) (us : UL), v = .agg #[.int .i64 lev, .int .i64 bud, .slice A us.length c] ∧ US W W.heap.size (.slice A us.length c) us ∧ us.length ≤ 9223372036854775807 ∧
      (-9223372036854775808 ≤ lev ∧ lev ≤ 9223372036854775807) ∧ (-9223372036854775808 ≤ bud ∧ bud ≤ 9223372036854775807) := by
  obtain ⟨v0, v1, v2, y0, y1, y2, n, rfl, _, _, t0, t1, t2⟩ := open_agg3 Tryd.underlying24 (by kernel_rfl) Tryd.cellsMode hv h
  obtain ⟨lev, e0, _, w0⟩ := DataW.trod_int Tryd.underlying3 t0
  obtain ⟨bud, e1, _, w1⟩ := DataW.trod_int Tryd.underlying3 t1
  simp only [List.cons.injEq, and_true] at e0 e1
  subst e0 e1
  simp only [Lit.wf, Bool.and_eq_true, decide_eq_true_eq] at w0 w1
  have hsl : ∃ A len cap, v2 = .slice A len cap := by
    rcases open_slice Tryd.underlying22 t2 with ⟨hcs, _⟩ | ⟨a, len, cap, m, k, D, Pl, hcs, _⟩
    · simp only [List.cons.injEq, and_true] at hcs; exact ⟨_, _, _, hcs⟩
    · simp only [List.cons.injEq, and_true] at hcs; exact ⟨_, _, _, hcs⟩
  obtain ⟨A, len, cap, rfl⟩ := hsl
  obtain ⟨us, rfl, hU, hm⟩ := open_units (enc := enc) (d := y2.1) (p := y2.2) ⟨n, t2⟩
  exact ⟨lev, bud, A, cap, us, rfl, hU, hm, w0, w1⟩
end Go.Proofs.YtgfmnolghbiedaaDoor
