/-
  Arguments that are modes, opened, with the reach: a copy of the units fits.
-/
import Derived.Test.YtgfmnolghbiedaaDoorQ1
import Derived.SizedLaws
namespace Go.Proofs.YtgfmnolghbiedaaDoor
open Go.ChangeShapes Go.WideShapes Go.ChangeAt Go.RowKit Go.Deep Go.Joins

theorem open_modew {H : Type} {enc : TypeId × Value → H} {W : World} {base : Nat} {v : Value} {d : DataW H} {p : List MemPlace}
    (hv : Value.okWide Tryd.prog W .any base 24 v) (h : DataW.Trod enc Tryd.prog W 0 (fun _ => true) true 24 v d p) (hwt : ∀ n ∈ d.weights Tryd.prog 24, n ≤ reachBytes) :
    ∃ (lev bud : Int) (A : Option Addr) (c : Nat) (us : UL), v = .agg #[.int .i64 lev, .int .i64 bud, .slice A us.length c] ∧ US W W.heap.size (.slice A us.length c) us ∧ us.length ≤ 8796093022208 ∧
      (-9223372036854775808 ≤ lev ∧ lev ≤ 9223372036854775807) ∧ (-9223372036854775808 ≤ bud ∧ bud ≤ 9223372036854775807) := by
  obtain ⟨v0, v1, v2, y0, y1, y2, n, rfl, rfl, _, t0, t1, t2⟩ := open_agg3 Tryd.underlying24 (by kernel_rfl) Tryd.cellsMode hv h
  obtain ⟨lev, e0, _, w0⟩ := DataW.trod_int Tryd.underlying3 t0
  obtain ⟨bud, e1, _, w1⟩ := DataW.trod_int Tryd.underlying3 t1
  simp only [List.cons.injEq, and_true] at e0 e1
  subst e0 e1
  simp only [Lit.wf, Bool.and_eq_true, decide_eq_true_eq] at w0 w1
  have hsl : ∃ A len cap, v2 = .slice A len cap ∧ (len ≤ 8796093022208) := by
    rcases open_slice Tryd.underlying22 t2 with ⟨hcs, _⟩ | ⟨a, len, cap, m, k, D, Pl, hcs, _, _, _, _, hy, _⟩
    · simp only [List.cons.injEq, and_true] at hcs; exact ⟨_, _, _, hcs, by decide⟩
    · simp only [List.cons.injEq, and_true] at hcs
      refine ⟨_, _, _, hcs, ?_⟩
      have hb : Tryd.prog.bytesOf 44 = 16 := by kernel_rfl
      have hm : (len + (m - len)) * 16 ∈ (DataW.agg [y0.1, y1.1, y2.1]).weights Tryd.prog 24 := by
        rw [DataW.weights, Tryd.underlying24]
        refine DataW.weights_mem_each (j := 2) (t := 22) (d := y2.1) rfl rfl _ ?_
        rw [hy, DataW.weights, Tryd.underlying22]
        simp [hb]
      have := hwt _ hm
      unfold reachBytes at this
      omega
  obtain ⟨A, len, cap, rfl, hlen⟩ := hsl
  obtain ⟨us, rfl, hU, hm⟩ := open_units (enc := enc) (d := y2.1) (p := y2.2) ⟨n, t2⟩
  exact ⟨lev, bud, A, cap, us, rfl, hU, hlen, w0, w1⟩
theorem sized_mem {H : Type} {P : Program} {ts : List TypeId} {ds : List (DataW H)} (h : (DataW.weightsEach P ts ds).all (· ≤ reachBytes) = true) {j : Nat} {t : TypeId} {d : DataW H} (ht : ts[j]? = some t) (hd : ds[j]? = some d) : ∀ n ∈ d.weights P t, n ≤ reachBytes := fun n hn => by
  have := List.all_eq_true.1 h n (DataW.weights_mem_each ht hd n hn)
  simpa using this
end Go.Proofs.YtgfmnolghbiedaaDoor
