/-
  Arguments that are lists of numbers, opened with their range; what Make makes is valid.
-/
import Derived.Test.YtgfmnolghbiedaaDoorQ1
import Derived.Test.YtgfmnolghbiedaaDoorP12
namespace Go.Proofs.YtgfmnolghbiedaaDoor
open Go.ChangeShapes Go.WideShapes Go.ChangeAt Go.RowKit Go.Deep Go.Joins

theorem open_intsr {H : Type} {enc : TypeId × Value → H} {W : World} {base : Nat} {v : Value} {d : DataW H} {p : List MemPlace}
    (hv : Value.okWide Tryd.prog W .any base 32 v) (h : DataW.Trod enc Tryd.prog W 0 (fun _ => true) true 32 v d p) :
    ∃ A c l, v = .slice A (l : List Int).length c ∧ Ints W W.heap.size A l ∧ l.length ≤ 9223372036854775807 ∧ ∀ x ∈ l, -9223372036854775808 ≤ x ∧ x ≤ 9223372036854775807 := by
  obtain ⟨a0, len, cap, rfl⟩ := okWide_slice Tryd.underlying32 hv
  obtain ⟨fuel, hf⟩ := h
  rcases open_ints Tryd.underlying32 Tryd.underlying3 (by kernel_rfl) hf with ⟨hcs, _⟩ | ⟨a, len', cap', zs, hcs, _, hl, hm, hz, _, hcell, hwf⟩
  · simp only [Value.cells, List.cons.injEq, Value.slice.injEq, and_true] at hcs
    obtain ⟨rfl, rfl, rfl⟩ := hcs
    exact ⟨none, 0, [], rfl, Ints.nil, by simp, by simp⟩
  · simp only [Value.cells, List.cons.injEq, Value.slice.injEq, and_true] at hcs
    obtain ⟨rfl, rfl, rfl⟩ := hcs
    simp only [if_true] at hz
    have hlen : (zs.take len).length = len := by rw [List.length_take]; omega
    refine ⟨some a, cap, zs.take len, by rw [hlen], ints_open (fun c hc => hcell c (by omega)) hz hl, by rw [hlen]; unfold maxLen at hm; omega, fun x hx => ?_⟩
    have hw := hwf x (List.mem_of_mem_take hx)
    simp only [Lit.wf, Bool.and_eq_true, decide_eq_true_eq] at hw
    exact hw
theorem makeU_good (l : List Int) (k : Nat) : GoodU (makeU l k) := by
  intro u hu
  simp only [makeU, List.mem_map, List.mem_range] at hu
  obtain ⟨i, _, rfl⟩ := hu
  have h1 := pick_bd l (2 * (i : Int)) 4 (by decide)
  have h2 := pick_bd l (2 * (i : Int) + 1) (1 + pickI l (2 * (i : Int)) 4) (by omega)
  exact ⟨h2.1, h2.2, by show 1 + pickI l (2 * (i : Int)) 4 ≤ 9; omega⟩
theorem good_any {l : UL} (h : GoodU l) : l.any badU = false := by
  rw [List.any_eq_false]
  intro u hu
  obtain ⟨h1, h2, h3⟩ := h u hu
  simp [badU]
  omega
theorem check_good {lev bud : Int} {l : UL} (h : GoodU l) (h0 : 0 ≤ lev) (h1 : lev ≤ 2) (b0 : 0 ≤ bud) (b1 : bud ≤ 2147483647) (hl : l.length ≤ 16) : checkM lev bud l = 0 := by
  unfold checkM
  rw [if_neg (by omega), if_neg (by omega), good_any h]
  rfl
end Go.Proofs.YtgfmnolghbiedaaDoor
