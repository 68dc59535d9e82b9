/-
  Arguments that are lists of numbers, lists of bytes and graphs, opened.
-/
import Derived.Test.YtgfmnolghbiedaaDoorR0
import Derived.Test.YtgfmnolghbiedaaDoorK17
import Derived.Deep.Matrix
import Derived.Lib.SmallJoins
namespace Go.Proofs.YtgfmnolghbiedaaDoor
open Go.ChangeShapes Go.WideShapes Go.ChangeAt Go.RowKit Go.Deep Go.Joins

theorem addr_form {w : World} {a : Addr} {v : Value} (h : w.cell? a = some v) : ∃ b off, a = ⟨b, off, none⟩ := by
  obtain ⟨b, off, sp⟩ := a
  rcases sp with _ | x
  · exact ⟨b, off, rfl⟩
  · exfalso
    unfold World.cell? at h
    split at h
    · simp at h
    · cases h
theorem ints_open {w : World} {a : Addr} {C L : Nat} {Z : List Int} (h : ∀ c, c < C → w.cell? (a.add c) = some (.int .i64 (Z.getD c 0))) (hZ : Z.length = C) (hL : L ≤ C) : Ints w w.heap.size (some a) (Z.take L) := by
  refine ⟨fun k hk => ?_⟩
  rw [List.length_take] at hk
  obtain ⟨b, off, rfl⟩ := addr_form (by have := h 0 (by omega); rwa [show a.add 0 = a from rfl] at this)
  have h1 := h k (by omega)
  rw [show (⟨b, off, none⟩ : Addr).add k = ⟨b, off + k, none⟩ from Addr.add_mid b off k] at h1
  refine ⟨b, off, rfl, World.block_lt_of_cell? w _ h1, ?_⟩
  rw [h1, List.getElem_take, List.getD_eq_getElem?_getD, List.getElem?_eq_getElem (by omega)]
  rfl
theorem open_intsv {H : Type} {enc : TypeId × Value → H} {W : World} {base : Nat} {v : Value} {d : DataW H} {p : List MemPlace}
    (hv : Value.okWide Tryd.prog W .any base 32 v) (h : DataW.Trod enc Tryd.prog W 0 (fun _ => true) true 32 v d p) :
    ∃ A c l, v = .slice A (l : List Int).length c ∧ Ints W W.heap.size A l ∧ l.length ≤ 9223372036854775807 := by
  obtain ⟨a0, len, cap, rfl⟩ := okWide_slice Tryd.underlying32 hv
  obtain ⟨fuel, hf⟩ := h
  rcases open_ints Tryd.underlying32 Tryd.underlying3 (by kernel_rfl) hf with ⟨hcs, _⟩ | ⟨a, len', cap', zs, hcs, _, hl, hm, hz, _, hcell, _⟩
  · simp only [Value.cells, List.cons.injEq, Value.slice.injEq, and_true] at hcs
    obtain ⟨rfl, rfl, rfl⟩ := hcs
    exact ⟨none, 0, [], rfl, Ints.nil, by simp⟩
  · simp only [Value.cells, List.cons.injEq, Value.slice.injEq, and_true] at hcs
    obtain ⟨rfl, rfl, rfl⟩ := hcs
    simp only [if_true] at hz
    have hlen : (zs.take len).length = len := by rw [List.length_take]; omega
    refine ⟨some a, cap, zs.take len, by rw [hlen], ints_open (fun c hc => hcell c (by omega)) hz hl, by rw [hlen]; unfold maxLen at hm; omega⟩
theorem open_bytsv {H : Type} {enc : TypeId × Value → H} {W : World} {base : Nat} {v : Value} {d : DataW H} {p : List MemPlace}
    (hv : Value.okWide Tryd.prog W .any base 31 v) (h : DataW.Trod enc Tryd.prog W 0 (fun _ => true) true 31 v d p) :
    ∃ A c l, v = .slice A (l : List Int).length c ∧ Byts W W.heap.size A l ∧ l.length ≤ 9223372036854775807 := by
  obtain ⟨a0, len, cap, rfl⟩ := okWide_slice Tryd.underlying31 hv
  obtain ⟨fuel, hf⟩ := h
  rcases open_ints Tryd.underlying31 Tryd.underlying5 (by kernel_rfl) hf with ⟨hcs, _⟩ | ⟨a, len', cap', zs, hcs, _, hl, hm, hz, _, hcell, hwf⟩
  · simp only [Value.cells, List.cons.injEq, Value.slice.injEq, and_true] at hcs
    obtain ⟨rfl, rfl, rfl⟩ := hcs
    exact ⟨none, 0, [], rfl, ⟨fun k hk => absurd hk (by simp)⟩, by simp⟩
  · simp only [Value.cells, List.cons.injEq, Value.slice.injEq, and_true] at hcs
    obtain ⟨rfl, rfl, rfl⟩ := hcs
    simp only [if_true] at hz
    have hlen : (zs.take len).length = len := by rw [List.length_take]; omega
    refine ⟨some a, cap, zs.take len, by rw [hlen], ⟨fun k hk => ?_⟩, by rw [hlen]; unfold maxLen at hm; omega⟩
    rw [hlen] at hk
    obtain ⟨b, off, rfl⟩ := addr_form (by have := hcell 0 (by omega); rwa [show a.add 0 = a from rfl] at this)
    have h1 := hcell k (by omega)
    rw [show (⟨b, off, none⟩ : Addr).add k = ⟨b, off + k, none⟩ from Addr.add_mid b off k] at h1
    have hw := hwf zs[k] (List.getElem_mem (by omega))
    simp only [Lit.wf, Bool.and_eq_true, decide_eq_true_eq] at hw
    refine ⟨b, off, rfl, World.block_lt_of_cell? W _ h1, ?_, ?_, ?_⟩
    · rw [h1, List.getElem_take, List.getD_eq_getElem?_getD, List.getElem?_eq_getElem (by omega)]
      rfl
    · rw [List.getElem_take]; exact hw.1
    · rw [List.getElem_take]; exact hw.2
theorem open_graphv {H : Type} {enc : TypeId × Value → H} {W : World} {base : Nat} {v : Value} {d : DataW H} {p : List MemPlace}
    (hv : Value.okWide Tryd.prog W .any base 35 v) (h : DataW.Trod enc Tryd.prog W 0 (fun _ => true) true 35 v d p) :
    ∃ (n : Int) (A : Option Addr) (c : Nat) (sh : List (List Int)), v = .agg #[.int .i64 n, .slice A sh.length c] ∧ Lists W W.heap.size A sh ∧ sh.length ≤ 9223372036854775807 := by
  obtain ⟨v0, v1, y0, y1, m, rfl, _, _, t0, t1⟩ := open_agg2 Tryd.underlying35 (by kernel_rfl) (by kernel_rfl) hv h
  obtain ⟨n, e0, _, _⟩ := DataW.trod_int Tryd.underlying3 t0
  simp only [List.cons.injEq, and_true] at e0
  subst e0
  rcases open_int_rows Tryd.underlying33 Tryd.underlying32 Tryd.underlying3 (by kernel_rfl) (by kernel_rfl) t1 with ⟨hcs, _⟩ | ⟨a, len, cap, AA, L, C, Z, hcs, _, hl, hm, _, hrow⟩
  · simp only [List.cons.injEq, and_true] at hcs
    subst hcs
    exact ⟨n, none, 0, [], rfl, ⟨fun k hk => absurd hk (by simp)⟩, by simp⟩
  · simp only [List.cons.injEq, and_true] at hcs
    subst hcs
    refine ⟨n, some a, cap, (List.range len).map fun r => (Z r).take (L r), by simp, ⟨fun k hk => ?_⟩, by simp; unfold maxLen at hm; omega⟩
    simp only [List.length_map, List.length_range] at hk
    obtain ⟨h1, h2, h3, h4, _, h6, h7⟩ := hrow k (by omega)
    obtain ⟨h10, _⟩ := hrow 0 (by omega)
    obtain ⟨b, off, rfl⟩ := addr_form (by rwa [show a.add 0 = a from rfl] at h10)
    rw [show (⟨b, off, none⟩ : Addr).add k = ⟨b, off + k, none⟩ from Addr.add_mid b off k] at h1
    have hlen : ((Z k).take (L k)).length = L k := by rw [List.length_take]; omega
    refine ⟨b, off, AA k, C k, rfl, World.block_lt_of_cell? W _ h1, ?_, ?_, ?_⟩
    · rw [h1, List.getElem_map, List.getElem_range, hlen]
    · rw [List.getElem_map, List.getElem_range]
      cases ha : AA k with
      | none =>
        have : L k = 0 := by have := h6 ha; omega
        rw [this]; exact Ints.nil
      | some a' => exact ints_open (h7 a' ha).2 h4 h2
    · rw [List.getElem_map, List.getElem_range, hlen]; unfold maxLen at h3; omega
end Go.Proofs.YtgfmnolghbiedaaDoor
