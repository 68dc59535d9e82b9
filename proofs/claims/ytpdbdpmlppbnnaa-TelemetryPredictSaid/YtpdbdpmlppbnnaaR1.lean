/-
  Arguments that are lists of numbers, of truth values, of bytes, opened.
-/
import Derived.Test.YtpdbdpmlppbnnaaR0
import Derived.Test.YtpdbdpmlppbnnaaB1
import Derived.Deep.Matrix
import Derived.Lib.SmallJoins
namespace Go.Proofs.Ytpdbdpmlppbnnaa
open Go.ChangeShapes Go.WideShapes Go.ChangeAt Go.RowKit Go.Deep Go.Joins

theorem addr_form {w : World} {a : Addr} {v : Value} (h : w.cell? a = some v) : ∃ b off, a = ⟨b, off, none⟩ := by
  obtain ⟨b, off, sp⟩ := a
  rcases sp with _ | x
  · exact ⟨b, off, rfl⟩
  · exfalso
    unfold World.cell? at h
    split at h
    · simp at h
    · cases h
theorem sl_open {w : World} {a : Addr} {n c : Nat} {cs : List Value} (h : ∀ j u, cs[j]? = some u → w.cell? (a.add j) = some u) : Sl w w.heap.size (.slice (some a) n c) n cs := by
  refine ⟨.inr ⟨a, c, rfl, fun j u hj => ?_⟩⟩
  obtain ⟨x, hx⟩ : ∃ x, cs[0]? = some x := by
    cases cs with
    | nil => simp at hj
    | cons x t => exact ⟨x, rfl⟩
  have h0 := h 0 x hx
  rw [show a.add 0 = a from rfl] at h0
  obtain ⟨b, off, rfl⟩ := addr_form h0
  have h1 := h j u hj
  rw [Addr.add_mid] at h1
  exact ⟨b, off, rfl, World.block_lt_of_cell? w _ h1, h1⟩
set_option maxRecDepth 100000 in
theorem open_intsr {H : Type} {enc : TypeId × Value → H} {W : World} {base : Nat} {v : Value} {d : DataW H} {p : List MemPlace}
    (hv : Value.okWide Try.prog W .any base 22 v) (h : DataW.Trod enc Try.prog W 0 (fun _ => true) true 22 v d p) :
    ∃ A c l, v = .slice A (l : List Int).length c ∧ Ints W (.slice A l.length c) l ∧ l.length ≤ 9223372036854775807 ∧ ∀ x ∈ l, -9223372036854775808 ≤ x ∧ x ≤ 9223372036854775807 := by
  obtain ⟨a0, len, cap, rfl⟩ := okWide_slice Try.underlying22 hv
  obtain ⟨fuel, hf⟩ := h
  rcases open_ints Try.underlying22 Try.underlying3 (by kernel_rfl) hf with ⟨hcs, _⟩ | ⟨a, len', cap', zs, hcs, _, hl, hm, hz, _, hcell, hwf⟩
  · simp only [Value.cells, List.cons.injEq, Value.slice.injEq, and_true] at hcs
    obtain ⟨rfl, rfl, rfl⟩ := hcs
    exact ⟨none, 0, [], rfl, Sl.nil _ _, by simp, by simp⟩
  · simp only [Value.cells, List.cons.injEq, Value.slice.injEq, and_true] at hcs
    obtain ⟨rfl, rfl, rfl⟩ := hcs
    simp only [if_true] at hz
    have hlen : (zs.take len).length = len := by rw [List.length_take]; omega
    refine ⟨some a, cap, zs.take len, by rw [hlen], ?_, by rw [hlen]; unfold maxLen at hm; omega, fun x hx => ?_⟩
    · refine sl_open fun j u hj => ?_
      have hjl : j < len := by have := (List.getElem?_eq_some_iff.1 hj).1; rw [ic_len, hlen] at this; exact this
      rw [hcell j (by omega), ← hj]
      simp only [ic, List.getElem?_map, List.getElem?_take, if_pos hjl]
      rw [List.getD_eq_getElem?_getD, List.getElem?_eq_getElem (by omega)]
      rfl
    · have hw := hwf x (List.mem_of_mem_take hx)
      simp only [Lit.wf, Bool.and_eq_true, decide_eq_true_eq] at hw
      exact hw
set_option maxRecDepth 100000 in
theorem open_bytsv {H : Type} {enc : TypeId × Value → H} {W : World} {base : Nat} {v : Value} {d : DataW H} {p : List MemPlace}
    (hv : Value.okWide Try.prog W .any base 31 v) (h : DataW.Trod enc Try.prog W 0 (fun _ => true) true 31 v d p) :
    ∃ A c l, v = .slice A (l : List Int).length c ∧ Byts W (.slice A l.length c) l ∧ l.length ≤ 9223372036854775807 ∧ ∀ x ∈ l, 0 ≤ x ∧ x ≤ 255 := by
  obtain ⟨a0, len, cap, rfl⟩ := okWide_slice Try.underlying31 hv
  obtain ⟨fuel, hf⟩ := h
  rcases open_ints Try.underlying31 Try.underlying5 (by kernel_rfl) hf with ⟨hcs, _⟩ | ⟨a, len', cap', zs, hcs, _, hl, hm, hz, _, hcell, hwf⟩
  · simp only [Value.cells, List.cons.injEq, Value.slice.injEq, and_true] at hcs
    obtain ⟨rfl, rfl, rfl⟩ := hcs
    exact ⟨none, 0, [], rfl, Sl.nil _ _, by simp, by simp⟩
  · simp only [Value.cells, List.cons.injEq, Value.slice.injEq, and_true] at hcs
    obtain ⟨rfl, rfl, rfl⟩ := hcs
    simp only [if_true] at hz
    have hlen : (zs.take len).length = len := by rw [List.length_take]; omega
    refine ⟨some a, cap, zs.take len, by rw [hlen], ?_, by rw [hlen]; unfold maxLen at hm; omega, fun x hx => ?_⟩
    · refine sl_open fun j u hj => ?_
      have hjl : j < len := by have := (List.getElem?_eq_some_iff.1 hj).1; rw [yc_len, hlen] at this; exact this
      rw [hcell j (by omega), ← hj]
      simp only [yc, List.getElem?_map, List.getElem?_take, if_pos hjl]
      rw [List.getD_eq_getElem?_getD, List.getElem?_eq_getElem (by omega)]
      rfl
    · have hw := hwf x (List.mem_of_mem_take hx)
      simp only [Lit.wf, Bool.and_eq_true, decide_eq_true_eq] at hw
      exact hw
end Go.Proofs.Ytpdbdpmlppbnnaa
