/-
  Arguments of layer 10's laws, opened: cases.
-/
import Derived.Test.YtamfifndddldcaaR3
namespace Go.Proofs.Ytamfifndddldcaa
open Go.ChangeShapes Go.WideShapes Go.ChangeAt Go.RowKit Go.Deep Go.Joins

set_option maxRecDepth 100000 in
theorem open_case {H : Type} {enc : TypeId × Value → H} {W : World} {base : Nat} {v : Value} {d : DataW H} {p : List MemPlace}
    (hv : Value.okWide Try.prog W .any base 50 v) (h : DataW.Trod enc Try.prog W 0 (fun _ => true) true 50 v d p) :
    ∃ (x : Cs) (A : Option Addr) (c : Nat) (l : List Int), v = .agg (ccs x (.slice A l.length c)) ∧ Halfs W (.slice A l.length c) l ∧ l.length ≤ 9223372036854775807 ∧ (∀ n ∈ l, 0 ≤ n ∧ n ≤ 65535) ∧ (0 ≤ x.cr ∧ x.cr ≤ 255) ∧ (0 ≤ x.fr ∧ x.fr ≤ 65535) ∧ (0 ≤ x.un ∧ x.un ≤ 65535) ∧ (0 ≤ x.es ∧ x.es ≤ 65535) ∧ (0 ≤ x.su ∧ x.su ≤ 65535) := by
  obtain ⟨cs, rfl, hsz⟩ := okWide_struct Try.underlying50 hv
  have hC : Try.prog.cellsOf 50 = 9 := by kernel_rfl
  have kb : Try.prog.cellsOf 23 = 3 := by kernel_rfl
  have kt : Try.prog.cellsOf 44 = 1 := by kernel_rfl
  have k8 : Try.prog.cellsOf 5 = 1 := by kernel_rfl
  have k16 : Try.prog.cellsOf 38 = 1 := by kernel_rfl
  rw [hC] at hsz
  obtain ⟨fuel, hf⟩ := h
  obtain ⟨ys, n, _, _, hlen, hyl, hfld⟩ := DataW.trod_struct Try.underlying50 hf
  match cs, hsz with
  | ⟨[c0, c1, c2, c3, c4, c5, c6, c7, c8]⟩, _ =>
    have f0 : DataW.trod enc Try.prog W 0 (fun _ => true) true n 23 [c0, c1, c2] = some (ys[0]'(by rw [hyl]; decide)) := by
      have := hfld 0 _ rfl
      simpa [Value.cells, kb, hyl] using this
    have f1 : DataW.trod enc Try.prog W 0 (fun _ => true) true n 44 [c3] = some (ys[1]'(by rw [hyl]; decide)) := by
      have := hfld 1 _ rfl
      simpa [Value.cells, kt, hyl] using this
    have f2 : DataW.trod enc Try.prog W 0 (fun _ => true) true n 5 [c4] = some (ys[2]'(by rw [hyl]; decide)) := by
      have := hfld 2 _ rfl
      simpa [Value.cells, k8, hyl] using this
    have f3 : DataW.trod enc Try.prog W 0 (fun _ => true) true n 38 [c5] = some (ys[3]'(by rw [hyl]; decide)) := by
      have := hfld 3 _ rfl
      simpa [Value.cells, k16, hyl] using this
    have f4 : DataW.trod enc Try.prog W 0 (fun _ => true) true n 38 [c6] = some (ys[4]'(by rw [hyl]; decide)) := by
      have := hfld 4 _ rfl
      simpa [Value.cells, k16, hyl] using this
    have f5 : DataW.trod enc Try.prog W 0 (fun _ => true) true n 38 [c7] = some (ys[5]'(by rw [hyl]; decide)) := by
      have := hfld 5 _ rfl
      simpa [Value.cells, k16, hyl] using this
    have f6 : DataW.trod enc Try.prog W 0 (fun _ => true) true n 38 [c8] = some (ys[6]'(by rw [hyl]; decide)) := by
      have := hfld 6 _ rfl
      simpa [Value.cells, k16, hyl] using this
    obtain ⟨z0, z1, z2, e0, _, _, _⟩ := trod_bat f0
    obtain ⟨z4, e4, _, w4⟩ := DataW.trod_int Try.underlying5 f2
    obtain ⟨z5, e5, _, w5⟩ := DataW.trod_int Try.underlying38 f3
    obtain ⟨z6, e6, _, w6⟩ := DataW.trod_int Try.underlying38 f4
    obtain ⟨z7, e7, _, w7⟩ := DataW.trod_int Try.underlying38 f5
    obtain ⟨z8, e8, _, w8⟩ := DataW.trod_int Try.underlying38 f6
    simp only [List.cons.injEq, and_true] at e0 e4 e5 e6 e7 e8
    simp only [Lit.wf, Bool.and_eq_true, decide_eq_true_eq] at w4 w5 w6 w7 w8
    obtain ⟨rfl, rfl, rfl⟩ := e0
    subst e4 e5 e6 e7 e8
    rcases open_ints Try.underlying44 Try.underlying38 k16 f1 with ⟨hcs, _⟩ | ⟨a, len, cap, zs, hcs, _, hl, hm, hz, _, hcell, hwf⟩
    · simp only [List.cons.injEq, and_true] at hcs
      subst hcs
      exact ⟨⟨z0, z1, z2, z4, z5, z6, z7, z8⟩, none, 0, [], rfl, Sl.nil _ _, by simp, by simp, w4, w5, w6, w7, w8⟩
    · simp only [List.cons.injEq, and_true] at hcs
      subst hcs
      simp only [if_true] at hz
      have hlen : (zs.take len).length = len := by rw [List.length_take]; omega
      refine ⟨⟨z0, z1, z2, z4, z5, z6, z7, z8⟩, some a, cap, zs.take len, by rw [hlen], ?_, by rw [hlen]; unfold maxLen at hm; omega, fun x hx => ?_, w4, w5, w6, w7, w8⟩
      · refine sl_open fun j u hj => ?_
        have hjl : j < len := by have := (List.getElem?_eq_some_iff.1 hj).1; rw [hc_len, hlen] at this; exact this
        rw [hcell j (by omega), ← hj]
        simp only [hc, List.getElem?_map, List.getElem?_take, if_pos hjl]
        rw [List.getD_eq_getElem?_getD, List.getElem?_eq_getElem (by omega)]
        rfl
      · have hw := hwf x (List.mem_of_mem_take hx)
        simp only [Lit.wf, Bool.and_eq_true, decide_eq_true_eq] at hw
        exact hw
end Go.Proofs.Ytamfifndddldcaa
