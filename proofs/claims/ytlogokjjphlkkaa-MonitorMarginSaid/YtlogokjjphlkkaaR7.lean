/-
  More arguments, opened: a list of pairs of numbers.
-/
import Derived.Test.YtlogokjjphlkkaaR6
import Derived.Test.YtlogokjjphlkkaaR4
namespace Go.Proofs.Ytlogokjjphlkkaa
open Go.ChangeShapes Go.WideShapes Go.ChangeAt Go.RowKit Go.Deep Go.Joins

theorem trod_arr2 {H : Type} {enc : TypeId × Value → H} {P : Program} {w : World} {base : Nat} {spare : Nat → Bool} {held : Bool} {t e : TypeId} {fuel : Nat} {c0 c1 : Value} {x : DataW H × List MemPlace} (ht : P.underlying t = some (.array 2 e)) (hce : P.cellsOf e = 1)
    (h : DataW.trod enc P w base spare held fuel t [c0, c1] = some x) : ∃ y0 y1 n, DataW.trod enc P w base spare held n e [c0] = some y0 ∧ DataW.trod enc P w base spare held n e [c1] = some y1 := by
  cases fuel with
  | zero => simp [DataW.trod] at h
  | succ n =>
    unfold DataW.trod at h
    rw [ht] at h
    have r2 : List.range 2 = [0, 1] := rfl
    simp [r2, hce] at h
    obtain ⟨_, h⟩ := h
    cases h0 : DataW.trod enc P w base spare held n e [c0] with
    | none => simp [h0] at h
    | some y0 =>
      cases h1 : DataW.trod enc P w base spare held n e [c1] with
      | none => simp [h0, h1] at h
      | some y1 => exact ⟨y0, y1, n, h0, h1⟩
/-- pairs of numbers in memory -/
structure Prs (w : World) (A : Option Addr) (ps : List (Int × Int)) : Prop where
  out : ∀ i (hi : i < ps.length), ∃ b off, A = some ⟨b, off, none⟩ ∧ b < w.heap.size ∧ w.cell? ⟨b, off + i * 2, none⟩ = some (.int .i64 ps[i].1) ∧ w.cell? ⟨b, off + i * 2 + 1, none⟩ = some (.int .i64 ps[i].2) ∧ Fits ps[i].1 ∧ Fits ps[i].2
theorem Prs.from {w w' : World} {A : Option Addr} {ps : List (Int × Int)} (h : Prs w A ps) (hb : From w w') : Prs w' A ps := ⟨fun i hi => by
  obtain ⟨b, off, e, hlt, h1, h2, h3⟩ := h.out i hi
  exact ⟨b, off, e, Nat.lt_of_lt_of_le hlt (Below.size hb), hb.cell h1, hb.cell h2, h3⟩⟩
theorem choose_pr {n : Nat} {Q : Nat → Int × Int → Prop} (h : ∀ i, i < n → ∃ y, Q i y) : ∃ f : Nat → Int × Int, ∀ i, i < n → Q i (f i) := by
  refine ⟨fun i => if hi : i < n then (h i hi).choose else (0, 0), fun i hi => ?_⟩
  simp only [dif_pos hi]
  exact (h i hi).choose_spec
set_option maxRecDepth 100000 in
theorem open_arr2s {H : Type} {enc : TypeId × Value → H} {W : World} {base : Nat} {v : Value} {d : DataW H} {p : List MemPlace}
    (hv : Value.okWide Try.prog W .any base 93 v) (h : DataW.Trod enc Try.prog W 0 (fun _ => true) true 93 v d p) :
    ∃ A c l, v = .slice A (l : List (Int × Int)).length c ∧ Prs W A l ∧ l.length ≤ 9223372036854775807 := by
  obtain ⟨a0, len, cap, rfl⟩ := okWide_slice Try.underlying93 hv
  have hC : Try.prog.cellsOf 99 = 2 := by kernel_rfl
  have k3 : Try.prog.cellsOf 3 = 1 := by kernel_rfl
  obtain ⟨fuel, hf⟩ := h
  rcases open_slice Try.underlying93 hf with ⟨hcs, _⟩ | ⟨a, len', cap', m, n, D, Pl, hcs, _, hl, hm, hmm, _, hel⟩
  · simp only [Value.cells, List.cons.injEq, Value.slice.injEq, and_true] at hcs
    obtain ⟨rfl, rfl, rfl⟩ := hcs
    exact ⟨none, 0, [], rfl, ⟨fun i hi => absurd hi (by simp)⟩, by simp⟩
  · simp only [Value.cells, List.cons.injEq, Value.slice.injEq, and_true] at hcs
    obtain ⟨rfl, rfl, rfl⟩ := hcs
    have each : ∀ i, i < len → ∃ y : Int × Int, W.cell? (a.add (i * 2)) = some (.int .i64 y.1) ∧ W.cell? (a.add (i * 2 + 1)) = some (.int .i64 y.2) ∧ Fits y.1 ∧ Fits y.2 := by
      intro i hi
      obtain ⟨cells, hcells, htrod⟩ := hel i (by rw [hmm]; split <;> omega)
      obtain ⟨_, hcl, hat⟩ := World.cells?_some hcells
      rw [hC] at hcl hat
      match cells, hcl with
      | [c0, c1], _ =>
        obtain ⟨y0, y1, n', f0, f1⟩ := trod_arr2 Try.underlying99 k3 htrod
        obtain ⟨z0, e0, _, w0⟩ := DataW.trod_int Try.underlying3 f0
        obtain ⟨z1, e1, _, w1⟩ := DataW.trod_int Try.underlying3 f1
        simp only [List.cons.injEq, and_true] at e0 e1
        subst e0 e1
        simp only [Lit.wf, Bool.and_eq_true, decide_eq_true_eq] at w0 w1
        have g0 := hat 0 (by omega)
        have g1 := hat 1 (by omega)
        rw [Go.Deep.add_add] at g0 g1
        exact ⟨(z0, z1), by simpa using g0, by simpa using g1, w0, w1⟩
    obtain ⟨y, hy⟩ := choose_pr each
    refine ⟨some a, cap, (List.range len).map y, by simp, ⟨fun i hi => ?_⟩, by simp; unfold maxLen at hm; omega⟩
    simp only [List.length_map, List.length_range] at hi
    obtain ⟨h1, h2, h3, h4⟩ := hy i hi
    obtain ⟨h10, _⟩ := hy 0 (by omega)
    obtain ⟨b, off, rfl⟩ := addr_form (by rwa [show a.add (0 * 2) = a from rfl] at h10)
    rw [show (⟨b, off, none⟩ : Addr).add (i * 2) = ⟨b, off + i * 2, none⟩ from Addr.add_mid b off _] at h1
    rw [show (⟨b, off, none⟩ : Addr).add (i * 2 + 1) = ⟨b, off + (i * 2 + 1), none⟩ from Addr.add_mid b off _] at h2
    refine ⟨b, off, rfl, World.block_lt_of_cell? W _ h1, ?_, ?_, ?_, ?_⟩
    · rw [h1]; simp
    · rw [Nat.add_assoc, h2]; simp
    · simpa using h3
    · simpa using h4
end Go.Proofs.Ytlogokjjphlkkaa
