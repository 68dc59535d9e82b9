/-
  Walks of layer 29: what the laws' loops keep: a monitor in a box that is stepped.
-/
import Derived.Test.YtlogokjjphlkkaaW14
namespace Go.Proofs.Ytlogokjjphlkkaa
open Go.RowKit Go.Shelf

/-- the monitor m in the box r, its past behind it; nothing of w has turned -/
structure RunAt (w : World) (r : Nat) (m : Mon) (wr : World) : Prop where
  from_ : From w wr
  low : w.heap.size ≤ r
  mon : ∃ A c, MonC wr r m (.slice A m.past.length c) ∧ SlN (r + 1) wr (.slice A m.past.length c) m.past.length (bc m.past)
theorem RunAt.step {w wr w4 : World} {r : Nat} {m n : Mon} {A3 : Option Addr} {c3 : Nat} (h : RunAt w r m wr) (k4 : From wr w4) (hS : SlN wr.heap.size w4 (.slice A3 n.past.length c3) n.past.length (bc n.past)) :
    RunAt w r n (set8 w4 r n (.slice A3 n.past.length c3)) := by
  obtain ⟨A, c, hM, _⟩ := h.mon
  have hlt := hM.lt
  refine ⟨From.set8 (h.from_.trans k4) h.low _ _, h.low, A3, c3, MonC.set8 (hM.from k4), (hS.set8 (by omega) _ _).low (by omega)⟩
theorem RunAt.call {w wr w4 : World} {r : Nat} {m : Mon} (h : RunAt w r m wr) (k4 : From wr w4) : RunAt w r m w4 := by
  obtain ⟨A, c, hM, hS⟩ := h.mon
  exact ⟨h.from_.trans k4, h.low, A, c, hM.from k4, hS.from k4⟩
theorem RunAt.new {w w1 : World} (h : From w w1) (m : Mon) (hp : m.past = []) : RunAt w w1.heap.size m (w1.alloc (.cells (mcs m (.slice none 0 0)) 71)) := by
  refine ⟨h.alloc _, Below.size h, none, 0, ?_, ?_⟩
  · rw [hp]; exact MonC.new w1 m _
  · rw [hp]; exact ⟨.inl ⟨rfl, rfl, rfl⟩⟩
theorem run_fine {m : Mon} (hg : GoodM m) (hp : m.past = []) (xs : List Int) : (runM m xs).past.length ≤ 16 ∧ 1 ≤ (runM m xs).need ∧ Like m (runM m xs) := by
  have hl := like_run m xs
  refine ⟨?_, by rw [hl.2.2.2.1]; exact hg.need.1, hl⟩
  have ho := hg.of
  rw [run_past m hp m.of.toNat (by omega) (by omega) xs, lastN_len]
  omega
end Go.Proofs.Ytlogokjjphlkkaa
