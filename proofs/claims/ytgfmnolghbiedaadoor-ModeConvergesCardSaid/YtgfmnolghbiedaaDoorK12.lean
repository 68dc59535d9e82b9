/-
  Walks of layer 30: lists of lists of the call's own.
-/
import Derived.Test.YtgfmnolghbiedaaDoorK11
namespace Go.Proofs.YtgfmnolghbiedaaDoor
open Go.RowKit

theorem lists_of_own {Y : World} {base c : Nat} {A : Option Addr} {ys : List Slc} (h : Y.ownsRow base 32 1 (.slice A ys.length c) ys.length (ys.map Slc.v)) (ho : ∀ y ∈ ys, Y.ownsRow base 3 1 y.v y.s.length (ic y.s)) :
    Lists Y Y.heap.size A (ys.map (·.s)) := by
  refine ⟨fun k hk => ?_⟩
  have hk' : k < ys.length := by simpa using hk
  obtain ⟨g, cap, hv, _, hlt⟩ := h.form (by omega)
  have hA : A = some ⟨g, 0, none⟩ := by injection hv
  subst hA
  have c1 := h.cells (g := g) rfl k ys[k].v (by simp [hk'])
  have hy := ho ys[k] (List.getElem_mem hk')
  refine ⟨g, 0, ys[k].A, ys[k].c, rfl, hlt, ?_, ?_, ?_⟩
  · rw [List.getElem_map]
    rw [show (Value.slice ys[k].A ys[k].s.length ys[k].c) = ys[k].v from rfl, ← c1]
    unfold Addr.add
    split
    · rename_i h0; rw [h0]
    · rfl
  · rw [List.getElem_map]
    exact ints_of_own (show Y.ownsRow base 3 1 (.slice ys[k].A ys[k].s.length ys[k].c) ys[k].s.length (ic ys[k].s) from hy)
  · rw [List.getElem_map]
    exact own_len hy
end Go.Proofs.YtgfmnolghbiedaaDoor
