/-
  Walks of layer 30: diagnose.Certain.
-/
import Derived.Test.YtgfmnolghbiedaaDoorK20
import Derived.IntWalk
namespace Go.Proofs.YtgfmnolghbiedaaDoor
open Go.RowKit

theorem src_take {w : World} {B g c : Nat} {l : List Int} {k : Nat} (h : ∀ j (hj : j < l.length), g < B ∧ w.cell? ⟨g, j, none⟩ = some (.int .i64 l[j])) (hk : k ≤ l.length) : Src w B (.slice (some ⟨g, 0, none⟩) k c) (l.take k) := by
  refine ⟨.inr ⟨g, 0, c, by rw [List.length_take, Nat.min_eq_left hk], fun j hj => ?_⟩⟩
  have hj' : j < l.length := by rw [List.length_take] at hj; omega
  rw [Nat.zero_add, List.getElem_take]
  exact h j hj'
theorem src_drop {w : World} {B g c : Nat} {l : List Int} {k : Nat} (h : ∀ j (hj : j < l.length), g < B ∧ w.cell? ⟨g, j, none⟩ = some (.int .i64 l[j])) (hk : k < l.length) (c' : Nat) (hc : l.length ≤ c) :
    Src w B (.slice (if c = k + 1 then some ⟨g, 0, none⟩ else some ⟨g, k + 1, none⟩) (l.length - (k + 1)) c') (l.drop (k + 1)) := by
  by_cases hcc : c = k + 1
  · have : l.drop (k + 1) = [] := List.drop_eq_nil_of_le (by omega)
    rw [if_pos hcc, this]
    exact ⟨.inr ⟨g, 0, c', by rw [show l.length - (k + 1) = 0 by omega]; rfl, fun j hj => by simp at hj⟩⟩
  · rw [if_neg hcc]
    refine ⟨.inr ⟨g, k + 1, c', by rw [List.length_drop], fun j hj => ?_⟩⟩
    have hj' : k + 1 + j < l.length := by rw [List.length_drop] at hj; omega
    rw [List.getElem_drop]
    exact h (k + 1 + j) hj'
theorem own_at {w : World} {base c n : Nat} {l : List Int} {g : Nat} (h : w.ownsRow base 3 1 (.slice (some ⟨g, 0, none⟩) n c) n (ic l)) : (∀ j (hj : j < l.length), g < w.heap.size ∧ w.cell? ⟨g, j, none⟩ = some (.int .i64 l[j])) ∧ n ≤ c := by
  have hn : l.length = n := by have := h.1; rw [ic_len] at this; omega
  rcases h.2 with ⟨h0, _⟩ | ⟨g', cap, cur, hv, hg, hh, hc, _⟩
  · cases h0
  · injection hv with h1 h2 h3
    injection h1 with h1
    injection h1 with h1
    subst h1 h3
    refine ⟨fun j hj => ⟨(Array.getElem?_eq_some_iff.1 hh).1, ?_⟩, hc⟩
    have c1 := h.cells (g := g) rfl j (.int .i64 l[j]) (by simp [ic, hj])
    rw [← c1]
    unfold Addr.add
    split
    · rename_i h0; rw [h0]
    · simp
theorem certOf_eq' (sh : List (List Int)) (seen clear : List Int) : certOf sh seen clear = if expl sh (cand sh clear) seen [] then certN sh seen (cand sh clear) (cand sh clear).length else [] := rfl
end Go.Proofs.YtgfmnolghbiedaaDoor
