/-
  Plain law of layer 30 (no program): the first explanation in order is the least one.
-/
import Derived.Test.YtgfmnolghbiedaaDoorN1
namespace Go.Proofs.YtgfmnolghbiedaaDoor

theorem firstOf_nil (f : Nat → List (List Int)) : ∀ n, (∀ j, j < n → f j = []) → firstOf f n = [] := by
  intro n
  induction n with
  | zero => intros; rfl
  | succ n ih =>
    intro h
    rw [firstOf, ih (fun j hj => h j (by omega)), if_pos rfl, h n (by omega)]
theorem firstOf_eq (f : Nat → List (List Int)) (k : Nat) (h : ∀ j, j < k → f j = []) (hk : f k ≠ []) : ∀ n, k < n → firstOf f n = f k := by
  intro n
  induction n with
  | zero => intro h; omega
  | succ n ih =>
    intro hn
    rw [firstOf]
    by_cases he : k < n
    · rw [ih he, if_neg hk]
    · obtain rfl : k = n := by omega
      rw [firstOf_nil f k h, if_pos rfl]
/-- no explanation among the sets of one size -/
def noneAt (sh : List (List Int)) (seen l : List Int) (k : Nat) : Prop := ∀ s ∈ subs l k, expl sh s seen [] = false
theorem filter_none {sh : List (List Int)} {seen l : List Int} {k : Nat} (h : noneAt sh seen l k) : (subs l k).filter (fun s => expl sh s seen []) = [] := by
  rw [List.filter_eq_nil_iff]; intro s hs; simp [h s hs]
theorem least_found {sh : List (List Int)} {seen clear : List Int} {k : Nat} {pre : List (List Int)} {s : List Int} (hk : k ≤ (cand sh clear).length) (h : ∀ j, j < k → noneAt sh seen (cand sh clear) j)
    (hp : pre ++ [s] <+: subs (cand sh clear) k) (hn : ∀ t ∈ pre, expl sh t seen [] = false) (hs : expl sh s seen [] = true) : leastOf sh seen clear = some s := by
  obtain ⟨q, hq⟩ := hp
  have hf : (subs (cand sh clear) k).filter (fun s => expl sh s seen []) = s :: q.filter (fun s => expl sh s seen []) := by
    rw [← hq, List.filter_append, List.filter_append, List.filter_eq_nil_iff.2 (by intro t ht; simp [hn t ht])]
    simp [hs]
  rw [leastOf, allOf, firstOf_eq _ k (fun j hj => filter_none (h j hj)) (by rw [hf]; simp) _ (by omega), hf]
  rfl
theorem least_none {sh : List (List Int)} {seen clear : List Int} (h : ∀ j, j < (cand sh clear).length + 1 → noneAt sh seen (cand sh clear) j) : leastOf sh seen clear = none := by
  rw [leastOf, allOf, firstOf_nil _ _ (fun j hj => filter_none (h j hj))]; rfl
end Go.Proofs.YtgfmnolghbiedaaDoor
