/-
  Plain law of layer 30 (no program): what holds of all smallest explanations.
-/
import Derived.Test.YtgfmnolghbiedaaDoorN3
namespace Go.Proofs.YtgfmnolghbiedaaDoor

theorem firstOf_cases (f : Nat → List (List Int)) : ∀ n, (firstOf f n = [] ∧ ∀ j, j < n → f j = []) ∨ ∃ k, k < n ∧ (∀ j, j < k → f j = []) ∧ firstOf f n = f k ∧ f k ≠ [] := by
  intro n
  induction n with
  | zero => exact .inl ⟨rfl, fun j hj => absurd hj (by omega)⟩
  | succ n ih =>
    rcases ih with ⟨h1, h2⟩ | ⟨k, h1, h2, h3, h4⟩
    · rw [firstOf, if_pos h1]
      by_cases h : f n = []
      · refine .inl ⟨h, fun j hj => ?_⟩
        by_cases e : j = n
        · rw [e]; exact h
        · exact h2 j (by omega)
      · exact .inr ⟨n, by omega, h2, rfl, h⟩
    · refine .inr ⟨k, by omega, h2, ?_, h4⟩
      rw [firstOf, h3, if_neg h4]
theorem noneAt_of {sh : List (List Int)} {seen l : List Int} {k : Nat} (h : (subs l k).filter (fun s => expl sh s seen []) = []) : noneAt sh seen l k := by
  intro s hs
  have := List.filter_eq_nil_iff.1 h s hs
  simpa using this
/-- no explanation by fewer units -/
theorem allOf_cases (sh : List (List Int)) (seen clear : List Int) :
    (allOf sh seen clear = [] ∧ ∀ j, j < (cand sh clear).length + 1 → noneAt sh seen (cand sh clear) j) ∨
    ∃ k, k < (cand sh clear).length + 1 ∧ (∀ j, j < k → noneAt sh seen (cand sh clear) j) ∧ allOf sh seen clear = (subs (cand sh clear) k).filter (fun s => expl sh s seen []) ∧ allOf sh seen clear ≠ [] := by
  rcases firstOf_cases (fun k => (subs (cand sh clear) k).filter fun s => expl sh s seen []) ((cand sh clear).length + 1) with ⟨h1, h2⟩ | ⟨k, h1, h2, h3, h4⟩
  · exact .inl ⟨h1, fun j hj => noneAt_of (h2 j hj)⟩
  · exact .inr ⟨k, h1, fun j hj => noneAt_of (h2 j hj), h3, by unfold allOf; rw [h3]; exact h4⟩
/-- an explanation is one of the sets of candidates -/
theorem expl_sub {sh : List (List Int)} {seen clear t : List Int} (ht : t.Sublist (units sh.length)) (he : expl sh t seen clear = true) : t ∈ subs (cand sh clear) t.length ∧ expl sh t seen [] = true := by
  obtain ⟨h1, h2⟩ := cand_of_expl (fun u hu => ht.subset hu) he
  refine ⟨sub_mem _ _ ?_, h2⟩
  have := ht.filter (fun u => expl sh [u] [] clear)
  rwa [List.filter_eq_self.2 (fun u hu => (mem_cand.1 (h1 u hu)).2)] at this
theorem sub_len {l t : List Int} (h : t.Sublist l) : t.length ≤ l.length := h.length_le
/-- nothing explains if there is no smallest explanation -/
theorem none_expl {sh : List (List Int)} {seen clear t : List Int} (h : allOf sh seen clear = []) (ht : t.Sublist (units sh.length)) : expl sh t seen clear = false := by
  cases he : expl sh t seen clear
  · rfl
  · exfalso
    obtain ⟨h1, h2⟩ := expl_sub ht he
    rcases allOf_cases sh seen clear with ⟨_, h3⟩ | ⟨k, _, _, _, h4⟩
    · have := h3 t.length (by have := (mem_subs _ _ _ h1).1.length_le; omega) t h1
      rw [this] at h2; cases h2
    · exact h4 h
/-- what is known of each smallest explanation -/
structure Smallest (sh : List (List Int)) (seen clear : List Int) (k : Nat) (s : List Int) : Prop where
  len : s.length = k
  sub : s.Sublist (units sh.length)
  ex : expl sh s seen clear = true
  fewer : ∀ t : List Int, t.Sublist (units sh.length) → t.length < k → expl sh t seen clear = false
theorem smallest_of {sh : List (List Int)} {seen clear : List Int} (h : allOf sh seen clear ≠ []) : ∃ k, k ≤ sh.length ∧ ∀ s ∈ allOf sh seen clear, Smallest sh seen clear k s := by
  rcases allOf_cases sh seen clear with ⟨h1, _⟩ | ⟨k, h1, h2, h3, h4⟩
  · exact absurd h1 h
  · refine ⟨k, by have := cand_len sh clear; omega, fun s hs => ?_⟩
    rw [h3] at hs
    obtain ⟨hs1, hs2⟩ := List.mem_filter.1 hs
    obtain ⟨hs3, hs4⟩ := mem_subs _ _ _ hs1
    refine ⟨hs4, hs3.trans List.filter_sublist, expl_cand _ _ _ (fun u hu => hs3.subset hu) hs2, fun t ht htl => ?_⟩
    cases he : expl sh t seen clear
    · rfl
    · obtain ⟨g1, g2⟩ := expl_sub ht he
      rw [h2 t.length htl t g1] at g2; cases g2
theorem units_lt (n : Nat) : (units n).Pairwise (· < ·) := by
  unfold units
  refine List.Pairwise.map _ ?_ (List.pairwise_lt_range (n := n))
  intro a b h
  exact Int.ofNat_lt.2 h
theorem Smallest.pair {sh : List (List Int)} {seen clear : List Int} {k : Nat} {s : List Int} (h : Smallest sh seen clear k s) : s.Pairwise (· < ·) := List.Pairwise.sublist h.sub (units_lt _)
theorem Smallest.without {sh : List (List Int)} {seen clear : List Int} {k : Nat} {s : List Int} (h : Smallest sh seen clear k s) {i : Nat} (hi : i < s.length) : expl sh (s.take i ++ s.drop (i + 1)) seen clear = false := by
  refine h.fewer _ (List.Sublist.trans ?_ h.sub) ?_
  · have : s = s.take i ++ s.drop i := (List.take_append_drop i s).symm
    conv => rhs; rw [this]
    refine List.Sublist.append (List.Sublist.refl _) ?_
    rw [show i + 1 = i + 1 from rfl, ← List.drop_drop]
    exact List.drop_sublist _ _
  · have := h.len
    rw [List.length_append, List.length_take, List.length_drop]
    omega
theorem least_cases (sh : List (List Int)) (seen clear : List Int) :
    (leastOf sh seen clear = none ∧ allOf sh seen clear = [] ∧ ∀ t : List Int, t.Sublist (units sh.length) → expl sh t seen clear = false) ∨
    ∃ (a : List Int) (r : List (List Int)), leastOf sh seen clear = some a ∧ allOf sh seen clear = a :: r ∧ a.length ≤ sh.length ∧ ∀ s ∈ a :: r, Smallest sh seen clear a.length s := by
  cases h : allOf sh seen clear with
  | nil => exact .inl ⟨by rw [leastOf, h]; rfl, rfl, fun t ht => none_expl h ht⟩
  | cons a r =>
    obtain ⟨k, hk, hs⟩ := smallest_of (sh := sh) (seen := seen) (clear := clear) (by rw [h]; simp)
    rw [h] at hs
    obtain rfl := (hs a (by simp)).len
    exact .inr ⟨a, r, by rw [leastOf, h]; rfl, rfl, hk, hs⟩
end Go.Proofs.YtgfmnolghbiedaaDoor
