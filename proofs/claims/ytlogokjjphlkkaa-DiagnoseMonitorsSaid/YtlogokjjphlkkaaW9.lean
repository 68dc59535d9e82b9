/-
  Walks: slices.Compact of numbers.
-/
import Derived.Test.YtlogokjjphlkkaaW8
import Derived.Laws.IdiomCopy
import Derived.Lib.SliceRun
namespace Go.Proofs.Ytlogokjjphlkkaa
open Go.RowKit Go.Shelf

/-- a list without equal neighbours -/
def adjStep (acc : List Int) (x : Int) : List Int := if acc.getLast? = some x then acc else acc ++ [x]
def adj (l : List Int) : List Int := l.foldl adjStep []
theorem adj_snoc (l : List Int) (x : Int) : adj (l ++ [x]) = adjStep (adj l) x := by simp [adj]
theorem adj_last (l : List Int) : (adj l).getLast? = l.getLast? := by
  induction l using snoc_ind with
  | h0 => rfl
  | h1 l x ih =>
    rw [adj_snoc, adjStep]
    split
    · rename_i h; rw [h]; simp
    · simp
theorem adj_succ (l : List Int) (k : Nat) (hk : k < l.length) (h0 : 0 < k) : adj (l.take (k + 1)) = if l[k - 1] = l[k] then adj (l.take k) else adj (l.take k) ++ [l[k]] := by
  rw [List.take_succ_eq_append_getElem hk, adj_snoc, adjStep, adj_last]
  have : (l.take k).getLast? = some l[k - 1] := by
    rw [List.getLast?_eq_getElem?, List.getElem?_take]
    rw [List.length_take, Nat.min_eq_left (by omega), if_pos (by omega), List.getElem?_eq_getElem (by omega)]
  rw [this]
  simp
theorem adj_len (l : List Int) : (adj l).length ≤ l.length := by
  induction l using snoc_ind with
  | h0 => simp [adj]
  | h1 l x ih =>
    rw [adj_snoc, adjStep]
    split <;> simp <;> omega
theorem adj_one (l : List Int) (h : l.length < 2) : adj l = l := by
  match l, h with
  | [], _ => rfl
  | [x], _ => rfl
theorem adj_mem (l : List Int) (x : Int) : x ∈ adj l ↔ x ∈ l := by
  induction l using snoc_ind with
  | h0 => simp [adj]
  | h1 l y ih =>
    rw [adj_snoc, adjStep]
    split
    · rename_i h
      have : y ∈ adj l := List.mem_of_getLast? h
      simp only [List.mem_append, List.mem_singleton, ← ih]
      constructor
      · exact .inl
      · rintro (h | rfl)
        · exact h
        · exact this
    · simp [ih]
theorem adj_strict (l : List Int) (h : l.Pairwise (· ≤ ·)) : (adj l).Pairwise (· < ·) := by
  induction l using snoc_ind with
  | h0 => simp [adj]
  | h1 l y ih =>
    rw [List.pairwise_append] at h
    obtain ⟨h1, _, h2⟩ := h
    rw [adj_snoc, adjStep]
    split
    · exact ih h1
    · rename_i hne
      rw [List.pairwise_append]
      refine ⟨ih h1, by simp, ?_⟩
      intro a ha b hb
      simp at hb
      subst hb
      have hle := h2 a ((adj_mem l a).1 ha) b (by simp)
      by_cases hab : a = b
      · exfalso
        subst hab
        -- a is in adj l and every element of l is at most a: so a is its last element
        apply hne
        have hs := ih h1
        obtain ⟨p, q, e⟩ := List.append_of_mem ha
        rw [e] at hs ⊢
        rcases hq : q.getLast? with _ | z
        · rw [List.getLast?_eq_none_iff] at hq
          subst hq
          simp
        · exfalso
          have hz : z ∈ q := List.mem_of_getLast? hq
          have := (List.pairwise_append.1 hs).2.1
          have h3 := (List.pairwise_cons.1 this).1 z hz
          have h4 := h2 z ((adj_mem l z).1 (by rw [e]; simp [hz])) a (by simp)
          omega
      · omega
/-- two strictly increasing lists with the same elements are equal -/
theorem strict_eq : ∀ {l k : List Int}, l.Pairwise (· < ·) → k.Pairwise (· < ·) → (∀ x, x ∈ l ↔ x ∈ k) → l = k
  | [], [], _, _, _ => rfl
  | [], y :: k, _, _, h => absurd ((h y).2 (by simp)) (by simp)
  | x :: l, [], _, _, h => absurd ((h x).1 (by simp)) (by simp)
  | x :: l, y :: k, hl, hk, h => by
    obtain ⟨h1, h2⟩ := List.pairwise_cons.1 hl
    obtain ⟨h3, h4⟩ := List.pairwise_cons.1 hk
    have hxy : x = y := by
      rcases List.mem_cons.1 ((h x).1 (by simp)) with e | e
      · exact e
      · rcases List.mem_cons.1 ((h y).2 (by simp)) with e' | e'
        · exact e'.symm
        · have := h1 y e'; have := h3 x e; omega
    subst hxy
    rw [strict_eq h2 h4 (fun z => by
      have hz := h z
      simp only [List.mem_cons] at hz
      constructor
      · intro hm
        rcases hz.1 (.inr hm) with e | e
        · subst e; have := h1 z hm; omega
        · exact e
      · intro hm
        rcases hz.2 (.inr hm) with e | e
        · subst e; have := h3 z hm; omega
        · exact e)]
end Go.Proofs.Ytlogokjjphlkkaa
