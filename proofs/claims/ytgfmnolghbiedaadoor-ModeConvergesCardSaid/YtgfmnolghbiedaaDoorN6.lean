/-
  Plain law of layer 30 (no program): what the laws Truth, Minimal, Candidates and More ask.
-/
import Derived.Test.YtgfmnolghbiedaaDoorN4
import Derived.Test.YtgfmnolghbiedaaDoorK17
namespace Go.Proofs.YtgfmnolghbiedaaDoor

theorem bitsN_sub (x : Int) (n : Nat) : (bitsN x n).Sublist (units n) := List.filter_sublist
theorem mem_bitsN {x s : Int} {n : Nat} : s ∈ bitsN x n ↔ s ∈ units n ∧ x / 2 ^ s.toNat % 2 = 1 := by simp [bitsN]
/-- the symptoms that are clear -/
def clearOf (seen chk : List Int) (n : Nat) : List Int := (units n).filter fun s => !seen.contains s && chk.contains s
theorem clearOf_succ (seen chk : List Int) (k : Nat) : clearOf seen chk (k + 1) = if !seen.contains (k : Int) && chk.contains (k : Int) then clearOf seen chk k ++ [(k : Int)] else clearOf seen chk k := by
  rw [clearOf, units_succ, List.filter_append]
  by_cases h : (!seen.contains (k : Int) && chk.contains (k : Int)) = true
  · rw [if_pos h, List.filter_cons_of_pos (by exact h)]; rfl
  · rw [if_neg h, List.filter_cons_of_neg (by exact h), List.filter_nil, List.append_nil]; rfl
theorem clearOf_le (seen chk : List Int) (k : Nat) : (clearOf seen chk k).length ≤ k := by
  have := List.length_filter_le (fun s => !seen.contains s && chk.contains s) (units k)
  simpa [clearOf, units] using this
theorem shown_expl (sh : List (List Int)) (us chk : List Int) (n : Nat) : expl sh us (shown sh us n) (clearOf (shown sh us n) chk n) = true := by
  refine (expl_iff _ _ _ _).2 ⟨fun s hs => ?_, fun s hs => ?_⟩
  · exact (List.mem_filter.1 hs).2
  · obtain ⟨h1, h2⟩ := List.mem_filter.1 hs
    cases hc : cau sh us s
    · rfl
    · have : s ∈ shown sh us n := List.mem_filter.2 ⟨h1, hc⟩
      rw [Bool.and_eq_true, Bool.not_eq_true'] at h2
      have h3 := h2.1
      rw [← Bool.not_eq_true, List.contains_iff_mem] at h3
      exact absurd this h3
/-- a set that explains: there is a least one, not larger -/
theorem least_le {sh : List (List Int)} {us seen clear : List Int} (hs : us.Sublist (units sh.length)) (he : expl sh us seen clear = true) : ∃ a, leastOf sh seen clear = some a ∧ a.length ≤ us.length := by
  rcases least_cases sh seen clear with ⟨_, _, h⟩ | ⟨a, r, h1, h2, h3, h4⟩
  · rw [h us hs] at he; cases he
  · refine ⟨a, h1, ?_⟩
    by_cases h : us.length < a.length
    · have := (h4 a (by simp)).fewer us hs h
      rw [this] at he; cases he
    · omega
theorem cert_in {sh : List (List Int)} {us seen clear : List Int} (hs : us.Sublist (units sh.length)) (he : expl sh us seen clear = true) : ∀ u ∈ certOf sh seen clear, us.contains u = true := by
  intro u hu
  rw [← certOf_ref] at hu
  obtain ⟨_, h2⟩ := List.mem_filter.1 hu
  rw [Bool.and_eq_true] at h2
  exact List.all_eq_true.1 h2.2 us (mem_expls.2 ⟨hs, he⟩)
theorem none_cert {sh : List (List Int)} {seen clear : List Int} (h : leastOf sh seen clear = none) : certOf sh seen clear = [] := by
  rcases least_cases sh seen clear with ⟨_, _, h1⟩ | ⟨a, r, h1, _⟩
  · cases hc : certOf sh seen clear with
    | nil => rfl
    | cons u r =>
      have hu : u ∈ certOf sh seen clear := by rw [hc]; simp
      rw [← certOf_ref] at hu
      obtain ⟨_, h2⟩ := List.mem_filter.1 hu
      rw [Bool.and_eq_true, Bool.not_eq_true'] at h2
      obtain ⟨s, hs⟩ := List.exists_mem_of_ne_nil (explsOf sh seen clear) (by intro e; rw [e] at h2; simp at h2)
      obtain ⟨k1, k2⟩ := mem_expls.1 hs
      rw [h1 s k1] at k2; cases k2
  · rw [h] at h1; cases h1
theorem cand_sub (sh : List (List Int)) (clear : List Int) : (cand sh clear).Sublist (units sh.length) := List.filter_sublist
/-- there is an explanation if and only if all candidates are one -/
theorem least_is (sh : List (List Int)) (seen clear : List Int) : (leastOf sh seen clear).isSome = expl sh (cand sh clear) seen clear := by
  rcases least_cases sh seen clear with ⟨h0, _, h⟩ | ⟨a, r, h1, h2, h3, h4⟩
  · rw [h0, h _ (cand_sub sh clear)]; rfl
  · have hs := h4 a (by simp)
    obtain ⟨g1, g2⟩ := cand_of_expl (fun u hu => hs.sub.subset hu) hs.ex
    rw [h1, expl_cand sh seen clear (fun u hu => hu) (expl_mono g1 g2)]; rfl
/-- what the law Candidates gathers -/
def wantN (sh : List (List Int)) (seen clear l : List Int) : Nat → List Int
  | 0 => []
  | k + 1 => if expl sh (l.take k ++ l.drop (k + 1)) seen clear then wantN sh seen clear l k else wantN sh seen clear l k ++ [l.getD k 0]
theorem wantN_le (sh : List (List Int)) (seen clear l : List Int) : ∀ k, (wantN sh seen clear l k).length ≤ k := by
  intro k
  induction k with
  | zero => simp [wantN]
  | succ k ih => rw [wantN]; split
                 · omega
                 · simp; omega
theorem expl_same {sh : List (List Int)} {seen clear s : List Int} (h : ∀ u ∈ s, u ∈ cand sh clear) : expl sh s seen clear = expl sh s seen [] := by
  cases h1 : expl sh s seen []
  · cases h2 : expl sh s seen clear
    · rfl
    · have := (cand_of_expl (fun u hu => (mem_cand.1 (h u hu)).1) h2).2
      rw [this] at h1; cases h1
  · exact expl_cand sh seen clear h h1
theorem wantN_eq (sh : List (List Int)) (seen clear : List Int) : ∀ k, wantN sh seen clear (cand sh clear) k = certN sh seen (cand sh clear) k := by
  intro k
  induction k with
  | zero => rfl
  | succ k ih =>
    rw [wantN, certN, ih, expl_same (fun u hu => ?_)]
    rcases List.mem_append.1 hu with h | h
    · exact List.mem_of_mem_take h
    · exact List.mem_of_mem_drop h
theorem want_cert {sh : List (List Int)} {seen clear : List Int} (h : expl sh (cand sh clear) seen clear = true) : wantN sh seen clear (cand sh clear) (cand sh clear).length = certOf sh seen clear := by
  rw [expl_same (fun u hu => hu)] at h
  rw [certOf, if_pos h, wantN_eq]
theorem cert_all (sh : List (List Int)) (seen clear : List Int) : ∀ s ∈ allOf sh seen clear, ∀ u ∈ certOf sh seen clear, s.contains u = true := by
  intro s hs u hu
  rcases least_cases sh seen clear with ⟨_, h, _⟩ | ⟨a, r, _, h2, _, h4⟩
  · rw [h] at hs; simp at hs
  · rw [h2] at hs
    exact cert_in (h4 s hs).sub (h4 s hs).ex u hu
/-- further symptoms -/
theorem more_least {sh : List (List Int)} {s c m o b : List Int} (h : leastOf sh (s ++ m) (c ++ o) = some b) : (∃ a, leastOf sh s c = some a ∧ a.length ≤ b.length) ∧ expl sh b s c = true := by
  have he : expl sh b s c = true ∧ b.Sublist (units sh.length) := by
    rcases least_cases sh (s ++ m) (c ++ o) with ⟨h1, _⟩ | ⟨a, r, h1, h2, h3, h4⟩
    · rw [h] at h1; cases h1
    · rw [h] at h1; cases h1
      have hs := h4 b (by simp)
      obtain ⟨g1, g2⟩ := (expl_iff _ _ _ _).1 hs.ex
      exact ⟨(expl_iff _ _ _ _).2 ⟨fun x hx => g1 x (List.mem_append_left _ hx), fun x hx => g2 x (List.mem_append_left _ hx)⟩, hs.sub⟩
  exact ⟨least_le he.2 he.1, he.1⟩
theorem least_ex {sh : List (List Int)} {s c a : List Int} (h : leastOf sh s c = some a) : expl sh a s c = true ∧ a.length ≤ sh.length := by
  rcases least_cases sh s c with ⟨h1, _⟩ | ⟨a', r, h1, h2, h3, h4⟩
  · rw [h] at h1; cases h1
  · rw [h] at h1; cases h1
    exact ⟨(h4 a (by simp)).ex, h3⟩
theorem both_expl {sh : List (List Int)} {s m c a x : List Int} (h1 : leastOf sh s c = some a) (h2 : leastOf sh m c = some x) : expl sh (a ++ x) (s ++ m) c = true := by
  obtain ⟨g1, g2⟩ := (expl_iff _ _ _ _).1 (least_ex h1).1
  obtain ⟨k1, k2⟩ := (expl_iff _ _ _ _).1 (least_ex h2).1
  refine (expl_iff _ _ _ _).2 ⟨fun y hy => ?_, fun y hy => ?_⟩
  · rw [cau_append]
    rcases List.mem_append.1 hy with h | h
    · rw [g1 y h]; rfl
    · rw [k1 y h]; simp
  · rw [cau_append, g2 y hy, k2 y hy]; rfl
end Go.Proofs.YtgfmnolghbiedaaDoor
