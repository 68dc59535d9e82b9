/-
  Plain law of layer 30 (no program): graphs of faults, explanations, sets in order.
-/
namespace Go.Proofs.YtgfmnolghbiedaaDoor

/-- what units cause a symptom -/
def cau (sh : List (List Int)) (us : List Int) (s : Int) : Bool := us.any fun u => decide (0 ≤ u) && (decide (u < sh.length) && (sh.getD u.toNat []).contains s)
def expl (sh : List (List Int)) (us seen clear : List Int) : Bool := seen.all (cau sh us) && !clear.any (cau sh us)
def units (n : Nat) : List Int := (List.range n).map Int.ofNat
def cand (sh : List (List Int)) (clear : List Int) : List Int := (units sh.length).filter fun u => expl sh [u] [] clear
/-- all sets of k elements of a list, in order -/
def subs : List Int → Nat → List (List Int)
  | _, 0 => [[]]
  | [], _ + 1 => []
  | x :: xs, k + 1 => (subs xs k).map (x :: ·) ++ subs xs (k + 1)
theorem subs_zero (l : List Int) : subs l 0 = [[]] := by cases l <;> rfl
theorem subs_short : ∀ (l : List Int) (k : Nat), l.length < k → subs l k = [] := by
  intro l
  induction l with
  | nil => intro k hk; cases k with
    | zero => omega
    | succ k => rfl
  | cons x xs ih =>
    intro k hk
    cases k with
    | zero => simp at hk
    | succ k =>
      rw [subs, ih k (by simp at hk; omega), ih (k + 1) (by simp at hk; omega)]; rfl
/-- one round of the loop over the first element -/
theorem subs_round (l : List Int) (k i : Nat) (hi : i < l.length) : subs (l.drop i) (k + 1) = (subs (l.drop (i + 1)) k).map (l[i] :: ·) ++ subs (l.drop (i + 1)) (k + 1) := by
  rw [List.drop_eq_getElem_cons hi, subs]
theorem mem_subs : ∀ (l : List Int) (k : Nat) (s : List Int), s ∈ subs l k → s.Sublist l ∧ s.length = k := by
  intro l
  induction l with
  | nil =>
    intro k s hs
    cases k with
    | zero => simp [subs] at hs; subst hs; simp
    | succ k => simp [subs] at hs
  | cons x xs ih =>
    intro k s hs
    cases k with
    | zero => simp [subs] at hs; subst hs; simp
    | succ k =>
      simp only [subs, List.mem_append, List.mem_map] at hs
      rcases hs with ⟨t, ht, rfl⟩ | hs
      · obtain ⟨h1, h2⟩ := ih k t ht
        exact ⟨h1.cons_cons x, by simp [h2]⟩
      · obtain ⟨h1, h2⟩ := ih (k + 1) s hs
        exact ⟨h1.cons x, h2⟩
theorem sub_mem : ∀ (l s : List Int), s.Sublist l → s ∈ subs l s.length := by
  intro l
  induction l with
  | nil => intro s hs; obtain rfl := List.sublist_nil.1 hs; simp [subs]
  | cons x xs ih =>
    intro s hs
    cases hs with
    | cons _ h =>
      cases s with
      | nil => simp [subs]
      | cons y ys => simp only [List.length_cons, subs, List.mem_append]; exact .inr (ih _ h)
    | cons_cons _ h => simp only [List.length_cons, subs, List.mem_append, List.mem_map]; exact .inl ⟨_, ih _ h, rfl⟩
/-- sets whose elements all satisfy a test are the sets of the elements that do -/
theorem subs_filter (p : Int → Bool) : ∀ (l : List Int) (k : Nat), (subs l k).filter (fun s => s.all p) = subs (l.filter p) k := by
  intro l
  induction l with
  | nil => intro k; cases k <;> rfl
  | cons x xs ih =>
    intro k
    cases k with
    | zero => simp [subs_zero]
    | succ k =>
      rw [subs, List.filter_append, ih (k + 1), List.filter_map]
      by_cases hp : p x = true
      · have e : ((fun s : List Int => s.all p) ∘ (fun s => x :: s)) = fun s => s.all p := by funext s; simp [hp]
        rw [e, ih k, List.filter_cons_of_pos hp, subs]
      · have e : ((fun s : List Int => s.all p) ∘ (fun s => x :: s)) = fun _ => false := by funext s; simp [hp]
        rw [e, List.filter_cons_of_neg hp]; simp
theorem cau_append (sh : List (List Int)) (a b : List Int) (s : Int) : cau sh (a ++ b) s = (cau sh a s || cau sh b s) := by simp [cau]
theorem cau_iff (sh : List (List Int)) (us : List Int) (s : Int) : cau sh us s = true ↔ ∃ u ∈ us, cau sh [u] s = true := by
  simp [cau]
theorem expl_iff (sh : List (List Int)) (us seen clear : List Int) : expl sh us seen clear = true ↔ (∀ s ∈ seen, cau sh us s = true) ∧ ∀ s ∈ clear, cau sh us s = false := by
  simp [expl]
theorem expl_clear (sh : List (List Int)) (us clear : List Int) : (!clear.any (cau sh us)) = us.all fun u => expl sh [u] [] clear := by
  rw [Bool.eq_iff_iff]
  simp only [Bool.not_eq_true', List.any_eq_false, List.all_eq_true, expl_iff, List.not_mem_nil, false_implies, implies_true, true_and, Bool.not_eq_true]
  constructor
  · intro h u hu s hs
    cases hc : cau sh [u] s
    · rfl
    · have := h s hs
      rw [(cau_iff sh us s).2 ⟨u, hu, hc⟩] at this; cases this
  · intro h s hs
    cases hc : cau sh us s
    · rfl
    · obtain ⟨u, hu, hx⟩ := (cau_iff sh us s).1 hc
      rw [h u hu s hs] at hx; cases hx
theorem expl_split (sh : List (List Int)) (us seen clear : List Int) : expl sh us seen clear = (expl sh us seen [] && us.all fun u => expl sh [u] [] clear) := by
  rw [← expl_clear]; simp [expl]
/-- the explanations of one size: by the candidates, and by all units -/
theorem sized (sh : List (List Int)) (seen clear : List Int) (k : Nat) :
    (subs (units sh.length) k).filter (fun s => expl sh s seen clear) = (subs (cand sh clear) k).filter (fun s => expl sh s seen []) := by
  rw [cand, ← subs_filter, List.filter_filter]
  congr 1
  funext s
  exact expl_split sh s seen clear
/-- the first size at which there are explanations -/
def firstOf (f : Nat → List (List Int)) : Nat → List (List Int)
  | 0 => []
  | n + 1 => if firstOf f n = [] then f n else firstOf f n
theorem firstOf_more (f : Nat → List (List Int)) : ∀ (m n : Nat), (∀ k, n ≤ k → f k = []) → firstOf f (n + m) = firstOf f n := by
  intro m
  induction m with
  | zero => intros; rfl
  | succ m ih =>
    intro n h
    rw [← Nat.add_assoc, firstOf, ih n h, h (n + m) (by omega)]
    split
    · rename_i h; exact h.symm
    · rfl
def allOf (sh : List (List Int)) (seen clear : List Int) : List (List Int) := firstOf (fun k => (subs (cand sh clear) k).filter fun s => expl sh s seen []) ((cand sh clear).length + 1)
def leastOf (sh : List (List Int)) (seen clear : List Int) : Option (List Int) := (allOf sh seen clear).head?
theorem cand_len (sh : List (List Int)) (clear : List Int) : (cand sh clear).length ≤ sh.length := by
  have := List.length_filter_le (fun u => expl sh [u] [] clear) (units sh.length)
  simpa [cand, units] using this
/-- the answer of the document is the answer of the candidates -/
theorem allOf_ref (sh : List (List Int)) (seen clear : List Int) :
    firstOf (fun k => (subs (units sh.length) k).filter fun s => expl sh s seen clear) (sh.length + 1) = allOf sh seen clear := by
  have h : (fun k => (subs (units sh.length) k).filter fun s => expl sh s seen clear) = fun k => (subs (cand sh clear) k).filter fun s => expl sh s seen [] := by
    funext k; exact sized sh seen clear k
  have hc := cand_len sh clear
  rw [h, allOf]
  obtain ⟨m, hm⟩ : ∃ m, sh.length + 1 = ((cand sh clear).length + 1) + m := ⟨sh.length - (cand sh clear).length, by omega⟩
  rw [hm]
  exact firstOf_more _ m _ fun k hk => by rw [subs_short _ _ (by omega)]; rfl
end Go.Proofs.YtgfmnolghbiedaaDoor
