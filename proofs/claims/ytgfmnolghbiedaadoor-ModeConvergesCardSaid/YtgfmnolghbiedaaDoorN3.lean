/-
  Plain law of layer 30 (no program): the units that belong to every explanation.
-/
import Derived.Test.YtgfmnolghbiedaaDoorN2
namespace Go.Proofs.YtgfmnolghbiedaaDoor

/-- the answer of the code after k rounds, l the candidates -/
def certN (sh : List (List Int)) (seen l : List Int) : Nat → List Int
  | 0 => []
  | k + 1 => if expl sh (l.take k ++ l.drop (k + 1)) seen [] then certN sh seen l k else certN sh seen l k ++ [l.getD k 0]
def certOf (sh : List (List Int)) (seen clear : List Int) : List Int := if expl sh (cand sh clear) seen [] then certN sh seen (cand sh clear) (cand sh clear).length else []
theorem certN_le (sh : List (List Int)) (seen l : List Int) : ∀ k, (certN sh seen l k).length ≤ k := by
  intro k
  induction k with
  | zero => simp [certN]
  | succ k ih => rw [certN]; split
                 · omega
                 · simp; omega
theorem without_eq : ∀ (l : List Int) (k : Nat) (hk : k < l.length), l.Nodup → l.take k ++ l.drop (k + 1) = l.filter (fun x => x != l[k]) := by
  intro l
  induction l with
  | nil => intro k hk; simp at hk
  | cons x xs ih =>
    intro k hk hn
    obtain ⟨h1, h2⟩ := List.nodup_cons.1 hn
    cases k with
    | zero =>
      simp only [List.take_zero, List.nil_append, List.getElem_cons_zero]
      rw [List.filter_cons_of_neg (by simp)]
      simp only [Nat.zero_add, List.drop_succ_cons, List.drop_zero]
      refine (List.filter_eq_self.2 fun y hy => ?_).symm
      simp only [bne_iff_ne, ne_eq]
      rintro rfl; exact h1 hy
    | succ k =>
      have hk' : k < xs.length := by simpa using hk
      simp only [List.take_succ_cons, List.drop_succ_cons, List.getElem_cons_succ, List.cons_append]
      rw [ih k hk' h2, List.filter_cons_of_pos]
      simp only [bne_iff_ne, ne_eq]
      intro e; exact h1 (e ▸ List.getElem_mem hk')
theorem certN_eq (sh : List (List Int)) (seen l : List Int) (hn : l.Nodup) : ∀ k, k ≤ l.length → certN sh seen l k = (l.take k).filter fun u => !expl sh (l.filter (fun x => x != u)) seen [] := by
  intro k
  induction k with
  | zero => intro _; rfl
  | succ k ih =>
    intro hk
    rw [certN, ih (by omega), List.take_succ_eq_append_getElem (by omega), List.filter_append, without_eq l k (by omega) hn]
    rw [List.getD_eq_getElem?_getD, List.getElem?_eq_getElem (by omega), Option.getD_some]
    cases h : expl sh (l.filter fun x => x != l[k]) seen [] <;> simp [h]
theorem units_nodup (n : Nat) : (units n).Nodup := by
  unfold units
  refine List.Pairwise.map _ ?_ (List.nodup_range (n := n))
  intro a b h e
  exact h (Int.ofNat.inj e)
theorem cand_nodup (sh : List (List Int)) (clear : List Int) : (cand sh clear).Nodup := List.Pairwise.filter _ (units_nodup _)
theorem certOf_eq (sh : List (List Int)) (seen clear : List Int) :
    certOf sh seen clear = if expl sh (cand sh clear) seen [] then (cand sh clear).filter (fun u => !expl sh ((cand sh clear).filter (fun x => x != u)) seen []) else [] := by
  rw [certOf, certN_eq _ _ _ (cand_nodup _ _) _ (Nat.le_refl _), List.take_of_length_le (Nat.le_refl _)]
/-- more units explain more symptoms -/
theorem cau_mono {sh : List (List Int)} {a b : List Int} (h : ∀ u ∈ a, u ∈ b) {s : Int} (hs : cau sh a s = true) : cau sh b s = true := by
  obtain ⟨u, hu, hc⟩ := (cau_iff sh a s).1 hs
  exact (cau_iff sh b s).2 ⟨u, h u hu, hc⟩
theorem expl_mono {sh : List (List Int)} {a b seen : List Int} (h : ∀ u ∈ a, u ∈ b) (hs : expl sh a seen [] = true) : expl sh b seen [] = true := by
  rw [expl_iff] at hs ⊢
  exact ⟨fun s hm => cau_mono h (hs.1 s hm), fun s hm => by cases hm⟩
/-- all explanations, over all sizes -/
def explsOf (sh : List (List Int)) (seen clear : List Int) : List (List Int) := (List.range (sh.length + 1)).flatMap fun k => (subs (units sh.length) k).filter fun s => expl sh s seen clear
theorem mem_expls {sh : List (List Int)} {seen clear s : List Int} : s ∈ explsOf sh seen clear ↔ s.Sublist (units sh.length) ∧ expl sh s seen clear = true := by
  unfold explsOf
  simp only [List.mem_flatMap, List.mem_range, List.mem_filter]
  constructor
  · rintro ⟨k, hk, hs, he⟩
    exact ⟨(mem_subs _ _ _ hs).1, he⟩
  · rintro ⟨hs, he⟩
    refine ⟨s.length, ?_, sub_mem _ _ hs, he⟩
    have := hs.length_le
    simp [units] at this; omega
/-- the answer of the document -/
def refCert (sh : List (List Int)) (seen clear : List Int) : List Int := (units sh.length).filter fun u => !(explsOf sh seen clear).isEmpty && (explsOf sh seen clear).all fun s => s.contains u
theorem mem_cand {sh : List (List Int)} {clear : List Int} {u : Int} : u ∈ cand sh clear ↔ u ∈ units sh.length ∧ expl sh [u] [] clear = true := by simp [cand]
theorem expl_cand (sh : List (List Int)) (seen clear : List Int) {s : List Int} (h : ∀ u ∈ s, u ∈ cand sh clear) (he : expl sh s seen [] = true) : expl sh s seen clear = true := by
  rw [expl_split, he, Bool.true_and, List.all_eq_true]
  intro u hu
  exact (mem_cand.1 (h u hu)).2
theorem cand_of_expl {sh : List (List Int)} {seen clear s : List Int} (hs : ∀ u ∈ s, u ∈ units sh.length) (he : expl sh s seen clear = true) : (∀ u ∈ s, u ∈ cand sh clear) ∧ expl sh s seen [] = true := by
  rw [expl_split, Bool.and_eq_true, List.all_eq_true] at he
  exact ⟨fun u hu => mem_cand.2 ⟨hs u hu, he.2 u hu⟩, he.1⟩
theorem certOf_ref (sh : List (List Int)) (seen clear : List Int) : refCert sh seen clear = certOf sh seen clear := by
  rw [certOf_eq]
  cases hc : expl sh (cand sh clear) seen []
  · have he : explsOf sh seen clear = [] := by
      cases h : explsOf sh seen clear with
      | nil => rfl
      | cons s t =>
        exfalso
        have hm : s ∈ explsOf sh seen clear := by rw [h]; simp
        obtain ⟨h1, h2⟩ := mem_expls.1 hm
        obtain ⟨h3, h4⟩ := cand_of_expl (fun u hu => h1.subset hu) h2
        rw [expl_mono h3 h4] at hc; cases hc
    rw [refCert, he]
    simp
  · rw [if_pos rfl, refCert]
    have hcm : cand sh clear ∈ explsOf sh seen clear := mem_expls.2 ⟨List.filter_sublist, expl_cand _ _ _ (fun _ h => h) hc⟩
    have hne : (explsOf sh seen clear).isEmpty = false := by
      cases h : explsOf sh seen clear with
      | nil => rw [h] at hcm; cases hcm
      | cons _ _ => rfl
    rw [hne]
    simp only [Bool.not_false, Bool.true_and]
    rw [cand, List.filter_filter]
    refine List.filter_congr fun u hu => ?_
    rw [Bool.eq_iff_iff, List.all_eq_true, Bool.and_eq_true, Bool.not_eq_true', ← cand]
    constructor
    · intro h
      have hu' : u ∈ cand sh clear := by simpa using h _ hcm
      refine ⟨?_, (mem_cand.1 hu').2⟩
      cases hx : expl sh ((cand sh clear).filter fun x => x != u) seen []
      · rfl
      · exfalso
        have hm : (cand sh clear).filter (fun x => x != u) ∈ explsOf sh seen clear :=
          mem_expls.2 ⟨List.filter_sublist.trans List.filter_sublist, expl_cand _ _ _ (fun v hv => (List.mem_filter.1 hv).1) hx⟩
        have := h _ hm
        simp at this
    · rintro ⟨h1, h2⟩ s hs
      obtain ⟨h3, h4⟩ := mem_expls.1 hs
      obtain ⟨h5, h6⟩ := cand_of_expl (fun u hu => h3.subset hu) h4
      rw [List.contains_iff_mem]
      refine Classical.byContradiction fun hn => ?_
      have : expl sh ((cand sh clear).filter fun x => x != u) seen [] = true := expl_mono (fun v hv => by
        refine List.mem_filter.2 ⟨h5 v hv, ?_⟩
        simp only [bne_iff_ne, ne_eq]
        rintro rfl; exact hn hv) h6
      rw [this] at h1; cases h1
end Go.Proofs.YtgfmnolghbiedaaDoor
