/-
  Plain law: the raised events in order, found in two ways.
-/
import Derived.Test.YtlogokjjphlkkaaW25
namespace Go.Proofs.Ytlogokjjphlkkaa
open Go.RowKit Go.Shelf

def insI (x : Int) : List Int → List Int
  | [] => [x]
  | a :: t => if a < x then a :: insI x t else x :: a :: t
theorem insI_at (x : Int) : ∀ (l : List Int) (k : Nat), k ≤ l.length → (∀ i (hi : i < l.length), i < k → l[i] < x) → (∀ hk : k < l.length, ¬ l[k] < x) → insI x l = l.take k ++ x :: l.drop k
  | [], k, hk, _, _ => by
    obtain rfl : k = 0 := by simpa using hk
    rfl
  | a :: t, 0, _, _, h2 => by
    have := h2 (by simp)
    simp only [List.getElem_cons_zero] at this
    simp [insI, this]
  | a :: t, k + 1, hk, h1, h2 => by
    have h0 := h1 0 (by simp) (by omega)
    simp only [List.getElem_cons_zero] at h0
    have ih := insI_at x t k (by simpa using hk) (fun i hi hik => by have := h1 (i + 1) (by simpa using hi) (by omega); simpa using this) (fun hkl => by have := h2 (by simpa using hkl); simpa using this)
    simp [insI, h0, ih]
theorem mem_insI (x z : Int) : ∀ l, z ∈ insI x l ↔ z = x ∨ z ∈ l
  | [] => by simp [insI]
  | a :: t => by
    simp only [insI]
    split
    · rw [List.mem_cons, mem_insI x z t, List.mem_cons]
      constructor
      · rintro (h | h | h)
        · exact .inr (.inl h)
        · exact .inl h
        · exact .inr (.inr h)
      · rintro (h | h | h)
        · exact .inr (.inl h)
        · exact .inl h
        · exact .inr (.inr h)
    · simp [List.mem_cons]
theorem len_insI (x : Int) : ∀ l, (insI x l).length = l.length + 1
  | [] => rfl
  | a :: t => by
    simp only [insI]
    split
    · simp [len_insI x t]
    · simp
theorem strict_insI (x : Int) : ∀ l : List Int, l.Pairwise (· < ·) → x ∉ l → (insI x l).Pairwise (· < ·)
  | [], _, _ => by simp [insI]
  | a :: t, h, hx => by
    obtain ⟨h1, h2⟩ := List.pairwise_cons.1 h
    simp only [List.mem_cons, not_or] at hx
    simp only [insI]
    split
    · rename_i hlt
      refine List.pairwise_cons.2 ⟨fun z hz => ?_, strict_insI x t h2 hx.2⟩
      rcases (mem_insI x z t).1 hz with rfl | e
      · exact hlt
      · exact h1 z e
    · rename_i hge
      refine List.pairwise_cons.2 ⟨fun z hz => ?_, h⟩
      rcases List.mem_cons.1 hz with rfl | e
      · have := hx.1; omega
      · have := h1 z e; have := hx.1; omega
def sortedI (l : List Int) : List Int := l.foldl (fun acc x => insI x acc) []
theorem sortedI_snoc (l : List Int) (x : Int) : sortedI (l ++ [x]) = insI x (sortedI l) := by simp [sortedI]
theorem sortedI_len (l : List Int) : (sortedI l).length = l.length := by
  induction l using snoc_ind with
  | h0 => rfl
  | h1 l x ih => rw [sortedI_snoc, len_insI, ih]; simp
theorem mem_sortedI (z : Int) (l : List Int) : z ∈ sortedI l ↔ z ∈ l := by
  induction l using snoc_ind with
  | h0 => simp [sortedI]
  | h1 l x ih => rw [sortedI_snoc, mem_insI, ih, List.mem_append, List.mem_singleton]; exact or_comm
theorem strict_sortedI (l : List Int) (h : l.Nodup) : (sortedI l).Pairwise (· < ·) := by
  induction l using snoc_ind with
  | h0 => simp [sortedI]
  | h1 l x ih =>
    rw [List.nodup_append] at h
    obtain ⟨h1, _, h3⟩ := h
    rw [sortedI_snoc]
    refine strict_insI x _ (ih h1) fun hx => ?_
    exact h3 x ((mem_sortedI x l).1 hx) x (by simp) rfl
def ddE (ms : List Mon) : List Int := ms.foldl (fun acc m => if m.raised && !acc.contains m.ev then acc ++ [m.ev] else acc) []
theorem ddE_snoc (l : List Mon) (m : Mon) : ddE (l ++ [m]) = if m.raised && !(ddE l).contains m.ev then ddE l ++ [m.ev] else ddE l := by simp [ddE]
theorem ddE_succ (l : List Mon) (k : Nat) (hk : k < l.length) : ddE (l.take (k + 1)) = if l[k].raised && !(ddE (l.take k)).contains l[k].ev then ddE (l.take k) ++ [l[k].ev] else ddE (l.take k) := by
  rw [List.take_succ_eq_append_getElem hk, ddE_snoc]
theorem ddE_len (l : List Mon) : (ddE l).length ≤ l.length := by
  induction l using snoc_ind with
  | h0 => simp [ddE]
  | h1 l m ih =>
    rw [ddE_snoc, List.length_append]
    split
    · simp; exact ih
    · simp; omega
theorem evsM_snoc (l : List Mon) (m : Mon) : evsM (l ++ [m]) = if m.raised then evsM l ++ [m.ev] else evsM l := by
  unfold evsM
  rw [List.filter_append]
  cases h : m.raised <;> simp [h]
theorem mem_ddE (z : Int) (l : List Mon) : z ∈ ddE l ↔ z ∈ evsM l := by
  induction l using snoc_ind with
  | h0 => simp [ddE, evsM]
  | h1 l m ih =>
    rw [ddE_snoc, evsM_snoc]
    cases hr : m.raised
    · simpa using ih
    · simp only [Bool.true_and, if_true]
      by_cases hc : (ddE l).contains m.ev = true
      · rw [if_neg (by rw [hc]; simp), ih, List.mem_append, List.mem_singleton]
        refine ⟨.inl, ?_⟩
        rintro (h | rfl)
        · exact h
        · exact ih.1 (by simpa using hc) |> fun h => h
      · have hc' : (ddE l).contains m.ev = false := by simpa using hc
        rw [if_pos (by rw [hc']; rfl), List.mem_append, List.mem_append, ih]
theorem nodup_ddE (l : List Mon) : (ddE l).Nodup := by
  induction l using snoc_ind with
  | h0 => simp [ddE]
  | h1 l m ih =>
    rw [ddE_snoc]
    split
    · rename_i h
      simp only [Bool.and_eq_true, Bool.not_eq_true', List.contains_eq_mem, decide_eq_false_iff_not] at h
      rw [List.nodup_append]
      refine ⟨ih, by simp, fun a ha b hb => ?_⟩
      simp only [List.mem_singleton] at hb
      subst hb
      rintro rfl
      exact h.2 ha
    · exact ih
theorem raised_two (ms : List Mon) : raisedM ms = sortedI (ddE ms) := by
  obtain ⟨⟨h1, _, h3⟩, h4⟩ := Sort.insertionSort_holds (lt := Sort.ltInt) Sort.swo_ltInt (evsM ms).toArray 0 (evsM ms).toArray.size (Nat.zero_le _) (Nat.le_refl _)
  obtain ⟨d, hd⟩ : ∃ d, Sort.insertionSort Sort.ltInt (evsM ms).toArray 0 (evsM ms).toArray.size = d := ⟨_, rfl⟩
  rw [hd] at h1 h3 h4
  have hp : d.toList.Perm (evsM ms) := by
    have e1 : d.extract 0 (evsM ms).toArray.size = d := by rw [← h1]; simp
    rw [e1] at h3
    simpa using h3
  have hs : d.toList.Pairwise (· ≤ ·) := by
    rw [List.pairwise_iff_getElem]
    intro i j hi hj hij
    simp only [Array.length_toList] at hi hj
    have := h4 i j (Nat.zero_le _) hij (by rw [← h1]; exact hj)
    rw [getElem!_pos d j hj, getElem!_pos d i hi] at this
    simp only [Sort.ltInt, decide_eq_false_iff_not] at this
    simp only [Array.getElem_toList]
    omega
  unfold raisedM
  rw [hd]
  refine strict_eq (adj_strict _ hs) (strict_sortedI _ (nodup_ddE ms)) fun x => ?_
  rw [adj_mem, mem_sortedI, mem_ddE]
  exact hp.mem_iff
end Go.Proofs.Ytlogokjjphlkkaa
