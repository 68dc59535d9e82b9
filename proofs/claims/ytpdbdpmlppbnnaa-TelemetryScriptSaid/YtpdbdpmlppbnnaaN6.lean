/-
  Plain law of layer 28: the reference reads an entry against what is predicted, the program against what it has so far: the same.
-/
import Derived.Test.YtpdbdpmlppbnnaaU23
namespace Go.Proofs.Ytpdbdpmlppbnnaa

/-- what is not known is as predicted -/
def AsPred (n : Nat) (pl : List Int) (kl : List Bool) (vals : List Int) : Prop := vals.length = n ∧ kl.length = n ∧ pl.length = n ∧ ∀ j, j < n → kl.getD j false = false → vals.getD j 0 = pl.getD j 0
theorem asPred_start (pl : List Int) (n : Nat) (h : pl.length = n) : AsPred n pl (List.replicate n false) pl := ⟨h, by simp, h, fun _ _ _ => rfl⟩
/-- where the entry is good: what holds of it -/
theorem entryS_good {vals : List Int} {known : List Bool} {s : St} {r : List Int} (h : (entryS vals known s).1 = .good r) (hn : 0 < vals.length) :
    (entryS vals known s).2.1 < vals.length ∧ known.getD (entryS vals known s).2.1 false = false ∧ (entryS vals known s).2.2 = vals.getD (entryS vals known s).2.1 0 + zag (rdS (rdS s).2).1 ∧ fitsV ((entryS vals known s).2.2) := by
  unfold entryS at h ⊢
  simp only at h ⊢
  obtain ⟨a1, a2⟩ := if_good rfl h
  obtain ⟨a3, a4⟩ := if_good rfl a2
  obtain ⟨l2, a5⟩ := rdS_good a4
  obtain ⟨a6, a7⟩ := if_good rfl a5
  have hp : (rdS s).1 < vals.length := by
    rcases Nat.lt_or_ge (rdS s).1 vals.length with h | h
    · exact h
    · exact absurd (.inl h) a6
  have hk : known.getD (rdS s).1 false = false := by
    cases hh : known.getD (rdS s).1 false
    · rfl
    · exact absurd (.inr hh) a6
  rw [if_neg a6] at a1 ⊢
  have e : min (rdS s).1 (vals.length - 1) = (rdS s).1 := by omega
  rw [e] at a1
  exact ⟨hp, hk, rfl, Classical.byContradiction fun h => a1 (.inr h)⟩
theorem entry_pred {n : Nat} {pl : List Int} {kl : List Bool} {vals : List Int} (h : AsPred n pl kl vals) (s : St) :
    (entryS pl kl s).1 = (entryS vals kl s).1 ∧ ∀ r, (entryS vals kl s).1 = .good r → (entryS pl kl s).2 = (entryS vals kl s).2 := by
  obtain ⟨h1, h2, h3, h4⟩ := h
  by_cases c : n ≤ (rdS s).1 ∨ kl.getD (rdS s).1 false = true
  · have e0 : ∀ (e : Int) (t : St), ∃ x, failS t e = .bad x := fun e t => by cases t <;> exact ⟨_, rfl⟩
    obtain ⟨x, hx⟩ := e0 7 (rdS s).2
    have e1 : (entryS pl kl s).1 = .bad x := by
      unfold entryS
      simp only [h3, if_pos c, hx, rdS_bad, failS_bad, ite_self]
    have e2 : (entryS vals kl s).1 = .bad x := by
      unfold entryS
      simp only [h1, if_pos c, hx, rdS_bad, failS_bad, ite_self]
    exact ⟨by rw [e1, e2], fun r hr => by rw [e2] at hr; cases hr⟩
  · have hp : (rdS s).1 < n := by
      rcases Nat.lt_or_ge (rdS s).1 n with h | h
      · exact h
      · exact absurd (.inl h) c
    have hk : kl.getD (rdS s).1 false = false := by
      cases hh : kl.getD (rdS s).1 false
      · rfl
      · exact absurd (.inr hh) c
    have hv := h4 _ hp hk
    have em : min (rdS s).1 (n - 1) = (rdS s).1 := by omega
    have e1 : entryS pl kl s = entryS vals kl s := by
      unfold entryS
      simp only [h1, h3, em, hv]
    exact ⟨by rw [e1], fun _ _ => by rw [e1]⟩
theorem asPred_step {n : Nat} {pl : List Int} {kl : List Bool} {vals : List Int} (h : AsPred n pl kl vals) (p : Nat) (v : Int) : AsPred n pl (kl.set p true) (vals.set p v) := by
  obtain ⟨h1, h2, h3, h4⟩ := h
  refine ⟨by simpa using h1, by simpa using h2, h3, fun j hj hk => ?_⟩
  by_cases e : p = j
  · subst e
    rw [getD_set_eq _ _ _ _ (by omega)] at hk
    cases hk
  · rw [getD_set_ne _ _ _ _ _ e] at hk ⊢
    exact h4 j hj hk
theorem finV_set (known : List Bool) (vals : List Int) (p : Nat) (v : Int) (hk : known.length = vals.length) : finV false (known.set p true) (vals.set p v) = (finV false known vals).set p v := by
  apply List.ext_getElem?
  intro i
  simp only [finV, List.getElem?_zipWith, List.getElem?_set, List.length_zipWith, hk, Nat.min_self, Bool.false_eq_true, if_false]
  by_cases e : p = i
  · subst e
    simp only [if_pos]
    by_cases hp : p < vals.length
    · simp [hp]
    · simp [hp]
  · simp only [if_neg e]
theorem finV_start (n : Nat) (vals : List Int) (h : vals.length = n) : finV false (List.replicate n false) vals = List.replicate n 0 := by
  apply List.ext_getElem
  · simp [finV, h]
  · intro i h1 h2
    simp [finV]
theorem finV_len (b : Bool) (known : List Bool) (vals : List Int) (hk : known.length = vals.length) : (finV b known vals).length = vals.length := by
  cases b <;> simp [finV, hk]
/-- the reference's last loop at a complete packet -/
theorem compl_cell (known : List Bool) (vals : List Int) (k : Nat) (hk : k < vals.length) (hl : known.length = vals.length) : (vals.take k ++ (finV false known vals).drop k)[k]? = some (if known.getD k false then vals.getD k 0 else 0) := by
  have hfl := finV_len false known vals hl
  rw [List.getElem?_append_right (by rw [List.length_take]; omega), List.length_take, Nat.min_eq_left (by omega), Nat.sub_self, List.getElem?_drop, Nat.add_zero]
  rw [← finV_getD known vals k hk hl, List.getD_eq_getElem?_getD, List.getElem?_eq_getElem (by omega)]
  rfl
theorem compl_set {n : Nat} {pl : List Int} {known : List Bool} {vals : List Int} (h : AsPred n pl known vals) (k : Nat) (hk : k < n) :
    (vals.take k ++ (finV false known vals).drop k).set k (if known.getD k false then vals.getD k 0 else pl.getD k 0) = vals.take (k + 1) ++ (finV false known vals).drop (k + 1) := by
  obtain ⟨h1, h2, h3, h4⟩ := h
  have hfl := finV_len false known vals (by omega)
  have hv : (if known.getD k false then vals.getD k 0 else pl.getD k 0) = vals[k]'(by omega) := by
    have : vals.getD k 0 = vals[k]'(by omega) := getD_nat vals k (by omega)
    cases hh : known.getD k false
    · rw [← h4 k hk hh, this]; rfl
    · simp only [if_true]; exact this
  rw [hv, List.set_append_right _ _ (by rw [List.length_take]; omega), List.length_take, Nat.min_eq_left (by omega), Nat.sub_self, List.drop_eq_getElem_cons (by omega : k < (finV false known vals).length), List.set_cons_zero, List.take_succ_eq_append_getElem (by omega), List.append_assoc]
  rfl
end Go.Proofs.Ytpdbdpmlppbnnaa
