/-
  Plain law of layer 10: least charge, monotony. No program in sight.
-/
import Derived.Test.YtamfifndddldcaaM2
namespace Go.Proofs.Ytamfifndddldcaa

theorem surv_enough (g : Int → Int) (C e : Int) (_ : 0 ≤ e) : ∀ (n : Nat) (k c : Int), needN g e n k ≤ c → (∀ m : Nat, m < n → needN g e m (k + (n - m)) + e ≤ C) → survN g C e n k c = true := by
  intro n
  induction n with
  | zero => intro k c _ _; rfl
  | succ n ih =>
    intro k c h hC
    have h1 := hC n (by omega)
    rw [show k + (((n + 1 : Nat) : Int) - (n : Int)) = k + 1 by omega] at h1
    have h2 := needN_nonneg g e n (k + 1)
    rw [needN_succ] at h
    rw [survN_succ, if_neg (by omega)]
    refine ih (k + 1) _ (by omega) fun m hm => ?_
    have := hC m (by omega)
    rwa [show k + (((n + 1 : Nat) : Int) - (m : Int)) = k + 1 + ((n : Int) - m) by omega] at this
theorem surv_short (g : Int → Int) (C e : Int) : ∀ (n : Nat) (k c : Int), c < needN g e n k → 0 < needN g e n k → survN g C e n k c = false := by
  intro n
  induction n with
  | zero => intro k c _ h; simp [needN] at h
  | succ n ih =>
    intro k c h h0
    rw [needN_succ] at h h0
    rw [survN_succ]
    split
    · rfl
    · exact ih (k + 1) _ (by omega) (by omega)
theorem surv_mono (g g' : Int → Int) (C C' e e' : Int) (hg : ∀ k, g k ≤ g' k) (hC : C ≤ C') (he : e' ≤ e) : ∀ (n : Nat) (k c c' : Int), c ≤ c' → survN g C e n k c = true → survN g' C' e' n k c' = true := by
  intro n
  induction n with
  | zero => intro k c c' _ _; rfl
  | succ n ih =>
    intro k c c' hc h
    rw [survN_succ] at h ⊢
    have hk := hg k
    split at h
    · cases h
    · rw [if_neg (by omega)]
      exact ih (k + 1) _ _ (by omega) h
theorem surv_prefix (g : Int → Int) (C e : Int) : ∀ (n m : Nat) (k c : Int), m ≤ n → survN g C e n k c = true → survN g C e m k c = true := by
  intro n
  induction n with
  | zero =>
    intro m k c hm _
    obtain rfl : m = 0 := by omega
    rfl
  | succ n ih =>
    intro m k c hm h
    cases m with
    | zero => rfl
    | succ m =>
      rw [survN_succ] at h ⊢
      split at h
      · cases h
      · rename_i hb
        rw [if_neg hb]
        exact ih m (k + 1) _ (by omega) h
theorem mostN_ge (f : Int → Int) (k : Int) : ∀ (n i : Nat), i < n → f (k + i) ≤ mostN f k n := by
  intro n
  induction n with
  | zero => intro i h; omega
  | succ n ih =>
    intro i h
    unfold mostN
    by_cases hi : i = n
    · subst hi; omega
    · have := ih i (by omega); omega
theorem mostT_ge (t : List Wn) (c k e s j : Int) (h1 : k < j) (h2 : j < endT t) : needT t c j e s ≤ mostT t c k e s := by
  have := mostN_ge (fun j => needT t c j e s) (k + 1) (endT t - (k + 1)).toNat (j - (k + 1)).toNat (by omega)
  rw [show k + 1 + ((j - (k + 1)).toNat : Int) = j by omega] at this
  exact this
theorem mostT_nonneg (t : List Wn) (c k e s : Int) : 0 ≤ mostT t c k e s := mostN_nonneg _ _ _
theorem mostN_le (f : Int → Int) (k B : Int) (hB : 0 ≤ B) : ∀ n : Nat, (∀ i : Nat, i < n → f (k + i) ≤ B) → mostN f k n ≤ B := by
  intro n
  induction n with
  | zero => intro _; exact hB
  | succ n ih =>
    intro h
    have h1 := ih fun i hi => h i (by omega)
    have h2 := h n (by omega)
    unfold mostN
    omega
theorem mostT_bd (t : List Wn) (ht : Tab t) (c k e s : Int) (hk : 0 ≤ k) (he : 0 ≤ e ∧ e ≤ 10000000) (hs : 0 ≤ s) : 0 ≤ mostT t c k e s ∧ mostT t c k e s ≤ 40000000000000 :=
  ⟨mostT_nonneg _ _ _ _ _, mostN_le _ _ _ (by omega) _ fun i _ => (needT_bd t ht c _ e s (by omega) he hs).2⟩
theorem needT_bd2 (t : List Wn) (ht : Tab t) (c k e s : Int) (hk : 0 ≤ k) (he : 0 ≤ e ∧ e ≤ 70000) (hs : 0 ≤ s) : 0 ≤ needT t c k e s ∧ needT t c k e s ≤ 140000000000 := by
  have h0 := endT_bd t ht.bd
  have h1 := needN_nonneg (gainT t c s) e (endT t - k).toNat k
  have h2 := needN_le (gainT t c s) e (fun j => (gainT_bd t c s j hs).1) he.1 (endT t - k).toNat k
  have h3 := prod_bd (n := ((endT t - k).toNat : Int)) (a := e) (N := 2000000) (M := 70000) (by omega) (by omega) (by omega) (by omega) (by omega)
  unfold needT
  omega
theorem mostT_bd2 (t : List Wn) (ht : Tab t) (c k e s : Int) (hk : 0 ≤ k) (he : 0 ≤ e ∧ e ≤ 70000) (hs : 0 ≤ s) : 0 ≤ mostT t c k e s ∧ mostT t c k e s ≤ 140000000000 :=
  ⟨mostT_nonneg _ _ _ _ _, mostN_le _ _ _ (by omega) _ fun i _ => (needT_bd2 t ht c _ e s (by omega) he hs).2⟩
/-- P10.8: enough -/
theorem least_enough (t : List Wn) (c k e s C ch : Int) (he : 0 ≤ e) (h1 : needT t c k e s ≤ ch) (hC : mostT t c k e s + e ≤ C) : survT t c k (endT t) e s C ch = true := by
  refine surv_enough _ C e he _ _ _ h1 fun m hm => ?_
  have h0 := mostT_nonneg t c k e s
  by_cases hm0 : m = 0
  · subst hm0
    simp only [needN]
    omega
  · have h2 := mostT_ge t c k e s (k + (((endT t - k).toNat : Int) - m)) (by omega) (by omega)
    unfold needT at h2
    rw [show (endT t - (k + (((endT t - k).toNat : Int) - m))).toNat = m by omega] at h2
    omega
theorem least_short (t : List Wn) (c k e s C ch : Int) (h1 : ch < needT t c k e s) (h2 : 0 < needT t c k e s) : survT t c k (endT t) e s C ch = false := surv_short _ C e _ _ _ h1 h2
theorem needT_end (t : List Wn) (c k e s : Int) (h : endT t ≤ k) : needT t c k e s = 0 := by
  unfold needT
  rw [show (endT t - k).toNat = 0 by omega]
  rfl
theorem survT_mono (t : List Wn) (c k un un' e e' s s' C C' ch ch' : Int) (hs : s ≤ s') (hC : C ≤ C') (he : e' ≤ e) (hc : ch ≤ ch') (hu : un' ≤ un) (h : survT t c k un e s C ch = true) : survT t c k un' e' s' C' ch' = true := by
  refine surv_prefix _ _ _ _ _ _ _ (show (un' - k).toNat ≤ (un - k).toNat by omega) ?_
  refine surv_mono (gainT t c s) (gainT t c s') C C' e e' (fun j => ?_) hC he _ _ _ _ hc h
  unfold gainT
  split <;> omega
end Go.Proofs.Ytamfifndddldcaa
