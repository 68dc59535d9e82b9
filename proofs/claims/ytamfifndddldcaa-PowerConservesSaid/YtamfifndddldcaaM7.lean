/-
  Plain law of layer 10: a battery that holds the need has no brownout, whatever other loads are served.
-/
import Derived.Test.YtamfifndddldcaaW19
namespace Go.Proofs.Ytamfifndddldcaa

theorem foldl_ess (l : List Lo) : ∀ n : Int, l.foldl (fun n x => if x.es then n + x.pw else n) n = n + l.foldl (fun n x => if x.es then n + x.pw else n) 0 := by
  induction l with
  | nil => intro n; simp
  | cons x l ih =>
    intro n
    rw [List.foldl_cons, List.foldl_cons]
    cases hb : x.es with
    | true =>
      simp only [if_true]
      rw [ih (n + x.pw), ih (0 + x.pw)]
      omega
    | false =>
      simp only [Bool.false_eq_true, if_false]
      exact ih n
theorem essL_cons (x : Lo) (l : List Lo) : essL (x :: l) = (if x.es then x.pw else 0) + essL l := by
  unfold essL
  rw [List.foldl_cons, foldl_ess]
  split <;> simp_all
theorem essL_perm {l m : List Lo} (h : l.Perm m) : essL l = essL m := by
  induction h with
  | nil => rfl
  | cons x _ ih => rw [essL_cons, essL_cons, ih]
  | swap x y l => rw [essL_cons, essL_cons, essL_cons, essL_cons]; omega
  | trans _ _ h1 h2 => exact h1.trans h2
theorem essL_none (l : List Lo) (h : ∀ x ∈ l, x.es = false) : essL l = 0 := by
  induction l with
  | nil => rfl
  | cons x l ih => rw [essL_cons, h x List.mem_cons_self, ih fun y hy => h y (List.mem_cons_of_mem _ hy)]; rfl
theorem essL_nn (l : List Lo) (h : ∀ x ∈ l, 0 ≤ x.pw) : 0 ≤ essL l := by
  induction l with
  | nil => exact Int.le_refl _
  | cons x l ih =>
    have := h x List.mem_cons_self
    have := ih fun y hy => h y (List.mem_cons_of_mem _ hy)
    rw [essL_cons]
    split <;> omega
theorem runL_cons (re : Int) (x : Lo) (l : List Lo) (s : SS) : runL re (x :: l) s = runL re l (stepL re s x) := rfl
theorem safe_run (N re : Int) (hN : 0 ≤ N) (hr : N ≤ re) : ∀ (l : List Lo) (s : SS), l.Pairwise (fun a b => a.es = false → b.es = false) → (∀ x ∈ l, 0 ≤ x.pw) → N + essL l ≤ s.c →
    (runL re l s).br = s.br ∧ N ≤ (runL re l s).c ∧ (runL re l s).c ≤ s.c := by
  intro l
  induction l with
  | nil => intro s _ _ h; exact ⟨rfl, by show N ≤ s.c; simpa [essL] using h, Int.le_refl _⟩
  | cons x l ih =>
    intro s hp hw h
    rw [List.pairwise_cons] at hp
    have hx := hw x List.mem_cons_self
    have hl := essL_nn l fun y hy => hw y (List.mem_cons_of_mem _ hy)
    have hw' : ∀ y ∈ l, 0 ≤ y.pw := fun y hy => hw y (List.mem_cons_of_mem _ hy)
    rw [essL_cons] at h
    rw [runL_cons]
    unfold stepL
    cases he : x.es with
    | true =>
      rw [he, if_pos rfl] at h
      simp only [if_true]
      rw [if_neg (by omega)]
      obtain ⟨h1, h2, h3⟩ := ih ⟨s.c - x.pw, s.us + x.pw, s.sv ++ [x.id], s.br⟩ hp.2 hw' (by simp only; omega)
      exact ⟨h1, h2, by simp only at h3; omega⟩
    | false =>
      rw [he, if_neg (by simp)] at h
      have h0 := essL_none l fun y hy => hp.1 y hy he
      simp only [Bool.false_eq_true, if_false, Bool.or_false]
      by_cases hb : s.c - x.pw < re
      · rw [if_pos hb]
        obtain ⟨h1, h2, h3⟩ := ih ⟨s.c, s.us, s.sv, s.br⟩ hp.2 hw' (by simp only; omega)
        exact ⟨h1, h2, h3⟩
      · rw [if_neg hb]
        obtain ⟨h1, h2, h3⟩ := ih ⟨s.c - x.pw, s.us + x.pw, s.sv ++ [x.id], s.br⟩ hp.2 hw' (by simp only; omega)
        exact ⟨h1, h2, by simp only at h3; omega⟩
theorem ordL_ess (l : List Lo) (h : Ids l) : (ordL l).Pairwise (fun a b => a.es = false → b.es = false) := by
  refine (ordL_sorted l h).imp fun {a b} hab ha => ?_
  rw [bef_iff] at hab
  have h1 : rk a = 1 := by simp [rk, ha]
  cases hb : b.es with
  | false => rfl
  | true =>
    have h2 : rk b = 0 := by simp [rk, hb]
    omega
/-- where the sequence of Steps stands at tick k -/
structure SafeAt (t : List Wn) (e s most C k ch : Int) : Prop where
  need : needT t 0 k e s ≤ ch
  le : ch ≤ C
theorem SafeAt.next {t : List Wn} {e s C k ch : Int} {fr : Int} {l : List Lo} (h : SafeAt t e s (mostT t 0 fr e s) C k ch) (hk : fr ≤ k) (hk2 : k < endT t) (hl : Ids l) (hp : ∀ x ∈ l, 0 ≤ x.pw) (he : essL l = e) (hC : mostT t 0 fr e s + e ≤ C)
    (g : Int) (hg : g = gainT t 0 s k) (r : SS) (hr : stepB C ch (mostT t 0 fr e s) g l = r) : r.br = false ∧ needT t 0 (k + 1) e s ≤ r.c ∧ SafeAt t e s (mostT t 0 fr e s) C (k + 1) r.c := by
  obtain ⟨h1, h2⟩ := h
  have h3 : needT t 0 k e s = max 0 (needT t 0 (k + 1) e s + e - g) := by
    unfold needT
    rw [show (endT t - k).toNat = (endT t - (k + 1)).toNat + 1 by omega, needN_succ, hg]
  have hN : 0 ≤ needT t 0 (k + 1) e s := by unfold needT; exact needN_nonneg _ _ _ _
  have hm0 := mostT_nonneg t 0 fr e s
  have hNm : needT t 0 (k + 1) e s ≤ mostT t 0 fr e s := by
    by_cases hE : k + 1 < endT t
    · exact mostT_ge t 0 fr e s (k + 1) (by omega) hE
    · rw [needT_end t 0 (k + 1) e s (by omega)]; exact hm0
  have hch : ch + gainB C ch g = min C (ch + g) := by unfold gainB; omega
  have hrun := safe_run (needT t 0 (k + 1) e s) (mostT t 0 fr e s) hN hNm (ordL l) ⟨ch + gainB C ch g, 0, [], false⟩ (ordL_ess l hl) (fun x hx => hp x ((ordL_perm l).mem_iff.1 hx)) (by
    rw [essL_perm (ordL_perm l), he]
    simp only
    rw [hch]
    omega)
  unfold stepB at hr
  rw [hr] at hrun
  obtain ⟨q1, q2, q3⟩ := hrun
  simp only at q1 q3
  exact ⟨q1, q2, q2, by omega⟩
theorem needT_bd3 (t : List Wn) (ht : Tab0 t) (c k e s : Int) (hk : 0 ≤ k) (he : 0 ≤ e ∧ e ≤ 10000) (hs : 0 ≤ s) : 0 ≤ needT t c k e s ∧ needT t c k e s ≤ 10000000 := by
  have h1 := needN_nonneg (gainT t c s) e (endT t - k).toNat k
  have h2 := needN_le (gainT t c s) e (fun j => (gainT_bd t c s j hs).1) he.1 (endT t - k).toNat k
  have hend : endT t ≤ 1000 := by
    have : ∀ l : List Wn, (∀ x ∈ l, x.u ≤ 1000) → ∀ n : Int, n ≤ 1000 → l.foldl (fun n x => max n x.u) n ≤ 1000 := by
      intro l
      induction l with
      | nil => intro _ n hn; exact hn
      | cons x l ih => intro hl n hn; exact ih (fun y hy => hl y (List.mem_cons_of_mem _ hy)) _ (by have := hl x List.mem_cons_self; show max n x.u ≤ 1000; omega)
    exact this t (fun x hx => (ht.bd x hx).2.2) 0 (by omega)
  have hn : ((endT t - k).toNat : Int) ≤ 1000 := by omega
  have h3 := prod_bd (n := ((endT t - k).toNat : Int)) (a := e) (N := 1000) (M := 10000) (by omega) (by omega) (by omega) (by omega) (by omega)
  unfold needT
  omega
theorem mostT_bd3 (t : List Wn) (ht : Tab0 t) (c k e s : Int) (hk : 0 ≤ k) (he : 0 ≤ e ∧ e ≤ 10000) (hs : 0 ≤ s) : 0 ≤ mostT t c k e s ∧ mostT t c k e s ≤ 10000000 :=
  ⟨mostT_nonneg _ _ _ _ _, mostN_le _ _ _ (by omega) _ fun i _ => (needT_bd3 t ht c _ e s (by omega) he hs).2⟩
theorem essL_made (l : List Lo) : 0 ≤ essL (madeL l) ∧ essL (madeL l) ≤ 10000 := by
  have h := essL_bd (madeL l) 1000 (by omega) (madeL_ok l).pw (madeL l).length (Nat.le_refl _)
  have hl := madeL_len l
  rw [List.take_length] at h
  omega
end Go.Proofs.Ytamfifndddldcaa
