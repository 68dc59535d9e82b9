/-
  Plain law of layer 28: stable sorting of indices by decreasing priorities.
-/
import Derived.Test.YtpdbdpmlppbnnaaS2
namespace Go.Proofs.Ytpdbdpmlppbnnaa

/-- x stands ahead of y: a greater priority, or the same and a smaller number -/
def lx (P : List Int) (x y : Nat) : Prop := P.getD y 0 < P.getD x 0 ∨ (P.getD x 0 = P.getD y 0 ∧ x < y)
theorem lx_trans {P : List Int} {x y z : Nat} (h : lx P x y) (k : lx P y z) : lx P x z := by
  unfold lx at *
  omega
theorem lx_asymm {P : List Int} {x y : Nat} (h : lx P x y) : ¬ lx P y x := by
  unfold lx at *
  omega
theorem lx_low {P : List Int} {x y : Nat} (h : x < y) : lx P x y ↔ ltN P y x = false := by
  unfold lx ltN
  rw [decide_eq_false_iff_not]
  omega
theorem lx_high {P : List Int} {x y : Nat} (h : x < y) : lx P y x ↔ ltN P y x = true := by
  unfold lx ltN
  rw [decide_eq_true_eq]
  omega
abbrev Srt (P : List Int) (l : List Nat) : Prop := l.Pairwise (lx P)
/-- a sorted block at place a -/
structure Good (P : List Int) (a : Nat) (l : List Nat) : Prop where
  srt : Srt P l
  perm : l.Perm (List.range' a l.length)
theorem Good.mem {P : List Int} {a : Nat} {l : List Nat} (h : Good P a l) {x : Nat} (hx : x ∈ l) : a ≤ x ∧ x < a + l.length := by
  have := h.perm.mem_iff.1 hx
  rw [List.mem_range'_1] at this
  exact this
theorem good_nil (P : List Int) (a : Nat) : Good P a [] := ⟨List.Pairwise.nil, List.Perm.refl _⟩
theorem good_join {P : List Int} {a : Nat} {L R M : List Nat} (hL : Good P a L) (hR : Good P (a + L.length) R) (hM : Srt P M) (hp : M.Perm (L ++ R)) : Good P a M := by
  refine ⟨hM, ?_⟩
  have hl := hp.length_eq
  rw [List.length_append] at hl
  rw [hl]
  refine hp.trans ((hL.perm.append hR.perm).trans ?_)
  have : List.range' a (L.length + R.length) = List.range' a L.length ++ List.range' (a + L.length) R.length := by
    rw [List.range'_append_1]
  rw [this]
theorem good_sep {P : List Int} {a : Nat} {L R : List Nat} (hL : Good P a L) (hR : Good P (a + L.length) R) : ∀ x ∈ L, ∀ y ∈ R, x < y := fun x hx y hy => by
  have := hL.mem hx
  have := hR.mem hy
  omega
theorem srt_unique {P : List Int} : ∀ {l m : List Nat}, Srt P l → Srt P m → l.Perm m → l = m
  | [], m, _, _, h => by rw [List.nil_perm.1 h]
  | x :: l, [], _, _, h => by simp at h
  | x :: l, y :: m, h1, h2, h => by
    have hx : x = y := by
      refine Classical.byContradiction fun hne => ?_
      have a1 : x ∈ y :: m := h.mem_iff.1 (List.mem_cons_self ..)
      have a2 : y ∈ x :: l := h.mem_iff.2 (List.mem_cons_self ..)
      rcases List.mem_cons.1 a1 with e | a1
      · exact hne e
      · rcases List.mem_cons.1 a2 with e | a2
        · exact hne e.symm
        · exact lx_asymm ((List.pairwise_cons.1 h1).1 y a2) ((List.pairwise_cons.1 h2).1 x a1)
    subst hx
    rw [srt_unique (List.pairwise_cons.1 h1).2 (List.pairwise_cons.1 h2).2 ((List.perm_cons x).1 h)]
theorem srt_put {P : List Int} {S1 S2 : List Nat} {x : Nat} (h : Srt P (S1 ++ S2)) (h1 : ∀ y ∈ S1, lx P y x) (h2 : ∀ y ∈ S2, lx P x y) : Srt P (S1 ++ x :: S2) := by
  rw [Srt, List.pairwise_append] at h ⊢
  refine ⟨h.1, List.pairwise_cons.2 ⟨h2, h.2.1⟩, fun a ha b hb => ?_⟩
  rcases List.mem_cons.1 hb with rfl | hb
  · exact h1 a ha
  · exact h.2.2 a ha b hb
theorem getD_mid (A B : List Nat) (x : Nat) {j : Nat} (hj : j = A.length) : (A ++ x :: B).getD j 0 = x := by
  subst hj
  rw [List.getD_eq_getElem?_getD, List.getElem?_append_right (Nat.le_refl _)]
  simp
theorem set_mid (A B : List Nat) (x y : Nat) {j : Nat} (hj : j = A.length) : (A ++ x :: B).set j y = A ++ y :: B := by
  subst hj
  rw [List.set_append_right _ _ (Nat.le_refl _)]
  simp
theorem swpL_mid (A B : List Nat) (s x : Nat) {j : Nat} (hj : j = A.length + 1) : swpL (A ++ s :: x :: B) j = A ++ x :: s :: B := by
  have e1 : (A ++ s :: x :: B).getD j 0 = x := by
    rw [show A ++ s :: x :: B = (A ++ [s]) ++ x :: B by simp]
    exact getD_mid _ _ _ (by simp [hj])
  have e2 : (A ++ s :: x :: B).getD (j - 1) 0 = s := getD_mid _ _ _ (by omega)
  rw [swpL, e1, e2]
  rw [show A ++ s :: x :: B = (A ++ [s]) ++ x :: B by simp, set_mid _ _ _ _ (by simp [hj]), show (A ++ [s]) ++ s :: B = A ++ s :: (s :: B) by simp, set_mid _ _ _ _ (by omega)]
theorem insIn_spec {P : List Int} (X : List Nat) (x : Nat) : ∀ (k : Nat) (S Y : List Nat), S.length = k → Srt P S → (∀ y ∈ S, y < x) →
    ∃ S1 S2, S = S1 ++ S2 ∧ insIn (ltN P) X.length (X.length + k) (X ++ (S ++ x :: Y)) = X ++ (S1 ++ x :: (S2 ++ Y)) ∧ (∀ y ∈ S1, lx P y x) ∧ (∀ y ∈ S2, lx P x y)
  | 0, S, Y, hk, _, _ => by
    obtain rfl := List.length_eq_zero_iff.1 hk
    exact ⟨[], [], rfl, by rw [insIn_stop (.inl (by omega))]; rfl, by simp, by simp⟩
  | k + 1, S, Y, hk, hs, hx => by
    have hne : S ≠ [] := by intro e; subst e; simp at hk
    obtain ⟨S', s, rfl⟩ : ∃ S' s, S = S' ++ [s] := ⟨S.dropLast, S.getLast hne, (List.dropLast_concat_getLast hne).symm⟩
    have hk' : S'.length = k := by simp at hk; exact hk
    have hs' := List.pairwise_append.1 hs
    have e : X ++ ((S' ++ [s]) ++ x :: Y) = (X ++ S') ++ s :: x :: Y := by simp
    have g1 : ((X ++ S') ++ s :: x :: Y).getD (X.length + (k + 1)) 0 = x := by
      rw [show (X ++ S') ++ s :: x :: Y = (X ++ S' ++ [s]) ++ x :: Y by simp]
      exact getD_mid _ _ _ (by simp; omega)
    have g2 : ((X ++ S') ++ s :: x :: Y).getD (X.length + (k + 1) - 1) 0 = s := getD_mid _ _ _ (by simp; omega)
    rw [e]
    have hsx : s < x := hx s (by simp)
    by_cases hl : ltN P x s = true
    · rw [insIn_go (by omega) (by rw [g1, g2]; exact hl), swpL_mid _ _ _ _ (by simp; omega)]
      rw [show X.length + (k + 1) - 1 = X.length + k by omega, show (X ++ S') ++ x :: s :: Y = X ++ (S' ++ x :: (s :: Y)) by simp]
      obtain ⟨S1, S2, h1, h2, h3, h4⟩ := insIn_spec X x k S' (s :: Y) hk' hs'.1 (fun y hy => hx y (by simp [hy]))
      refine ⟨S1, S2 ++ [s], by rw [h1]; simp, by rw [h2]; simp, h3, fun y hy => ?_⟩
      rcases List.mem_append.1 hy with hy | hy
      · exact h4 y hy
      · rw [List.mem_singleton.1 hy]
        exact (lx_high hsx).2 hl
    · have hl2 : ltN P x s = false := by simpa using hl
      rw [insIn_stop (.inr (by rw [g1, g2]; exact hl2))]
      refine ⟨S' ++ [s], [], by simp, by simp, fun y hy => ?_, by simp⟩
      have hsx2 := (lx_low hsx).2 hl2
      rcases List.mem_append.1 hy with hy | hy
      · exact lx_trans (hs'.2.2 y hy s (by simp)) hsx2
      · rw [List.mem_singleton.1 hy]
        exact hsx2
theorem insOut_spec {P : List Int} (X Y : List Nat) (b : Nat) : ∀ (r i : Nat) (S : List Nat), b = i + r → i = X.length + S.length → Good P X.length S →
    ∃ l, insOut (ltN P) X.length b i (X ++ (S ++ (List.range' i r ++ Y))) = X ++ (l ++ Y) ∧ Good P X.length l ∧ l.length = S.length + r
  | 0, i, S, hb, _, hg => ⟨S, by rw [insOut_stop (by omega)]; simp, hg, rfl⟩
  | r + 1, i, S, hb, hi, hg => by
    rw [insOut_go (by omega), List.range'_succ]
    obtain ⟨S1, S2, h1, h2, h3, h4⟩ := insIn_spec (P := P) X i S.length S (List.range' (i + 1) r ++ Y) rfl hg.srt (fun y hy => by have := hg.mem hy; omega)
    rw [show X.length + S.length = i by omega] at h2
    rw [show X ++ (S ++ (i :: List.range' (i + 1) r ++ Y)) = X ++ (S ++ i :: (List.range' (i + 1) r ++ Y)) by simp, h2]
    have hl : (S1 ++ i :: S2).length = S.length + 1 := by rw [h1]; simp only [List.length_append, List.length_cons]; omega
    have hg2 : Good P X.length (S1 ++ i :: S2) := by
      refine ⟨srt_put (by rw [← h1]; exact hg.srt) h3 h4, ?_⟩
      rw [hl, List.range'_concat]
      refine (List.perm_middle.trans (List.Perm.cons i (show (S1 ++ S2).Perm (List.range' X.length S.length) by rw [← h1]; exact hg.perm))).trans ?_
      rw [show X.length + 1 * S.length = i by omega]
      exact (List.perm_append_singleton _ _).symm
    obtain ⟨l, k1, k2, k3⟩ := insOut_spec X Y b r (i + 1) (S1 ++ i :: S2) (by omega) (by rw [hl]; omega) hg2
    refine ⟨l, ?_, k2, by rw [k3, hl]; omega⟩
    rw [← k1]
    simp
theorem insOut_good {P : List Int} (X Y : List Nat) (k : Nat) : ∃ l, insOut (ltN P) X.length (X.length + k) (X.length + 1) (X ++ (List.range' X.length k ++ Y)) = X ++ (l ++ Y) ∧ Good P X.length l ∧ l.length = k := by
  cases k with
  | zero => exact ⟨[], by rw [insOut_stop (by omega)]; rfl, good_nil _ _, rfl⟩
  | succ k =>
    obtain ⟨l, h1, h2, h3⟩ := insOut_spec (P := P) X Y (X.length + (k + 1)) k (X.length + 1) [X.length] (by omega) (by simp) ⟨List.pairwise_singleton _ _, by simp⟩
    refine ⟨l, ?_, h2, by rw [h3]; simp; omega⟩
    rw [← h1, List.range'_succ]
    simp
/-- the two halves of a symmetric merge -/
theorem sym_split {P : List Int} {L1 L2 R1 R2 : List Nat} (hL : Srt P (L1 ++ L2)) (hR : Srt P (R1 ++ R2)) (k1 : ∀ x ∈ L1.getLast?, ∀ y ∈ R2.head?, lx P x y) (k2 : ∀ x ∈ R1.getLast?, ∀ y ∈ L2.head?, lx P x y) :
    ∀ x ∈ L1 ++ R1, ∀ y ∈ L2 ++ R2, lx P x y := by
  have hlast : ∀ (A : List Nat), Srt P A → ∀ x ∈ A, ∃ z ∈ A.getLast?, x = z ∨ lx P x z := fun A hA x hx => by
    have hne : A ≠ [] := by intro e; subst e; cases hx
    refine ⟨A.getLast hne, by rw [List.getLast?_eq_some_getLast hne]; rfl, ?_⟩
    rw [← List.dropLast_concat_getLast hne] at hx hA
    rcases List.mem_append.1 hx with hx | hx
    · exact .inr ((List.pairwise_append.1 hA).2.2 x hx _ (by simp))
    · exact .inl (List.mem_singleton.1 hx)
  have hhead : ∀ (A : List Nat), Srt P A → ∀ x ∈ A, ∃ z ∈ A.head?, x = z ∨ lx P z x := fun A hA x hx => by
    cases A with
    | nil => cases hx
    | cons a t =>
      refine ⟨a, rfl, ?_⟩
      rcases List.mem_cons.1 hx with rfl | hx
      · exact .inl rfl
      · exact .inr ((List.pairwise_cons.1 hA).1 x hx)
  have cross : ∀ (A B : List Nat), Srt P A → Srt P B → (∀ x ∈ A.getLast?, ∀ y ∈ B.head?, lx P x y) → ∀ x ∈ A, ∀ y ∈ B, lx P x y := fun A B hA hB k x hx y hy => by
    obtain ⟨z, hz, h1⟩ := hlast A hA x hx
    obtain ⟨u, hu, h2⟩ := hhead B hB y hy
    have h3 := k z hz u hu
    rcases h1 with rfl | h1 <;> rcases h2 with rfl | h2
    · exact h3
    · exact lx_trans h3 h2
    · exact lx_trans h1 h3
    · exact lx_trans (lx_trans h1 h3) h2
  have pL := List.pairwise_append.1 hL
  have pR := List.pairwise_append.1 hR
  intro x hx y hy
  rcases List.mem_append.1 hx with hx | hx <;> rcases List.mem_append.1 hy with hy | hy
  · exact pL.2.2 x hx y hy
  · exact cross L1 R2 pL.1 pR.2.1 k1 x hx y hy
  · exact cross R1 L2 pR.1 pL.2.1 k2 x hx y hy
  · exact pR.2.2 x hx y hy
/-- blocks of size bs, one behind the other, each sorted; the last one is shorter -/
inductive Runs (P : List Int) (bs : Nat) : Nat → List Nat → Prop
  | last {a : Nat} {l : List Nat} (h : Good P a l) (hl : l.length < bs) : Runs P bs a l
  | more {a : Nat} {l t : List Nat} (h : Good P a l) (hl : l.length = bs) (ht : Runs P bs (a + bs) t) : Runs P bs a (l ++ t)
/-- .. full blocks in front -/
inductive Pre (P : List Int) (bs : Nat) : List Nat → Prop
  | zero : Pre P bs []
  | step {t l : List Nat} (h : Pre P bs t) (g : Good P t.length l) (hl : l.length = bs) : Pre P bs (t ++ l)
theorem Pre.runs {P : List Int} {bs : Nat} {X : List Nat} (h : Pre P bs X) : ∀ {Y : List Nat}, Runs P bs X.length Y → Runs P bs 0 (X ++ Y) := by
  induction h with
  | zero => intro Y hY; exact hY
  | step h g hl ih =>
    intro Y hY
    rw [List.append_assoc]
    refine ih (.more g hl ?_)
    rw [List.length_append, hl] at hY
    exact hY
theorem Runs.two {P : List Int} {bs a : Nat} {Y : List Nat} (h : Runs P bs a Y) (hb : 0 < bs) (hl : 2 * bs ≤ Y.length) : ∃ L R T, Y = L ++ (R ++ T) ∧ Good P a L ∧ L.length = bs ∧ Good P (a + bs) R ∧ R.length = bs ∧ Runs P bs (a + 2 * bs) T := by
  cases h with
  | last h hl2 => omega
  | more g1 l1 h2 =>
    rename_i l t
    rw [List.length_append] at hl
    cases h2 with
    | last g2 l2 => omega
    | more g2 l2 h3 => exact ⟨_, _, _, rfl, g1, l1, g2, l2, by rw [show a + 2 * bs = a + bs + bs by omega]; exact h3⟩
theorem Runs.one {P : List Int} {bs a : Nat} {Y : List Nat} (h : Runs P bs a Y) (hl : bs < Y.length) (hl2 : Y.length < 2 * bs) : ∃ L R, Y = L ++ R ∧ Good P a L ∧ L.length = bs ∧ Good P (a + bs) R := by
  cases h with
  | last h hl3 => omega
  | more g1 l1 h2 =>
    rw [List.length_append] at hl hl2
    cases h2 with
    | last g2 l2 => exact ⟨_, _, rfl, g1, l1, g2⟩
    | more g2 l2 h3 => rw [List.length_append] at hl hl2; omega
theorem Runs.small {P : List Int} {bs a : Nat} {Y : List Nat} (h : Runs P bs a Y) (hl : Y.length ≤ bs) : Good P a Y := by
  cases h with
  | last h hl3 => exact h
  | more g1 l1 h2 =>
    rw [List.length_append] at hl
    cases h2 with
    | last g2 l2 =>
      rename_i l t
      have : t = [] := List.length_eq_zero_iff.1 (by omega)
      subst this
      rw [List.append_nil]
      exact g1
    | more g2 l2 h3 =>
      rw [List.length_append] at hl
      rename_i l l2' t
      have e1 : l2' = [] := List.length_eq_zero_iff.1 (by omega)
      have hb : bs = 0 := by rw [e1] at l2; simpa using l2.symm
      have e2 : t = [] := List.length_eq_zero_iff.1 (by omega)
      subst e1 e2
      simpa using g1
/-- an insertion into a sorted row, as the reference does it -/
theorem good_put {P : List Int} {k : Nat} {A B : List Nat} (h : Good P 0 (A ++ B)) (hk : (A ++ B).length = k) (h1 : ∀ x ∈ A, P.getD k 0 ≤ P.getD x 0) (h2 : ∀ x ∈ B.head?, P.getD x 0 < P.getD k 0) : Good P 0 (A ++ k :: B) := by
  have hm : ∀ x ∈ A ++ B, x < k := fun x hx => by have := h.mem hx; omega
  have hs := List.pairwise_append.1 h.srt
  refine ⟨srt_put h.srt (fun y hy => ?_) (fun y hy => ?_), ?_⟩
  · have := hm y (by simp [hy])
    have := h1 y hy
    unfold lx
    omega
  · cases B with
    | nil => cases hy
    | cons b t =>
      have hb : lx P k b := .inl (h2 b rfl)
      rcases List.mem_cons.1 hy with rfl | hy
      · exact hb
      · exact lx_trans hb ((List.pairwise_cons.1 hs.2.1).1 y hy)
  · have hl : (A ++ k :: B).length = k + 1 := by rw [← hk]; simp only [List.length_append, List.length_cons]; omega
    rw [hl, List.range'_concat]
    refine (List.perm_middle.trans (List.Perm.cons k (show (A ++ B).Perm (List.range' 0 k) by have := h.perm; rw [hk] at this; exact this))).trans ?_
    rw [show 0 + 1 * k = k by omega]
    exact (List.perm_append_singleton _ _).symm
end Go.Proofs.Ytpdbdpmlppbnnaa
