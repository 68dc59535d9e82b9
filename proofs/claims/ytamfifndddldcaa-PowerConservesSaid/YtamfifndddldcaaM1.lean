/-
  Plain law of layer 10: stretches of constant gain; the need and the survival by stretches and tick by tick. No program in sight.
-/
import Derived.Test.YtamfifndddldcaaB1
namespace Go.Proofs.Ytamfifndddldcaa

structure Wn where
  k : Int
  a : Int
  b : Int
  f : Int
  u : Int
  r : Int
def hits (c k : Int) (x : Wn) : Bool := decide (x.k = 3) && decide (x.a = c) && decide (x.f ≤ k) && decide (k < x.u)
theorem hits_iff {c k : Int} {x : Wn} : hits c k x = true ↔ x.k = 3 ∧ x.a = c ∧ x.f ≤ k ∧ k < x.u := by simp [hits, and_assoc]
def gainT (t : List Wn) (c s k : Int) : Int := if t.any (hits c k) then 0 else s
def endT (t : List Wn) : Int := t.foldl (fun n x => max n x.u) 0
def needN (g : Int → Int) (e : Int) : Nat → Int → Int
  | 0, _ => 0
  | n + 1, k => max 0 (needN g e n (k + 1) + e - g k)
def survN (g : Int → Int) (C e : Int) : Nat → Int → Int → Bool
  | 0, _, _ => true
  | n + 1, k, c => if min C (c + g k) < e then false else survN g C e n (k + 1) (min C (c + g k) - e)
def strs (c un s : Int) : List Wn → Int → List (Int × Int)
  | [], at_ => if at_ < un then [(un - at_, s)] else []
  | x :: t, at_ => if un ≤ at_ then [] else if x.k ≠ 3 ∨ x.a ≠ c ∨ x.u ≤ at_ ∨ un ≤ x.f then strs c un s t at_
    else if at_ < x.f then (x.f - at_, s) :: (min x.u un - x.f, 0) :: strs c un s t (min x.u un)
    else (min x.u un - at_, 0) :: strs c un s t (min x.u un)
def needS (e : Int) (l : List (Int × Int)) : Int := l.foldr (fun x n => max 0 (n - x.1 * (x.2 - e))) 0
def survS (C e : Int) : List (Int × Int) → Int → Bool
  | [], _ => true
  | x :: l, c => if min C (c + x.2) - e < 0 then false else if min (C - e) (min C (c + x.2) - e + (x.1 - 1) * (x.2 - e)) < 0 then false
    else survS C e l (min (C - e) (min C (c + x.2) - e + (x.1 - 1) * (x.2 - e)))
def Tiles (g : Int → Int) : List (Int × Int) → Int → Int → Prop
  | [], k, un => un ≤ k
  | x :: l, k, un => 1 ≤ x.1 ∧ k + x.1 ≤ un ∧ (∀ j, k ≤ j → j < k + x.1 → g j = x.2) ∧ Tiles g l (k + x.1) un

theorem strs_tiles (c un s : Int) (T : List Wn) : ∀ (t dn : List Wn) (at_ : Int), T = dn ++ t → t.Pairwise (fun x y => x.f ≤ y.f) → (∀ x ∈ t, x.f < x.u) →
    (∀ x ∈ dn, ∀ j, at_ ≤ j → j < un → hits c j x = false) → Tiles (gainT T c s) (strs c un s t at_) at_ un := by
  intro t
  induction t with
  | nil =>
    intro dn at_ hT _ _ hd
    unfold strs
    split
    · refine ⟨by show (1 : Int) ≤ un - at_; omega, by show at_ + (un - at_) ≤ un; omega, ?_, ?_⟩
      · intro j h1 h2
        unfold gainT
        rw [if_neg]
        · simp only [hT, List.append_nil, List.any_eq_true, not_exists, not_and, Bool.not_eq_true]
          intro x hx
          exact hd x hx j h1 (by simp only at h2; omega)
      · show un ≤ at_ + (un - at_); omega
    · show un ≤ at_; omega
  | cons x t ih =>
    intro dn at_ hT hs hw hd
    rw [List.pairwise_cons] at hs
    have hT' : T = (dn ++ [x]) ++ t := by simp [hT]
    have hw' : ∀ y ∈ t, y.f < y.u := fun y hy => hw y (List.mem_cons_of_mem _ hy)
    have hxu := hw x List.mem_cons_self
    unfold strs
    by_cases h1 : un ≤ at_
    · rw [if_pos h1]; exact h1
    rw [if_neg h1]
    by_cases h2 : x.k ≠ 3 ∨ x.a ≠ c ∨ x.u ≤ at_ ∨ un ≤ x.f
    · rw [if_pos h2]
      refine ih _ at_ hT' hs.2 hw' fun y hy j j1 j2 => ?_
      rcases List.mem_append.1 hy with hy | hy
      · exact hd y hy j j1 j2
      · obtain rfl := List.mem_singleton.1 hy
        rw [Bool.eq_false_iff]
        intro hh
        rw [hits_iff] at hh
        omega
    rw [if_neg h2]
    have h3 : x.k = 3 ∧ x.a = c ∧ at_ < x.u ∧ x.f < un := by omega
    obtain ⟨k1, k2, k3, k4⟩ := h3
    -- the stretch in the shadow
    have dark : ∀ j, x.f ≤ j → j < x.u → gainT T c s j = 0 := fun j j1 j2 => by
      unfold gainT
      rw [if_pos]
      rw [List.any_eq_true]
      exact ⟨x, by simp [hT], hits_iff.2 ⟨k1, k2, j1, j2⟩⟩
    have light : ∀ j, at_ ≤ j → j < x.f → gainT T c s j = s := fun j j1 j2 => by
      unfold gainT
      rw [if_neg]
      simp only [hT, List.any_eq_true, not_exists, not_and, Bool.not_eq_true]
      intro y hy
      rcases List.mem_append.1 hy with hy | hy
      · exact hd y hy j j1 (by omega)
      · rw [Bool.eq_false_iff]
        intro hh
        rw [hits_iff] at hh
        rcases List.mem_cons.1 hy with rfl | hy
        · omega
        · have := hs.1 y hy
          omega
    have rest : Tiles (gainT T c s) (strs c un s t (min x.u un)) (min x.u un) un := by
      refine ih _ _ hT' hs.2 hw' fun y hy j j1 j2 => ?_
      rcases List.mem_append.1 hy with hy | hy
      · exact hd y hy j (by omega) j2
      · obtain rfl := List.mem_singleton.1 hy
        rw [Bool.eq_false_iff]
        intro hh
        rw [hits_iff] at hh
        omega
    by_cases h4 : at_ < x.f
    · rw [if_pos h4]
      refine ⟨by show (1 : Int) ≤ x.f - at_; omega, by show at_ + (x.f - at_) ≤ un; omega, fun j j1 j2 => light j j1 (by simp only at j2; omega), by show (1 : Int) ≤ min x.u un - x.f; omega, ?_, ?_, ?_⟩
      · show at_ + (x.f - at_) + (min x.u un - x.f) ≤ un; omega
      · intro j j1 j2
        simp only at j1 j2
        exact dark j (by omega) (by omega)
      · have e : at_ + (x.f - at_) + (min x.u un - x.f) = min x.u un := by omega
        show Tiles _ _ (at_ + (x.f - at_) + (min x.u un - x.f)) un
        rw [e]; exact rest
    · rw [if_neg h4]
      refine ⟨by show (1 : Int) ≤ min x.u un - at_; omega, by show at_ + (min x.u un - at_) ≤ un; omega, fun j j1 j2 => dark j (by omega) (by simp only at j2; omega), ?_⟩
      have e : at_ + (min x.u un - at_) = min x.u un := by omega
      show Tiles _ _ (at_ + (min x.u un - at_)) un
      rw [e]; exact rest
theorem survN_succ (g : Int → Int) (C e : Int) (n : Nat) (k c : Int) : survN g C e (n + 1) k c = if min C (c + g k) < e then false else survN g C e n (k + 1) (min C (c + g k) - e) := rfl
theorem needN_succ (g : Int → Int) (e : Int) (n : Nat) (k : Int) : needN g e (n + 1) k = max 0 (needN g e n (k + 1) + e - g k) := rfl
theorem needN_nonneg (g : Int → Int) (e : Int) : ∀ n k, 0 ≤ needN g e n k := by
  intro n k
  cases n with
  | zero => exact Int.le_refl _
  | succ n => unfold needN; omega
theorem needS_nonneg (e : Int) (l : List (Int × Int)) : 0 ≤ needS e l := by
  cases l with
  | nil => exact Int.le_refl _
  | cons x l => simp only [needS, List.foldr_cons]; omega
theorem need_stretch (g : Int → Int) (e : Int) (v : Int) : ∀ (n : Nat) (k : Int) (m : Nat), (∀ j, k ≤ j → j < k + n → g j = v) → needN g e (n + m) k = max 0 (needN g e m (k + n) - n * (v - e)) := by
  intro n
  induction n with
  | zero =>
    intro k m _
    have := needN_nonneg g e m (k + (0 : Nat))
    simp only [Nat.zero_add, Int.natCast_zero, Int.add_zero, Int.zero_mul, Int.sub_zero] at *
    omega
  | succ n ih =>
    intro k m hg
    have h0 := hg k (Int.le_refl _) (by omega)
    have h1 := ih (k + 1) m fun j j1 j2 => hg j (by omega) (by omega)
    rw [show n + 1 + m = (n + m) + 1 by omega, needN_succ, h1, h0]
    have e1 : k + 1 + (n : Int) = k + ((n + 1 : Nat) : Int) := by omega
    rw [e1]
    have h2 := needN_nonneg g e m (k + ((n + 1 : Nat) : Int))
    have e2 : ((n + 1 : Nat) : Int) * (v - e) = n * (v - e) + (v - e) := by rw [Int.natCast_add, Int.add_mul]; simp
    rw [e2]
    generalize needN g e m (k + ((n + 1 : Nat) : Int)) = N at *
    have h3 : (0 ≤ v - e ∧ 0 ≤ (n : Int) * (v - e)) ∨ (v - e ≤ 0 ∧ (n : Int) * (v - e) ≤ 0) := by
      rcases Int.le_total 0 (v - e) with h | h
      · exact .inl ⟨h, Int.mul_nonneg (by omega) h⟩
      · exact .inr ⟨h, Int.mul_nonpos_of_nonneg_of_nonpos (by omega) h⟩
    generalize (n : Int) * (v - e) = p at *
    omega
theorem needS_eq (g : Int → Int) (e un : Int) : ∀ (l : List (Int × Int)) (k : Int), Tiles g l k un → needS e l = needN g e (un - k).toNat k := by
  intro l
  induction l with
  | nil =>
    intro k h
    have : (un - k).toNat = 0 := by have : un ≤ k := h; omega
    rw [this]; rfl
  | cons x l ih =>
    rintro k ⟨h1, h2, h3, h4⟩
    have hn : (un - k).toNat = x.1.toNat + (un - (k + x.1)).toNat := by omega
    have e1 : ((x.1.toNat : Nat) : Int) = x.1 := by omega
    rw [hn, need_stretch g e x.2 x.1.toNat k _ (by rw [e1]; exact h3), e1, ← ih _ h4]
    rfl
theorem surv_stretch (g : Int → Int) (C e v : Int) : ∀ (n : Nat) (k c : Int) (m : Nat), (∀ j, k ≤ j → j < k + n → g j = v) → c ≤ C - e → 0 ≤ c →
    survN g C e (n + m) k c = (if min (C - e) (c + n * (v - e)) < 0 then false else survN g C e m (k + n) (min (C - e) (c + n * (v - e)))) := by
  intro n
  induction n with
  | zero =>
    intro k c m _ hc h0
    simp only [Nat.zero_add, Int.natCast_zero, Int.add_zero, Int.zero_mul]
    rw [show min (C - e) c = c by omega, if_neg (by omega)]
  | succ n ih =>
    intro k c m hg hc h0
    have hk := hg k (Int.le_refl _) (by omega)
    rw [show n + 1 + m = (n + m) + 1 by omega, survN_succ, hk]
    have e2 : ((n + 1 : Nat) : Int) * (v - e) = n * (v - e) + (v - e) := by rw [Int.natCast_add, Int.add_mul]; simp
    have h3 : (0 ≤ v - e ∧ 0 ≤ (n : Int) * (v - e)) ∨ (v - e ≤ 0 ∧ (n : Int) * (v - e) ≤ 0) := by
      rcases Int.le_total 0 (v - e) with h | h
      · exact .inl ⟨h, Int.mul_nonneg (by omega) h⟩
      · exact .inr ⟨h, Int.mul_nonpos_of_nonneg_of_nonpos (by omega) h⟩
    by_cases hb : min C (c + v) < e
    · rw [if_pos hb, if_pos]
      rw [e2]
      generalize (n : Int) * (v - e) = p at *
      omega
    · rw [if_neg hb, ih (k + 1) _ m (fun j j1 j2 => hg j (by omega) (by omega)) (by omega) (by omega)]
      have e1 : k + 1 + (n : Int) = k + ((n + 1 : Nat) : Int) := by omega
      rw [e1]
      have e3 : min (C - e) (min C (c + v) - e + n * (v - e)) = min (C - e) (c + ((n + 1 : Nat) : Int) * (v - e)) := by
        rw [e2]
        generalize (n : Int) * (v - e) = p at *
        omega
      rw [e3]
theorem survS_eq (g : Int → Int) (C e un : Int) : ∀ (l : List (Int × Int)) (k c : Int), Tiles g l k un → survS C e l c = survN g C e (un - k).toNat k c := by
  intro l
  induction l with
  | nil =>
    intro k c h
    have : (un - k).toNat = 0 := by have : un ≤ k := h; omega
    rw [this]; rfl
  | cons x l ih =>
    rintro k c ⟨h1, h2, h3, h4⟩
    have e1 : ((x.1.toNat : Nat) : Int) = x.1 := by omega
    have hn : (un - k).toNat = ((x.1 - 1).toNat + (un - (k + x.1)).toNat) + 1 := by omega
    have hk := h3 k (Int.le_refl _) (by omega)
    rw [hn]
    unfold survS survN
    rw [hk]
    by_cases hb : min C (c + x.2) < e
    · rw [if_pos hb, if_pos (by omega)]
    rw [if_neg hb, if_neg (by omega)]
    have e2 : (((x.1 - 1).toNat : Nat) : Int) = x.1 - 1 := by omega
    rw [surv_stretch g C e x.2 (x.1 - 1).toNat (k + 1) _ _ (by rw [e2]; exact fun j j1 j2 => h3 j (by omega) (by omega)) (by omega) (by omega), e2]
    split
    · rfl
    · rw [ih (k + x.1) _ h4, show k + 1 + (x.1 - 1) = k + x.1 by omega]
end Go.Proofs.Ytamfifndddldcaa
