/-
  Plain law of layer 10: the need is the greatest deficit of all periods. No program in sight.
-/
import Derived.Test.YtamfifndddldcaaM5
namespace Go.Proofs.Ytamfifndddldcaa

/-- the deficit of n ticks -/
def dsum (g : Int → Int) (e : Int) : Nat → Int → Int
  | 0, _ => 0
  | n + 1, k => (e - g k) + dsum g e n (k + 1)
def maxN (f : Nat → Int) : Nat → Int
  | 0 => max 0 (f 0)
  | n + 1 => max (maxN f n) (f (n + 1))
theorem maxN_shift (f f' : Nat → Int) (d : Int) (h0 : f 0 = 0) (h0' : f' 0 = 0) (hs : ∀ m, f (m + 1) = d + f' m) : ∀ n, maxN f (n + 1) = max 0 (maxN f' n + d) := by
  intro n
  induction n with
  | zero =>
    have : f 1 = d + f' 0 := hs 0
    show max (max 0 (f 0)) (f 1) = max 0 (max 0 (f' 0) + d)
    omega
  | succ n ih =>
    have : f (n + 2) = d + f' (n + 1) := hs (n + 1)
    show max (maxN f (n + 1)) (f (n + 2)) = max 0 (max (maxN f' n) (f' (n + 1)) + d)
    rw [ih]
    omega
theorem needN_max (g : Int → Int) (e : Int) : ∀ (n : Nat) (k : Int), needN g e n k = maxN (fun m => dsum g e m k) n := by
  intro n
  induction n with
  | zero => intro k; rfl
  | succ n ih =>
    intro k
    rw [needN_succ, ih (k + 1), maxN_shift (fun m => dsum g e m k) (fun m => dsum g e m (k + 1)) (e - g k) rfl rfl (fun m => rfl) n]
    omega
theorem dsum_succ (g : Int → Int) (e : Int) : ∀ (n : Nat) (k : Int), dsum g e (n + 1) k = dsum g e n k + (e - g (k + n)) := by
  intro n
  induction n with
  | zero => intro k; simp [dsum]
  | succ n ih =>
    intro k
    show (e - g k) + dsum g e (n + 1) (k + 1) = (e - g k) + dsum g e n (k + 1) + (e - g (k + ((n + 1 : Nat) : Int)))
    rw [ih (k + 1), show k + 1 + (n : Int) = k + ((n + 1 : Nat) : Int) by omega]
    omega
theorem tkW_succ (fr un : Int) (x : Wn) (h : fr ≤ un) (hx : x.f < x.u) : tkW fr (un + 1) x = tkW fr un x + if x.f ≤ un ∧ un < x.u then 1 else 0 := by
  unfold tkW
  repeat' split
  all_goals omega
def cntF (k : Int) (l : List Wn) : Int := l.foldl (fun n x => n + if x.f ≤ k ∧ k < x.u then 1 else 0) 0
theorem foldl_add (f : Wn → Int) : ∀ (l : List Wn) (n : Int), l.foldl (fun n x => n + f x) n = n + l.foldl (fun n x => n + f x) 0 := by
  intro l
  induction l with
  | nil => intro n; simp
  | cons x l ih =>
    intro n
    rw [List.foldl_cons, List.foldl_cons, ih (n + f x), ih (0 + f x)]
    omega
theorem ticksF_cons (fr un : Int) (x : Wn) (l : List Wn) : ticksF fr un (x :: l) = tkW fr un x + ticksF fr un l := by
  unfold ticksF
  rw [List.foldl_cons, foldl_add (fun x => tkW fr un x)]
  omega
theorem cntF_cons (k : Int) (x : Wn) (l : List Wn) : cntF k (x :: l) = (if x.f ≤ k ∧ k < x.u then 1 else 0) + cntF k l := by
  unfold cntF
  rw [List.foldl_cons, foldl_add (fun x => if x.f ≤ k ∧ k < x.u then 1 else 0)]
  omega
theorem ticksF_succ (fr un : Int) (h : fr ≤ un) : ∀ l : List Wn, (∀ x ∈ l, x.f < x.u) → ticksF fr (un + 1) l = ticksF fr un l + cntF un l := by
  intro l
  induction l with
  | nil => intro _; rfl
  | cons x l ih =>
    intro hl
    rw [ticksF_cons, ticksF_cons, cntF_cons, ih (fun y hy => hl y (List.mem_cons_of_mem _ hy)), tkW_succ fr un x h (hl x List.mem_cons_self)]
    omega
theorem ticksF_none (fr un : Int) (h : un ≤ fr) (l : List Wn) : ticksF fr un l = 0 := by
  induction l with
  | nil => rfl
  | cons x l ih =>
    rw [ticksF_cons, ih]
    unfold tkW
    split <;> omega
theorem cnt_hits (t : List Wn) (c k : Int) (h1 : ∀ x ∈ t, x.k = 3 ∧ x.b = 0) (h2 : t.Pairwise (fun x y => x.a = y.a → x.u ≤ y.f)) : cntF k (ofL 3 c 0 t) = if t.any (hits c k) then 1 else 0 := by
  induction t with
  | nil => rfl
  | cons x l ih =>
    rw [List.pairwise_cons] at h2
    have h3 := ih (fun y hy => h1 y (List.mem_cons_of_mem _ hy)) h2.2
    obtain ⟨k3, kb⟩ := h1 x List.mem_cons_self
    rw [List.any_cons]
    unfold ofL at *
    rw [List.filter_cons]
    by_cases hc : x.a = c
    · rw [if_pos (isW_iff.2 ⟨k3, hc, kb⟩), cntF_cons, h3]
      by_cases hh : x.f ≤ k ∧ k < x.u
      · rw [if_pos hh, hits_iff.2 ⟨k3, hc, hh.1, hh.2⟩, Bool.true_or, if_pos rfl]
        have hn : l.any (hits c k) = false := by
          rw [Bool.eq_false_iff]
          intro hq
          obtain ⟨y, hy, hyh⟩ := List.any_eq_true.1 hq
          rw [hits_iff] at hyh
          have := h2.1 y hy (by omega)
          omega
        rw [hn]
        rfl
      · have hn : hits c k x = false := by rw [Bool.eq_false_iff]; intro hq; rw [hits_iff] at hq; omega
        rw [if_neg hh, hn, Bool.false_or]
        omega
    · have hn : hits c k x = false := by rw [Bool.eq_false_iff]; intro hq; rw [hits_iff] at hq; omega
      rw [if_neg (by rw [isW_iff]; omega), hn, Bool.false_or, h3]
/-- the deficit of a period, by the ticks of the windows -/
def defT (t : List Wn) (c fr e s un : Int) : Int := (un - fr) * e - (un - fr - ticksF fr un (ofL 3 c 0 t)) * s
theorem defT_eq (t : List Wn) (h : Tab0 t) (c fr e s : Int) : ∀ m : Nat, defT t c fr e s (fr + m) = dsum (gainT t c s) e m fr := by
  intro m
  induction m with
  | zero => simp [defT, dsum, ticksF_none]
  | succ m ih =>
    rw [dsum_succ, ← ih]
    unfold defT
    have hl : ∀ x ∈ ofL 3 c 0 t, x.f < x.u := fun x hx => (h.bd x ((List.mem_filter.1 hx).1)).2.1
    have h1 := ticksF_succ fr (fr + m) (by omega) _ hl
    have h2 := cnt_hits t c (fr + m) (fun x hx => ⟨(h.kind x hx).1, (h.kind x hx).2.2⟩) (h.srt.imp fun h => h.2)
    rw [show fr + ((m + 1 : Nat) : Int) = fr + m + 1 by omega, h1, h2]
    unfold gainT
    have e1 : fr + (m : Int) + 1 - fr = (fr + m - fr) + 1 := by omega
    rw [e1]
    generalize fr + (m : Int) - fr = q
    generalize ticksF fr (fr + (m : Int)) (ofL 3 c 0 t) = z
    cases t.any (hits c (fr + m))
    · simp only [Bool.false_eq_true, if_false]
      rw [Int.add_zero, show q + 1 - z = (q - z) + 1 by omega, Int.add_mul, Int.add_mul]
      omega
    · simp only [if_true]
      rw [show q + 1 - (z + 1) = q - z by omega, Int.add_mul]
      omega
/-- the greatest deficit of the periods that end before fr + n -/
def mostD (t : List Wn) (c fr e s : Int) : Nat → Int
  | 0 => 0
  | n + 1 => max (mostD t c fr e s n) (defT t c fr e s (fr + n))
theorem mostD_eq (t : List Wn) (h : Tab0 t) (c fr e s : Int) : ∀ n : Nat, mostD t c fr e s (n + 1) = needN (gainT t c s) e n fr := by
  intro n
  rw [needN_max]
  induction n with
  | zero => show max 0 _ = max 0 _; rw [defT_eq t h]
  | succ n ih =>
    show max (mostD t c fr e s (n + 1)) _ = max _ _
    rw [ih, defT_eq t h]
/-- P10.12 -/
theorem deficit_law (t : List Wn) (h : Tab0 t) (c fr e s : Int) : needT t c fr e s = mostD t c fr e s (endT t + 1 - fr).toNat := by
  unfold needT
  by_cases hf : fr ≤ endT t
  · rw [show (endT t + 1 - fr).toNat = (endT t - fr).toNat + 1 by omega, mostD_eq t h]
  · rw [show (endT t + 1 - fr).toNat = 0 by omega, show (endT t - fr).toNat = 0 by omega]
    rfl
theorem tkW_bd (fr un : Int) (x : Wn) (hx : 0 ≤ x.f ∧ x.f < x.u ∧ x.u ≤ 2000000) : 0 ≤ tkW fr un x ∧ tkW fr un x ≤ 2000000 := by
  unfold tkW
  split <;> omega
theorem ticksF_bd (fr un : Int) : ∀ l : List Wn, (∀ x ∈ l, 0 ≤ x.f ∧ x.f < x.u ∧ x.u ≤ 2000000) → 0 ≤ ticksF fr un l ∧ ticksF fr un l ≤ l.length * 2000000 := by
  intro l
  induction l with
  | nil => intro _; simp [ticksF]
  | cons x l ih =>
    intro hl
    have h1 := ih (fun y hy => hl y (List.mem_cons_of_mem _ hy))
    have h2 := tkW_bd fr un x (hl x List.mem_cons_self)
    rw [ticksF_cons, List.length_cons]
    omega
end Go.Proofs.Ytamfifndddldcaa
