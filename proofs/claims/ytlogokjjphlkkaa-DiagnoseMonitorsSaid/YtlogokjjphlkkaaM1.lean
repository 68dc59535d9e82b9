/-
  Plain law of layer 29 (no program): monitors, their steps, the counts of values that were outside.
-/
import Derived.Test.YtlogokjjphlkkaaB1
namespace Go.Proofs.Ytlogokjjphlkkaa

/-- a monitor -/
structure Mon where
  par : Int
  low : Int
  high : Int
  need : Int
  of : Int
  ev : Int
  past : List Bool
  raised : Bool
def outB (m : Mon) (v : Int) : Bool := decide (v < m.low) || decide (m.high < v)
def trues (l : List Bool) : Nat := l.count true
def pushP (p : List Bool) (of : Int) (b : Bool) : List Bool := if of < ((p.length + 1 : Nat) : Int) then (p ++ [b]).drop 1 else p ++ [b]
def upM (m : Mon) (v : Int) : Bool := !m.raised && decide (m.need ≤ (trues (pushP m.past m.of (outB m v)) : Int))
def dnM (m : Mon) (v : Int) : Bool := m.raised && decide (trues (pushP m.past m.of (outB m v)) = 0)
def stepM (m : Mon) (v : Int) : Mon := { m with past := pushP m.past m.of (outB m v), raised := if upM m v || dnM m v then upM m v else m.raised }
def runM (m : Mon) : List Int → Mon
  | [] => m
  | v :: l => runM (stepM m v) l
theorem runM_append (m : Mon) (l : List Int) (v : Int) : runM m (l ++ [v]) = stepM (runM m l) v := by
  induction l generalizing m with
  | nil => rfl
  | cons a t ih => exact ih _
theorem runM_two (m : Mon) (l k : List Int) : runM m (l ++ k) = runM (runM m l) k := by
  induction l generalizing m with
  | nil => rfl
  | cons a t ih => exact ih _
theorem runM_take (m : Mon) (l : List Int) (k : Nat) (hk : k < l.length) : runM m (l.take (k + 1)) = stepM (runM m (l.take k)) l[k] := by
  rw [List.take_succ_eq_append_getElem hk, runM_append]
/-- what never turns -/
def Like (m n : Mon) : Prop := n.par = m.par ∧ n.low = m.low ∧ n.high = m.high ∧ n.need = m.need ∧ n.of = m.of ∧ n.ev = m.ev
theorem Like.refl (m : Mon) : Like m m := ⟨rfl, rfl, rfl, rfl, rfl, rfl⟩
theorem Like.step {m n : Mon} (h : Like m n) (v : Int) : Like m (stepM n v) := h
theorem like_run (m : Mon) (l : List Int) : Like m (runM m l) := by
  have : ∀ n, Like m n → Like m (runM n l) := by
    induction l with
    | nil => intro n h; exact h
    | cons a t ih => intro n h; exact ih _ (h.step a)
  exact this m (Like.refl m)
theorem outB_like {m n : Mon} (h : Like m n) (v : Int) : outB n v = outB m v := by
  obtain ⟨_, h1, h2, _⟩ := h
  unfold outB
  rw [h1, h2]
theorem snoc_ind {α : Type} {P : List α → Prop} (h0 : P []) (h1 : ∀ l a, P l → P (l ++ [a])) (l : List α) : P l := by
  have h : ∀ r : List α, P r.reverse := by
    intro r
    induction r with
    | nil => exact h0
    | cons a t ih => rw [List.reverse_cons]; exact h1 _ _ ih
  have := h l.reverse
  rwa [List.reverse_reverse] at this
def lastN (l : List Bool) (n : Nat) : List Bool := l.drop (l.length - n)
theorem lastN_len (l : List Bool) (n : Nat) : (lastN l n).length = min l.length n := by unfold lastN; rw [List.length_drop]; omega
theorem lastN_nil (n : Nat) : lastN [] n = [] := by simp [lastN]
theorem push_last (l : List Bool) (n : Nat) (of : Int) (b : Bool) (hof : of = n) (hn : 1 ≤ n) : pushP (lastN l n) of b = lastN (l ++ [b]) n := by
  unfold pushP
  rw [lastN_len]
  by_cases h : l.length < n
  · rw [if_neg (by omega)]
    unfold lastN
    rw [show l.length - n = 0 by omega, show (l ++ [b]).length - n = 0 by simp; omega]
    simp
  · rw [if_pos (by omega)]
    unfold lastN
    rw [← List.drop_append_of_le_length (by omega), List.drop_drop]
    congr 1
    simp; omega
theorem run_past (m : Mon) (hp : m.past = []) (n : Nat) (hof : m.of = n) (hn : 1 ≤ n) (l : List Int) : (runM m l).past = lastN (l.map (outB m)) n := by
  induction l using snoc_ind with
  | h0 => simpa [runM, lastN] using hp
  | h1 l v ih =>
    rw [runM_append]
    show pushP (runM m l).past (runM m l).of (outB (runM m l) v) = _
    rw [ih, (like_run m l).2.2.2.2.1, outB_like (like_run m l), push_last _ _ _ _ hof hn, List.map_append]; rfl
theorem trues_append (l k : List Bool) : trues (l ++ k) = trues l + trues k := by simp [trues]
theorem trues_le (l : List Bool) : trues l ≤ l.length := List.count_le_length
theorem trues_last_mono (l : List Bool) {a b : Nat} (h : a ≤ b) : trues (lastN l a) ≤ trues (lastN l b) := by
  unfold lastN trues
  exact (List.drop_sublist_drop_left l (by omega)).count_le _
theorem step_filter {m : Mon} {v : Int} {ever enough : Bool} (he : ever = enough) (hr : m.raised = true → ever = true) :
    (ever || (stepM m v).raised) = (enough || decide (m.need ≤ (trues (stepM m v).past : Int))) ∧ ((stepM m v).raised = true → (ever || (stepM m v).raised) = true) := by
  subst he
  refine ⟨?_, fun h => by simp [h]⟩
  show (ever || if upM m v || dnM m v then upM m v else m.raised) = (ever || decide (m.need ≤ (trues (pushP m.past m.of (outB m v)) : Int)))
  unfold upM dnM
  generalize trues (pushP m.past m.of (outB m v)) = n
  cases hm : m.raised
  · by_cases h : m.need ≤ (n : Int)
    · simp [h]
    · simp [h]
  · rw [hr hm]; simp
theorem step_delay {m : Mon} {v : Int} (hn : 1 ≤ m.need) : (m.need ≤ (trues (stepM m v).past : Int) → (stepM m v).raised = true) ∧ (trues (stepM m v).past = 0 → (stepM m v).raised = false) := by
  show (m.need ≤ (trues (pushP m.past m.of (outB m v)) : Int) → (if upM m v || dnM m v then upM m v else m.raised) = true) ∧ (trues (pushP m.past m.of (outB m v)) = 0 → (if upM m v || dnM m v then upM m v else m.raised) = false)
  unfold upM dnM
  generalize trues (pushP m.past m.of (outB m v)) = n
  constructor
  · intro h
    have h0 : ¬ n = 0 := by omega
    cases m.raised <;> simp [h, h0]
  · intro h
    subst h
    have h0 : ¬ m.need ≤ ((0 : Nat) : Int) := by omega
    cases m.raised <;> simp at h0 ⊢
    omega
theorem step_alt (m : Mon) (v : Int) : (upM m v && dnM m v) = false ∧ (stepM m v).raised = (if upM m v then true else if dnM m v then false else m.raised) ∧ (upM m v = true → m.raised = false) ∧ (dnM m v = true → m.raised = true) := by
  show (upM m v && dnM m v) = false ∧ (if upM m v || dnM m v then upM m v else m.raised) = _ ∧ _
  unfold upM dnM
  generalize trues (pushP m.past m.of (outB m v)) = n
  cases m.raised <;> simp
end Go.Proofs.Ytlogokjjphlkkaa
