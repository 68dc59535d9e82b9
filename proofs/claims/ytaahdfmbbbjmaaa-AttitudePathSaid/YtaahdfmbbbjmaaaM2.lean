/-
  The plain laws of layer 12: the longest run, turns back, rotation, obstacles, more arcs. Nothing here speaks of the program.
-/
import Derived.Test.YtaahdfmbbbjmaaaM1
namespace Go.Proofs.Ytaahdfmbbbjmaaa
theorem fr_iff {l : ArcL} {s deg : Int} : fr l s deg = true ↔ ∀ k : Nat, k ≤ deg.natAbs → av l (stepTo s deg k) = false := by
  unfold fr
  rw [frUpto_iff]
  constructor
  · intro h k hk
    rw [← h k (by omega)]
    unfold stepTo
    split <;> exact av_congr l (by omega)
  · intro h k hk
    rw [← h k (by omega)]
    unfold stepTo
    split <;> exact av_congr l (by omega)
theorem fr_false {l : ArcL} {s deg : Int} : fr l s deg = false ↔ ∃ k : Nat, k ≤ deg.natAbs ∧ av l (stepTo s deg k) = true := by
  rw [← Bool.not_eq_true, fr_iff]
  constructor
  · intro h
    apply Classical.byContradiction
    intro hn
    apply h
    intro k hk
    rw [← Bool.not_eq_true]
    intro e
    exact hn ⟨k, hk, e⟩
  · rintro ⟨k, hk, e⟩ h
    rw [h k hk] at e
    cases e
/-- an interval of directions (as integers) without an avoided one -/
def Clear (l : ArcL) (lo hi : Int) : Prop := ∀ x, lo ≤ x → x ≤ hi → av l x = false
theorem fr_pos {l : ArcL} {s deg : Int} (h : 0 ≤ deg) : fr l s deg = true ↔ Clear l s (s + deg) := by
  rw [fr_iff]
  constructor
  · intro hh x h1 h2
    have := hh (x - s).toNat (by omega)
    unfold stepTo at this
    rw [if_neg (by omega), show s + ((x - s).toNat : Int) = x by omega] at this
    exact this
  · intro hh k hk
    unfold stepTo
    rw [if_neg (by omega)]
    exact hh _ (by omega) (by omega)
theorem fr_neg {l : ArcL} {s deg : Int} (h : deg < 0) : fr l s deg = true ↔ Clear l (s + deg) s := by
  rw [fr_iff]
  constructor
  · intro hh x h1 h2
    have := hh (s - x).toNat (by omega)
    unfold stepTo at this
    rw [if_pos (by omega), show s - ((s - x).toNat : Int) = x by omega] at this
    exact this
  · intro hh k hk
    unfold stepTo
    rw [if_pos (by omega)]
    exact hh _ (by omega) (by omega)
theorem av_mul (l : ArcL) (d m : Int) : av l (d + 360 * m) = av l d := av_congr l (by omega)
theorem Clear.shift {l : ArcL} {lo hi : Int} (h : Clear l lo hi) (m : Int) : Clear l (lo + 360 * m) (hi + 360 * m) := by
  intro x h1 h2
  have := h (x - 360 * m) (by omega) (by omega)
  rw [← this]
  exact av_congr l (by omega)
theorem Clear.of_shift {l : ArcL} {lo hi lo' hi' : Int} (m : Int) (h : Clear l lo hi) (h1 : lo' = lo + 360 * m) (h2 : hi' = hi + 360 * m) : Clear l lo' hi' := by
  subst h1; subst h2; exact h.shift m
theorem clear_mono {l : ArcL} {lo hi lo' hi' : Int} (h : Clear l lo hi) (h1 : lo ≤ lo') (h2 : hi' ≤ hi) : Clear l lo' hi' := fun x a b => h x (by omega) (by omega)

theorem bool_ext {a b : Bool} (h : a = true ↔ b = true) : a = b := by
  cases a <;> cases b <;> simp_all
theorem fr_back_up {l : ArcL} {a b : Int} (h : upOf a b ≠ 0) : fr l b (upOf b a) = fr l a (upOf a b - 360) := by
  have hu := up_bd a b
  have hu' := up_bd b a
  apply bool_ext
  rw [fr_pos hu'.1, fr_neg (by omega)]
  have e : upOf b a = 360 - upOf a b := by unfold upOf at *; omega
  rw [e]
  obtain ⟨m, hm⟩ : ∃ m, b + 360 * m = a + upOf a b - 360 := ⟨(a + upOf a b - 360 - b) / 360, by unfold upOf; omega⟩
  constructor
  · intro h; exact h.of_shift m (by omega) (by omega)
  · intro h; exact h.of_shift (-m) (by omega) (by omega)
theorem fr_back_down {l : ArcL} {a b : Int} (h : upOf a b ≠ 0) : fr l b (upOf b a - 360) = fr l a (upOf a b) := by
  have h' : upOf b a ≠ 0 := by unfold upOf at *; omega
  exact (fr_back_up h').symm
theorem up_sym {a b : Int} (h : upOf a b ≠ 0) : upOf b a = 360 - upOf a b := by unfold upOf at *; omega
theorem fr_zero {l : ArcL} {a b : Int} (h : upOf a b = 0) : fr l b 0 = fr l a 0 := by
  apply bool_ext
  rw [fr_pos (by omega), fr_pos (by omega)]
  obtain ⟨m, hm⟩ : ∃ m, b + 360 * m = a := ⟨(a - b) / 360, by unfold upOf at h; omega⟩
  constructor
  · intro h; exact h.of_shift m (by omega) (by omega)
  · intro h; exact h.of_shift (-m) (by omega) (by omega)

theorem turn_back (l : ArcL) (a b : Int) : (turn l b a).2 = (turn l a b).2 ∧ ((turn l b a).1 = 0 - (turn l a b).1 ∨ (turn l a b).1 = 180 ∧ (turn l b a).1 = 180) := by
  have hu := up_bd a b
  by_cases h : upOf a b = 0
  · have h' : upOf b a = 0 := by unfold upOf at *; omega
    unfold turn
    rw [if_pos h, if_pos h', fr_zero h]
    cases fr l a 0 <;> simp
  · have h' : upOf b a ≠ 0 := by unfold upOf at *; omega
    unfold turn
    rw [if_neg h, if_neg h', fr_back_up h, fr_back_down h, up_sym h]
    generalize upOf a b = u at *
    cases h1 : fr l a u <;> cases h2 : fr l a (u - 360) <;> by_cases h3 : u ≤ 360 - u <;> by_cases h4 : 360 - u ≤ u <;> simp [h3, h4] <;> omega

theorem turn_ok_free {l : ArcL} {a b : Int} (h : (turn l a b).2 = 0) : fr l a (turn l a b).1 = true := by
  unfold turn at *
  split at h
  · rename_i h0
    rw [if_pos h0]
    split at h
    · rename_i h1; rw [if_pos h1]; exact h1
    · cases h
  · rename_i h0
    rw [if_neg h0]
    split at h
    · rename_i h1; rw [if_pos h1]; simp only [Bool.and_eq_true] at h1; exact h1.1
    · rename_i h1
      rw [if_neg h1]
      split at h
      · rename_i h2; rw [if_pos h2]; exact h2
      · cases h
theorem turn_bd (l : ArcL) (a b : Int) : -359 ≤ (turn l a b).1 ∧ (turn l a b).1 ≤ 359 := by
  have hu := up_bd a b
  unfold turn
  split
  · split <;> simp
  · split
    · simp only; omega
    · split
      · simp only; omega
      · simp
theorem turn_err (l : ArcL) (a b : Int) : (turn l a b).2 = 0 ∨ (turn l a b).2 = 1 ∧ (turn l a b).1 = 0 := by
  unfold turn
  repeat' split
  all_goals simp
theorem turn_to (l : ArcL) (a b : Int) (h : (turn l a b).2 = 0) : (a + (turn l a b).1) % 360 = b % 360 := by
  have hu := up_bd a b
  unfold turn at *
  unfold upOf at *
  split at h
  · rename_i h0
    rw [if_pos h0]
    split at h
    · rename_i h1; rw [if_pos h1]; simp only; omega
    · cases h
  · rename_i h0
    rw [if_neg h0]
    split at h
    · rename_i h1; rw [if_pos h1]; simp only; omega
    · rename_i h1
      rw [if_neg h1]
      split at h
      · rename_i h2; rw [if_pos h2]; simp only; omega
      · cases h
theorem av_nil (d : Int) : av [] d = false := rfl
theorem fr_nil (a d : Int) : fr [] a d = true := by rw [fr_iff]; intro k _; rfl
theorem turn_nil (a b : Int) : (turn [] a b).2 = 0 ∧ (turn [] a b).1 ≤ 180 ∧ -180 < (turn [] a b).1 := by
  have hu := up_bd a b
  unfold turn
  simp only [fr_nil, Bool.not_true, Bool.false_or, Bool.true_and, if_true]
  split
  · simp
  · split
    · rename_i h; simp only [decide_eq_true_eq] at h; refine ⟨rfl, ?_, ?_⟩ <;> simp only <;> omega
    · rename_i h; simp only [decide_eq_true_eq] at h; refine ⟨rfl, ?_, ?_⟩ <;> simp only <;> omega

/-- the arcs' own first direction is avoided -/
theorem av_from {l : ArcL} {x : Int × Int} (hx : x ∈ l) : av l x.1 = true := by
  rw [av_eq, List.any_eq_true]
  refine ⟨x, hx, ?_⟩
  simp only [inArc, decide_eq_true_eq]
  omega
def otherTurn (d : Int) : Int := if d < 0 then d + 360 else d - 360
theorem turn_other {l : ArcL} {a b : Int} (h : (turn l a b).2 = 0) (hl : l ≠ []) : fr l a (otherTurn (turn l a b).1) = false := by
  have hf := turn_ok_free h
  have hb := turn_bd l a b
  generalize (turn l a b).1 = d at *
  obtain ⟨x, hx⟩ := List.exists_mem_of_ne_nil l hl
  have hv := av_from hx
  rw [← Bool.not_eq_true]
  intro ho
  have hall : ∀ y, av l y = false := by
    intro y
    unfold otherTurn at ho
    -- y ≡ some z in [a, a + 359]
    obtain ⟨m, z, hz1, hz2, hzy⟩ : ∃ m z : Int, a ≤ z ∧ z ≤ a + 359 ∧ z = y + 360 * m := ⟨-((y - a) / 360), y + 360 * -((y - a) / 360), by omega, by omega, rfl⟩
    have hyz : av l y = av l z := av_congr l (by omega)
    rw [hyz]
    split at ho
    · rename_i hd
      rw [fr_pos (by omega)] at ho
      rw [fr_neg hd] at hf
      by_cases hz : z ≤ a + (d + 360)
      · exact ho z hz1 hz
      · rw [← hf (z - 360) (by omega) (by omega)]
        exact av_congr l (by omega)
    · rename_i hd
      rw [fr_neg (by omega)] at ho
      rw [fr_pos (by omega)] at hf
      by_cases hz : z ≤ a + d
      · exact hf z hz1 hz
      · rw [← ho (z - 360) (by omega) (by omega)]
        exact av_congr l (by omega)
  rw [hall] at hv
  cases hv

theorem av_append (l m : ArcL) (d : Int) : av (l ++ m) d = (av l d || av m d) := by rw [av_eq, av_eq, av_eq, List.any_append]
theorem fr_append {l m : ArcL} {a d : Int} (h : fr (l ++ m) a d = true) : fr l a d = true := by
  rw [fr_iff] at *
  intro k hk
  have := h k hk
  rw [av_append, Bool.or_eq_false_iff] at this
  exact this.1
theorem turn_more {l m : ArcL} {a b : Int} (h : (turn (l ++ m) a b).2 = 0) : (turn l a b).2 = 0 ∧ (turn l a b).1.natAbs ≤ (turn (l ++ m) a b).1.natAbs ∧ fr l a (turn (l ++ m) a b).1 = true := by
  have hu := up_bd a b
  have hf := fr_append (turn_ok_free h)
  refine ⟨?_, ?_, hf⟩
  all_goals
    unfold turn at *
    by_cases h0 : upOf a b = 0
    · simp only [h0, if_true] at *
      by_cases h1 : fr (l ++ m) a 0 = true
      · simp only [h1, if_true] at *
        simp [hf]
      · simp [h1] at h
    · simp only [h0, if_false] at *
      have k1 := @fr_append l m a (upOf a b)
      have k2 := @fr_append l m a (upOf a b - 360)
      generalize upOf a b = u at *
      cases e1 : fr (l ++ m) a u <;> cases e2 : fr (l ++ m) a (u - 360) <;> cases e3 : fr l a u <;> cases e4 : fr l a (u - 360) <;> simp [e1, e2, e3, e4] at * <;>
        (repeat' split) <;> simp_all <;> omega
end Go.Proofs.Ytaahdfmbbbjmaaa
