/-
  The plain arithmetic of layer 12: directions, avoided directions, free turns, turns, runs. Nothing here speaks of the program.
-/
namespace Go.Proofs.Ytaahdfmbbbjmaaa
abbrev ArcL := List (Int × Int)
def badArc (a : Int × Int) : Bool := decide (a.1 < 0 ∨ 359 < a.1 ∨ a.2 < 0 ∨ 359 < a.2)
def OkArcs (l : ArcL) : Prop := ∀ a ∈ l, 0 ≤ a.1 ∧ a.1 ≤ 359 ∧ 0 ≤ a.2 ∧ a.2 ≤ 359
def checkN (l : ArcL) : Int := if 16 < l.length then 2 else if l.any badArc then 5 else 0

theorem okArcs_of_check {l : ArcL} (h : l.any badArc = false) : OkArcs l := by
  intro a ha
  have := List.any_eq_false.1 h a ha
  simp only [badArc, decide_eq_true_eq] at this
  omega
theorem check_ok {l : ArcL} : checkN l = 0 ↔ l.length ≤ 16 ∧ OkArcs l := by
  unfold checkN
  constructor
  · intro h
    split at h
    · omega
    · split at h
      · omega
      · rename_i h1 h2
        exact ⟨by omega, okArcs_of_check (by simpa using h2)⟩
  · rintro ⟨h1, h2⟩
    rw [if_neg (by omega), if_neg]
    simp only [Bool.not_eq_true, List.any_eq_false, badArc, decide_eq_true_eq]
    intro a ha
    have := h2 a ha
    omega

def inArc (a : Int × Int) (d : Int) : Bool := decide ((d - a.1) % 360 ≤ (a.2 - a.1) % 360)
/-- whether a direction (any number) is avoided -/
def av (l : ArcL) (d : Int) : Bool := l.any fun a => inArc a (d % 360)
theorem inArc_mod (a : Int × Int) (d : Int) : inArc a (d % 360) = inArc a d := by
  unfold inArc
  rw [Int.sub_emod (d % 360), Int.emod_emod_of_dvd d (Int.dvd_refl 360), ← Int.sub_emod]
theorem av_eq (l : ArcL) (d : Int) : av l d = l.any fun a => inArc a d := by
  unfold av
  simp only [inArc_mod]
theorem av_mod (l : ArcL) (d : Int) : av l (d % 360) = av l d := by
  rw [av_eq, av_eq]
  simp only [inArc_mod]
theorem av_add360 (l : ArcL) (d : Int) : av l (d + 360) = av l d := by
  rw [← av_mod, ← av_mod l d, Int.add_emod_right]
theorem av_congr (l : ArcL) {d e : Int} (h : d % 360 = e % 360) : av l d = av l e := by
  rw [← av_mod, h, av_mod]

/-- the k-th direction of a turn -/
def stepTo (s deg : Int) (k : Nat) : Int := if deg < 0 then s - k else s + k
/-- no direction of the first n of a turn is avoided -/
def frUpto (l : ArcL) (s deg : Int) (n : Nat) : Bool := (List.range n).all fun k => !av l (stepTo s deg k)
def fr (l : ArcL) (s deg : Int) : Bool := frUpto l (s % 360) deg (deg.natAbs + 1)
theorem frUpto_iff {l : ArcL} {s deg : Int} {n : Nat} : frUpto l s deg n = true ↔ ∀ k, k < n → av l (stepTo s deg k) = false := by
  simp [frUpto]
theorem frUpto_succ (l : ArcL) (s deg : Int) (n : Nat) : frUpto l s deg (n + 1) = (frUpto l s deg n && !av l (stepTo s deg n)) := by
  simp [frUpto, List.range_succ]
theorem frUpto_false {l : ArcL} {s deg : Int} {n k : Nat} (hk : k < n) (h : av l (stepTo s deg k) = true) : frUpto l s deg n = false := by
  rw [← Bool.not_eq_true, frUpto_iff]
  intro hh
  rw [hh k hk] at h
  cases h

def upOf (a b : Int) : Int := (b % 360 - a % 360) % 360
def turn (l : ArcL) (a b : Int) : Int × Int :=
  if upOf a b = 0 then (if fr l a 0 then (0, 0) else (0, 1))
  else if fr l a (upOf a b) && (!fr l a (upOf a b - 360) || decide (upOf a b ≤ 360 - upOf a b)) then (upOf a b, 0)
  else if fr l a (upOf a b - 360) then (upOf a b - 360, 0) else (0, 1)
theorem up_bd (a b : Int) : 0 ≤ upOf a b ∧ upOf a b ≤ 359 := by unfold upOf; omega

def ticks (d r : Int) : Int := ((d.natAbs : Int) + r - 1) / r
def stepD (left r : Int) : Int := min (max left (0 - r)) r

/-- the scan for the longest run of free directions: (run, best) -/
def scan : List Bool → Nat × Nat → Nat × Nat
  | [], s => s
  | b :: t, (run, best) => scan t (if b then 0 else run + 1, max best (if b then 0 else run + 1))
theorem scan_append (a b : List Bool) : ∀ s, scan (a ++ b) s = scan b (scan a s) := by
  induction a with
  | nil => intro s; rfl
  | cons x t ih => rintro ⟨r, m⟩; exact ih _
theorem scan_snoc (a : List Bool) (b : Bool) (s : Nat × Nat) : scan (a ++ [b]) s = (if b then 0 else (scan a s).1 + 1, max (scan a s).2 (if b then 0 else (scan a s).1 + 1)) := by
  rw [scan_append]
  rfl
/-- what the scan says: run is the free tail's length, best the longest run -/
def freeFrom (L : List Bool) (i k : Nat) : Prop := ∀ j, j < k → L[i + j]? = some false
theorem scan_spec (L : List Bool) : ((scan L (0, 0)).1 ≤ L.length ∧ freeFrom L (L.length - (scan L (0, 0)).1) (scan L (0, 0)).1 ∧
      ((scan L (0, 0)).1 < L.length → L[L.length - (scan L (0, 0)).1 - 1]? = some true)) ∧
    (∃ i, i + (scan L (0, 0)).2 ≤ L.length ∧ freeFrom L i (scan L (0, 0)).2) ∧ (∀ i k, freeFrom L i k → i + k ≤ L.length → k ≤ (scan L (0, 0)).2) := by
  have hsnoc : ∀ L : List Bool, ∀ b, (∀ i k, freeFrom (L ++ [b]) i k → i + k ≤ L.length → freeFrom L i k) := by
    intro L b i k h hik j hj
    have := h j hj
    rwa [List.getElem?_append_left (by omega)] at this
  have hsnoc' : ∀ L : List Bool, ∀ b, (∀ i k, freeFrom L i k → i + k ≤ L.length → freeFrom (L ++ [b]) i k) := by
    intro L b i k h hik j hj
    rw [List.getElem?_append_left (by omega)]
    exact h j hj
  generalize hn : L.length = n
  induction n generalizing L with
  | zero =>
    have : L = [] := List.eq_nil_of_length_eq_zero hn
    subst this
    refine ⟨⟨Nat.le_refl _, fun j hj => absurd hj (by simp [scan]), fun h => absurd h (by simp [scan])⟩, ⟨0, by simp [scan], fun j hj => absurd hj (by simp [scan])⟩, ?_⟩
    intro i k _ h
    simp only [scan]; omega
  | succ n ih =>
    obtain ⟨M, b, rfl⟩ : ∃ M b, L = M ++ [b] := by
      have hne : L ≠ [] := by intro e; subst e; simp at hn
      exact ⟨L.dropLast, L.getLast hne, (List.dropLast_concat_getLast hne).symm⟩
    have hM : M.length = n := by simpa using hn
    obtain ⟨⟨h1, h2, h3⟩, ⟨i0, h4, h5⟩, h6⟩ := ih M hM
    rw [scan_snoc]
    cases b with
    | true =>
      simp only [if_true]
      refine ⟨⟨by omega, fun j hj => absurd hj (by omega), fun _ => ?_⟩, ⟨i0, by omega, by
        rw [Nat.max_eq_left (by omega)]; exact hsnoc' M true i0 _ h5 (by omega)⟩, ?_⟩
      · rw [show n + 1 - 0 - 1 = M.length by omega, List.getElem?_append_right (by omega)]
        simp
      · intro i k hf hik
        rw [Nat.max_eq_left (by omega)]
        rcases Nat.lt_or_ge n (i + k) with hlt | hge
        · rcases Nat.eq_zero_or_pos k with hk0 | hk0
          · omega
          · exfalso
            have := hf (k - 1) (by omega)
            rw [show i + (k - 1) = M.length by omega, List.getElem?_append_right (by omega)] at this
            simp at this
        · exact h6 i k (hsnoc M true i k hf (by omega)) hge
    | false =>
      simp only [Bool.false_eq_true, if_false]
      have hrun : freeFrom (M ++ [false]) (n - (scan M (0, 0)).1) ((scan M (0, 0)).1 + 1) := by
        intro j hj
        rcases Nat.lt_or_ge j (scan M (0, 0)).1 with hlt | hge
        · exact hsnoc' M false _ _ h2 (by omega) j hlt
        · rw [show n - (scan M (0, 0)).1 + j = M.length by omega, List.getElem?_append_right (by omega)]
          simp
      refine ⟨⟨by omega, ?_, ?_⟩, ?_, ?_⟩
      · rw [show n + 1 - ((scan M (0, 0)).1 + 1) = n - (scan M (0, 0)).1 by omega]
        exact hrun
      · intro hlt
        have := h3 (by omega)
        rw [show n + 1 - ((scan M (0, 0)).1 + 1) - 1 = n - (scan M (0, 0)).1 - 1 by omega, List.getElem?_append_left (by omega)]
        exact this
      · rcases Nat.le_total (scan M (0, 0)).2 ((scan M (0, 0)).1 + 1) with hle | hle
        · rw [Nat.max_eq_right hle]
          exact ⟨_, by omega, hrun⟩
        · rw [Nat.max_eq_left hle]
          exact ⟨i0, by omega, hsnoc' M false i0 _ h5 (by omega)⟩
      · intro i k hf hik
        rcases Nat.lt_or_ge n (i + k) with hlt | hge
        · -- the run reaches the end
          have hk : k ≤ (scan M (0, 0)).1 + 1 := by
            rcases Nat.lt_or_ge ((scan M (0, 0)).1 + 1) k with hgt | hle
            · exfalso
              have hb := h3 (by omega)
              have := hf (k - 1 - (scan M (0, 0)).1 - 1) (by omega)
              rw [show i + (k - 1 - (scan M (0, 0)).1 - 1) = n - (scan M (0, 0)).1 - 1 by omega, List.getElem?_append_left (by omega), hb] at this
              cases this
            · exact hle
          omega
        · have := h6 i k (hsnoc M false i k hf (by omega)) hge
          omega
end Go.Proofs.Ytaahdfmbbbjmaaa
