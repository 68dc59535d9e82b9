/-
  The plain laws of layer 12, continued: the longest run counted in two ways, rotation, the path of a turn. Nothing here speaks of the program.
-/
import Derived.Test.YtaahdfmbbbjmaaaM2
namespace Go.Proofs.Ytaahdfmbbbjmaaa
def bestOf (n : Nat) (f : Nat → Bool) : Nat := (scan ((List.range n).map f) (0, 0)).2
theorem best_iff {n k : Nat} {f : Nat → Bool} : k ≤ bestOf n f ↔ ∃ i, i + k ≤ n ∧ ∀ j, j < k → f (i + j) = false := by
  obtain ⟨_, ⟨i0, h1, h2⟩, h3⟩ := scan_spec ((List.range n).map f)
  have hl : ((List.range n).map f).length = n := by simp
  have hg : ∀ i, i < n → ((List.range n).map f)[i]? = some (f i) := by intro i hi; simp [hi]
  rw [hl] at h1 h3
  constructor
  · intro h
    refine ⟨i0, by unfold bestOf at h; omega, fun j hj => ?_⟩
    have := h2 j (by unfold bestOf at h; omega)
    rw [hg _ (by unfold bestOf at h; omega)] at this
    exact Option.some.inj this
  · rintro ⟨i, hi, hf⟩
    exact h3 i k (fun j hj => by rw [hg _ (by omega), hf j hj]) hi
theorem best_le (n : Nat) (f : Nat → Bool) : bestOf n f ≤ n := by
  obtain ⟨i, h, _⟩ := (best_iff (k := bestOf n f) (f := f) (n := n)).1 (Nat.le_refl _)
  omega
def Run (l : ArcL) (k : Nat) : Prop := ∃ i : Int, Clear l i (i + k - 1)
def Hit (l : ArcL) : Prop := ∃ x, av l x = true
theorem run_720 {l : ArcL} {k : Nat} (hk : k ≤ 360) : k ≤ bestOf 720 (fun d => av l d) ↔ Run l k := by
  rw [best_iff]
  constructor
  · rintro ⟨i, hi, hf⟩
    refine ⟨i, fun x h1 h2 => ?_⟩
    have := hf (x - i).toNat (by omega)
    rwa [show ((i + (x - i).toNat : Nat) : Int) = x by omega] at this
  · rintro ⟨i, hc⟩
    refine ⟨(i % 360).toNat, by omega, fun j hj => ?_⟩
    rw [← hc (i + j) (by omega) (by omega)]
    exact av_congr l (by omega)
theorem run_win {l : ArcL} {k : Nat} {s : Int} (hs : av l s = true) : k ≤ bestOf 360 (fun d => av l (s + d)) ↔ Run l k := by
  rw [best_iff]
  constructor
  · rintro ⟨i, hi, hf⟩
    refine ⟨s + i, fun x h1 h2 => ?_⟩
    have := hf (x - s - i).toNat (by omega)
    rwa [show s + ((i + (x - s - i).toNat : Nat) : Int) = x by omega] at this
  · rintro ⟨i, hc⟩
    by_cases hk0 : k = 0
    · exact ⟨0, by omega, fun j hj => absurd hj (by omega)⟩
    -- i' in [s, s + 359]
    have hne : ∀ j : Nat, j < k → (i + j - s) % 360 ≠ 0 := by
      intro j hj h0
      have := hc (i + j) (by omega) (by omega)
      rw [av_congr l (show (i + j) % 360 = s % 360 by omega), hs] at this
      cases this
    have h0 := hne 0 (by omega)
    refine ⟨((i - s) % 360).toNat, ?_, fun j hj => ?_⟩
    · rcases Nat.lt_or_ge 360 (((i - s) % 360).toNat + k) with hgt | hle
      · exfalso
        refine hne (360 - (i - s) % 360).toNat (by omega) (by omega)
      · exact hle
    · rw [← hc (i + j) (by omega) (by omega)]
      exact av_congr l (by omega)
theorem run_360 {l : ArcL} (h : Hit l) {k : Nat} (hr : Run l k) : k < 360 := by
  obtain ⟨x, hx⟩ := h
  obtain ⟨i, hc⟩ := hr
  rcases Nat.lt_or_ge k 360 with hlt | hge
  · exact hlt
  · exfalso
    have := hc (i + (x - i) % 360) (by omega) (by omega)
    rw [av_congr l (show (i + (x - i) % 360) % 360 = x % 360 by omega), hx] at this
    cases this
def anyHit (l : ArcL) : Bool := (List.range 720).any fun d => av l (d : Int)
theorem anyHit_iff {l : ArcL} : anyHit l = true ↔ Hit l := by
  unfold anyHit Hit
  rw [List.any_eq_true]
  constructor
  · rintro ⟨d, _, h⟩; exact ⟨_, h⟩
  · rintro ⟨x, h⟩
    refine ⟨(x % 360).toNat, by rw [List.mem_range]; omega, ?_⟩
    rw [← h]
    exact av_congr l (by omega)
def worstOf (l : ArcL) : Int := if anyHit l then max ((bestOf 720 fun d => av l d : Nat) - 1 : Int) 0 else 180
theorem worst_win {l : ArcL} {s : Int} (hs : av l s = true) : max ((bestOf 360 fun d => av l (s + d) : Nat) - 1 : Int) 0 = worstOf l := by
  unfold worstOf
  have hh : Hit l := ⟨s, hs⟩
  rw [if_pos (anyHit_iff.2 hh)]
  have h1 : bestOf 360 (fun d => av l (s + d)) ≤ 360 := best_le _ _
  have e : bestOf 360 (fun d => av l (s + d)) = bestOf 720 (fun d => av l d) := by
    have a1 := (run_win hs).1 (Nat.le_refl (bestOf 360 (fun d => av l (s + d))))
    have a2 := (run_720 h1).2 a1
    have b0 : bestOf 720 (fun d => av l d) < 360 := by
      rcases Nat.lt_or_ge (bestOf 720 (fun d => av l d)) 360 with hlt | hge
      · exact hlt
      · exact absurd (run_360 hh ((run_720 (Nat.le_refl 360)).1 hge)) (by omega)
    have b1 := (run_720 (by omega)).1 (Nat.le_refl (bestOf 720 (fun d => av l d)))
    have b2 := (run_win hs).2 b1
    omega
  rw [e]
theorem worst_congr {l m : ArcL} (hr : ∀ k, Run l k ↔ Run m k) (hh : Hit l ↔ Hit m) : worstOf l = worstOf m := by
  unfold worstOf
  by_cases h : Hit l
  · rw [if_pos (anyHit_iff.2 h), if_pos (anyHit_iff.2 (hh.1 h))]
    have key : ∀ {l m : ArcL}, Hit l → (∀ k, Run l k ↔ Run m k) → bestOf 720 (fun d => av l d) ≤ bestOf 720 (fun d => av m d) := by
      intro l m hl hr
      have b0 : bestOf 720 (fun d => av l d) < 360 := by
        rcases Nat.lt_or_ge (bestOf 720 (fun d => av l d)) 360 with hlt | hge
        · exact hlt
        · exact absurd (run_360 hl ((run_720 (Nat.le_refl 360)).1 hge)) (by omega)
      have b1 := (run_720 (by omega)).1 (Nat.le_refl (bestOf 720 (fun d => av l d)))
      exact (run_720 (by omega)).2 ((hr _).1 b1)
    have h1 := key h hr
    have h2 := key (hh.1 h) (fun k => (hr k).symm)
    rw [show bestOf 720 (fun d => av l d) = bestOf 720 (fun d => av m d) by omega]
  · have e1 : anyHit l = false := by rw [← Bool.not_eq_true, anyHit_iff]; exact h
    have e2 : anyHit m = false := by rw [← Bool.not_eq_true, anyHit_iff]; exact fun x => h (hh.2 x)
    simp only [e1, e2, Bool.false_eq_true, if_false]
theorem worst_none {l : ArcL} (h : ∀ s : Int, 0 ≤ s → s < 360 → av l s = false) : worstOf l = 180 := by
  unfold worstOf
  rw [if_neg]
  rw [anyHit_iff]
  rintro ⟨x, hx⟩
  rw [← av_mod, h _ (by omega) (by omega)] at hx
  cases hx
theorem turn_le_worst {l : ArcL} {a b : Int} (h : (turn l a b).2 = 0) : (turn l a b).1 ≤ worstOf l ∧ 0 - (turn l a b).1 ≤ worstOf l := by
  have hf := turn_ok_free h
  have hb := turn_bd l a b
  by_cases hh : Hit l
  · unfold worstOf
    rw [if_pos (anyHit_iff.2 hh)]
    generalize (turn l a b).1 = d at *
    have hr : Run l (d.natAbs + 1) := by
      by_cases hd : d < 0
      · rw [fr_neg hd] at hf
        exact ⟨a + d, clear_mono hf (by omega) (by omega)⟩
      · rw [fr_pos (by omega)] at hf
        exact ⟨a, clear_mono hf (by omega) (by omega)⟩
    have hk := (run_720 (by omega)).2 hr
    omega
  · have hz : ∀ y, av l y = false := by
      intro y
      rw [← Bool.not_eq_true]
      exact fun e => hh ⟨y, e⟩
    rw [worst_none (fun s _ _ => hz s)]
    have hall : ∀ d, fr l a d = true := by
      intro d
      rw [fr_iff]
      exact fun k _ => hz _
    have hu := up_bd a b
    unfold turn
    simp only [hall, Bool.not_true, Bool.false_or, Bool.true_and, if_true]
    split
    · simp
    · split
      · rename_i h; simp only [decide_eq_true_eq] at h; refine ⟨?_, ?_⟩ <;> simp only <;> omega
      · rename_i h; simp only [decide_eq_true_eq] at h; refine ⟨?_, ?_⟩ <;> simp only <;> omega

def rot (l : ArcL) (n : Int) : ArcL := l.map fun a => ((a.1 + n) % 360, (a.2 + n) % 360)
theorem av_rot (l : ArcL) (n d : Int) : av (rot l n) (d + n) = av l d := by
  rw [av_eq, av_eq, rot, List.any_map]
  congr 1
  funext a
  simp only [Function.comp, inArc]
  rw [show (d + n - (a.1 + n) % 360) % 360 = (d - a.1) % 360 by omega, show ((a.2 + n) % 360 - (a.1 + n) % 360) % 360 = (a.2 - a.1) % 360 by omega]
theorem fr_rot (l : ArcL) (n a d : Int) : fr (rot l n) (a + n) d = fr l a d := by
  apply bool_ext
  rw [fr_iff, fr_iff]
  have e : ∀ k : Nat, stepTo (a + n) d k = stepTo a d k + n := by intro k; unfold stepTo; split <;> omega
  simp only [e, av_rot]
theorem turn_rot (l : ArcL) (n a b : Int) : turn (rot l n) (a + n) (b + n) = turn l a b := by
  have e : upOf (a + n) (b + n) = upOf a b := by unfold upOf; omega
  unfold turn
  simp only [e, fr_rot]
theorem worst_rot (l : ArcL) (n : Int) : worstOf (rot l n) = worstOf l := by
  have hav : ∀ y, av (rot l n) y = av l (y - n) := by intro y; rw [← av_rot l n (y - n)]; congr 1; omega
  apply worst_congr
  · intro k
    constructor
    · rintro ⟨i, hc⟩
      refine ⟨i - n, fun x h1 h2 => ?_⟩
      have := hc (x + n) (by omega) (by omega)
      rwa [av_rot] at this
    · rintro ⟨i, hc⟩
      refine ⟨i + n, fun x h1 h2 => ?_⟩
      rw [hav]
      exact hc _ (by omega) (by omega)
  · constructor
    · rintro ⟨x, h⟩; exact ⟨x - n, by rw [← hav]; exact h⟩
    · rintro ⟨x, h⟩; exact ⟨x + n, by rw [av_rot]; exact h⟩
theorem okArcs_rot (l : ArcL) (n : Int) : OkArcs (rot l n) := by
  intro a ha
  simp only [rot, List.mem_map] at ha
  obtain ⟨x, _, rfl⟩ := ha
  simp only
  omega
/-- the valid arcs that are made of arbitrary ones -/
def madeArc (a : Int × Int) : Int × Int := (a.1 % 360, (a.1 + a.2 % 360 % 100) % 360)
def made (l : ArcL) : ArcL := (l.take 4).map madeArc
theorem okArcs_made (l : ArcL) : OkArcs (made l) := by
  intro a ha
  simp only [made, List.mem_map] at ha
  obtain ⟨x, _, rfl⟩ := ha
  simp only [madeArc]
  omega
theorem made_len (l : ArcL) : (made l).length ≤ 4 := by simp [made]; omega
theorem okArcs_append {l m : ArcL} (h1 : OkArcs l) (h2 : OkArcs m) : OkArcs (l ++ m) := by
  intro a ha
  rcases List.mem_append.1 ha with h | h
  · exact h1 a h
  · exact h2 a h

/- THE PATH -/
theorem ticks_zero {r : Int} (h1 : 1 ≤ r) : ticks 0 r = 0 := by
  unfold ticks
  simp only [Int.natAbs_zero]
  exact Int.ediv_eq_zero_of_lt (by omega) (by omega)
theorem ticks_pos {x r : Int} (h1 : 1 ≤ r) (hx : x ≠ 0) : 1 ≤ ticks x r := by
  unfold ticks
  have : 1 * r ≤ (x.natAbs : Int) + r - 1 := by omega
  exact (Int.le_ediv_iff_mul_le (by omega)).2 this
theorem ticks_step {x r : Int} (h1 : 1 ≤ r) (hx : x ≠ 0) : ticks (x - stepD x r) r = ticks x r - 1 := by
  have h : ((x - stepD x r).natAbs : Int) + r - 1 + r = (x.natAbs : Int) + r - 1 ∨ x.natAbs ≤ r := by
    unfold stepD; omega
  rcases h with h | h
  · unfold ticks
    rw [← h, Int.add_ediv_of_dvd_right (Int.dvd_refl r), Int.ediv_self (by omega)]
    omega
  · have e : x - stepD x r = 0 := by unfold stepD; omega
    rw [e, ticks_zero h1]
    have : ticks x r = 1 := by
      have ha := ticks_pos h1 hx
      have hb : ticks x r < 2 := by
        unfold ticks
        exact Int.ediv_lt_of_lt_mul (by omega) (by omega)
      omega
    omega
theorem ticks_bd {x r : Int} (h1 : 1 ≤ r) (hx : -359 ≤ x) (hx' : x ≤ 359) : 0 ≤ ticks x r ∧ ticks x r ≤ 359 := by
  unfold ticks
  refine ⟨Int.ediv_nonneg (by omega) (by omega), ?_⟩
  have : ((x.natAbs : Int) + r - 1) / r < 360 := by
    apply Int.ediv_lt_of_lt_mul (by omega)
    have : 360 * r = r + 359 * r := by omega
    have h2 : 359 * 1 ≤ 359 * r := by omega
    omega
  omega
theorem stepD_same {x r : Int} (h1 : 1 ≤ r) : (0 ≤ x → 0 ≤ stepD x r ∧ stepD x r ≤ x) ∧ (x ≤ 0 → x ≤ stepD x r ∧ stepD x r ≤ 0) ∧ -r ≤ stepD x r ∧ stepD x r ≤ r := by
  unfold stepD; omega
/-- what holds at the head of each round of the path's loop -/
structure PathAt (l : ArcL) (s d r : Int) (at_ left n : Int) : Prop where
  at0 : at_ = (s + (d - left)) % 360
  sgn : 0 ≤ left ∧ left ≤ d ∨ d ≤ left ∧ left ≤ 0
  n0 : 0 ≤ n
  tk : ticks left r + n = ticks d r
theorem PathAt.step {l : ArcL} {s d r at_ left n : Int} (h : PathAt l s d r at_ left n) (h1 : 1 ≤ r) (hx : left ≠ 0) :
    PathAt l s d r ((at_ % 360 + stepD left r) % 360) (left - stepD left r) (n + 1) := by
  obtain ⟨a0, sg, n0, tk⟩ := h
  obtain ⟨p, q, _, _⟩ := stepD_same (x := left) h1
  refine ⟨by omega, ?_, by omega, ?_⟩
  · rcases sg with sg | sg
    · have := p (by omega); omega
    · have := q (by omega); omega
  · rw [ticks_step h1 hx]; omega
theorem PathAt.free {l : ArcL} {s d r at_ left n : Int} (h : PathAt l s d r at_ left n) (hf : fr l s d = true) (h1 : 1 ≤ r) (k : Nat)
    (hk : (k : Int) ≤ max (stepD left r) (0 - stepD left r)) : av l (if left < 0 then at_ - k else at_ + k) = false := by
  obtain ⟨a0, sg, n0, tk⟩ := h
  obtain ⟨p, q, _, _⟩ := stepD_same (x := left) h1
  by_cases hl : left < 0
  · rw [if_pos hl]
    have q := q (by omega)
    rw [fr_neg (by omega)] at hf
    rw [← hf (s + (d - left) - k) (by omega) (by omega)]
    exact av_congr l (by omega)
  · rw [if_neg hl]
    have p := p (by omega)
    by_cases hd : d < 0
    · rw [← (fr_iff.1 hf) (d - left).natAbs (by omega)]
      refine av_congr l ?_
      unfold stepTo
      rw [if_pos hd]
      omega
    · rw [fr_pos (by omega)] at hf
      rw [← hf (s + (d - left) + k) (by omega) (by omega)]
      exact av_congr l (by omega)
end Go.Proofs.Ytaahdfmbbbjmaaa
