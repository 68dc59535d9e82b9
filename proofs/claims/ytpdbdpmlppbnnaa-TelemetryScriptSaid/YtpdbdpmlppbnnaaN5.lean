/-
  Plain law of layer 28: the reference's range check is decode's.
-/
import Derived.Test.YtpdbdpmlppbnnaaN4
namespace Go.Proofs.Ytpdbdpmlppbnnaa

theorem tdiv2_pos (d : Int) (h : 0 ≤ d) : d.tdiv 2 = d / 2 := Int.tdiv_eq_ediv_of_nonneg h
theorem tdiv2_neg (d : Int) (h : d < 0) : d.tdiv 2 = -((-d) / 2) := by
  have h1 := tdiv2_pos (-d) (by omega)
  rw [Int.neg_tdiv] at h1
  rw [← h1, Int.neg_neg]
theorem range_same (x d : Int) (hx : fitsV x) : (¬ fitsV (d.tdiv 2) ∨ ¬ fitsV (x + d)) ↔ ((d > 4294967294 ∨ d < -4294967294) ∨ ¬ fitsV (x + d)) := by
  by_cases h : fitsV (x + d)
  · have hd : -4294967294 ≤ d ∧ d ≤ 4294967294 := by unfold fitsV at h hx; omega
    have h2 := tdiv2_fits d hd
    constructor
    · rintro (h3 | h3)
      · exact absurd h2 h3
      · exact Or.inr h3
    · rintro (h3 | h3)
      · omega
      · exact Or.inr h3
  · exact ⟨fun _ => Or.inr h, fun _ => Or.inr h⟩
end Go.Proofs.Ytpdbdpmlppbnnaa
