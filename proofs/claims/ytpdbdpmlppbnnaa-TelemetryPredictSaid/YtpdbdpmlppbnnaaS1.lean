/-
  Walks: telemetry.Order's comparison; insertion sort of a row of one's own by it.
-/
import Derived.Test.YtpdbdpmlppbnnaaU13
import Derived.BigGuard
import Derived.BigCall
namespace Go.Proofs.Ytpdbdpmlppbnnaa
open Go.RowKit Go.Shelf

def cmpI (x y : Int) : Int := if x < y then -1 else if y < x then 1 else 0
theorem cmpI_lt (x y : Int) : cmpI x y < 0 ↔ x < y := by
  unfold cmpI
  split
  · simp [*]
  · split <;> simp [*]
theorem compare_calls (x y : Int) (w : World) : Calls Try.prog 50 #[.int .i64 x, .int .i64 y] w fun e w' => e = .returned (.int .i64 (cmpI x y)) ∧ w' = w := by
  obtain ⟨z, hz⟩ : ∃ z, cmpI x y = z := ⟨_, rfl⟩
  rw [hz]
  rw [cmpI] at hz
  have HZ := bx hz
  clear hz
  go_enter Try.func50, Try.ntmps50
  go_wp2
  all_goals
    go_ret
    refine ⟨ret_int ?_, rfl⟩
    rw [← HZ.out]
    split
    · first | rfl | (exfalso; omega)
    · first | rfl | (exfalso; omega) | (split <;> first | rfl | (exfalso; omega))
/-- the priorities P, in a box at pb; they lie below lo -/
structure PrioIn (w : World) (lo pb : Nat) (P : List Int) : Prop where
  out : ∃ A c, w.heap[pb]? = some (.cells #[.slice A P.length c] 22 (0, 0)) ∧ Sl w lo (.slice A P.length c) P.length (ic P)
theorem PrioIn.grown {w w' : World} {lo pb g : Nat} {P : List Int} {cs : Array Value} (h : PrioIn w lo pb P) (k : w.grownBy w' (some g)) (hg : w.heap[g]? = some (.cells cs 3 (0, 0))) (hlo : lo ≤ g) (hlo2 : lo ≤ w.heap.size) : PrioIn w' lo pb P := by
  obtain ⟨A, c, h1, h2⟩ := h.out
  refine ⟨A, c, ?_, h2.below ⟨k.os, k.tape, k.output, k.size, fun i hi => k.block i (by omega) (by simp; omega)⟩⟩
  rw [k.block pb (Array.getElem?_eq_some_iff.1 h1).1 (by have := cells_ne h1 hg (by decide); simpa using this)]
  exact h1
theorem ord1_calls (pb lo : Nat) (P : List Int) (x y : Nat) (w : World) (h : PrioIn w lo pb P) (hx : x < P.length) (hy : y < P.length) :
    Calls Try.prog 49 #[.int .i64 x, .int .i64 y, .pointer (some ⟨pb, 0, none⟩)] w fun e w' => e = .returned (.int .i64 (cmpI (P.getD y 0) (P.getD x 0))) ∧ ∃ q, w' = w.drewN q := by
  obtain ⟨A, c, h1, h2⟩ := h.out
  have c0 : w.cell? ⟨pb, 0, none⟩ = some (.slice A P.length c) := by rw [cell_of_row _ _ _ _ _ _ h1]; rfl
  obtain ⟨b, off, hA, _, v1⟩ := ints_at h2 hx
  obtain ⟨b', off', hA', _, v2⟩ := ints_at h2 hy
  rw [hA] at hA'
  injection hA' with hA'
  injection hA' with e1 e2 _
  subst e1 e2 hA
  rw [getD_nat P _ hx, getD_nat P _ hy]
  generalize P[x] = vx at *
  generalize P[y] = vy at *
  obtain ⟨n, hn⟩ : ∃ n, P.length = n := ⟨_, rfl⟩
  rw [hn] at c0 hx hy
  have z1 : (x : Int) < (n : Int) := by omega
  have z2 : (y : Int) < (n : Int) := by omega
  have z3 : (0 : Int) ≤ (x : Int) := by omega
  have z4 : (0 : Int) ≤ (y : Int) := by omega
  clear h h1 h2 hn
  go_enter Try.func49, Try.ntmps49
  go_wp2
  go_quiet (first | (go_at_call 50; refine Calls.quiet_of_same (compare_calls _ _ _)))
  go_wp2
  go_ret
  exact ⟨rfl, _, rfl⟩
end Go.Proofs.Ytpdbdpmlppbnnaa
