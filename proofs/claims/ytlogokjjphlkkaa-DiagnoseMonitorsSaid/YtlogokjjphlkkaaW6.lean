/-
  Walks of layer 29: monitor.Check, perigeeref29.Check.
-/
import Derived.Test.YtlogokjjphlkkaaW5
namespace Go.Proofs.Ytlogokjjphlkkaa
open Go.RowKit Go.Shelf

def checkM (m : Mon) (params : Int) : Int := if m.par < 0 ∨ params ≤ m.par ∨ m.high < m.low ∨ m.need < 1 ∨ m.of < m.need ∨ 16 < m.of ∨ m.ev < 0 ∨ 99 < m.ev then 5 else if m.of < (m.past.length : Int) then 7 else 0
set_option maxHeartbeats 1000000 in
theorem check_calls (m : Mon) (A : Option Addr) (c : Nat) (pr : Int) (w : World) (x : Int) (hx : checkM m pr = x) :
    Calls Try.prog 54 #[.agg (mcs m (.slice A m.past.length c)), .int .i64 pr] w fun e w' => e = .returned (.int .i64 x) ∧ From w w' := by
  obtain ⟨W1, hW1⟩ : ∃ V, w.alloc (.cells (mcs m (.slice A m.past.length c)) 71) = V := ⟨_, rfl⟩
  have k1 : From w W1 := by rw [← hW1]; exact From.alloc (From.refl _) _
  have M1 : MonC W1 w.heap.size m (.slice A m.past.length c) := by rw [← hW1]; exact MonC.new w m _
  obtain ⟨a0, a1, a2, a3, a4, a5, a6, a7⟩ := M1.facts
  obtain ⟨mp, ml, mh, mn, mo, me, mps, mr⟩ := m
  simp only [checkM] at hx a0 a1 a2 a3 a4 a5 a6 a7 hW1 M1
  have HX := bx hx
  clear hx M1
  go_enter Try.func54, Try.ntmps54
  go_wp2
  all_goals
    go_ret
    refine ⟨ret_int ?_, k1⟩
    rw [← HX.out]
    split
    · first | rfl | (exfalso; omega)
    · first | rfl | (exfalso; omega) | (split <;> first | rfl | (exfalso; omega))
set_option maxHeartbeats 2000000 in
theorem refCheck_calls (m : Mon) (A : Option Addr) (c : Nat) (pr : Int) (w : World) (x : Int) (hx : checkM m pr = x) :
    Calls Try.prog 55 #[.agg (mcs m (.slice A m.past.length c)), .int .i64 pr] w fun e w' => e = .returned (.int .i64 x) ∧ From w w' := by
  obtain ⟨W1, hW1⟩ : ∃ V, w.alloc (.cells (mcs m (.slice A m.past.length c)) 71) = V := ⟨_, rfl⟩
  have k1 : From w W1 := by rw [← hW1]; exact From.alloc (From.refl _) _
  have M1 : MonC W1 w.heap.size m (.slice A m.past.length c) := by rw [← hW1]; exact MonC.new w m _
  obtain ⟨a0, a1, a2, a3, a4, a5, a6, a7⟩ := M1.facts
  obtain ⟨mp, ml, mh, mn, mo, me, mps, mr⟩ := m
  simp only [checkM] at hx a0 a1 a2 a3 a4 a5 a6 a7 hW1 M1
  have HX := bx hx
  clear hx M1
  by_cases h0 : mp < 0
  · have d0 : decide (mp < 0) = true := by simpa using h0
    go_enter Try.func55, Try.ntmps55
    go_wp2
    all_goals
      go_ret
      refine ⟨ret_int ?_, k1⟩
      rw [← HX.out]
      split
      · first | rfl | (exfalso; omega)
      · first | rfl | (exfalso; omega) | (split <;> first | rfl | (exfalso; omega))
  have d0 : decide (mp < 0) = false := by simpa using h0
  by_cases h1 : pr ≤ mp
  · have d1 : decide (pr ≤ mp) = true := by simpa using h1
    go_enter Try.func55, Try.ntmps55
    go_wp2
    all_goals
      go_ret
      refine ⟨ret_int ?_, k1⟩
      rw [← HX.out]
      split
      · first | rfl | (exfalso; omega)
      · first | rfl | (exfalso; omega) | (split <;> first | rfl | (exfalso; omega))
  have d1 : decide (pr ≤ mp) = false := by simpa using h1
  by_cases h2 : mh < ml
  · have d2 : decide (mh < ml) = true := by simpa using h2
    go_enter Try.func55, Try.ntmps55
    go_wp2
    all_goals
      go_ret
      refine ⟨ret_int ?_, k1⟩
      rw [← HX.out]
      split
      · first | rfl | (exfalso; omega)
      · first | rfl | (exfalso; omega) | (split <;> first | rfl | (exfalso; omega))
  have d2 : decide (mh < ml) = false := by simpa using h2
  by_cases h3 : mn < 1
  · have d3 : decide (mn < 1) = true := by simpa using h3
    go_enter Try.func55, Try.ntmps55
    go_wp2
    all_goals
      go_ret
      refine ⟨ret_int ?_, k1⟩
      rw [← HX.out]
      split
      · first | rfl | (exfalso; omega)
      · first | rfl | (exfalso; omega) | (split <;> first | rfl | (exfalso; omega))
  have d3 : decide (mn < 1) = false := by simpa using h3
  by_cases h4 : mo < mn
  · have d4 : decide (mo < mn) = true := by simpa using h4
    go_enter Try.func55, Try.ntmps55
    go_wp2
    all_goals
      go_ret
      refine ⟨ret_int ?_, k1⟩
      rw [← HX.out]
      split
      · first | rfl | (exfalso; omega)
      · first | rfl | (exfalso; omega) | (split <;> first | rfl | (exfalso; omega))
  have d4 : decide (mo < mn) = false := by simpa using h4
  by_cases h5 : 16 < mo
  · have d5 : decide (16 < mo) = true := by simpa using h5
    go_enter Try.func55, Try.ntmps55
    go_wp2
    all_goals
      go_ret
      refine ⟨ret_int ?_, k1⟩
      rw [← HX.out]
      split
      · first | rfl | (exfalso; omega)
      · first | rfl | (exfalso; omega) | (split <;> first | rfl | (exfalso; omega))
  have d5 : decide (16 < mo) = false := by simpa using h5
  by_cases h6 : me < 0
  · have d6 : decide (me < 0) = true := by simpa using h6
    go_enter Try.func55, Try.ntmps55
    go_wp2
    all_goals
      go_ret
      refine ⟨ret_int ?_, k1⟩
      rw [← HX.out]
      split
      · first | rfl | (exfalso; omega)
      · first | rfl | (exfalso; omega) | (split <;> first | rfl | (exfalso; omega))
  have d6 : decide (me < 0) = false := by simpa using h6
  by_cases h7 : 99 < me
  · have d7 : decide (99 < me) = true := by simpa using h7
    go_enter Try.func55, Try.ntmps55
    go_wp2
    all_goals
      go_ret
      refine ⟨ret_int ?_, k1⟩
      rw [← HX.out]
      split
      · first | rfl | (exfalso; omega)
      · first | rfl | (exfalso; omega) | (split <;> first | rfl | (exfalso; omega))
  have d7 : decide (99 < me) = false := by simpa using h7
  go_enter Try.func55, Try.ntmps55
  go_wp2
  all_goals
    go_ret
    refine ⟨ret_int ?_, k1⟩
    rw [← HX.out]
    split
    · first | rfl | (exfalso; omega)
    · first | rfl | (exfalso; omega) | (split <;> first | rfl | (exfalso; omega))
end Go.Proofs.Ytlogokjjphlkkaa
