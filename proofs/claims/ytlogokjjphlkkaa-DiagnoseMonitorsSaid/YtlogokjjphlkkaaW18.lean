/-
  Walks of layer 29: perigeeref29.Same of equal monitors.
-/
import Derived.Test.YtlogokjjphlkkaaW17
namespace Go.Proofs.Ytlogokjjphlkkaa
open Go.RowKit Go.Shelf

set_option maxHeartbeats 4000000 in
set_option maxRecDepth 100000 in
theorem same29_calls (m : Mon) (A B : Option Addr) (c d : Nat) (w : World) (hA : Bools w (.slice A m.past.length c) m.past) (hB : Bools w (.slice B m.past.length d) m.past) (hm : m.past.length ≤ 1000) :
    Calls Try.prog 60 #[.agg (mcs m (.slice A m.past.length c)), .agg (mcs m (.slice B m.past.length d))] w fun e w' => e = .returned (.bool true) ∧ From w w' := by
  obtain ⟨W1, hW1⟩ : ∃ V, w.alloc (.cells (mcs m (.slice A m.past.length c)) 71) = V := ⟨_, rfl⟩
  obtain ⟨W2, hW2⟩ : ∃ V, W1.alloc (.cells (mcs m (.slice B m.past.length d)) 71) = V := ⟨_, rfl⟩
  have k1 : From w W1 := by rw [← hW1]; exact From.alloc (From.refl _) _
  have k2 : From W1 W2 := by rw [← hW2]; exact From.alloc (From.refl _) _
  have s1 : W1.heap.size = w.heap.size + 1 := by rw [← hW1]; simp
  have M1 : MonC W2 w.heap.size m (.slice A m.past.length c) := MonC.from (by rw [← hW1]; exact MonC.new w m _) k2
  have M2 : MonC W2 (w.heap.size + 1) m (.slice B m.past.length d) := by rw [← hW2, ← s1]; exact MonC.new W1 _ _
  have HA := bx (hA.from (k1.trans k2))
  have HB := bx (hB.from (k1.trans k2))
  have HM1 := bx M1
  have HM2 := bx M2
  obtain ⟨a0, a1, a2, a3, a4, a5, a6, a7⟩ := M1.facts
  obtain ⟨b0, b1, b2, b3, b4, b5, b6, b7⟩ := M2.facts
  clear M1 M2 hA hB
  obtain ⟨mp, ml, mh, mn, mo, me, mps, mr⟩ := m
  simp only at a0 a1 a2 a3 a4 a5 a6 a7 b0 b1 b2 b3 b4 b5 b6 b7 HA HB hm
  go_enter Try.func60, Try.ntmps60
  go_wp2_with fail
  clear hW1 hW2
  clear a0 a1 a2 a3 a4 a5 a6 a7 b0 b1 b2 b3 b4 b5 b6 b7
  go_loopw [5] (fun i wr => ∃ k : Nat, k ≤ mps.length ∧ i = .int .i64 k ∧ From W2 wr) (fun i _ => mps.length - (intOf i).toNat)
  case atStart => exact ⟨0, Nat.zero_le _, rfl, From.refl _⟩
  case round =>
    obtain ⟨k, hk, rfl, hfr⟩ := hrel
    obtain ⟨_, _, _, _, _, _, a6, _⟩ := (HM1.out.from hfr).facts
    obtain ⟨_, _, _, _, _, _, b6, _⟩ := (HM2.out.from hfr).facts
    by_cases hlt : k < mps.length
    · obtain ⟨ba, oa, rfl, _, v1⟩ := bools_at (HA.out.from hfr) hlt
      obtain ⟨bb, ob, rfl, _, v2⟩ := bools_at (HB.out.from hfr) hlt
      have z1 : (k : Int) < (mps.length : Int) := by omega
      have z2 : (0 : Int) ≤ (k : Int) := by omega
      generalize mps[k] = y at *
      have e1 : (y != y) = false := by simp
      go_wp2_with fail
      go_quiet (fail)
      go_wp2
      go_roundw
      case rel => exact ⟨k + 1, by omega, by go_num, From.drewN hfr nq⟩
      case measure => simp [intOf]; omega
    · obtain rfl : k = mps.length := by omega
      go_wp2
      go_ret
      exact ⟨rfl, (k1.trans k2).trans hfr⟩
end Go.Proofs.Ytlogokjjphlkkaa
