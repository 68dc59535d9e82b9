/-
  Walks of layer 30: perigeeref30.Same.
-/
import Derived.Test.YtgfmnolghbiedaaK12
namespace Go.Proofs.Ytgfmnolghbiedaa
open Go.RowKit

theorem take_eqL {xs ys : List (List Int)} {k : Nat} (h1 : k < xs.length) (h2 : k < ys.length) : (xs.take (k + 1) = ys.take (k + 1)) ↔ (xs.take k = ys.take k ∧ xs[k] = ys[k]) := by
  rw [List.take_succ_eq_append_getElem h1, List.take_succ_eq_append_getElem h2]
  constructor
  · intro h
    have := List.append_inj h (by simp; omega)
    exact ⟨this.1, by simpa using this.2⟩
  · rintro ⟨h, e⟩
    rw [h, e]
theorem same_val (A B : Option Addr) (c d : Nat) (xs ys : List Int) (w : World) (h1 : Ints w w.heap.size A xs) (h2 : Ints w w.heap.size B ys) (hm : xs.length ≤ 9223372036854775807) (t : Bool) (ht : decide (xs = ys) = t) :
    Calls Try.prog 19 #[.slice A xs.length c, .slice B ys.length d] w fun e w' => e = .returned (.bool t) ∧ ∃ m, w' = w.drewN m := by
  have := same_calls A B c d xs ys w h1 h2 hm
  unfold SamePost at this
  rwa [ht] at this
/-- what Same answers -/
def SamePostL (xs ys : List (List Int)) (w : World) (e : Ending) (w' : World) : Prop := e = .returned (.bool (decide (xs = ys))) ∧ ∃ m, w' = w.drewN m
theorem sameL_calls (A B : Option Addr) (c d : Nat) (xs ys : List (List Int)) (w : World) (h1 : Lists w w.heap.size A xs) (h2 : Lists w w.heap.size B ys) (hm : xs.length ≤ 9223372036854775807) :
    Calls Try.prog 20 #[.slice A xs.length c, .slice B ys.length d] w (SamePostL xs ys w) := by
  by_cases hl : xs.length = ys.length
  case neg =>
    have hd : decide (xs = ys) = false := decide_eq_false (fun e => hl (by rw [e]))
    have hi : ((xs.length : Int) != (ys.length : Int)) = true := by simp; omega
    have HD := bx hd
    clear hd
    go_enter Try.func20, Try.ntmps20
    go_wp2
    go_ret
    exact ⟨ret_bool HD.out.symm, 0, rfl⟩
  have hi : ((xs.length : Int) != (ys.length : Int)) = false := by simp; omega
  have HL := bx hl
  clear hl
  go_enter Try.func20, Try.ntmps20
  go_wp2
  go_loopw [5] (fun i wr => ∃ k : Nat, k ≤ xs.length ∧ i = .int .i64 k ∧ xs.take k = ys.take k ∧ ∃ m, wr = w.drewN m) (fun i _ => xs.length - (intOf i).toNat)
  case atStart => exact ⟨0, Nat.zero_le _, rfl, by simp, 0, rfl⟩
  case round =>
    obtain ⟨k, hk, rfl, hno, m, hm'⟩ := hrel
    have hbw : Below w.heap.size w wr := by rw [hm']; exact below_drewN (Below.refl _ _) m
    have HM := bx hm'
    have Hno := bx hno
    clear hno hm'
    by_cases hlt : k < xs.length
    · obtain ⟨b, off, A1, c1, rfl, hb, g1, i1, l1⟩ := ((h1.below hbw).more hbw.size).at_ k hlt
      obtain ⟨b', off', A2, c2, rfl, hb', g2, i2, l2⟩ := ((h2.below hbw).more hbw.size).at_ k (by have := HL.out; omega)
      have Ht := bx (@take_eqL xs ys k hlt (by have := HL.out; omega))
      have z1 : (0 : Int) ≤ (k : Int) := by omega
      have z2 : (k : Int) < (xs.length : Int) := by omega
      have z3 : (k : Int) < (ys.length : Int) := by have := HL.out; omega
      generalize xs[k] = x at *
      generalize ys[k]'(by have := HL.out; omega) = y at *
      cases hd : decide (x = y)
      · have hxy : ¬ x = y := of_decide_eq_false hd
        have HD2 := bx hd
        clear hd
        have HD := bx (show decide (xs = ys) = false from decide_eq_false (fun e => hxy (Ht.out.1 (by rw [e])).2))
        clear hxy
        go_wp2_with fail
        go_quiet ((go_at_call 19; exact Calls.quiet_of (same_val _ _ _ _ x y _ (by rw [size_drewN]; exact i1.drewN _) (by rw [size_drewN]; exact i2.drewN _) l1 false HD2.out)))
        go_wp2
        go_ret
        exact ⟨ret_bool HD.out.symm, m + nq, by rw [HM.out, drewN_add]⟩
      · have HD2 := bx hd
        clear hd
        go_wp2_with fail
        go_quiet ((go_at_call 19; exact Calls.quiet_of (same_val _ _ _ _ x y _ (by rw [size_drewN]; exact i1.drewN _) (by rw [size_drewN]; exact i2.drewN _) l1 true HD2.out)))
        go_wp2
        go_roundw
        case rel => exact ⟨k + 1, by omega, by go_num, Ht.out.2 ⟨Hno.out, of_decide_eq_true HD2.out⟩, m + nq, by rw [HM.out, drewN_add]⟩
        case measure => simp [intOf]; omega
    · obtain rfl : k = xs.length := by omega
      have HD := bx (show decide (xs = ys) = true from decide_eq_true (by have := Hno.out; rwa [List.take_of_length_le (Nat.le_refl _), List.take_of_length_le (by have := HL.out; omega)] at this))
      go_wp2
      go_ret
      exact ⟨ret_bool HD.out.symm, m, HM.out⟩
end Go.Proofs.Ytgfmnolghbiedaa
