/-
  Walks of layer 30: perigeeref30.Bits.
-/
import Derived.Test.YtgfmnolghbiedaaDoorK10
namespace Go.Proofs.YtgfmnolghbiedaaDoor
open Go.RowKit

/-- the positions below n of the bits of a number that are 1 -/
def bitsN (x : Int) (n : Nat) : List Int := (units n).filter fun s => decide (x / 2 ^ s.toNat % 2 = 1)
theorem bitsN_succ (x : Int) (k : Nat) : bitsN x (k + 1) = if x / 2 ^ k % 2 = 1 then bitsN x k ++ [(k : Int)] else bitsN x k := by
  rw [bitsN, units_succ, List.filter_append]
  by_cases h : x / 2 ^ k % 2 = 1
  · rw [if_pos h]; simp [bitsN, h]
  · rw [if_neg h]; simp [bitsN, h]
theorem bitsN_le (x : Int) (k : Nat) : (bitsN x k).length ≤ k := by
  have := List.length_filter_le (fun s : Int => decide (x / 2 ^ s.toNat % 2 = 1)) (units k)
  simpa [bitsN, units] using this
theorem half_succ (x : Int) (k : Nat) : x / 2 ^ k / 2 = x / 2 ^ (k + 1) := by
  rw [Int.ediv_ediv_of_nonneg (by exact Int.pow_nonneg (by decide)), Int.pow_succ]
theorem half_nonneg {x : Int} (h : 0 ≤ x) (k : Nat) : 0 ≤ x / 2 ^ k := Int.ediv_nonneg h (Int.pow_nonneg (by decide))
/-- what holds at the head of each round of Bits -/
def BitsAt (x : Int) (n : Nat) (w : World) (y v i : Value) (wr : World) : Prop :=
  ∃ k : Nat, k ≤ n ∧ i = .int .i64 k ∧ y = .int .i64 (x / 2 ^ k) ∧ wr.ownsRow w.heap.size 3 1 v (bitsN x k).length (ic (bitsN x k)) ∧ Below w.heap.size w wr
theorem bits_calls (x : Int) (n : Nat) (w : World) (h0 : 0 ≤ x) (h1 : x ≤ 65535) (hn : n ≤ 1000) :
    Calls Tryd.prog 38 #[.int .i64 x, .int .i64 n] w (RowPost w (bitsN x n)) := by
  obtain ⟨i0, hi, hz0, hz1, hz2⟩ := info_parts Tryd.infoInt
  go_enter Tryd.func38, Tryd.ntmps38
  go_wp2
  go_loopw [0, 5, 6] (fun y v i wr => BitsAt x n w y v i wr) (fun _ _ i _ => n - (intOf i).toNat)
  case atStart => exact ⟨0, Nat.zero_le _, rfl, by simp, World.ownsRow_nil _ _ _ _, Below.refl _ _⟩
  case round =>
    obtain ⟨k, hk, rfl, rfl, hown, hbw⟩ := hrel
    have hy0 := half_nonneg h0 k
    have hy1 : x / 2 ^ k ≤ x := Int.ediv_le_self _ h0
    have hs := half_succ x k
    have hLe := bitsN_le x k
    have hB := bitsN_succ x k
    by_cases hlt : k < n
    · generalize x / 2 ^ k = y at *
      have t1 : y.tmod 2 = y % 2 := Int.tmod_eq_emod_of_nonneg hy0
      have t2 : y.tdiv 2 = y / 2 := Int.tdiv_eq_ediv_of_nonneg hy0
      have hsz := hbw.size
      by_cases hbit : y % 2 = 1
      · rw [if_pos hbit] at hB
        have HB := bx hB
        clear hB
        go_wp2_with (at_builtin; refine wpList_append_own _ rfl _ _ 32 rfl w.heap.size 3 i0 (.int .i64 0) 1 8 Tryd.underlying32 hi hz0 hz1 hz2 rfl (by decide) _ _ _ rfl (hown.alloc _) ⟨wr.heap.size, 0, none⟩ 1 1 [.int .i64 k] rfl rfl (cell_one_new _ _ _) (by simp [Value.oneCell']) (by unfold maxLen; omega) (by omega) (by simp; omega) ?_; intro v' w5 o5 g5 _)
        have hb5 : Below w.heap.size w w5 := (hbw.alloc hsz _).grown g5 (by simp; omega) (fun g hg => (hown.lt g hg).1)
        refine ⟨⟨k + 1, by omega, by go_num, rfl, by rw [HB.out, ic_append, List.length_append]; exact o5, hb5⟩, by simp [intOf]; omega⟩
      · rw [if_neg hbit] at hB
        have HB := bx hB
        clear hB
        go_wp2
        exact ⟨⟨k + 1, by omega, by go_num, rfl, by rw [HB.out]; exact hown, hbw⟩, by simp [intOf]; omega⟩
    · obtain rfl : k = n := by omega
      obtain ⟨A', c', rfl⟩ := slice_form hown
      go_wp2
      go_ret
      exact ⟨A', c', rfl, hown, hbw⟩
end Go.Proofs.YtgfmnolghbiedaaDoor
