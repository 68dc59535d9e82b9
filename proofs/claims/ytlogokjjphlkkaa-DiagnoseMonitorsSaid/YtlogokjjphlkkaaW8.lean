/-
  Walks: slices.SortFunc of at most 12 numbers.
-/
import Derived.Test.YtlogokjjphlkkaaW7
import Derived.Lib.Strings
import Derived.Lib.Slices
import Derived.Lib.Small
import Derived.Lib.Walk
import Derived.Lib.BitFns
namespace Go.Proofs.Ytlogokjjphlkkaa
open Go.RowKit Go.Shelf

/-- some number is answered -/
def SomeInt (w : World) (e : Ending) (w' : World) : Prop := (∃ k : Int, e = .returned (.int .i64 k)) ∧ w' = w
set_option maxRecDepth 100000 in
theorem len64_calls (x : Int) (w : World) (h0 : 0 ≤ x) (h1 : x < 256) : Calls Try.prog 172 #[.int .u64 x] w (SomeInt w) := by
  go_enter Try.func172, Try.ntmps172
  go_wp2
  all_goals (go_ret; exact ⟨⟨_, rfl⟩, rfl⟩)
theorem len_calls (x : Int) (w : World) (h0 : 0 ≤ x) (h1 : x < 256) : Calls Try.prog 148 #[.int .u64 x] w (SomeInt w) := by
  go_enter Try.func148, Try.ntmps148
  go_wp2_with fail
  refine (len64_calls x w h0 h1).mono ?_
  rintro e w1 ⟨⟨k, rfl⟩, rfl⟩
  go_wp2
  go_ret
  exact ⟨⟨k, rfl⟩, rfl⟩
set_option maxRecDepth 100000 in
theorem pdq_calls (blk off cap b : Nat) (k : Int) (d : Array Int) (w : World) (hH : Sort.Holds (Value.int .i64) w blk off d) (hb : b ≤ d.size) (hb12 : b ≤ 12) (hsz : d.size < 4611686018427387904) :
    Calls Try.prog 147 #[.slice (some ⟨blk, off, none⟩) d.size cap, .int .i64 0, .int .i64 b, .int .i64 k, .func (.func 85) #[] #[]] w fun e w' =>
      e = .returned (.tuple #[]) ∧ ∃ n, w' = Sort.putRow (Value.int .i64) (Sort.ahead w n) blk off (Sort.insertionSort Sort.ltInt d 0 b) := by
  have HI := bx (insSort_calls blk off cap 0 b d w hH (by omega) hb hsz)
  go_enter Try.func147, Try.ntmps147
  go_wp2_with fail
  refine wp_loop_rounds 1 ?_
  rw [rounds_succ]
  have d1 : decide ((b : Int) ≤ 12) = true := decide_eq_true (by omega)
  go_wp2_with fail
  refine HI.out.mono ?_
  rintro e w1 ⟨rfl, n, rfl⟩
  go_wp2
  refine bodyPost_ret (v := .tuple #[]) (by simp [results, Try.results147, go_sem]) rfl ⟨rfl, n, rfl⟩
theorem sortF_calls (blk off cap : Nat) (d : Array Int) (w : World) (hH : Sort.Holds (Value.int .i64) w blk off d) (hb12 : d.size ≤ 12) :
    Calls Try.prog 110 #[.slice (some ⟨blk, off, none⟩) d.size cap, .func (.func 85) #[] #[]] w fun e w' =>
      e = .returned (.tuple #[]) ∧ ∃ n, w' = Sort.putRow (Value.int .i64) (Sort.ahead w n) blk off (Sort.insertionSort Sort.ltInt d 0 d.size) := by
  have HL := bx (len_calls (d.size : Int) w (by omega) (by omega))
  have HP := bx (fun k => pdq_calls blk off cap d.size k d w hH (Nat.le_refl _) hb12 (by omega))
  go_enter Try.func110, Try.ntmps110
  go_wp2_with fail
  refine HL.out.mono ?_
  rintro e w1 ⟨⟨k, rfl⟩, rfl⟩
  go_wp2_with fail
  refine (HP.out k).mono ?_
  rintro e w2 ⟨rfl, n, rfl⟩
  go_wp2
  go_end0
  exact ⟨rfl, n, rfl⟩
end Go.Proofs.Ytlogokjjphlkkaa
