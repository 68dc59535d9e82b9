/-
  Walks of layer 29: monitor.band.outside, slices.Clone of truth values, monitor.seen.
-/
import Derived.Test.YtlogokjjphlkkaaM1
namespace Go.Proofs.Ytlogokjjphlkkaa
open Go.RowKit Go.Shelf

theorem outside_calls (lo hi v : Int) (w : World) :
    Calls Try.prog 199 #[.agg #[.int .i64 lo, .int .i64 hi], .int .i64 v] w fun e w' => e = .returned (.bool (decide (v < lo) || decide (hi < v))) ∧ From w w' := by
  obtain ⟨W1, hW1⟩ : ∃ V, w.alloc (.cells #[.int .i64 lo, .int .i64 hi] 150) = V := ⟨_, rfl⟩
  have f1 : From w W1 := by rw [← hW1]; exact From.alloc (From.refl _) _
  have c0 : W1.cell? ⟨w.heap.size, 0, none⟩ = some (.int .i64 lo) := by rw [← hW1, World.cell?_alloc_new]; rfl
  have c1 : W1.cell? ⟨w.heap.size, 1, none⟩ = some (.int .i64 hi) := by rw [← hW1, World.cell?_alloc_new]; rfl
  by_cases h : v < lo
  · have d1 : decide (v < lo) = true := by simpa using h
    go_enter Try.func199, Try.ntmps199
    go_wp2
    go_ret
    exact ⟨ret_bool (by simp [h]), f1⟩
  · have d1 : decide (v < lo) = false := by simpa using h
    go_enter Try.func199, Try.ntmps199
    go_wp2
    go_ret
    exact ⟨ret_bool (by simp), f1⟩
/-- a new row of truth values -/
def BRow (w : World) (l : List Bool) (e : Ending) (w' : World) : Prop :=
  ∃ A c, e = .returned (.slice A l.length c) ∧ w'.ownsRow w.heap.size 4 1 (.slice A l.length c) l.length (bc l) ∧ From w w'
theorem cloneB_calls (v : Value) (l : List Bool) (w : World) (h : Bools w v l) (hm : l.length ≤ 1000000) :
    Calls Try.prog 108 #[v] w (BRow w l) := by
  rcases h.out with ⟨rfl, h0, _⟩ | ⟨a0, c, rfl, _⟩
  · have hl := List.eq_nil_of_length_eq_zero h0
    subst hl
    have hnil : ∀ W, (binOp .eql 32 (.slice none 0 0) (.slice none 0 0)).run Try.prog W = .ok (.bool true) W := fun W => Lib.run_eql_slice_nil_nil W _ _ Try.underlying32
    go_enter Try.func108, Try.ntmps108
    go_wp2
    go_ret
    exact ⟨none, 0, rfl, own_nil _ _ _ _, From.refl _⟩
  · have H := bx h
    clear h
    have hnil : ∀ W, (binOp .eql 32 (.slice (some a0) l.length c) (.slice none 0 0)).run Try.prog W = .ok (.bool false) W := fun W => Lib.run_eql_slice_some_nil W _ _ _ Try.underlying32
    have hb1 : From w (w.alloc (.cells #[] 4)) := From.alloc (From.refl _) _
    go_enter Try.func108, Try.ntmps108
    go_wp2_with (at_builtin; refine app_sl rfl _ _ 32 rfl Try.elBool rfl (owns_empty w w.heap.size (Nat.le_refl _) 4 1) l.length (bc l) rfl (H.out.from hb1) (by simp [bc]) (bc_one l) (by omega) (by unfold maxLen; omega) (by simp) ?_; intro A2 c2 w2 o2 g2 _)
    go_ret
    have hb : From w w2 := From.app hb1 (owns_empty w w.heap.size (Nat.le_refl _) 4 1) (Nat.le_refl _) g2
    simp only [Nat.zero_add, List.nil_append] at o2
    exact ⟨A2, c2, ret_slice (by simp), o2, hb⟩
end Go.Proofs.Ytlogokjjphlkkaa
