/-
  Walks of layer 31: the specification's Check; Permits, both.
-/
import Derived.Test.YtgfmnolghbiedaaDoorP4
namespace Go.Proofs.YtgfmnolghbiedaaDoor
open Go.RowKit Go.Shelf

set_option maxHeartbeats 1600000 in
theorem refCheckM_calls (lev bud : Int) (v : Value) (l : UL) (w : World) (h : US w w.heap.size v l) (hm : l.length ≤ 9223372036854775807) (x : Int) (hx : checkM lev bud l = x) :
    Calls Tryd.prog 13 #[.agg #[.int .i64 lev, .int .i64 bud, v]] w fun e w' => e = .returned (.int .i64 x) ∧ From w w' := by
  obtain ⟨A, c, rfl⟩ := h.form
  have H := bx h
  clear h
  obtain ⟨W0, hW0⟩ : ∃ W0, w.alloc (.cells #[.int .i64 lev, .int .i64 bud, .slice A l.length c] 24) = W0 := ⟨_, rfl⟩
  have hF0 : From w W0 := by rw [← hW0]; exact From.alloc (Below.refl _ _) _
  have HM := bx (show MCell W0 w.heap.size lev bud A l.length c by rw [← hW0]; exact mcell_new w lev bud A l.length c)
  obtain ⟨q0, q1, q2⟩ := HM.out.facts
  by_cases h1 : lev < 0
  · have HX := bx (show (5 : Int) = x by rw [← hx]; simp [checkM, h1])
    clear hx
    go_enter Tryd.func13, Tryd.ntmps13
    go_wp2
    go_ret
    exact ⟨ret_int HX.out, hF0⟩
  by_cases h2 : 2 < lev
  · have HX := bx (show (5 : Int) = x by rw [← hx]; simp [checkM, h2])
    clear hx
    go_enter Tryd.func13, Tryd.ntmps13
    go_wp2
    go_ret
    exact ⟨ret_int HX.out, hF0⟩
  by_cases h3 : bud < 0
  · have HX := bx (show (5 : Int) = x by rw [← hx]; simp [checkM, h3])
    clear hx
    go_enter Tryd.func13, Tryd.ntmps13
    go_wp2
    go_ret
    exact ⟨ret_int HX.out, hF0⟩
  by_cases h4 : 2147483647 < bud
  · have HX := bx (show (5 : Int) = x by rw [← hx]; simp [checkM, h4])
    clear hx
    go_enter Tryd.func13, Tryd.ntmps13
    go_wp2
    go_ret
    exact ⟨ret_int HX.out, hF0⟩
  by_cases h5 : 16 < l.length
  · have HX := bx (show (2 : Int) = x by rw [← hx]; simp [checkM, h1, h2, h3, h4, h5])
    have h5' : (16 : Int) < (l.length : Int) := by omega
    clear hx
    go_enter Tryd.func13, Tryd.ntmps13
    go_wp2
    go_ret
    exact ⟨ret_int HX.out, hF0⟩
  · have h5' : ¬ (16 : Int) < (l.length : Int) := by omega
    have HX := bx (show (if l.any badU then (5 : Int) else 0) = x by rw [← hx]; simp [checkM, h1, h2, h3, h4, h5])
    clear hx
    go_enter Tryd.func13, Tryd.ntmps13
    go_wp2
    have HU := bx (H.out.from hF0)
    clear hW0 q0 q1 q2
    go_loopw [3, 4] (fun i _ wr => ∃ k : Nat, k ≤ l.length ∧ i = .int .i64 k ∧ (l.take k).any badU = false ∧ From W0 wr) (fun i _ _ => l.length - (intOf i).toNat)
    case atStart => exact ⟨0, Nat.zero_le _, rfl, rfl, Below.refl _ _⟩
    case round =>
      obtain ⟨k, hk, rfl, hno, hbw⟩ := hrel
      have Hno := bx hno
      clear hno
      obtain ⟨q0, q1, q2⟩ := (HM.out.from hbw).facts
      by_cases hlt : k < l.length
      · obtain ⟨b, off, rfl, hb, g1, g2⟩ := (HU.out.from hbw).at_ hlt
        have Hs := bx (show (l.take (k + 1)).any badU = ((l.take k).any badU || badU l[k]) by
          rw [List.take_succ_eq_append_getElem hlt, List.any_append]; simp)
        have Hm := bx (fun hb : badU l[k] = true => show l.any badU = true from List.any_eq_true.2 ⟨_, List.getElem_mem hlt, hb⟩)
        generalize l[k] = u at *
        obtain ⟨ua, uc'⟩ := u
        have hbn : From W0 (wr.alloc (.cells #[.int .i64 ua, .int .i64 uc'] 44)) := From.alloc hbw _
        by_cases hbad : badU (ua, uc') = true
        · have HX2 := bx (show (5 : Int) = x by have := HX.out; rw [Hm.out hbad] at this; exact this)
          have hcase : 9 < uc' ∨ ua < 0 ∨ uc' ≤ ua := by simpa [badU] using hbad
          clear hbad
          by_cases c1 : uc' < 1
          · go_wp2
            go_ret
            exact ⟨ret_int HX2.out, hF0.trans hbn⟩
          by_cases c2 : 9 < uc'
          · go_wp2
            go_ret
            exact ⟨ret_int HX2.out, hF0.trans hbn⟩
          by_cases c3 : ua < 0
          · go_wp2
            go_ret
            exact ⟨ret_int HX2.out, hF0.trans hbn⟩
          · have c4 : uc' ≤ ua := by omega
            clear hcase
            go_wp2
            go_ret
            exact ⟨ret_int HX2.out, hF0.trans hbn⟩
        · have hb0 : badU (ua, uc') = false := by simpa using hbad
          have hn : ¬ (9 < uc' ∨ ua < 0 ∨ uc' ≤ ua) := by simpa [badU] using hbad
          have Hb := bx hb0
          have c1 : ¬ uc' < 1 := by omega
          have c2 : ¬ 9 < uc' := by omega
          have c3 : ¬ ua < 0 := by omega
          have c4 : ¬ uc' ≤ ua := by omega
          clear hbad hb0 hn
          go_wp2
          go_roundw
          case rel => exact ⟨k + 1, by omega, by go_num, by rw [Hs.out, Hno.out, Hb.out]; rfl, hbn⟩
          case measure => simp [intOf]; omega
      · obtain rfl : k = l.length := by omega
        have HX2 := bx (show (0 : Int) = x by have := HX.out; have h2 := Hno.out; rw [List.take_of_length_le (Nat.le_refl _)] at h2; rw [h2] at this; exact this)
        go_wp2
        go_ret
        exact ⟨ret_int HX2.out, hF0.trans hbw⟩
/-- what the variable 'permitted' holds -/
structure PM (W : World) : Prop where
  out : W.cell? ⟨0, 0, none⟩ = some (.bool true) ∧ W.cell? ⟨0, 1, none⟩ = some (.bool true) ∧ W.cell? ⟨0, 2, none⟩ = some (.bool true) ∧ W.cell? ⟨0, 3, none⟩ = some (.bool false) ∧ W.cell? ⟨0, 4, none⟩ = some (.bool false) ∧ W.cell? ⟨0, 5, none⟩ = some (.bool false)
theorem PM.from {W W' : World} (h : PM W) (hb : From W W') : PM W' := by
  obtain ⟨h0, h1, h2, h3, h4, h5⟩ := h.out
  have f : ∀ (n : Nat) v, W.cell? ⟨0, n, none⟩ = some v → W'.cell? ⟨0, n, none⟩ = some v := fun n v hv => (hb.cell (World.block_lt_of_cell? W _ hv)).trans hv
  exact ⟨f _ _ h0, f _ _ h1, f _ _ h2, f _ _ h3, f _ _ h4, f _ _ h5⟩
def permM (lev what : Int) : Bool := decide (what = 1 ∧ (lev = 0 ∨ lev = 1)) || decide (what = 2 ∧ lev = 0)
theorem permits_calls (lev bud what : Int) (A : Option Addr) (n c : Nat) (w : World) (h : PM w) (x : Bool) (hx : permM lev what = x) :
    Calls Tryd.prog 24 #[.agg #[.int .i64 lev, .int .i64 bud, .slice A n c], .int .i64 what] w fun e w' => e = .returned (.bool x) ∧ From w w' := by
  obtain ⟨W0, hW0⟩ : ∃ W0, w.alloc (.cells #[.int .i64 lev, .int .i64 bud, .slice A n c] 24) = W0 := ⟨_, rfl⟩
  have hF0 : From w W0 := by rw [← hW0]; exact From.alloc (Below.refl _ _) _
  obtain ⟨q0, q1, q2⟩ := (show MCell W0 w.heap.size lev bud A n c by rw [← hW0]; exact mcell_new w lev bud A n c).facts
  obtain ⟨g0, g1, g2, g3, g4, g5⟩ := (h.from hF0).out
  by_cases hr : 0 ≤ lev ∧ lev < 3 ∧ 1 ≤ what ∧ what < 3
  · obtain ⟨r1, r2, r3, r4⟩ := hr
    have hl : lev = 0 ∨ lev = 1 ∨ lev = 2 := by omega
    have hw : what = 1 ∨ what = 2 := by omega
    rcases hl with rfl | rfl | rfl <;> rcases hw with rfl | rfl
    all_goals
      have HX := bx hx
      clear hx
      go_enter Tryd.func24, Tryd.ntmps24
      go_wp2
      go_ret
      exact ⟨ret_bool (by rw [← HX.out]; rfl), hF0⟩
  · have HX := bx (show false = x by rw [← hx]; unfold permM; rw [decide_eq_false (by omega), decide_eq_false (by omega)]; rfl)
    clear hx
    by_cases h1 : lev < 0
    · go_enter Tryd.func24, Tryd.ntmps24
      go_wp2
      go_ret
      exact ⟨ret_bool HX.out, hF0⟩
    by_cases h2 : 3 ≤ lev
    · go_enter Tryd.func24, Tryd.ntmps24
      go_wp2
      go_ret
      exact ⟨ret_bool HX.out, hF0⟩
    by_cases h3 : what < 1
    · go_enter Tryd.func24, Tryd.ntmps24
      go_wp2
      go_ret
      exact ⟨ret_bool HX.out, hF0⟩
    · have h4 : 2 < what := by omega
      go_enter Tryd.func24, Tryd.ntmps24
      go_wp2
      go_ret
      exact ⟨ret_bool HX.out, hF0⟩
theorem refPermits_calls (lev bud what : Int) (A : Option Addr) (n c : Nat) (w : World) (x : Bool) (hx : permM lev what = x) :
    Calls Tryd.prog 25 #[.agg #[.int .i64 lev, .int .i64 bud, .slice A n c], .int .i64 what] w fun e w' => e = .returned (.bool x) ∧ From w w' := by
  obtain ⟨W0, hW0⟩ : ∃ W0, w.alloc (.cells #[.int .i64 lev, .int .i64 bud, .slice A n c] 24) = W0 := ⟨_, rfl⟩
  have hF0 : From w W0 := by rw [← hW0]; exact From.alloc (Below.refl _ _) _
  obtain ⟨q0, q1, q2⟩ := (show MCell W0 w.heap.size lev bud A n c by rw [← hW0]; exact mcell_new w lev bud A n c).facts
  have HX := bx hx
  clear hx
  by_cases h1 : what = 1 <;> by_cases h2 : what = 2 <;> by_cases h3 : lev = 0 <;> by_cases h4 : lev = 1
  all_goals
    have HY := bx (⟨h1, h2, h3, h4⟩ : _ ∧ _ ∧ _ ∧ _)
    try (exfalso; omega)
  all_goals
    go_enter Tryd.func25, Tryd.ntmps25
    go_wp2
    go_ret
    refine ⟨ret_bool ?_, by first | exact hF0 | exact From.alloc (Below.refl _ _) _⟩
    rw [← HX.out]
    obtain ⟨h1, h2, h3, h4⟩ := HY.out
    simp [permM, h1, h2, h3, h4]
end Go.Proofs.YtgfmnolghbiedaaDoor
