/-
  Walks of layer 31: the specification's Loads; SameLoads of equal lists.
-/
import Derived.Test.YtgfmnolghbiedaaDoorP15
namespace Go.Proofs.YtgfmnolghbiedaaDoor
open Go.RowKit Go.Shelf

set_option maxHeartbeats 1600000 in
theorem refLoads_calls (lev bud : Int) (A : Option Addr) (n c : Nat) (AL : Option Addr) (cL : Nat) (l : LL) (w : World) (h : LS w w.heap.size (.slice AL l.length cL) l) (hm : l.length ≤ 4398046511104) (r : LL) (hr : loadsM lev l = r) :
    Calls Tryd.prog 29 #[.agg #[.int .i64 lev, .int .i64 bud, .slice A n c], .slice AL l.length cL] w (LoadsPost w r) := by
  subst hr
  obtain ⟨i0, hi, hz0, hz1, hz2⟩ := load_info
  obtain ⟨W0, hW0⟩ : ∃ W0, w.alloc (.cells #[.int .i64 lev, .int .i64 bud, .slice A n c] 24) = W0 := ⟨_, rfl⟩
  have hF0 : From w W0 := by rw [← hW0]; exact From.alloc (Below.refl _ _) _
  have HM := bx (show MCell W0 w.heap.size lev bud A n c by rw [← hW0]; exact mcell_new w lev bud A n c)
  have H := bx (h.from hF0)
  have z := Below.size hF0
  clear h
  go_enter Tryd.func29, Tryd.ntmps29
  go_wp2
  clear hW0
  go_loopw [5, 6] (fun v i wr => ∃ k : Nat, k ≤ l.length ∧ i = .int .i64 k ∧ wr.ownsRow W0.heap.size 75 4 v (loadsM lev (l.take k)).length (lc (loadsM lev (l.take k))) ∧ From W0 wr) (fun _ i _ => l.length - (intOf i).toNat)
  case atStart => exact ⟨0, Nat.zero_le _, rfl, World.ownsRow_nil _ _ _ _, Below.refl _ _⟩
  case round =>
    obtain ⟨k, hk, rfl, hown, hbw⟩ := hrel
    have hsz := Below.size hbw
    obtain ⟨q0, q1, q2⟩ := (HM.out.from hbw).facts
    by_cases hlt : k < l.length
    · obtain ⟨A', c', e, hc⟩ := (H.out.from hbw).out
      obtain ⟨b, off, e1, hb, g1, g2, g3, g4⟩ := hc k hlt
      obtain rfl : AL = some ⟨b, off, none⟩ := by injection e with e2 _ _; rw [e2, e1]
      have Hs := bx (loadsM_succ lev l k hlt)
      have hle := loadsM_le lev (l.take k)
      rw [List.length_take] at hle
      generalize l[k] = x at *
      clear hc e
      obtain ⟨xa, xb, xc, xd⟩ := x
      simp only at *
      have z1 : (k : Int) < (l.length : Int) := by omega
      have z2 : (0 : Int) ≤ (k : Int) := by omega
      by_cases hon : on lev (xa, xb, xc, xd) = true
      · have Hs2 := bx (show loadsM lev (l.take (k + 1)) = loadsM lev (l.take k) ++ [(xa, xb, xc, xd)] by rw [Hs.out, if_pos hon])
        have hcase : (lev != 2) = true ∨ ((lev != 2) = false ∧ xd = true) := by
          unfold on at hon
          cases h2 : (lev != 2)
          · rw [h2] at hon; exact .inr ⟨rfl, by simpa using hon⟩
          · exact .inl rfl
        rcases hcase with h2 | ⟨h2, rfl⟩
        · clear hon
          go_wp2_with (at_builtin; refine wpList_append_own _ rfl _ _ 50 rfl W0.heap.size 75 i0 _ 4 32 Tryd.underlying50 hi hz0 hz1 hz2 rfl (by decide) _ _ _ rfl (hown.alloc _) ⟨wr.heap.size, 0, none⟩ 1 1 (lc1 (xa, xb, xc, xd)) rfl rfl (cells_newL wr _ _) (one_lc1 (xa, xb, xc, xd)) (by unfold maxLen; omega) (by omega) (by simp; omega) ?_; intro v' w5 o5 g5 _)
          have hb5 : From W0 w5 := Below.grown (From.alloc hbw _) g5 (by simp; omega) (fun g hg => (hown.lt g hg).1)
          go_roundw
          case rel => exact ⟨k + 1, by omega, by go_num, by rw [Hs2.out, lc_append, List.length_append]; exact o5, hb5⟩
          case measure => simp [intOf]; omega
        · clear hon
          go_wp2_with (at_builtin; refine wpList_append_own _ rfl _ _ 50 rfl W0.heap.size 75 i0 _ 4 32 Tryd.underlying50 hi hz0 hz1 hz2 rfl (by decide) _ _ _ rfl (hown.alloc _) ⟨wr.heap.size, 0, none⟩ 1 1 (lc1 (xa, xb, xc, true)) rfl rfl (cells_newL wr _ _) (one_lc1 (xa, xb, xc, true)) (by unfold maxLen; omega) (by omega) (by simp; omega) ?_; intro v' w5 o5 g5 _)
          have hb5 : From W0 w5 := Below.grown (From.alloc hbw _) g5 (by simp; omega) (fun g hg => (hown.lt g hg).1)
          go_roundw
          case rel => exact ⟨k + 1, by omega, by go_num, by rw [Hs2.out, lc_append, List.length_append]; exact o5, hb5⟩
          case measure => simp [intOf]; omega
      · have Hs2 := bx (show loadsM lev (l.take (k + 1)) = loadsM lev (l.take k) by rw [Hs.out, if_neg hon])
        have h2 : (lev != 2) = false := by unfold on at hon; cases h2 : (lev != 2); rfl; rw [h2] at hon; simp at hon
        obtain rfl : xd = false := by unfold on at hon; cases xd; rfl; simp at hon
        clear hon
        go_wp2
        go_roundw
        case rel => exact ⟨k + 1, by omega, by go_num, by rw [Hs2.out]; exact hown, hbw⟩
        case measure => simp [intOf]; omega
    · obtain rfl : k = l.length := by omega
      rw [List.take_of_length_le (Nat.le_refl _)] at hown
      obtain ⟨A', c', rfl⟩ := slice_form hown
      go_wp2
      go_ret
      exact ⟨A', c', rfl, own_base hown z, hF0.trans hbw⟩
set_option maxHeartbeats 1600000 in
theorem sameLoads_calls (A : Option Addr) (c : Nat) (A' : Option Addr) (c' : Nat) (l : LL) (w : World) (h : LS w w.heap.size (.slice A l.length c) l) (h' : LS w w.heap.size (.slice A' l.length c') l) (hm : l.length ≤ 4398046511104) :
    Calls Tryd.prog 28 #[.slice A l.length c, .slice A' l.length c'] w fun e w' => e = .returned (.bool true) ∧ From w w' := by
  have H := bx h
  have H' := bx h'
  have t1 : ((l.length : Int) != (l.length : Int)) = false := by simp
  clear h h'
  go_enter Tryd.func28, Tryd.ntmps28
  go_wp2
  go_loopw [5] (fun i wr => ∃ k : Nat, k ≤ l.length ∧ i = .int .i64 k ∧ From w wr) (fun i _ => l.length - (intOf i).toNat)
  case atStart => exact ⟨0, Nat.zero_le _, rfl, Below.refl _ _⟩
  case round =>
    obtain ⟨k, hk, rfl, hbw⟩ := hrel
    by_cases hlt : k < l.length
    · obtain ⟨_, _, e, hc⟩ := (H.out.from hbw).out
      obtain ⟨b, off, e1, hb, g1, g2, g3, g4⟩ := hc k hlt
      obtain rfl : A = some ⟨b, off, none⟩ := by injection e with e2 _ _; rw [e2, e1]
      obtain ⟨_, _, e', hc'⟩ := (H'.out.from hbw).out
      obtain ⟨b', off', e1', hb', p1, p2, p3, p4⟩ := hc' k hlt
      obtain rfl : A' = some ⟨b', off', none⟩ := by injection e' with e2 _ _; rw [e2, e1']
      clear hc hc' e e'
      generalize l[k] = x at *
      obtain ⟨xa, xb, xc, xd⟩ := x
      simp only at *
      have z1 : (k : Int) < (l.length : Int) := by omega
      have z2 : (0 : Int) ≤ (k : Int) := by omega
      have x1 : (xa != xa) = false := by simp
      have x2 : (xb != xb) = false := by simp
      have x3 : (xc != xc) = false := by simp
      have x4 : (xd != xd) = false := by simp
      go_wp2_with fail
      go_quiet (fail)
      go_wp2
      go_roundw
      case rel => exact ⟨k + 1, by omega, by go_num, From.drewN hbw nq⟩
      case measure => simp [intOf]; omega
    · obtain rfl : k = l.length := by omega
      go_wp2
      go_ret
      exact ⟨rfl, hbw⟩
end Go.Proofs.YtgfmnolghbiedaaDoor
