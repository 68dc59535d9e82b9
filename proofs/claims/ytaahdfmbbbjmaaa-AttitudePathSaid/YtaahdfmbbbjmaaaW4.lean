/-
  Walks of layer 12: the iterator over the directions of a turn.
-/
import Derived.Test.YtaahdfmbbbjmaaaW3
import Derived.RangeFuncNested
import Derived.RangeFuncBound
import Derived.RangeFuncCalls
import Derived.RangeFuncLeaves
import Derived.Shelf.Abstract
import Derived.Shelf.RegionOpen
import Derived.OwnWalkIn
import Derived.TacticsInMore
import Derived.LoopNIn
import Derived.LoopIn
namespace Go.Proofs.Ytaahdfmbbbjmaaa
open Go.RowKit Go.Shelf
attribute [local go_sem] Oper.semAt_some

theorem way_calls (f deg : Int) (w : World) :
    Calls Try.prog 36 #[.int .i64 f, .int .i64 deg] w fun e w' => e = .returned (.func (.func 44) #[] #[.pointer (some ⟨w.heap.size + 1, 0, none⟩), .pointer (some ⟨w.heap.size, 0, none⟩)]) ∧
      w' = (w.alloc (.cells #[.int .i64 f] 3)).alloc (.cells #[.int .i64 deg] 3) := by
  go_enter Try.func36, Try.ntmps36
  go_wp2
  go_ret
  exact ⟨rfl, rfl⟩

theorem wide_n {n : Nat} : Fence.wide.depth.isSome = true → 1 ≤ n := fun h => by cases h
/-- a direction, normal -/
abbrev Dir := { x : Int // 0 ≤ x ∧ x < 360 }
def wayDir (f deg : Int) (k : Nat) : Dir := ⟨stepTo f deg k % 360, by omega, by omega⟩
def wayList (f deg : Int) (n : Nat) : List Dir := (List.range n).map (wayDir f deg)
theorem wayList_succ (f deg : Int) (n : Nat) : wayList f deg (n + 1) = wayList f deg n ++ [wayDir f deg n] := by
  simp [wayList, List.range_succ]
theorem wayList_len (f deg : Int) (n : Nat) : (wayList f deg n).length = n := by simp [wayList]
def encDir (x : Dir) : Array Value := #[.int .i64 x.1]
/-- what a round keeps: the iterator's two boxes -/
structure KeepB (b1 b2 : Nat) (W W' : World) : Prop where
  size : W.heap.size ≤ W'.heap.size
  k1 : W'.heap[b1]? = W.heap[b1]?
  k2 : W'.heap[b2]? = W.heap[b2]?
theorem KeepB.t {b1 b2 : Nat} {A B C : World} (h : KeepB b1 b2 A B) (k : KeepB b1 b2 B C) : KeepB b1 b2 A C := ⟨Nat.le_trans h.size k.size, k.k1.trans h.k1, k.k2.trans h.k2⟩
theorem KeepB.b {b1 b2 : Nat} {w : World} (h1 : b1 < w.heap.size) (h2 : b2 < w.heap.size) (W : World) (l : Nat) (o o' : Obj) (hl : w.heap.size ≤ l) (_ : W.heap[l]? = some o) (_ : o.isCells = false) (_ : o.isWalk = false) :
    KeepB b1 b2 W (W.putObj l o') :=
  ⟨(grownBy_putObj' W l o').size, World.putObj_heap_other (by omega), World.putObj_heap_other (by omega)⟩
theorem KeepB.cell1 {b1 b2 : Nat} {W W' : World} (h : KeepB b1 b2 W W') (i : Nat) : W'.cell? ⟨b1, i, none⟩ = W.cell? ⟨b1, i, none⟩ := World.cell?_of_block (a := ⟨b1, i, none⟩) h.k1
theorem KeepB.cell2 {b1 b2 : Nat} {W W' : World} (h : KeepB b1 b2 W W') (i : Nat) : W'.cell? ⟨b2, i, none⟩ = W.cell? ⟨b2, i, none⟩ := World.cell?_of_block (a := ⟨b2, i, none⟩) h.k2

set_option maxRecDepth 10000 in
theorem way1_in (n : Nat) (l b1 b2 : Nat) (f deg : Int) (hd1 : -360 ≤ deg) (hd2 : deg ≤ 360) (J Jx : List Dir → World → Prop)
    (hY : ∀ pre x W, J pre W → pre.length < deg.natAbs + 1 → YieldAt Fence.wide (n - 1) Try.prog l (encDir x) W fun e W' =>
      (e = .returned (.bool true) ∧ J (pre ++ [x]) W' ∧ KeepB b1 b2 W W') ∨ (e = .returned (.bool false) ∧ Jx (pre ++ [x]) W'))
    (W : World) (h1 : W.cell? ⟨b1, 0, none⟩ = some (.int .i64 deg)) (h2 : W.cell? ⟨b2, 0, none⟩ = some (.int .i64 f)) (h0 : J [] W) :
    CallsIn Fence.wide n Try.prog 44 #[.func (.yield l) #[] #[], .pointer (some ⟨b1, 0, none⟩), .pointer (some ⟨b2, 0, none⟩)] W fun e W' => (∃ v, e = .returned v) ∧
      ((∃ xs, xs = wayList f deg (deg.natAbs + 1) ∧ J xs W') ∨ (∃ pre, (∃ m, m ≤ deg.natAbs + 1 ∧ pre = wayList f deg m) ∧ Jx pre W')) := by
  refine callsIn_of_wp Try.func44 rfl trivial ?_ rfl
  simp only [Try.ntmps44, List.size_toArray, List.length_cons, List.length_nil, Nat.reduceAdd, Nat.reduceSub, Array.replicate_succ, Array.replicate_zero, List.push_toArray, List.append_toArray, List.nil_append, List.cons_append]
  by_cases hneg : deg < 0
  ·
    gi_wp2_with (first | (refine ⟨trivial, wide_n, ?_⟩; gi_at_call 41; refine (callsIn_wide.2 (attAbs _ _ (by omega) (by omega))).mono ?_; rintro e w' ⟨rfl, rfl⟩) | gi_in)
    gi_loopw [11] (fun i wr => ∃ m : Nat, m ≤ deg.natAbs + 1 ∧ i = .int .i64 m ∧ J (wayList f deg m) wr ∧ wr.cell? ⟨b1, 0, none⟩ = some (.int .i64 deg) ∧ wr.cell? ⟨b2, 0, none⟩ = some (.int .i64 f)) (fun i _ => deg.natAbs + 1 - (intOf i).toNat)
    case atStart => exact ⟨0, by omega, rfl, h0, h1, h2⟩
    case round =>
      obtain ⟨m, hm, rfl, hJm, g1, g2⟩ := hrel
      by_cases hlt : m < deg.natAbs + 1
      · obtain ⟨fn, tmps, assign, body, hy, hR⟩ := hY _ (wayDir f deg m) wr hJm (by rw [wayList_len]; exact hlt)
        have ex : (wayDir f deg m).1 = (f + -(m : Int)) % 360 := by unfold wayDir stepTo; simp only; rw [if_pos hneg]; omega
        rw [encDir, ex] at hy
        have HS := bx (wayList_succ f deg m)
        clear ex
        gi_wp2_with (first | (refine ⟨trivial, wide_n, ?_⟩; gi_at_call 15; refine (callsIn_wide.2 (attNormal _ _)).mono ?_; rintro e w' ⟨rfl, rfl⟩) | gi_in)
        refine ⟨wide_n, hR.mono ?_⟩
        rintro e W3 (⟨rfl, hJ3, hk3⟩ | ⟨rfl, hJx3⟩)
        · have g1' := (hk3.cell1 0).trans g1
          have g2' := (hk3.cell2 0).trans g2
          rw [← HS.out] at hJ3
          gi_wp2
          go_roundw
          case rel => exact ⟨m + 1, by omega, by go_num, hJ3, g1', g2'⟩
          case measure => simp [intOf]; omega
        · rw [← HS.out] at hJx3
          gi_wp2
          refine bodyPost_ret (results_none rfl _ _ _) rfl ?_
          exact ⟨⟨_, rfl⟩, .inr ⟨_, ⟨m + 1, by omega, rfl⟩, hJx3⟩⟩
      · obtain rfl : m = deg.natAbs + 1 := by omega
        gi_wp2
        go_end0
        exact ⟨⟨_, rfl⟩, .inl ⟨_, rfl, hJm⟩⟩
  ·
    gi_wp2_with (first | (refine ⟨trivial, wide_n, ?_⟩; gi_at_call 41; refine (callsIn_wide.2 (attAbs _ _ (by omega) (by omega))).mono ?_; rintro e w' ⟨rfl, rfl⟩) | gi_in)
    gi_loopw [11] (fun i wr => ∃ m : Nat, m ≤ deg.natAbs + 1 ∧ i = .int .i64 m ∧ J (wayList f deg m) wr ∧ wr.cell? ⟨b1, 0, none⟩ = some (.int .i64 deg) ∧ wr.cell? ⟨b2, 0, none⟩ = some (.int .i64 f)) (fun i _ => deg.natAbs + 1 - (intOf i).toNat)
    case atStart => exact ⟨0, by omega, rfl, h0, h1, h2⟩
    case round =>
      obtain ⟨m, hm, rfl, hJm, g1, g2⟩ := hrel
      by_cases hlt : m < deg.natAbs + 1
      · obtain ⟨fn, tmps, assign, body, hy, hR⟩ := hY _ (wayDir f deg m) wr hJm (by rw [wayList_len]; exact hlt)
        have ex : (wayDir f deg m).1 = (f + m) % 360 := by unfold wayDir stepTo; simp only; rw [if_neg (by omega)]
        rw [encDir, ex] at hy
        have HS := bx (wayList_succ f deg m)
        clear ex
        gi_wp2_with (first | (refine ⟨trivial, wide_n, ?_⟩; gi_at_call 15; refine (callsIn_wide.2 (attNormal _ _)).mono ?_; rintro e w' ⟨rfl, rfl⟩) | gi_in)
        refine ⟨wide_n, hR.mono ?_⟩
        rintro e W3 (⟨rfl, hJ3, hk3⟩ | ⟨rfl, hJx3⟩)
        · have g1' := (hk3.cell1 0).trans g1
          have g2' := (hk3.cell2 0).trans g2
          rw [← HS.out] at hJ3
          gi_wp2
          go_roundw
          case rel => exact ⟨m + 1, by omega, by go_num, hJ3, g1', g2'⟩
          case measure => simp [intOf]; omega
        · rw [← HS.out] at hJx3
          gi_wp2
          refine bodyPost_ret (results_none rfl _ _ _) rfl ?_
          exact ⟨⟨_, rfl⟩, .inr ⟨_, ⟨m + 1, by omega, rfl⟩, hJx3⟩⟩
      · obtain rfl : m = deg.natAbs + 1 := by omega
        gi_wp2
        go_end0
        exact ⟨⟨_, rfl⟩, .inl ⟨_, rfl, hJm⟩⟩

/-- the iterator of directions, as its callers use it -/
theorem way_stops (n : Nat) (b1 b2 : Nat) (f deg : Int) (w : World) (hd1 : -360 ≤ deg) (hd2 : deg ≤ 360) (hb1 : b1 < w.heap.size) (hb2 : b2 < w.heap.size)
    (h1 : w.cell? ⟨b1, 0, none⟩ = some (.int .i64 deg)) (h2 : w.cell? ⟨b2, 0, none⟩ = some (.int .i64 f)) :
    SeqStopsK Fence.wide n Try.prog 44 #[.pointer (some ⟨b1, 0, none⟩), .pointer (some ⟨b2, 0, none⟩)] encDir (KeepB b1 b2)
      (fun xs => xs = wayList f deg (deg.natAbs + 1)) (fun pre => ∃ m, m ≤ deg.natAbs + 1 ∧ pre = wayList f deg m) (deg.natAbs + 1) w :=
  fun l J Jx W hW _ _ hY h0 => way1_in n l b1 b2 f deg hd1 hd2 J Jx hY W ((hW.cell (p := ⟨b1, 0, none⟩) hb1).trans h1) ((hW.cell (p := ⟨b2, 0, none⟩) hb2).trans h2) h0
end Go.Proofs.Ytaahdfmbbbjmaaa
