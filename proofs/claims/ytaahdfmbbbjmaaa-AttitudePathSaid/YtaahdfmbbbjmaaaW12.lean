/-
  Walk of layer 12's examples: `lives` returns true.
-/
import Derived.Test.YtaahdfmbbbjmaaaW11
namespace Go.Proofs.Ytaahdfmbbbjmaaa
open Go.RowKit Go.Shelf

theorem turn_val (A : Option Addr) (c : Nat) (l : ArcL) (a b : Int) (w : World) (x e' : Int) (hv : turn l a b = (x, e')) (h : Arcs w w.heap.size A l) (hm : l.length ≤ 100) (ho : l.any badArc = false) :
    Calls Try.prog 19 #[.int .i64 a, .int .i64 b, .slice A l.length c] w fun e w' => e = .returned (.tuple #[.int .i64 x, .int .i64 e']) ∧ Below w.heap.size w w' := by
  have := att_turn A c l a b w h hm (okArcs_of_check ho)
  rwa [hv] at this
theorem step_val (a d r x y : Int) (w : World) (h0 : (a + stepD d r) % 360 = x) (h0' : d - stepD d r = y) (h1 : -360 ≤ d) (h2 : d ≤ 360) (h3 : 1 ≤ r) (h4 : r ≤ 360) :
    Calls Try.prog 21 #[.int .i64 a, .int .i64 d, .int .i64 r] w fun e w' => e = .returned (.tuple #[.int .i64 x, .int .i64 y]) ∧ w = w' := by
  have := att_step a d r w h1 h2 h3 h4
  rwa [h0, h0'] at this
theorem worst_val (A : Option Addr) (c : Nat) (l : ArcL) (w : World) (x : Int) (hv : worstOf l = x) (h : Arcs w w.heap.size A l) (hm : l.length ≤ 100) (ho : l.any badArc = false) :
    Calls Try.prog 25 #[.slice A l.length c] w fun e w' => e = .returned (.int .i64 x) ∧ Below w.heap.size w w' := by
  have := att_worst A c l w h hm (okArcs_of_check ho)
  rwa [hv] at this
theorem ticks_val (d r x : Int) (w : World) (h0 : ticks d r = x) (h1 : -360 ≤ d) (h2 : d ≤ 360) (h3 : 1 ≤ r) (h4 : r ≤ 360) :
    Calls Try.prog 23 #[.int .i64 d, .int .i64 r] w fun e w' => e = .returned (.int .i64 x) ∧ w = w' := by
  have := att_ticks d r w h1 h2 h3 h4
  rwa [h0] at this
theorem normal_val (a x : Int) (w : World) (h0 : a % 360 = x) : Calls Try.prog 15 #[.int .i64 a] w fun e w' => e = .returned (.int .i64 x) ∧ w = w' := by
  have := attNormal a w
  rwa [h0] at this
theorem avoided_val (A : Option Addr) (c : Nat) (l : ArcL) (d : Int) (w : World) (x : Bool) (hv : av l d = x) (h : Arcs w w.heap.size A l) (hm : l.length ≤ 100) (ho : l.any badArc = false) :
    Calls Try.prog 17 #[.slice A l.length c, .int .i64 d] w fun e w' => e = .returned (.bool x) ∧ Below w.heap.size w w' := by
  have := att_avoided A c l d w h hm (okArcs_of_check ho)
  rwa [hv] at this
theorem check_val (A : Option Addr) (c : Nat) (l : ArcL) (w : World) (x : Int) (hv : checkN l = x) (h : Arcs w w.heap.size A l) (hm : l.length ≤ 100) :
    Calls Try.prog 14 #[.slice A l.length c] w fun e w' => e = .returned (.int .i64 x) ∧ Below w.heap.size w w' := by
  have := att_check A c l w h (by omega)
  rwa [hv] at this
theorem check_long (A : Option Addr) (n c : Nat) (w : World) (h1 : 16 < n) (h2 : n ≤ 9223372036854775807) :
    Calls Try.prog 14 #[.slice A n c] w fun e w' => e = .returned (.int .i64 2) ∧ w = w' := by
  go_enter Try.func14, Try.ntmps14
  go_wp2
  go_ret
  exact ⟨rfl, rfl⟩
theorem arcs_new1 (w : World) (f t : Int) : Arcs (w.alloc (.cells #[.int .i64 f, .int .i64 t] 44)) (w.alloc (.cells #[.int .i64 f, .int .i64 t] 44)).heap.size (some ⟨w.heap.size, 0, none⟩) [(f, t)] :=
  ⟨fun k hk => by
    match k, hk with
    | 0, _ => exact ⟨_, _, rfl, by simp, blk_cell (heap_alloc_new w _) 0 _ rfl, blk_cell (heap_alloc_new w _) 1 _ rfl⟩⟩
theorem arcs_new2 (w : World) (f t f' t' : Int) : Arcs (w.alloc (.cells #[.int .i64 f, .int .i64 t, .int .i64 f', .int .i64 t'] 44)) (w.alloc (.cells #[.int .i64 f, .int .i64 t, .int .i64 f', .int .i64 t'] 44)).heap.size (some ⟨w.heap.size, 0, none⟩) [(f, t), (f', t')] :=
  ⟨fun k hk => by
    match k, hk with
    | 0, _ => exact ⟨_, _, rfl, by simp, blk_cell (heap_alloc_new w _) 0 _ rfl, blk_cell (heap_alloc_new w _) 1 _ rfl⟩
    | 1, _ => exact ⟨_, _, rfl, by simp, blk_cell (heap_alloc_new w _) 2 _ rfl, blk_cell (heap_alloc_new w _) 3 _ rfl⟩⟩
def many : Array Value := Array.replicate 34 (.int .i64 0)
theorem make17 (w : World) : (Instr.makeSlice 22 (.int .i64 17) (.int .i64 17)).run Try.prog w = .ok (.slice (some ⟨w.heap.size, 0, none⟩) 17 17) (w.alloc (.cells many 44)) := by kernel_rfl
set_option maxRecDepth 100000 in
set_option maxHeartbeats 2000000 in
theorem lives_calls (w : World) : Calls Try.prog 12 #[] w fun e w' => e = .returned (.bool true) ∧ Below w.heap.size w w' := by
  have hmk := make17
  go_enter Try.func12, Try.ntmps12
  go_wp2_with fail
  obtain ⟨W0, hW0⟩ : ∃ W0, (w.alloc (.cells #[.int .i64 355, .int .i64 5] 44)).alloc (.cells #[.int .i64 90, .int .i64 90, .int .i64 270, .int .i64 270] 44) = W0 := ⟨_, rfl⟩
  rw [hW0]
  have hbw : Below w.heap.size w W0 := by rw [← hW0]; exact ((Below.refl _ w).alloc (Nat.le_refl _) _).alloc (by simp) _
  have HS : Bx (Arcs W0 W0.heap.size (some ⟨w.heap.size, 0, none⟩) [(355, 5)]) := by
    rw [← hW0]; exact ⟨((arcs_new1 w 355 5).below ((Below.refl _ _).alloc (Nat.le_refl _) _)).more (by simp)⟩
  have HT : Bx (Arcs W0 W0.heap.size (some ⟨w.heap.size + 1, 0, none⟩) [(90, 90), (270, 270)]) := by
    rw [← hW0]; have := arcs_new2 (w.alloc (.cells #[.int .i64 355, .int .i64 5] 44)) 90 90 270 270; simp only [World.size_alloc] at this ⊢; exact ⟨this⟩
  clear hW0
  have hb : Below W0.heap.size W0 W0 := Below.refl _ _
  go_wp2_with fail
  refine (turn_val none 0 [] (350) (20) _ (30) 0 (by decide +kernel) Arcs.nil (by decide) (by decide)).mono ?_
  rintro e w1 ⟨rfl, hx⟩
  replace hb := hb.trans (hx.mono hb.size)
  clear hx
  go_wp2_with fail
  refine (turn_val none 0 [] (20) (350) _ (-30) 0 (by decide +kernel) Arcs.nil (by decide) (by decide)).mono ?_
  rintro e w2 ⟨rfl, hx⟩
  replace hb := hb.trans (hx.mono hb.size)
  clear hx
  go_wp2_with fail
  refine (turn_val none 0 [] (180) (0) _ (180) 0 (by decide +kernel) Arcs.nil (by decide) (by decide)).mono ?_
  rintro e w3 ⟨rfl, hx⟩
  replace hb := hb.trans (hx.mono hb.size)
  clear hx
  go_wp2_with fail
  refine (turn_val (some ⟨w.heap.size, 0, none⟩) 1 [(355, 5)] (350) (20) _ (-330) 0 (by decide +kernel) ((HS.out.below hb).more hb.size) (by decide) (by decide)).mono ?_
  rintro e w4 ⟨rfl, hx⟩
  replace hb := hb.trans (hx.mono hb.size)
  clear hx
  go_wp2_with fail
  refine (turn_val (some ⟨w.heap.size, 0, none⟩) 1 [(355, 5)] (0) (20) _ (0) 1 (by decide +kernel) ((HS.out.below hb).more hb.size) (by decide) (by decide)).mono ?_
  rintro e w5 ⟨rfl, hx⟩
  replace hb := hb.trans (hx.mono hb.size)
  clear hx
  go_wp2_with fail
  refine (turn_val (some ⟨w.heap.size + 1, 0, none⟩) 2 [(90, 90), (270, 270)] (0) (180) _ (0) 1 (by decide +kernel) ((HT.out.below hb).more hb.size) (by decide) (by decide)).mono ?_
  rintro e w6 ⟨rfl, hx⟩
  replace hb := hb.trans (hx.mono hb.size)
  clear hx
  go_wp2_with fail
  refine (turn_val (some ⟨w.heap.size + 1, 0, none⟩) 2 [(90, 90), (270, 270)] (91) (269) _ (178) 0 (by decide +kernel) ((HT.out.below hb).more hb.size) (by decide) (by decide)).mono ?_
  rintro e w7 ⟨rfl, hx⟩
  replace hb := hb.trans (hx.mono hb.size)
  clear hx
  go_wp2_with fail
  refine (step_val (350) (-330) (40) (310) (-290) _ (by decide +kernel) (by decide +kernel) (by omega) (by omega) (by omega) (by omega)).mono ?_
  rintro e w107 ⟨rfl, rfl⟩
  go_wp2_with fail
  refine (step_val (5) (3) (40) (8) (0) _ (by decide +kernel) (by decide +kernel) (by omega) (by omega) (by omega) (by omega)).mono ?_
  rintro e w107 ⟨rfl, rfl⟩
  go_wp2_with fail
  refine (worst_val none 0 [] _ 180 (by decide +kernel) Arcs.nil (by decide) (by decide)).mono ?_
  rintro e w8 ⟨rfl, hx⟩
  replace hb := hb.trans (hx.mono hb.size)
  clear hx
  go_wp2_with fail
  refine (worst_val (some ⟨w.heap.size, 0, none⟩) 1 [(355, 5)] _ 348 (by decide +kernel) ((HS.out.below hb).more hb.size) (by decide) (by decide)).mono ?_
  rintro e w9 ⟨rfl, hx⟩
  replace hb := hb.trans (hx.mono hb.size)
  clear hx
  go_wp2_with fail
  refine (worst_val (some ⟨w.heap.size + 1, 0, none⟩) 2 [(90, 90), (270, 270)] _ 178 (by decide +kernel) ((HT.out.below hb).more hb.size) (by decide) (by decide)).mono ?_
  rintro e w10 ⟨rfl, hx⟩
  replace hb := hb.trans (hx.mono hb.size)
  clear hx
  go_wp2_with fail
  refine (ticks_val (-330) 40 9 _ (by decide +kernel) (by omega) (by omega) (by omega) (by omega)).mono ?_
  rintro e w200 ⟨rfl, rfl⟩
  go_wp2_with fail
  refine (normal_val (-1) 359 _ (by decide)).mono ?_
  rintro e w201 ⟨rfl, rfl⟩
  go_wp2_with fail
  refine (normal_val (725) 5 _ (by decide)).mono ?_
  rintro e w201 ⟨rfl, rfl⟩
  go_wp2_with fail
  refine (avoided_val (some ⟨w.heap.size, 0, none⟩) 1 [(355, 5)] (-2) _ true (by decide +kernel) ((HS.out.below hb).more hb.size) (by decide) (by decide)).mono ?_
  rintro e w11 ⟨rfl, hx⟩
  replace hb := hb.trans (hx.mono hb.size)
  clear hx
  go_wp2_with fail
  refine (avoided_val (some ⟨w.heap.size, 0, none⟩) 1 [(355, 5)] (6) _ false (by decide +kernel) ((HS.out.below hb).more hb.size) (by decide) (by decide)).mono ?_
  rintro e w12 ⟨rfl, hx⟩
  replace hb := hb.trans (hx.mono hb.size)
  clear hx
  go_wp2_with fail
  refine (check_val (some ⟨w.heap.size, 0, none⟩) 1 [(355, 5)] _ 0 (by decide +kernel) ((HS.out.below hb).more hb.size) (by decide)).mono ?_
  rintro e w13 ⟨rfl, hx⟩
  replace hb := hb.trans (hx.mono hb.size)
  clear hx
  go_wp2_with fail
  refine (check_val _ 1 [(360, 0)] _ 5 (by decide +kernel) (arcs_new1 _ _ _) (by decide)).mono ?_
  rintro e w50 ⟨rfl, hx⟩
  replace hb := (hb.alloc hb.size _).trans (hx.mono (by have := hb.size; simp; omega))
  clear hx
  go_wp2_with fail
  refine (check_long _ 17 17 _ (by omega) (by omega)).mono ?_
  rintro e w51 ⟨rfl, rfl⟩
  go_wp2
  go_ret
  exact ⟨rfl, hbw.trans ((hb.alloc hb.size _).mono hbw.size)⟩
end Go.Proofs.Ytaahdfmbbbjmaaa
