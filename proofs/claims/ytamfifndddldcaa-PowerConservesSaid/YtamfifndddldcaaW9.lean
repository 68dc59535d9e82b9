/-
  Walks of layer 10: the criteria of the order of service.
-/
import Derived.Test.YtamfifndddldcaaY1
import Derived.Shelf.SlSortCmp.QuietGrown
namespace Go.Proofs.Ytamfifndddldcaa
open Go.RowKit Go.Shelf Go.Sort

def cmpI (x y : Int) : Int := if x < y then -1 else if y < x then 1 else 0
theorem compare_calls (x y : Int) (w : World) : Calls Try.prog 56 #[.int .i64 x, .int .i64 y] w fun e w' => e = .returned (.int .i64 (cmpI x y)) ∧ w' = w := by
  obtain ⟨z, hz⟩ : ∃ z, cmpI x y = z := ⟨_, rfl⟩
  rw [hz]
  rw [cmpI] at hz
  have HZ := bx hz
  clear hz
  go_enter Try.func56, Try.ntmps56
  go_wp2
  all_goals
    go_ret
    refine ⟨ret_int ?_, rfl⟩
    rw [← HZ.out]
    split
    · first | rfl | (exfalso; omega)
    · first | rfl | (exfalso; omega) | (split <;> first | rfl | (exfalso; omega))
/-- draws and new blocks alone -/
def Gr (w w' : World) : Prop := ∃ q os, w' = grow (w.drewN q) os
theorem Gr.refl (w : World) : Gr w w := ⟨0, #[], by rw [grow_empty]; rfl⟩
theorem Gr.trans {a b c : World} (h : Gr a b) (k : Gr b c) : Gr a c := by
  obtain ⟨q, os, rfl⟩ := h
  obtain ⟨q', os', rfl⟩ := k
  exact ⟨q + q', os ++ os', by show grow (grow ((a.drewN q).drewN q') os) os' = _; rw [grow_grow, World.drewN_drewN]⟩
theorem Gr.alloc {a b : World} (h : Gr a b) (o : Obj) : Gr a (b.alloc o) := h.trans ⟨0, #[o], by rw [alloc_eq_grow]; rfl⟩
theorem Gr.from {a b : World} (h : Gr a b) : From a b := by
  obtain ⟨q, os, rfl⟩ := h
  refine ⟨rfl, rfl, rfl, by rw [size_grow, size_drewN]; omega, fun i hi => ?_⟩
  rw [heap_grow_old _ _ (by rw [size_drewN]; exact hi)]
  simp
abbrev lag (x : Lo) : Value := .agg #[.int .i64 x.id, .int .i64 x.pw, .int .i64 x.pr, .bool x.es]
def rk (x : Lo) : Int := if x.es then 0 else 1
theorem rank_calls (x : Lo) (w : World) : Calls Try.prog 54 #[lag x] w fun e w' => e = .returned (.int .i64 (rk x)) ∧ ∃ q os, w' = grow (w.drewN q) os := by
  obtain ⟨x0, x1, x2, x3⟩ := x
  cases x3
  all_goals
    go_enter Try.func54, Try.ntmps54
    go_wp2
    go_ret
    exact ⟨rfl, (Gr.refl _).alloc _⟩
theorem crit3_calls (x y : Lo) (w : World) : Calls Try.prog 58 #[lag x, lag y] w fun e w' => e = .returned (.int .i64 (cmpI x.id y.id)) ∧ ∃ q os, w' = grow (w.drewN q) os := by
  obtain ⟨x0, x1, x2, x3⟩ := x
  obtain ⟨y0, y1, y2, y3⟩ := y
  go_enter Try.func58, Try.ntmps58
  go_wp2_with fail
  refine (compare_calls _ _ _).mono ?_
  rintro e w1 ⟨rfl, rfl⟩
  go_wp2
  go_ret
  exact ⟨rfl, ((Gr.refl _).alloc _).alloc _⟩
theorem cmpI_bd (x y : Int) : -1 ≤ cmpI x y ∧ cmpI x y ≤ 1 := by unfold cmpI; split <;> (try split) <;> omega
theorem rk_cmp (x : Lo) (u v : Int) : -1 ≤ rk x * cmpI u v ∧ rk x * cmpI u v ≤ 1 := by
  have := cmpI_bd u v
  unfold rk
  split <;> omega
set_option maxHeartbeats 400000 in
theorem crit1_calls (x y : Lo) (br : Nat) (w : World) (h : w.cell? ⟨br, 0, none⟩ = some (.func (.func 54) #[] #[])) :
    Calls Try.prog 55 #[lag x, lag y, .pointer (some ⟨br, 0, none⟩)] w fun e w' => e = .returned (.int .i64 (cmpI (rk x) (rk y))) ∧ ∃ q os, w' = grow (w.drewN q) os := by
  obtain ⟨W1, hW1⟩ : ∃ V, w.alloc (.cells #[.int .i64 x.id, .int .i64 x.pw, .int .i64 x.pr, .bool x.es] 41) = V := ⟨_, rfl⟩
  obtain ⟨W2, hW2⟩ : ∃ V, W1.alloc (.cells #[.int .i64 y.id, .int .i64 y.pw, .int .i64 y.pr, .bool y.es] 41) = V := ⟨_, rfl⟩
  have z1 : W1.heap.size = w.heap.size + 1 := by rw [← hW1]; simp
  have z2 : W2.heap.size = w.heap.size + 2 := by rw [← hW2]; simp [z1]
  have k2 : Gr w W2 := by rw [← hW2, ← hW1]; exact ((Gr.refl _).alloc _).alloc _
  have g0 : W2.heap[w.heap.size]? = some (.cells #[.int .i64 x.id, .int .i64 x.pw, .int .i64 x.pr, .bool x.es] 41 (0, 0)) := by rw [← hW2]; exact ((From.refl W1).alloc _).heap (by rw [← hW1]; exact heap_alloc_new _ _)
  have g1 : W2.heap[w.heap.size + 1]? = some (.cells #[.int .i64 y.id, .int .i64 y.pw, .int .i64 y.pr, .bool y.es] 41 (0, 0)) := by rw [← hW2, ← z1]; exact heap_alloc_new _ _
  have cr : ∀ n os, (grow (W2.drewN n) os).cell? ⟨br, 0, none⟩ = some (.func (.func 54) #[] #[]) := cell_grown (by have := World.block_lt_of_cell? w _ h; simp only at this ⊢; omega) (k2.from.cell h)
  have a0 : ∀ n os, (grow (W2.drewN n) os).cell? ⟨w.heap.size, 0, none⟩ = some (.int .i64 x.id) := cell_grown (by simp only; omega) (by rw [cell_of_row _ _ _ _ _ _ g0]; rfl)
  have a1 : ∀ n os, (grow (W2.drewN n) os).cell? ⟨w.heap.size, 1, none⟩ = some (.int .i64 x.pw) := cell_grown (by simp only; omega) (by rw [cell_of_row _ _ _ _ _ _ g0]; rfl)
  have a2 : ∀ n os, (grow (W2.drewN n) os).cell? ⟨w.heap.size, 2, none⟩ = some (.int .i64 x.pr) := cell_grown (by simp only; omega) (by rw [cell_of_row _ _ _ _ _ _ g0]; rfl)
  have a3 : ∀ n os, (grow (W2.drewN n) os).cell? ⟨w.heap.size, 3, none⟩ = some (.bool x.es) := cell_grown (by simp only; omega) (by rw [cell_of_row _ _ _ _ _ _ g0]; rfl)
  have b0 : ∀ n os, (grow (W2.drewN n) os).cell? ⟨w.heap.size + 1, 0, none⟩ = some (.int .i64 y.id) := cell_grown (by simp only; omega) (by rw [cell_of_row _ _ _ _ _ _ g1]; rfl)
  have b1 : ∀ n os, (grow (W2.drewN n) os).cell? ⟨w.heap.size + 1, 1, none⟩ = some (.int .i64 y.pw) := cell_grown (by simp only; omega) (by rw [cell_of_row _ _ _ _ _ _ g1]; rfl)
  have b2 : ∀ n os, (grow (W2.drewN n) os).cell? ⟨w.heap.size + 1, 2, none⟩ = some (.int .i64 y.pr) := cell_grown (by simp only; omega) (by rw [cell_of_row _ _ _ _ _ _ g1]; rfl)
  have b3 : ∀ n os, (grow (W2.drewN n) os).cell? ⟨w.heap.size + 1, 3, none⟩ = some (.bool y.es) := cell_grown (by simp only; omega) (by rw [cell_of_row _ _ _ _ _ _ g1]; rfl)
  have K2 := bx k2
  clear g0 g1 h k2
  obtain ⟨x0, x1, x2, x3⟩ := x
  obtain ⟨y0, y1, y2, y3⟩ := y
  simp only at a0 a1 a2 a3 b0 b1 b2 b3
  have mixed : Try.prog.follows .mixedOrders = true := sortL.mixed
  have cq := fun (u v : Int) (n : Nat) (os : Array Obj) => (compare_calls u v (grow (W2.drewN n) os)).mono (R' := fun e w' => e = .returned (.int .i64 (cmpI u v)) ∧ ∃ q os', w' = grow ((grow (W2.drewN n) os).drewN q) os') (fun _ _ ⟨he, hw⟩ => ⟨he, 0, #[], by rw [hw, grow_empty]; rfl⟩)
  go_enter Try.func55, Try.ntmps55
  go_wp2_with fail
  go_quiet_grown (first | (go_at_call 54; refine Calls.grown_of (rank_calls (Lo.mk _ _ _ _) _)) | (go_at_call 56; refine Calls.grown_of (cq _ _ _ _)))
  go_wp2
  go_ret
  exact ⟨rfl, K2.out.trans ⟨nq, osq, rfl⟩⟩
set_option maxHeartbeats 400000 in
theorem crit2_calls (x y : Lo) (br : Nat) (w : World) (h : w.cell? ⟨br, 0, none⟩ = some (.func (.func 54) #[] #[])) :
    Calls Try.prog 57 #[lag x, lag y, .pointer (some ⟨br, 0, none⟩)] w fun e w' => e = .returned (.int .i64 (rk x * cmpI y.pr x.pr)) ∧ ∃ q os, w' = grow (w.drewN q) os := by
  obtain ⟨W1, hW1⟩ : ∃ V, w.alloc (.cells #[.int .i64 x.id, .int .i64 x.pw, .int .i64 x.pr, .bool x.es] 41) = V := ⟨_, rfl⟩
  obtain ⟨W2, hW2⟩ : ∃ V, W1.alloc (.cells #[.int .i64 y.id, .int .i64 y.pw, .int .i64 y.pr, .bool y.es] 41) = V := ⟨_, rfl⟩
  have z1 : W1.heap.size = w.heap.size + 1 := by rw [← hW1]; simp
  have z2 : W2.heap.size = w.heap.size + 2 := by rw [← hW2]; simp [z1]
  have k2 : Gr w W2 := by rw [← hW2, ← hW1]; exact ((Gr.refl _).alloc _).alloc _
  have g0 : W2.heap[w.heap.size]? = some (.cells #[.int .i64 x.id, .int .i64 x.pw, .int .i64 x.pr, .bool x.es] 41 (0, 0)) := by rw [← hW2]; exact ((From.refl W1).alloc _).heap (by rw [← hW1]; exact heap_alloc_new _ _)
  have g1 : W2.heap[w.heap.size + 1]? = some (.cells #[.int .i64 y.id, .int .i64 y.pw, .int .i64 y.pr, .bool y.es] 41 (0, 0)) := by rw [← hW2, ← z1]; exact heap_alloc_new _ _
  have cr : ∀ n os, (grow (W2.drewN n) os).cell? ⟨br, 0, none⟩ = some (.func (.func 54) #[] #[]) := cell_grown (by have := World.block_lt_of_cell? w _ h; simp only at this ⊢; omega) (k2.from.cell h)
  have a0 : ∀ n os, (grow (W2.drewN n) os).cell? ⟨w.heap.size, 0, none⟩ = some (.int .i64 x.id) := cell_grown (by simp only; omega) (by rw [cell_of_row _ _ _ _ _ _ g0]; rfl)
  have a1 : ∀ n os, (grow (W2.drewN n) os).cell? ⟨w.heap.size, 1, none⟩ = some (.int .i64 x.pw) := cell_grown (by simp only; omega) (by rw [cell_of_row _ _ _ _ _ _ g0]; rfl)
  have a2 : ∀ n os, (grow (W2.drewN n) os).cell? ⟨w.heap.size, 2, none⟩ = some (.int .i64 x.pr) := cell_grown (by simp only; omega) (by rw [cell_of_row _ _ _ _ _ _ g0]; rfl)
  have a3 : ∀ n os, (grow (W2.drewN n) os).cell? ⟨w.heap.size, 3, none⟩ = some (.bool x.es) := cell_grown (by simp only; omega) (by rw [cell_of_row _ _ _ _ _ _ g0]; rfl)
  have b0 : ∀ n os, (grow (W2.drewN n) os).cell? ⟨w.heap.size + 1, 0, none⟩ = some (.int .i64 y.id) := cell_grown (by simp only; omega) (by rw [cell_of_row _ _ _ _ _ _ g1]; rfl)
  have b1 : ∀ n os, (grow (W2.drewN n) os).cell? ⟨w.heap.size + 1, 1, none⟩ = some (.int .i64 y.pw) := cell_grown (by simp only; omega) (by rw [cell_of_row _ _ _ _ _ _ g1]; rfl)
  have b2 : ∀ n os, (grow (W2.drewN n) os).cell? ⟨w.heap.size + 1, 2, none⟩ = some (.int .i64 y.pr) := cell_grown (by simp only; omega) (by rw [cell_of_row _ _ _ _ _ _ g1]; rfl)
  have b3 : ∀ n os, (grow (W2.drewN n) os).cell? ⟨w.heap.size + 1, 3, none⟩ = some (.bool y.es) := cell_grown (by simp only; omega) (by rw [cell_of_row _ _ _ _ _ _ g1]; rfl)
  have K2 := bx k2
  clear g0 g1 h k2
  have hp := rk_cmp x y.pr x.pr
  obtain ⟨x0, x1, x2, x3⟩ := x
  obtain ⟨y0, y1, y2, y3⟩ := y
  simp only at a0 a1 a2 a3 b0 b1 b2 b3 hp
  obtain ⟨hp1, hp2⟩ := hp
  have mixed : Try.prog.follows .mixedOrders = true := sortL.mixed
  have cq := fun (u v : Int) (n : Nat) (os : Array Obj) => (compare_calls u v (grow (W2.drewN n) os)).mono (R' := fun e w' => e = .returned (.int .i64 (cmpI u v)) ∧ ∃ q os', w' = grow ((grow (W2.drewN n) os).drewN q) os') (fun _ _ ⟨he, hw⟩ => ⟨he, 0, #[], by rw [hw, grow_empty]; rfl⟩)
  go_enter Try.func57, Try.ntmps57
  go_wp2_with fail
  go_quiet_grown (first | (go_at_call 54; refine Calls.grown_of (rank_calls (Lo.mk _ _ _ _) _)) | (go_at_call 56; refine Calls.grown_of (cq _ _ _ _)))
  go_wp2
  go_ret
  exact ⟨ret_int (IntWalk.i64_in _ (by omega)), K2.out.trans ⟨nq, osq, rfl⟩⟩
/-- the criteria in memory: the variable bv, the row bc, the variable rank br -/
structure Crit (W : World) (bv bc br : Nat) : Prop where
  x0 : W.cell? ⟨bv, 0, none⟩ = some (.slice (some ⟨bc, 0, none⟩) 3 3)
  c0 : W.cell? ⟨bc, 0, none⟩ = some (.func (.func 55) #[] #[.pointer (some ⟨br, 0, none⟩)])
  c1 : W.cell? ⟨bc, 1, none⟩ = some (.func (.func 57) #[] #[.pointer (some ⟨br, 0, none⟩)])
  c2 : W.cell? ⟨bc, 2, none⟩ = some (.func (.func 58) #[] #[])
  r0 : W.cell? ⟨br, 0, none⟩ = some (.func (.func 54) #[] #[])
theorem Crit.from {W W' : World} {bv bc br : Nat} (h : Crit W bv bc br) (k : From W W') : Crit W' bv bc br := ⟨k.cell h.x0, k.cell h.c0, k.cell h.c1, k.cell h.c2, k.cell h.r0⟩
/-- the comparison of the order of service -/
def ordC (x y : Lo) : Int := if cmpI (rk x) (rk y) ≠ 0 then cmpI (rk x) (rk y) else if rk x * cmpI y.pr x.pr ≠ 0 then rk x * cmpI y.pr x.pr else cmpI x.id y.id
set_option maxHeartbeats 1000000 in
set_option maxRecDepth 10000 in
theorem ordC_calls (x y : Lo) (bv bc br : Nat) (w : World) (h : Crit w bv bc br) :
    Calls Try.prog 48 #[lag x, lag y, .pointer (some ⟨bv, 0, none⟩)] w fun e w' => e = .returned (.int .i64 (ordC x y)) ∧ ∃ q os, w' = grow (w.drewN q) os := by
  obtain ⟨W1, hW1⟩ : ∃ V, w.alloc (.cells #[.int .i64 x.id, .int .i64 x.pw, .int .i64 x.pr, .bool x.es] 41) = V := ⟨_, rfl⟩
  obtain ⟨W2, hW2⟩ : ∃ V, W1.alloc (.cells #[.int .i64 y.id, .int .i64 y.pw, .int .i64 y.pr, .bool y.es] 41) = V := ⟨_, rfl⟩
  have z1 : W1.heap.size = w.heap.size + 1 := by rw [← hW1]; simp
  have k2 : Gr w W2 := by rw [← hW2, ← hW1]; exact ((Gr.refl _).alloc _).alloc _
  have g0 : W2.heap[w.heap.size]? = some (.cells #[.int .i64 x.id, .int .i64 x.pw, .int .i64 x.pr, .bool x.es] 41 (0, 0)) := by rw [← hW2]; exact ((From.refl W1).alloc _).heap (by rw [← hW1]; exact heap_alloc_new _ _)
  have g1 : W2.heap[w.heap.size + 1]? = some (.cells #[.int .i64 y.id, .int .i64 y.pw, .int .i64 y.pr, .bool y.es] 41 (0, 0)) := by rw [← hW2, ← z1]; exact heap_alloc_new _ _
  have HL := bx (show ∀ W, From W2 W → (W.cell? ⟨w.heap.size, 0, none⟩ = some (.int .i64 x.id) ∧ W.cell? ⟨w.heap.size, 1, none⟩ = some (.int .i64 x.pw) ∧ W.cell? ⟨w.heap.size, 2, none⟩ = some (.int .i64 x.pr) ∧ W.cell? ⟨w.heap.size, 3, none⟩ = some (.bool x.es) ∧
      W.cell? ⟨w.heap.size + 1, 0, none⟩ = some (.int .i64 y.id) ∧ W.cell? ⟨w.heap.size + 1, 1, none⟩ = some (.int .i64 y.pw) ∧ W.cell? ⟨w.heap.size + 1, 2, none⟩ = some (.int .i64 y.pr) ∧ W.cell? ⟨w.heap.size + 1, 3, none⟩ = some (.bool y.es)) from fun W k => by
    have e0 := k.heap g0
    have e1 := k.heap g1
    refine ⟨?_, ?_, ?_, ?_, ?_, ?_, ?_, ?_⟩
    all_goals first | (rw [cell_of_row _ _ _ _ _ _ e0]; rfl) | (rw [cell_of_row _ _ _ _ _ _ e1]; rfl))
  have HC := bx (h.from k2.from)
  obtain ⟨n1, h1⟩ : ∃ n, cmpI (rk x) (rk y) = n := ⟨_, rfl⟩
  obtain ⟨n2, h2⟩ : ∃ n, rk x * cmpI y.pr x.pr = n := ⟨_, rfl⟩
  obtain ⟨n3, h3⟩ : ∃ n, cmpI x.id y.id = n := ⟨_, rfl⟩
  have HF1 := bx (fun (W : World) (hc : W.cell? ⟨br, 0, none⟩ = some (.func (.func 54) #[] #[])) => (show Calls Try.prog 55 #[lag x, lag y, .pointer (some ⟨br, 0, none⟩)] W fun e w' => e = .returned (.int .i64 n1) ∧ Gr W w' from by have := crit1_calls x y br W hc; rwa [h1] at this))
  have HF2 := bx (fun (W : World) (hc : W.cell? ⟨br, 0, none⟩ = some (.func (.func 54) #[] #[])) => (show Calls Try.prog 57 #[lag x, lag y, .pointer (some ⟨br, 0, none⟩)] W fun e w' => e = .returned (.int .i64 n2) ∧ Gr W w' from by have := crit2_calls x y br W hc; rwa [h2] at this))
  have HF3 := bx (fun (W : World) => (show Calls Try.prog 58 #[lag x, lag y] W fun e w' => e = .returned (.int .i64 n3) ∧ Gr W w' from by have := crit3_calls x y W; rwa [h3] at this))
  have HO := bx (show ordC x y = if n1 ≠ 0 then n1 else if n2 ≠ 0 then n2 else n3 by unfold ordC; rw [h1, h2, h3])
  have K2 := bx k2
  have kA1 : From W2 (W2.alloc (.cells #[.func (.func 55) #[] #[.pointer (some ⟨br, 0, none⟩)]] 89)) := (From.refl W2).alloc _
  have gA1 : Gr w (W2.alloc (.cells #[.func (.func 55) #[] #[.pointer (some ⟨br, 0, none⟩)]] 89)) := (k2).alloc _
  obtain ⟨l0, l1, l2, l3, m0, m1, m2, m3⟩ := HL.out _ kA1
  obtain ⟨q0, q1, q2, q3, q4⟩ := HC.out.from (From.refl W2)
  have KA1 := bx kA1
  have GA1 := bx gA1
  clear g0 g1 h k2 h1 h2 h3 gA1
  go_enter Try.func48, Try.ntmps48
  go_wp2
  refine wp_loop_rounds 4 ?_
  rw [rounds_succ]
  go_wp2_with fail
  refine (HF1.out _ (HC.out.from kA1).r0).mono ?_
  rintro e w3 ⟨rfl, G1⟩
  have k3 := kA1.trans G1.from
  have G6 := GA1.out.trans G1
  clear l0 l1 l2 l3 m0 m1 m2 m3 q0 q1 q2 q3 q4
  by_cases e1 : n1 = 0
  case neg =>
    have d1 : (n1 != 0) = true := by simpa using e1
    go_wp2
    go_ret
    exact ⟨ret_int (by rw [HO.out]; simp [e1]), G6⟩
  subst e1
  go_wp2_with fail
  rw [rounds_succ]
  have kA2 : From W2 (w3.alloc (.cells #[.func (.func 57) #[] #[.pointer (some ⟨br, 0, none⟩)]] 89)) := (k3).alloc _
  have gA2 : Gr w (w3.alloc (.cells #[.func (.func 57) #[] #[.pointer (some ⟨br, 0, none⟩)]] 89)) := (G6).alloc _
  obtain ⟨l0, l1, l2, l3, m0, m1, m2, m3⟩ := HL.out _ kA2
  obtain ⟨q0, q1, q2, q3, q4⟩ := HC.out.from (k3)
  go_wp2_with fail
  refine (HF2.out _ (HC.out.from kA2).r0).mono ?_
  rintro e w4 ⟨rfl, G2⟩
  have k4 := kA2.trans G2.from
  have G7 := gA2.trans G2
  clear l0 l1 l2 l3 m0 m1 m2 m3 q0 q1 q2 q3 q4
  by_cases e2 : n2 = 0
  case neg =>
    have d2 : (n2 != 0) = true := by simpa using e2
    go_wp2
    go_ret
    exact ⟨ret_int (by rw [HO.out]; simp [e2]), G7⟩
  subst e2
  go_wp2_with fail
  rw [rounds_succ]
  have kA3 : From W2 (w4.alloc (.cells #[.func (.func 58) #[] #[]] 89)) := (k4).alloc _
  have gA3 : Gr w (w4.alloc (.cells #[.func (.func 58) #[] #[]] 89)) := (G7).alloc _
  obtain ⟨l0, l1, l2, l3, m0, m1, m2, m3⟩ := HL.out _ kA3
  obtain ⟨q0, q1, q2, q3, q4⟩ := HC.out.from (k4)
  go_wp2_with fail
  refine (HF3.out _).mono ?_
  rintro e w5 ⟨rfl, G3⟩
  have k5 := kA3.trans G3.from
  have G8 := gA3.trans G3
  clear l0 l1 l2 l3 m0 m1 m2 m3 q0 q1 q2 q3 q4
  by_cases e3 : n3 = 0
  case neg =>
    have d3 : (n3 != 0) = true := by simpa using e3
    go_wp2
    go_ret
    exact ⟨ret_int (by rw [HO.out]; simp), G8⟩
  subst e3
  go_wp2_with fail
  rw [rounds_succ]
  go_wp2
  go_ret
  exact ⟨ret_int (by rw [HO.out]; simp), G8⟩
end Go.Proofs.Ytamfifndddldcaa
