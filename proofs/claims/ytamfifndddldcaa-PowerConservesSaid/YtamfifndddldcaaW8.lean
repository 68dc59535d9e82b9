/-
  Walks of layer 10: batteries made of arbitrary ones; a case made.
-/
import Derived.Test.YtamfifndddldcaaW7
namespace Go.Proofs.Ytamfifndddldcaa
open Go.RowKit Go.Shelf

theorem From.setCell {w w' : World} {r : Nat} (h : From w w') (hr : w.heap.size ≤ r) (i : Nat) (x : Value) : From w (w'.setCell ⟨r, i, none⟩ x) := Below.setCell h (p := ⟨r, i, none⟩) hr _
abbrev bcs (C ch re : Int) : Array Value := #[.int .i64 C, .int .i64 ch, .int .i64 re]
theorem u64_bd (x : Int) : 0 ≤ IntKind.u64.wrap x := by
  simp [IntKind.wrap, IntKind.bits, IntKind.signed]
  omega
theorem tmod_bd {u m : Int} (hu : 0 ≤ u) (hm : 0 ≤ m) : 0 ≤ u.tmod (m + 1) ∧ u.tmod (m + 1) ≤ m := by
  rw [Int.tmod_eq_emod_of_nonneg hu]
  have := Int.emod_nonneg u (show m + 1 ≠ 0 by omega)
  have := Int.emod_lt_of_pos u (show 0 < m + 1 by omega)
  omega
theorem bat_soft {W : World} {b : Nat} {x y z : Int} {t : TypeId} (h : W.heap[b]? = some (.cells #[.int .i64 x, .int .i64 y, .int .i64 z] t (0, 0))) :
    W.cell? ⟨b, 0, none⟩ = some (.int .i64 x) ∧ W.cell? ⟨b, 1, none⟩ = some (.int .i64 y) ∧ W.cell? ⟨b, 2, none⟩ = some (.int .i64 z) ∧ W.frozen? ⟨b, 0, none⟩ = false ∧ W.frozen? ⟨b, 1, none⟩ = false ∧ W.frozen? ⟨b, 2, none⟩ = false := by
  refine ⟨?_, ?_, ?_, ?_, ?_, ?_⟩
  · rw [cell_of_row _ _ _ _ _ _ h]; rfl
  · rw [cell_of_row _ _ _ _ _ _ h]; rfl
  · rw [cell_of_row _ _ _ _ _ _ h]; rfl
  · simp [World.frozen?, h]
  · simp [World.frozen?, h]
  · simp [World.frozen?, h]
def MadeBPost (w : World) (most : Int) (e : Ending) (w' : World) : Prop := ∃ C' ch' re', e = .returned (.agg (bcs C' ch' re')) ∧ (0 ≤ C' ∧ C' ≤ most) ∧ (0 ≤ ch' ∧ ch' ≤ C') ∧ (0 ≤ re' ∧ re' ≤ C') ∧ From w w'
theorem madeB_calls (C ch re most : Int) (w : World) (hm : 0 ≤ most ∧ most ≤ 1000000) :
    Calls Try.prog 21 #[.agg (bcs C ch re), .int .i64 most] w (MadeBPost w most) := by
  obtain ⟨W1, hW1⟩ : ∃ V, w.alloc (.cells (bcs C ch re) 23) = V := ⟨_, rfl⟩
  obtain ⟨W2, hW2⟩ : ∃ V, W1.alloc (.cells #[.int .i64 0, .int .i64 0, .int .i64 0] 23) = V := ⟨_, rfl⟩
  have z1 : W1.heap.size = w.heap.size + 1 := by rw [← hW1]; simp
  have k2 : From w W2 := by rw [← hW2, ← hW1]; exact ((From.refl _).alloc _).alloc _
  have h0 : W2.heap[w.heap.size]? = some (.cells (bcs C ch re) 23 (0, 0)) := by rw [← hW2]; exact ((From.refl W1).alloc _).heap (by rw [← hW1]; exact heap_alloc_new _ _)
  have h1 : W2.heap[w.heap.size + 1]? = some (.cells #[.int .i64 0, .int .i64 0, .int .i64 0] 23 (0, 0)) := by rw [← hW2, ← z1]; exact heap_alloc_new _ _
  have a0 : W2.cell? ⟨w.heap.size, 0, none⟩ = some (.int .i64 C) := by rw [cell_of_row _ _ _ _ _ _ h0]; rfl
  have a1 : W2.cell? ⟨w.heap.size, 1, none⟩ = some (.int .i64 ch) := by rw [cell_of_row _ _ _ _ _ _ h0]; rfl
  have a2 : W2.cell? ⟨w.heap.size, 2, none⟩ = some (.int .i64 re) := by rw [cell_of_row _ _ _ _ _ _ h0]; rfl
  have b0 : W2.cell? ⟨w.heap.size + 1, 0, none⟩ = some (.int .i64 0) := by rw [cell_of_row _ _ _ _ _ _ h1]; rfl
  have b1 : W2.cell? ⟨w.heap.size + 1, 1, none⟩ = some (.int .i64 0) := by rw [cell_of_row _ _ _ _ _ _ h1]; rfl
  have b2 : W2.cell? ⟨w.heap.size + 1, 2, none⟩ = some (.int .i64 0) := by rw [cell_of_row _ _ _ _ _ _ h1]; rfl
  have f0 : W2.frozen? ⟨w.heap.size + 1, 0, none⟩ = false := by simp [World.frozen?, h1]
  have f1 : W2.frozen? ⟨w.heap.size + 1, 1, none⟩ = false := by simp [World.frozen?, h1]
  have f2 : W2.frozen? ⟨w.heap.size + 1, 2, none⟩ = false := by simp [World.frozen?, h1]
  have z2 : W2.heap.size = w.heap.size + 2 := by rw [← hW2]; simp [z1]
  obtain ⟨u1, hu1⟩ : ∃ u, IntKind.u64.wrap C = u := ⟨_, rfl⟩
  obtain ⟨u2, hu2⟩ : ∃ u, IntKind.u64.wrap ch = u := ⟨_, rfl⟩
  obtain ⟨u3, hu3⟩ : ∃ u, IntKind.u64.wrap re = u := ⟨_, rfl⟩
  have v1 : 0 ≤ u1 := by rw [← hu1]; exact u64_bd _
  have v2 : 0 ≤ u2 := by rw [← hu2]; exact u64_bd _
  have v3 : 0 ≤ u3 := by rw [← hu3]; exact u64_bd _
  have p1 := tmod_bd v1 hm.1
  obtain ⟨C', hC'⟩ : ∃ x, u1.tmod (most + 1) = x := ⟨_, rfl⟩
  rw [hC'] at p1
  have p2 := tmod_bd v2 p1.1
  have p3 := tmod_bd v3 p1.1
  obtain ⟨ch', hch'⟩ : ∃ x, u2.tmod (C' + 1) = x := ⟨_, rfl⟩
  obtain ⟨re', hre'⟩ : ∃ x, u3.tmod (C' + 1) = x := ⟨_, rfl⟩
  rw [hch'] at p2
  rw [hre'] at p3
  have HP := bx (And.intro p1 (And.intro p2 p3))
  have HK := bx k2
  have x1 : C' + 1 ≠ 0 := by omega
  have H1 := bx h1
  clear h0 h1 k2
  go_enter Try.func21, Try.ntmps21
  go_wp2
  go_region
  all_goals
    go_wp2
    have e3 := heap_set_at (heap_set_at (heap_set_at H1.out 0 (.int .i64 C')) 1 (.int .i64 ch')) 2 (.int .i64 re')
    refine bodyPost_ret (v := .agg (bcs C' ch' re')) (by simp [results, Try.results21, go_sem, cell_of_row _ _ _ _ _ _ e3]) rfl ⟨C', ch', re', rfl, HP.out.1, HP.out.2.1, HP.out.2.2, ?_⟩
    exact (((Below.setCell HK.out (p := ⟨w.heap.size + 1, 0, none⟩) (by simp) _).setCell (p := ⟨w.heap.size + 1, 1, none⟩) (by simp) _).setCell (p := ⟨w.heap.size + 1, 2, none⟩) (by simp) _).drew
/-- the case x, its table's numbers at v -/
structure Cs where
  C : Int
  ch : Int
  re : Int
  cr : Int
  fr : Int
  un : Int
  es : Int
  su : Int
abbrev ccs (x : Cs) (v : Value) : Array Value := #[.int .i64 x.C, .int .i64 x.ch, .int .i64 x.re, v, .int .u8 x.cr, .int .u16 x.fr, .int .u16 x.un, .int .u16 x.es, .int .u16 x.su]
def MadePost (w : World) (x : Cs) (t : List Wn) (e : Ending) (w' : World) : Prop :=
  ∃ C' ch' re' A c, e = .returned (.tuple #[.agg (bcs C' ch' re'), .slice A t.length c, .int .i64 (x.cr % 3), .int .i64 (x.fr % 1101), .int .i64 (x.un % 1101)]) ∧ (0 ≤ C' ∧ C' ≤ 200000) ∧ (0 ≤ ch' ∧ ch' ≤ C') ∧ (0 ≤ re' ∧ re' ≤ C') ∧ Wins w' (.slice A t.length c) t ∧ From w w'
theorem made_calls (x : Cs) (A0 : Option Addr) (c0 : Nat) (l : List Int) (w : World) (h : Halfs w (.slice A0 l.length c0) l) (hm : l.length ≤ 9223372036854775807) (hl : ∀ n ∈ l, 0 ≤ n ∧ n ≤ 65535)
    (k1 : 0 ≤ x.cr ∧ x.cr ≤ 255) (k2 : 0 ≤ x.fr ∧ x.fr ≤ 65535) (k3 : 0 ≤ x.un ∧ x.un ≤ 65535) :
    Calls Try.prog 26 #[.agg (ccs x (.slice A0 l.length c0))] w (MadePost w x (tableL l)) := by
  obtain ⟨W1, hW1⟩ : ∃ V, w.alloc (.cells (ccs x (.slice A0 l.length c0)) 50) = V := ⟨_, rfl⟩
  obtain ⟨W2, hW2⟩ : ∃ V, W1.alloc (.cells #[.int .i64 0, .int .i64 0, .int .i64 0] 23) = V := ⟨_, rfl⟩
  have kk1 : From w W1 := by rw [← hW1]; exact (From.refl _).alloc _
  have k12 : From W1 W2 := by rw [← hW2]; exact (From.refl _).alloc _
  have z1 : W1.heap.size = w.heap.size + 1 := by rw [← hW1]; simp
  have kk2 : From w W2 := by rw [← hW2, ← hW1]; exact ((From.refl _).alloc _).alloc _
  have h0 : W2.heap[w.heap.size]? = some (.cells (ccs x (.slice A0 l.length c0)) 50 (0, 0)) := by rw [← hW2]; exact ((From.refl W1).alloc _).heap (by rw [← hW1]; exact heap_alloc_new _ _)
  have h1 : W2.heap[w.heap.size + 1]? = some (.cells #[.int .i64 0, .int .i64 0, .int .i64 0] 23 (0, 0)) := by rw [← hW2, ← z1]; exact heap_alloc_new _ _
  have z2 : W2.heap.size = w.heap.size + 2 := by rw [← hW2]; simp [z1]
  obtain ⟨C, ch, re, cr, fr, un, es, su⟩ := x
  simp only at k1 k2 k3 hW1 h0
  have g0 : W1.heap[w.heap.size]? = some (.cells (ccs ⟨C, ch, re, cr, fr, un, es, su⟩ (.slice A0 l.length c0)) 50 (0, 0)) := by rw [← hW1]; exact heap_alloc_new _ _
  have a0 : W2.cell? ⟨w.heap.size, 0, none⟩ = some (.int .i64 C) := by rw [cell_of_row _ _ _ _ _ _ h0]; rfl
  have a1 : W2.cell? ⟨w.heap.size, 1, none⟩ = some (.int .i64 ch) := by rw [cell_of_row _ _ _ _ _ _ h0]; rfl
  have a2 : W2.cell? ⟨w.heap.size, 2, none⟩ = some (.int .i64 re) := by rw [cell_of_row _ _ _ _ _ _ h0]; rfl
  have a3 : W2.cell? ⟨w.heap.size, 3, none⟩ = some (.slice A0 l.length c0) := by rw [cell_of_row _ _ _ _ _ _ h0]; rfl
  have a4 : W2.cell? ⟨w.heap.size, 4, none⟩ = some (.int .u8 cr) := by rw [cell_of_row _ _ _ _ _ _ h0]; rfl
  have a5 : W2.cell? ⟨w.heap.size, 5, none⟩ = some (.int .u16 fr) := by rw [cell_of_row _ _ _ _ _ _ h0]; rfl
  have a6 : W2.cell? ⟨w.heap.size, 6, none⟩ = some (.int .u16 un) := by rw [cell_of_row _ _ _ _ _ _ h0]; rfl
  have o0 : W1.cell? ⟨w.heap.size, 0, none⟩ = some (.int .i64 C) := by rw [cell_of_row _ _ _ _ _ _ g0]; rfl
  have o1 : W1.cell? ⟨w.heap.size, 1, none⟩ = some (.int .i64 ch) := by rw [cell_of_row _ _ _ _ _ _ g0]; rfl
  have o2 : W1.cell? ⟨w.heap.size, 2, none⟩ = some (.int .i64 re) := by rw [cell_of_row _ _ _ _ _ _ g0]; rfl
  have o3 : W1.cell? ⟨w.heap.size, 3, none⟩ = some (.slice A0 l.length c0) := by rw [cell_of_row _ _ _ _ _ _ g0]; rfl
  have o4 : W1.cell? ⟨w.heap.size, 4, none⟩ = some (.int .u8 cr) := by rw [cell_of_row _ _ _ _ _ _ g0]; rfl
  have o5 : W1.cell? ⟨w.heap.size, 5, none⟩ = some (.int .u16 fr) := by rw [cell_of_row _ _ _ _ _ _ g0]; rfl
  have o6 : W1.cell? ⟨w.heap.size, 6, none⟩ = some (.int .u16 un) := by rw [cell_of_row _ _ _ _ _ _ g0]; rfl
  have q1 : cr.tmod 3 = cr % 3 := tmod_nn k1.1 3
  have q2 : fr.tmod 1101 = fr % 1101 := tmod_nn k2.1 1101
  have q3 : un.tmod 1101 = un % 1101 := tmod_nn k3.1 1101
  obtain ⟨cm, hcm⟩ : ∃ z, cr % 3 = z := ⟨_, rfl⟩
  obtain ⟨fm, hfm⟩ : ∃ z, fr % 1101 = z := ⟨_, rfl⟩
  obtain ⟨um, hum⟩ : ∃ z, un % 1101 = z := ⟨_, rfl⟩
  rw [hcm] at q1
  rw [hfm] at q2
  rw [hum] at q3
  have r1 : 0 ≤ cm ∧ cm ≤ 2 := by omega
  have r2 : 0 ≤ fm ∧ fm ≤ 1100 := by omega
  have r3 : 0 ≤ um ∧ um ≤ 1100 := by omega
  have y1 : IntKind.i64.wrap cm = cm := IntWalk.i64_in _ (by omega)
  have y2 : IntKind.i64.wrap fr = fr := IntWalk.i64_in _ (by omega)
  have y3 : IntKind.i64.wrap un = un := IntWalk.i64_in _ (by omega)
  have HCM := bx (And.intro hcm (And.intro hfm hum))
  have HMB := bx (fun (W : World) => madeB_calls C ch re 200000 W (by omega))
  have HTB := bx (fun (W : World) (k : From W1 W) => table_calls A0 c0 l W (h.from (kk1.trans k)) hm hl)
  have HK := bx (fun (W : World) (kk : From W1 W) => (show From W1 W ∧ W.cell? ⟨w.heap.size, 0, none⟩ = some (.int .i64 C) ∧ W.cell? ⟨w.heap.size, 1, none⟩ = some (.int .i64 ch) ∧ W.cell? ⟨w.heap.size, 2, none⟩ = some (.int .i64 re) ∧ W.cell? ⟨w.heap.size, 3, none⟩ = some (.slice A0 l.length c0) ∧ W.cell? ⟨w.heap.size, 4, none⟩ = some (.int .u8 cr) ∧ W.cell? ⟨w.heap.size, 5, none⟩ = some (.int .u16 fr) ∧ W.cell? ⟨w.heap.size, 6, none⟩ = some (.int .u16 un) from ⟨kk, kk.cell o0, kk.cell o1, kk.cell o2, kk.cell o3, kk.cell o4, kk.cell o5, kk.cell o6⟩))
  have hFF : From W1 W2 := k12
  have H1 := bx h1
  have HK1 := bx kk1
  clear h hl h0 h1 kk2 g0 o0 o1 o2 o3 o4 o5 o6 hcm hfm hum hm
  go_enter Try.func26, Try.ntmps26
  go_wp2_with fail
  rw [hW2] at *
  clear hW1 hW2
  go_region_held3 (fun W => From W1 W ∧ W.cell? ⟨w.heap.size, 0, none⟩ = some (.int .i64 C) ∧ W.cell? ⟨w.heap.size, 1, none⟩ = some (.int .i64 ch) ∧ W.cell? ⟨w.heap.size, 2, none⟩ = some (.int .i64 re) ∧ W.cell? ⟨w.heap.size, 3, none⟩ = some (.slice A0 l.length c0) ∧ W.cell? ⟨w.heap.size, 4, none⟩ = some (.int .u8 cr) ∧ W.cell? ⟨w.heap.size, 5, none⟩ = some (.int .u16 fr) ∧ W.cell? ⟨w.heap.size, 6, none⟩ = some (.int .u16 un))
    (first | (go_split_ands; with_reducible refine HK.out _ ?_; repeat' (first | with_reducible assumption | with_reducible exact Nat.le_refl _ | with_reducible exact Nat.le_of_eq z1 | with_reducible refine From.drew ?_ | with_reducible refine From.alloc ?_ _ | with_reducible refine From.setCell ?_ ?_ _ _)))
    (first | (go_at_call 21; (with_reducible refine (HMB.out _).mono ?_); rintro e w3 ⟨C', ch', re', rfl, p1, p2, p3, k3⟩; have hkeep := From.trans (show From W1 _ by go_split_ands; assumption) k3; have hbx := k3.heap (show _ = some (Obj.cells #[.int .i64 0, .int .i64 0, .int .i64 0] 23 (0, 0)) by first | exact H1.out | assumption); obtain ⟨t0, t1, t2, t3, t4, t5⟩ := bat_soft hbx) | (go_at_call 23; have hz5 := Below.size (show From W1 _ by go_split_ands; assumption); (with_reducible refine (HTB.out _ (by go_split_ands; assumption)).mono ?_); rintro e w5 ⟨A5, c5, rfl, o5, k5⟩; have hkeep := From.trans (show From W1 _ by go_split_ands; assumption) k5; have hbx := k5.heap (show _ = some (Obj.cells #[.int .i64 0, .int .i64 0, .int .i64 0] 23 (0, 0)) by first | exact H1.out | assumption); obtain ⟨t0, t1, t2, t3, t4, t5⟩ := bat_soft hbx))
  all_goals
    go_wp2
    have hz6 : w.heap.size + 2 ≤ w3.heap.size := by have := Below.size k3; simp at this; omega
    have e3 := heap_set_at (heap_set_at (heap_set_at hbx 0 (.int .i64 C')) 1 (.int .i64 ch')) 2 (.int .i64 re')
    have o6 : ((((w5.setCell ⟨w.heap.size + 1, 0, none⟩ (.int .i64 C')).setCell ⟨w.heap.size + 1, 1, none⟩ (.int .i64 ch')).setCell ⟨w.heap.size + 1, 2, none⟩ (.int .i64 re'))).ownsRow w3.heap.size 68 6 (.slice A5 (tableL l).length c5) (tableL l).length ((tableL l).flatMap wcs) := own_step (own_step (own_step o5 (by omega) _ _) (by omega) _ _) (by omega) _ _
    refine bodyPost_ret (v := .tuple #[.agg (bcs C' ch' re'), .slice A5 (tableL l).length c5, .int .i64 cm, .int .i64 fm, .int .i64 um]) (by simp [results, Try.results26, go_sem, cell_of_row _ _ _ _ _ _ e3]) rfl ⟨C', ch', re', A5, c5, by rw [← HCM.out.1, ← HCM.out.2.1, ← HCM.out.2.2], p1, p2, p3, wins_of_own o6, ?_⟩
    exact From.setCell (From.setCell (From.setCell (HK1.out.trans hkeep) (by omega) _ _) (by omega) _ _) (by omega) _ _
end Go.Proofs.Ytamfifndddldcaa
