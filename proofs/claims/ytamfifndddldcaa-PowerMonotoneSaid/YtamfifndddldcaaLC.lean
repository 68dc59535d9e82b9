/-
  For every case, the law PowerMonotone returns true, and its arguments read as before. No condition.
-/
import Derived.Test.YtamfifndddldcaaW13
import Derived.Test.YtamfifndddldcaaM4
import Derived.Test.YtamfifndddldcaaR4
namespace Go.Proofs.Ytamfifndddldcaa
open Go.ChangeShapes Go.WideShapes Go.ChangeAt Go.RowKit Go.Deep Go.Shelf

set_option maxHeartbeats 4000000 in
set_option maxRecDepth 10000 in
theorem mon_walk (x : Cs) (A0 : Option Addr) (c0 : Nat) (l : List Int) (m : Int) (w : World) (h0 : Halfs w (.slice A0 l.length c0) l) (hm0 : l.length ≤ 9223372036854775807) (hx0 : ∀ n ∈ l, 0 ≤ n ∧ n ≤ 65535)
    (p1 : 0 ≤ x.cr ∧ x.cr ≤ 255) (p2 : 0 ≤ x.fr ∧ x.fr ≤ 65535) (p3 : 0 ≤ x.un ∧ x.un ≤ 65535) (p4 : 0 ≤ x.es ∧ x.es ≤ 65535) (p5 : 0 ≤ x.su ∧ x.su ≤ 65535) (p6 : 0 ≤ m) (p7 : m ≤ 65535) :
    Calls Try.prog 8 #[.agg (ccs x (.slice A0 l.length c0)), .int .u16 m] w fun e w' => e = .returned (.bool true) ∧ From w w' := by
  obtain ⟨W1, hW1⟩ : ∃ V, w.alloc (.cells (ccs x (.slice A0 l.length c0)) 50) = V := ⟨_, rfl⟩
  have f1 : From w W1 := by rw [← hW1]; exact (From.refl _).alloc _
  have z1 : W1.heap.size = w.heap.size + 1 := by rw [← hW1]; simp
  have g0 : W1.heap[w.heap.size]? = some (.cells (ccs x (.slice A0 l.length c0)) 50 (0, 0)) := by rw [← hW1]; exact heap_alloc_new _ _
  have HM := bx (made_calls x A0 c0 l W1 (h0.from f1) hm0 hx0 p1 p2 p3)
  have HTab := bx (tableL_tab l (fun n hn => (hx0 n hn).1))
  obtain ⟨C, ch, re, cr, fr, un, es, su⟩ := x
  simp only at p1 p2 p3 p4 p5 hW1 g0 HM
  obtain ⟨c, hc⟩ : ∃ z, cr % 3 = z := ⟨_, rfl⟩
  obtain ⟨k, hk⟩ : ∃ z, fr % 1101 = z := ⟨_, rfl⟩
  obtain ⟨u, hu⟩ : ∃ z, un % 1101 = z := ⟨_, rfl⟩
  have b1 : 0 ≤ c ∧ c ≤ 2 := by omega
  have b2 : 0 ≤ k ∧ k ≤ 1100 := by omega
  unfold MadePost at HM
  simp only [hc, hk, hu] at HM
  generalize tableL l = t at *
  have b3 : 0 ≤ u ∧ u ≤ 1100 := by omega
  have o0 : W1.cell? ⟨w.heap.size, 0, none⟩ = some (.int .i64 C) := by rw [cell_of_row _ _ _ _ _ _ g0]; rfl
  have o1 : W1.cell? ⟨w.heap.size, 1, none⟩ = some (.int .i64 ch) := by rw [cell_of_row _ _ _ _ _ _ g0]; rfl
  have o2 : W1.cell? ⟨w.heap.size, 2, none⟩ = some (.int .i64 re) := by rw [cell_of_row _ _ _ _ _ _ g0]; rfl
  have o3 : W1.cell? ⟨w.heap.size, 3, none⟩ = some (.slice A0 l.length c0) := by rw [cell_of_row _ _ _ _ _ _ g0]; rfl
  have o4 : W1.cell? ⟨w.heap.size, 4, none⟩ = some (.int .u8 cr) := by rw [cell_of_row _ _ _ _ _ _ g0]; rfl
  have o5 : W1.cell? ⟨w.heap.size, 5, none⟩ = some (.int .u16 fr) := by rw [cell_of_row _ _ _ _ _ _ g0]; rfl
  have o6 : W1.cell? ⟨w.heap.size, 6, none⟩ = some (.int .u16 un) := by rw [cell_of_row _ _ _ _ _ _ g0]; rfl
  have o7 : W1.cell? ⟨w.heap.size, 7, none⟩ = some (.int .u16 es) := by rw [cell_of_row _ _ _ _ _ _ g0]; rfl
  have o8 : W1.cell? ⟨w.heap.size, 8, none⟩ = some (.int .u16 su) := by rw [cell_of_row _ _ _ _ _ _ g0]; rfl
  have G0 := bx g0
  have HF1 := bx f1
  clear h0 hm0 hx0 hc hk hu f1 g0 p1 p2 p3
  go_enter Try.func8, Try.ntmps8
  go_wp2_with fail
  refine HM.out.mono ?_
  rintro e w2 ⟨C', ch', re', A, cc, rfl, q1, q2, q3, hW, k2⟩
  have f2 : From w2 (w2.alloc (.cells (bcs C' ch' re') 23)) := (From.refl _).alloc _
  have e0 := (k2.trans f2).heap G0.out
  have a7 : (w2.alloc (.cells (bcs C' ch' re') 23)).cell? ⟨w.heap.size, 7, none⟩ = some (.int .u16 es) := by rw [cell_of_row _ _ _ _ _ _ e0]; rfl
  have a8 : (w2.alloc (.cells (bcs C' ch' re') 23)).cell? ⟨w.heap.size, 8, none⟩ = some (.int .u16 su) := by rw [cell_of_row _ _ _ _ _ _ e0]; rfl
  have HW := bx (hW.from f2)
  have HF2 := bx (HF1.out.trans (k2.trans f2))
  have hbb : BatC (w2.alloc (.cells (bcs C' ch' re') 23)) w2.heap.size C' ch' re' := ⟨heap_alloc_new _ _⟩
  clear e0 hW k2 f2 o0 o1 o2 o3 o4 o5 o6 o7 o8
  obtain ⟨V, hV⟩ : ∃ V, w2.alloc (.cells (bcs C' ch' re') 23) = V := ⟨_, rfl⟩
  have zV : V.heap.size = w2.heap.size + 1 := by rw [← hV]; simp
  go_wp2_with fail
  rw [hV] at a7 a8 HW HF2 hbb
  clear hV
  have HBB := bx hbb
  clear hbb
  go_quiet (fail)
  obtain ⟨V2, hV2⟩ : ∃ X, V.drewN nq = X := ⟨_, rfl⟩
  have F3 : From V V2 := by rw [← hV2]; exact From.drewN (From.refl _) _
  rw [hV2]
  have HW2 := bx (HW.out.from F3)
  have HF3 := bx (HF2.out.trans F3)
  have HB2 := bx (HBB.out.from F3)
  have zV2 : w2.heap.size + 1 ≤ V2.heap.size := by have := Below.size F3; omega
  obtain ⟨y0, y1, y2, _, _, _⟩ := HB2.out.facts
  clear hV2 F3 a7 a8
  have es1 := p4.1
  have es2 := p4.2
  have su1 := p5.1
  have su2 := p5.2
  obtain ⟨s0, hs0⟩ : ∃ z, survT t c k u es su C' ch' = z := ⟨_, rfl⟩
  have HS0 := bx hs0
  clear hs0
  go_wp2_with fail
  refine (surv_calls C' ch' re' A cc t c k u es su V2 HW2.out HTab.out (by omega) (by omega) (by omega) (by omega) (by omega) (by omega) s0 HS0.out).mono ?_
  rintro e w3 ⟨rfl, g3⟩
  cases s0
  case false =>
    go_wp2_with fail
    refine (lives_calls _).mono ?_
    rintro e w4 ⟨rfl, g4⟩
    go_wp2
    go_ret
    exact ⟨rfl, HF3.out.trans (g3.trans g4)⟩
  have hst := HS0.out
  have s1 : survT t c k u es su C' (min C' (ch' + m)) = true := survT_mono t c k u u es es su su C' C' ch' _ (Int.le_refl _) (Int.le_refl _) (Int.le_refl _) (by omega) (Int.le_refl _) hst
  have s2 : survT t c k u es su (C' + m) ch' = true := survT_mono t c k u u es es su su C' _ ch' ch' (Int.le_refl _) (by omega) (Int.le_refl _) (Int.le_refl _) (Int.le_refl _) hst
  have s3 : survT t c k u es (su + m) C' ch' = true := survT_mono t c k u u es es su _ C' C' ch' ch' (by omega) (Int.le_refl _) (Int.le_refl _) (Int.le_refl _) (Int.le_refl _) hst
  have s4 : survT t c k u (max 0 (es - m)) su C' ch' = true := survT_mono t c k u u es _ su su C' C' ch' ch' (Int.le_refl _) (Int.le_refl _) (by omega) (Int.le_refl _) (Int.le_refl _) hst
  have s5 : survT t c k (max 0 (u - m)) es su C' ch' = true := survT_mono t c k u _ es es su su C' C' ch' ch' (Int.le_refl _) (Int.le_refl _) (Int.le_refl _) (Int.le_refl _) (by omega) hst
  have S1 := bx s1
  have S2 := bx s2
  have S3 := bx s3
  have S4 := bx s4
  have S5 := bx s5
  obtain ⟨r1, hr1⟩ : ∃ z, min C' (ch' + m) = z := ⟨_, rfl⟩
  obtain ⟨r4, hr4⟩ : ∃ z, max 0 (es - m) = z := ⟨_, rfl⟩
  obtain ⟨r5, hr5⟩ : ∃ z, max 0 (u - m) = z := ⟨_, rfl⟩
  rw [hr1] at S1
  rw [hr4] at S4
  rw [hr5] at S5
  have br1 : 0 ≤ r1 ∧ r1 ≤ C' := by omega
  have br4 : 0 ≤ r4 ∧ r4 ≤ 65535 := by omega
  have br5 : 0 ≤ r5 ∧ r5 ≤ 1100 := by omega
  clear s1 s2 s3 s4 s5 hst y0 y1 y2
  have HW3 := bx (HW2.out.from g3)
  have HF4 := bx (HF3.out.trans g3)
  have HB3 := bx (HB2.out.from g3)
  obtain ⟨y0, y1, y2, _, _, _⟩ := HB3.out.facts
  clear g3
  go_wp2_with fail
  have HK := bx (fun (W : World) (kk : From w3 W) => (show From w3 W ∧ W.cell? ⟨w2.heap.size, 0, none⟩ = some (.int .i64 C') ∧ W.cell? ⟨w2.heap.size, 1, none⟩ = some (.int .i64 ch') ∧ W.cell? ⟨w2.heap.size, 2, none⟩ = some (.int .i64 re') from ⟨kk, kk.cell y0, kk.cell y1, kk.cell y2⟩))
  have hFF : From w3 w3 := From.refl _
  go_region_held3 (fun W => From w3 W ∧ W.cell? ⟨w2.heap.size, 0, none⟩ = some (.int .i64 C') ∧ W.cell? ⟨w2.heap.size, 1, none⟩ = some (.int .i64 ch') ∧ W.cell? ⟨w2.heap.size, 2, none⟩ = some (.int .i64 re'))
    (first | (go_split_ands; with_reducible refine HK.out _ ?_; repeat' (first | with_reducible assumption | with_reducible exact Nat.le_refl _ | exact Nat.le_succ _ | with_reducible refine From.drew ?_ | with_reducible refine From.alloc ?_ _ | with_reducible refine From.setCell ?_ ?_ _ _)))
    (first | fail)
  · obtain ⟨V3, hV3⟩ : ∃ X, ((w3.alloc (.cells (bcs C' ch' re') 23)).alloc (.cells (bcs C' ch' re') 23)).drew = X := ⟨_, rfl⟩
    have hA : BatC V3 w3.heap.size C' ch' re' := by rw [← hV3]; exact BatC.drew (((From.refl _).alloc _).heap (heap_alloc_new w3 _))
    have hB : BatC V3 (w3.heap.size + 1) C' ch' re' := by rw [← hV3]; have := heap_alloc_new (w3.alloc (.cells (bcs C' ch' re') 23)) (.cells (bcs C' ch' re') 23); rw [World.size_alloc] at this; exact BatC.drew this
    have FV : From w3 V3 := by rw [← hV3]; exact (((From.refl _).alloc _).alloc _).drew
    have hz5 : w2.heap.size < w3.heap.size := (Array.getElem?_eq_some_iff.1 HB3.out.out).1
    have h5 := HB3.out.from FV
    obtain ⟨A0', A1', A2', A3', A4', A5'⟩ := hA.facts
    obtain ⟨B0', B1', B2', B3', B4', B5'⟩ := hB.facts
    obtain ⟨y0', y1', y2', _, _, _⟩ := h5.facts
    have xP : BatC ((V3.setCell ⟨w3.heap.size, 1, none⟩ (.int .i64 r1)).setCell ⟨w3.heap.size + 1, 0, none⟩ (.int .i64 (C' + m))) (w3.heap.size) C' r1 re' := ⟨(heap_set_off _ (by omega) _ _).trans (heap_set_at hA.out 1 _)⟩
    have xQ : BatC ((V3.setCell ⟨w3.heap.size, 1, none⟩ (.int .i64 r1)).setCell ⟨w3.heap.size + 1, 0, none⟩ (.int .i64 (C' + m))) (w3.heap.size + 1) (C' + m) ch' re' := ⟨heap_set_at ((heap_set_off _ (by omega) _ _).trans hB.out) 0 _⟩
    have x5 : BatC ((V3.setCell ⟨w3.heap.size, 1, none⟩ (.int .i64 r1)).setCell ⟨w3.heap.size + 1, 0, none⟩ (.int .i64 (C' + m))) w2.heap.size C' ch' re' := ⟨(heap_set_off _ (by omega) _ _).trans ((heap_set_off _ (by omega) _ _).trans h5.out)⟩
    have FX : From w3 ((V3.setCell ⟨w3.heap.size, 1, none⟩ (.int .i64 r1)).setCell ⟨w3.heap.size + 1, 0, none⟩ (.int .i64 (C' + m))) := (FV.setCell (by omega) _ _).setCell (by omega) _ _
    have XP := bx xP
    have XQ := bx xQ
    have X5 := bx x5
    have FX' := bx FX
    clear y0 y1 y2 hFF xP xQ x5 FX h5 hA hB
    go_wp2_with fail
    clear hV3 A0' A1' A2' A3' A4' A5' B0' B1' B2' B3' B4' B5' y0' y1' y2'
    refine (surv_calls C' r1 re' A cc t c k u es su _ (HW3.out.from FX'.out) HTab.out (by omega) (by omega) (by omega) (by omega) (by omega) (by omega) true S1.out).mono ?_
    rintro e w4 ⟨rfl, g4⟩
    obtain ⟨m0, m1, m2, _, _, _⟩ := (XQ.out.from g4).facts
    have G4 := bx (FX'.out.trans g4)
    have Y4 := bx (X5.out.from g4)
    clear g4
    go_wp2_with fail
    refine (surv_calls (C' + m) ch' re' A cc t c k u es su w4 (HW3.out.from G4.out) HTab.out (by omega) (by omega) (by omega) (by omega) (by omega) (by omega) true S2.out).mono ?_
    rintro e w5 ⟨rfl, g5⟩
    obtain ⟨n0, n1, n2, _, _, _⟩ := (Y4.out.from g5).facts
    have G5 := bx (G4.out.trans g5)
    have Y5 := bx (Y4.out.from g5)
    clear g5 m0 m1 m2
    go_wp2_with fail
    refine (surv_calls C' ch' re' A cc t c k u es (su + m) w5 (HW3.out.from G5.out) HTab.out (by omega) (by omega) (by omega) (by omega) (by omega) (by omega) true S3.out).mono ?_
    rintro e w6 ⟨rfl, g6⟩
    obtain ⟨m0, m1, m2, _, _, _⟩ := (Y5.out.from g6).facts
    have G6 := bx (G5.out.trans g6)
    have Y6 := bx (Y5.out.from g6)
    clear g6 n0 n1 n2
    go_wp2_with fail
    refine (surv_calls C' ch' re' A cc t c k u r4 su w6 (HW3.out.from G6.out) HTab.out (by omega) (by omega) (by omega) (by omega) (by omega) (by omega) true S4.out).mono ?_
    rintro e w7 ⟨rfl, g7⟩
    obtain ⟨n0, n1, n2, _, _, _⟩ := (Y6.out.from g7).facts
    have G7 := bx (G6.out.trans g7)
    clear g7 m0 m1 m2
    go_wp2_with fail
    refine (surv_calls C' ch' re' A cc t c k r5 es su w7 (HW3.out.from G7.out) HTab.out (by omega) (by omega) (by omega) (by omega) (by omega) (by omega) true S5.out).mono ?_
    rintro e w8 ⟨rfl, g8⟩
    go_wp2_with fail
    refine (lives_calls _).mono ?_
    rintro e w9 ⟨rfl, g9⟩
    go_wp2
    go_ret
    exact ⟨rfl, HF4.out.trans (G7.out.trans (g8.trans g9))⟩
  · obtain ⟨V3, hV3⟩ : ∃ X, ((w3.alloc (.cells (bcs C' ch' re') 23)).alloc (.cells (bcs C' ch' re') 23)).drew = X := ⟨_, rfl⟩
    have hA : BatC V3 w3.heap.size C' ch' re' := by rw [← hV3]; exact BatC.drew (((From.refl _).alloc _).heap (heap_alloc_new w3 _))
    have hB : BatC V3 (w3.heap.size + 1) C' ch' re' := by rw [← hV3]; have := heap_alloc_new (w3.alloc (.cells (bcs C' ch' re') 23)) (.cells (bcs C' ch' re') 23); rw [World.size_alloc] at this; exact BatC.drew this
    have FV : From w3 V3 := by rw [← hV3]; exact (((From.refl _).alloc _).alloc _).drew
    have hz5 : w2.heap.size < w3.heap.size := (Array.getElem?_eq_some_iff.1 HB3.out.out).1
    have h5 := HB3.out.from FV
    obtain ⟨A0', A1', A2', A3', A4', A5'⟩ := hA.facts
    obtain ⟨B0', B1', B2', B3', B4', B5'⟩ := hB.facts
    obtain ⟨y0', y1', y2', _, _, _⟩ := h5.facts
    have xP : BatC ((V3.setCell ⟨w3.heap.size + 1, 1, none⟩ (.int .i64 r1)).setCell ⟨w3.heap.size, 0, none⟩ (.int .i64 (C' + m))) (w3.heap.size + 1) C' r1 re' := ⟨(heap_set_off _ (by omega) _ _).trans (heap_set_at hB.out 1 _)⟩
    have xQ : BatC ((V3.setCell ⟨w3.heap.size + 1, 1, none⟩ (.int .i64 r1)).setCell ⟨w3.heap.size, 0, none⟩ (.int .i64 (C' + m))) (w3.heap.size) (C' + m) ch' re' := ⟨heap_set_at ((heap_set_off _ (by omega) _ _).trans hA.out) 0 _⟩
    have x5 : BatC ((V3.setCell ⟨w3.heap.size + 1, 1, none⟩ (.int .i64 r1)).setCell ⟨w3.heap.size, 0, none⟩ (.int .i64 (C' + m))) w2.heap.size C' ch' re' := ⟨(heap_set_off _ (by omega) _ _).trans ((heap_set_off _ (by omega) _ _).trans h5.out)⟩
    have FX : From w3 ((V3.setCell ⟨w3.heap.size + 1, 1, none⟩ (.int .i64 r1)).setCell ⟨w3.heap.size, 0, none⟩ (.int .i64 (C' + m))) := (FV.setCell (by omega) _ _).setCell (by omega) _ _
    have XP := bx xP
    have XQ := bx xQ
    have X5 := bx x5
    have FX' := bx FX
    clear y0 y1 y2 hFF xP xQ x5 FX h5 hA hB
    go_wp2_with fail
    clear hV3 A0' A1' A2' A3' A4' A5' B0' B1' B2' B3' B4' B5' y0' y1' y2'
    refine (surv_calls C' r1 re' A cc t c k u es su _ (HW3.out.from FX'.out) HTab.out (by omega) (by omega) (by omega) (by omega) (by omega) (by omega) true S1.out).mono ?_
    rintro e w4 ⟨rfl, g4⟩
    obtain ⟨m0, m1, m2, _, _, _⟩ := (XQ.out.from g4).facts
    have G4 := bx (FX'.out.trans g4)
    have Y4 := bx (X5.out.from g4)
    clear g4
    go_wp2_with fail
    refine (surv_calls (C' + m) ch' re' A cc t c k u es su w4 (HW3.out.from G4.out) HTab.out (by omega) (by omega) (by omega) (by omega) (by omega) (by omega) true S2.out).mono ?_
    rintro e w5 ⟨rfl, g5⟩
    obtain ⟨n0, n1, n2, _, _, _⟩ := (Y4.out.from g5).facts
    have G5 := bx (G4.out.trans g5)
    have Y5 := bx (Y4.out.from g5)
    clear g5 m0 m1 m2
    go_wp2_with fail
    refine (surv_calls C' ch' re' A cc t c k u es (su + m) w5 (HW3.out.from G5.out) HTab.out (by omega) (by omega) (by omega) (by omega) (by omega) (by omega) true S3.out).mono ?_
    rintro e w6 ⟨rfl, g6⟩
    obtain ⟨m0, m1, m2, _, _, _⟩ := (Y5.out.from g6).facts
    have G6 := bx (G5.out.trans g6)
    have Y6 := bx (Y5.out.from g6)
    clear g6 n0 n1 n2
    go_wp2_with fail
    refine (surv_calls C' ch' re' A cc t c k u r4 su w6 (HW3.out.from G6.out) HTab.out (by omega) (by omega) (by omega) (by omega) (by omega) (by omega) true S4.out).mono ?_
    rintro e w7 ⟨rfl, g7⟩
    obtain ⟨n0, n1, n2, _, _, _⟩ := (Y6.out.from g7).facts
    have G7 := bx (G6.out.trans g7)
    clear g7 m0 m1 m2
    go_wp2_with fail
    refine (surv_calls C' ch' re' A cc t c k r5 es su w7 (HW3.out.from G7.out) HTab.out (by omega) (by omega) (by omega) (by omega) (by omega) (by omega) true S5.out).mono ?_
    rintro e w8 ⟨rfl, g8⟩
    go_wp2_with fail
    refine (lives_calls _).mono ?_
    rintro e w9 ⟨rfl, g9⟩
    go_wp2
    go_ret
    exact ⟨rfl, HF4.out.trans (G7.out.trans (g8.trans g9))⟩
set_option maxRecDepth 100000 in
theorem mon_lifted (os : Os) (started : os.Started) (H : Type) (enc : TypeId × Value → H) :
    ReturnsInHanded {} Try.checked os 8 .any (Rows.powerMonotoneSpec.pre6 enc Try.prog Try.f8 Rows.powerMonotoneRow.domain false) (Rows.powerMonotoneSpec.post enc Try.prog Try.f8 false true false false) := by
  refine returnsInHanded_of_change (C := Try.checked) own started (by kernel_rfl) Try.func8
    (ChangeSpec.witness6 (enc := enc) (C := Try.checked) false ⟨#[], #[.agg #[.int .i64 0, .int .i64 0, .int .i64 0, .slice none 0 0, .int .u8 0, .int .u16 0, .int .u16 0, .int .u16 0, .int .u16 0], .int .u16 0], []⟩ 8 (by kernel_rfl) (by kernel_rfl) (by kernel_rfl) (by kernel_rfl)) ?_
  intro W base args ds gs before hval0 hW hcnd _
  have hval : ∀ (j : Nat) t v, Try.f8.params[j]? = some t → args[j]? = some v → Value.okWide Try.prog W .any base t v := hval0
  have hW' := hW
  obtain ⟨p, q, hA0, hV, rfl, hfz, hnd⟩ := hW
  have hA : DataW.TrodAll enc Try.prog W 0 (fun _ => true) true Try.f8.params.toList args.toList ds p := hA0
  rw [Try.params8] at hA hval
  obtain ⟨v0, vs0, d0, ds0, p0, q0, hargs, rfl, rfl, h0, r0⟩ := trodAll_cons hA
  obtain ⟨v1, vs1, d1, ds1, p1, q1, rfl, rfl, rfl, h1, r1⟩ := trodAll_cons r0
  obtain ⟨rfl, rfl, rfl⟩ := trodAll_nil r1
  obtain rfl : args = #[v0, v1] := by cases args; simp_all
  obtain ⟨rfl, rfl⟩ := trodVars_none hV
  obtain ⟨x0, A0, c0, l0, rfl, hB0, hm0, hx0, k10, k20, k30, k40, k50⟩ := open_case (hval 0 50 v0 rfl rfl) h0
  obtain ⟨a1, rfl, _, _, w1⟩ := open_int Try.underlying38 (hval 1 38 v1 rfl rfl) h1
  simp only [Lit.wf, Bool.and_eq_true, decide_eq_true_eq] at w1
  refine (mon_walk x0 A0 c0 l0 a1 W hB0 hm0 hx0 k10 k20 k30 k40 k50 w1.1 w1.2).mono fun e W' ⟨he, hb⟩ => ?_
  subst he
  exact ⟨_, rfl, law_post Try.laid (by kernel_rfl) rfl rfl Try.underlying4 rfl hW' hb⟩
theorem mon_facts : joinedFacts Try.prog 8 Try.f8 Rows.powerMonotoneSpec Rows.powerMonotoneRow = true := by
  unfold joinedFacts
  rw [fact_enter, fact_lift, fact_make, fact_keys, fact_heard, fact_maps, Try.laid]
  kernel_rfl
theorem mon_holds : Rows.PowerMonotoneSaid :=
  OpenClaim.holds_of_wide 8 Try.f8 rfl rfl rfl rfl rfl rfl rfl ⟨rfl, rfl, rfl, rfl, rfl⟩ rfl rfl rfl rfl rfl (by kernel_rfl) Try.func8 mon_facts
    (of_decide_eq_true (by kernel_rfl)) (by unfold Func.isWrapper; first | (rw [if_pos (by decide +kernel)]; kernel_rfl) | (rw [if_neg (by decide +kernel)]; exact ⟨rfl, rfl⟩))
    (fun os started H enc _ => mon_lifted os started H enc)
#print axioms mon_holds
end Go.Proofs.Ytamfifndddldcaa
