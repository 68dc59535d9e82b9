/-
  For every case of at most 300 ticks, the law PowerBySteps returns true, and its argument reads as before. No condition.
-/
import Derived.Test.YtamfifndddldcaaW18
import Derived.Test.YtamfifndddldcaaW13
import Derived.Test.YtamfifndddldcaaR4
namespace Go.Proofs.Ytamfifndddldcaa
open Go.ChangeShapes Go.WideShapes Go.ChangeAt Go.RowKit Go.Deep Go.Shelf

set_option maxHeartbeats 64000000 in
set_option maxRecDepth 10000 in
theorem bys_walk (x : Cs) (A0 : Option Addr) (c0 : Nat) (l : List Int) (w : World) (h0 : Halfs w (.slice A0 l.length c0) l) (hm0 : l.length ≤ 9223372036854775807) (hx0 : ∀ n ∈ l, 0 ≤ n ∧ n ≤ 65535)
    (p1 : 0 ≤ x.cr ∧ x.cr ≤ 255) (p2 : 0 ≤ x.fr ∧ x.fr ≤ 65535) (p3 : 0 ≤ x.un ∧ x.un ≤ 65535) (p4 : 0 ≤ x.es ∧ x.es ≤ 65535) (p5 : 0 ≤ x.su ∧ x.su ≤ 65535) :
    Calls Try.prog 10 #[.agg (ccs x (.slice A0 l.length c0))] w fun e w' => e = .returned (.bool true) ∧ From w w' := by
  obtain ⟨W1, hW1⟩ : ∃ V, w.alloc (.cells (ccs x (.slice A0 l.length c0)) 50) = V := ⟨_, rfl⟩
  have f1 : From w W1 := by rw [← hW1]; exact (From.refl _).alloc _
  have z1 : W1.heap.size = w.heap.size + 1 := by rw [← hW1]; simp
  have g0 : W1.heap[w.heap.size]? = some (.cells (ccs x (.slice A0 l.length c0)) 50 (0, 0)) := by rw [← hW1]; exact heap_alloc_new _ _
  have HM := bx (made_calls x A0 c0 l W1 (h0.from f1) hm0 hx0 p1 p2 p3)
  have HTab := bx (tableL_tab l (fun n hn => (hx0 n hn).1))
  have HTab0 := bx (tableL_tab0 l (fun n hn => (hx0 n hn).1))
  obtain ⟨C, ch, re, cr, fr, un, es, su⟩ := x
  simp only at p1 p2 p3 p4 p5 hW1 g0 HM
  obtain ⟨c, hc⟩ : ∃ z, cr % 3 = z := ⟨_, rfl⟩
  obtain ⟨k, hk⟩ : ∃ z, fr % 1101 = z := ⟨_, rfl⟩
  obtain ⟨u, hu⟩ : ∃ z, un % 1101 = z := ⟨_, rfl⟩
  have b1 : 0 ≤ c ∧ c ≤ 2 := by omega
  have b2 : 0 ≤ k ∧ k ≤ 1100 := by omega
  have b3 : 0 ≤ u ∧ u ≤ 1100 := by omega
  unfold MadePost at HM
  simp only [hc, hk, hu] at HM
  generalize tableL l = t at *
  have o0 : W1.cell? ⟨w.heap.size, 0, none⟩ = some (.int .i64 C) := by rw [cell_of_row _ _ _ _ _ _ g0]; rfl
  have o1 : W1.cell? ⟨w.heap.size, 1, none⟩ = some (.int .i64 ch) := by rw [cell_of_row _ _ _ _ _ _ g0]; rfl
  have o2 : W1.cell? ⟨w.heap.size, 2, none⟩ = some (.int .i64 re) := by rw [cell_of_row _ _ _ _ _ _ g0]; rfl
  have o3 : W1.cell? ⟨w.heap.size, 3, none⟩ = some (.slice A0 l.length c0) := by rw [cell_of_row _ _ _ _ _ _ g0]; rfl
  have o4 : W1.cell? ⟨w.heap.size, 4, none⟩ = some (.int .u8 cr) := by rw [cell_of_row _ _ _ _ _ _ g0]; rfl
  have o5 : W1.cell? ⟨w.heap.size, 5, none⟩ = some (.int .u16 fr) := by rw [cell_of_row _ _ _ _ _ _ g0]; rfl
  have o6 : W1.cell? ⟨w.heap.size, 6, none⟩ = some (.int .u16 un) := by rw [cell_of_row _ _ _ _ _ _ g0]; rfl
  have o7 : W1.cell? ⟨w.heap.size, 7, none⟩ = some (.int .u16 es) := by rw [cell_of_row _ _ _ _ _ _ g0]; rfl
  have o8 : W1.cell? ⟨w.heap.size, 8, none⟩ = some (.int .u16 su) := by rw [cell_of_row _ _ _ _ _ _ g0]; rfl
  have G0 := bx g0
  have HF1 := bx f1
  clear h0 hm0 hx0 hc hk hu f1 g0 p1 p2 p3
  go_enter Try.func10, Try.ntmps10
  go_wp2_with fail
  refine HM.out.mono ?_
  rintro e w2 ⟨C', ch', re', A, cc, rfl, q1, q2, q3, hW, k2⟩
  clear o0 o1 o2 o3 o4 o5 o6
  have a7 := k2.cell o7
  clear o7 o8
  have hz2 : w.heap.size < w2.heap.size := by have := Below.size k2; omega
  go_wp2_with fail
  obtain ⟨V1, hV1⟩ : ∃ V, w2.alloc (.cells (bcs C' ch' re') 23) = V := ⟨_, rfl⟩
  obtain ⟨V2, hV2⟩ : ∃ V, V1.alloc (.cells #[.int .i64 9, .int .i64 es, .int .i64 0, .bool true] 41) = V := ⟨_, rfl⟩
  obtain ⟨V3, hV3⟩ : ∃ V, V2.alloc (.cells (bcs C' ch' re') 23) = V := ⟨_, rfl⟩
  rw [hV1, hV2, hV3]
  have y1 : V1.heap.size = w2.heap.size + 1 := by rw [← hV1]; simp
  have y2 : V2.heap.size = w2.heap.size + 2 := by rw [← hV2]; simp [y1]
  have F1 : From w2 V1 := by rw [← hV1]; exact (From.refl _).alloc _
  have F2 : From V1 V2 := by rw [← hV2]; exact (From.refl _).alloc _
  have F3 : From V2 V3 := by rw [← hV3]; exact (From.refl _).alloc _
  have bB : BatC V2 w2.heap.size C' ch' re' := ⟨F2.heap (by rw [← hV1]; exact heap_alloc_new _ _)⟩
  have bL : Loads V2 (.slice (some ⟨w2.heap.size + 1, 0, none⟩) 1 1) (oneL es) := by
    rw [← hV2, ← y1]
    exact (sl_new V1 ((oneL es).flatMap lcs) 41 1 1).more (by simp)
  have bC : BatC V3 (w2.heap.size + 2) C' ch' re' := ⟨by rw [← hV3, ← y2]; exact heap_alloc_new _ _⟩
  have G2 := bx ((k2.trans (F1.trans F2)).heap G0.out)
  have HW := bx (hW.from (F1.trans F2))
  have HB := bx bB
  have HL := bx bL
  have HF := bx (HF1.out.trans (k2.trans (F1.trans F2)))
  obtain ⟨un', hun⟩ : ∃ z, min u (k + 300) = z := ⟨_, rfl⟩
  rw [hun]
  have hun2 : 0 ≤ un' ∧ un' ≤ 1100 := by omega
  obtain ⟨T, hT⟩ : ∃ T, survT t c k un' es su C' ch' = T := ⟨_, rfl⟩
  obtain ⟨n, hn⟩ : ∃ n, (un' - k).toNat = n := ⟨_, rfl⟩
  have HT := bx hT
  have hT2 : survN (gainT t c su) C' es n k ch' = T := by rw [← hn, ← hT]; rfl
  have HS0 := bx (show BySt (gainT t c su) C' es n k T 0 ch' false from ⟨Nat.zero_le _, q2, by simpa using hT2⟩)
  have HN := bx hn
  have H0 := bx (And.intro F3 bC)
  have es1 := p4.1
  have es2 := p4.2
  have su1 := p5.1
  have su2 := p5.2
  clear hV1 hV2 hV3 F1 F2 F3 bB bL bC hW k2 hT hT2 hn a7 hun G0 HF1
  go_loopw [10, 11, 12, 13] (fun v10 v11 _ _ wr => ∃ (i : Nat) (kx cv : Int) (br : Bool), kx = k + i ∧ v11 = .int .i64 kx ∧ v10 = .bool br ∧ BySt (gainT t c su) C' es n k T i cv br ∧ From V2 wr ∧ BatC wr (w2.heap.size + 2) C' cv re') (fun _ v11 _ _ _ => (un' - intOf v11).toNat)
  case atStart => exact ⟨0, k, ch', false, by omega, rfl, rfl, HS0.out, H0.out.1, H0.out.2⟩
  case round =>
    clear HS0 H0
    obtain ⟨i, kx, cv, br, hkx, rfl, rfl, hst, hf, hbc⟩ := hrel
    by_cases hlt : kx < un'
    · have d1 : decide (kx < un') = true := decide_eq_true hlt
      have hin : i < n := by have := HN.out; omega
      have hbd := hst.bd
      obtain ⟨z, hz⟩ : ∃ z, gainA t c su kx = z := ⟨_, rfl⟩
      have hge := gain_eq t HTab0.out c su kx
      have hzb : 0 ≤ z ∧ z ≤ 65535 := by rw [← hz, hge]; unfold gainT; split <;> omega
      obtain ⟨s, hs⟩ : ∃ s, stepB C' cv re' z (oneL es) = s := ⟨_, rfl⟩
      obtain ⟨gd, hgd⟩ : ∃ gd, gainB C' cv z = gd := ⟨_, rfl⟩
      have hnx := BySt.next hst hin p4.1 (by rw [← hkx, ← hge, hz]; exact hzb.1) s re' (by rw [← hkx, ← hge, hz]; exact hs)
      have HNX := bx hnx
      have HG := bx (fun (W : World) (kk : From wr W) => gain_calls A cc t c kx su W (HW.out.from (hf.trans kk)) (by have := HTab.out.len; omega) HTab.out.bd z hz)
      obtain ⟨sc, su', ss, sb⟩ := s
      have HST := bx (fun (W : World) (kk : From wr W) => (show Calls Try.prog 18 #[.agg #[.int .i64 C', .int .i64 cv, .int .i64 re'], .int .i64 z, .slice (some ⟨w2.heap.size + 1, 0, none⟩) 1 1] W (fun e w' => ∃ A c, e = .returned (.tuple #[.agg #[.int .i64 C', .int .i64 sc, .int .i64 re'], .agg #[.int .i64 gd, .int .i64 su', .int .i64 (z - gd), .slice A ss.length c, .bool sb]]) ∧ SlN W.heap.size w' (.slice A ss.length c) ss.length (ic ss) ∧ From W w') from step_calls C' cv re' z (some ⟨w2.heap.size + 1, 0, none⟩) 1 (oneL es) W (HL.out.from (hf.trans kk)) (by simp) (by simp [Ids]) (by omega) (by omega) (by omega) (by omega) (by intro x hx; obtain rfl := List.mem_singleton.1 hx; simp only; omega) gd hgd ⟨sc, su', ss, sb⟩ hs))
      obtain ⟨a0, a1, a2, _, _, _⟩ := hbc.facts
      have a8 : wr.cell? ⟨w.heap.size, 8, none⟩ = some (.int .u16 su) := by rw [cell_of_row _ _ _ _ _ _ (hf.heap G2.out)]; rfl
      have HK := bx (fun (W : World) (kk : From wr W) => (show From wr W ∧ W.cell? ⟨w2.heap.size + 2, 0, none⟩ = some (.int .i64 C') ∧ W.cell? ⟨w2.heap.size + 2, 1, none⟩ = some (.int .i64 cv) ∧ W.cell? ⟨w2.heap.size + 2, 2, none⟩ = some (.int .i64 re') ∧ W.cell? ⟨w.heap.size, 8, none⟩ = some (.int .u16 su) from ⟨kk, kk.cell a0, kk.cell a1, kk.cell a2, kk.cell a8⟩))
      have hFF : From wr wr := From.refl _
      have hws : IntKind.i64.wrap su = su := IntWalk.i64_in _ (by omega)
      have HBC := bx hbc
      have hwz := Below.size hf
      have HFv := bx hf
      have HKx := bx hkx
      clear hst hnx hge hz hs hgd hin hbd hbc hf hkx
      go_wp2_with fail
      refine region_cut (fun q0 a' w' => ∃ (x39 x40 x41 x42 x43 x44 x45 x46 x47 x48 x38 x49 x50 : Value) (bb bs : Nat) (u1 : Int) (A5 : Option Addr) (c5 : Nat), a' = puts q0 [(39, x39), (40, x40), (41, x41), (42, x42), (43, x43), (44, x44), (45, x45), (46, x46), (47, x47), (48, x48), (38, x38), (49, x49), (50, x50), (12, .pointer (some ⟨bb, 0, none⟩)), (13, .pointer (some ⟨bs, 0, none⟩))] ∧ From wr w' ∧ wr.heap.size ≤ bb ∧ wr.heap.size ≤ bs ∧ BatC w' bb C' sc re' ∧ SupC w' bs gd u1 (z - gd) (.slice A5 ss.length c5) sb) (fun K' HKK => ?_) ?_
      · go_region_held3 (fun W => From wr W ∧ W.cell? ⟨w2.heap.size + 2, 0, none⟩ = some (.int .i64 C') ∧ W.cell? ⟨w2.heap.size + 2, 1, none⟩ = some (.int .i64 cv) ∧ W.cell? ⟨w2.heap.size + 2, 2, none⟩ = some (.int .i64 re') ∧ W.cell? ⟨w.heap.size, 8, none⟩ = some (.int .u16 su))
          (first | (go_split_ands; with_reducible refine HK.out _ ?_; repeat' (first | with_reducible assumption | with_reducible exact Nat.le_refl _ | with_reducible refine From.drew ?_ | with_reducible refine From.alloc ?_ _ | with_reducible refine From.setCell ?_ ?_ _ _ | omega)))
          (first | (go_at_call 31; (with_reducible refine (HG.out _ (show From wr _ by go_split_ands; assumption)).mono ?_); rintro e w3 ⟨rfl, k3⟩; have hkeep := From.trans (show From wr _ by go_split_ands; assumption) k3; have hz3 := Below.size k3; (try simp only [World.size_drew] at hz3); (try simp only [World.size_alloc] at hz3); (try simp only [World.size_drew] at hz3); (first | (have hl3 : wr.heap.size < w3.heap.size := (by omega)) | skip); (first | (have hl3' : wr.heap.size + 1 < w3.heap.size := (by omega)) | skip); (first | (have hbw30 : BatC w3 (wr.heap.size) 0 0 0 := ⟨(by first | with_reducible exact From.heap k3 (heap_alloc_new _ _) | with_reducible exact From.heap k3 (From.heap (From.drew (From.refl _)) (heap_alloc_new _ _)) | with_reducible exact From.heap k3 (heap_alloc_0 _ _ _) | with_reducible exact From.heap k3 (From.heap (From.drew (From.refl _)) (heap_alloc_0 _ _ _)) | with_reducible exact From.heap k3 (heap_alloc_1 _ _ _) | with_reducible exact From.heap k3 (heap_drew_n _ _) | with_reducible exact From.heap k3 (heap_drew_1 _ _ _) | with_reducible exact From.heap k3 (heap_drew_0 _ _ _) | with_reducible exact From.heap k3 (From.heap (From.drew (From.refl _)) (heap_alloc_1 _ _ _)))⟩; obtain ⟨hbw30_0, hbw30_1, hbw30_2, hbw30_3, hbw30_4, hbw30_5⟩ := hbw30.facts) | skip); (first | (have hsw30 : SupC w3 (wr.heap.size) 0 0 0 (.slice none 0 0) false := ⟨(by first | with_reducible exact From.heap k3 (heap_alloc_new _ _) | with_reducible exact From.heap k3 (From.heap (From.drew (From.refl _)) (heap_alloc_new _ _)) | with_reducible exact From.heap k3 (heap_alloc_0 _ _ _) | with_reducible exact From.heap k3 (From.heap (From.drew (From.refl _)) (heap_alloc_0 _ _ _)) | with_reducible exact From.heap k3 (heap_alloc_1 _ _ _) | with_reducible exact From.heap k3 (heap_drew_n _ _) | with_reducible exact From.heap k3 (heap_drew_1 _ _ _) | with_reducible exact From.heap k3 (heap_drew_0 _ _ _) | with_reducible exact From.heap k3 (From.heap (From.drew (From.refl _)) (heap_alloc_1 _ _ _)))⟩; obtain ⟨hsw30_0, hsw30_1, hsw30_2, hsw30_3, hsw30_4, hsw30_5, hsw30_6, hsw30_7, hsw30_8, hsw30_9⟩ := hsw30.facts) | skip); (first | (have hbw31 : BatC w3 (wr.heap.size + 1) 0 0 0 := ⟨(by first | with_reducible exact From.heap k3 (heap_alloc_new _ _) | with_reducible exact From.heap k3 (From.heap (From.drew (From.refl _)) (heap_alloc_new _ _)) | with_reducible exact From.heap k3 (heap_alloc_0 _ _ _) | with_reducible exact From.heap k3 (From.heap (From.drew (From.refl _)) (heap_alloc_0 _ _ _)) | with_reducible exact From.heap k3 (heap_alloc_1 _ _ _) | with_reducible exact From.heap k3 (heap_drew_n _ _) | with_reducible exact From.heap k3 (heap_drew_1 _ _ _) | with_reducible exact From.heap k3 (heap_drew_0 _ _ _) | with_reducible exact From.heap k3 (From.heap (From.drew (From.refl _)) (heap_alloc_1 _ _ _)))⟩; obtain ⟨hbw31_0, hbw31_1, hbw31_2, hbw31_3, hbw31_4, hbw31_5⟩ := hbw31.facts) | skip); (first | (have hsw31 : SupC w3 (wr.heap.size + 1) 0 0 0 (.slice none 0 0) false := ⟨(by first | with_reducible exact From.heap k3 (heap_alloc_new _ _) | with_reducible exact From.heap k3 (From.heap (From.drew (From.refl _)) (heap_alloc_new _ _)) | with_reducible exact From.heap k3 (heap_alloc_0 _ _ _) | with_reducible exact From.heap k3 (From.heap (From.drew (From.refl _)) (heap_alloc_0 _ _ _)) | with_reducible exact From.heap k3 (heap_alloc_1 _ _ _) | with_reducible exact From.heap k3 (heap_drew_n _ _) | with_reducible exact From.heap k3 (heap_drew_1 _ _ _) | with_reducible exact From.heap k3 (heap_drew_0 _ _ _) | with_reducible exact From.heap k3 (From.heap (From.drew (From.refl _)) (heap_alloc_1 _ _ _)))⟩; obtain ⟨hsw31_0, hsw31_1, hsw31_2, hsw31_3, hsw31_4, hsw31_5, hsw31_6, hsw31_7, hsw31_8, hsw31_9⟩ := hsw31.facts) | skip)) | (go_at_call 18; (with_reducible refine (HST.out _ (show From wr _ by go_split_ands; assumption)).mono ?_); rintro e w4 ⟨A5, c5, rfl, o5, k4⟩; have hkeep4 := From.trans (show From wr _ by go_split_ands; assumption) k4; have hz4 := Below.size k4; (try simp only [World.size_drew] at hz4); (try simp only [World.size_alloc] at hz4); (try simp only [World.size_drew] at hz4); (first | (have hl4 : w3.heap.size < w4.heap.size := (by omega)) | skip); (first | (have hl4' : w3.heap.size + 1 < w4.heap.size := (by omega)) | skip); (first | (have hl5 : wr.heap.size < w4.heap.size := (by omega)) | skip); (first | (have hl5' : wr.heap.size + 1 < w4.heap.size := (by omega)) | skip); (first | (have hbw40 : BatC w4 (wr.heap.size) 0 0 0 := ⟨(by first | with_reducible exact From.heap k4 hbw30.out | with_reducible exact From.heap k4 (From.heap ((From.refl _).alloc _) hbw30.out) | with_reducible exact From.heap k4 (From.heap ((From.refl _).drew) hbw30.out) | with_reducible exact From.heap k4 (From.heap (((From.refl _).alloc _).drew) hbw30.out))⟩; obtain ⟨hbw40_0, hbw40_1, hbw40_2, hbw40_3, hbw40_4, hbw40_5⟩ := hbw40.facts) | skip); (first | (have hsw40 : SupC w4 (wr.heap.size) 0 0 0 (.slice none 0 0) false := ⟨(by first | with_reducible exact From.heap k4 hsw30.out | with_reducible exact From.heap k4 (From.heap ((From.refl _).alloc _) hsw30.out) | with_reducible exact From.heap k4 (From.heap ((From.refl _).drew) hsw30.out) | with_reducible exact From.heap k4 (From.heap (((From.refl _).alloc _).drew) hsw30.out))⟩; obtain ⟨hsw40_0, hsw40_1, hsw40_2, hsw40_3, hsw40_4, hsw40_5, hsw40_6, hsw40_7, hsw40_8, hsw40_9⟩ := hsw40.facts) | skip); (first | (have hbw41 : BatC w4 (wr.heap.size + 1) 0 0 0 := ⟨(by first | with_reducible exact From.heap k4 hbw31.out | with_reducible exact From.heap k4 (From.heap ((From.refl _).alloc _) hbw31.out) | with_reducible exact From.heap k4 (From.heap ((From.refl _).drew) hbw31.out) | with_reducible exact From.heap k4 (From.heap (((From.refl _).alloc _).drew) hbw31.out))⟩; obtain ⟨hbw41_0, hbw41_1, hbw41_2, hbw41_3, hbw41_4, hbw41_5⟩ := hbw41.facts) | skip); (first | (have hsw41 : SupC w4 (wr.heap.size + 1) 0 0 0 (.slice none 0 0) false := ⟨(by first | with_reducible exact From.heap k4 hsw31.out | with_reducible exact From.heap k4 (From.heap ((From.refl _).alloc _) hsw31.out) | with_reducible exact From.heap k4 (From.heap ((From.refl _).drew) hsw31.out) | with_reducible exact From.heap k4 (From.heap (((From.refl _).alloc _).drew) hsw31.out))⟩; obtain ⟨hsw41_0, hsw41_1, hsw41_2, hsw41_3, hsw41_4, hsw41_5, hsw41_6, hsw41_7, hsw41_8, hsw41_9⟩ := hsw41.facts) | skip); (first | (have hbw42 : BatC w4 (w3.heap.size) 0 0 0 := ⟨(by first | with_reducible exact From.heap k4 (heap_alloc_new _ _) | with_reducible exact From.heap k4 (From.heap (From.drew (From.refl _)) (heap_alloc_new _ _)) | with_reducible exact From.heap k4 (heap_alloc_0 _ _ _) | with_reducible exact From.heap k4 (From.heap (From.drew (From.refl _)) (heap_alloc_0 _ _ _)) | with_reducible exact From.heap k4 (heap_alloc_1 _ _ _) | with_reducible exact From.heap k4 (heap_drew_n _ _) | with_reducible exact From.heap k4 (heap_drew_1 _ _ _) | with_reducible exact From.heap k4 (heap_drew_0 _ _ _) | with_reducible exact From.heap k4 (From.heap (From.drew (From.refl _)) (heap_alloc_1 _ _ _)))⟩; obtain ⟨hbw42_0, hbw42_1, hbw42_2, hbw42_3, hbw42_4, hbw42_5⟩ := hbw42.facts) | skip); (first | (have hsw42 : SupC w4 (w3.heap.size) 0 0 0 (.slice none 0 0) false := ⟨(by first | with_reducible exact From.heap k4 (heap_alloc_new _ _) | with_reducible exact From.heap k4 (From.heap (From.drew (From.refl _)) (heap_alloc_new _ _)) | with_reducible exact From.heap k4 (heap_alloc_0 _ _ _) | with_reducible exact From.heap k4 (From.heap (From.drew (From.refl _)) (heap_alloc_0 _ _ _)) | with_reducible exact From.heap k4 (heap_alloc_1 _ _ _) | with_reducible exact From.heap k4 (heap_drew_n _ _) | with_reducible exact From.heap k4 (heap_drew_1 _ _ _) | with_reducible exact From.heap k4 (heap_drew_0 _ _ _) | with_reducible exact From.heap k4 (From.heap (From.drew (From.refl _)) (heap_alloc_1 _ _ _)))⟩; obtain ⟨hsw42_0, hsw42_1, hsw42_2, hsw42_3, hsw42_4, hsw42_5, hsw42_6, hsw42_7, hsw42_8, hsw42_9⟩ := hsw42.facts) | skip); (first | (have hbw43 : BatC w4 (w3.heap.size + 1) 0 0 0 := ⟨(by first | with_reducible exact From.heap k4 (heap_alloc_new _ _) | with_reducible exact From.heap k4 (From.heap (From.drew (From.refl _)) (heap_alloc_new _ _)) | with_reducible exact From.heap k4 (heap_alloc_0 _ _ _) | with_reducible exact From.heap k4 (From.heap (From.drew (From.refl _)) (heap_alloc_0 _ _ _)) | with_reducible exact From.heap k4 (heap_alloc_1 _ _ _) | with_reducible exact From.heap k4 (heap_drew_n _ _) | with_reducible exact From.heap k4 (heap_drew_1 _ _ _) | with_reducible exact From.heap k4 (heap_drew_0 _ _ _) | with_reducible exact From.heap k4 (From.heap (From.drew (From.refl _)) (heap_alloc_1 _ _ _)))⟩; obtain ⟨hbw43_0, hbw43_1, hbw43_2, hbw43_3, hbw43_4, hbw43_5⟩ := hbw43.facts) | skip); (first | (have hsw43 : SupC w4 (w3.heap.size + 1) 0 0 0 (.slice none 0 0) false := ⟨(by first | with_reducible exact From.heap k4 (heap_alloc_new _ _) | with_reducible exact From.heap k4 (From.heap (From.drew (From.refl _)) (heap_alloc_new _ _)) | with_reducible exact From.heap k4 (heap_alloc_0 _ _ _) | with_reducible exact From.heap k4 (From.heap (From.drew (From.refl _)) (heap_alloc_0 _ _ _)) | with_reducible exact From.heap k4 (heap_alloc_1 _ _ _) | with_reducible exact From.heap k4 (heap_drew_n _ _) | with_reducible exact From.heap k4 (heap_drew_1 _ _ _) | with_reducible exact From.heap k4 (heap_drew_0 _ _ _) | with_reducible exact From.heap k4 (From.heap (From.drew (From.refl _)) (heap_alloc_1 _ _ _)))⟩; obtain ⟨hsw43_0, hsw43_1, hsw43_2, hsw43_3, hsw43_4, hsw43_5, hsw43_6, hsw43_7, hsw43_8, hsw43_9⟩ := hsw43.facts) | skip)))
        · refine HKK.out _ _ ⟨_, _, _, _, _, _, _, _, _, _, _, _, _, _, _, su', A5, c5, (by simp only [puts, Act.put, List.setIfInBounds_toArray, List.set_cons_zero, List.set_cons_succ]; rfl), ?_, ?_, ?_, ?_, ?_⟩
          · repeat' (first | with_reducible assumption | with_reducible refine From.alloc ?_ _ | with_reducible refine From.setCell ?_ ?_ _ _ | omega)
          · first | with_reducible exact Nat.le_refl _ | omega
          · first | with_reducible exact Nat.le_refl _ | omega
          · with_reducible exact ⟨heap_alloc_0 _ _ _⟩
          · with_reducible exact ⟨heap_alloc_1 _ _ _⟩
        · refine HKK.out _ _ ⟨_, _, _, _, _, _, _, _, _, _, _, _, _, _, _, su', A5, c5, (by simp only [puts, Act.put, List.setIfInBounds_toArray, List.set_cons_zero, List.set_cons_succ]; rfl), ?_, ?_, ?_, ?_, ?_⟩
          · repeat' (first | with_reducible assumption | with_reducible refine From.alloc ?_ _ | with_reducible refine From.setCell ?_ ?_ _ _ | omega)
          · first | with_reducible exact Nat.le_refl _ | omega
          · first | with_reducible exact Nat.le_refl _ | omega
          · with_reducible exact ⟨heap_alloc_1 _ _ _⟩
          · with_reducible exact ⟨heap_alloc_0 _ _ _⟩
        · refine HKK.out _ _ ⟨_, _, _, _, _, _, _, _, _, _, _, _, _, _, _, su', A5, c5, (by simp only [puts, Act.put, List.setIfInBounds_toArray, List.set_cons_zero, List.set_cons_succ]; rfl), ?_, ?_, ?_, ?_, ?_⟩
          · repeat' (first | with_reducible assumption | with_reducible refine From.alloc ?_ _ | with_reducible refine From.setCell ?_ ?_ _ _ | omega)
          · first | with_reducible exact Nat.le_refl _ | omega
          · first | with_reducible exact Nat.le_refl _ | omega
          · with_reducible exact BatC.from (bat_put3 hbw42 _ _ _) ((From.refl _).alloc _)
          · with_reducible exact ⟨heap_alloc_at _ _ _ (by simp)⟩
        · refine HKK.out _ _ ⟨_, _, _, _, _, _, _, _, _, _, _, _, _, _, _, su', A5, c5, (by simp only [puts, Act.put, List.setIfInBounds_toArray, List.set_cons_zero, List.set_cons_succ]; rfl), ?_, ?_, ?_, ?_, ?_⟩
          · repeat' (first | with_reducible assumption | with_reducible refine From.alloc ?_ _ | with_reducible refine From.setCell ?_ ?_ _ _ | omega)
          · first | with_reducible exact Nat.le_refl _ | omega
          · first | with_reducible exact Nat.le_refl _ | omega
          · with_reducible exact bat_off5 (bat_put3 hbw42 _ _ _) (by omega) _ _ _ _ _
          · with_reducible exact sup_put5 (sup_off3 hsw43 (by omega) _ _ _) _ _ _ _ _
        · refine HKK.out _ _ ⟨_, _, _, _, _, _, _, _, _, _, _, _, _, _, _, su', A5, c5, (by simp only [puts, Act.put, List.setIfInBounds_toArray, List.set_cons_zero, List.set_cons_succ]; rfl), ?_, ?_, ?_, ?_, ?_⟩
          · repeat' (first | with_reducible assumption | with_reducible refine From.alloc ?_ _ | with_reducible refine From.setCell ?_ ?_ _ _ | omega)
          · first | with_reducible exact Nat.le_refl _ | omega
          · first | with_reducible exact Nat.le_refl _ | omega
          · with_reducible exact ⟨heap_alloc_at _ _ _ (by simp)⟩
          · with_reducible exact SupC.from (sup_put5 hsw42 _ _ _ _ _) ((From.refl _).alloc _)
        · refine HKK.out _ _ ⟨_, _, _, _, _, _, _, _, _, _, _, _, _, _, _, su', A5, c5, (by simp only [puts, Act.put, List.setIfInBounds_toArray, List.set_cons_zero, List.set_cons_succ]; rfl), ?_, ?_, ?_, ?_, ?_⟩
          · repeat' (first | with_reducible assumption | with_reducible refine From.alloc ?_ _ | with_reducible refine From.setCell ?_ ?_ _ _ | omega)
          · first | with_reducible exact Nat.le_refl _ | omega
          · first | with_reducible exact Nat.le_refl _ | omega
          · with_reducible exact bat_off5 (bat_put3 hbw43 _ _ _) (by omega) _ _ _ _ _
          · with_reducible exact sup_put5 (sup_off3 hsw42 (by omega) _ _ _) _ _ _ _ _
        · refine HKK.out _ _ ⟨_, _, _, _, _, _, _, _, _, _, _, _, _, _, _, su', A5, c5, (by simp only [puts, Act.put, List.setIfInBounds_toArray, List.set_cons_zero, List.set_cons_succ]; rfl), ?_, ?_, ?_, ?_, ?_⟩
          · repeat' (first | with_reducible assumption | with_reducible refine From.alloc ?_ _ | with_reducible refine From.setCell ?_ ?_ _ _ | omega)
          · first | with_reducible exact Nat.le_refl _ | omega
          · first | with_reducible exact Nat.le_refl _ | omega
          · with_reducible exact BatC.from (bat_put3 hbw40 _ _ _) ((From.refl _).alloc _)
          · with_reducible exact ⟨heap_alloc_at _ _ _ (by simp)⟩
        · refine HKK.out _ _ ⟨_, _, _, _, _, _, _, _, _, _, _, _, _, _, _, su', A5, c5, (by simp only [puts, Act.put, List.setIfInBounds_toArray, List.set_cons_zero, List.set_cons_succ]; rfl), ?_, ?_, ?_, ?_, ?_⟩
          · repeat' (first | with_reducible assumption | with_reducible refine From.alloc ?_ _ | with_reducible refine From.setCell ?_ ?_ _ _ | omega)
          · first | with_reducible exact Nat.le_refl _ | omega
          · first | with_reducible exact Nat.le_refl _ | omega
          · with_reducible exact bat_off5 (bat_put3 hbw40 _ _ _) (by omega) _ _ _ _ _
          · with_reducible exact sup_put5 (sup_off3 hsw42 (by omega) _ _ _) _ _ _ _ _
        · refine HKK.out _ _ ⟨_, _, _, _, _, _, _, _, _, _, _, _, _, _, _, su', A5, c5, (by simp only [puts, Act.put, List.setIfInBounds_toArray, List.set_cons_zero, List.set_cons_succ]; rfl), ?_, ?_, ?_, ?_, ?_⟩
          · repeat' (first | with_reducible assumption | with_reducible refine From.alloc ?_ _ | with_reducible refine From.setCell ?_ ?_ _ _ | omega)
          · first | with_reducible exact Nat.le_refl _ | omega
          · first | with_reducible exact Nat.le_refl _ | omega
          · with_reducible exact bat_off5 (bat_put3 hbw40 _ _ _) (by omega) _ _ _ _ _
          · with_reducible exact sup_put5 (sup_off3 hsw41 (by omega) _ _ _) _ _ _ _ _
        · refine HKK.out _ _ ⟨_, _, _, _, _, _, _, _, _, _, _, _, _, _, _, su', A5, c5, (by simp only [puts, Act.put, List.setIfInBounds_toArray, List.set_cons_zero, List.set_cons_succ]; rfl), ?_, ?_, ?_, ?_, ?_⟩
          · repeat' (first | with_reducible assumption | with_reducible refine From.alloc ?_ _ | with_reducible refine From.setCell ?_ ?_ _ _ | omega)
          · first | with_reducible exact Nat.le_refl _ | omega
          · first | with_reducible exact Nat.le_refl _ | omega
          · with_reducible exact ⟨heap_alloc_at _ _ _ (by simp)⟩
          · with_reducible exact SupC.from (sup_put5 hsw40 _ _ _ _ _) ((From.refl _).alloc _)
        · refine HKK.out _ _ ⟨_, _, _, _, _, _, _, _, _, _, _, _, _, _, _, su', A5, c5, (by simp only [puts, Act.put, List.setIfInBounds_toArray, List.set_cons_zero, List.set_cons_succ]; rfl), ?_, ?_, ?_, ?_, ?_⟩
          · repeat' (first | with_reducible assumption | with_reducible refine From.alloc ?_ _ | with_reducible refine From.setCell ?_ ?_ _ _ | omega)
          · first | with_reducible exact Nat.le_refl _ | omega
          · first | with_reducible exact Nat.le_refl _ | omega
          · with_reducible exact bat_off5 (bat_put3 hbw42 _ _ _) (by omega) _ _ _ _ _
          · with_reducible exact sup_put5 (sup_off3 hsw40 (by omega) _ _ _) _ _ _ _ _
        · refine HKK.out _ _ ⟨_, _, _, _, _, _, _, _, _, _, _, _, _, _, _, su', A5, c5, (by simp only [puts, Act.put, List.setIfInBounds_toArray, List.set_cons_zero, List.set_cons_succ]; rfl), ?_, ?_, ?_, ?_, ?_⟩
          · repeat' (first | with_reducible assumption | with_reducible refine From.alloc ?_ _ | with_reducible refine From.setCell ?_ ?_ _ _ | omega)
          · first | with_reducible exact Nat.le_refl _ | omega
          · first | with_reducible exact Nat.le_refl _ | omega
          · with_reducible exact bat_off5 (bat_put3 hbw41 _ _ _) (by omega) _ _ _ _ _
          · with_reducible exact sup_put5 (sup_off3 hsw40 (by omega) _ _ _) _ _ _ _ _
      rintro a' w9 ⟨x39, x40, x41, x42, x43, x44, x45, x46, x47, x48, x38, x49, x50, bb, bs, u1, A5, c5, rfl, k9, hbb9, hbs9, hB9, hS9⟩
      rename_i K0 hK0
      apply hK0
      simp only [puts, Act.put, List.setIfInBounds_toArray, List.set_cons_zero, List.set_cons_succ]
      clear HG HST HK hFF a0 a1 a2 a8
      have hC5 := BatC.from HBC.out k9
      obtain ⟨e0, e1, e2, e3, e4, e5⟩ := hB9.facts
      obtain ⟨m0, m1, m2, m3, m4, m5⟩ := hC5.facts
      obtain ⟨s0, s1, s2, s3, s4, s5, s6, s7, s8, s9⟩ := hS9.facts
      have C5 := bx hC5
      have S5 := bx hS9
      have hne : w2.heap.size + 2 ≠ bs := by have := HBC.out; have := (Array.getElem?_eq_some_iff.1 HBC.out.out).1; omega
      have K5 := bx k9
      clear hC5 hS9 hB9 k9 hK0
      have HR : ∀ (X : World), X = (((w9.setCell ⟨w2.heap.size + 2, 0, none⟩ (.int .i64 C')).setCell ⟨w2.heap.size + 2, 1, none⟩ (.int .i64 sc)).setCell ⟨w2.heap.size + 2, 2, none⟩ (.int .i64 re')) → From V2 X ∧ BatC X (w2.heap.size + 2) C' sc re' := fun X hX => by
        subst hX
        refine ⟨?_, bat_put3 C5.out C' sc re'⟩
        have hb := Nat.le_of_eq y2
        exact ((((HFv.out.trans K5.out).setCell hb _ _).setCell hb _ _).setCell hb _ _)
      have HR := bx HR
      have HK2 := HKx.out
      cases br
      case false =>
        have HQ := bx (show BySt (gainT t c su) C' es n k T (i + 1) sc sb from by simpa using HNX.out)
        go_wp2
        go_roundw
        case rel => exact ⟨i + 1, kx + 1, sc, sb, by omega, by go_num, rfl, HQ.out, (HR.out _ rfl).1, (HR.out _ rfl).2⟩
        case measure => simp [intOf]; omega
      case true =>
        have HQ := bx (show BySt (gainT t c su) C' es n k T (i + 1) sc true from by simpa using HNX.out)
        go_wp2
        go_roundw
        case rel => exact ⟨i + 1, kx + 1, sc, true, by omega, by go_num, rfl, HQ.out, (HR.out _ rfl).1, (HR.out _ rfl).2⟩
        case measure => simp [intOf]; omega
    · have d1 : decide (kx < un') = false := decide_eq_false hlt
      have hin : i = n := by have := HN.out; have := hst.le; omega
      subst hin
      have hTb := hst.done
      have hBB := HB.out.from hf
      obtain ⟨a0, a1, a2, _, _, _⟩ := hBB.facts
      have a7 : wr.cell? ⟨w.heap.size, 7, none⟩ = some (.int .u16 es) := by rw [cell_of_row _ _ _ _ _ _ (hf.heap G2.out)]; rfl
      have a8 : wr.cell? ⟨w.heap.size, 8, none⟩ = some (.int .u16 su) := by rw [cell_of_row _ _ _ _ _ _ (hf.heap G2.out)]; rfl
      have HSV := bx (surv_calls C' ch' re' A cc t c k un' es su wr (HW.out.from hf) HTab.out (by omega) q2 (by omega) (by omega) (by omega) (by omega) T HT.out)
      have HFv := bx hf
      have hws : IntKind.i64.wrap su = su := IntWalk.i64_in _ (by omega)
      have hwe : IntKind.i64.wrap es = es := IntWalk.i64_in _ (by omega)
      subst hTb
      clear hst hbc hf hBB hkx
      go_wp2_with fail
      refine HSV.out.mono ?_
      rintro e w6 ⟨rfl, f6⟩
      cases br
      all_goals
        go_wp2_with fail
        refine (lives_calls _).mono ?_
        rintro e w7 ⟨rfl, f7⟩
        go_wp2
        go_ret
        exact ⟨rfl, HF.out.trans (HFv.out.trans (f6.trans f7))⟩
set_option maxRecDepth 100000 in
theorem bys_lifted (os : Os) (started : os.Started) (H : Type) (enc : TypeId × Value → H) :
    ReturnsInHanded {} Try.checked os 10 .any (Rows.powerByStepsSpec.pre6 enc Try.prog Try.f10 Rows.powerByStepsRow.domain false) (Rows.powerByStepsSpec.post enc Try.prog Try.f10 false true false false) := by
  refine returnsInHanded_of_change (C := Try.checked) own started (by kernel_rfl) Try.func10
    (ChangeSpec.witness6 (enc := enc) (C := Try.checked) false ⟨#[], #[.agg #[.int .i64 0, .int .i64 0, .int .i64 0, .slice none 0 0, .int .u8 0, .int .u16 0, .int .u16 0, .int .u16 0, .int .u16 0]], []⟩ 8 (by kernel_rfl) (by kernel_rfl) (by kernel_rfl) (by kernel_rfl)) ?_
  intro W base args ds gs before hval0 hW hcnd _
  have hval : ∀ (j : Nat) t v, Try.f10.params[j]? = some t → args[j]? = some v → Value.okWide Try.prog W .any base t v := hval0
  have hW' := hW
  obtain ⟨p, q, hA0, hV, rfl, hfz, hnd⟩ := hW
  have hA : DataW.TrodAll enc Try.prog W 0 (fun _ => true) true Try.f10.params.toList args.toList ds p := hA0
  rw [Try.params10] at hA hval
  obtain ⟨v0, vs0, d0, ds0, p0, q0, hargs, rfl, rfl, h0, r0⟩ := trodAll_cons hA
  obtain ⟨rfl, rfl, rfl⟩ := trodAll_nil r0
  obtain rfl : args = #[v0] := by cases args; simp_all
  obtain ⟨rfl, rfl⟩ := trodVars_none hV
  obtain ⟨x0, A0, c0, l0, rfl, hB0, hm0, hx0, k10, k20, k30, k40, k50⟩ := open_case (hval 0 50 v0 rfl rfl) h0
  refine (bys_walk x0 A0 c0 l0 W hB0 hm0 hx0 k10 k20 k30 k40 k50).mono fun e W' ⟨he, hb⟩ => ?_
  subst he
  exact ⟨_, rfl, law_post Try.laid (by kernel_rfl) rfl rfl Try.underlying4 rfl hW' hb⟩
theorem bys_facts : joinedFacts Try.prog 10 Try.f10 Rows.powerByStepsSpec Rows.powerByStepsRow = true := by
  unfold joinedFacts
  rw [fact_enter, fact_lift, fact_make, fact_keys, fact_heard, fact_maps, Try.laid]
  kernel_rfl
theorem bys_holds : Rows.PowerByStepsSaid :=
  OpenClaim.holds_of_wide 10 Try.f10 rfl rfl rfl rfl rfl rfl rfl ⟨rfl, rfl, rfl, rfl, rfl⟩ rfl rfl rfl rfl rfl (by kernel_rfl) Try.func10 bys_facts
    (of_decide_eq_true (by kernel_rfl)) (by unfold Func.isWrapper; first | (rw [if_pos (by decide +kernel)]; kernel_rfl) | (rw [if_neg (by decide +kernel)]; exact ⟨rfl, rfl⟩))
    (fun os started H enc _ => bys_lifted os started H enc)
#print axioms bys_holds
end Go.Proofs.Ytamfifndddldcaa
