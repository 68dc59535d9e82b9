/-
  For all lists of numbers, the law MonitorDelays returns true, and its arguments read as before. No condition.
-/
import Derived.Test.YtlogokjjphlkkaaW16
import Derived.Test.YtlogokjjphlkkaaR3
namespace Go.Proofs.Ytlogokjjphlkkaa
open Go.ChangeShapes Go.WideShapes Go.ChangeAt Go.RowKit Go.Deep Go.Shelf

set_option maxRecDepth 100000 in
set_option maxHeartbeats 4000000 in
theorem del_walk (A0 : Option Addr) (c0 : Nat) (l : List Int) (AV : Option Addr) (cV : Nat) (vals0 : List Int) (w : World)
    (h : Ints w (.slice A0 l.length c0) l) (_ : l.length ≤ 9223372036854775807) (hx : ∀ x ∈ l, -9223372036854775808 ≤ x ∧ x ≤ 9223372036854775807) (_ : l.length ≤ c0)
    (hv : Ints w (.slice AV vals0.length cV) vals0) (_ : vals0.length ≤ 9223372036854775807) (_ : ∀ x ∈ vals0, -9223372036854775808 ≤ x ∧ x ≤ 9223372036854775807) (hvc : vals0.length ≤ cV) :
    Calls Try.prog 13 #[.slice A0 l.length c0, .slice AV vals0.length cV] w fun e w' => e = .returned (.bool true) ∧ Below w.heap.size w w' := by
  obtain ⟨m0, hm0⟩ : ∃ m, makeM l = m := ⟨_, rfl⟩
  have hg : GoodM m0 := by rw [← hm0]; exact makeM_good l
  have hp : m0.past = [] := by rw [← hm0]; rfl
  have M0F := bx (show m0.raised = false by rw [← hm0]; rfl)
  have HMK := bx (makeM_calls A0 c0 l w h hx m0 hm0)
  have HG := bx hg
  have HP := bx hp
  have HV0 := bx hv
  clear hg hp hm0 h hx hv
  go_enter Try.func13, Try.ntmps13
  go_wp2_with fail
  refine HMK.out.mono ?_
  rintro e w1 ⟨rfl, k1⟩
  have HR0 := bx (RunAt.new k1 m0 HP.out)
  obtain ⟨vals, hvals⟩ : ∃ z, vals0.take 100 = z := ⟨_, rfl⟩
  have hv100 : vals.length ≤ 100 := by rw [← hvals, List.length_take]; omega
  have HV := bx (show Sl w w.heap.size (.slice AV vals.length cV) vals.length (ic vals) by rw [← hvals]; exact ints_take HV0.out 100)
  have hvc' : vals.length ≤ cV := by rw [← hvals, List.length_take]; omega
  have HFW := bx (fun (W : World) => few_calls AV cV vals0 W hvc vals.length (by rw [hvals]))
  clear hvals
  go_wp2_with fail
  refine (HFW.out _).mono ?_
  rintro e w2 ⟨rfl, rfl⟩
  go_wp2_with fail
  go_loopw [7, 8, 9] (fun i _ _ wr => ∃ k : Nat, k ≤ vals.length ∧ i = .int .i64 k ∧ RunAt w w1.heap.size (runM m0 (vals.take k)) wr) (fun i _ _ _ => vals.length - (intOf i).toNat)
  case atStart => exact ⟨0, Nat.zero_le _, rfl, HR0.out⟩
  case round =>
    clear HR0
    obtain ⟨k, hk, rfl, hat⟩ := hrel
    by_cases hlt : k < vals.length
    · have z1 : (k : Int) < (vals.length : Int) := by omega
      have z2 : (0 : Int) ≤ (k : Int) := by omega
      obtain ⟨hp16, hnd, hlike⟩ := run_fine HG.out HP.out (vals.take k)
      have hS := runM_take m0 vals k hlt
      obtain ⟨vb, vo, rfl, _, vcell⟩ := ints_at (HV.out.below hat.from_) hlt
      have HS := bx hS
      have HOV := bx (run_past m0 HP.out m0.of.toNat (by have := HG.out.of; omega) (by have := HG.out.of; omega) (vals.take (k + 1)))
      clear hS hlike
      generalize vals[k] = v at *
      obtain ⟨m, hm⟩ : ∃ z, runM m0 (vals.take k) = z := ⟨_, rfl⟩
      rw [hm] at hat hp16
      have HAT := bx hat
      obtain ⟨hfr, hlow, A, c, hmc, hpast⟩ := hat
      obtain ⟨n, hn⟩ : ∃ z, stepM m v = z := ⟨_, rfl⟩
      obtain ⟨up, hup⟩ : ∃ u, upM m v = u := ⟨_, rfl⟩
      obtain ⟨dn, hdn⟩ : ∃ u, dnM m v = u := ⟨_, rfl⟩
      have HN := bx hn
      have HUP := bx hup
      have HDN := bx hdn
      have HM := bx hm
      have HST := bx (fun (W : World) (kk : From wr W) => step_calls m A c v W (hpast.sl.from kk) (by omega) n hn up dn hup hdn)
      have HMC := bx hmc
      have hmlt := hmc.lt
      clear hm hn hup hdn hpast

      have hS := HS.out
      rw [HM.out, HN.out] at hS
      replace HS := bx hS
      rw [HM.out] at hnd
      clear hS HUP HDN
      obtain ⟨mp, ml, mh, mn, mo, me, mps, mr⟩ := m
      obtain ⟨np, nl, nh, nn, no, ne, nps, nr⟩ := n
      obtain ⟨a0, a1, a2, a3, a4, a5, a6, a7⟩ := hmc.facts
      simp only at a0 a1 a2 a3 a4 a5 a6 a7
      clear hmc

      go_wp2_with fail
      refine region_cut (fun q0 a' w' => ∃ (x20 x21 x22 x23 x24 x25 x26 x27 x28 x29 : Value) (A3 : Option Addr) (c3 : Nat) (w4 : World), a' = puts q0 [(20, x20), (21, x21), (22, x22), (23, x23), (24, x24), (25, x25), (26, x26), (27, x27), (28, x28), (29, x29)] ∧ From wr w4 ∧ SlN wr.heap.size w4 (.slice A3 nps.length c3) nps.length (bc nps) ∧ w' = set8 w4 w1.heap.size ⟨np, nl, nh, nn, no, ne, nps, nr⟩ (.slice A3 nps.length c3)) (fun K' HKK => ?_) ?_
      · go_region_with (go_at_call 58; refine (HST.out _ (by first | exact From.refl _ | exact From.drew (From.refl _))).mono ?_; rintro e w3 ⟨A3, c3, rfl, q3, k3⟩; have hkeep : From wr w3 := (by first | exact k3 | exact From.trans (From.drew (From.refl _)) k3); have hMm := HMC.out.from hkeep; have t0 := hMm.soft 0; have t1 := hMm.soft 1; have t2 := hMm.soft 2; have t3 := hMm.soft 3; have t4 := hMm.soft 4; have t5 := hMm.soft 5; have t6 := hMm.soft 6; have t7 := hMm.soft 7; obtain ⟨e0, e1, e2, e3, e4, e5, e6, e7⟩ := hMm.facts)
        all_goals
          refine HKK.out _ _ ⟨_, _, _, _, _, _, _, _, _, _, A3, c3, w3, (by simp only [puts, Act.put, List.setIfInBounds_toArray, List.set_cons_zero, List.set_cons_succ]; rfl), hkeep, ?_, ?_⟩
          · exact q3.low (by simp)
          · with_reducible rfl
      rintro a' w' ⟨x20, x21, x22, x23, x24, x25, x26, x27, x28, x29, A3, c3, w4, rfl, k4, hS4, rfl⟩
      rename_i K0 hK0
      apply hK0
      simp only [puts, Act.put, List.setIfInBounds_toArray, List.set_cons_zero, List.set_cons_succ]

      have HNX := bx (HAT.out.step (n := ⟨np, nl, nh, nn, no, ne, nps, nr⟩) k4 hS4)
      clear hS4
      have hlk : Like m0 ⟨np, nl, nh, nn, no, ne, nps, nr⟩ := by rw [← HS.out]; exact like_run m0 _
      have HLK := bx hlk
      have hnN := hlk.2.2.2.1
      have hnO := hlk.2.2.2.2.1
      simp only at hnN hnO
      have hgo := HG.out.of
      have hgn := HG.out.need
      clear hlk
      generalize set8 w4 w1.heap.size ⟨np, nl, nh, nn, no, ne, nps, nr⟩ (.slice A3 nps.length c3) = W5 at *
      obtain ⟨AP, cP, hM5, _⟩ := HNX.out.mon
      obtain ⟨b0, b1, b2, b3, b4, b5, b6, b7⟩ := hM5.facts
      simp only at b0 b1 b2 b3 b4 b5 b6 b7

      have HM5 := bx hM5
      clear hM5
      have htl : (vals.take (k + 1)).length = k + 1 := by rw [List.length_take]; omega
      have HTL := bx htl
      obtain ⟨cnt2, hcnt2⟩ : ∃ x, trues (((vals.take (k + 1)).drop ((vals.take (k + 1)).length - no.toNat)).map (outB ⟨np, nl, nh, nn, no, ne, nps, nr⟩)) = x := ⟨_, rfl⟩
      obtain ⟨cnt1, hcnt1⟩ : ∃ x, trues (((vals.take (k + 1)).drop ((vals.take (k + 1)).length - nn.toNat)).map (outB ⟨np, nl, nh, nn, no, ne, nps, nr⟩)) = x := ⟨_, rfl⟩
      have hcp : cnt2 = trues nps := by
        rw [← hcnt2, outs_last HLK.out]
        have := HOV.out
        rw [HS.out] at this
        rw [show nps = (⟨np, nl, nh, nn, no, ne, nps, nr⟩ : Mon).past from rfl, this, hnO]
      have hmono : cnt1 ≤ cnt2 := by
        rw [← hcnt1, ← hcnt2, outs_last HLK.out, outs_last HLK.out]
        exact trues_last_mono _ (by omega)
      rw [htl] at hcnt1 hcnt2
      have HCNT1 := bx hcnt1
      have HCNT2 := bx hcnt2
      have hcl : (vals.take (k + 1)).length = k + 1 := htl
      clear hcnt1 hcnt2 htl
      have HLA1 := bx (fun (W : World) => last_calls (some ⟨vb, vo, none⟩) cV (vals.take (k + 1)) nn W (by omega) (by omega) (by omega) (by omega))
      have HLA2 := bx (fun (W : World) => last_calls (some ⟨vb, vo, none⟩) cV (vals.take (k + 1)) no W (by omega) (by omega) (by omega) (by omega))
      rw [hcl] at HLA1 HLA2
      have HVT := bx (ints_take HV.out (k + 1))
      clear hcl
      have hSD := step_delay (m := ⟨mp, ml, mh, mn, mo, me, mps, mr⟩) (v := v) hnd
      rw [HN.out] at hSD
      have HIMP1 := bx (show ((cnt1 : Int) = nn → nr = true) from fun h => hSD.1 (by show mn ≤ (trues nps : Int); have := congrArg Mon.need HN.out; simp only [stepM] at this; omega))
      have HIMP2 := bx (show (cnt2 = 0 → nr = false) from fun h => hSD.2 (by show trues nps = 0; omega))
      clear hSD hcp hmono
      have z6 : IntKind.i64.wrap ((k : Int) + 1) = (k : Int) + 1 := IntWalk.i64_in _ (by omega)
      have z7 : (k : Int) + 1 ≤ (cV : Int) := by omega
      have z8 : (0 : Int) ≤ (k : Int) + 1 := by omega
      have z9 : ((k : Int) + 1).toNat = k + 1 := by omega
      have hLN1 : ((vals.take (k + 1)).drop (k + 1 - nn.toNat)).length ≤ 1000 := by rw [List.length_drop, List.length_take]; omega
      have HLN1 := bx hLN1
      have hLN2 : ((vals.take (k + 1)).drop (k + 1 - no.toNat)).length ≤ 1000 := by rw [List.length_drop, List.length_take]; omega
      have HLN2 := bx hLN2
      clear hLN1 hLN2
      have HFW5 := bx HNX.out.from_
      have hno1 : 1 ≤ no ∧ no ≤ 16 ∧ 1 ≤ nn ∧ nn ≤ 16 := by omega
      clear hnN hnO hgo hgn hnd
      obtain ⟨lst1, hlst1⟩ : ∃ z, (vals.take (k + 1)).drop (k + 1 - nn.toNat) = z := ⟨_, rfl⟩
      rw [hlst1] at HLA1 HCNT1 HLN1
      obtain ⟨lst2, hlst2⟩ : ∃ z, (vals.take (k + 1)).drop (k + 1 - no.toNat) = z := ⟨_, rfl⟩
      rw [hlst2] at HLA2 HCNT2 HLN2
      clear hlst1 hlst2

      go_wp2_with fail
      refine region_cut (fun q0 a' w' => ∃ (x30 x31 x32 x33 x34 x35 x36 x37 x38 x39 x40 x41 x42 x43 x44 x45 x46 x47 x48 : Value) (bb1 : Bool), a' = puts q0 [(30, x30), (31, x31), (32, x32), (33, x33), (34, x34), (35, x35), (36, x36), (37, x37), (38, x38), (39, x39), (40, x40), (41, x41), (42, x42), (43, x43), (44, x44), (45, x45), (46, x46), (47, x47), (48, x48), (8, .bool bb1)] ∧ From W5 w' ∧ (bb1 = true → nr = true)) (fun K' HKK => ?_) ?_
      · by_cases hgd : nn ≤ (k : Int) + 1
        · have dg : decide (nn ≤ (k : Int) + 1) = true := decide_eq_true hgd
          have HK := bx (fun (W : World) (kk : From W5 W) => (show From W5 W ∧ W.cell? ⟨w1.heap.size, 0, none⟩ = some (.int .i64 np) ∧ W.cell? ⟨w1.heap.size, 1, none⟩ = some (.int .i64 nl) ∧ W.cell? ⟨w1.heap.size, 2, none⟩ = some (.int .i64 nh) ∧ W.cell? ⟨w1.heap.size, 3, none⟩ = some (.int .i64 nn) ∧ W.cell? ⟨w1.heap.size, 4, none⟩ = some (.int .i64 no) ∧ W.cell? ⟨w1.heap.size, 5, none⟩ = some (.int .i64 ne) ∧ W.cell? ⟨w1.heap.size, 6, none⟩ = some (.slice AP nps.length cP) ∧ W.cell? ⟨w1.heap.size, 7, none⟩ = some (.bool nr) from ⟨kk, kk.cell b0, kk.cell b1, kk.cell b2, kk.cell b3, kk.cell b4, kk.cell b5, kk.cell b6, kk.cell b7⟩))
          have hFF : From W5 W5 := From.refl _
          go_region_held3 (fun W => From W5 W ∧ W.cell? ⟨w1.heap.size, 0, none⟩ = some (.int .i64 np) ∧ W.cell? ⟨w1.heap.size, 1, none⟩ = some (.int .i64 nl) ∧ W.cell? ⟨w1.heap.size, 2, none⟩ = some (.int .i64 nh) ∧ W.cell? ⟨w1.heap.size, 3, none⟩ = some (.int .i64 nn) ∧ W.cell? ⟨w1.heap.size, 4, none⟩ = some (.int .i64 no) ∧ W.cell? ⟨w1.heap.size, 5, none⟩ = some (.int .i64 ne) ∧ W.cell? ⟨w1.heap.size, 6, none⟩ = some (.slice AP nps.length cP) ∧ W.cell? ⟨w1.heap.size, 7, none⟩ = some (.bool nr))
            (first | (go_split_ands; with_reducible refine HK.out _ ?_; repeat' (first | with_reducible assumption | with_reducible exact Nat.le_refl _ | with_reducible refine From.drew ?_ | with_reducible refine From.alloc ?_ _ | with_reducible refine From.setCell ?_ ?_ _ _)))
            (first | (go_at_call 63; (with_reducible refine (HLA1.out _).mono ?_); rintro e wL ⟨AL, cL, rfl, hLL, rfl⟩) | (go_at_call 62; (with_reducible refine (outs_calls ⟨np, nl, nh, nn, no, ne, nps, nr⟩ _ ⟨_, _, _, rfl⟩ AL cL _ _ (hLL _ _ (HVT.out.from (HFW5.out.trans (by go_split_ands; assumption)))) HLN1.out cnt1 HCNT1.out).mono ?_); rintro e wO ⟨rfl, kO⟩; have hkeep := From.trans (show From W5 _ by go_split_ands; assumption) kO))
          all_goals
            refine HKK.out _ _ ⟨_, _, _, _, _, _, _, _, _, _, _, _, _, _, _, _, _, _, _, _, (by simp only [puts, Act.put, List.setIfInBounds_toArray, List.set_cons_zero, List.set_cons_succ]; rfl), (by first | exact hkeep | exact hkeep.drew), ?_⟩
            intro hbb
            simp only [beq_iff_eq] at hbb
            exact HIMP1.out (by omega)
        · have dg : decide (nn ≤ (k : Int) + 1) = false := decide_eq_false hgd
          go_quiet (fail)
          exact HKK.out _ _ ⟨_, _, _, _, _, _, _, _, _, _, _, _, _, _, _, _, _, _, _, false, (by simp only [puts, Act.put, List.setIfInBounds_toArray, List.set_cons_zero, List.set_cons_succ]; rfl), From.drewN (From.refl _) _, fun h => by cases h⟩
      rintro a' w' ⟨x30, x31, x32, x33, x34, x35, x36, x37, x38, x39, x40, x41, x42, x43, x44, x45, x46, x47, x48, bb1, rfl, k5, himp1⟩
      rename_i K1 hK1
      apply hK1
      simp only [puts, Act.put, List.setIfInBounds_toArray, List.set_cons_zero, List.set_cons_succ]

      rename World => W6
      have HFW6 := bx (HFW5.out.trans k5)
      have HNX6 := bx (HNX.out.call k5)
      have hM6 := HM5.out.from k5
      clear b0 b1 b2 b3 b4 b5 b6 b7
      obtain ⟨b0, b1, b2, b3, b4, b5, b6, b7⟩ := hM6.facts
      simp only at b0 b1 b2 b3 b4 b5 b6 b7
      have HM6 := bx hM6
      have HI1 := bx himp1
      clear hM6 himp1 k5

      go_wp2_with fail
      refine region_cut (fun q0 a' w' => ∃ (x49 x50 x51 x52 x53 x54 x55 x56 x57 x58 x59 x60 x61 x62 x63 x64 x65 : Value) (bb2 : Bool), a' = puts q0 [(49, x49), (50, x50), (51, x51), (52, x52), (53, x53), (54, x54), (55, x55), (56, x56), (57, x57), (58, x58), (59, x59), (60, x60), (61, x61), (62, x62), (63, x63), (64, x64), (65, x65), (9, .bool bb2)] ∧ From W6 w' ∧ (bb2 = true → nr = false)) (fun K' HKK => ?_) ?_
      · by_cases hgd : no ≤ (k : Int) + 1
        · have dg : decide (no ≤ (k : Int) + 1) = true := decide_eq_true hgd
          have HK := bx (fun (W : World) (kk : From W6 W) => (show From W6 W ∧ W.cell? ⟨w1.heap.size, 0, none⟩ = some (.int .i64 np) ∧ W.cell? ⟨w1.heap.size, 1, none⟩ = some (.int .i64 nl) ∧ W.cell? ⟨w1.heap.size, 2, none⟩ = some (.int .i64 nh) ∧ W.cell? ⟨w1.heap.size, 3, none⟩ = some (.int .i64 nn) ∧ W.cell? ⟨w1.heap.size, 4, none⟩ = some (.int .i64 no) ∧ W.cell? ⟨w1.heap.size, 5, none⟩ = some (.int .i64 ne) ∧ W.cell? ⟨w1.heap.size, 6, none⟩ = some (.slice AP nps.length cP) ∧ W.cell? ⟨w1.heap.size, 7, none⟩ = some (.bool nr) from ⟨kk, kk.cell b0, kk.cell b1, kk.cell b2, kk.cell b3, kk.cell b4, kk.cell b5, kk.cell b6, kk.cell b7⟩))
          have hFF : From W6 W6 := From.refl _
          go_region_held3 (fun W => From W6 W ∧ W.cell? ⟨w1.heap.size, 0, none⟩ = some (.int .i64 np) ∧ W.cell? ⟨w1.heap.size, 1, none⟩ = some (.int .i64 nl) ∧ W.cell? ⟨w1.heap.size, 2, none⟩ = some (.int .i64 nh) ∧ W.cell? ⟨w1.heap.size, 3, none⟩ = some (.int .i64 nn) ∧ W.cell? ⟨w1.heap.size, 4, none⟩ = some (.int .i64 no) ∧ W.cell? ⟨w1.heap.size, 5, none⟩ = some (.int .i64 ne) ∧ W.cell? ⟨w1.heap.size, 6, none⟩ = some (.slice AP nps.length cP) ∧ W.cell? ⟨w1.heap.size, 7, none⟩ = some (.bool nr))
            (first | (go_split_ands; with_reducible refine HK.out _ ?_; repeat' (first | with_reducible assumption | with_reducible exact Nat.le_refl _ | with_reducible refine From.drew ?_ | with_reducible refine From.alloc ?_ _ | with_reducible refine From.setCell ?_ ?_ _ _)))
            (first | (go_at_call 63; (with_reducible refine (HLA2.out _).mono ?_); rintro e wL ⟨AL, cL, rfl, hLL, rfl⟩) | (go_at_call 62; (with_reducible refine (outs_calls ⟨np, nl, nh, nn, no, ne, nps, nr⟩ _ ⟨_, _, _, rfl⟩ AL cL _ _ (hLL _ _ (HVT.out.from (HFW6.out.trans (by go_split_ands; assumption)))) HLN2.out cnt2 HCNT2.out).mono ?_); rintro e wO ⟨rfl, kO⟩; have hkeep := From.trans (show From W6 _ by go_split_ands; assumption) kO))
          all_goals
            refine HKK.out _ _ ⟨_, _, _, _, _, _, _, _, _, _, _, _, _, _, _, _, _, _, (by simp only [puts, Act.put, List.setIfInBounds_toArray, List.set_cons_zero, List.set_cons_succ]; rfl), (by first | exact hkeep | exact hkeep.drew), ?_⟩
            intro hbb
            simp only [beq_iff_eq] at hbb
            exact HIMP2.out (by omega)
        · have dg : decide (no ≤ (k : Int) + 1) = false := decide_eq_false hgd
          go_quiet (fail)
          exact HKK.out _ _ ⟨_, _, _, _, _, _, _, _, _, _, _, _, _, _, _, _, _, false, (by simp only [puts, Act.put, List.setIfInBounds_toArray, List.set_cons_zero, List.set_cons_succ]; rfl), From.drewN (From.refl _) _, fun h => by cases h⟩
      rintro a' w' ⟨x49, x50, x51, x52, x53, x54, x55, x56, x57, x58, x59, x60, x61, x62, x63, x64, x65, bb2, rfl, k6, himp2⟩
      rename_i K2 hK2
      apply hK2
      simp only [puts, Act.put, List.setIfInBounds_toArray, List.set_cons_zero, List.set_cons_succ]

      have HNX7 := bx (HNX6.out.call k6)
      have hM7 := HM6.out.from k6
      clear b0 b1 b2 b3 b4 b5 b6 b7
      obtain ⟨b0, b1, b2, b3, b4, b5, b6, b7⟩ := hM7.facts
      simp only at b0 b1 b2 b3 b4 b5 b6 b7
      have himp1 := HI1.out
      clear hM7 k6 HI1
      have HNXN := bx (show nr = nr → RunAt w w1.heap.size (runM m0 (vals.take (k + 1))) w' from fun _ => by rw [HS.out]; exact HNX7.out)
      cases bb1
      · cases bb2
        · go_wp2
          go_roundw
          case rel => exact ⟨k + 1, by omega, by go_num, HNXN.out rfl⟩
          case measure => simp [intOf]; omega
        · obtain rfl := himp2 rfl
          go_wp2
          go_roundw
          case rel => exact ⟨k + 1, by omega, by go_num, HNXN.out rfl⟩
          case measure => simp [intOf]; omega
      · obtain rfl := himp1 rfl
        cases bb2
        · go_wp2
          go_roundw
          case rel => exact ⟨k + 1, by omega, by go_num, HNXN.out rfl⟩
          case measure => simp [intOf]; omega
        · exact absurd (himp2 rfl) (by decide)
    · obtain rfl : k = vals.length := by omega
      go_wp2_with fail
      refine (livesM_calls _).mono ?_
      rintro e w9 ⟨rfl, k9⟩
      go_wp2
      go_ret
      exact ⟨rfl, hat.from_.trans k9⟩
set_option maxRecDepth 100000 in
theorem del_lifted (os : Os) (started : os.Started) (H : Type) (enc : TypeId × Value → H) :
    ReturnsInHanded {} Try.checked os 13 .any (Rows.monitorDelaysSpec.pre6 enc Try.prog Try.f13 Rows.monitorDelaysRow.domain false) (Rows.monitorDelaysSpec.post enc Try.prog Try.f13 false true false false) := by
  refine returnsInHanded_of_change (C := Try.checked) own started (by kernel_rfl) Try.func13
    (ChangeSpec.witness6 (enc := enc) (C := Try.checked) false ⟨#[], #[.slice none 0 0, .slice none 0 0], []⟩ 8 (by kernel_rfl) (by kernel_rfl) (by kernel_rfl) (by kernel_rfl)) ?_
  intro W base args ds gs before hval0 hW hcnd _
  have hval : ∀ (j : Nat) t v, Try.f13.params[j]? = some t → args[j]? = some v → Value.okWide Try.prog W .any base t v := hval0
  have hW' := hW
  obtain ⟨p, q, hA0, hV, rfl, hfz, hnd⟩ := hW
  have hA : DataW.TrodAll enc Try.prog W 0 (fun _ => true) true Try.f13.params.toList args.toList ds p := hA0
  rw [Try.params13] at hA hval
  obtain ⟨v0, vs0, d0, ds0, p0, q0, hargs, rfl, rfl, h0, r0⟩ := trodAll_cons hA
  obtain ⟨v1, vs1, d1, ds1, p1, q1, rfl, rfl, rfl, h1, r1⟩ := trodAll_cons r0
  obtain ⟨rfl, rfl, rfl⟩ := trodAll_nil r1
  obtain rfl : args = #[v0, v1] := by cases args; simp_all
  obtain ⟨rfl, rfl⟩ := trodVars_none hV
  obtain ⟨A0, c0, l0, rfl, hB0, hm0, hx0, hc0⟩ := open_intsc (hval 0 22 v0 rfl rfl) h0
  obtain ⟨A1, c1, l1, rfl, hB1, hm1, hx1, hc1⟩ := open_intsc (hval 1 22 v1 rfl rfl) h1
  refine (del_walk A0 c0 l0 A1 c1 l1 W hB0 hm0 hx0 hc0 hB1 hm1 hx1 hc1).mono fun e W' ⟨he, hb⟩ => ?_
  subst he
  exact ⟨_, rfl, law_post Try.laid (by kernel_rfl) rfl rfl Try.underlying4 rfl hW' hb⟩
theorem del_facts : joinedFacts Try.prog 13 Try.f13 Rows.monitorDelaysSpec Rows.monitorDelaysRow = true := by
  unfold joinedFacts
  rw [fact_enter, fact_lift, fact_make, fact_keys, fact_heard, fact_maps, Try.laid]
  kernel_rfl
theorem del_holds : Rows.MonitorDelaysSaid :=
  OpenClaim.holds_of_wide 13 Try.f13 rfl rfl rfl rfl rfl rfl rfl ⟨rfl, rfl, rfl, rfl, rfl⟩ rfl rfl rfl rfl rfl (by kernel_rfl) Try.func13 del_facts
    (of_decide_eq_true (by kernel_rfl)) (by unfold Func.isWrapper; first | (rw [if_pos (by decide +kernel)]; kernel_rfl) | (rw [if_neg (by decide +kernel)]; exact ⟨rfl, rfl⟩))
    (fun os started H enc _ => del_lifted os started H enc)
#print axioms del_holds
end Go.Proofs.Ytlogokjjphlkkaa
