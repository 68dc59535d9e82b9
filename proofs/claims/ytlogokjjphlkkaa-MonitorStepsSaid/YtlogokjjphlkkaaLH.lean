/-
  For all lists of numbers, pasts and states, the law MonitorSteps returns true, and its arguments read as before. No condition.
-/
import Derived.Test.YtlogokjjphlkkaaW20
import Derived.Test.YtlogokjjphlkkaaR5
namespace Go.Proofs.Ytlogokjjphlkkaa
open Go.ChangeShapes Go.WideShapes Go.ChangeAt Go.RowKit Go.Deep Go.Shelf

theorem RunX.stepP {w wr : World} {P : Nat → Prop} {r : Nat} {m n : Mon} {A3 : Option Addr} {c3 : Nat} (h : RunX w P r m wr) (hS : SlP P wr (.slice A3 n.past.length c3) n.past.length (bc n.past)) :
    RunX w P r n (set8 wr r n (.slice A3 n.past.length c3)) := by
  obtain ⟨A, c, hM, _⟩ := h.mon
  obtain ⟨l1, l2, l3⟩ := h.low
  exact ⟨From.set8 h.from_ l1 _ _, ⟨l1, l2, fun b hb => l3 b (by rw [size_set8] at hb; omega)⟩, A3, c3, MonC.set8 hM, hS.set8 l2 _ _⟩
set_option maxRecDepth 100000 in
set_option maxHeartbeats 16000000 in
theorem stp_walk (A0 : Option Addr) (c0 : Nat) (l : List Int) (A1 : Option Addr) (c1 : Nat) (pst : List Bool) (rb : Bool) (AV : Option Addr) (cV : Nat) (vals : List Int) (w : World)
    (h : Ints w (.slice A0 l.length c0) l) (_ : l.length ≤ 9223372036854775807) (hx : ∀ x ∈ l, -9223372036854775808 ≤ x ∧ x ≤ 9223372036854775807)
    (hb : Bools w (.slice A1 pst.length c1) pst) (_ : pst.length ≤ 9223372036854775807) (hbc : pst.length ≤ c1) (_ : A1 = none → c1 = 0)
    (hv : Ints w (.slice AV vals.length cV) vals) (hvm : vals.length ≤ 9223372036854775807) (_ : ∀ x ∈ vals, -9223372036854775808 ≤ x ∧ x ≤ 9223372036854775807) :
    Calls Try.prog 11 #[.slice A0 l.length c0, .slice A1 pst.length c1, .bool rb, .slice AV vals.length cV] w fun e w' => e = .returned (.bool true) ∧ Below w.heap.size w w' := by
  obtain ⟨m0, hm0⟩ : ∃ m, makeM l = m := ⟨_, rfl⟩
  have hg : GoodM m0 := by rw [← hm0]; exact makeM_good l
  have hp : m0.past = [] := by rw [← hm0]; rfl
  have hof := hg.of
  obtain ⟨j, hmin, hj1, hj2, hj3⟩ : ∃ j : Nat, min (pst.length : Int) m0.of = (j : Int) ∧ j ≤ pst.length ∧ j ≤ c1 ∧ (j : Int) ≤ m0.of := ⟨min pst.length m0.of.toNat, by omega, by omega, by omega, by omega⟩
  have hjl : (pst.take j).length = j := by rw [List.length_take]; omega
  have HMK := bx (makeM_calls A0 c0 l w h hx m0 hm0)
  have HP := bx hp
  have HV := bx hv
  have HB := bx hb
  have HG := bx hg
  clear hg hp hm0 h hx hv hb
  go_enter Try.func11, Try.ntmps11
  go_wp2_with fail
  refine HMK.out.mono ?_
  rintro e w1 ⟨rfl, k1⟩
  obtain ⟨Wm, hWm⟩ : ∃ V, w1.alloc (.cells (mcs m0 (.slice none 0 0)) 71) = V := ⟨_, rfl⟩
  have km : From w1 Wm := by rw [← hWm]; exact From.alloc (From.refl _) _
  have sm : Wm.heap.size = w1.heap.size + 1 := by rw [← hWm]; simp
  have HM := bx (show MonC Wm w1.heap.size m0 (.slice none 0 0) by rw [← hWm]; exact MonC.new w1 m0 _)
  have hle1 := Below.size k1
  obtain ⟨a0, a1, a2, a3, a4, a5, a6, a7⟩ := HM.out.facts
  have t6 := HM.out.soft 6
  have t7 := HM.out.soft 7
  go_wp2_with fail

  obtain ⟨m1, hm1⟩ : ∃ z : Mon, (⟨m0.par, m0.low, m0.high, m0.need, m0.of, m0.ev, pst.take j, rb⟩ : Mon) = z := ⟨_, rfl⟩
  have hm1p : m1.past = pst.take j := by rw [← hm1]
  have hm1o : m1.of = m0.of := by rw [← hm1]
  have HX0 := bx (show MonC ((Wm.setCell ⟨w1.heap.size, 6, none⟩ (.slice A1 j c1)).setCell ⟨w1.heap.size, 7, none⟩ (.bool rb)) w1.heap.size m1 (.slice A1 j c1) by rw [← hm1]; exact (HM.out.past (.slice A1 j c1) (pst.take j)).rais rb)
  have kp : From w1 ((Wm.setCell ⟨w1.heap.size, 6, none⟩ (.slice A1 j c1)).setCell ⟨w1.heap.size, 7, none⟩ (.bool rb)) := (km.setCell (Nat.le_refl _) _ _).setCell (Nat.le_refl _) _ _
  have sp : ((Wm.setCell ⟨w1.heap.size, 6, none⟩ (.slice A1 j c1)).setCell ⟨w1.heap.size, 7, none⟩ (.bool rb)).heap.size = w1.heap.size + 1 := by simp [sm]
  obtain ⟨Wp, hWp⟩ : ∃ V, (Wm.setCell ⟨w1.heap.size, 6, none⟩ (.slice A1 j c1)).setCell ⟨w1.heap.size, 7, none⟩ (.bool rb) = V := ⟨_, rfl⟩
  rw [hWp] at HX0 kp sp
  rw [hWp]
  obtain ⟨Wq, hWq⟩ : ∃ V, Wp.alloc (.cells #[.int .i64 m0.par, .int .i64 m0.low, .int .i64 m0.high, .int .i64 m0.need, .int .i64 m0.of, .int .i64 m0.ev, .slice A1 j c1, .bool rb] 71) = V := ⟨_, rfl⟩
  rw [hWq]
  have kq : From Wp Wq := by rw [← hWq]; exact From.alloc (From.refl _) _
  have sq : Wq.heap.size = w1.heap.size + 2 := by rw [← hWq]; simp [sp]
  have HX1 := bx (HX0.out.from kq)
  have HX2 := bx (show MonC Wq (w1.heap.size + 1) m1 (.slice A1 j c1) by rw [← hWq, ← sp, ← hm1]; exact MonC.new Wp ⟨m0.par, m0.low, m0.high, m0.need, m0.of, m0.ev, pst.take j, rb⟩ _)
  have kw := (k1.trans kp).trans kq
  have HPS := bx (show Sl Wq w.heap.size (.slice A1 j c1) j (bc (pst.take j)) by
    have h1 : Sl Wq w.heap.size (.slice A1 pst.length c1) pst.length (bc pst) := HB.out.below kw
    have h2 := sl_take h1 j hj1
    rwa [show (bc pst).take j = bc (pst.take j) by simp [bc, List.map_take]] at h2)
  obtain ⟨P, hPd⟩ : ∃ P : Nat → Prop, ∀ b, P b ↔ (b ≠ w1.heap.size ∧ b ≠ w1.heap.size + 1) := ⟨_, fun _ => Iff.rfl⟩
  have hP1 : ¬ P w1.heap.size := fun h => ((hPd _).1 h).1 rfl
  have hP2 : ¬ P (w1.heap.size + 1) := fun h => ((hPd _).1 h).2 rfl
  have HPP : Bx (SlP P Wq (.slice A1 m1.past.length c1) m1.past.length (bc m1.past)) := bx (by rw [hm1p, hjl]; exact HPS.out.slp fun b hb => (hPd b).2 ⟨by omega, by omega⟩)
  have HR1 := bx (show RunX w P w1.heap.size m1 Wq from ⟨kw, ⟨hle1, hP1, fun b hb => (hPd b).2 ⟨by omega, by omega⟩⟩, A1, c1, by have := HX1.out; rwa [show (Value.slice A1 j c1) = .slice A1 m1.past.length c1 by rw [hm1p, hjl]] at this, HPP.out⟩)
  have HR2 := bx (show RunX w P (w1.heap.size + 1) m1 Wq from ⟨kw, ⟨by omega, hP2, fun b hb => (hPd b).2 ⟨by omega, by omega⟩⟩, A1, c1, by have := HX2.out; rwa [show (Value.slice A1 j c1) = .slice A1 m1.past.length c1 by rw [hm1p, hjl]] at this, HPP.out⟩)
  have HSM := bx (show Small m1 by unfold Small; rw [hm1p, hjl, hm1o]; omega)
  have HP1 := bx hP1
  have HP2 := bx hP2
  clear HPP HPS HX1 HX2 HX0 hWq hWp sp sm hm1 hm1p hm1o HM a0 a1 a2 a3 a4 a5 a6 a7 t6 t7 hWm km hP1 hP2 hPd HMK HB kp kq kw hmin hj1 hj2 hj3 hjl hof HG HP k1
  go_loopw [11, 12, 13, 14, 15, 16, 17] (fun i _ _ _ _ _ _ wr => ∃ k : Nat, k ≤ vals.length ∧ k ≤ 100 ∧ i = .int .i64 k ∧ RunX w P w1.heap.size (runM m1 (vals.take k)) wr ∧ RunX w P (w1.heap.size + 1) (runM m1 (vals.take k)) wr) (fun i _ _ _ _ _ _ _ => vals.length - (intOf i).toNat)
  case atStart => exact ⟨0, Nat.zero_le _, by omega, rfl, HR1.out, HR2.out⟩
  case round =>
    clear HR1 HR2
    obtain ⟨k, hk, hk100, rfl, hat, hat2⟩ := hrel
    by_cases hlt : k < vals.length
    · by_cases hl100 : k < 100
      · have z1 : (k : Int) < (vals.length : Int) := by omega
        have z2 : (0 : Int) ≤ (k : Int) := by omega
        have z3 : decide ((k : Int) < (vals.length : Int)) = true := decide_eq_true z1
        have hsk := small_run HSM.out (vals.take k)
        have hp16 : (runM m1 (vals.take k)).past.length ≤ 16 := by unfold Small at hsk; omega
        have hS := runM_take m1 vals k hlt
        obtain ⟨vb, vo, rfl, _, vcell⟩ := ints_at (HV.out.from hat.from_) hlt
        have HVC := bx (fun (W : World) (kk : From w W) => (show W.cell? ⟨vb, vo + k, none⟩ = some (.int .i64 vals[k]) from by
          obtain ⟨b, o, e, _, hh⟩ := ints_at (HV.out.from kk) hlt
          cases e
          exact hh))
        have HS := bx hS
        have HAT2 := bx hat2
        have HSK := bx hsk
        clear hS hat2 hsk
        generalize vals[k] = v at *
        obtain ⟨m, hm⟩ : ∃ z, runM m1 (vals.take k) = z := ⟨_, rfl⟩
        rw [hm] at hat hp16
        have HAT := bx hat
        obtain ⟨hfr, hlow, A, c, hmc, hpast⟩ := hat
        obtain ⟨n, hn⟩ : ∃ z, stepM m v = z := ⟨_, rfl⟩
        obtain ⟨up, hup⟩ : ∃ u, upM m v = u := ⟨_, rfl⟩
        obtain ⟨dn, hdn⟩ : ∃ u, dnM m v = u := ⟨_, rfl⟩
        have HN := bx hn
        have HUP := bx hup
        have HDN := bx hdn
        have HM := bx hm
        have HST := bx (fun (W : World) (kk : From wr W) => step_calls m A c v W (hpast.sl.from kk) (by omega) n hn up dn hup hdn)
        have HMC := bx hmc
        have hmlt := hmc.lt
        clear hm hn hup hdn hpast

        have hS := HS.out
        rw [HM.out, HN.out] at hS
        replace HS := bx hS
        replace HAT2 := bx (show RunX w P (w1.heap.size + 1) m wr by have := HAT2.out; rwa [HM.out] at this)
        replace HSK := bx (show Small m by have := HSK.out; rwa [HM.out] at this)
        have HST2 := bx (fun (A2 : Option Addr) (c2 : Nat) (W : World) (hh : Bools W (.slice A2 m.past.length c2) m.past) => step29_calls m A2 c2 v W hh HSK.out n HN.out up dn HUP.out HDN.out)
        have hn16 : n.past.length ≤ 1000 := by have h1 := HN.out; have h2 := small_step HSK.out v; rw [h1] at h2; unfold Small at h2; omega
        clear hS HUP HDN
        obtain ⟨mp, ml, mh, mn, mo, me, mps, mr⟩ := m
        obtain ⟨np, nl, nh, nn, no, ne, nps, nr⟩ := n
        obtain ⟨a0, a1, a2, a3, a4, a5, a6, a7⟩ := hmc.facts
        simp only at a0 a1 a2 a3 a4 a5 a6 a7
        clear hmc

        have HK := bx (fun (W : World) (kk : From wr W) => (show From wr W ∧ W.cell? ⟨vb, vo + k, none⟩ = some (.int .i64 v) ∧ W.cell? ⟨w1.heap.size, 0, none⟩ = some (.int .i64 mp) ∧ W.cell? ⟨w1.heap.size, 1, none⟩ = some (.int .i64 ml) ∧ W.cell? ⟨w1.heap.size, 2, none⟩ = some (.int .i64 mh) ∧ W.cell? ⟨w1.heap.size, 3, none⟩ = some (.int .i64 mn) ∧ W.cell? ⟨w1.heap.size, 4, none⟩ = some (.int .i64 mo) ∧ W.cell? ⟨w1.heap.size, 5, none⟩ = some (.int .i64 me) ∧ W.cell? ⟨w1.heap.size, 6, none⟩ = some (.slice A mps.length c) ∧ W.cell? ⟨w1.heap.size, 7, none⟩ = some (.bool mr) from ⟨kk, kk.cell vcell, kk.cell a0, kk.cell a1, kk.cell a2, kk.cell a3, kk.cell a4, kk.cell a5, kk.cell a6, kk.cell a7⟩))
        have hFF : From wr wr := From.refl _
        go_wp2_with fail
        refine region_cut (fun q0 a' w' => ∃ (x41 x42 x43 x44 x45 x46 x47 x48 x49 x50 : Value) (b : Nat) (A3 : Option Addr) (c3 : Nat), a' = puts q0 [(41, x41), (42, x42), (43, x43), (44, x44), (45, x45), (46, x46), (47, x47), (48, x48), (49, x49), (50, x50), (12, .pointer (some ⟨b, 0, none⟩)), (13, .bool up), (14, .bool dn)] ∧ From wr w' ∧ wr.heap.size ≤ b ∧ MonC w' b ⟨np, nl, nh, nn, no, ne, nps, nr⟩ (.slice A3 nps.length c3) ∧ SlN wr.heap.size w' (.slice A3 nps.length c3) nps.length (bc nps)) (fun K' HKK => ?_) ?_
        · go_region_held3 (fun W => From wr W ∧ W.cell? ⟨vb, vo + k, none⟩ = some (.int .i64 v) ∧ W.cell? ⟨w1.heap.size, 0, none⟩ = some (.int .i64 mp) ∧ W.cell? ⟨w1.heap.size, 1, none⟩ = some (.int .i64 ml) ∧ W.cell? ⟨w1.heap.size, 2, none⟩ = some (.int .i64 mh) ∧ W.cell? ⟨w1.heap.size, 3, none⟩ = some (.int .i64 mn) ∧ W.cell? ⟨w1.heap.size, 4, none⟩ = some (.int .i64 mo) ∧ W.cell? ⟨w1.heap.size, 5, none⟩ = some (.int .i64 me) ∧ W.cell? ⟨w1.heap.size, 6, none⟩ = some (.slice A mps.length c) ∧ W.cell? ⟨w1.heap.size, 7, none⟩ = some (.bool mr))
            (first | (go_split_ands; with_reducible refine HK.out _ ?_; repeat' (first | with_reducible assumption | with_reducible exact Nat.le_refl _ | with_reducible refine From.drew ?_ | with_reducible refine From.alloc ?_ _ | with_reducible refine From.setCell ?_ ?_ _ _)))
            (first | (go_at_call 58; (with_reducible refine (HST.out _ (by go_split_ands; assumption)).mono ?_); rintro e w3 ⟨A3, c3, rfl, q3, k3⟩; have hkeep := From.trans (show From wr _ by go_split_ands; assumption) k3; first | (have HRD : MonC w3 wr.heap.size ⟨0, 0, 0, 0, 0, 0, [], false⟩ (.slice none 0 0) := (by first | with_reducible exact MonC.from (MonC.new wr.drew ⟨0, 0, 0, 0, 0, 0, [], false⟩ (.slice none 0 0)) k3 | with_reducible exact MonC.from (MonC.from (MonC.new wr ⟨0, 0, 0, 0, 0, 0, [], false⟩ (.slice none 0 0)) (From.drew (From.refl _))) k3); have t0 := HRD.soft 0; have t1 := HRD.soft 1; have t2 := HRD.soft 2; have t3 := HRD.soft 3; have t4 := HRD.soft 4; have t5 := HRD.soft 5; have t6 := HRD.soft 6; have t7 := HRD.soft 7; obtain ⟨s0, s1, s2, s3, s4, s5, s6, s7⟩ := HRD.facts) | skip))
          · exact HKK.out _ _ ⟨_, _, _, _, _, _, _, _, _, _, w3.heap.size, A3, c3, (by simp only [puts, Act.put, List.setIfInBounds_toArray, List.set_cons_zero, List.set_cons_succ]; rfl), From.alloc hkeep _, Below.size hkeep, MonC.new w3 ⟨np, nl, nh, nn, no, ne, nps, nr⟩ _, (q3.low (by simp)).from (From.alloc (From.refl _) _)⟩
          · refine HKK.out _ _ ⟨_, _, _, _, _, _, _, _, _, _, wr.heap.size, A3, c3, (by simp only [puts, Act.put, List.setIfInBounds_toArray, List.set_cons_zero, List.set_cons_succ]; rfl), ?_, Nat.le_refl _, ?_, ?_⟩
            · with_reducible exact From.set8 hkeep (Nat.le_refl _) ⟨np, nl, nh, nn, no, ne, nps, nr⟩ _
            · with_reducible exact HRD.set8 (m := ⟨np, nl, nh, nn, no, ne, nps, nr⟩)
            · have hq := q3.set8 (show wr.heap.size < _ by simp) ⟨np, nl, nh, nn, no, ne, nps, nr⟩ (.slice A3 nps.length c3)
              have hq2 := hq.low (show wr.heap.size ≤ _ by simp)
              with_reducible exact hq2
        rintro a' w4 ⟨x41, x42, x43, x44, x45, x46, x47, x48, x49, x50, b, A3, c3, rfl, k4, hb4, hM4, hS4⟩
        rename_i K0 hK0
        apply hK0
        simp only [puts, Act.put, List.setIfInBounds_toArray, List.set_cons_zero, List.set_cons_succ]

        clear hK0
        have HLW := bx hlow.2.2
        have HLT := bx (show w1.heap.size < wr.heap.size ∧ w1.heap.size + 1 < wr.heap.size ∧ wr.heap.size ≤ w4.heap.size ∧ w4.heap.size ≤ w4.heap.size from ⟨hmlt, by obtain ⟨_, _, hq, _⟩ := HAT2.out.mon; exact hq.lt, Below.size k4, Nat.le_refl _⟩)
        clear HK HST a0 a1 a2 a3 a4 a5 a6 a7 vcell hfr hlow HMC hFF
        have hat2 := HAT2.out.call k4
        replace HAT := bx (HAT.out.call k4)
        have HAT2 := bx hat2
        obtain ⟨hfr2, hlow2, A2, c2, hmc2, hpast2⟩ := hat2
        have vcell := HVC.out _ hfr2
        have HST := bx (fun (W : World) (kk : From w4 W) => HST2.out A2 c2 W (hpast2.sl.from kk))
        clear HST2
        obtain ⟨a0, a1, a2, a3, a4, a5, a6, a7⟩ := hmc2.facts
        simp only at a0 a1 a2 a3 a4 a5 a6 a7

        have HM4 := bx hM4
        have HS4 := bx hS4
        clear hM4 hS4 hmc2 hpast2
        have HK := bx (fun (W : World) (kk : From w4 W) => (show From w4 W ∧ W.cell? ⟨vb, vo + k, none⟩ = some (.int .i64 v) ∧ W.cell? ⟨(w1.heap.size + 1), 0, none⟩ = some (.int .i64 mp) ∧ W.cell? ⟨(w1.heap.size + 1), 1, none⟩ = some (.int .i64 ml) ∧ W.cell? ⟨(w1.heap.size + 1), 2, none⟩ = some (.int .i64 mh) ∧ W.cell? ⟨(w1.heap.size + 1), 3, none⟩ = some (.int .i64 mn) ∧ W.cell? ⟨(w1.heap.size + 1), 4, none⟩ = some (.int .i64 mo) ∧ W.cell? ⟨(w1.heap.size + 1), 5, none⟩ = some (.int .i64 me) ∧ W.cell? ⟨(w1.heap.size + 1), 6, none⟩ = some (.slice A2 mps.length c2) ∧ W.cell? ⟨(w1.heap.size + 1), 7, none⟩ = some (.bool mr) from ⟨kk, kk.cell vcell, kk.cell a0, kk.cell a1, kk.cell a2, kk.cell a3, kk.cell a4, kk.cell a5, kk.cell a6, kk.cell a7⟩))
        have hFF : From w4 w4 := From.refl _
        go_wp2_with fail
        refine region_cut (fun q0 a' w' => ∃ (x51 x52 x53 x54 x55 x56 x57 x58 x59 x60 : Value) (b2 : Nat) (A5 : Option Addr) (c5 : Nat), a' = puts q0 [(51, x51), (52, x52), (53, x53), (54, x54), (55, x55), (56, x56), (57, x57), (58, x58), (59, x59), (60, x60), (15, .pointer (some ⟨b2, 0, none⟩)), (16, .bool up), (17, .bool dn)] ∧ From w4 w' ∧ w4.heap.size ≤ b2 ∧ MonC w' b2 ⟨np, nl, nh, nn, no, ne, nps, nr⟩ (.slice A5 nps.length c5) ∧ SlN w4.heap.size w' (.slice A5 nps.length c5) nps.length (bc nps)) (fun K' HKK => ?_) ?_
        · go_region_held3 (fun W => From w4 W ∧ W.cell? ⟨vb, vo + k, none⟩ = some (.int .i64 v) ∧ W.cell? ⟨(w1.heap.size + 1), 0, none⟩ = some (.int .i64 mp) ∧ W.cell? ⟨(w1.heap.size + 1), 1, none⟩ = some (.int .i64 ml) ∧ W.cell? ⟨(w1.heap.size + 1), 2, none⟩ = some (.int .i64 mh) ∧ W.cell? ⟨(w1.heap.size + 1), 3, none⟩ = some (.int .i64 mn) ∧ W.cell? ⟨(w1.heap.size + 1), 4, none⟩ = some (.int .i64 mo) ∧ W.cell? ⟨(w1.heap.size + 1), 5, none⟩ = some (.int .i64 me) ∧ W.cell? ⟨(w1.heap.size + 1), 6, none⟩ = some (.slice A2 mps.length c2) ∧ W.cell? ⟨(w1.heap.size + 1), 7, none⟩ = some (.bool mr))
            (first | (go_split_ands; with_reducible refine HK.out _ ?_; repeat' (first | with_reducible assumption | with_reducible exact Nat.le_refl _ | with_reducible refine From.drew ?_ | with_reducible refine From.alloc ?_ _ | with_reducible refine From.setCell ?_ ?_ _ _)))
            (first | (go_at_call 59; (with_reducible refine (HST.out _ (by go_split_ands; assumption)).mono ?_); rintro e w5 ⟨A5, c5, rfl, q3, k5⟩; have hkeep := From.trans (show From w4 _ by go_split_ands; assumption) k5; first | (have HRD : MonC w5 w4.heap.size ⟨0, 0, 0, 0, 0, 0, [], false⟩ (.slice none 0 0) := (by first | with_reducible exact MonC.from (MonC.new w4.drew ⟨0, 0, 0, 0, 0, 0, [], false⟩ (.slice none 0 0)) k5 | with_reducible exact MonC.from (MonC.from (MonC.new w4 ⟨0, 0, 0, 0, 0, 0, [], false⟩ (.slice none 0 0)) (From.drew (From.refl _))) k5); have t0 := HRD.soft 0; have t1 := HRD.soft 1; have t2 := HRD.soft 2; have t3 := HRD.soft 3; have t4 := HRD.soft 4; have t5 := HRD.soft 5; have t6 := HRD.soft 6; have t7 := HRD.soft 7; obtain ⟨s0, s1, s2, s3, s4, s5, s6, s7⟩ := HRD.facts) | skip))
          · exact HKK.out _ _ ⟨_, _, _, _, _, _, _, _, _, _, w5.heap.size, A5, c5, (by simp only [puts, Act.put, List.setIfInBounds_toArray, List.set_cons_zero, List.set_cons_succ]; rfl), From.alloc hkeep _, Below.size hkeep, MonC.new w5 ⟨np, nl, nh, nn, no, ne, nps, nr⟩ _, (q3.low (by simp)).from (From.alloc (From.refl _) _)⟩
          · refine HKK.out _ _ ⟨_, _, _, _, _, _, _, _, _, _, w4.heap.size, A5, c5, (by simp only [puts, Act.put, List.setIfInBounds_toArray, List.set_cons_zero, List.set_cons_succ]; rfl), ?_, Nat.le_refl _, ?_, ?_⟩
            · with_reducible exact From.set8 hkeep (Nat.le_refl _) ⟨np, nl, nh, nn, no, ne, nps, nr⟩ _
            · with_reducible exact HRD.set8 (m := ⟨np, nl, nh, nn, no, ne, nps, nr⟩)
            · have hq := q3.set8 (show w4.heap.size < _ by simp) ⟨np, nl, nh, nn, no, ne, nps, nr⟩ (.slice A5 nps.length c5)
              have hq2 := hq.low (show w4.heap.size ≤ _ by simp)
              with_reducible exact hq2
        rintro a' w6 ⟨x51, x52, x53, x54, x55, x56, x57, x58, x59, x60, b2, A5, c5, rfl, k6, hb6, hM6, hS6⟩
        rename_i K0 hK0
        apply hK0
        simp only [puts, Act.put, List.setIfInBounds_toArray, List.set_cons_zero, List.set_cons_succ]

        clear hK0
        clear HK HST a0 a1 a2 a3 a4 a5 a6 a7 vcell hfr2 hlow2 hFF
        have HM4 := bx (HM4.out.from k6)
        have HS4 := bx (HS4.out.from k6)
        have HM6 := bx hM6
        have HS6 := bx hS6
        clear hM6 hS6
        have HSAME := bx (fun (A : Option Addr) (c : Nat) (B : Option Addr) (d : Nat) (W : World) (hA : Bools W (.slice A nps.length c) nps) (hB : Bools W (.slice B nps.length d) nps) => same29_calls ⟨np, nl, nh, nn, no, ne, nps, nr⟩ A B c d W hA hB hn16)
        obtain ⟨p0, p1, p2, p3, p4, p5, p6, p7⟩ := HM4.out.facts
        simp only at p0 p1 p2 p3 p4 p5 p6 p7
        obtain ⟨q0, q1, q2, q3, q4, q5, q6, q7⟩ := HM6.out.facts
        simp only at q0 q1 q2 q3 q4 q5 q6 q7

        have u1 : (up != up) = false := by simp
        have u2 : (dn != dn) = false := by simp
        go_wp2_with fail
        refine (HSAME.out _ _ _ _ w6 HS4.out.sl HS6.out.sl).mono ?_
        rintro e w7 ⟨rfl, k7⟩
        have HX1 := bx (HAT.out.call (k6.trans k7))
        have HX2 := bx (HAT2.out.call (k6.trans k7))
        have HM4 := bx (HM4.out.from k7)
        have HM6 := bx (HM6.out.from k7)
        have HS4 := bx (HS4.out.from k7)
        have HS6 := bx (HS6.out.from k7)
        clear HAT HAT2 p0 p1 p2 p3 p4 p5 p6 p7 q0 q1 q2 q3 q4 q5 q6 q7
        go_upto_region 12 with fail

        obtain ⟨p0, p1, p2, p3, p4, p5, p6, p7⟩ := HM4.out.facts
        simp only at p0 p1 p2 p3 p4 p5 p6 p7
        obtain ⟨A8, c8, hM8, _⟩ := HX1.out.mon
        have t0 := hM8.soft 0
        have t1 := hM8.soft 1
        have t2 := hM8.soft 2
        have t3 := hM8.soft 3
        have t4 := hM8.soft 4
        have t5 := hM8.soft 5
        have t6 := hM8.soft 6
        have t7 := hM8.soft 7
        obtain ⟨e0, e1, e2, e3, e4, e5, e6, e7⟩ := hM8.facts
        simp only at e0 e1 e2 e3 e4 e5 e6 e7

        clear hM8
        go_upto_region 13 with fail
        clear p0 p1 p2 p3 p4 p5 p6 p7 e0 e1 e2 e3 e4 e5 e6 e7 t0 t1 t2 t3 t4 t5 t6 t7
        obtain ⟨l1, l2, l3⟩ := HX1.out.low
        have hP4 := fun (b : Nat) (hb : wr.heap.size ≤ b) => HLW.out b hb
        have HY1 := bx (HX1.out.stepP (n := ⟨np, nl, nh, nn, no, ne, nps, nr⟩) (HS4.out.slp hP4))
        have HY2 := bx (HX2.out.other (n := ⟨np, nl, nh, nn, no, ne, nps, nr⟩) (u := .slice A3 nps.length c3) l1 l2 (by omega))
        have HB6 : b2 ≠ w1.heap.size := by have := HLT.out; omega
        have HM6 := bx (MonC.off8 (m := ⟨np, nl, nh, nn, no, ne, nps, nr⟩) (v := .slice A3 nps.length c3) HM6.out HB6.symm)
        have HS6 := bx (SlP.set8 (HS6.out.slp (P := P) (fun b hb => HLW.out b (by have := HLT.out; omega))) l2 ⟨np, nl, nh, nn, no, ne, nps, nr⟩ (.slice A3 nps.length c3))
        obtain ⟨W8, hW8⟩ : ∃ V, set8 w7 w1.heap.size ⟨np, nl, nh, nn, no, ne, nps, nr⟩ (.slice A3 nps.length c3) = V := ⟨_, rfl⟩
        rw [hW8] at HY1 HY2 HM6 HS6
        have hW9 := hW8
        unfold set8 at hW9
        try simp only at hW9
        rw [hW9]
        clear hW8 hW9 HX1 HX2 l1 l2 l3 hP4 HM4 HS4
        obtain ⟨q0, q1, q2, q3, q4, q5, q6, q7⟩ := HM6.out.facts
        simp only at q0 q1 q2 q3 q4 q5 q6 q7
        obtain ⟨A9, c9, hM9, _⟩ := HY2.out.mon
        have s0 := hM9.soft 0
        have s1 := hM9.soft 1
        have s2 := hM9.soft 2
        have s3 := hM9.soft 3
        have s4 := hM9.soft 4
        have s5 := hM9.soft 5
        have s6 := hM9.soft 6
        have s7 := hM9.soft 7
        obtain ⟨g0, g1, g2, g3, g4, g5, g6, g7⟩ := hM9.facts
        simp only at g0 g1 g2 g3 g4 g5 g6 g7

        clear hM9
        obtain ⟨l1, l2, _⟩ := HY2.out.low
        have HZ1 := bx (HY1.out.other (n := ⟨np, nl, nh, nn, no, ne, nps, nr⟩) (u := .slice A5 nps.length c5) l1 l2 (by omega))
        have HZ2 := bx (HY2.out.stepP (n := ⟨np, nl, nh, nn, no, ne, nps, nr⟩) HS6.out)
        clear l1 l2 HY1 HY2 HM6 HS6
        go_wp2_with fail
        go_roundw
        case rel => exact ⟨k + 1, by omega, by omega, by go_num, by rw [HS.out]; exact HZ1.out, by rw [HS.out]; exact HZ2.out⟩
        case measure => simp [intOf]; omega
      · have hl100' : k = 100 := by omega
        have z3 : decide ((k : Int) < (vals.length : Int)) = true := decide_eq_true (by omega)
        have z4 : decide ((k : Int) < 100) = false := decide_eq_false (by omega)
        go_wp2_with fail
        refine (livesM_calls _).mono ?_
        rintro e w9 ⟨rfl, k9⟩
        go_wp2
        go_ret
        exact ⟨rfl, hat.from_.trans k9⟩
    · have z3 : decide ((k : Int) < (vals.length : Int)) = false := decide_eq_false (by omega)
      go_wp2_with fail
      refine (livesM_calls _).mono ?_
      rintro e w9 ⟨rfl, k9⟩
      go_wp2
      go_ret
      exact ⟨rfl, hat.from_.trans k9⟩
set_option maxRecDepth 100000 in
theorem stp_lifted (os : Os) (started : os.Started) (H : Type) (enc : TypeId × Value → H) :
    ReturnsInHanded {} Try.checked os 11 .any (Rows.monitorStepsSpec.pre6 enc Try.prog Try.f11 Rows.monitorStepsRow.domain false) (Rows.monitorStepsSpec.post enc Try.prog Try.f11 false true false false) := by
  refine returnsInHanded_of_change (C := Try.checked) own started (by kernel_rfl) Try.func11
    (ChangeSpec.witness6 (enc := enc) (C := Try.checked) false ⟨#[], #[.slice none 0 0, .slice none 0 0, .bool false, .slice none 0 0], []⟩ 8 (by kernel_rfl) (by kernel_rfl) (by kernel_rfl) (by kernel_rfl)) ?_
  intro W base args ds gs before hval0 hW hcnd _
  have hval : ∀ (j : Nat) t v, Try.f11.params[j]? = some t → args[j]? = some v → Value.okWide Try.prog W .any base t v := hval0
  have hW' := hW
  obtain ⟨p, q, hA0, hV, rfl, hfz, hnd⟩ := hW
  have hA : DataW.TrodAll enc Try.prog W 0 (fun _ => true) true Try.f11.params.toList args.toList ds p := hA0
  rw [Try.params11] at hA hval
  obtain ⟨v0, vs0, d0, ds0, p0, q0, hargs, rfl, rfl, h0, r0⟩ := trodAll_cons hA
  obtain ⟨v1, vs1, d1, ds1, p1, q1, rfl, rfl, rfl, h1, r1⟩ := trodAll_cons r0
  obtain ⟨v2, vs2, d2, ds2, p2, q2, rfl, rfl, rfl, h2, r2⟩ := trodAll_cons r1
  obtain ⟨v3, vs3, d3, ds3, p3, q3, rfl, rfl, rfl, h3, r3⟩ := trodAll_cons r2
  obtain ⟨rfl, rfl, rfl⟩ := trodAll_nil r3
  obtain rfl : args = #[v0, v1, v2, v3] := by cases args; simp_all
  obtain ⟨rfl, rfl⟩ := trodVars_none hV
  obtain ⟨A0, c0, l0, rfl, hB0, hm0, hx0⟩ := open_intsr (hval 0 22 v0 rfl rfl) h0
  obtain ⟨A1, c1, l1, rfl, hB1, hm1, hc1, hn1⟩ := open_boolsv (hval 1 32 v1 rfl rfl) h1
  obtain ⟨a2, rfl, _, _⟩ := open_bool Try.underlying4 (hval 2 4 v2 rfl rfl) h2
  obtain ⟨A3, c3, l3, rfl, hB3, hm3, hx3⟩ := open_intsr (hval 3 22 v3 rfl rfl) h3
  refine (stp_walk A0 c0 l0 A1 c1 l1 a2 A3 c3 l3 W hB0 hm0 hx0 hB1 hm1 hc1 hn1 hB3 hm3 hx3).mono fun e W' ⟨he, hb⟩ => ?_
  subst he
  exact ⟨_, rfl, law_post Try.laid (by kernel_rfl) rfl rfl Try.underlying4 rfl hW' hb⟩
theorem stp_facts : joinedFacts Try.prog 11 Try.f11 Rows.monitorStepsSpec Rows.monitorStepsRow = true := by
  unfold joinedFacts
  rw [fact_enter, fact_lift, fact_make, fact_keys, fact_heard, fact_maps, Try.laid]
  kernel_rfl
theorem stp_holds : Rows.MonitorStepsSaid :=
  OpenClaim.holds_of_wide 11 Try.f11 rfl rfl rfl rfl rfl rfl rfl ⟨rfl, rfl, rfl, rfl, rfl⟩ rfl rfl rfl rfl rfl (by kernel_rfl) Try.func11 stp_facts
    (of_decide_eq_true (by kernel_rfl)) (by unfold Func.isWrapper; first | (rw [if_pos (by decide +kernel)]; kernel_rfl) | (rw [if_neg (by decide +kernel)]; exact ⟨rfl, rfl⟩))
    (fun os started H enc _ => stp_lifted os started H enc)
#print axioms stp_holds
end Go.Proofs.Ytlogokjjphlkkaa
