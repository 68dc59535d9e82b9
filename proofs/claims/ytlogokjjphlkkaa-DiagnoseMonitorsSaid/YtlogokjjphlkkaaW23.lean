/-
  Walks of layer 29: monitor.All.
-/
import Derived.Test.YtlogokjjphlkkaaW22
namespace Go.Proofs.Ytlogokjjphlkkaa
open Go.RowKit Go.Shelf

set_option maxRecDepth 100000 in
set_option maxHeartbeats 8000000 in
theorem all_calls (A : Option Addr) (c : Nat) (ms : List Mon) (AV : Option Addr) (cV : Nat) (vs : List Int) (w : World) (h : Mons w (.slice A ms.length c) ms) (hv : Ints w (.slice AV vs.length cV) vs) (hm : ms.length ≤ 1000)
    (hp : ∀ m ∈ ms, 0 ≤ m.par ∧ m.past.length ≤ 900) (as_ : List Mon) (us ds : List Int) (ha : allM vs ms = as_) (hu : evs (uxM vs) ms = us) (hd : evs (dxM vs) ms = ds) :
    Calls Try.prog 66 #[.slice A ms.length c, .slice AV vs.length cV] w (AllPost w as_ us ds) := by
  have H := bx h
  have HV := bx hv
  have HP := bx hp
  have HA := bx ha
  have HU := bx hu
  have HD := bx hd
  clear h hv hp ha hu hd
  go_enter Try.func66, Try.ntmps66
  go_wp2_with fail
  go_loopw [7, 8, 9, 11, 12, 13, 16] (fun v1 v2 v3 _ _ _ i wr => ∃ (k : Nat) (ps : List MV), k ≤ ms.length ∧ i = .int .i64 k ∧ ps.map (·.1) = allM vs (ms.take k) ∧ AllAt w wr v1 v2 v3 ps (evs (uxM vs) (ms.take k)) (evs (dxM vs) (ms.take k))) (fun _ _ _ _ _ _ i _ => ms.length - (intOf i).toNat)
  case atStart => exact ⟨0, [], Nat.zero_le _, rfl, rfl, AllAt.start w⟩
  case round =>
    obtain ⟨k, ps, hk, rfl, hps, hat⟩ := hrel
    have HAT := bx hat
    have HPS := bx hps
    by_cases hlt : k < ms.length
    · have z3 : decide ((k : Int) < (ms.length : Int)) = true := decide_eq_true (by omega)
      have hpl : ps.length = k := by have := congrArg List.length hps; simpa [allM, Nat.min_eq_left hk] using this
      have hul : (evs (uxM vs) (ms.take k)).length ≤ 1000 := Nat.le_trans (evs_len _ _) (by rw [List.length_take]; omega)
      have hdl : (evs (dxM vs) (ms.take k)).length ≤ 1000 := Nat.le_trans (evs_len _ _) (by rw [List.length_take]; omega)
      have HSA := bx (allM_succ vs ms k hlt)
      have HSU := bx (evs_succ (uxM vs) ms k hlt)
      have HSD := bx (evs_succ (dxM vs) ms k hlt)
      obtain ⟨hp0, hp9⟩ := HP.out ms[k] (List.getElem_mem hlt)
      obtain ⟨b, off, AP, cP, rfl, hb, hBP, g0, g1, g2, g3, g4, g5, g6, g7⟩ := (H.out.from hat.from_).at_ hlt
      have HBP := bx hBP
      clear hBP hat hps
      generalize ms[k] = m at *
      obtain ⟨n, hn⟩ : ∃ n, nxM vs m = n := ⟨_, rfl⟩
      obtain ⟨up, hup⟩ : ∃ u, uxM vs m = u := ⟨_, rfl⟩
      obtain ⟨dn, hdn⟩ : ∃ u, dxM vs m = u := ⟨_, rfl⟩
      rw [hn] at HSA
      rw [hup] at HSU
      rw [hdn] at HSD
      have hev : n.ev = m.ev := by rw [← hn]; unfold nxM; split <;> rfl
      have hn9 : n.past.length ≤ 901 := by
        rw [← hn]; unfold nxM; split
        · show (pushP m.past m.of _).length ≤ 901
          unfold pushP; split <;> simp <;> omega
        · omega
      have HN := bx hn
      have HUP := bx hup
      have HDN := bx hdn
      have HEV := bx hev
      have HMM := bx (show mcs m (.slice AP m.past.length cP) = mcs m (.slice AP m.past.length cP) from rfl)
      obtain ⟨j, hj⟩ : ∃ j : Nat, m.par = (j : Int) := ⟨m.par.toNat, by omega⟩
      obtain ⟨Z1, hZ1⟩ : ∃ V, wr.alloc (.cells (mcs ⟨0, 0, 0, 0, 0, 0, [], false⟩ (.slice none 0 0)) 71) = V := ⟨_, rfl⟩
      have kz : From wr Z1 := by rw [← hZ1]; exact From.alloc (From.refl _) _
      have sz : Z1.heap.size = wr.heap.size + 1 := by rw [← hZ1]; simp
      have hZM : MonC Z1 wr.heap.size ⟨0, 0, 0, 0, 0, 0, [], false⟩ (.slice none 0 0) := by rw [← hZ1]; exact MonC.new wr _ _
      have HZM := bx hZM
      have hub := Below.size HAT.out.from_
      have t0 := hZM.soft 0
      have t1 := hZM.soft 1
      have t2 := hZM.soft 2
      have t3 := hZM.soft 3
      have t4 := hZM.soft 4
      have t5 := hZM.soft 5
      have t6 := hZM.soft 6
      have t7 := hZM.soft 7
      obtain ⟨e0, e1, e2, e3, e4, e5, e6, e7⟩ := hZM.facts
      simp only at e0 e1 e2 e3 e4 e5 e6 e7
      clear hZM hn hup hdn hev
      obtain ⟨mp, ml, mh, mn, mo, me, mps, mr⟩ := m
      simp only at g0 g1 g2 g3 g4 g5 g6 g7 hp0 hp9 HBP HEV

      obtain rfl := hj
      go_upto_region 6 with fail
      obtain ⟨W2, hW2⟩ : ∃ V, set8 Z1 wr.heap.size ⟨(j : Int), ml, mh, mn, mo, me, mps, mr⟩ (.slice AP mps.length cP) = V := ⟨_, rfl⟩
      have hW3 := hW2
      unfold set8 at hW3
      simp only at hW3
      rw [hW3]
      have k2 : From wr W2 := by rw [← hW2]; exact From.set8 kz (Nat.le_refl _) _ _
      have s2 : W2.heap.size = wr.heap.size + 1 := by rw [← hW2, size_set8]; exact sz
      have HMC := bx (show MonC W2 wr.heap.size ⟨(j : Int), ml, mh, mn, mo, me, mps, mr⟩ (.slice AP mps.length cP) by rw [← hW2]; exact MonC.set8 HZM.out)
      have HBP := bx (HBP.out.from k2)
      clear hW2 hW3 hZ1 kz sz HZM e0 e1 e2 e3 e4 e5 e6 e7 t0 t1 t2 t3 t4 t5 t6 t7 g0 g1 g2 g3 g4 g5 g6 g7 HMM
      obtain ⟨np, nl, nh, nn, no, ne, nps, nr⟩ := n
      obtain ⟨a0, a1, a2, a3, a4, a5, a6, a7⟩ := HMC.out.facts
      simp only at a0 a1 a2 a3 a4 a5 a6 a7

      go_upto_if 24 with fail
      go_cut [12, 13] from 20 to 39 (fun s12 s13 wx => s12 = .bool up ∧ s13 = .bool dn ∧ ∃ A3 c3, From wr wx ∧ MonC wx wr.heap.size ⟨np, nl, nh, nn, no, ne, nps, nr⟩ (.slice A3 nps.length c3) ∧ SlN (wr.heap.size + 1) wx (.slice A3 nps.length c3) nps.length (bc nps))
      case first =>
        have hnn := HN.out
        have huu := HUP.out
        have hdd := HDN.out
        simp only [nxM, uxM, dxM] at hnn huu hdd
        by_cases hj : (j : Int) < (vs.length : Int)
        · have z4 : (0 : Int) ≤ (j : Int) := by omega
          rw [if_pos hj] at hnn
          have hjl : j < vs.length := by omega
          simp only [hj, decide_true, Bool.true_and, Int.toNat_natCast] at hnn huu hdd
          obtain ⟨vb, vo, rfl, _, vcell⟩ := ints_at (HV.out.from (HAT.out.from_.trans k2)) hjl
          have hgv : vs.getD j 0 = vs[j]'hjl := by rw [List.getD_eq_getElem?_getD, List.getElem?_eq_getElem (by omega)]; rfl
          rw [hgv] at hnn huu hdd
          obtain ⟨v, hvv⟩ : ∃ v, vs[j]'hjl = v := ⟨_, rfl⟩
          rw [hvv] at hnn huu hdd vcell
          clear hvv
          have HST := bx (fun (W : World) (kk : From W2 W) => step_calls ⟨(j : Int), ml, mh, mn, mo, me, mps, mr⟩ AP cP v W (HBP.out.from kk) (by show mps.length ≤ 1000; omega) ⟨np, nl, nh, nn, no, ne, nps, nr⟩ hnn up dn huu hdd)
          clear hnn huu hdd hgv
          go_wp2_with fail
          refine region_cut (fun q0 a' w' => ∃ (x25 x26 x27 x28 x29 x30 x31 x32 x33 x34 x35 : Value) (A3 : Option Addr) (c3 : Nat) (w4 : World), a' = puts q0 [(25, x25), (26, x26), (27, x27), (28, x28), (29, x29), (30, x30), (31, x31), (32, x32), (33, x33), (34, x34), (35, x35), (12, .bool up), (13, .bool dn)] ∧ From W2 w4 ∧ SlN W2.heap.size w4 (.slice A3 nps.length c3) nps.length (bc nps) ∧ w' = set8 w4 wr.heap.size ⟨np, nl, nh, nn, no, ne, nps, nr⟩ (.slice A3 nps.length c3)) (fun K' HKK => ?_) ?_
          · go_region_with (go_at_call 58; refine (HST.out _ (by first | exact From.refl _ | exact From.drew (From.refl _))).mono ?_; rintro e w3 ⟨A3, c3, rfl, q3, k3⟩; have hkeep : From W2 w3 := (by first | exact k3 | exact From.trans (From.drew (From.refl _)) k3); have hMm := HMC.out.from hkeep; have t0 := hMm.soft 0; have t1 := hMm.soft 1; have t2 := hMm.soft 2; have t3 := hMm.soft 3; have t4 := hMm.soft 4; have t5 := hMm.soft 5; have t6 := hMm.soft 6; have t7 := hMm.soft 7; obtain ⟨e0, e1, e2, e3, e4, e5, e6, e7⟩ := hMm.facts)
            all_goals
              refine HKK.out _ _ ⟨_, _, _, _, _, _, _, _, _, _, _, A3, c3, w3, (by simp only [puts, Act.put, List.setIfInBounds_toArray, List.set_cons_zero, List.set_cons_succ]; rfl), hkeep, ?_, ?_⟩
              · exact q3.low (by simp)
              · with_reducible rfl
          rintro a' w' ⟨x25, x26, x27, x28, x29, x30, x31, x32, x33, x34, x35, A3, c3, w4, rfl, k4, hS4, rfl⟩
          simp only [puts, Act.put, List.setIfInBounds_toArray, List.set_cons_zero, List.set_cons_succ]

          go_wp2_with fail
          go_meet
          case rel => exact ⟨rfl, rfl, A3, c3, From.set8 (k2.trans k4) (Nat.le_refl _) ⟨np, nl, nh, nn, no, ne, nps, nr⟩ _, MonC.set8 (HMC.out.from k4), (hS4.low (by omega)).set8 (by omega) ⟨np, nl, nh, nn, no, ne, nps, nr⟩ _⟩
        · rw [if_neg hj] at hnn
          simp only [hj, decide_false, Bool.false_and] at hnn huu hdd
          simp only [Mon.mk.injEq] at hnn
          obtain ⟨rfl, rfl, rfl, rfl, rfl, rfl, rfl, rfl⟩ := hnn
          obtain rfl := huu
          obtain rfl := hdd
          go_wp2_with fail
          refine (cloneB_calls (.slice AP mps.length cP) mps W2 HBP.out (by omega)).mono ?_
          rintro e w3 ⟨A3, c3, rfl, o3, k3⟩
          have hM3 := HMC.out.from k3
          have HM3 := bx hM3
          have HO3 := bx o3
          clear o3
          have t0 := hM3.soft 0
          have t1 := hM3.soft 1
          have t2 := hM3.soft 2
          have t3 := hM3.soft 3
          have t4 := hM3.soft 4
          have t5 := hM3.soft 5
          have t6 := hM3.soft 6
          have t7 := hM3.soft 7
          obtain ⟨e0, e1, e2, e3, e4, e5, e6, e7⟩ := hM3.facts
          simp only at e0 e1 e2 e3 e4 e5 e6 e7
          clear hM3
          go_wp2_with fail
          go_meet
          case rel => exact ⟨rfl, rfl, A3, c3, (k2.trans k3).setCell (Nat.le_refl _) _ _, HM3.out.past (.slice A3 mps.length c3) mps, ((sln_of_own HO3.out).setCell (by omega) _ _).low (by omega)⟩
      case rest =>
        clear a0 a1 a2 a3 a4 a5 a6 a7
        obtain ⟨rfl, rfl, A3, c3, k4, hM4, hS4⟩ := hcut
        have HB0 := HAT.out.call k4
        have hap : Apart u7 u8 u9 wr.heap.size := ⟨fun e => by have := (HAT.out.o1.lt _ e).2; omega, fun e => by have := (HAT.out.o2.lt _ e).2; omega, fun e => by have := (HAT.out.o3.lt _ e).2; omega⟩
        have HB1 := bx (show AllBx w wc u7 u8 u9 ps _ _ wr.heap.size _ _ from ⟨HB0, hM4, hap⟩)
        have HPA := bx (show SlP (Apart u7 u8 u9) wc (.slice A3 nps.length c3) nps.length (bc nps) from hS4.slp fun b hb => ⟨fun e => by have := (HAT.out.o1.lt _ e).2; omega, fun e => by have := (HAT.out.o2.lt _ e).2; omega, fun e => by have := (HAT.out.o3.lt _ e).2; omega⟩)
        obtain ⟨e0, e1, e2, e3, e4, e5, e6, e7⟩ := hM4.facts
        simp only at e0 e1 e2 e3 e4 e5 e6 e7
        clear hM4 hS4 HB0 hap
        have hw0 := Below.size HB1.out.at_.from_
        go_wp2_with (at_builtin; refine app_sl rfl _ _ 85 rfl Try.elMon rfl (HB1.out.at_.o1.alloc _) 1 (mcs ⟨np, nl, nh, nn, no, ne, nps, nr⟩ (.slice A3 nps.length c3)).toList rfl (sl_new wc (mcs ⟨np, nl, nh, nn, no, ne, nps, nr⟩ (.slice A3 nps.length c3)).toList 71 1 1) rfl (by simp [Value.oneCell']) (by omega) (by unfold maxLen; omega) (by simp; omega) ?_; intro A5 c5 w5 o5 g5 b5)
        have o6 : w5.ownsRow w.heap.size 71 8 (.slice A5 (ps.length + 1) c5) (ps.length + 1) (mlc (ps ++ [(⟨np, nl, nh, nn, no, ne, nps, nr⟩, .slice A3 nps.length c3)])) := by rw [mlc_append]; simpa [mlc] using o5
        have HB5 := bx ((HB1.out.call (From.alloc (From.refl _) _)).app1 (⟨np, nl, nh, nn, no, ne, nps, nr⟩, .slice A3 nps.length c3) o6 g5 b5 (HPA.out.from (From.alloc (From.refl _) _)))
        have HP2 := bx (fun (W : World) (v3 : Value) (ds' : List Int) (hh : AllBx w W (.slice A5 (ps.length + 1) c5) u8 v3 (ps ++ [(⟨np, nl, nh, nn, no, ne, nps, nr⟩, .slice A3 nps.length c3)]) (evs (uxM vs) (ms.take k)) ds' wr.heap.size ⟨np, nl, nh, nn, no, ne, nps, nr⟩ (.slice A3 nps.length c3)) => hh.put2 up ne (evs (uxM vs) (ms.take (k + 1))) (by rw [HSU.out, HEV.out]) hul)
        have HP3 := bx (fun (W : World) (v2 : Value) (us' : List Int) (hh : AllBx w W (.slice A5 (ps.length + 1) c5) v2 u9 (ps ++ [(⟨np, nl, nh, nn, no, ne, nps, nr⟩, .slice A3 nps.length c3)]) us' (evs (dxM vs) (ms.take k)) wr.heap.size ⟨np, nl, nh, nn, no, ne, nps, nr⟩ (.slice A3 nps.length c3)) => hh.put3 dn ne (evs (dxM vs) (ms.take (k + 1))) (by rw [HSD.out, HEV.out]) hdl)
        have HPX := bx (show (ps ++ [((⟨np, nl, nh, nn, no, ne, nps, nr⟩, Value.slice A3 nps.length c3) : MV)]).map (·.1) = allM vs (ms.take (k + 1)) by rw [HSA.out, List.map_append, HPS.out]; rfl)
        have hev5 := HB5.out.ev
        simp only at hev5
        clear HSA HSU HSD o6 o5 g5 b5 HB1 HPA HPS e0 e1 e2 e3 e4 e5 e6 e7 HAT
        go_region_held3 (fun W => W.cell? ⟨wr.heap.size, 5, none⟩ = some (.int .i64 ne))
          (first | with_reducible assumption | with_reducible exact (HB5.out.call (From.drew (From.refl _))).ev)
          (first
            | (go_at_call 109; (with_reducible refine (HP2.out _ _ _ (by first | with_reducible assumption | with_reducible exact HB5.out | with_reducible exact HB5.out.call (From.drew (From.refl _)))).mono ?_); rintro e w6 ⟨A6, c6, rfl, q6⟩; have hk6 := q6.ev)
            | (go_at_call 109; (with_reducible refine (HP3.out _ _ _ (by first | with_reducible assumption | with_reducible exact HB5.out | with_reducible exact HB5.out.call (From.drew (From.refl _)))).mono ?_); rintro e w7 ⟨A7, c7, rfl, q7⟩; have hk7 := q7.ev))
        all_goals
          go_wp2
          go_roundw
          case rel => exact ⟨k + 1, ps ++ [(⟨np, nl, nh, nn, no, ne, nps, nr⟩, .slice A3 nps.length c3)], by omega, by go_num, HPX.out, by first | (have hq := q7.at_; rw [hpl] at hq; exact hq) | (have hq := q6.at_; rw [hpl] at hq; exact hq)⟩
          case measure => simp [intOf]; omega
    · have z3 : decide ((k : Int) < (ms.length : Int)) = false := decide_eq_false (by omega)
      obtain rfl : k = ms.length := by omega
      clear hat hps
      obtain ⟨A1, c1, rfl⟩ := slice_form HAT.out.o1
      obtain ⟨A2, c2, rfl⟩ := slice_form HAT.out.o2
      obtain ⟨A3, c3, rfl⟩ := slice_form HAT.out.o3
      have hta : ms.take ms.length = ms := List.take_of_length_le (Nat.le_refl _)
      rw [hta] at HAT HPS
      have hpl : ps.length = as_.length := by rw [← HA.out, ← HPS.out]; simp
      have hq := HAT.out
      rw [hta, HU.out, HD.out, hpl] at *
      rw [HA.out] at HPS
      clear HAT
      have HQ := bx hq
      have HPL := bx hpl
      clear hq hta hpl
      go_wp2_with fail
      refine bodyPost_ret (v := .tuple #[.slice A1 as_.length c1, .slice A2 us.length c2, .slice A3 ds.length c3]) (by simp [results, Try.results66, go_sem]) rfl ⟨A1, c1, A2, c2, A3, c3, rfl, HQ.out.mons HPS.out, sl_of_own HQ.out.o2, sl_of_own HQ.out.o3, HQ.out.from_⟩
end Go.Proofs.Ytlogokjjphlkkaa
