/-
  Walks of layer 29: the reference's All.
-/
import Derived.Test.YtlogokjjphlkkaaW24
namespace Go.Proofs.Ytlogokjjphlkkaa
open Go.RowKit Go.Shelf

theorem SlP.app2 {w w' : World} {v1 v2 v3 v' x : Value} {n : Nat} {cs : List Value} (h : SlP (Apart v1 v2 v3) w x n cs) (g : w.grownBy w' v2.ownBlock) (hg : Grows w v2 v') : SlP (Apart v1 v' v3) w' x n cs :=
  h.grown g (fun b hb => hb.2.1) (fun b hlt hb => ⟨hb.1, fun e => by rcases hg b e with e' | e'; exact hb.2.1 e'; omega, hb.2.2⟩)
theorem SlP.app3 {w w' : World} {v1 v2 v3 v' x : Value} {n : Nat} {cs : List Value} (h : SlP (Apart v1 v2 v3) w x n cs) (g : w.grownBy w' v3.ownBlock) (hg : Grows w v3 v') : SlP (Apart v1 v2 v') w' x n cs :=
  h.grown g (fun b hb => hb.2.2) (fun b hlt hb => ⟨hb.1, hb.2.1, fun e => by rcases hg b e with e' | e'; exact hb.2.2 e'; omega⟩)
set_option maxRecDepth 100000 in
set_option maxHeartbeats 8000000 in
theorem all29_calls (A : Option Addr) (c : Nat) (ms : List Mon) (AV : Option Addr) (cV : Nat) (vs : List Int) (w : World) (h : Mons w (.slice A ms.length c) ms) (hv : Ints w (.slice AV vs.length cV) vs) (hm : ms.length ≤ 1000)
    (hp : ∀ m ∈ ms, 0 ≤ m.par ∧ m.past.length ≤ 900 ∧ Small m) (as_ : List Mon) (us ds : List Int) (ha : allM vs ms = as_) (hu : evs (uxM vs) ms = us) (hd : evs (dxM vs) ms = ds) :
    Calls Try.prog 67 #[.slice A ms.length c, .slice AV vs.length cV] w (AllPost w as_ us ds) := by
  have H := bx h
  have HV := bx hv
  have HP := bx hp
  have HA := bx ha
  have HU := bx hu
  have HD := bx hd
  clear h hv hp ha hu hd
  go_enter Try.func67, Try.ntmps67
  go_wp2_with fail
  go_loopw [7, 8, 9, 10, 11, 12, 13, 14] (fun v1 v2 v3 i _ _ _ _ wr => ∃ (k : Nat) (ps : List MV), k ≤ ms.length ∧ i = .int .i64 k ∧ ps.map (·.1) = allM vs (ms.take k) ∧ AllAt w wr v1 v2 v3 ps (evs (uxM vs) (ms.take k)) (evs (dxM vs) (ms.take k))) (fun _ _ _ i _ _ _ _ _ => ms.length - (intOf i).toNat)
  case atStart => exact ⟨0, [], Nat.zero_le _, rfl, rfl, AllAt.start w⟩
  case round =>
    obtain ⟨k, ps, hk, rfl, hps, hat⟩ := hrel
    have HAT := bx hat
    have HPS := bx hps
    by_cases hlt : k < ms.length
    · have z3 : decide ((k : Int) < (ms.length : Int)) = true := decide_eq_true (by omega)
      have hpl : ps.length = k := by have := congrArg List.length hps; simpa [allM, Nat.min_eq_left hk] using this
      have hul : (evs (uxM vs) (ms.take k)).length ≤ 1000 := Nat.le_trans (evs_len _ _) (by rw [List.length_take]; omega)
      have hdl : (evs (dxM vs) (ms.take k)).length ≤ 1000 := Nat.le_trans (evs_len _ _) (by rw [List.length_take]; omega)
      have HSA := bx (allM_succ vs ms k hlt)
      have HSU := bx (evs_succ (uxM vs) ms k hlt)
      have HSD := bx (evs_succ (dxM vs) ms k hlt)
      obtain ⟨hp0, hp9, hsm⟩ := HP.out ms[k] (List.getElem_mem hlt)
      obtain ⟨b, off, AP, cP, rfl, hb0, hBP, g0, g1, g2, g3, g4, g5, g6, g7⟩ := H.out.at_ hlt
      have HMP := bx hBP
      have hb : b < wr.heap.size := Nat.lt_of_lt_of_le hb0 (Below.size hat.from_)
      clear hb0
      replace g0 := hat.from_.cell g0
      replace g1 := hat.from_.cell g1
      replace g2 := hat.from_.cell g2
      replace g3 := hat.from_.cell g3
      replace g4 := hat.from_.cell g4
      replace g5 := hat.from_.cell g5
      replace g6 := hat.from_.cell g6
      replace g7 := hat.from_.cell g7
      have HBP := bx (hBP.from hat.from_)
      clear hBP hat hps
      generalize ms[k] = m at *
      obtain ⟨n, hn⟩ : ∃ n, nxM vs m = n := ⟨_, rfl⟩
      obtain ⟨up, hup⟩ : ∃ u, uxM vs m = u := ⟨_, rfl⟩
      obtain ⟨dn, hdn⟩ : ∃ u, dxM vs m = u := ⟨_, rfl⟩
      rw [hn] at HSA
      rw [hup] at HSU
      rw [hdn] at HSD
      have hev : n.ev = m.ev := by rw [← hn]; unfold nxM; split <;> rfl
      have hn9 : n.past.length ≤ 901 := by
        rw [← hn]; unfold nxM; split
        · show (pushP m.past m.of _).length ≤ 901
          unfold pushP; split <;> simp <;> omega
        · omega
      have HN := bx hn
      have HUP := bx hup
      have HDN := bx hdn
      have HEV := bx hev
      have HMM := bx (show mcs m (.slice AP m.past.length cP) = mcs m (.slice AP m.past.length cP) from rfl)
      obtain ⟨j, hj⟩ : ∃ j : Nat, m.par = (j : Int) := ⟨m.par.toNat, by omega⟩
      have HSM := bx hsm
      clear hsm
      obtain ⟨Z1, hZ1⟩ : ∃ V, wr.alloc (.cells (mcs ⟨0, 0, 0, 0, 0, 0, [], false⟩ (.slice none 0 0)) 71) = V := ⟨_, rfl⟩
      have kz : From wr Z1 := by rw [← hZ1]; exact From.alloc (From.refl _) _
      have sz : Z1.heap.size = wr.heap.size + 1 := by rw [← hZ1]; simp
      have hZM : MonC Z1 wr.heap.size ⟨0, 0, 0, 0, 0, 0, [], false⟩ (.slice none 0 0) := by rw [← hZ1]; exact MonC.new wr _ _
      have HZM := bx hZM
      have hub := Below.size HAT.out.from_
      have t0 := hZM.soft 0
      have t1 := hZM.soft 1
      have t2 := hZM.soft 2
      have t3 := hZM.soft 3
      have t4 := hZM.soft 4
      have t5 := hZM.soft 5
      have t6 := hZM.soft 6
      have t7 := hZM.soft 7
      obtain ⟨e0, e1, e2, e3, e4, e5, e6, e7⟩ := hZM.facts
      simp only at e0 e1 e2 e3 e4 e5 e6 e7
      clear hZM hn hup hdn hev
      obtain ⟨mp, ml, mh, mn, mo, me, mps, mr⟩ := m
      simp only at g0 g1 g2 g3 g4 g5 g6 g7 hp0 hp9 HBP HEV HMP
      obtain rfl := hj

      go_upto_region 8 with fail
      obtain ⟨W2, hW2⟩ : ∃ V, set8 Z1 wr.heap.size ⟨(j : Int), ml, mh, mn, mo, me, mps, mr⟩ (.slice AP mps.length cP) = V := ⟨_, rfl⟩
      have hW3 := hW2
      unfold set8 at hW3
      simp only at hW3
      rw [hW3]
      have k2 : From wr W2 := by rw [← hW2]; exact From.set8 kz (Nat.le_refl _) _ _
      have s2 : W2.heap.size = wr.heap.size + 1 := by rw [← hW2, size_set8]; exact sz
      have HMC := bx (show MonC W2 wr.heap.size ⟨(j : Int), ml, mh, mn, mo, me, mps, mr⟩ (.slice AP mps.length cP) by rw [← hW2]; exact MonC.set8 HZM.out)
      have HBP := bx (HBP.out.from k2)
      clear hW2 hW3 hZ1 kz sz HZM e0 e1 e2 e3 e4 e5 e6 e7 t0 t1 t2 t3 t4 t5 t6 t7 g0 g1 g2 g3 g4 g5 g6 g7
      have hap : Apart u7 u8 u9 wr.heap.size := ⟨fun e => by have := (HAT.out.o1.lt _ e).2; omega, fun e => by have := (HAT.out.o2.lt _ e).2; omega, fun e => by have := (HAT.out.o3.lt _ e).2; omega⟩
      obtain ⟨np, nl, nh, nn, no, ne, nps, nr⟩ := n
      obtain ⟨a0, a1, a2, a3, a4, a5, a6, a7⟩ := HMC.out.facts
      simp only at a0 a1 a2 a3 a4 a5 a6 a7

      go_upto_if 29 with fail
      go_cut [8, 9, 12, 13, 14] from 25 to 53 (fun s8 s9 _ _ _ wx => ∃ A3 c3, AllBx w wx u7 s8 s9 ps (evs (uxM vs) (ms.take (k + 1))) (evs (dxM vs) (ms.take (k + 1))) wr.heap.size ⟨np, nl, nh, nn, no, ne, nps, nr⟩ (.slice A3 nps.length c3) ∧ SlP (Apart u7 s8 s9) wx (.slice A3 nps.length c3) nps.length (bc nps))
      case first =>
        have hnn := HN.out
        have huu := HUP.out
        have hdd := HDN.out
        simp only [nxM, uxM, dxM] at hnn huu hdd
        by_cases hj : (j : Int) < (vs.length : Int)
        · have z4 : (0 : Int) ≤ (j : Int) := by omega
          rw [if_pos hj] at hnn
          have hjl : j < vs.length := by omega
          simp only [hj, decide_true, Bool.true_and, Int.toNat_natCast] at hnn huu hdd
          obtain ⟨vb, vo, rfl, _, vcell⟩ := ints_at (HV.out.from (HAT.out.from_.trans k2)) hjl
          have hgv : vs.getD j 0 = vs[j]'hjl := by rw [List.getD_eq_getElem?_getD, List.getElem?_eq_getElem (by omega)]; rfl
          rw [hgv] at hnn huu hdd
          obtain ⟨v, hvv⟩ : ∃ v, vs[j]'hjl = v := ⟨_, rfl⟩
          rw [hvv] at hnn huu hdd vcell
          clear hvv
          have HST := bx (fun (W : World) (kk : From W2 W) => step29_calls ⟨(j : Int), ml, mh, mn, mo, me, mps, mr⟩ AP cP v W (HBP.out.from kk) HSM.out ⟨np, nl, nh, nn, no, ne, nps, nr⟩ hnn up dn huu hdd)
          clear hnn huu hdd hgv
          have HSZ := bx s2
          clear s2
          obtain ⟨a0, a1, a2, a3, a4, a5, a6, a7⟩ := HMC.out.facts
          simp only at a0 a1 a2 a3 a4 a5 a6 a7

          have HK := bx (fun (W : World) (kk : From W2 W) => (show From W2 W ∧ W.cell? ⟨vb, vo + j, none⟩ = some (.int .i64 v) ∧ W.cell? ⟨wr.heap.size, 0, none⟩ = some (.int .i64 (j : Int)) ∧ W.cell? ⟨wr.heap.size, 1, none⟩ = some (.int .i64 ml) ∧ W.cell? ⟨wr.heap.size, 2, none⟩ = some (.int .i64 mh) ∧ W.cell? ⟨wr.heap.size, 3, none⟩ = some (.int .i64 mn) ∧ W.cell? ⟨wr.heap.size, 4, none⟩ = some (.int .i64 mo) ∧ W.cell? ⟨wr.heap.size, 5, none⟩ = some (.int .i64 me) ∧ W.cell? ⟨wr.heap.size, 6, none⟩ = some (.slice AP mps.length cP) ∧ W.cell? ⟨wr.heap.size, 7, none⟩ = some (.bool mr) from ⟨kk, kk.cell vcell, kk.cell a0, kk.cell a1, kk.cell a2, kk.cell a3, kk.cell a4, kk.cell a5, kk.cell a6, kk.cell a7⟩))
          have hFF : From W2 W2 := From.refl _
          go_wp2_with fail
          refine region_cut (fun q0 a' w' => ∃ (x30 x31 x32 x33 x34 x35 x36 x37 x38 x39 x40 : Value) (bN : Nat) (A3 : Option Addr) (c3 : Nat), a' = puts q0 [(30, x30), (31, x31), (32, x32), (33, x33), (34, x34), (35, x35), (36, x36), (37, x37), (38, x38), (39, x39), (40, x40), (12, .pointer (some ⟨bN, 0, none⟩)), (13, .bool up), (14, .bool dn)] ∧ From W2 w' ∧ W2.heap.size ≤ bN ∧ MonC w' bN ⟨np, nl, nh, nn, no, ne, nps, nr⟩ (.slice A3 nps.length c3) ∧ SlN W2.heap.size w' (.slice A3 nps.length c3) nps.length (bc nps)) (fun K' HKK => ?_) ?_
          · go_region_held3 (fun W => From W2 W ∧ W.cell? ⟨vb, vo + j, none⟩ = some (.int .i64 v) ∧ W.cell? ⟨wr.heap.size, 0, none⟩ = some (.int .i64 (j : Int)) ∧ W.cell? ⟨wr.heap.size, 1, none⟩ = some (.int .i64 ml) ∧ W.cell? ⟨wr.heap.size, 2, none⟩ = some (.int .i64 mh) ∧ W.cell? ⟨wr.heap.size, 3, none⟩ = some (.int .i64 mn) ∧ W.cell? ⟨wr.heap.size, 4, none⟩ = some (.int .i64 mo) ∧ W.cell? ⟨wr.heap.size, 5, none⟩ = some (.int .i64 me) ∧ W.cell? ⟨wr.heap.size, 6, none⟩ = some (.slice AP mps.length cP) ∧ W.cell? ⟨wr.heap.size, 7, none⟩ = some (.bool mr))
              (first | (go_split_ands; with_reducible refine HK.out _ ?_; repeat' (first | with_reducible assumption | with_reducible exact Nat.le_refl _ | with_reducible refine From.drew ?_ | with_reducible refine From.alloc ?_ _ | with_reducible refine From.setCell ?_ ?_ _ _)))
              (first | (go_at_call 59; (with_reducible refine (HST.out _ (by go_split_ands; assumption)).mono ?_); rintro e w5 ⟨A3, c3, rfl, q3, k5⟩; have hkeep := From.trans (show From W2 _ by go_split_ands; assumption) k5; first | (have HRD : MonC w5 W2.heap.size ⟨0, 0, 0, 0, 0, 0, [], false⟩ (.slice none 0 0) := (by first | with_reducible exact MonC.from (MonC.new W2.drew ⟨0, 0, 0, 0, 0, 0, [], false⟩ (.slice none 0 0)) k5 | with_reducible exact MonC.from (MonC.from (MonC.new W2 ⟨0, 0, 0, 0, 0, 0, [], false⟩ (.slice none 0 0)) (From.drew (From.refl _))) k5); have t0 := HRD.soft 0; have t1 := HRD.soft 1; have t2 := HRD.soft 2; have t3 := HRD.soft 3; have t4 := HRD.soft 4; have t5 := HRD.soft 5; have t6 := HRD.soft 6; have t7 := HRD.soft 7; obtain ⟨s0, s1, s2, s3, s4, s5, s6, s7⟩ := HRD.facts) | skip))
            · exact HKK.out _ _ ⟨_, _, _, _, _, _, _, _, _, _, _, w5.heap.size, A3, c3, (by simp only [puts, Act.put, List.setIfInBounds_toArray, List.set_cons_zero, List.set_cons_succ]; rfl), From.alloc hkeep _, Below.size hkeep, MonC.new w5 ⟨np, nl, nh, nn, no, ne, nps, nr⟩ _, (q3.low (by simp)).from (From.alloc (From.refl _) _)⟩
            · refine HKK.out _ _ ⟨_, _, _, _, _, _, _, _, _, _, _, W2.heap.size, A3, c3, (by simp only [puts, Act.put, List.setIfInBounds_toArray, List.set_cons_zero, List.set_cons_succ]; rfl), ?_, Nat.le_refl _, ?_, ?_⟩
              · with_reducible exact From.set8 hkeep (Nat.le_refl _) ⟨np, nl, nh, nn, no, ne, nps, nr⟩ _
              · with_reducible exact HRD.set8 (m := ⟨np, nl, nh, nn, no, ne, nps, nr⟩)
              · have hq := q3.set8 (show W2.heap.size < _ by simp) ⟨np, nl, nh, nn, no, ne, nps, nr⟩ (.slice A3 nps.length c3)
                have hq2 := hq.low (show W2.heap.size ≤ _ by simp)
                with_reducible exact hq2
          rintro a' wQ ⟨x30, x31, x32, x33, x34, x35, x36, x37, x38, x39, x40, bN, A3, c3, rfl, k6, hb6, hM6, hS6⟩
          rename_i K0 hK0
          apply hK0
          simp only [puts, Act.put, List.setIfInBounds_toArray, List.set_cons_zero, List.set_cons_succ]
          clear hK0 HK HST vcell hFF a0 a1 a2 a3 a4 a5 a6 a7
          have s2 := HSZ.out
          have hM2 := HMC.out.from k6
          have HM2 := bx hM2
          have HS6 := bx hS6
          have t0 := hM2.soft 0
          have t1 := hM2.soft 1
          have t2 := hM2.soft 2
          have t3 := hM2.soft 3
          have t4 := hM2.soft 4
          have t5 := hM2.soft 5
          have t6 := hM2.soft 6
          have t7 := hM2.soft 7
          obtain ⟨e0, e1, e2, e3, e4, e5, e6, e7⟩ := hM6.facts
          simp only at e0 e1 e2 e3 e4 e5 e6 e7
          obtain ⟨q0, q1, q2, q3, q4, q5, q6, q7⟩ := hM2.facts
          simp only at q0 q1 q2 q3 q4 q5 q6 q7
          clear hM2 hM6 hS6
          go_upto_region 11 with fail
          clear t0 t1 t2 t3 t4 t5 t6 t7 e0 e1 e2 e3 e4 e5 e6 e7 q0 q1 q2 q3 q4 q5 q6 q7
          obtain ⟨W5, hW5⟩ : ∃ V, set8 wQ wr.heap.size ⟨np, nl, nh, nn, no, ne, nps, nr⟩ (.slice A3 nps.length c3) = V := ⟨_, rfl⟩
          have hW6 := hW5
          unfold set8 at hW6
          try simp only at hW6
          rw [hW6]
          have k5 : From wr W5 := by rw [← hW5]; exact From.set8 (k2.trans k6) (Nat.le_refl _) _ _
          have HB5 := bx (show AllBx w W5 u7 u8 u9 ps (evs (uxM vs) (ms.take k)) (evs (dxM vs) (ms.take k)) wr.heap.size ⟨np, nl, nh, nn, no, ne, nps, nr⟩ (.slice A3 nps.length c3) from ⟨HAT.out.call k5, by rw [← hW5]; exact MonC.set8 HM2.out, hap⟩)
          have HPA := bx (show SlP (Apart u7 u8 u9) W5 (.slice A3 nps.length c3) nps.length (bc nps) by
            rw [← hW5]
            exact ((HS6.out.low (show wr.heap.size + 1 ≤ W2.heap.size by omega)).set8 (by omega) ⟨np, nl, nh, nn, no, ne, nps, nr⟩ _).slp fun b hb => ⟨fun e => by have := (HAT.out.o1.lt _ e).2; omega, fun e => by have := (HAT.out.o2.lt _ e).2; omega, fun e => by have := (HAT.out.o3.lt _ e).2; omega⟩)
          have ev5 := HB5.out.ev
          simp only at ev5
          clear hW5 hW6 HM2 HS6 s2 HSZ hb6 k6 hpl
          cases up
          · have hsu : (evs (uxM vs) (ms.take (k + 1))) = evs (uxM vs) (ms.take k) := by have := HSU.out; simpa using this
            rw [← hsu] at HB5
            clear hsu
            cases dn
            · have hsd : (evs (dxM vs) (ms.take (k + 1))) = evs (dxM vs) (ms.take k) := by have := HSD.out; simpa using this
              have HB7 := bx (show _ from HB5.out)
              rw [← hsd] at HB7
              clear hsd
              go_wp2_with fail
              go_meet
              case rel => exact ⟨A3, c3, HB7.out, HPA.out⟩
            · have hsd : (evs (dxM vs) (ms.take (k + 1))) = evs (dxM vs) (ms.take k) ++ [ne] := by have := HSD.out; rw [HEV.out]; simpa using this
              have HSD2 := bx hsd
              clear hsd
              go_wp2_with (at_builtin; refine app_sl rfl _ _ 22 rfl Try.elInt rfl (HB5.out.at_.o3.alloc _) 1 [.int .i64 ne] rfl (sl_new W5 [.int .i64 ne] 3 1 1) rfl (by simp [Value.oneCell']) (by omega) (by unfold maxLen; omega) (by have := Below.size HB5.out.at_.from_; simp; omega) ?_; intro A7 c7 w7 o7 g7 b7)
              go_meet
              case rel => exact ⟨A3, c3, (HB5.out.call (From.alloc (From.refl _) _)).app3 (by rw [HSD2.out, List.length_append, ic_append]; exact o7) g7 b7, (HPA.out.from (From.alloc (From.refl _) _)).app3 g7 b7⟩
          · have hsu : (evs (uxM vs) (ms.take (k + 1))) = evs (uxM vs) (ms.take k) ++ [ne] := by have := HSU.out; rw [HEV.out]; simpa using this
            have HSU2 := bx hsu
            clear hsu
            go_upto_region 13 with (at_builtin; refine app_sl rfl _ _ 22 rfl Try.elInt rfl (HB5.out.at_.o2.alloc _) 1 [.int .i64 ne] rfl (sl_new W5 [.int .i64 ne] 3 1 1) rfl (by simp [Value.oneCell']) (by omega) (by unfold maxLen; omega) (by have := Below.size HB5.out.at_.from_; simp; omega) ?_; intro A6 c6 w6 o6 g6 b6)
            have HB6 := bx ((HB5.out.call (From.alloc (From.refl _) _)).app2 (us' := (evs (uxM vs) (ms.take (k + 1)))) (by rw [HSU2.out, List.length_append, ic_append]; exact o6) g6 b6)
            have HP6 := bx ((HPA.out.from (From.alloc (From.refl _) _)).app2 g6 b6)
            have ev6 := HB6.out.ev
            simp only at ev6
            clear o6 g6 b6 HB5 HPA ev5 HSU2
            cases dn
            · have hsd : (evs (dxM vs) (ms.take (k + 1))) = evs (dxM vs) (ms.take k) := by have := HSD.out; simpa using this
              have HB7 := bx (show _ from HB6.out)
              rw [← hsd] at HB7
              clear hsd
              go_wp2_with fail
              go_meet
              case rel => exact ⟨A3, c3, HB7.out, HP6.out⟩
            · have hsd : (evs (dxM vs) (ms.take (k + 1))) = evs (dxM vs) (ms.take k) ++ [ne] := by have := HSD.out; rw [HEV.out]; simpa using this
              have HSD2 := bx hsd
              clear hsd
              go_wp2_with (at_builtin; refine app_sl rfl _ _ 22 rfl Try.elInt rfl (HB6.out.at_.o3.alloc _) 1 [.int .i64 ne] rfl (sl_new w6 [.int .i64 ne] 3 1 1) rfl (by simp [Value.oneCell']) (by omega) (by unfold maxLen; omega) (by have := Below.size HB6.out.at_.from_; simp; omega) ?_; intro A7 c7 w7 o7 g7 b7)
              go_meet
              case rel => exact ⟨A3, c3, (HB6.out.call (From.alloc (From.refl _) _)).app3 (by rw [HSD2.out, List.length_append, ic_append]; exact o7) g7 b7, (HP6.out.from (From.alloc (From.refl _) _)).app3 g7 b7⟩
        · rw [if_neg hj] at hnn
          simp only [hj, decide_false, Bool.false_and] at hnn huu hdd
          simp only [Mon.mk.injEq] at hnn
          obtain ⟨rfl, rfl, rfl, rfl, rfl, rfl, rfl, rfl⟩ := hnn
          obtain rfl := huu
          obtain rfl := hdd
          have hsu := HSU.out
          have hsd := HSD.out
          rw [if_neg (by simp)] at hsu hsd
          have HB2 := bx (show AllBx w W2 u7 u8 u9 ps (evs (uxM vs) (ms.take (k + 1))) (evs (dxM vs) (ms.take (k + 1))) wr.heap.size ⟨(j : Int), ml, mh, mn, mo, me, mps, mr⟩ (.slice AP mps.length cP) by rw [hsu, hsd]; exact ⟨HAT.out.call k2, HMC.out, hap⟩)
          have HPA := bx (show SlP (Apart u7 u8 u9) W2 (.slice AP mps.length cP) mps.length (bc mps) from (HMP.out.slp (P := Apart u7 u8 u9) fun b hb => ⟨fun e => by have := (HAT.out.o1.lt _ e).1; omega, fun e => by have := (HAT.out.o2.lt _ e).1; omega, fun e => by have := (HAT.out.o3.lt _ e).1; omega⟩).from (HAT.out.from_.trans k2))
          clear hsu hsd
          go_wp2_with fail
          go_meet
          case rel => exact ⟨AP, cP, HB2.out, HPA.out⟩
      case rest =>
        clear a0 a1 a2 a3 a4 a5 a6 a7 HMC HBP hap HSM HUP HDN HN HMP HSU HSD
        obtain ⟨A3, c3, hB1, hP1⟩ := hcut
        have HPX := bx (show (ps ++ [((⟨np, nl, nh, nn, no, ne, nps, nr⟩, Value.slice A3 nps.length c3) : MV)]).map (·.1) = allM vs (ms.take (k + 1)) by rw [HSA.out, List.map_append, HPS.out]; rfl)
        have HB1 := bx hB1
        have HPA := bx hP1
        obtain ⟨e0, e1, e2, e3, e4, e5, e6, e7⟩ := hB1.mon.facts
        simp only at e0 e1 e2 e3 e4 e5 e6 e7
        clear hB1 hP1 HSA HPS
        have hw0 := Below.size HB1.out.at_.from_
        go_wp2_with (at_builtin; refine app_sl rfl _ _ 85 rfl Try.elMon rfl (HB1.out.at_.o1.alloc _) 1 (mcs ⟨np, nl, nh, nn, no, ne, nps, nr⟩ (.slice A3 nps.length c3)).toList rfl (sl_new wc (mcs ⟨np, nl, nh, nn, no, ne, nps, nr⟩ (.slice A3 nps.length c3)).toList 71 1 1) rfl (by simp [Value.oneCell']) (by omega) (by unfold maxLen; omega) (by simp; omega) ?_; intro A5 c5 w5 o5 g5 b5)
        have o6 : w5.ownsRow w.heap.size 71 8 (.slice A5 (ps.length + 1) c5) (ps.length + 1) (mlc (ps ++ [(⟨np, nl, nh, nn, no, ne, nps, nr⟩, .slice A3 nps.length c3)])) := by rw [mlc_append]; simpa [mlc] using o5
        have HB5 := bx ((HB1.out.call (From.alloc (From.refl _) _)).app1 (⟨np, nl, nh, nn, no, ne, nps, nr⟩, .slice A3 nps.length c3) o6 g5 b5 (HPA.out.from (From.alloc (From.refl _) _)))
        clear o6 o5 g5 b5 HB1 HPA e0 e1 e2 e3 e4 e5 e6 e7
        rw [hpl] at HB5
        go_wp2
        go_roundw
        case rel => exact ⟨k + 1, ps ++ [(⟨np, nl, nh, nn, no, ne, nps, nr⟩, .slice A3 nps.length c3)], by omega, by go_num, HPX.out, HB5.out.at_⟩
        case measure => simp [intOf]; omega
    · have z3 : decide ((k : Int) < (ms.length : Int)) = false := decide_eq_false (by omega)
      obtain rfl : k = ms.length := by omega
      clear hat hps
      obtain ⟨A1, c1, rfl⟩ := slice_form HAT.out.o1
      obtain ⟨A2, c2, rfl⟩ := slice_form HAT.out.o2
      obtain ⟨A3, c3, rfl⟩ := slice_form HAT.out.o3
      have hta : ms.take ms.length = ms := List.take_of_length_le (Nat.le_refl _)
      rw [hta] at HAT HPS
      have hpl : ps.length = as_.length := by rw [← HA.out, ← HPS.out]; simp
      have hq := HAT.out
      rw [hta, HU.out, HD.out, hpl] at *
      rw [HA.out] at HPS
      clear HAT
      have HQ := bx hq
      have HPL := bx hpl
      clear hq hta hpl
      go_wp2_with fail
      refine bodyPost_ret (v := .tuple #[.slice A1 as_.length c1, .slice A2 us.length c2, .slice A3 ds.length c3]) (by simp [results, Try.results67, go_sem]) rfl ⟨A1, c1, A2, c2, A3, c3, rfl, HQ.out.mons HPS.out, sl_of_own HQ.out.o2, sl_of_own HQ.out.o3, HQ.out.from_⟩
end Go.Proofs.Ytlogokjjphlkkaa
