/-
  Walks of layer 29: the examples (perigeelaw29.lives).
-/
import Derived.Test.YtlogokjjphlkkaaW13
namespace Go.Proofs.Ytlogokjjphlkkaa
open Go.RowKit Go.Shelf

/-- a cut behind a piece of code: what is known there -/
theorem region_cut {P : Program} {c : Code} {K : Act → World → Prop} {Q : Exit → Act → World → Prop} {a : Act} {w : World} (R : Act → Act → World → Prop)
    (h : ∀ K' : Act → World → Prop, Bx (∀ a' w', R a a' w' → K' a' w') → Code.wp P c (Exit.then K' Q) a w) (hR : ∀ a' w', R a a' w' → K a' w') : Code.wp P c (Exit.then K Q) a w :=
  Code.wp_mono (fun e a' w' he => by cases e <;> first | exact hR _ _ he | exact he) (h (R a) ⟨fun _ _ h => h⟩)
/-- slots that are written one behind the other -/
def puts (a : Act) : List (Nat × Value) → Act
  | [] => a
  | (d, v) :: r => puts (a.put (some d) v) r
def exM : Mon := ⟨0, 0, 10, 2, 3, 7, [], false⟩
def exV : List Int := [11, 5, 12, 1, 2, 3]
def exUp : List Int := [-1, -1, -1, 2, 2, 2, 2]
def exDn : List Int := [-1, -1, -1, -1, -1, -1, 5]
theorem ex_round : ∀ k, k < 6 → (upM (runM exM (exV.take k)) (exV.getD k 0) = true → exUp.getD (k + 1) 0 = k) ∧ (upM (runM exM (exV.take k)) (exV.getD k 0) = false → exUp.getD (k + 1) 0 = exUp.getD k 0) ∧
    (dnM (runM exM (exV.take k)) (exV.getD k 0) = true → exDn.getD (k + 1) 0 = k) ∧ (dnM (runM exM (exV.take k)) (exV.getD k 0) = false → exDn.getD (k + 1) 0 = exDn.getD k 0) ∧ (runM exM (exV.take k)).past.length ≤ 3 ∧
    runM exM (exV.take (k + 1)) = stepM (runM exM (exV.take k)) (exV.getD k 0) := by
  intro k hk
  match k, hk with
  | 0, _ => exact ⟨by decide +kernel, by decide +kernel, by decide +kernel, by decide +kernel, by decide +kernel, rfl⟩
  | 1, _ => exact ⟨by decide +kernel, by decide +kernel, by decide +kernel, by decide +kernel, by decide +kernel, rfl⟩
  | 2, _ => exact ⟨by decide +kernel, by decide +kernel, by decide +kernel, by decide +kernel, by decide +kernel, rfl⟩
  | 3, _ => exact ⟨by decide +kernel, by decide +kernel, by decide +kernel, by decide +kernel, by decide +kernel, rfl⟩
  | 4, _ => exact ⟨by decide +kernel, by decide +kernel, by decide +kernel, by decide +kernel, by decide +kernel, rfl⟩
  | 5, _ => exact ⟨by decide +kernel, by decide +kernel, by decide +kernel, by decide +kernel, by decide +kernel, rfl⟩
/-- the head of the loop -/
structure ExAt (w : World) (k : Nat) (wr : World) : Prop where
  from_ : From w wr
  vals : ∀ k (hk : k < 6), wr.cell? ⟨w.heap.size + 1, k, none⟩ = some (.int .i64 (exV[k]'hk))
  size : w.heap.size + 2 ≤ wr.heap.size
  mon : ∃ A c, MonC wr w.heap.size (runM exM (exV.take k)) (.slice A (runM exM (exV.take k)).past.length c) ∧ SlN (w.heap.size + 2) wr (.slice A (runM exM (exV.take k)).past.length c) (runM exM (exV.take k)).past.length (bc (runM exM (exV.take k)).past)
theorem cell_set8_off {W : World} {a : Addr} {u : Value} (h : W.cell? a = some u) {r : Nat} (hr : a.block ≠ r) (m : Mon) (v : Value) : (set8 W r m v).cell? a = some u :=
  cell_set_off (cell_set_off (cell_set_off (cell_set_off (cell_set_off (cell_set_off (cell_set_off (cell_set_off h hr) hr) hr) hr) hr) hr) hr) hr
theorem size_set8 (W : World) (r : Nat) (m : Mon) (v : Value) : (set8 W r m v).heap.size = W.heap.size := by simp
theorem ExAt.next {w wr w4 : World} {k : Nat} {m0 n : Mon} {u : Value} {A3 : Option Addr} {c3 : Nat} (h : ExAt w k wr) (k4 : From wr w4) (hn : runM exM (exV.take (k + 1)) = n) (hM : MonC w4 w.heap.size m0 u)
    (hS : SlN wr.heap.size w4 (.slice A3 n.past.length c3) n.past.length (bc n.past)) : ExAt w (k + 1) (set8 w4 w.heap.size n (.slice A3 n.past.length c3)) := by
  have hsz := h.size
  have hs4 := Below.size k4
  refine ⟨From.set8 (h.from_.trans k4) (Nat.le_refl _) _ _, fun j hj => cell_set8_off (k4.cell (h.vals j hj)) (by simp) _ _, by rw [size_set8]; omega, ?_⟩
  rw [hn]
  exact ⟨A3, c3, MonC.set8 hM, (hS.set8 (by omega) _ _).low (by omega)⟩
set_option maxRecDepth 100000 in
set_option maxHeartbeats 2000000 in
theorem livesM_calls (w : World) : Calls Try.prog 57 #[] w fun e w' => e = .returned (.bool true) ∧ From w w' := by
  go_enter Try.func57, Try.ntmps57
  go_wp2_with fail
  obtain ⟨Z1, hZ1⟩ : ∃ V, w.alloc (.cells (mcs exM (.slice none 0 0)) 71) = V := ⟨_, rfl⟩
  obtain ⟨Z, hZ⟩ : ∃ V, Z1.alloc (.cells (ic exV).toArray 3) = V := ⟨_, rfl⟩
  have s1 : Z1.heap.size = w.heap.size + 1 := by rw [← hZ1]; simp
  have s2 : Z.heap.size = w.heap.size + 2 := by rw [← hZ]; simp [s1]
  have k1 : From w Z1 := by rw [← hZ1]; exact From.alloc (From.refl _) _
  have k2 : From Z1 Z := by rw [← hZ]; exact From.alloc (From.refl _) _
  have HX0 := bx (show ExAt w 0 Z from ⟨k1.trans k2, by
      intro j hj
      have h1 : Z.cell? ⟨Z1.heap.size, j, none⟩ = some (.int .i64 (exV[j]'hj)) := by
        rw [← hZ, World.cell?_alloc_new]
        simp [ic, List.getElem?_eq_getElem (show j < exV.length from hj)]
        rfl
      rw [s1] at h1
      exact h1, by omega, ⟨none, 0, MonC.from (by rw [← hZ1]; exact MonC.new w exM _) k2, ⟨.inl ⟨rfl, rfl, rfl⟩⟩⟩⟩)
  rw [show w.alloc (.cells #[.int .i64 0, .int .i64 0, .int .i64 10, .int .i64 2, .int .i64 3, .int .i64 7, .slice none 0 0, .bool false] 71) = Z1 from hZ1,
    show Z1.alloc (.cells #[.int .i64 11, .int .i64 5, .int .i64 12, .int .i64 1, .int .i64 2, .int .i64 3] 3) = Z from hZ]
  clear hZ1 hZ k1 k2 s1 s2
  go_loopw [3, 4, 5, 6, 7, 8] (fun up dn i _ _ _ wr => ∃ k : Nat, k ≤ 6 ∧ i = .int .i64 k ∧ up = .int .i64 (exUp.getD k 0) ∧ dn = .int .i64 (exDn.getD k 0) ∧ ExAt w k wr) (fun _ _ i _ _ _ _ => 6 - (intOf i).toNat)
  case atStart => exact ⟨0, by omega, rfl, rfl, rfl, HX0.out⟩
  case round =>
    clear HX0
    obtain ⟨k, hk, rfl, rfl, rfl, hat⟩ := hrel
    obtain ⟨hfr, hvals, hsz, A, c, hmc, hpast⟩ := hat
    by_cases hlt : k < 6
    · obtain ⟨r1, r2, r3, r4, r5, r6⟩ := ex_round k hlt
      have v1 := hvals k hlt
      have hv : exV.getD k 0 = exV[k]'hlt := by rw [List.getD_eq_getElem?_getD, List.getElem?_eq_getElem (show k < exV.length from hlt)]; rfl
      rw [hv] at r1 r2 r3 r4 r6
      obtain ⟨m, hm⟩ : ∃ m, runM exM (exV.take k) = m := ⟨_, rfl⟩
      rw [hm] at r1 r2 r3 r4 r5 r6 hmc hpast
      generalize exV[k]'hlt = v at *
      obtain ⟨n, hn⟩ : ∃ n, stepM m v = n := ⟨_, rfl⟩
      obtain ⟨up, hup⟩ : ∃ u, upM m v = u := ⟨_, rfl⟩
      obtain ⟨dn, hdn⟩ : ∃ u, dnM m v = u := ⟨_, rfl⟩
      rw [hup] at r1 r2
      rw [hdn] at r3 r4
      rw [hn] at r6
      have HST := bx (fun (W : World) (kk : From wr W) => step_calls m A c v W (hpast.sl.from kk) (by omega) n hn up dn hup hdn)
      have HMC := bx hmc
      have HR := bx r6
      have HAT := bx (show ExAt w k wr from ⟨hfr, hvals, hsz, A, c, by rw [hm]; exact hmc, by rw [hm]; exact hpast⟩)
      obtain ⟨np, nl, nh, nn, no, ne, nps, nr⟩ := n
      have HRS := bx (And.intro r1 (And.intro r2 (And.intro r3 r4)))
      obtain ⟨a0, a1, a2, a3, a4, a5, a6, a7⟩ := hmc.facts
      have hm3 : m.past.length ≤ 3 := r5
      obtain ⟨mp, ml, mh, mn, mo, me, mps, mr⟩ := m
      simp only at a0 a1 a2 a3 a4 a5 a6 a7
      have z1 : (k : Int) < 6 := by omega
      have z2 : (0 : Int) ≤ (k : Int) := by omega
      have HK := bx (fun (W : World) (kk : From wr W) => (show From wr W ∧ W.cell? ⟨w.heap.size + 1, k, none⟩ = some (.int .i64 v) ∧ W.cell? ⟨w.heap.size, 0, none⟩ = some (.int .i64 mp) ∧ W.cell? ⟨w.heap.size, 1, none⟩ = some (.int .i64 ml) ∧ W.cell? ⟨w.heap.size, 2, none⟩ = some (.int .i64 mh) ∧ W.cell? ⟨w.heap.size, 3, none⟩ = some (.int .i64 mn) ∧ W.cell? ⟨w.heap.size, 4, none⟩ = some (.int .i64 mo) ∧ W.cell? ⟨w.heap.size, 5, none⟩ = some (.int .i64 me) ∧ W.cell? ⟨w.heap.size, 6, none⟩ = some (.slice A mps.length c) ∧ W.cell? ⟨w.heap.size, 7, none⟩ = some (.bool mr) from ⟨kk, kk.cell v1, kk.cell a0, kk.cell a1, kk.cell a2, kk.cell a3, kk.cell a4, kk.cell a5, kk.cell a6, kk.cell a7⟩))
      have hFF : From wr wr := From.refl _
      clear hvals hpast hmc hm hn hup hdn r1 r2 r3 r4 r5 r6 hv
      go_wp2_with fail
      refine region_cut (fun a0 a' w' => ∃ (x18 x19 x20 x21 x22 x23 x24 x25 x26 x27 : Value) (b : Nat) (A3 : Option Addr) (c3 : Nat), a' = puts a0 [(18, x18), (19, x19), (20, x20), (21, x21), (22, x22), (23, x23), (24, x24), (25, x25), (26, x26), (27, x27), (6, .pointer (some ⟨b, 0, none⟩)), (7, .bool up), (8, .bool dn)] ∧ From wr w' ∧ wr.heap.size ≤ b ∧ MonC w' b ⟨np, nl, nh, nn, no, ne, nps, nr⟩ (.slice A3 nps.length c3) ∧ SlN wr.heap.size w' (.slice A3 nps.length c3) nps.length (bc nps)) (fun K' HKK => ?_) ?_
      · go_region_held3 (fun W => From wr W ∧ W.cell? ⟨w.heap.size + 1, k, none⟩ = some (.int .i64 v) ∧ W.cell? ⟨w.heap.size, 0, none⟩ = some (.int .i64 mp) ∧ W.cell? ⟨w.heap.size, 1, none⟩ = some (.int .i64 ml) ∧ W.cell? ⟨w.heap.size, 2, none⟩ = some (.int .i64 mh) ∧ W.cell? ⟨w.heap.size, 3, none⟩ = some (.int .i64 mn) ∧ W.cell? ⟨w.heap.size, 4, none⟩ = some (.int .i64 mo) ∧ W.cell? ⟨w.heap.size, 5, none⟩ = some (.int .i64 me) ∧ W.cell? ⟨w.heap.size, 6, none⟩ = some (.slice A mps.length c) ∧ W.cell? ⟨w.heap.size, 7, none⟩ = some (.bool mr))
          (first | (go_split_ands; with_reducible refine HK.out _ ?_; repeat' (first | with_reducible assumption | with_reducible exact Nat.le_refl _ | with_reducible refine From.drew ?_ | with_reducible refine From.alloc ?_ _ | with_reducible refine From.setCell ?_ ?_ _ _)))
          (first | (go_at_call 58; (with_reducible refine (HST.out _ (by go_split_ands; assumption)).mono ?_); rintro e w3 ⟨A3, c3, rfl, q3, k3⟩; have hkeep := From.trans (show From wr _ by go_split_ands; assumption) k3; first | (have HRD : MonC w3 wr.heap.size ⟨0, 0, 0, 0, 0, 0, [], false⟩ (.slice none 0 0) := (by first | with_reducible exact MonC.from (MonC.new wr.drew ⟨0, 0, 0, 0, 0, 0, [], false⟩ (.slice none 0 0)) k3 | with_reducible exact MonC.from (MonC.from (MonC.new wr ⟨0, 0, 0, 0, 0, 0, [], false⟩ (.slice none 0 0)) (From.drew (From.refl _))) k3); have t0 := HRD.soft 0; have t1 := HRD.soft 1; have t2 := HRD.soft 2; have t3 := HRD.soft 3; have t4 := HRD.soft 4; have t5 := HRD.soft 5; have t6 := HRD.soft 6; have t7 := HRD.soft 7; obtain ⟨s0, s1, s2, s3, s4, s5, s6, s7⟩ := HRD.facts) | skip))
        · exact HKK.out _ _ ⟨_, _, _, _, _, _, _, _, _, _, w3.heap.size, A3, c3, (by simp only [puts, Act.put, List.setIfInBounds_toArray, List.set_cons_zero, List.set_cons_succ]; rfl), From.alloc hkeep _, Below.size hkeep, MonC.new w3 ⟨np, nl, nh, nn, no, ne, nps, nr⟩ _, (q3.low (by simp)).from (From.alloc (From.refl _) _)⟩
        · refine HKK.out _ _ ⟨_, _, _, _, _, _, _, _, _, _, wr.heap.size, A3, c3, (by simp only [puts, Act.put, List.setIfInBounds_toArray, List.set_cons_zero, List.set_cons_succ]; rfl), ?_, Nat.le_refl _, ?_, ?_⟩
          · with_reducible exact From.set8 hkeep (Nat.le_refl _) ⟨np, nl, nh, nn, no, ne, nps, nr⟩ _
          · with_reducible exact HRD.set8 (m := ⟨np, nl, nh, nn, no, ne, nps, nr⟩)
          · have hq := q3.set8 (show wr.heap.size < _ by simp) ⟨np, nl, nh, nn, no, ne, nps, nr⟩ (.slice A3 nps.length c3)
            have hq2 := hq.low (show wr.heap.size ≤ _ by simp)
            with_reducible exact hq2
      · rintro a' w4 ⟨x18, x19, x20, x21, x22, x23, x24, x25, x26, x27, b, A3, c3, rfl, k4, hb4, hM4, hS4⟩
        rename_i K0 hK0
        apply hK0
        simp only [puts, Act.put, List.setIfInBounds_toArray, List.set_cons_zero, List.set_cons_succ]
        have hMm := HMC.out.from k4
        obtain ⟨b0, b1, b2, b3, b4, b5, b6, b7⟩ := hM4.facts
        obtain ⟨e0, e1, e2, e3, e4, e5, e6, e7⟩ := hMm.facts
        have t0 := hMm.soft 0
        have t1 := hMm.soft 1
        have t2 := hMm.soft 2
        have t3 := hMm.soft 3
        have t4 := hMm.soft 4
        have t5 := hMm.soft 5
        have t6 := hMm.soft 6
        have t7 := hMm.soft 7
        simp only at b0 b1 b2 b3 b4 b5 b6 b7 e0 e1 e2 e3 e4 e5 e6 e7
        have HN := bx (HAT.out.next k4 HR.out hMm hS4)
        clear hM4 hMm hS4
        cases up
        · cases dn
          · go_wp2
            go_roundw
            case rel => exact ⟨k + 1, by omega, by go_num, by rw [HRS.out.2.1 rfl]; simp, by rw [HRS.out.2.2.2 rfl]; simp, HN.out⟩
            case measure => simp [intOf]; omega
          · go_wp2
            go_roundw
            case rel => exact ⟨k + 1, by omega, by go_num, by rw [HRS.out.2.1 rfl]; simp, by rw [HRS.out.2.2.1 rfl], HN.out⟩
            case measure => simp [intOf]; omega
        · cases dn
          · go_wp2
            go_roundw
            case rel => exact ⟨k + 1, by omega, by go_num, by rw [HRS.out.1 rfl], by rw [HRS.out.2.2.2 rfl]; simp, HN.out⟩
            case measure => simp [intOf]; omega
          · go_wp2
            go_roundw
            case rel => exact ⟨k + 1, by omega, by go_num, by rw [HRS.out.1 rfl], by rw [HRS.out.2.2.1 rfl], HN.out⟩
            case measure => simp [intOf]; omega
    · obtain rfl : k = 6 := by omega
      have hm : runM exM (exV.take 6) = ⟨0, 0, 10, 2, 3, 7, [false, false, false], false⟩ := by kernel_rfl
      rw [hm] at hmc
      have HFR := bx hfr
      obtain ⟨a0, a1, a2, a3, a4, a5, a6, a7⟩ := hmc.facts
      simp only [List.length_cons, List.length_nil] at a0 a1 a2 a3 a4 a5 a6 a7
      have u2 : exUp.getD 6 0 = 2 := by decide
      have d5 : exDn.getD 6 0 = 5 := by decide
      have b6 := fun o => cell_alloc a6 o
      have b7 := fun o => cell_alloc a7 o
      have hms : Mons (wr.alloc (.cells (mlc [(⟨0, 0, 0, 0, 0, 7, [], true⟩, .slice none 0 0), (⟨0, 0, 0, 0, 0, 2, [], true⟩, .slice none 0 0), (⟨0, 0, 0, 0, 0, 7, [], true⟩, .slice none 0 0)]).toArray 71)) (.slice (some ⟨wr.heap.size, 0, none⟩) 3 3) [⟨0, 0, 0, 0, 0, 7, [], true⟩, ⟨0, 0, 0, 0, 0, 2, [], true⟩, ⟨0, 0, 0, 0, 0, 7, [], true⟩] :=
        ⟨_, rfl, by have := sl_new wr (mlc [(⟨0, 0, 0, 0, 0, 7, [], true⟩, .slice none 0 0), (⟨0, 0, 0, 0, 0, 2, [], true⟩, .slice none 0 0), (⟨0, 0, 0, 0, 0, 7, [], true⟩, .slice none 0 0)]) 71 3 3; exact this.more (by simp), by
          intro a ha
          simp at ha
          rcases ha with rfl | rfl | rfl <;> exact ⟨.inl ⟨rfl, rfl, rfl⟩⟩⟩
      have HMS := bx hms
      have hfw : From w (wr.alloc (.cells (mlc [(⟨0, 0, 0, 0, 0, 7, [], true⟩, .slice none 0 0), (⟨0, 0, 0, 0, 0, 2, [], true⟩, .slice none 0 0), (⟨0, 0, 0, 0, 0, 7, [], true⟩, .slice none 0 0)]).toArray 71)) := hfr.alloc _
      have HFW := bx hfw
      clear hmc hpast hvals hfr hm hms hfw
      have HC := bx (fun (W : World) => check_calls ⟨0, 0, 0, 4, 3, 0, [], false⟩ none 0 1 W 5 (by decide))
      have hrm : raisedM [⟨0, 0, 0, 0, 0, 7, [], true⟩, ⟨0, 0, 0, 0, 0, 2, [], true⟩, ⟨0, 0, 0, 0, 0, 7, [], true⟩] = [2, 7] := by kernel_rfl
      have HRM := bx hrm
      clear hrm
      go_wp2_with fail
      refine (HC.out _).mono ?_
      rintro e w5 ⟨rfl, k5⟩
      go_wp2_with fail
      refine (raised_calls _ 3 _ w5 (HMS.out.from k5) (by decide) [2, 7] HRM.out).mono ?_
      rintro e w6 ⟨A6, c6, rfl, hI6, k6⟩
      have HI6 := bx (hI6.from (From.alloc (From.refl w6) (.cells #[.int .i64 2, .int .i64 7] 3)))
      clear hI6
      go_wp2_with fail
      refine (same_val A6 _ c6 2 [2, 7] [2, 7] _ HI6.out ((sl_new w6 (ic [2, 7]) 3 2 2).more (by simp)) (by decide) true (by decide)).mono ?_
      rintro e w7 ⟨rfl, q, rfl⟩
      go_wp2
      go_ret
      exact ⟨rfl, From.drewN (From.alloc ((HFW.out.trans k5).trans k6) _) q⟩
end Go.Proofs.Ytlogokjjphlkkaa
