/-
  For all lists of numbers, the law MonitorAlternates returns true, and its arguments read as before. No condition.
-/
import Derived.Test.YtlogokjjphlkkaaW15
import Derived.Test.YtlogokjjphlkkaaR2
namespace Go.Proofs.Ytlogokjjphlkkaa
open Go.ChangeShapes Go.WideShapes Go.ChangeAt Go.RowKit Go.Deep Go.Shelf

def altU (b : Bool) : Int := if b then 1 else 0
/-- the loop's head -/
def AltAt (w : World) (r : Nat) (m0 : Mon) (vals : List Int) (u d i : Value) (wr : World) : Prop := ∃ k u' d' : Nat, k ≤ vals.length ∧ k ≤ 100 ∧ i = .int .i64 k ∧ u = .int .i64 u' ∧ d = .int .i64 d' ∧ u' ≤ k ∧ d' ≤ k ∧ (u' : Int) - d' = altU (runM m0 (vals.take k)).raised ∧ RunAt w r (runM m0 (vals.take k)) wr
set_option maxRecDepth 100000 in
set_option maxHeartbeats 4000000 in
theorem alt_walk (A0 : Option Addr) (c0 : Nat) (l : List Int) (AV : Option Addr) (cV : Nat) (vals : List Int) (w : World)
    (h : Ints w (.slice A0 l.length c0) l) (_ : l.length ≤ 9223372036854775807) (hx : ∀ x ∈ l, -9223372036854775808 ≤ x ∧ x ≤ 9223372036854775807)
    (hv : Ints w (.slice AV vals.length cV) vals) (hvm : vals.length ≤ 9223372036854775807) (_ : ∀ x ∈ vals, -9223372036854775808 ≤ x ∧ x ≤ 9223372036854775807) :
    Calls Try.prog 14 #[.slice A0 l.length c0, .slice AV vals.length cV] w fun e w' => e = .returned (.bool true) ∧ Below w.heap.size w w' := by
  obtain ⟨m0, hm0⟩ : ∃ m, makeM l = m := ⟨_, rfl⟩
  have hg : GoodM m0 := by rw [← hm0]; exact makeM_good l
  have hp : m0.past = [] := by rw [← hm0]; rfl
  have M0F := bx (show m0.raised = false by rw [← hm0]; rfl)
  have HMK := bx (makeM_calls A0 c0 l w h hx m0 hm0)
  have HG := bx hg
  have HP := bx hp
  have HV := bx hv
  clear hg hp hm0 h hx hv
  go_enter Try.func14, Try.ntmps14
  go_wp2_with fail
  refine HMK.out.mono ?_
  rintro e w1 ⟨rfl, k1⟩
  have HR0 := bx (RunAt.new k1 m0 HP.out)
  go_wp2_with fail
  go_loopw [6, 7, 8, 9, 10, 11] (fun u d i _ _ _ wr => AltAt w w1.heap.size m0 vals u d i wr) (fun _ _ i _ _ _ _ => vals.length - (intOf i).toNat)
  case atStart =>
    refine ⟨0, 0, 0, Nat.zero_le _, by omega, rfl, rfl, rfl, Nat.le_refl _, Nat.le_refl _, ?_, ?_⟩
    · rw [List.take_zero]; show (0 : Int) - 0 = altU m0.raised; exact by have : m0.raised = false := M0F.out; rw [this]; rfl
    · exact HR0.out
  case round =>
    clear HR0
    obtain ⟨k, u', d', hk, hk100, rfl, rfl, rfl, hu', hd', hud, hat⟩ := hrel
    by_cases hlt : k < vals.length
    · by_cases hl100 : k < 100
      · have z1 : (k : Int) < (vals.length : Int) := by omega
        have z2 : (0 : Int) ≤ (k : Int) := by omega
        have z3 : decide ((k : Int) < (vals.length : Int)) = true := decide_eq_true z1
        obtain ⟨hp16, hnd, hlike⟩ := run_fine HG.out HP.out (vals.take k)
        have hS := runM_take m0 vals k hlt
        obtain ⟨vb, vo, rfl, _, vcell⟩ := ints_at (HV.out.from hat.from_) hlt
        have HS := bx hS
        clear hS hlike
        generalize vals[k] = v at *
        obtain ⟨m, hm⟩ : ∃ z, runM m0 (vals.take k) = z := ⟨_, rfl⟩
        rw [hm] at hat hp16
        have HAT := bx hat
        obtain ⟨hfr, hlow, A, c, hmc, hpast⟩ := hat
        obtain ⟨n, hn⟩ : ∃ z, stepM m v = z := ⟨_, rfl⟩
        obtain ⟨up, hup⟩ : ∃ u, upM m v = u := ⟨_, rfl⟩
        obtain ⟨dn, hdn⟩ : ∃ u, dnM m v = u := ⟨_, rfl⟩
        have HN := bx hn
        have HUP := bx hup
        have HDN := bx hdn
        have HM := bx hm
        have HST := bx (fun (W : World) (kk : From wr W) => step_calls m A c v W (hpast.sl.from kk) (by omega) n hn up dn hup hdn)
        have HMC := bx hmc
        have hmlt := hmc.lt
        clear hm hn hup hdn hpast

        have hS := HS.out
        rw [HM.out, HN.out] at hS
        replace HS := bx hS
        have hal := step_alt m v
        rw [HUP.out, HDN.out, HN.out] at hal
        have HAL := bx hal
        rw [HM.out] at hud
        have HUD := bx hud
        clear hS hal hud hnd HUP HDN
        obtain ⟨mp, ml, mh, mn, mo, me, mps, mr⟩ := m
        obtain ⟨np, nl, nh, nn, no, ne, nps, nr⟩ := n
        obtain ⟨a0, a1, a2, a3, a4, a5, a6, a7⟩ := hmc.facts
        simp only at a0 a1 a2 a3 a4 a5 a6 a7
        clear hmc

        have HK := bx (fun (W : World) (kk : From wr W) => (show From wr W ∧ W.cell? ⟨vb, vo + k, none⟩ = some (.int .i64 v) ∧ W.cell? ⟨w1.heap.size, 0, none⟩ = some (.int .i64 mp) ∧ W.cell? ⟨w1.heap.size, 1, none⟩ = some (.int .i64 ml) ∧ W.cell? ⟨w1.heap.size, 2, none⟩ = some (.int .i64 mh) ∧ W.cell? ⟨w1.heap.size, 3, none⟩ = some (.int .i64 mn) ∧ W.cell? ⟨w1.heap.size, 4, none⟩ = some (.int .i64 mo) ∧ W.cell? ⟨w1.heap.size, 5, none⟩ = some (.int .i64 me) ∧ W.cell? ⟨w1.heap.size, 6, none⟩ = some (.slice A mps.length c) ∧ W.cell? ⟨w1.heap.size, 7, none⟩ = some (.bool mr) from ⟨kk, kk.cell vcell, kk.cell a0, kk.cell a1, kk.cell a2, kk.cell a3, kk.cell a4, kk.cell a5, kk.cell a6, kk.cell a7⟩))
        have hFF : From wr wr := From.refl _
        go_wp2_with fail
        refine region_cut (fun q0 a' w' => ∃ (x24 x25 x26 x27 x28 x29 x30 x31 x32 x33 : Value) (b : Nat) (A3 : Option Addr) (c3 : Nat), a' = puts q0 [(24, x24), (25, x25), (26, x26), (27, x27), (28, x28), (29, x29), (30, x30), (31, x31), (32, x32), (33, x33), (9, .pointer (some ⟨b, 0, none⟩)), (10, .bool up), (11, .bool dn)] ∧ From wr w' ∧ wr.heap.size ≤ b ∧ MonC w' b ⟨np, nl, nh, nn, no, ne, nps, nr⟩ (.slice A3 nps.length c3) ∧ SlN wr.heap.size w' (.slice A3 nps.length c3) nps.length (bc nps)) (fun K' HKK => ?_) ?_
        · go_region_held3 (fun W => From wr W ∧ W.cell? ⟨vb, vo + k, none⟩ = some (.int .i64 v) ∧ W.cell? ⟨w1.heap.size, 0, none⟩ = some (.int .i64 mp) ∧ W.cell? ⟨w1.heap.size, 1, none⟩ = some (.int .i64 ml) ∧ W.cell? ⟨w1.heap.size, 2, none⟩ = some (.int .i64 mh) ∧ W.cell? ⟨w1.heap.size, 3, none⟩ = some (.int .i64 mn) ∧ W.cell? ⟨w1.heap.size, 4, none⟩ = some (.int .i64 mo) ∧ W.cell? ⟨w1.heap.size, 5, none⟩ = some (.int .i64 me) ∧ W.cell? ⟨w1.heap.size, 6, none⟩ = some (.slice A mps.length c) ∧ W.cell? ⟨w1.heap.size, 7, none⟩ = some (.bool mr))
            (first | (go_split_ands; with_reducible refine HK.out _ ?_; repeat' (first | with_reducible assumption | with_reducible exact Nat.le_refl _ | with_reducible refine From.drew ?_ | with_reducible refine From.alloc ?_ _ | with_reducible refine From.setCell ?_ ?_ _ _)))
            (first | (go_at_call 58; (with_reducible refine (HST.out _ (by go_split_ands; assumption)).mono ?_); rintro e w3 ⟨A3, c3, rfl, q3, k3⟩; have hkeep := From.trans (show From wr _ by go_split_ands; assumption) k3; first | (have HRD : MonC w3 wr.heap.size ⟨0, 0, 0, 0, 0, 0, [], false⟩ (.slice none 0 0) := (by first | with_reducible exact MonC.from (MonC.new wr.drew ⟨0, 0, 0, 0, 0, 0, [], false⟩ (.slice none 0 0)) k3 | with_reducible exact MonC.from (MonC.from (MonC.new wr ⟨0, 0, 0, 0, 0, 0, [], false⟩ (.slice none 0 0)) (From.drew (From.refl _))) k3); have t0 := HRD.soft 0; have t1 := HRD.soft 1; have t2 := HRD.soft 2; have t3 := HRD.soft 3; have t4 := HRD.soft 4; have t5 := HRD.soft 5; have t6 := HRD.soft 6; have t7 := HRD.soft 7; obtain ⟨s0, s1, s2, s3, s4, s5, s6, s7⟩ := HRD.facts) | skip))
          · exact HKK.out _ _ ⟨_, _, _, _, _, _, _, _, _, _, w3.heap.size, A3, c3, (by simp only [puts, Act.put, List.setIfInBounds_toArray, List.set_cons_zero, List.set_cons_succ]; rfl), From.alloc hkeep _, Below.size hkeep, MonC.new w3 ⟨np, nl, nh, nn, no, ne, nps, nr⟩ _, (q3.low (by simp)).from (From.alloc (From.refl _) _)⟩
          · refine HKK.out _ _ ⟨_, _, _, _, _, _, _, _, _, _, wr.heap.size, A3, c3, (by simp only [puts, Act.put, List.setIfInBounds_toArray, List.set_cons_zero, List.set_cons_succ]; rfl), ?_, Nat.le_refl _, ?_, ?_⟩
            · with_reducible exact From.set8 hkeep (Nat.le_refl _) ⟨np, nl, nh, nn, no, ne, nps, nr⟩ _
            · with_reducible exact HRD.set8 (m := ⟨np, nl, nh, nn, no, ne, nps, nr⟩)
            · have hq := q3.set8 (show wr.heap.size < _ by simp) ⟨np, nl, nh, nn, no, ne, nps, nr⟩ (.slice A3 nps.length c3)
              have hq2 := hq.low (show wr.heap.size ≤ _ by simp)
              with_reducible exact hq2
        rintro a' w4 ⟨x24, x25, x26, x27, x28, x29, x30, x31, x32, x33, b, A3, c3, rfl, k4, hb4, hM4, hS4⟩
        rename_i K0 hK0
        apply hK0
        simp only [puts, Act.put, List.setIfInBounds_toArray, List.set_cons_zero, List.set_cons_succ]

        have hMm := HMC.out.from k4
        obtain ⟨b0, b1, b2, b3, b4, b5, b6, b7⟩ := hM4.facts
        simp only at b0 b1 b2 b3 b4 b5 b6 b7
        obtain ⟨e0, e1, e2, e3, e4, e5, e6, e7⟩ := hMm.facts
        simp only at e0 e1 e2 e3 e4 e5 e6 e7
        have t0 := hMm.soft 0
        have t1 := hMm.soft 1
        have t2 := hMm.soft 2
        have t3 := hMm.soft 3
        have t4 := hMm.soft 4
        have t5 := hMm.soft 5
        have t6 := hMm.soft 6
        have t7 := hMm.soft 7

        have HNX := bx (HAT.out.step (n := ⟨np, nl, nh, nn, no, ne, nps, nr⟩) k4 hS4)
        clear hM4 hMm hS4
        obtain ⟨q1, q2, q3, q4⟩ := HAL.out
        try simp only at q1 q2 q3 q4
        have hud := HUD.out
        simp only [altU] at hud
        clear HAL HUD

        have hk1 : k + 1 ≤ 100 := by omega
        cases up
        · cases dn
          · simp only [Bool.false_eq_true, if_false] at q2
            subst q2
            cases nr
            · simp only [Bool.false_eq_true, if_false] at hud
              have z5 : decide ((((u' : Nat) : Int) - ((d' : Nat) : Int)) < 0) = false := decide_eq_false (by omega)
              have z6 : decide (1 < (((u' : Nat) : Int) - ((d' : Nat) : Int))) = false := decide_eq_false (by omega)
              have z7 : decide (((d' : Nat) : Int) < ((u' : Nat) : Int)) = false := decide_eq_false (by omega)
              have z8 : (false != false) = false := by decide
              have z10 : decide (d' < u') = false := decide_eq_false (by omega)
              have z9 : decide (((u' : Nat) : Int) ≤ ((d' : Nat) : Int)) = true := decide_eq_true (by omega)
              try simp only [Int.natCast_add, Int.cast_ofNat_Int] at z5 z6 z7 z9
              go_wp2
              go_roundw
              case rel => exact ⟨k + 1, u', d', by omega, by omega, by go_num, by go_num, by go_num, by omega, by omega, by rw [HS.out]; show (((u' : Nat) : Int) - ((d' : Nat) : Int)) = 0; omega, by rw [HS.out]; exact HNX.out⟩
              case measure => simp [intOf]; omega
            · simp only [if_true] at hud
              have z5 : decide ((((u' : Nat) : Int) - ((d' : Nat) : Int)) < 0) = false := decide_eq_false (by omega)
              have z6 : decide (1 < (((u' : Nat) : Int) - ((d' : Nat) : Int))) = false := decide_eq_false (by omega)
              have z7 : decide (((d' : Nat) : Int) < ((u' : Nat) : Int)) = true := decide_eq_true (by omega)
              have z8 : (true != true) = false := by decide
              have z10 : decide (d' < u') = true := decide_eq_true (by omega)
              have z9 : decide (((u' : Nat) : Int) ≤ ((d' : Nat) : Int)) = false := decide_eq_false (by omega)
              try simp only [Int.natCast_add, Int.cast_ofNat_Int] at z5 z6 z7 z9
              go_wp2
              go_roundw
              case rel => exact ⟨k + 1, u', d', by omega, by omega, by go_num, by go_num, by go_num, by omega, by omega, by rw [HS.out]; show (((u' : Nat) : Int) - ((d' : Nat) : Int)) = 1; omega, by rw [HS.out]; exact HNX.out⟩
              case measure => simp [intOf]; omega
          · simp only [Bool.false_eq_true, if_false, if_true] at q2
            obtain rfl := q4 rfl
            subst q2
            simp only [if_true] at hud
            have z5 : decide ((((u' : Nat) : Int) - ((d' + 1 : Nat) : Int)) < 0) = false := decide_eq_false (by omega)
            have z6 : decide (1 < (((u' : Nat) : Int) - ((d' + 1 : Nat) : Int))) = false := decide_eq_false (by omega)
            have z7 : decide (((d' + 1 : Nat) : Int) < ((u' : Nat) : Int)) = false := decide_eq_false (by omega)
            have z8 : (false != false) = false := by decide
            have z10 : decide (d' + 1 < u') = false := decide_eq_false (by omega)
            have z9 : decide (((u' : Nat) : Int) ≤ ((d' + 1 : Nat) : Int)) = true := decide_eq_true (by omega)
            try simp only [Int.natCast_add, Int.cast_ofNat_Int] at z5 z6 z7 z9
            go_wp2
            go_roundw
            case rel => exact ⟨k + 1, u', d' + 1, by omega, by omega, by go_num, by go_num, by go_num, by omega, by omega, by rw [HS.out]; show (((u' : Nat) : Int) - ((d' + 1 : Nat) : Int)) = 0; omega, by rw [HS.out]; exact HNX.out⟩
            case measure => simp [intOf]; omega
        · cases dn
          · simp only [if_true] at q2
            obtain rfl := q3 rfl
            subst q2
            simp only [Bool.false_eq_true, if_false] at hud
            have z5 : decide ((((u' + 1 : Nat) : Int) - ((d' : Nat) : Int)) < 0) = false := decide_eq_false (by omega)
            have z6 : decide (1 < (((u' + 1 : Nat) : Int) - ((d' : Nat) : Int))) = false := decide_eq_false (by omega)
            have z7 : decide (((d' : Nat) : Int) < ((u' + 1 : Nat) : Int)) = true := decide_eq_true (by omega)
            have z8 : (true != true) = false := by decide
            have z10 : decide (d' < u' + 1) = true := decide_eq_true (by omega)
            have z9 : decide (((u' + 1 : Nat) : Int) ≤ ((d' : Nat) : Int)) = false := decide_eq_false (by omega)
            try simp only [Int.natCast_add, Int.cast_ofNat_Int] at z5 z6 z7 z9
            go_wp2
            go_roundw
            case rel => exact ⟨k + 1, u' + 1, d', by omega, by omega, by go_num, by go_num, by go_num, by omega, by omega, by rw [HS.out]; show (((u' + 1 : Nat) : Int) - ((d' : Nat) : Int)) = 1; omega, by rw [HS.out]; exact HNX.out⟩
            case measure => simp [intOf]; omega
          · exact absurd q1 (by simp)
      · have hl100' : k = 100 := by omega
        have z3 : decide ((k : Int) < (vals.length : Int)) = true := decide_eq_true (by omega)
        have z4 : decide ((k : Int) < 100) = false := decide_eq_false (by omega)
        go_wp2_with fail
        refine (livesM_calls _).mono ?_
        rintro e w9 ⟨rfl, k9⟩
        go_wp2
        go_ret
        exact ⟨rfl, hat.from_.trans k9⟩
    · have z3 : decide ((k : Int) < (vals.length : Int)) = false := decide_eq_false (by omega)
      go_wp2_with fail
      refine (livesM_calls _).mono ?_
      rintro e w9 ⟨rfl, k9⟩
      go_wp2
      go_ret
      exact ⟨rfl, hat.from_.trans k9⟩
set_option maxRecDepth 100000 in
theorem alt_lifted (os : Os) (started : os.Started) (H : Type) (enc : TypeId × Value → H) :
    ReturnsInHanded {} Try.checked os 14 .any (Rows.monitorAlternatesSpec.pre6 enc Try.prog Try.f14 Rows.monitorAlternatesRow.domain false) (Rows.monitorAlternatesSpec.post enc Try.prog Try.f14 false true false false) := by
  refine returnsInHanded_of_change (C := Try.checked) own started (by kernel_rfl) Try.func14
    (ChangeSpec.witness6 (enc := enc) (C := Try.checked) false ⟨#[], #[.slice none 0 0, .slice none 0 0], []⟩ 8 (by kernel_rfl) (by kernel_rfl) (by kernel_rfl) (by kernel_rfl)) ?_
  intro W base args ds gs before hval0 hW hcnd _
  have hval : ∀ (j : Nat) t v, Try.f14.params[j]? = some t → args[j]? = some v → Value.okWide Try.prog W .any base t v := hval0
  have hW' := hW
  obtain ⟨p, q, hA0, hV, rfl, hfz, hnd⟩ := hW
  have hA : DataW.TrodAll enc Try.prog W 0 (fun _ => true) true Try.f14.params.toList args.toList ds p := hA0
  rw [Try.params14] at hA hval
  obtain ⟨v0, vs0, d0, ds0, p0, q0, hargs, rfl, rfl, h0, r0⟩ := trodAll_cons hA
  obtain ⟨v1, vs1, d1, ds1, p1, q1, rfl, rfl, rfl, h1, r1⟩ := trodAll_cons r0
  obtain ⟨rfl, rfl, rfl⟩ := trodAll_nil r1
  obtain rfl : args = #[v0, v1] := by cases args; simp_all
  obtain ⟨rfl, rfl⟩ := trodVars_none hV
  obtain ⟨A0, c0, l0, rfl, hB0, hm0, hx0⟩ := open_intsr (hval 0 22 v0 rfl rfl) h0
  obtain ⟨A1, c1, l1, rfl, hB1, hm1, hx1⟩ := open_intsr (hval 1 22 v1 rfl rfl) h1
  refine (alt_walk A0 c0 l0 A1 c1 l1 W hB0 hm0 hx0 hB1 hm1 hx1).mono fun e W' ⟨he, hb⟩ => ?_
  subst he
  exact ⟨_, rfl, law_post Try.laid (by kernel_rfl) rfl rfl Try.underlying4 rfl hW' hb⟩
theorem alt_facts : joinedFacts Try.prog 14 Try.f14 Rows.monitorAlternatesSpec Rows.monitorAlternatesRow = true := by
  unfold joinedFacts
  rw [fact_enter, fact_lift, fact_make, fact_keys, fact_heard, fact_maps, Try.laid]
  kernel_rfl
theorem alt_holds : Rows.MonitorAlternatesSaid :=
  OpenClaim.holds_of_wide 14 Try.f14 rfl rfl rfl rfl rfl rfl rfl ⟨rfl, rfl, rfl, rfl, rfl⟩ rfl rfl rfl rfl rfl (by kernel_rfl) Try.func14 alt_facts
    (of_decide_eq_true (by kernel_rfl)) (by unfold Func.isWrapper; first | (rw [if_pos (by decide +kernel)]; kernel_rfl) | (rw [if_neg (by decide +kernel)]; exact ⟨rfl, rfl⟩))
    (fun os started H enc _ => alt_lifted os started H enc)
#print axioms alt_holds
end Go.Proofs.Ytlogokjjphlkkaa
