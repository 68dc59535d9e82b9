/-
  For all valid modes that are made from numbers, graphs and symptoms, the law ModeBudget returns true, and its arguments read as before; the package's table 'permitted' reads as the program's text lays it. No further condition.
-/
import Derived.Test.YtgfmnolghbiedaaDoorQ3
import Derived.Test.YtgfmnolghbiedaaDoorP14
namespace Go.Proofs.YtgfmnolghbiedaaDoor
open Go.ChangeShapes Go.WideShapes Go.ChangeAt Go.RowKit Go.Deep

set_option maxRecDepth 100000 in
set_option maxHeartbeats 8000000 in
theorem budget_walk (lev bud units : Int) (A : Option Addr) (c : Nat) (l : List Int) (q : Int) (AB : Option Addr) (cB : Nat) (lb : List Int) (AS : Option Addr) (cS : Nat) (seen : List Int) (AC : Option Addr) (cC : Nat) (clear : List Int) (w : World) (hpm : PM w) (l0 : -9223372036854775808 ≤ lev) (l1 : lev ≤ 9223372036854775807) (b0 : -9223372036854775808 ≤ bud) (b1 : bud ≤ 9223372036854775807) (u0 : -9223372036854775808 ≤ units) (u1 : units ≤ 9223372036854775807)
    (h : Ints w w.heap.size A l) (hl : l.length ≤ 9223372036854775807) (hx : ∀ x ∈ l, -9223372036854775808 ≤ x ∧ x ≤ 9223372036854775807) (qq0 : 0 ≤ q) (qq1 : q ≤ 255)
    (hB : Byts w w.heap.size AB lb) (hBm : lb.length ≤ 9223372036854775807) (h1 : Ints w w.heap.size AS seen) (hm1 : seen.length ≤ 9223372036854775807) (h2 : Ints w w.heap.size AC clear) (hm2 : clear.length ≤ 9223372036854775807) :
    Calls Tryd.prog 5 #[.int .i64 lev, .int .i64 bud, .int .i64 units, .slice A l.length c, .int .u8 q, .slice AB lb.length cB, .slice AS seen.length cS, .slice AC clear.length cC] w fun e w' => e = .returned (.bool true) ∧ Below w.heap.size w w' := by
  have hlb := around_bd lev 3 (by decide)
  have hbb := around_bd bud 12 (by decide)
  have hub := around_bd units 17 (by decide)
  obtain ⟨lv, hlv⟩ : ∃ lv, around lev 3 = lv := ⟨_, rfl⟩
  obtain ⟨bd, hbd⟩ : ∃ bd, around bud 12 = bd := ⟨_, rfl⟩
  obtain ⟨N, hN⟩ : ∃ N : Nat, around units 17 = N := ⟨(around units 17).toNat, by omega⟩
  have HM := bx (make_calls lev bud units A c l w h hl hx l0 l1 b0 b1 u0 u1 lv bd N hlv hbd hN)
  rw [hlv] at hlb
  rw [hbd] at hbb
  rw [hN] at hub
  have hgood := makeU_good l N
  have hlen := makeU_len l N
  obtain ⟨us, hus⟩ : ∃ us, makeU l N = us := ⟨_, rfl⟩
  rw [hus] at HM hgood hlen
  have hm16 : us.length ≤ 16 := by omega
  obtain ⟨n, hn⟩ : ∃ n, (q % 9).toNat = n := ⟨_, rfl⟩
  have hshl := madeL_take_len lb n 8
  obtain ⟨sh, hsh⟩ : ∃ sh, madeL (lb.take 8) n = sh := ⟨_, rfl⟩
  have HMK0 := bx (fun (W : World) (hW : From w W) => (show Calls Tryd.prog 17 #[.int .u8 q, .slice AB lb.length cB, .int .i64 8] W (GraphPost W n sh) by
    have := madeG_calls q AB cB lb 8 W ((hB.below hW).more (Below.size hW)) hBm qq0 qq1 (by omega)
    rw [hn, hsh] at this
    exact this))
  rw [hsh] at hshl
  obtain ⟨r, hr⟩ : ∃ r, reactM lv bd us sh seen clear = r := ⟨_, rfl⟩
  have HRR := bx hr
  obtain ⟨r1, r2, r3, r4, r5, r6, r7, r8⟩ := reactM_keeps hr hgood (by omega) (by omega) (by omega)
  have hrl := r8.1
  have HSW := bx r8
  have HRG := bx r1
  have HGD := bx hgood
  obtain ⟨tot, htot⟩ : ∃ tot, bd + sumA us = tot := ⟨_, rfl⟩
  have HT1 := bx htot
  have HT2 := bx (show r.bud + sumA r.us = tot by rw [r6, htot])
  have HCK := bx (check_good (lev := r.lev) (bud := r.bud) (l := r.us) r1 (by omega) (by omega) (by omega) (by omega) (by omega))
  have HS0 := bx (fun (W : World) (k : From w W) => k.ints h1)
  have HC0 := bx (fun (W : World) (k : From w W) => k.ints h2)
  have hr16 : r.us.length ≤ 16 := by omega
  have HRL := bx hrl
  clear hlv hbd hN hus hx h hgood hlen hub hn hsh hr r1 r6 r8 htot hB h1 h2 hrl
  go_enter Tryd.func5, Tryd.ntmps5
  go_wp2_with fail
  refine HM.out.mono ?_
  rintro e w1 ⟨A1, c1, rfl, o1, k1⟩
  obtain ⟨Z1, hZ1⟩ : ∃ V, w1.alloc (.cells #[.int .i64 lv, .int .i64 bd, .slice A1 us.length c1] 24) = V := ⟨_, rfl⟩
  have f1 : From w1 Z1 := by rw [← hZ1]; exact From.alloc (Below.refl _ _) _
  have sZ : Z1.heap.size = w1.heap.size + 1 := by rw [← hZ1]; simp
  have N1 := bx (show MCell Z1 w1.heap.size lv bd A1 us.length c1 by rw [← hZ1]; exact mcell_new w1 _ _ _ _ _)
  have HU := bx ((us_of_own o1).from f1)
  have hF : From w Z1 := From.trans k1 f1
  have HP := bx (hpm.from hF)
  have HRE := bx (fun (W : World) (AG : Option Addr) (cG : Nat) (k : From Z1 W) (hL : Lists W W.heap.size AG sh) => react_calls lv bd (.slice A1 us.length c1) us n AG cG sh AS cS seen AC cC clear W (HU.out.from k) (by omega) (by omega) (by omega) HGD.out hL (by omega) (HS0.out W (hF.trans k)) hm1 (HC0.out W (hF.trans k)) hm2 r HRR.out)
  have HMK := bx (fun (W : World) (k : From Z1 W) => HMK0.out W (hF.trans k))
  have HK := bx (fun (W : World) (k : From Z1 W) => (show From Z1 W ∧ W.cell? ⟨w1.heap.size, 0, none⟩ = some (.int .i64 lv) ∧ W.cell? ⟨w1.heap.size, 1, none⟩ = some (.int .i64 bd) ∧ W.cell? ⟨w1.heap.size, 2, none⟩ = some (.slice A1 us.length c1) from ⟨k, (N1.out.from k).facts⟩))
  have hFF : From Z1 Z1 := Below.refl _ _
  obtain ⟨m0, m1, m2⟩ := N1.out.facts
  clear o1 k1 f1 hpm
  go_wp2_with fail
  clear hZ1
  refine region_cut (fun a0 a' w' => ∃ (u27 u28 u29 u30 u31 u32 u33 u34 u35 u36 : Value) (b : Nat) (A3 : Option Addr) (c3 : Nat) (A4 : Option Addr) (c4 : Nat), a' = puts a0 [(27, u27), (28, u28), (29, u29), (30, u30), (31, u31), (32, u32), (33, u33), (34, u34), (35, u35), (36, u36), (18, .pointer (some ⟨b, 0, none⟩)), (19, .slice A4 r.sw.length c4)] ∧ From Z1 w' ∧ MCell w' b r.lev r.bud A3 r.us.length c3 ∧ US w' w'.heap.size (.slice A3 r.us.length c3) r.us ∧ Ints w' w'.heap.size A4 r.sw) (fun K' HKK => ?_) ?_
  · go_region_held3 (fun W => From Z1 W ∧ W.cell? ⟨w1.heap.size, 0, none⟩ = some (.int .i64 lv) ∧ W.cell? ⟨w1.heap.size, 1, none⟩ = some (.int .i64 bd) ∧ W.cell? ⟨w1.heap.size, 2, none⟩ = some (.slice A1 us.length c1))
      (first | exact HK.out _ (From.drew hFF) | (go_split_ands; exact HK.out _ (From.trans (by assumption) hx)) | (go_split_ands; exact HK.out _ (From.alloc (by assumption) _)) | (go_split_ands; exact HK.out _ (set3_from (by assumption) (by omega) _ _ _)) | (go_split_ands; exact HK.out _ (From.alloc hkeep _)))
      (first | (go_at_call 17; (with_reducible refine (HMK.out _ (by go_split_ands; assumption)).mono ?_); rintro e w3 ⟨AG, cG, rfl, hL, hx⟩; have hk3 := From.trans (show From Z1 _ by go_split_ands; assumption) hx; have hz3 := Below.size hk3; first | (have HRC := RCell.from (rcell_new Z1.drew) hx; rw [show Z1.drew.heap.size = w1.heap.size + 1 from sZ] at HRC) | skip) | (go_at_call 18; go_split_ands; (with_reducible refine (HRE.out _ AG cG (by assumption) (by first | exact hL | exact From.lists (From.alloc (Below.refl _ _) _) hL)).mono ?_); rintro e w4 ⟨A3, c3, A4, c4, rfl, hu, hi, hx⟩; have hkeep := From.trans (by assumption) hx; first | (have HRD := RCell.from HRC hx; obtain ⟨s0, s1, s2, t0, t1, t2⟩ := HRD.facts) | (have HRD := RCell.from (rcell_new w3) hx; obtain ⟨s0, s1, s2, t0, t1, t2⟩ := HRD.facts) | skip))
    all_goals first
      | (exact HKK.out _ _ ⟨_, _, _, _, _, _, _, _, _, _, _, A3, c3, A4, c4, (by simp only [puts, Act.put, List.setIfInBounds_toArray, List.set_cons_zero, List.set_cons_succ]; rfl), From.alloc hkeep _, mcell_new w4 _ _ _ _ _, us_of_own (hu.alloc _), ints_of_own (hi.alloc _)⟩)
      | (exact HKK.out _ _ ⟨_, _, _, _, _, _, _, _, _, _, _, A3, c3, A4, c4, (by simp only [puts, Act.put, List.setIfInBounds_toArray, List.set_cons_zero, List.set_cons_succ]; rfl), set3_from hkeep (by omega) _ _ _, ⟨heap_set_at (heap_set_at (heap_set_at HRD.out 0 _) 1 _) 2 _⟩, us_of_own (set3_own hu (by first | (simp; done) | exact (Array.getElem?_eq_some_iff.1 HRC.out).1) _ _ _), ints_of_own (set3_own hi (by first | (simp; done) | exact (Array.getElem?_eq_some_iff.1 HRC.out).1) _ _ _)⟩)
  · rintro a' w5 ⟨u27, u28, u29, u30, u31, u32, u33, u34, u35, u36, b, A3, c3, A4, c4, rfl, k5, hMb, hUb, hIb⟩
    rename_i K0 hK0
    apply hK0
    simp only [puts, Act.put, List.setIfInBounds_toArray, List.set_cons_zero, List.set_cons_succ]
    have HMB := bx hMb
    have HUB := bx hUb
    have HIB := bx hIb
    replace HU := bx (HU.out.from k5)
    replace HP := bx (HP.out.from k5)
    replace N1 := bx (N1.out.from k5)
    replace hF := hF.trans k5
    clear m0 m1 m2 HRE HMK HMK0 HK hFF hMb hUb hIb HS0 HC0 HM k5 sZ
    have HC1 := bx (fun (W : World) (k : From w5 W) => check_calls r.lev r.bud (.slice A3 r.us.length c3) r.us W (HUB.out.from k) (by omega) 0 HCK.out)
    have HT3 := bx (fun (W : World) (k : From w5 W) => total_calls r.lev r.bud (.slice A3 r.us.length c3) r.us W (HUB.out.from k) HRG.out hr16 r2 (by omega) tot HT2.out)
    have HT4 := bx (fun (W : World) (k : From w5 W) => total_calls lv bd (.slice A1 us.length c1) us W (HU.out.from k) HGD.out hm16 hbb.1 (by omega) tot HT1.out)
    have HK := bx (fun (W : World) (k : From w5 W) => (show From w5 W ∧ (W.cell? ⟨w1.heap.size, 0, none⟩ = some (.int .i64 lv) ∧ W.cell? ⟨w1.heap.size, 1, none⟩ = some (.int .i64 bd) ∧ W.cell? ⟨w1.heap.size, 2, none⟩ = some (.slice A1 us.length c1)) ∧ W.cell? ⟨b, 0, none⟩ = some (.int .i64 r.lev) ∧ W.cell? ⟨b, 1, none⟩ = some (.int .i64 r.bud) ∧ W.cell? ⟨b, 2, none⟩ = some (.slice A3 r.us.length c3) from ⟨k, (N1.out.from k).facts, (HMB.out.from k).facts⟩))
    have hFF : From w5 w5 := Below.refl _ _
    obtain ⟨m0, m1, m2⟩ := N1.out.facts
    obtain ⟨n0, n1, n2⟩ := HMB.out.facts
    have e1 : (tot != tot) = false := by simp
    have d1 : decide (bd < r.bud) = false := decide_eq_false (by omega)
    have d2 : (bd < r.bud) = False := by simp; omega
    have d3 : decide (r.lev < lv) = false := decide_eq_false (by omega)
    have d4 : (r.lev < lv) = False := by simp; omega
    have hrl := HRL.out
    have e4 : ((r.us.length : Int) != (us.length : Int)) = false := by simp; omega
    clear hrl
    go_wp2_with fail
    go_region_held3 (fun W => From w5 W ∧ (W.cell? ⟨w1.heap.size, 0, none⟩ = some (.int .i64 lv) ∧ W.cell? ⟨w1.heap.size, 1, none⟩ = some (.int .i64 bd) ∧ W.cell? ⟨w1.heap.size, 2, none⟩ = some (.slice A1 us.length c1)) ∧ W.cell? ⟨b, 0, none⟩ = some (.int .i64 r.lev) ∧ W.cell? ⟨b, 1, none⟩ = some (.int .i64 r.bud) ∧ W.cell? ⟨b, 2, none⟩ = some (.slice A3 r.us.length c3))
      (first | exact HK.out _ (From.drew hFF) | (go_split_ands; exact HK.out _ (From.trans (by assumption) hx)))
      (first | (go_at_call 12; (with_reducible refine (HC1.out _ (by go_split_ands; assumption)).mono ?_); rintro e w6 ⟨rfl, hx⟩) | (go_at_call 22; (with_reducible refine (HT3.out _ (by go_split_ands; assumption)).mono ?_); rintro e w7 ⟨rfl, hx⟩) | (go_at_call 22; (with_reducible refine (HT4.out _ (by go_split_ands; assumption)).mono ?_); rintro e w8 ⟨rfl, hx⟩))
    go_split_ands
    have k8 : From w5 w8 := by assumption
    replace HU := bx (HU.out.from k8)
    replace HUB := bx (HUB.out.from k8)
    replace HIB := bx (k8.ints HIB.out)
    replace HP := bx (HP.out.from k8)
    replace N1 := bx (N1.out.from k8)
    replace HMB := bx (HMB.out.from k8)
    replace hF := hF.trans k8
    have hswl : r.sw.length ≤ 100 := by omega
    clear m0 m1 m2 n0 n1 n2 HC1 HT3 HT4 HK hFF k8 hx d1 d2 d3 d4 e1 e4
    go_wp2
    go_loopw [20, 21] (fun i _ wr => ∃ k : Nat, k ≤ us.length ∧ i = .int .i64 k ∧ From w8 wr) (fun i _ _ => us.length - (intOf i).toNat)
    case atStart => exact ⟨0, Nat.zero_le _, rfl, Below.refl _ _⟩
    case round =>
      obtain ⟨k, hk, rfl, hbw⟩ := hrel
      obtain ⟨m0, m1, m2⟩ := (N1.out.from hbw).facts
      obtain ⟨n0, n1, n2⟩ := (HMB.out.from hbw).facts
      by_cases hlt : k < us.length
      · have hlt' : k < r.us.length := by have := HRL.out; omega
        obtain ⟨bu, offu, hA1, hbu, c1, c2⟩ := (HU.out.from hbw).at_ hlt
        obtain ⟨br, offr, hA3, hbr, p1, p2⟩ := (HUB.out.from hbw).at_ hlt'
        have hsw := HSW.out.2 k hlt hlt'
        obtain ⟨ga, gb, gc⟩ := HGD.out us[k] (List.getElem_mem hlt)
        rw [hsw] at p1 p2
        generalize us[k] = u at *
        obtain ⟨ua, ub⟩ := u
        simp only at *
        have al : ∀ (a : Addr) (v : Value), wr.cell? a = some v → ∀ o, (wr.alloc o).cell? a = some v := fun a v hv o => (cell_alloc_lt o (World.block_lt_of_cell? wr _ hv)).trans hv
        have HIN := bx (fun (o : Obj) => From.ints (From.alloc hbw o) HIB.out)
        have ew : IntKind.i64.wrap (ua + 1) = ua + 1 := IntWalk.i64_in _ (by omega)
        have z1 : (k : Int) < (us.length : Int) := by omega
        have z2 : (0 : Int) ≤ (k : Int) := by omega
        have z3 : (k : Int) < (r.us.length : Int) := by omega
        have x1 : (ua != ua) = false := by simp
        have x2 : (ub != ub) = false := by simp
        have x3 : (ua + 1 != ua + 1) = false := by simp
        have N2 := al _ _ n2
        subst hA1 hA3
        cases hy : r.sw.contains (k : Int)
        · rw [hy] at p1 p2
          simp only [Bool.false_eq_true, if_false] at p1 p2
          have P1 := al _ _ p1
          have P2 := al _ _ p2
          have HY := bx hy
          clear hsw hy
          go_wp2_with fail
          refine (has_val A4 c4 r.sw k _ (HIN.out _) (by omega) false HY.out).mono ?_
          rintro e w9 ⟨rfl, rfl⟩
          go_wp2_with fail
          go_quiet (fail)
          go_wp2
          go_roundw
          case rel => exact ⟨k + 1, by omega, by go_num, From.drewN (From.alloc hbw _) nq⟩
          case measure => simp [intOf]; omega
        · rw [hy] at p1 p2
          simp only [if_true] at p1 p2
          have P1 := al _ _ p1
          have P2 := al _ _ p2
          have HY := bx hy
          clear hsw hy
          go_wp2_with fail
          refine (has_val A4 c4 r.sw k _ (HIN.out _) (by omega) true HY.out).mono ?_
          rintro e w9 ⟨rfl, rfl⟩
          go_wp2_with fail
          go_quiet (fail)
          go_wp2
          go_roundw
          case rel => exact ⟨k + 1, by omega, by go_num, From.drewN (by first | exact From.alloc hbw _ | exact Below.setCell (From.alloc hbw _) (by show w8.heap.size ≤ wr.heap.size; exact Below.size hbw) _) nq⟩
          case measure => simp [intOf]; omega
      · obtain rfl : k = us.length := by omega
        have e5 : IntKind.i64.wrap (bd - r.bud) = bd - r.bud := IntWalk.i64_in _ (by omega)
        have e6 : (bd - r.bud == (r.sw.length : Int)) = true := by simp; omega
        go_wp2_with fail
        refine (livesM_calls _ (HP.out.from hbw)).mono ?_
        rintro e w9 ⟨rfl, k9⟩
        go_wp2
        go_ret
        exact ⟨rfl, hF.trans (hbw.trans k9)⟩
set_option maxRecDepth 100000 in
theorem budget_lifted (os : Os) (started : os.Started) (H : Type) (enc : TypeId × Value → H) :
    ReturnsInHanded {} Tryd.checked os 5 .any (fun w args => (Rows.modeBudgetSpec.pre enc Tryd.prog Tryd.f5 [] false w args ∧ laidMetH Tryd.prog laidL w) ∧ sizedMet enc Tryd.prog Tryd.f5 (OpenSpec.ofChange Rows.modeBudgetSpec) false w args)
      (Rows.modeBudgetSpec.post enc Tryd.prog Tryd.f5 false true false false) := by
  refine returnsInHanded_of_change_and (C := Tryd.checked) (X := fun w _ => laidMetH Tryd.prog laidL w) (fun _ _ _ hh h => h.of_heap hh) own started (by kernel_rfl) Tryd.func5
    (ChangeSpec.witness_shaped (enc := enc) (C := Tryd.checked) (os := os) (X := fun w _ => laidMetH Tryd.prog laidL w) false (World.doorLaid Tryd.prog 400 os) #[.int .i64 0, .int .i64 0, .int .i64 0, .slice none 0 0, .int .u8 0, .slice none 0 0, .slice none 0 0, .slice none 0 0] 8 rfl (World.shaped_of_RefB (by kernel_rfl) (by kernel_rfl)) (by kernel_rfl) (by kernel_rfl) (by kernel_rfl) (door_met os _)) ?_
  intro W base args ds gs before hval0 hW _ hsz0 hL _
  have hval : ∀ (j : Nat) t v, Tryd.f5.params[j]? = some t → args[j]? = some v → Value.okWide Tryd.prog W .any base t v := hval0
  have hW' := hW
  obtain ⟨p, q, hA0, hV, rfl, hfz, hnd⟩ := hW
  have hA : DataW.TrodAll enc Tryd.prog W 0 (fun _ => true) true Tryd.f5.params.toList args.toList ds p := hA0
  rw [Tryd.params5] at hA hval
  obtain ⟨v0, vs0, d0, ds0, p0, q0, hargs, rfl, rfl, h0, r0⟩ := trodAll_cons hA
  obtain ⟨v1, vs1, d1, ds1, p1, q1, rfl, rfl, rfl, h1, r1⟩ := trodAll_cons r0
  obtain ⟨v2, vs2, d2, ds2, p2, q2, rfl, rfl, rfl, h2, r2⟩ := trodAll_cons r1
  obtain ⟨v3, vs3, d3, ds3, p3, q3, rfl, rfl, rfl, h3, r3⟩ := trodAll_cons r2
  obtain ⟨v4, vs4, d4, ds4, p4, q4, rfl, rfl, rfl, h4, r4⟩ := trodAll_cons r3
  obtain ⟨v5, vs5, d5, ds5, p5, q5, rfl, rfl, rfl, h5, r5⟩ := trodAll_cons r4
  obtain ⟨v6, vs6, d6, ds6, p6, q6, rfl, rfl, rfl, h6, r6⟩ := trodAll_cons r5
  obtain ⟨v7, vs7, d7, ds7, p7, q7, rfl, rfl, rfl, h7, r7⟩ := trodAll_cons r6
  obtain ⟨rfl, rfl, rfl⟩ := trodAll_nil r7
  obtain rfl : args = #[v0, v1, v2, v3, v4, v5, v6, v7] := by cases args; simp_all
  obtain ⟨rfl, rfl⟩ := trodVars_none hV
  obtain ⟨a0, rfl, _, _, w0⟩ := open_int Tryd.underlying3 (hval 0 3 v0 rfl rfl) h0
  simp only [Lit.wf, Bool.and_eq_true, decide_eq_true_eq] at w0
  obtain ⟨a1, rfl, _, _, w1⟩ := open_int Tryd.underlying3 (hval 1 3 v1 rfl rfl) h1
  simp only [Lit.wf, Bool.and_eq_true, decide_eq_true_eq] at w1
  obtain ⟨a2, rfl, _, _, w2⟩ := open_int Tryd.underlying3 (hval 2 3 v2 rfl rfl) h2
  simp only [Lit.wf, Bool.and_eq_true, decide_eq_true_eq] at w2
  obtain ⟨A3, c3, l3, rfl, hB3, hm3, hx3⟩ := open_intsr (hval 3 32 v3 rfl rfl) h3
  obtain ⟨a4, rfl, _, _, w4⟩ := open_int Tryd.underlying5 (hval 4 5 v4 rfl rfl) h4
  simp only [Lit.wf, Bool.and_eq_true, decide_eq_true_eq] at w4
  obtain ⟨A5, c5, l5, rfl, hB5, hm5⟩ := open_bytsv (hval 5 31 v5 rfl rfl) h5
  obtain ⟨A6, c6, l6, rfl, hB6, hm6⟩ := open_intsv (hval 6 32 v6 rfl rfl) h6
  obtain ⟨A7, c7, l7, rfl, hB7, hm7⟩ := open_intsv (hval 7 32 v7 rfl rfl) h7
  have hpm := of_laid hL
  refine (budget_walk a0 a1 a2 A3 c3 l3 a4 A5 c5 l5 A6 c6 l6 A7 c7 l7 W hpm w0.1 w0.2 w1.1 w1.2 w2.1 w2.2 hB3 hm3 hx3 w4.1 w4.2 hB5 hm5 hB6 hm6 hB7 hm7).mono fun e W' ⟨he, hb⟩ => ?_
  subst he
  exact ⟨_, rfl, law_post Tryd.laid (by kernel_rfl) rfl rfl Tryd.underlying4 rfl hW' hb⟩
theorem budget_holds : Rows.ModeBudgetSaid :=
  OpenClaim.holds_of_wide 5 Tryd.f5 rfl rfl rfl rfl rfl rfl rfl ⟨rfl, rfl, rfl, rfl, rfl⟩ rfl rfl rfl rfl rfl (by kernel_rfl) Tryd.func5 (by kernel_rfl)
    (of_decide_eq_true (by kernel_rfl)) (by unfold Func.isWrapper; first | (rw [if_pos (by decide +kernel)]; kernel_rfl) | (rw [if_neg (by decide +kernel)]; exact ⟨rfl, rfl⟩))
    (fun os started H enc _ => budget_lifted os started H enc)
theorem budget_card : Rows.ModeBudgetCardSaid :=
  Claim7.holds_tied_plain_at .later [] [.data] true (true, "ccf4692eb785d681fff224e6627c9955642b593329d036456035bd106bbb8178") false
    budget_holds (fun _ h => by cases h) (by kernel_rfl) (fun _ h => by cases h) modeBudget_row_tie rfl ⟨rfl, rfl⟩ (by kernel_rfl) rfl
    (fun f fn hf hfn => by
      obtain rfl : f = 5 := Option.some.inj ((show Tryd.prog.funcNamed "perigee/perigeelaw31.ModeBudget" = some 5 by kernel_rfl).symm.trans hf) |>.symm
      obtain rfl : fn = Tryd.f5 := (Option.some.inj (Tryd.func5.symm.trans hfn)).symm
      exact ⟨by kernel_rfl, fun j t ht => by
        rw [Tryd.params5] at ht
        have hm : t ∈ [3, 32, 5, 31] := by first | simpa using Array.mem_of_getElem? ht | (have hm0 := Array.mem_of_getElem? ht; simp at hm0 ⊢; rcases hm0 with h | h | h | h | h <;> simp [h])
        have hall : ([3, 32, 5, 31].all fun u => !Tryd.prog.wantsStandIn u) = true := by kernel_rfl
        exact (show Tryd.prog.wantsStandIn t = false by simpa using List.all_eq_true.1 hall t hm)⟩)
    (by kernel_rfl)
#print axioms budget_card
end Go.Proofs.YtgfmnolghbiedaaDoor
