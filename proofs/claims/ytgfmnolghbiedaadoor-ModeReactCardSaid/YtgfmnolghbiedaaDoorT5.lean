/-
  For all valid modes, graphs that are made from numbers, and all lists of symptoms, the law ModeReact returns true, and its arguments read as before; the package's table 'permitted' reads as the program's text lays it. No further condition.
-/
import Derived.Test.YtgfmnolghbiedaaDoorQ1
import Derived.Test.YtgfmnolghbiedaaDoorP13
namespace Go.Proofs.YtgfmnolghbiedaaDoor
open Go.ChangeShapes Go.WideShapes Go.ChangeAt Go.RowKit Go.Deep

theorem good_of_check {lev bud : Int} {l : UL} (h : checkM lev bud l = 0) : GoodU l ∧ 0 ≤ bud ∧ bud ≤ 2147483647 ∧ l.length ≤ 16 := by
  unfold checkM at h
  split at h
  · cases h
  · split at h
    · cases h
    · split at h
      · cases h
      · rename_i h1 h2 h3
        refine ⟨fun u hu => ?_, by omega, by omega, by omega⟩
        have h4 : l.any badU = false := by simpa using h3
        rw [List.any_eq_false] at h4
        have h5 := h4 u hu
        simp [badU] at h5
        omega
set_option maxRecDepth 100000 in
set_option maxHeartbeats 4000000 in
theorem reactL_walk (lev bud : Int) (A : Option Addr) (c : Nat) (us : UL) (q : Int) (AB : Option Addr) (cB : Nat) (l : List Int) (AS : Option Addr) (cS : Nat) (seen : List Int) (AC : Option Addr) (cC : Nat) (clear : List Int) (w : World) (hpm : PM w)
    (h : US w w.heap.size (.slice A us.length c) us) (hm : us.length ≤ 9223372036854775807) (_ : -9223372036854775808 ≤ lev ∧ lev ≤ 9223372036854775807) (_ : -9223372036854775808 ≤ bud ∧ bud ≤ 9223372036854775807) (q0 : 0 ≤ q) (q1 : q ≤ 255)
    (hB : Byts w w.heap.size AB l) (hBm : l.length ≤ 9223372036854775807) (h1 : Ints w w.heap.size AS seen) (hm1 : seen.length ≤ 9223372036854775807) (h2 : Ints w w.heap.size AC clear) (hm2 : clear.length ≤ 9223372036854775807) :
    Calls Tryd.prog 4 #[.agg #[.int .i64 lev, .int .i64 bud, .slice A us.length c], .int .u8 q, .slice AB l.length cB, .slice AS seen.length cS, .slice AC clear.length cC] w fun e w' => e = .returned (.bool true) ∧ Below w.heap.size w w' := by
  obtain ⟨W0, hW0⟩ : ∃ W0, w.alloc (.cells #[.int .i64 lev, .int .i64 bud, .slice A us.length c] 24) = W0 := ⟨_, rfl⟩
  have hF0 : From w W0 := by rw [← hW0]; exact From.alloc (Below.refl _ _) _
  have HM := bx (show MCell W0 w.heap.size lev bud A us.length c by rw [← hW0]; exact mcell_new w lev bud A us.length c)
  have HU := bx (h.from hF0)
  have HP := bx (hpm.from hF0)
  have HS := bx (hF0.ints h1)
  have HC := bx (hF0.ints h2)
  have HB := bx ((hB.below hF0).more (Below.size hF0))
  obtain ⟨m0, m1, m2⟩ := HM.out.facts
  obtain ⟨x, hx⟩ : ∃ x, checkM lev bud us = x := ⟨_, rfl⟩
  have HX := bx hx
  by_cases hx0 : x = 0
  case neg =>
    have t1 : (x != 0) = true := by simp [hx0]
    clear hx hx0
    go_enter Tryd.func4, Tryd.ntmps4
    go_wp2_with fail
    refine (refCheckM_calls lev bud (.slice A us.length c) us W0 HU.out hm x HX.out).mono ?_
    rintro e w1 ⟨rfl, k1⟩
    go_wp2_with fail
    refine (livesM_calls w1 (HP.out.from k1)).mono ?_
    rintro e w2 ⟨rfl, k2⟩
    go_wp2
    go_ret
    exact ⟨rfl, hF0.trans (From.trans k1 k2)⟩
  subst hx0
  obtain ⟨hgood, hb0, hb1, hl16⟩ := good_of_check hx
  have HG := bx hgood
  have HMK := bx (fun (W : World) (k : From W0 W) => madeG_calls q AB cB l 8 W ((HB.out.below k).more (Below.size k)) hBm q0 q1 (by omega))
  obtain ⟨n, hn⟩ : ∃ n, (q % 9).toNat = n := ⟨_, rfl⟩
  rw [hn] at HMK
  have hshl := madeL_take_len l n 8
  obtain ⟨sh, hsh⟩ : ∃ sh, madeL (l.take 8) n = sh := ⟨_, rfl⟩
  rw [hsh] at HMK hshl
  obtain ⟨r, hr⟩ : ∃ r, reactM lev bud us sh seen clear = r := ⟨_, rfl⟩
  have HRR := bx hr
  have hrl : r.us.length ≤ 8796093022208 := by
    rw [← hr]
    unfold reactM
    split
    · show us.length ≤ _; omega
    · split
      · show us.length ≤ _; omega
      · rw [runR_len]; show us.length ≤ _; omega
  have hsw : r.sw.length ≤ 8 := by
    rw [← hr]
    unfold reactM
    split
    · simp
    · split
      · simp
      · rename_i t ht
        have h1 := runR_sw ⟨max lev 1, bud, us, []⟩ t
        have h2 := (least_ex ht).2
        simp only [List.length_nil] at h1
        omega
  clear hx hgood hn hsh hr h hpm hB h1 h2
  go_enter Tryd.func4, Tryd.ntmps4
  go_wp2_with fail
  refine (refCheckM_calls lev bud (.slice A us.length c) us W0 HU.out hm 0 HX.out).mono ?_
  rintro e w1 ⟨rfl, k1⟩
  have k1' : From W0 w1 := k1
  go_wp2_with fail
  refine (show Calls Tryd.prog 17 #[.int .u8 q, .slice AB l.length cB, .int .i64 8] _ _ from HMK.out w1 k1').mono ?_
  rintro e w2 ⟨AG, cG, rfl, hL, k2⟩
  have k2' : From W0 w2 := From.trans k1 k2
  obtain ⟨Z1, hZ1⟩ : ∃ V, w2.alloc (.cells #[.int .i64 n, .slice AG sh.length cG] 35) = V := ⟨_, rfl⟩
  have f1 : From w2 Z1 := by rw [← hZ1]; exact From.alloc (Below.refl _ _) _
  have hk : From W0 Z1 := k2'.trans f1
  have HGG := bx (show GAt Z1 w2.heap.size n AG cG sh by rw [← hZ1]; exact gat_new w2 n AG cG sh _)
  have HL := bx (f1.lists hL)
  have HU1 := bx (HU.out.from hk)
  have HP1 := bx (HP.out.from hk)
  have HM1 := bx (HM.out.from hk)
  have HS1 := bx (hk.ints HS.out)
  have HC1 := bx (hk.ints HC.out)
  have hF1 := hF0.trans hk
  clear f1 hk hL k1 k2 k1' k2' m0 m1 m2 hF0 hW0
  obtain ⟨m0, m1, m2⟩ := HM1.out.facts
  obtain ⟨g0, g1⟩ := HGG.out
  go_wp2_with fail
  clear hZ1
  refine (react_calls lev bud (.slice A us.length c) us n AG cG sh AS cS seen AC cC clear Z1 HU1.out (by omega) hb0 (by omega) HG.out HL.out (by omega) HS1.out hm1 HC1.out hm2 r HRR.out).mono ?_
  rintro e w3 ⟨A3, c3, A4, c4, rfl, hu3, hi3, k3⟩
  have HUA := bx hu3
  have HIA := bx hi3
  clear m0 m1 m2 g0 g1 hu3 hi3
  have f2 : From w3 (w3.alloc (.cells #[.int .i64 r.lev, .int .i64 r.bud, .slice A3 r.us.length c3] 24)) := From.alloc (Below.refl _ _) _
  obtain ⟨m0, m1, m2⟩ := ((HM1.out.from k3).from f2).facts
  obtain ⟨g0, g1⟩ := (HGG.out.from k3).from f2
  have NA := bx (mcell_new w3 r.lev r.bud A3 r.us.length c3)
  go_wp2_with fail
  generalize w3.alloc (.cells #[.int .i64 r.lev, .int .i64 r.bud, .slice A3 r.us.length c3] 24) = Z2 at *
  have k32 := From.trans k3 f2
  refine (refReact_calls lev bud (.slice A us.length c) us n AG cG sh AS cS seen AC cC clear Z2 (HU1.out.from k32) (by omega) hb0 (by omega) HG.out (k32.lists HL.out) (by omega) (k32.ints HS1.out) hm1 (k32.ints HC1.out) hm2 r HRR.out).mono ?_
  rintro e w4 ⟨A5, c5, A6, c6, rfl, hu4, hi4, k4⟩
  have HUB := bx hu4
  have HIB := bx hi4
  clear m0 m1 m2 g0 g1 hu4 hi4
  have f3 : From w4 (w4.alloc (.cells #[.int .i64 r.lev, .int .i64 r.bud, .slice A5 r.us.length c5] 24)) := From.alloc (Below.refl _ _) _
  obtain ⟨m0, m1, m2⟩ := ((NA.out.from k4).from f3).facts
  obtain ⟨n0, n1, n2⟩ := (mcell_new w4 r.lev r.bud A5 r.us.length c5).facts
  go_wp2_with fail
  generalize w4.alloc (.cells #[.int .i64 r.lev, .int .i64 r.bud, .slice A5 r.us.length c5] 24) = Z3 at *
  have k43 := From.trans k4 f3
  refine (same_callsM r.lev r.bud (.slice A3 r.us.length c3) r.us r.lev r.bud (.slice A5 r.us.length c5) r.us Z3 ((HUA.out.from f2).from k43) (HUB.out.from f3) hrl true (by simp)).mono ?_
  rintro e w5 ⟨rfl, k5⟩
  go_wp2_with fail
  refine (sameI_val A4 A6 c4 c6 r.sw r.sw w5 (From.ints k5 (From.ints k43 (From.ints f2 HIA.out))) (From.ints k5 (From.ints f3 HIB.out)) (by omega) true (by simp)).mono ?_
  rintro e w6 ⟨rfl, k6⟩
  go_wp2_with fail
  refine (livesM_calls w6 (((((HP1.out.from k32)).from k43).from k5).from k6)).mono ?_
  rintro e w7 ⟨rfl, k7⟩
  go_wp2
  go_ret
  exact ⟨rfl, hF1.trans (k32.trans (k43.trans (From.trans k5 (From.trans k6 k7))))⟩
set_option maxRecDepth 100000 in
theorem reactL_lifted (os : Os) (started : os.Started) (H : Type) (enc : TypeId × Value → H) :
    ReturnsInHanded {} Tryd.checked os 4 .any (fun w args => (Rows.modeReactSpec.pre enc Tryd.prog Tryd.f4 [] false w args ∧ laidMetH Tryd.prog laidL w) ∧ sizedMet enc Tryd.prog Tryd.f4 (OpenSpec.ofChange Rows.modeReactSpec) false w args)
      (Rows.modeReactSpec.post enc Tryd.prog Tryd.f4 false true false false) := by
  refine returnsInHanded_of_change_and (C := Tryd.checked) (X := fun w _ => laidMetH Tryd.prog laidL w) (fun _ _ _ hh h => h.of_heap hh) own started (by kernel_rfl) Tryd.func4
    (ChangeSpec.witness_shaped (enc := enc) (C := Tryd.checked) (os := os) (X := fun w _ => laidMetH Tryd.prog laidL w) false (World.doorLaid Tryd.prog 400 os) #[.agg #[.int .i64 0, .int .i64 0, .slice none 0 0], .int .u8 0, .slice none 0 0, .slice none 0 0, .slice none 0 0] 8 rfl (World.shaped_of_RefB (by kernel_rfl) (by kernel_rfl)) (by kernel_rfl) (by kernel_rfl) (by kernel_rfl) (door_met os _)) ?_
  intro W base args ds gs before hval0 hW _ hsz0 hL _
  have hval : ∀ (j : Nat) t v, Tryd.f4.params[j]? = some t → args[j]? = some v → Value.okWide Tryd.prog W .any base t v := hval0
  have hW' := hW
  obtain ⟨p, q, hA0, hV, rfl, hfz, hnd⟩ := hW
  have hA : DataW.TrodAll enc Tryd.prog W 0 (fun _ => true) true Tryd.f4.params.toList args.toList ds p := hA0
  rw [Tryd.params4] at hA hval
  obtain ⟨v0, vs0, d0, ds0, p0, q0, hargs, rfl, rfl, h0, r0⟩ := trodAll_cons hA
  obtain ⟨v1, vs1, d1, ds1, p1, q1, rfl, rfl, rfl, h1, r1⟩ := trodAll_cons r0
  obtain ⟨v2, vs2, d2, ds2, p2, q2, rfl, rfl, rfl, h2, r2⟩ := trodAll_cons r1
  obtain ⟨v3, vs3, d3, ds3, p3, q3, rfl, rfl, rfl, h3, r3⟩ := trodAll_cons r2
  obtain ⟨v4, vs4, d4, ds4, p4, q4, rfl, rfl, rfl, h4, r4⟩ := trodAll_cons r3
  obtain ⟨rfl, rfl, rfl⟩ := trodAll_nil r4
  obtain rfl : args = #[v0, v1, v2, v3, v4] := by cases args; simp_all
  obtain ⟨rfl, rfl⟩ := trodVars_none hV
  obtain ⟨lev0, bud0, A0, c0, us0, rfl, hB0, hm0, hl0, hb0⟩ := open_modev (hval 0 24 v0 rfl rfl) h0
  obtain ⟨a1, rfl, _, _, w1⟩ := open_int Tryd.underlying5 (hval 1 5 v1 rfl rfl) h1
  simp only [Lit.wf, Bool.and_eq_true, decide_eq_true_eq] at w1
  obtain ⟨A2, c2, l2, rfl, hB2, hm2⟩ := open_bytsv (hval 2 31 v2 rfl rfl) h2
  obtain ⟨A3, c3, l3, rfl, hB3, hm3⟩ := open_intsv (hval 3 32 v3 rfl rfl) h3
  obtain ⟨A4, c4, l4, rfl, hB4, hm4⟩ := open_intsv (hval 4 32 v4 rfl rfl) h4
  have hpm := of_laid hL
  refine (reactL_walk lev0 bud0 A0 c0 us0 a1 A2 c2 l2 A3 c3 l3 A4 c4 l4 W hpm hB0 hm0 hl0 hb0 w1.1 w1.2 hB2 hm2 hB3 hm3 hB4 hm4).mono fun e W' ⟨he, hb⟩ => ?_
  subst he
  exact ⟨_, rfl, law_post Tryd.laid (by kernel_rfl) rfl rfl Tryd.underlying4 rfl hW' hb⟩
theorem reactL_holds : Rows.ModeReactSaid :=
  OpenClaim.holds_of_wide 4 Tryd.f4 rfl rfl rfl rfl rfl rfl rfl ⟨rfl, rfl, rfl, rfl, rfl⟩ rfl rfl rfl rfl rfl (by kernel_rfl) Tryd.func4 (by kernel_rfl)
    (of_decide_eq_true (by kernel_rfl)) (by unfold Func.isWrapper; first | (rw [if_pos (by decide +kernel)]; kernel_rfl) | (rw [if_neg (by decide +kernel)]; exact ⟨rfl, rfl⟩))
    (fun os started H enc _ => reactL_lifted os started H enc)
theorem reactL_card : Rows.ModeReactCardSaid :=
  Claim7.holds_tied_plain_at .later [] [.data] true (true, "ccf4692eb785d681fff224e6627c9955642b593329d036456035bd106bbb8178") false
    reactL_holds (fun _ h => by cases h) (by kernel_rfl) (fun _ h => by cases h) modeReact_row_tie rfl ⟨rfl, rfl⟩ (by kernel_rfl) rfl
    (fun f fn hf hfn => by
      obtain rfl : f = 4 := Option.some.inj ((show Tryd.prog.funcNamed "perigee/perigeelaw31.ModeReact" = some 4 by kernel_rfl).symm.trans hf) |>.symm
      obtain rfl : fn = Tryd.f4 := (Option.some.inj (Tryd.func4.symm.trans hfn)).symm
      exact ⟨by kernel_rfl, fun j t ht => by
        rw [Tryd.params4] at ht
        have hm : t ∈ [24, 5, 31, 32] := by simpa using Array.mem_of_getElem? ht
        have hall : ([24, 5, 31, 32].all fun u => !Tryd.prog.wantsStandIn u) = true := by kernel_rfl
        exact (show Tryd.prog.wantsStandIn t = false by simpa using List.all_eq_true.1 hall t hm)⟩)
    (by kernel_rfl)
#print axioms reactL_card
end Go.Proofs.YtgfmnolghbiedaaDoor
