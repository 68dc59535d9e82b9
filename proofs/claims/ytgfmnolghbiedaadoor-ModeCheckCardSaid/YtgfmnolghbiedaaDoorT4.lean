/-
  For all modes, the law ModeCheck returns true, and its argument reads as before; the package's table 'permitted' reads as the program's text lays it. No further condition.
-/
import Derived.Test.YtgfmnolghbiedaaDoorQ2
namespace Go.Proofs.YtgfmnolghbiedaaDoor
open Go.ChangeShapes Go.WideShapes Go.ChangeAt Go.RowKit Go.Deep

set_option maxRecDepth 100000 in
set_option maxHeartbeats 4000000 in
theorem checkL_walk (lev bud : Int) (A : Option Addr) (c : Nat) (us : UL) (w : World) (hpm : PM w)
    (h : US w w.heap.size (.slice A us.length c) us) (hm : us.length ≤ 8796093022208) (_ : -9223372036854775808 ≤ lev ∧ lev ≤ 9223372036854775807) (_ : -9223372036854775808 ≤ bud ∧ bud ≤ 9223372036854775807) :
    Calls Tryd.prog 3 #[.agg #[.int .i64 lev, .int .i64 bud, .slice A us.length c]] w fun e w' => e = .returned (.bool true) ∧ Below w.heap.size w w' := by
  obtain ⟨W0, hW0⟩ : ∃ W0, w.alloc (.cells #[.int .i64 lev, .int .i64 bud, .slice A us.length c] 24) = W0 := ⟨_, rfl⟩
  have hF0 : From w W0 := by rw [← hW0]; exact From.alloc (Below.refl _ _) _
  have HM := bx (show MCell W0 w.heap.size lev bud A us.length c by rw [← hW0]; exact mcell_new w lev bud A us.length c)
  have HU := bx (h.from hF0)
  have HP := bx (hpm.from hF0)
  obtain ⟨q0, q1, q2⟩ := HM.out.facts
  obtain ⟨x, hx⟩ : ∃ x, checkM lev bud us = x := ⟨_, rfl⟩
  have HX := bx hx
  have exx : (x == x) = true := by simp
  clear hx
  go_enter Tryd.func3, Tryd.ntmps3
  go_wp2_with fail
  refine (new_calls bud (.slice A us.length c) us W0 HU.out hm).mono ?_
  rintro e w1 ⟨A1, c1, rfl, o1, k1⟩
  have HU1 := bx (us_of_own o1)
  replace HU := bx (HU.out.from k1)
  replace HP := bx (HP.out.from k1)
  replace HM := bx (HM.out.from k1)
  replace hF0 := hF0.trans k1
  clear o1 k1 q0 q1 q2 hW0 hpm h
  have f1 : From w1 (w1.alloc (.cells #[.int .i64 0, .int .i64 bud, .slice A1 us.length c1] 24)) := From.alloc (Below.refl _ _) _
  have N1 := bx (mcell_new w1 0 bud A1 us.length c1)
  go_wp2_with fail
  generalize w1.alloc (.cells #[.int .i64 0, .int .i64 bud, .slice A1 us.length c1] 24) = Z1 at *
  replace HU := bx (HU.out.from f1)
  replace HU1 := bx (HU1.out.from f1)
  replace HP := bx (HP.out.from f1)
  replace HM := bx (HM.out.from f1)
  replace hF0 := hF0.trans f1
  clear f1
  have HC1 := bx (fun (W : World) (k : From Z1 W) => check_calls lev bud (.slice A us.length c) us W (HU.out.from k) (by omega) x HX.out)
  have HC2 := bx (fun (W : World) (k : From Z1 W) => refCheckM_calls lev bud (.slice A us.length c) us W (HU.out.from k) (by omega) x HX.out)
  have HC3 := bx (fun (W : World) (k : From Z1 W) => refNew_calls bud (.slice A us.length c) us W (HU.out.from k) hm)
  have HSM := bx (fun (W : World) (A3 : Option Addr) (c3 B : Nat) (k : From Z1 W) (o : W.ownsRow B 44 2 (.slice A3 us.length c3) us.length (uc us)) => same_callsM 0 bud (.slice A1 us.length c1) us 0 bud (.slice A3 us.length c3) us W (HU1.out.from k) (us_of_own o) hm true (by simp))
  have HL := bx (fun (W : World) (k : From Z1 W) => livesM_calls W (HP.out.from k))
  have HK := bx (fun (W : World) (k : From Z1 W) => (show From Z1 W ∧ (W.cell? ⟨w.heap.size, 0, none⟩ = some (.int .i64 lev) ∧ W.cell? ⟨w.heap.size, 1, none⟩ = some (.int .i64 bud) ∧ W.cell? ⟨w.heap.size, 2, none⟩ = some (.slice A us.length c)) ∧ W.cell? ⟨w1.heap.size, 0, none⟩ = some (.int .i64 0) ∧ W.cell? ⟨w1.heap.size, 1, none⟩ = some (.int .i64 bud) ∧ W.cell? ⟨w1.heap.size, 2, none⟩ = some (.slice A1 us.length c1) from ⟨k, (HM.out.from k).facts, (N1.out.from k).facts⟩))
  have hFF : From Z1 Z1 := Below.refl _ _
  obtain ⟨p0, p1, p2⟩ := N1.out.facts
  obtain ⟨q0, q1, q2⟩ := HM.out.facts
  go_region_held3 (fun W => From Z1 W ∧ (W.cell? ⟨w.heap.size, 0, none⟩ = some (.int .i64 lev) ∧ W.cell? ⟨w.heap.size, 1, none⟩ = some (.int .i64 bud) ∧ W.cell? ⟨w.heap.size, 2, none⟩ = some (.slice A us.length c)) ∧ W.cell? ⟨w1.heap.size, 0, none⟩ = some (.int .i64 0) ∧ W.cell? ⟨w1.heap.size, 1, none⟩ = some (.int .i64 bud) ∧ W.cell? ⟨w1.heap.size, 2, none⟩ = some (.slice A1 us.length c1))
    (first | exact HK.out _ (From.drew hFF) | (go_split_ands; exact HK.out _ (From.trans (by assumption) hx)))
    (first | (go_at_call 12; (with_reducible refine (HC1.out _ (by go_split_ands; assumption)).mono ?_); rintro e w4 ⟨rfl, hx⟩) | (go_at_call 13; (with_reducible refine (HC2.out _ (by go_split_ands; assumption)).mono ?_); rintro e w5 ⟨rfl, hx⟩) | (go_at_call 15; (with_reducible refine (HC3.out _ (by go_split_ands; assumption)).mono ?_); rintro e w6 ⟨A3, c3, rfl, o3, hx⟩) | (go_at_call 14; (with_reducible refine (HSM.out _ A3 c3 _ (by go_split_ands; assumption) o3).mono ?_); rintro e w7 ⟨rfl, hx⟩) | (go_at_call 16; (with_reducible refine (HL.out _ (by go_split_ands; assumption)).mono ?_); rintro e w8 ⟨rfl, hx⟩))
  all_goals
    go_split_ands
    go_wp2
    go_ret
    exact ⟨rfl, hF0.trans (by assumption)⟩
set_option maxRecDepth 100000 in
theorem checkL_lifted (os : Os) (started : os.Started) (H : Type) (enc : TypeId × Value → H) :
    ReturnsInHanded {} Tryd.checked os 3 .any (fun w args => (Rows.modeCheckSpec.pre enc Tryd.prog Tryd.f3 [] false w args ∧ laidMetH Tryd.prog laidL w) ∧ sizedMet enc Tryd.prog Tryd.f3 (OpenSpec.ofChange Rows.modeCheckSpec) false w args)
      (Rows.modeCheckSpec.post enc Tryd.prog Tryd.f3 false true false false) := by
  refine returnsInHanded_of_change_and (C := Tryd.checked) (X := fun w _ => laidMetH Tryd.prog laidL w) (fun _ _ _ hh h => h.of_heap hh) own started (by kernel_rfl) Tryd.func3
    (ChangeSpec.witness_shaped (enc := enc) (C := Tryd.checked) (os := os) (X := fun w _ => laidMetH Tryd.prog laidL w) false (World.doorLaid Tryd.prog 400 os) #[.agg #[.int .i64 0, .int .i64 0, .slice none 0 0]] 8 rfl (World.shaped_of_RefB (by kernel_rfl) (by kernel_rfl)) (by kernel_rfl) (by kernel_rfl) (by kernel_rfl) (door_met os _)) ?_
  intro W base args ds gs before hval0 hW _ hsz0 hL _
  have hval : ∀ (j : Nat) t v, Tryd.f3.params[j]? = some t → args[j]? = some v → Value.okWide Tryd.prog W .any base t v := hval0
  have hW' := hW
  obtain ⟨p, q, hA0, hV, rfl, hfz, hnd⟩ := hW
  have hA : DataW.TrodAll enc Tryd.prog W 0 (fun _ => true) true Tryd.f3.params.toList args.toList ds p := hA0
  have hsz : (DataW.weightsEach Tryd.prog (Tryd.f3.params.toList ++ Rows.modeCheckSpec.plain.varTypes Tryd.prog) (ds ++ gs)).all (· ≤ reachBytes) = true := hsz0
  rw [Tryd.params3] at hA hval hsz
  obtain ⟨v0, vs0, d0, ds0, p0, q0, hargs, rfl, rfl, h0, r0⟩ := trodAll_cons hA
  obtain ⟨rfl, rfl, rfl⟩ := trodAll_nil r0
  obtain rfl : args = #[v0] := by cases args; simp_all
  obtain ⟨rfl, rfl⟩ := trodVars_none hV
  obtain ⟨lev0, bud0, A0, c0, us0, rfl, hB0, hm0, hl0, hb0⟩ := open_modew (hval 0 24 v0 rfl rfl) h0 (sized_mem hsz (j := 0) rfl rfl)
  have hpm := of_laid hL
  refine (checkL_walk lev0 bud0 A0 c0 us0 W hpm hB0 hm0 hl0 hb0).mono fun e W' ⟨he, hb⟩ => ?_
  subst he
  exact ⟨_, rfl, law_post Tryd.laid (by kernel_rfl) rfl rfl Tryd.underlying4 rfl hW' hb⟩
theorem checkL_holds : Rows.ModeCheckSaid :=
  OpenClaim.holds_of_wide 3 Tryd.f3 rfl rfl rfl rfl rfl rfl rfl ⟨rfl, rfl, rfl, rfl, rfl⟩ rfl rfl rfl rfl rfl (by kernel_rfl) Tryd.func3 (by kernel_rfl)
    (of_decide_eq_true (by kernel_rfl)) (by unfold Func.isWrapper; first | (rw [if_pos (by decide +kernel)]; kernel_rfl) | (rw [if_neg (by decide +kernel)]; exact ⟨rfl, rfl⟩))
    (fun os started H enc _ => checkL_lifted os started H enc)
theorem checkL_card : Rows.ModeCheckCardSaid :=
  Claim7.holds_tied_plain_at .later [] [.data] true (true, "ccf4692eb785d681fff224e6627c9955642b593329d036456035bd106bbb8178") false
    checkL_holds (fun _ h => by cases h) (by kernel_rfl) (fun _ h => by cases h) modeCheck_row_tie rfl ⟨rfl, rfl⟩ (by kernel_rfl) rfl
    (fun f fn hf hfn => by
      obtain rfl : f = 3 := Option.some.inj ((show Tryd.prog.funcNamed "perigee/perigeelaw31.ModeCheck" = some 3 by kernel_rfl).symm.trans hf) |>.symm
      obtain rfl : fn = Tryd.f3 := (Option.some.inj (Tryd.func3.symm.trans hfn)).symm
      exact ⟨by kernel_rfl, fun j t ht => by
        rw [Tryd.params3] at ht
        have hm : t ∈ [24] := by simpa using Array.mem_of_getElem? ht
        have hall : ([24].all fun u => !Tryd.prog.wantsStandIn u) = true := by kernel_rfl
        exact (show Tryd.prog.wantsStandIn t = false by simpa using List.all_eq_true.1 hall t hm)⟩)
    (by kernel_rfl)
#print axioms checkL_card
end Go.Proofs.YtgfmnolghbiedaaDoor
