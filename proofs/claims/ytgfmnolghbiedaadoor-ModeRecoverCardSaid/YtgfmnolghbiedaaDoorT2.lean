/-
  For all modes, the law ModeRecover returns true, and its arguments read as before; the package's table 'permitted' reads as the program's text lays it. No further condition.
-/
import Derived.Test.YtgfmnolghbiedaaDoorQ2
import Derived.Test.YtgfmnolghbiedaaDoorP3
namespace Go.Proofs.YtgfmnolghbiedaaDoor
open Go.ChangeShapes Go.WideShapes Go.ChangeAt Go.RowKit Go.Deep

set_option maxRecDepth 100000 in
set_option maxHeartbeats 4000000 in
theorem recoverL_walk (lev bud : Int) (A : Option Addr) (c : Nat) (us : UL) (healthy : Bool) (w : World) (hpm : PM w)
    (h : US w w.heap.size (.slice A us.length c) us) (hm : us.length ≤ 8796093022208) (hl : -9223372036854775808 ≤ lev ∧ lev ≤ 9223372036854775807) (_ : -9223372036854775808 ≤ bud ∧ bud ≤ 9223372036854775807) :
    Calls Tryd.prog 10 #[.agg #[.int .i64 lev, .int .i64 bud, .slice A us.length c], .bool healthy] w fun e w' => e = .returned (.bool true) ∧ Below w.heap.size w w' := by
  obtain ⟨W0, hW0⟩ : ∃ W0, w.alloc (.cells #[.int .i64 lev, .int .i64 bud, .slice A us.length c] 24) = W0 := ⟨_, rfl⟩
  have hF0 : From w W0 := by rw [← hW0]; exact From.alloc (Below.refl _ _) _
  have HM := bx (show MCell W0 w.heap.size lev bud A us.length c by rw [← hW0]; exact mcell_new w lev bud A us.length c)
  have HU := bx (h.from hF0)
  have HP := bx (hpm.from hF0)
  obtain ⟨q0, q1, q2⟩ := HM.out.facts
  by_cases hh : healthy = true ∧ 0 < lev
  · obtain ⟨rfl, hlp⟩ := hh
    go_enter Tryd.func10, Tryd.ntmps10
    go_wp2_with fail
    refine (recover_calls lev bud true (.slice A us.length c) us W0 HU.out hm hl.1 hl.2).mono ?_
    rintro e w1 ⟨h1, _, k1⟩
    obtain ⟨A1, c1, rfl, o1⟩ := h1 ⟨rfl, hlp⟩
    have HU1 := bx (us_of_own o1)
    have HM1 := bx (HM.out.from k1)
    have HU0 := bx (HU.out.from k1)
    have HP1 := bx (HP.out.from k1)
    have hF1 := hF0.trans k1
    clear q0 q1 q2 h1 o1 k1
    obtain ⟨Z1, hZ1⟩ : ∃ V, w1.alloc (.cells #[.int .i64 (lev - 1), .int .i64 bud, .slice A1 us.length c1] 24) = V := ⟨_, rfl⟩
    have f1 : From w1 Z1 := by rw [← hZ1]; exact From.alloc (Below.refl _ _) _
    have N1 := bx (show MCell Z1 w1.heap.size (lev - 1) bud A1 us.length c1 by rw [← hZ1]; exact mcell_new w1 _ _ _ _ _)
    have HUa := bx (HU1.out.from f1)
    have HUb := bx (HU0.out.from f1)
    have HPb := bx (HP1.out.from f1)
    have hF2 := hF1.trans f1
    have s1 : Z1.heap.size = w1.heap.size + 1 := by rw [← hZ1]; simp
    obtain ⟨q0, q1, q2⟩ := (HM1.out.from f1).facts
    have HM2 := bx (HM1.out.from f1)
    go_wp2_with fail
    clear q0 q1 q2 hZ1
    refine (refRecover_calls lev bud true (.slice A us.length c) us Z1 HUb.out hm hl.1 hl.2).mono ?_
    rintro e w2 ⟨h1, _, k2⟩
    obtain ⟨A2, c2, rfl, o2⟩ := h1 ⟨rfl, hlp⟩
    have HU2 := bx (us_of_own o2)
    have HU3 := bx (HUa.out.from k2)
    have HP2 := bx (HPb.out.from k2)
    have HN2 := bx (N1.out.from k2)
    have hF3 := hF2.trans k2
    clear h1 o2 k2
    obtain ⟨Z2, hZ2⟩ : ∃ V, w2.alloc (.cells #[.int .i64 (lev - 1), .int .i64 bud, .slice A2 us.length c2] 24) = V := ⟨_, rfl⟩
    have f2 : From w2 Z2 := by rw [← hZ2]; exact From.alloc (Below.refl _ _) _
    have N2 := bx (show MCell Z2 w2.heap.size (lev - 1) bud A2 us.length c2 by rw [← hZ2]; exact mcell_new w2 _ _ _ _ _)
    obtain ⟨q0, q1, q2⟩ := (HN2.out.from f2).facts
    obtain ⟨r0, r1, r2⟩ := N2.out.facts
    go_wp2_with fail
    refine (same_callsM (lev - 1) bud (.slice A1 us.length c1) us (lev - 1) bud (.slice A2 us.length c2) us Z2 (HU3.out.from f2) (HU2.out.from f2) hm true (by simp)).mono ?_
    rintro e w3 ⟨rfl, k3⟩
    go_wp2_with fail
    refine (livesM_calls w3 ((HP2.out.from f2).from k3)).mono ?_
    rintro e w4 ⟨rfl, k4⟩
    go_wp2
    go_ret
    exact ⟨rfl, hF3.trans (f2.trans (From.trans k3 k4))⟩
  · go_enter Tryd.func10, Tryd.ntmps10
    go_wp2_with fail
    refine (recover_calls lev bud healthy (.slice A us.length c) us W0 HU.out hm hl.1 hl.2).mono ?_
    rintro e w1 ⟨_, h1, k1⟩
    obtain rfl := h1 hh
    have HM1 := bx (HM.out.from k1)
    have HU0 := bx (HU.out.from k1)
    have HP1 := bx (HP.out.from k1)
    have hF1 := hF0.trans k1
    clear q0 q1 q2 h1 k1
    have f1 : From w1 (w1.alloc (.cells #[.int .i64 0, .int .i64 0, .slice none 0 0] 24)) := From.alloc (Below.refl _ _) _
    have N1 := bx (mcell_new w1 0 0 none 0 0)
    have HUb := bx (HU0.out.from f1)
    have HPb := bx (HP1.out.from f1)
    have hF2 := hF1.trans f1
    obtain ⟨q0, q1, q2⟩ := (HM1.out.from f1).facts
    go_wp2_with fail
    generalize w1.alloc (.cells #[.int .i64 0, .int .i64 0, .slice none 0 0] 24) = Z1 at *
    clear q0 q1 q2
    refine (refRecover_calls lev bud healthy (.slice A us.length c) us Z1 HUb.out hm hl.1 hl.2).mono ?_
    rintro e w2 ⟨_, h1, k2⟩
    obtain rfl := h1 hh
    have HP2 := bx (HPb.out.from k2)
    have HN2 := bx (N1.out.from k2)
    have hF3 := hF2.trans k2
    clear h1 k2
    have f2 : From w2 (w2.alloc (.cells #[.int .i64 0, .int .i64 0, .slice none 0 0] 24)) := From.alloc (Below.refl _ _) _
    obtain ⟨r0, r1, r2⟩ := (mcell_new w2 0 0 none 0 0).facts
    obtain ⟨q0, q1, q2⟩ := (HN2.out.from f2).facts
    go_wp2_with fail
    generalize w2.alloc (.cells #[.int .i64 0, .int .i64 0, .slice none 0 0] 24) = Z2 at *
    refine (same_callsM 0 0 (.slice none 0 0) [] 0 0 (.slice none 0 0) [] Z2 ⟨.inl ⟨rfl, rfl⟩⟩ ⟨.inl ⟨rfl, rfl⟩⟩ (by decide) true (by simp)).mono ?_
    rintro e w3 ⟨rfl, k3⟩
    go_wp2_with fail
    refine (livesM_calls w3 ((HP2.out.from f2).from k3)).mono ?_
    rintro e w4 ⟨rfl, k4⟩
    go_wp2
    go_ret
    exact ⟨rfl, hF3.trans (f2.trans (From.trans k3 k4))⟩
set_option maxRecDepth 100000 in
theorem recoverL_lifted (os : Os) (started : os.Started) (H : Type) (enc : TypeId × Value → H) :
    ReturnsInHanded {} Tryd.checked os 10 .any (fun w args => (Rows.modeRecoverSpec.pre enc Tryd.prog Tryd.f10 [] false w args ∧ laidMetH Tryd.prog laidL w) ∧ sizedMet enc Tryd.prog Tryd.f10 (OpenSpec.ofChange Rows.modeRecoverSpec) false w args)
      (Rows.modeRecoverSpec.post enc Tryd.prog Tryd.f10 false true false false) := by
  refine returnsInHanded_of_change_and (C := Tryd.checked) (X := fun w _ => laidMetH Tryd.prog laidL w) (fun _ _ _ hh h => h.of_heap hh) own started (by kernel_rfl) Tryd.func10
    (ChangeSpec.witness_shaped (enc := enc) (C := Tryd.checked) (os := os) (X := fun w _ => laidMetH Tryd.prog laidL w) false (World.doorLaid Tryd.prog 400 os) #[.agg #[.int .i64 0, .int .i64 0, .slice none 0 0], .bool false] 8 rfl (World.shaped_of_RefB (by kernel_rfl) (by kernel_rfl)) (by kernel_rfl) (by kernel_rfl) (by kernel_rfl) (door_met os _)) ?_
  intro W base args ds gs before hval0 hW _ hsz0 hL _
  have hval : ∀ (j : Nat) t v, Tryd.f10.params[j]? = some t → args[j]? = some v → Value.okWide Tryd.prog W .any base t v := hval0
  have hW' := hW
  obtain ⟨p, q, hA0, hV, rfl, hfz, hnd⟩ := hW
  have hA : DataW.TrodAll enc Tryd.prog W 0 (fun _ => true) true Tryd.f10.params.toList args.toList ds p := hA0
  have hsz : (DataW.weightsEach Tryd.prog (Tryd.f10.params.toList ++ Rows.modeRecoverSpec.plain.varTypes Tryd.prog) (ds ++ gs)).all (· ≤ reachBytes) = true := hsz0
  rw [Tryd.params10] at hA hval hsz
  obtain ⟨v0, vs0, d0, ds0, p0, q0, hargs, rfl, rfl, h0, r0⟩ := trodAll_cons hA
  obtain ⟨v1, vs1, d1, ds1, p1, q1, rfl, rfl, rfl, h1, r1⟩ := trodAll_cons r0
  obtain ⟨rfl, rfl, rfl⟩ := trodAll_nil r1
  obtain rfl : args = #[v0, v1] := by cases args; simp_all
  obtain ⟨rfl, rfl⟩ := trodVars_none hV
  obtain ⟨lev0, bud0, A0, c0, us0, rfl, hB0, hm0, hl0, hb0⟩ := open_modew (hval 0 24 v0 rfl rfl) h0 (sized_mem hsz (j := 0) rfl rfl)
  obtain ⟨a1, rfl, _, _⟩ := open_bool Tryd.underlying4 (hval 1 4 v1 rfl rfl) h1
  have hpm := of_laid hL
  refine (recoverL_walk lev0 bud0 A0 c0 us0 a1 W hpm hB0 hm0 hl0 hb0).mono fun e W' ⟨he, hb⟩ => ?_
  subst he
  exact ⟨_, rfl, law_post Tryd.laid (by kernel_rfl) rfl rfl Tryd.underlying4 rfl hW' hb⟩
theorem recoverL_holds : Rows.ModeRecoverSaid :=
  OpenClaim.holds_of_wide 10 Tryd.f10 rfl rfl rfl rfl rfl rfl rfl ⟨rfl, rfl, rfl, rfl, rfl⟩ rfl rfl rfl rfl rfl (by kernel_rfl) Tryd.func10 (by kernel_rfl)
    (of_decide_eq_true (by kernel_rfl)) (by unfold Func.isWrapper; first | (rw [if_pos (by decide +kernel)]; kernel_rfl) | (rw [if_neg (by decide +kernel)]; exact ⟨rfl, rfl⟩))
    (fun os started H enc _ => recoverL_lifted os started H enc)
theorem recoverL_card : Rows.ModeRecoverCardSaid :=
  Claim7.holds_tied_plain_at .later [] [.data] true (true, "ccf4692eb785d681fff224e6627c9955642b593329d036456035bd106bbb8178") false
    recoverL_holds (fun _ h => by cases h) (by kernel_rfl) (fun _ h => by cases h) modeRecover_row_tie rfl ⟨rfl, rfl⟩ (by kernel_rfl) rfl
    (fun f fn hf hfn => by
      obtain rfl : f = 10 := Option.some.inj ((show Tryd.prog.funcNamed "perigee/perigeelaw31.ModeRecover" = some 10 by kernel_rfl).symm.trans hf) |>.symm
      obtain rfl : fn = Tryd.f10 := (Option.some.inj (Tryd.func10.symm.trans hfn)).symm
      exact ⟨by kernel_rfl, fun j t ht => by
        rw [Tryd.params10] at ht
        have hm : t ∈ [24, 4] := by simpa using Array.mem_of_getElem? ht
        have hall : ([24, 4].all fun u => !Tryd.prog.wantsStandIn u) = true := by kernel_rfl
        exact (show Tryd.prog.wantsStandIn t = false by simpa using List.all_eq_true.1 hall t hm)⟩)
    (by kernel_rfl)
#print axioms recoverL_card
end Go.Proofs.YtgfmnolghbiedaaDoor
