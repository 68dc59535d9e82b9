/-
  For all valid modes that are made from numbers, the law ModeSafe returns true, and its arguments read as before; the package's table 'permitted' reads as the program's text lays it. No further condition.
-/
import Derived.Test.YtgfmnolghbiedaaDoorQ3
import Derived.Test.YtgfmnolghbiedaaDoorP3
namespace Go.Proofs.YtgfmnolghbiedaaDoor
open Go.ChangeShapes Go.WideShapes Go.ChangeAt Go.RowKit Go.Deep

set_option maxRecDepth 100000 in
set_option maxHeartbeats 4000000 in
theorem safeL_walk (lev bud units : Int) (A : Option Addr) (c : Nat) (l : List Int) (w : World) (hpm : PM w) (l0 : -9223372036854775808 ≤ lev) (l1 : lev ≤ 9223372036854775807) (b0 : -9223372036854775808 ≤ bud) (b1 : bud ≤ 9223372036854775807) (u0 : -9223372036854775808 ≤ units) (u1 : units ≤ 9223372036854775807)
    (h : Ints w w.heap.size A l) (hl : l.length ≤ 9223372036854775807) (hx : ∀ x ∈ l, -9223372036854775808 ≤ x ∧ x ≤ 9223372036854775807) :
    Calls Tryd.prog 9 #[.int .i64 lev, .int .i64 bud, .int .i64 units, .slice A l.length c] w fun e w' => e = .returned (.bool true) ∧ Below w.heap.size w w' := by
  have hlb := around_bd lev 3 (by decide)
  have hbb := around_bd bud 12 (by decide)
  have hub := around_bd units 17 (by decide)
  obtain ⟨lv, hlv⟩ : ∃ lv, around lev 3 = lv := ⟨_, rfl⟩
  obtain ⟨bd, hbd⟩ : ∃ bd, around bud 12 = bd := ⟨_, rfl⟩
  obtain ⟨N, hN⟩ : ∃ N : Nat, around units 17 = N := ⟨(around units 17).toNat, by omega⟩
  have HM := bx (make_calls lev bud units A c l w h hl hx l0 l1 b0 b1 u0 u1 lv bd N hlv hbd hN)
  rw [hlv] at hlb
  rw [hbd] at hbb
  rw [hN] at hub
  have hgood := makeU_good l N
  have hlen := makeU_len l N
  obtain ⟨us, hus⟩ : ∃ us, makeU l N = us := ⟨_, rfl⟩
  rw [hus] at HM hgood hlen
  have HCK := bx (check_good (lev := 2) (bud := bd) hgood (by decide) (by decide) (by omega) (by omega) (by omega))
  have hm : us.length ≤ 8796093022208 := by omega
  clear hlv hbd hN hus hx h hgood hlen hub
  go_enter Tryd.func9, Tryd.ntmps9
  go_wp2_with fail
  refine HM.out.mono ?_
  rintro e w1 ⟨A1, c1, rfl, o1, k1⟩
  have HU := bx (us_of_own o1)
  have HP := bx (hpm.from k1)
  have hF : From w w1 := k1
  clear o1 k1 hpm
  go_wp2_with fail
  obtain ⟨Z1, hZ1⟩ : ∃ V, w1.alloc (.cells #[.int .i64 lv, .int .i64 bd, .slice A1 us.length c1] 24) = V := ⟨_, rfl⟩
  have f1 : From w1 Z1 := by rw [← hZ1]; exact From.alloc (Below.refl _ _) _
  have N1 := bx (show MCell Z1 w1.heap.size lv bd A1 us.length c1 by rw [← hZ1]; exact mcell_new w1 _ _ _ _ _)
  rw [hZ1]
  replace HU := bx (HU.out.from f1)
  replace HP := bx (HP.out.from f1)
  replace hF := hF.trans f1
  clear hZ1 f1
  refine (safe_calls lv bd (.slice A1 us.length c1) us Z1 HU.out hm).mono ?_
  rintro e w2 ⟨A2, c2, rfl, o2, k2⟩
  have HU2 := bx (us_of_own o2)
  replace HU := bx (HU.out.from k2)
  replace HP := bx (HP.out.from k2)
  replace N1 := bx (N1.out.from k2)
  replace hF := hF.trans k2
  clear o2 k2
  obtain ⟨Z2, hZ2⟩ : ∃ V, w2.alloc (.cells #[.int .i64 2, .int .i64 bd, .slice A2 us.length c2] 24) = V := ⟨_, rfl⟩
  have f2 : From w2 Z2 := by rw [← hZ2]; exact From.alloc (Below.refl _ _) _
  have N2 := bx (show MCell Z2 w2.heap.size 2 bd A2 us.length c2 by rw [← hZ2]; exact mcell_new w2 _ _ _ _ _)
  go_wp2_with fail
  replace HU := bx (HU.out.from f2)
  replace HU2 := bx (HU2.out.from f2)
  replace HP := bx (HP.out.from f2)
  replace N1 := bx (N1.out.from f2)
  replace hF := hF.trans f2
  clear hZ2 f2
  have HS := bx (fun (W : World) (k : From Z2 W) => refSafe_calls lv bd (.slice A1 us.length c1) us W (HU.out.from k) hm)
  have HSM := bx (fun (W : World) (A3 : Option Addr) (c3 B : Nat) (k : From Z2 W) (o : W.ownsRow B 44 2 (.slice A3 us.length c3) us.length (uc us)) => same_callsM 2 bd (.slice A2 us.length c2) us 2 bd (.slice A3 us.length c3) us W (HU2.out.from k) (us_of_own o) hm true (by simp))
  have HC := bx (fun (W : World) (k : From Z2 W) => check_calls 2 bd (.slice A2 us.length c2) us W (HU2.out.from k) (by omega) 0 HCK.out)
  have HK := bx (fun (W : World) (k : From Z2 W) => (show From Z2 W ∧ (W.cell? ⟨w1.heap.size, 0, none⟩ = some (.int .i64 lv) ∧ W.cell? ⟨w1.heap.size, 1, none⟩ = some (.int .i64 bd) ∧ W.cell? ⟨w1.heap.size, 2, none⟩ = some (.slice A1 us.length c1)) ∧ W.cell? ⟨w2.heap.size, 0, none⟩ = some (.int .i64 2) ∧ W.cell? ⟨w2.heap.size, 1, none⟩ = some (.int .i64 bd) ∧ W.cell? ⟨w2.heap.size, 2, none⟩ = some (.slice A2 us.length c2) from ⟨k, (N1.out.from k).facts, (N2.out.from k).facts⟩))
  have hFF : From Z2 Z2 := Below.refl _ _
  obtain ⟨p0, p1, p2⟩ := N1.out.facts
  obtain ⟨q0, q1, q2⟩ := N2.out.facts
  go_region_held3 (fun W => From Z2 W ∧ (W.cell? ⟨w1.heap.size, 0, none⟩ = some (.int .i64 lv) ∧ W.cell? ⟨w1.heap.size, 1, none⟩ = some (.int .i64 bd) ∧ W.cell? ⟨w1.heap.size, 2, none⟩ = some (.slice A1 us.length c1)) ∧ W.cell? ⟨w2.heap.size, 0, none⟩ = some (.int .i64 2) ∧ W.cell? ⟨w2.heap.size, 1, none⟩ = some (.int .i64 bd) ∧ W.cell? ⟨w2.heap.size, 2, none⟩ = some (.slice A2 us.length c2))
    (first | exact HK.out _ (From.drew hFF) | (go_split_ands; exact HK.out _ (From.trans (by assumption) hx)))
    (first | (go_at_call 31; (with_reducible refine (HS.out _ (by go_split_ands; assumption)).mono ?_); rintro e w4 ⟨A3, c3, rfl, o3, hx⟩) | (go_at_call 14; (with_reducible refine (HSM.out _ A3 c3 _ (by go_split_ands; assumption) o3).mono ?_); rintro e w5 ⟨rfl, hx⟩) | (go_at_call 12; (with_reducible refine (HC.out _ (by go_split_ands; assumption)).mono ?_); rintro e w6 ⟨rfl, hx⟩))
  go_split_ands
  have kS : From Z2 w6 := by assumption
  replace HU2 := bx (HU2.out.from kS)
  replace HP := bx (HP.out.from kS)
  replace N2 := bx (N2.out.from kS)
  replace hF := hF.trans kS
  clear p0 p1 p2 q0 q1 q2 HS HSM HC HK hFF kS hx
  obtain ⟨q0, q1, q2⟩ := N2.out.facts
  go_wp2_with fail
  refine (recover_calls 2 bd false (.slice A2 us.length c2) us w6 HU2.out hm (by decide) (by decide)).mono ?_
  rintro e w7 ⟨_, h1, k7⟩
  obtain rfl := h1 (by simp)
  have fz : From w7 (w7.alloc (.cells #[.int .i64 0, .int .i64 0, .slice none 0 0] 24)) := From.alloc (Below.refl _ _) _
  have kz := From.trans k7 fz
  replace HU2 := bx (HU2.out.from kz)
  replace HP := bx (HP.out.from kz)
  replace N2 := bx (N2.out.from kz)
  replace hF := hF.trans kz
  clear h1 k7 fz kz q0 q1 q2
  obtain ⟨q0, q1, q2⟩ := N2.out.facts
  go_wp2_with fail
  generalize w7.alloc (.cells #[.int .i64 0, .int .i64 0, .slice none 0 0] 24) = Z3 at *
  refine (recover_calls 2 bd true (.slice A2 us.length c2) us Z3 HU2.out hm (by decide) (by decide)).mono ?_
  rintro e w8 ⟨h1, _, k8⟩
  obtain ⟨Aa, ca, he, oa⟩ := h1 ⟨rfl, by decide⟩
  obtain rfl : e = .returned (.tuple #[.agg #[.int .i64 1, .int .i64 bd, .slice Aa us.length ca], .int .i64 0]) := he
  have HUa := bx (us_of_own oa)
  replace HP := bx (HP.out.from k8)
  replace hF := hF.trans k8
  clear h1 k8 oa q0 q1 q2
  obtain ⟨Z4, hZ4⟩ : ∃ V, w8.alloc (.cells #[.int .i64 1, .int .i64 bd, .slice Aa us.length ca] 24) = V := ⟨_, rfl⟩
  have f4 : From w8 Z4 := by rw [← hZ4]; exact From.alloc (Below.refl _ _) _
  have N3 := bx (show MCell Z4 w8.heap.size 1 bd Aa us.length ca by rw [← hZ4]; exact mcell_new w8 _ _ _ _ _)
  obtain ⟨q0, q1, q2⟩ := N3.out.facts
  go_wp2_with fail
  replace HUa := bx (HUa.out.from f4)
  replace HP := bx (HP.out.from f4)
  replace hF := hF.trans f4
  clear hZ4 f4
  refine (recover_calls 1 bd true (.slice Aa us.length ca) us Z4 HUa.out hm (by decide) (by decide)).mono ?_
  rintro e w9 ⟨h1, _, k9⟩
  obtain ⟨Ab, cb, he, ob⟩ := h1 ⟨rfl, by decide⟩
  obtain rfl : e = .returned (.tuple #[.agg #[.int .i64 0, .int .i64 bd, .slice Ab us.length cb], .int .i64 0]) := he
  have HUb := bx (us_of_own ob)
  replace HP := bx (HP.out.from k9)
  replace N3 := bx (N3.out.from k9)
  replace hF := hF.trans k9
  clear h1 k9 ob q0 q1 q2
  obtain ⟨Z5, hZ5⟩ : ∃ V, w9.alloc (.cells #[.int .i64 0, .int .i64 bd, .slice Ab us.length cb] 24) = V := ⟨_, rfl⟩
  have f5 : From w9 Z5 := by rw [← hZ5]; exact From.alloc (Below.refl _ _) _
  have N4 := bx (show MCell Z5 w9.heap.size 0 bd Ab us.length cb by rw [← hZ5]; exact mcell_new w9 _ _ _ _ _)
  obtain ⟨q0, q1, q2⟩ := N4.out.facts
  go_wp2_with fail
  replace HUb := bx (HUb.out.from f5)
  replace HP := bx (HP.out.from f5)
  replace N3 := bx (N3.out.from f5)
  replace hF := hF.trans f5
  clear hZ5 f5
  refine (recover_calls 0 bd true (.slice Ab us.length cb) us Z5 HUb.out hm (by decide) (by decide)).mono ?_
  rintro e w10 ⟨_, h1, k10⟩
  obtain rfl := h1 (by simp)
  have fz : From w10 (w10.alloc (.cells #[.int .i64 0, .int .i64 0, .slice none 0 0] 24)) := From.alloc (Below.refl _ _) _
  have kz := From.trans k10 fz
  replace HP := bx (HP.out.from kz)
  replace N3 := bx (N3.out.from kz)
  replace N4 := bx (N4.out.from kz)
  replace hF := hF.trans kz
  clear h1 k10 fz kz q0 q1 q2
  obtain ⟨q0, q1, q2⟩ := N3.out.facts
  obtain ⟨p0, p1, p2⟩ := N4.out.facts
  go_wp2_with fail
  generalize w10.alloc (.cells #[.int .i64 0, .int .i64 0, .slice none 0 0] 24) = Z6 at *
  refine (livesM_calls Z6 HP.out).mono ?_
  rintro e w11 ⟨rfl, k11⟩
  go_wp2
  go_ret
  exact ⟨rfl, hF.trans k11⟩
set_option maxRecDepth 100000 in
theorem safeL_lifted (os : Os) (started : os.Started) (H : Type) (enc : TypeId × Value → H) :
    ReturnsInHanded {} Tryd.checked os 9 .any (fun w args => (Rows.modeSafeSpec.pre enc Tryd.prog Tryd.f9 [] false w args ∧ laidMetH Tryd.prog laidL w) ∧ sizedMet enc Tryd.prog Tryd.f9 (OpenSpec.ofChange Rows.modeSafeSpec) false w args)
      (Rows.modeSafeSpec.post enc Tryd.prog Tryd.f9 false true false false) := by
  refine returnsInHanded_of_change_and (C := Tryd.checked) (X := fun w _ => laidMetH Tryd.prog laidL w) (fun _ _ _ hh h => h.of_heap hh) own started (by kernel_rfl) Tryd.func9
    (ChangeSpec.witness_shaped (enc := enc) (C := Tryd.checked) (os := os) (X := fun w _ => laidMetH Tryd.prog laidL w) false (World.doorLaid Tryd.prog 400 os) #[.int .i64 0, .int .i64 0, .int .i64 0, .slice none 0 0] 8 rfl (World.shaped_of_RefB (by kernel_rfl) (by kernel_rfl)) (by kernel_rfl) (by kernel_rfl) (by kernel_rfl) (door_met os _)) ?_
  intro W base args ds gs before hval0 hW _ hsz0 hL _
  have hval : ∀ (j : Nat) t v, Tryd.f9.params[j]? = some t → args[j]? = some v → Value.okWide Tryd.prog W .any base t v := hval0
  have hW' := hW
  obtain ⟨p, q, hA0, hV, rfl, hfz, hnd⟩ := hW
  have hA : DataW.TrodAll enc Tryd.prog W 0 (fun _ => true) true Tryd.f9.params.toList args.toList ds p := hA0
  rw [Tryd.params9] at hA hval
  obtain ⟨v0, vs0, d0, ds0, p0, q0, hargs, rfl, rfl, h0, r0⟩ := trodAll_cons hA
  obtain ⟨v1, vs1, d1, ds1, p1, q1, rfl, rfl, rfl, h1, r1⟩ := trodAll_cons r0
  obtain ⟨v2, vs2, d2, ds2, p2, q2, rfl, rfl, rfl, h2, r2⟩ := trodAll_cons r1
  obtain ⟨v3, vs3, d3, ds3, p3, q3, rfl, rfl, rfl, h3, r3⟩ := trodAll_cons r2
  obtain ⟨rfl, rfl, rfl⟩ := trodAll_nil r3
  obtain rfl : args = #[v0, v1, v2, v3] := by cases args; simp_all
  obtain ⟨rfl, rfl⟩ := trodVars_none hV
  obtain ⟨a0, rfl, _, _, w0⟩ := open_int Tryd.underlying3 (hval 0 3 v0 rfl rfl) h0
  simp only [Lit.wf, Bool.and_eq_true, decide_eq_true_eq] at w0
  obtain ⟨a1, rfl, _, _, w1⟩ := open_int Tryd.underlying3 (hval 1 3 v1 rfl rfl) h1
  simp only [Lit.wf, Bool.and_eq_true, decide_eq_true_eq] at w1
  obtain ⟨a2, rfl, _, _, w2⟩ := open_int Tryd.underlying3 (hval 2 3 v2 rfl rfl) h2
  simp only [Lit.wf, Bool.and_eq_true, decide_eq_true_eq] at w2
  obtain ⟨A3, c3, l3, rfl, hB3, hm3, hx3⟩ := open_intsr (hval 3 32 v3 rfl rfl) h3
  have hpm := of_laid hL
  refine (safeL_walk a0 a1 a2 A3 c3 l3 W hpm w0.1 w0.2 w1.1 w1.2 w2.1 w2.2 hB3 hm3 hx3).mono fun e W' ⟨he, hb⟩ => ?_
  subst he
  exact ⟨_, rfl, law_post Tryd.laid (by kernel_rfl) rfl rfl Tryd.underlying4 rfl hW' hb⟩
theorem safeL_holds : Rows.ModeSafeSaid :=
  OpenClaim.holds_of_wide 9 Tryd.f9 rfl rfl rfl rfl rfl rfl rfl ⟨rfl, rfl, rfl, rfl, rfl⟩ rfl rfl rfl rfl rfl (by kernel_rfl) Tryd.func9 (by kernel_rfl)
    (of_decide_eq_true (by kernel_rfl)) (by unfold Func.isWrapper; first | (rw [if_pos (by decide +kernel)]; kernel_rfl) | (rw [if_neg (by decide +kernel)]; exact ⟨rfl, rfl⟩))
    (fun os started H enc _ => safeL_lifted os started H enc)
theorem safeL_card : Rows.ModeSafeCardSaid :=
  Claim7.holds_tied_plain_at .later [] [.data] true (true, "ccf4692eb785d681fff224e6627c9955642b593329d036456035bd106bbb8178") false
    safeL_holds (fun _ h => by cases h) (by kernel_rfl) (fun _ h => by cases h) modeSafe_row_tie rfl ⟨rfl, rfl⟩ (by kernel_rfl) rfl
    (fun f fn hf hfn => by
      obtain rfl : f = 9 := Option.some.inj ((show Tryd.prog.funcNamed "perigee/perigeelaw31.ModeSafe" = some 9 by kernel_rfl).symm.trans hf) |>.symm
      obtain rfl : fn = Tryd.f9 := (Option.some.inj (Tryd.func9.symm.trans hfn)).symm
      exact ⟨by kernel_rfl, fun j t ht => by
        rw [Tryd.params9] at ht
        have hm : t ∈ [3, 32] := by simpa using Array.mem_of_getElem? ht
        have hall : ([3, 32].all fun u => !Tryd.prog.wantsStandIn u) = true := by kernel_rfl
        exact (show Tryd.prog.wantsStandIn t = false by simpa using List.all_eq_true.1 hall t hm)⟩)
    (by kernel_rfl)
#print axioms safeL_card
end Go.Proofs.YtgfmnolghbiedaaDoor
