/-
  TelemetryPredict: for all valid bases, numbers and lists of priorities, Predict and Order agree with the specification.
-/
import Derived.Test.YtpdbdpmlppbnnaaS12
import Derived.Test.YtpdbdpmlppbnnaaU18
import Derived.Test.YtpdbdpmlppbnnaaU22
import Derived.Test.YtpdbdpmlppbnnaaR8
import Derived.Deep.CutRange
namespace Go.Proofs.Ytpdbdpmlppbnnaa
open Go.ChangeShapes Go.WideShapes Go.ChangeAt Go.RowKit Go.Shelf

set_option maxHeartbeats 4000000 in
set_option maxRecDepth 10000 in
theorem prd_walk (q0 : Int) (A0 : Option Addr) (c0 : Nat) (l0 : List Int) (a1 : Int) (A2 : Option Addr) (c2 : Nat) (l2 : List Int) (w : World)
    (hB0 : Ints w (.slice A0 l0.length c0) l0) (hm0 : l0.length ≤ 9223372036854775807) (_ : -9223372036854775808 ≤ q0 ∧ q0 ≤ 9223372036854775807) (_ : ∀ x ∈ l0, -9223372036854775808 ≤ x ∧ x ≤ 9223372036854775807)
    (w10 : -9223372036854775808 ≤ a1) (w11 : a1 ≤ 9223372036854775807)
    (hB2 : Ints w (.slice A2 l2.length c2) l2) (hm2 : l2.length ≤ 17592186044416) (_ : ∀ x ∈ l2, -9223372036854775808 ≤ x ∧ x ≤ 9223372036854775807) (_ : l2.length ≤ c2) :
    Calls Try.prog 3 #[.agg #[.int .i64 q0, .slice A0 l0.length c0], .int .i64 a1, .slice A2 l2.length c2] w fun e w' => e = .returned (.bool true) ∧ Below w.heap.size w w' := by
  obtain ⟨W, hW⟩ : ∃ W, w.alloc (.cells #[.int .i64 q0, .slice A0 l0.length c0] 24) = W := ⟨_, rfl⟩
  have k0 : From w W := by rw [← hW]; exact (From.refl _).alloc _
  have r0 : W.heap[w.heap.size]? = some (.cells #[.int .i64 q0, .slice A0 l0.length c0] 24 (0, 0)) := by rw [← hW]; exact heap_alloc_new _ _
  have hs : ∃ s : Bool, s = true ↔ BaseP q0 l0 := by
    by_cases hv : BaseP q0 l0
    · exact ⟨true, by simp [hv]⟩
    · exact ⟨false, by simp [hv]⟩
  obtain ⟨t, ht⟩ := hs
  have HBA := bx (fun (V : World) (k : From w V) => baseR_calls q0 (.slice A0 l0.length c0) l0 V (hB0.from k) hm0 t ht)
  have HLV := bx (fun (V : World) => lives_calls V)
  have HT := bx ht
  have HR0 := bx r0
  have HK0 := bx k0
  have HI := bx hB0
  have HO1 := bx (order_calls A2 c2 l2 W (hB2.from k0) hm2)
  have HO2 := bx (fun (V : World) (k : From w V) => rOrder_calls A2 c2 l2 V (hB2.from k) hm2)
  have HL0 := bx hm0
  clear ht r0 k0 hB0 hB2
  go_enter Try.func3, Try.ntmps3
  go_wp2_with fail
  try rw [hW]
  clear hW
  refine HO1.out.mono ?_
  rintro e w1 ⟨o, og, ol, AO, cO, rfl, oO, k1⟩
  have K1 := bx (HK0.out.trans k1)
  have J1 := bx k1
  have HR1 := bx (HO2.out w1 K1.out)
  have HOG := bx (And.intro og ol)
  have HOO := bx oO
  clear og ol oO k1
  go_wp2_with fail
  refine HR1.out.mono ?_
  rintro e w2 ⟨o', og', ol', AR, cR, rfl, oR, k2⟩
  have heq : o' = o := srt_unique og'.srt HOG.out.1.srt (og'.perm.trans (by rw [ol', ← HOG.out.2]; exact HOG.out.1.perm.symm))
  subst heq
  have HSI := bx (sameI_val (.slice AO (nl o').length cO) (.slice AR (nl o').length cR) (nl o') (nl o') w2 ((show Ints w1 _ _ from sl_of_own HOO.out).from k2) (sl_of_own oR) (by rw [nl_len, ol']; omega))
  simp only [decide_true] at HSI
  have K2 := bx (K1.out.trans k2)
  have J2 := bx (J1.out.trans k2)
  clear og' ol' oR k2
  go_wp2_with fail
  refine HSI.out.mono ?_
  rintro e w3 ⟨rfl, k3⟩
  have K3 := bx (K2.out.trans k3)
  have B3 := bx ((J2.out.trans k3).heap HR0.out)
  obtain ⟨q0', q1', f0, f1, hpl⟩ := box2 B3.out
  have HB4 := bx (HBA.out w3 K3.out)
  clear k3
  go_wp2_with fail
  refine HB4.out.mono ?_
  rintro e w4 ⟨rfl, k4⟩
  have K4 := bx (K3.out.trans k4)
  have B4 := bx (k4.heap B3.out)
  clear q0' q1' f0 f1 hpl k4
  obtain ⟨q0', q1', f0, f1, hpl⟩ := box2 B4.out
  have LIV : Bx (∀ V : World, From w V → Calls Try.prog 15 #[] V fun e w' => e = .returned (.bool true) ∧ From w w') := ⟨fun V k => (HLV.out V).mono fun e w' h => ⟨h.1, k.trans h.2⟩⟩
  cases t with
  | false =>
    go_wp2_with fail
    refine (LIV.out _ K4.out).mono ?_
    rintro e w5 ⟨rfl, k5⟩
    go_wp2
    go_ret
    exact ⟨rfl, k5⟩
  | true =>
    by_cases h1 : a1 < q0
    · have d1 : decide (a1 < q0) = true := decide_eq_true h1
      go_wp2_with fail
      refine (LIV.out _ K4.out).mono ?_
      rintro e w5 ⟨rfl, k5⟩
      go_wp2
      go_ret
      exact ⟨rfl, k5⟩
    · have d1 : decide (a1 < q0) = false := decide_eq_false h1
      have d1' : (a1 < q0) = False := by simp; omega
      by_cases h2 : a1 > 1000000
      · have d2 : decide (a1 > 1000000) = true := decide_eq_true h2
        go_wp2_with fail
        refine (LIV.out _ K4.out).mono ?_
        rintro e w5 ⟨rfl, k5⟩
        go_wp2
        go_ret
        exact ⟨rfl, k5⟩
      · have d2 : decide (a1 > 1000000) = false := decide_eq_false h2
        have d2' : (a1 > 1000000) = False := by simp; omega
        obtain ⟨⟨hf, hq0, hq1⟩, hl1, hl2⟩ := HT.out.1 rfl
        obtain ⟨z, hz⟩ : ∃ z, predP l0 q0 a1 = z := ⟨_, rfl⟩
        have hzl : z.length = l0.length := by rw [← hz, predP_len]
        have HP1 := bx (fun (V : World) (k : From w V) => predict_calls q0 a1 (.slice A0 l0.length c0) l0 V (HI.out.from k) (by omega) (by omega) hf ⟨hq0, by omega, by omega⟩ z hz)
        have HP2 := bx (fun (V : World) (k : From w V) => predR_calls q0 a1 (.slice A0 l0.length c0) l0 V (HI.out.from k) (by omega) hf ⟨hq0, by omega, by omega⟩ z hz)
        have HSZ := bx (fun (V : World) (A : Option Addr) (c : Nat) (B : Option Addr) (e : Nat) (h1 : Ints V (.slice A z.length c) z) (h2 : Ints V (.slice B z.length e) z) => (show Calls Try.prog 11 #[.slice A z.length c, .slice B z.length e] V fun e w' => e = .returned (.bool true) ∧ From V w' by
          have := sameI_val (.slice A z.length c) (.slice B z.length e) z z V h1 h2 (by omega)
          simpa only [decide_true] using this))
        clear hf hl1 hl2 hz hzl hq0 hq1
        go_upto_region 5 with fail
        go_region_with (first
          | (go_at_call 16; refine (HP1.out _ (K4.out.trans (From.refl w4).drew)).mono ?_; rintro e w5 ⟨AP, cP, rfl, oP, kP⟩; obtain ⟨q0', q1', f0, f1, hpl⟩ := box2 (kP.heap B4.out))
          | (go_at_call 17; refine (HP2.out w5 ((K4.out.trans (From.refl w4).drew).trans kP)).mono ?_; rintro e w6 ⟨AQ, cQ, rfl, oQ, kQ⟩)
          | (go_at_call 11; refine (HSZ.out w6 AP cP AQ cQ ((show Ints w5 _ _ from sl_of_own oP).from kQ) (sl_of_own oQ)).mono ?_; rintro e w7 ⟨rfl, kS⟩)
          | (go_at_call 15; refine (LIV.out w7 ((((K4.out.trans (From.refl w4).drew).trans kP).trans kQ).trans kS)).mono ?_; rintro e w8 ⟨rfl, kL⟩))
        all_goals
          go_wp2_with fail
          go_ret
          exact ⟨rfl, kL⟩
set_option maxRecDepth 100000 in
theorem prd_lifted (os : Os) (started : os.Started) (H : Type) (enc : TypeId × Value → H) :
    ReturnsInHanded {} Try.checked os 3 .any (Rows.telemetryPredictSpec.pre6 enc Try.prog Try.f3 Rows.telemetryPredictRow.domain false) (Rows.telemetryPredictSpec.post enc Try.prog Try.f3 false true false false) := by
  refine returnsInHanded_of_change_shaped (C := Try.checked) own started (by kernel_rfl) Try.func3
    (ChangeSpec.witness6 (enc := enc) (C := Try.checked) false ⟨#[], #[.agg #[.int .i64 0, .slice none 0 0], .int .i64 0, .slice none 0 0], []⟩ 8 (by kernel_rfl) (by kernel_rfl) (by kernel_rfl) (by kernel_rfl)) ?_
  intro W base args ds gs before hval0 hW hcnd hsz0 _ _
  have hval : ∀ (j : Nat) t v, Try.f3.params[j]? = some t → args[j]? = some v → Value.okWide Try.prog W .any base t v := hval0
  have hW' := hW
  obtain ⟨p, q, hA0, hV, rfl, hfz, hnd⟩ := hW
  have hA : DataW.TrodAll enc Try.prog W 0 (fun _ => true) true Try.f3.params.toList args.toList ds p := hA0
  have hsz : (DataW.weightsEach Try.prog (Try.f3.params.toList ++ Rows.telemetryPredictSpec.plain.varTypes Try.prog) (ds ++ gs)).all (· ≤ reachBytes) = true := hsz0
  rw [Try.params3] at hA hval hsz
  obtain ⟨v0, vs0, d0, ds0, p0, q0, hargs, rfl, rfl, h0, r0⟩ := trodAll_cons hA
  obtain ⟨v1, vs1, d1, ds1, p1, q1, rfl, rfl, rfl, h1, r1⟩ := trodAll_cons r0
  obtain ⟨v2, vs2, d2, ds2, p2, q2, rfl, rfl, rfl, h2, r2⟩ := trodAll_cons r1
  obtain ⟨rfl, rfl, rfl⟩ := trodAll_nil r2
  obtain rfl : args = #[v0, v1, v2] := by cases args; simp_all
  obtain ⟨rfl, rfl⟩ := trodVars_none hV
  obtain ⟨q0, A0, c0, l0, rfl, hB0, hm0, hq0, hx0⟩ := open_snap (hval 0 24 v0 rfl rfl) h0
  obtain ⟨a1, rfl, _, _, w1⟩ := open_int Try.underlying3 (hval 1 3 v1 rfl rfl) h1
  simp only [Lit.wf, Bool.and_eq_true, decide_eq_true_eq] at w1
  obtain ⟨A2, c2, l2, rfl, hB2, hm2, hx2, hc2⟩ := open_intscw (hval 2 22 v2 rfl rfl) h2 (sized_mem hsz (j := 2) rfl rfl)
  refine (prd_walk q0 A0 c0 l0 a1 A2 c2 l2 W hB0 hm0 hq0 hx0 w1.1 w1.2 hB2 hm2 hx2 hc2).mono fun e W' ⟨he, hb⟩ => ?_
  subst he
  exact ⟨_, rfl, law_post Try.laid (by kernel_rfl) rfl rfl Try.underlying4 rfl hW' hb⟩
theorem prd_facts : joinedFacts Try.prog 3 Try.f3 Rows.telemetryPredictSpec Rows.telemetryPredictRow = true := by
  unfold joinedFacts
  rw [fact_enter, fact_lift, fact_make, fact_keys, fact_heard, fact_maps, Try.laid]
  kernel_rfl
theorem prd_holds : Rows.TelemetryPredictSaid :=
  OpenClaim.holds_of_wide 3 Try.f3 rfl rfl rfl rfl rfl rfl rfl ⟨rfl, rfl, rfl, rfl, rfl⟩ rfl rfl rfl rfl rfl (by kernel_rfl) Try.func3 prd_facts
    (of_decide_eq_true (by kernel_rfl)) (by unfold Func.isWrapper; first | (rw [if_pos (by decide +kernel)]; kernel_rfl) | (rw [if_neg (by decide +kernel)]; exact ⟨rfl, rfl⟩))
    (fun os started H enc _ => prd_lifted os started H enc)
#print axioms prd_holds
end Go.Proofs.Ytpdbdpmlppbnnaa
