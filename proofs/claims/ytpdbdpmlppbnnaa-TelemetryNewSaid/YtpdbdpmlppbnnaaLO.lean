/-
  TelemetryNew: for all numbers of parameters NewSource and NewSink answer nil exactly if it is not from 1 to 32; the sink has the snapshot 0, whose values are 0, and no other one.
-/
import Derived.Test.YtpdbdpmlppbnnaaV5
import Derived.Test.YtpdbdpmlppbnnaaU18
import Derived.Test.YtpdbdpmlppbnnaaR2
namespace Go.Proofs.Ytpdbdpmlppbnnaa
open Go.ChangeShapes Go.WideShapes Go.ChangeAt Go.RowKit Go.Shelf

set_option maxHeartbeats 4000000 in
set_option maxRecDepth 10000 in
theorem new_walk (a0 a1 : Int) (w : World) (w00 : -9223372036854775808 ≤ a0) (w01 : a0 ≤ 9223372036854775807) (w10 : -9223372036854775808 ≤ a1) (w11 : a1 ≤ 9223372036854775807) :
    Calls Try.prog 7 #[.int .i64 a0, .int .i64 a1] w fun e w' => e = .returned (.bool true) ∧ Below w.heap.size w w' := by
  have HLV := bx (fun (V : World) => lives_calls V)
  by_cases hr : a0 < 1 ∨ 32 < a0
  · have H1 := bx (newSource_nil a0 w hr)
    have H2 := bx (newSink_nil a0 w hr)
    by_cases h1 : a0 < 1
    · have d1 : decide (a0 < 1) = true := decide_eq_true h1
      clear hr h1
      go_enter Try.func7, Try.ntmps7
      go_wp2_with fail
      refine H1.out.mono ?_
      rintro e w1 ⟨rfl, hw1⟩
      rw [hw1]
      clear hw1 w1
      go_wp2_with fail
      refine H2.out.mono ?_
      rintro e w1 ⟨rfl, hw1⟩
      rw [hw1]
      clear hw1 w1
      go_wp2_with fail
      refine (HLV.out w).mono ?_
      rintro e w1 ⟨rfl, k1⟩
      go_wp2
      go_ret
      exact ⟨rfl, k1⟩
    · have d1 : decide (a0 < 1) = false := decide_eq_false h1
      have d2 : decide (a0 > 32) = true := decide_eq_true (by omega)
      clear hr h1
      go_enter Try.func7, Try.ntmps7
      go_wp2_with fail
      refine H1.out.mono ?_
      rintro e w1 ⟨rfl, hw1⟩
      rw [hw1]
      clear hw1 w1
      go_wp2_with fail
      refine H2.out.mono ?_
      rintro e w1 ⟨rfl, hw1⟩
      rw [hw1]
      clear hw1 w1
      go_wp2_with fail
      refine (HLV.out w).mono ?_
      rintro e w1 ⟨rfl, k1⟩
      go_wp2
      go_ret
      exact ⟨rfl, k1⟩
  · obtain ⟨n, hn⟩ : ∃ n : Nat, a0 = n := ⟨a0.toNat, by omega⟩
    subst hn
    have hn2 : 1 ≤ n ∧ n ≤ 32 := by omega
    have d1 : decide ((n : Int) < 1) = false := decide_eq_false (by omega)
    have d2 : decide ((n : Int) > 32) = false := decide_eq_false (by omega)
    have H1 := bx (newSource_calls n w hn2)
    have H2 := bx (fun (V : World) => newSink_calls n V hn2)
    clear hr
    go_enter Try.func7, Try.ntmps7
    go_wp2_with fail
    refine H1.out.mono ?_
    rintro e w1 ⟨p1, rfl, k1, hs1⟩
    have HS1 := bx hs1
    clear hs1
    go_wp2_with fail
    refine (H2.out w1).mono ?_
    rintro e w2 ⟨p2, rfl, k2, hk2⟩
    have HS2 := bx (HS1.out.from k2)
    have HK2 := bx hk2
    have K2 := bx (k1.trans k2)
    clear hk2 k1 k2
    obtain ⟨H, hH⟩ : ∃ H, (fun q => if q = 0 then some (List.replicate n (0 : Int)) else none) = H := ⟨_, rfl⟩
    have hH0 : getP H 0 = (List.replicate n 0, true) := by rw [← hH]; rfl
    have hH1 : a1 ≠ 0 → getP H a1 = ([], false) := fun h => by
      rw [← hH, getP]
      split
      · rfl
      · rw [if_neg (by omega)]; rfl
    have HH0 := bx hH0
    have HH1 := bx hH1
    rw [hH] at HK2
    clear hH hH0 hH1
    go_wp2_with fail
    refine (get_calls _ p2 n 1 H 0 w2 HK2.out (by decide)).mono ?_
    rintro e w3 hg
    rw [HH0.out] at hg
    obtain ⟨A3, c3, rfl, o3, k3⟩ := hg
    have HO3 := bx o3
    have HK3 := bx (HK2.out.from k3)
    have HS3 := bx (HS2.out.from k3)
    have K3 := bx (K2.out.trans k3)
    clear o3 k3
    simp only [List.length_replicate] at HO3 ⊢
    go_wp2_with fail
    refine (get_calls _ p2 n 1 H a1 w3 HK3.out w11).mono ?_
    rintro e w4 hg
    obtain ⟨⟨l4, b4⟩, hl4⟩ : ∃ x, getP H a1 = x := ⟨_, rfl⟩
    rw [hl4] at hg HH1
    obtain ⟨A4, c4, rfl, _, k4⟩ := hg
    have HS4 := bx (HS3.out.from k4)
    have K4 := bx (K3.out.trans k4)
    have HO4 := bx (own_call HO3.out k4)
    have HPK := bx (srcPacket_calls _ p1 n [List.replicate n 0] 0 (.slice none 0 0) [] 100 w4 HS4.out (fun h => absurd rfl h) ([], 3) rfl)
    clear k4 hl4
    go_wp2_with fail
    refine HPK.out.mono ?_
    rintro e w5 ⟨A5, c5, rfl, _, k5⟩
    have HS5 := bx (HS4.out.from k5)
    have K5 := bx (K4.out.trans k5)
    have HO5 := bx (own_call HO4.out k5)
    obtain ⟨W6, hmk, o6, k6⟩ := make_ints w5 n (by omega)
    have HSI := bx (sameI_val (.slice A3 n c3) (.slice (some ⟨w5.heap.size, 0, none⟩) n n) (List.replicate n 0) (List.replicate n 0) W6 (by have := sl_of_own (own_call HO5.out k6); show Sl _ _ _ (List.replicate n (0 : Int)).length _; simpa using this) (by have := sl_of_own o6; show Sl _ _ _ (List.replicate n (0 : Int)).length _; simpa using this) (by simp; omega))
    simp only [decide_true] at HSI
    have HS6 := bx (HS5.out.from k6)
    have K6 := bx (K5.out.trans k6)
    have HAK := bx (fun (V : World) (k : From W6 V) => ack_calls _ p1 n [List.replicate n 0] 0 a1 V (HS6.out.from k) ⟨w10, w11⟩ 3 0 (by rw [ackP, if_neg (by omega), if_neg (by simp; omega)]))
    have hlow : ∀ k, NewS w w1 k → w.heap.size ≤ k := fun k h => h.1
    clear o6 k6 k5 w00 w01 w10 w11 hn2
    by_cases hz : a1 = 0
    · have d3 : (a1 != 0) = false := by simp [hz]
      clear hz
      go_wp2_with fail
      clear hmk
      refine HSI.out.mono ?_
      rintro e w7 ⟨rfl, k7⟩
      go_wp2_with fail
      refine (HAK.out w7 k7).mono ?_
      rintro e w8 ⟨rfl, off8, _⟩
      go_wp2_with fail
      refine (HLV.out w8).mono ?_
      rintro e w9 ⟨rfl, k9⟩
      go_wp2
      go_ret
      exact ⟨rfl, (From.off (K6.out.trans k7) off8 hlow).trans k9⟩
    · have d3 : (a1 != 0) = true := by simpa using hz
      obtain ⟨rfl, rfl⟩ := Prod.mk.inj (HH1.out hz)
      clear hz
      go_wp2_with fail
      clear hmk
      refine HSI.out.mono ?_
      rintro e w7 ⟨rfl, k7⟩
      go_wp2_with fail
      refine (HAK.out w7 k7).mono ?_
      rintro e w8 ⟨rfl, off8, _⟩
      go_wp2_with fail
      refine (HLV.out w8).mono ?_
      rintro e w9 ⟨rfl, k9⟩
      go_wp2
      go_ret
      exact ⟨rfl, (From.off (K6.out.trans k7) off8 hlow).trans k9⟩
set_option maxRecDepth 100000 in
theorem new_lifted (os : Os) (started : os.Started) (H : Type) (enc : TypeId × Value → H) :
    ReturnsInHanded {} Try.checked os 7 .any (Rows.telemetryNewSpec.pre6 enc Try.prog Try.f7 Rows.telemetryNewRow.domain false) (Rows.telemetryNewSpec.post enc Try.prog Try.f7 false true false false) := by
  refine returnsInHanded_of_change (C := Try.checked) own started (by kernel_rfl) Try.func7
    (ChangeSpec.witness6 (enc := enc) (C := Try.checked) false ⟨#[], #[.int .i64 0, .int .i64 0], []⟩ 8 (by kernel_rfl) (by kernel_rfl) (by kernel_rfl) (by kernel_rfl)) ?_
  intro W base args ds gs before hval0 hW hcnd _
  have hval : ∀ (j : Nat) t v, Try.f7.params[j]? = some t → args[j]? = some v → Value.okWide Try.prog W .any base t v := hval0
  have hW' := hW
  obtain ⟨p, q, hA0, hV, rfl, hfz, hnd⟩ := hW
  have hA : DataW.TrodAll enc Try.prog W 0 (fun _ => true) true Try.f7.params.toList args.toList ds p := hA0
  rw [Try.params7] at hA hval
  obtain ⟨v0, vs0, d0, ds0, p0, q0, hargs, rfl, rfl, h0, r0⟩ := trodAll_cons hA
  obtain ⟨v1, vs1, d1, ds1, p1, q1, rfl, rfl, rfl, h1, r1⟩ := trodAll_cons r0
  obtain ⟨rfl, rfl, rfl⟩ := trodAll_nil r1
  obtain rfl : args = #[v0, v1] := by cases args; simp_all
  obtain ⟨rfl, rfl⟩ := trodVars_none hV
  obtain ⟨a0, rfl, _, _, w0⟩ := open_int Try.underlying3 (hval 0 3 v0 rfl rfl) h0
  simp only [Lit.wf, Bool.and_eq_true, decide_eq_true_eq] at w0
  obtain ⟨a1, rfl, _, _, w1⟩ := open_int Try.underlying3 (hval 1 3 v1 rfl rfl) h1
  simp only [Lit.wf, Bool.and_eq_true, decide_eq_true_eq] at w1
  refine (new_walk a0 a1 W w0.1 w0.2 w1.1 w1.2).mono fun e W' ⟨he, hb⟩ => ?_
  subst he
  exact ⟨_, rfl, law_post Try.laid (by kernel_rfl) rfl rfl Try.underlying4 rfl hW' hb⟩
theorem new_facts : joinedFacts Try.prog 7 Try.f7 Rows.telemetryNewSpec Rows.telemetryNewRow = true := by
  unfold joinedFacts
  rw [fact_enter, fact_lift, fact_make, fact_keys, fact_heard, fact_maps, Try.laid]
  kernel_rfl
theorem new_holds : Rows.TelemetryNewSaid :=
  OpenClaim.holds_of_wide 7 Try.f7 rfl rfl rfl rfl rfl rfl rfl ⟨rfl, rfl, rfl, rfl, rfl⟩ rfl rfl rfl rfl rfl (by kernel_rfl) Try.func7 new_facts
    (of_decide_eq_true (by kernel_rfl)) (by unfold Func.isWrapper; first | (rw [if_pos (by decide +kernel)]; kernel_rfl) | (rw [if_neg (by decide +kernel)]; exact ⟨rfl, rfl⟩))
    (fun os started H enc _ => new_lifted os started H enc)
#print axioms new_holds
end Go.Proofs.Ytpdbdpmlppbnnaa
