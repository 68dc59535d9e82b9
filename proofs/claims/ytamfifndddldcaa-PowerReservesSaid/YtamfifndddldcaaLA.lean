/-
  For every table made of numbers, craft, tick and powers, the law PowerReserves returns true, and its arguments read as before. No condition.
-/
import Derived.Test.YtamfifndddldcaaW13
import Derived.Test.YtamfifndddldcaaR4
namespace Go.Proofs.Ytamfifndddldcaa
open Go.ChangeShapes Go.WideShapes Go.ChangeAt Go.RowKit Go.Deep Go.Shelf

set_option maxHeartbeats 1000000 in
set_option maxRecDepth 10000 in
theorem rsv_walk (A0 : Option Addr) (c0 : Nat) (l : List Int) (a1 a2 a3 a4 : Int) (w : World) (h0 : Halfs w (.slice A0 l.length c0) l) (hm0 : l.length ≤ 9223372036854775807) (hx0 : ∀ n ∈ l, 0 ≤ n ∧ n ≤ 65535)
    (p1 : 0 ≤ a1) (q1 : a1 ≤ 255) (p2 : 0 ≤ a2) (q2 : a2 ≤ 65535) (p3 : 0 ≤ a3) (q3 : a3 ≤ 65535) (p4 : 0 ≤ a4) (q4 : a4 ≤ 65535) :
    Calls Try.prog 6 #[.slice A0 l.length c0, .int .u8 a1, .int .u16 a2, .int .u16 a3, .int .u16 a4] w fun e w' => e = .returned (.bool true) ∧ From w w' := by
  have HT := bx (table_calls A0 c0 l w h0 hm0 hx0)
  have htab := tableL_tab l (fun n hn => (hx0 n hn).1)
  have r1 : a1.tmod 3 = a1 % 3 := tmod_nn p1 3
  have r2 : a2.tmod 1101 = a2 % 1101 := tmod_nn p2 1101
  obtain ⟨c, hc⟩ : ∃ z, a1 % 3 = z := ⟨_, rfl⟩
  obtain ⟨k, hk⟩ : ∃ z, a2 % 1101 = z := ⟨_, rfl⟩
  rw [hc] at r1
  rw [hk] at r2
  have b1 : 0 ≤ c ∧ c ≤ 2 := by omega
  have b2 : 0 ≤ k ∧ k ≤ 1100 := by omega
  have HTab := bx htab
  clear h0 hm0 hx0 htab hc hk
  generalize tableL l = t at *
  obtain ⟨n1, hn1⟩ : ∃ z, needT t c k a3 a4 = z := ⟨_, rfl⟩
  obtain ⟨n2, hn2⟩ : ∃ z, needT t (-1) k a3 a4 = z := ⟨_, rfl⟩
  have HN1 := bx hn1
  have HN2 := bx hn2
  clear hn1 hn2
  go_enter Try.func6, Try.ntmps6
  go_wp2_with fail
  refine HT.out.mono ?_
  rintro e w1 ⟨A, cc, rfl, o1, k1⟩
  have HW := bx (wins_of_own o1)
  clear o1
  have g0 : From w1 w1 := From.refl _
  go_wp2_with fail
  refine (need_calls A cc t c k a3 a4 w1 HW.out HTab.out (by omega) (by omega) (by omega) n1 HN1.out).mono ?_
  rintro e w2 ⟨rfl, g1⟩
  go_wp2_with fail
  refine (refReserve_calls A cc t c k a3 a4 w2 (HW.out.from g1) HTab.out.len (by omega) (by omega) (by omega) HTab.out.bd n1 HN1.out).mono ?_
  rintro e w3 ⟨rfl, rfl⟩
  go_wp2_with fail
  refine (need_calls A cc t (-1) k a3 a4 _ (HW.out.from g1) HTab.out (by omega) (by omega) (by omega) n2 HN2.out).mono ?_
  rintro e w4 ⟨rfl, g2⟩
  go_wp2_with fail
  refine (refReserve_calls A cc t (-1) k a3 a4 w4 (HW.out.from (g1.trans g2)) HTab.out.len (by omega) (by omega) (by omega) HTab.out.bd n2 HN2.out).mono ?_
  rintro e w5 ⟨rfl, rfl⟩
  go_wp2_with fail
  refine (lives_calls _).mono ?_
  rintro e w6 ⟨rfl, g3⟩
  go_wp2
  go_ret
  exact ⟨rfl, k1.trans ((g1.trans g2).trans g3)⟩
set_option maxRecDepth 100000 in
theorem rsv_lifted (os : Os) (started : os.Started) (H : Type) (enc : TypeId × Value → H) :
    ReturnsInHanded {} Try.checked os 6 .any (Rows.powerReservesSpec.pre6 enc Try.prog Try.f6 Rows.powerReservesRow.domain false) (Rows.powerReservesSpec.post enc Try.prog Try.f6 false true false false) := by
  refine returnsInHanded_of_change (C := Try.checked) own started (by kernel_rfl) Try.func6
    (ChangeSpec.witness6 (enc := enc) (C := Try.checked) false ⟨#[], #[.slice none 0 0, .int .u8 0, .int .u16 0, .int .u16 0, .int .u16 0], []⟩ 8 (by kernel_rfl) (by kernel_rfl) (by kernel_rfl) (by kernel_rfl)) ?_
  intro W base args ds gs before hval0 hW hcnd _
  have hval : ∀ (j : Nat) t v, Try.f6.params[j]? = some t → args[j]? = some v → Value.okWide Try.prog W .any base t v := hval0
  have hW' := hW
  obtain ⟨p, q, hA0, hV, rfl, hfz, hnd⟩ := hW
  have hA : DataW.TrodAll enc Try.prog W 0 (fun _ => true) true Try.f6.params.toList args.toList ds p := hA0
  rw [Try.params6] at hA hval
  obtain ⟨v0, vs0, d0, ds0, p0, q0, hargs, rfl, rfl, h0, r0⟩ := trodAll_cons hA
  obtain ⟨v1, vs1, d1, ds1, p1, q1, rfl, rfl, rfl, h1, r1⟩ := trodAll_cons r0
  obtain ⟨v2, vs2, d2, ds2, p2, q2, rfl, rfl, rfl, h2, r2⟩ := trodAll_cons r1
  obtain ⟨v3, vs3, d3, ds3, p3, q3, rfl, rfl, rfl, h3, r3⟩ := trodAll_cons r2
  obtain ⟨v4, vs4, d4, ds4, p4, q4, rfl, rfl, rfl, h4, r4⟩ := trodAll_cons r3
  obtain ⟨rfl, rfl, rfl⟩ := trodAll_nil r4
  obtain rfl : args = #[v0, v1, v2, v3, v4] := by cases args; simp_all
  obtain ⟨rfl, rfl⟩ := trodVars_none hV
  obtain ⟨A0, c0, l0, rfl, hB0, hm0, hx0⟩ := open_half (hval 0 44 v0 rfl rfl) h0
  obtain ⟨a1, rfl, _, _, w1⟩ := open_int Try.underlying5 (hval 1 5 v1 rfl rfl) h1
  simp only [Lit.wf, Bool.and_eq_true, decide_eq_true_eq] at w1
  obtain ⟨a2, rfl, _, _, w2⟩ := open_int Try.underlying38 (hval 2 38 v2 rfl rfl) h2
  simp only [Lit.wf, Bool.and_eq_true, decide_eq_true_eq] at w2
  obtain ⟨a3, rfl, _, _, w3⟩ := open_int Try.underlying38 (hval 3 38 v3 rfl rfl) h3
  simp only [Lit.wf, Bool.and_eq_true, decide_eq_true_eq] at w3
  obtain ⟨a4, rfl, _, _, w4⟩ := open_int Try.underlying38 (hval 4 38 v4 rfl rfl) h4
  simp only [Lit.wf, Bool.and_eq_true, decide_eq_true_eq] at w4
  refine (rsv_walk A0 c0 l0 a1 a2 a3 a4 W hB0 hm0 hx0 w1.1 w1.2 w2.1 w2.2 w3.1 w3.2 w4.1 w4.2).mono fun e W' ⟨he, hb⟩ => ?_
  subst he
  exact ⟨_, rfl, law_post Try.laid (by kernel_rfl) rfl rfl Try.underlying4 rfl hW' hb⟩
theorem rsv_facts : joinedFacts Try.prog 6 Try.f6 Rows.powerReservesSpec Rows.powerReservesRow = true := by
  unfold joinedFacts
  rw [fact_enter, fact_lift, fact_make, fact_keys, fact_heard, fact_maps, Try.laid]
  kernel_rfl
theorem rsv_holds : Rows.PowerReservesSaid :=
  OpenClaim.holds_of_wide 6 Try.f6 rfl rfl rfl rfl rfl rfl rfl ⟨rfl, rfl, rfl, rfl, rfl⟩ rfl rfl rfl rfl rfl (by kernel_rfl) Try.func6 rsv_facts
    (of_decide_eq_true (by kernel_rfl)) (by unfold Func.isWrapper; first | (rw [if_pos (by decide +kernel)]; kernel_rfl) | (rw [if_neg (by decide +kernel)]; exact ⟨rfl, rfl⟩))
    (fun os started H enc _ => rsv_lifted os started H enc)
#print axioms rsv_holds
end Go.Proofs.Ytamfifndddldcaa
