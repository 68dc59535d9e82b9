/-
  For every case, the law PowerLeastCharge returns true, and its arguments read as before. No condition.
-/
import Derived.Test.YtamfifndddldcaaW13
import Derived.Test.YtamfifndddldcaaM4
import Derived.Test.YtamfifndddldcaaR4
namespace Go.Proofs.Ytamfifndddldcaa
open Go.ChangeShapes Go.WideShapes Go.ChangeAt Go.RowKit Go.Deep Go.Shelf

set_option maxHeartbeats 2000000 in
set_option maxRecDepth 10000 in
theorem lst_walk (x : Cs) (A0 : Option Addr) (c0 : Nat) (l : List Int) (w : World) (h0 : Halfs w (.slice A0 l.length c0) l) (hm0 : l.length ≤ 9223372036854775807) (hx0 : ∀ n ∈ l, 0 ≤ n ∧ n ≤ 65535)
    (p1 : 0 ≤ x.cr ∧ x.cr ≤ 255) (p2 : 0 ≤ x.fr ∧ x.fr ≤ 65535) (p3 : 0 ≤ x.un ∧ x.un ≤ 65535) (p4 : 0 ≤ x.es ∧ x.es ≤ 65535) (p5 : 0 ≤ x.su ∧ x.su ≤ 65535) :
    Calls Try.prog 7 #[.agg (ccs x (.slice A0 l.length c0))] w fun e w' => e = .returned (.bool true) ∧ From w w' := by
  obtain ⟨W1, hW1⟩ : ∃ V, w.alloc (.cells (ccs x (.slice A0 l.length c0)) 50) = V := ⟨_, rfl⟩
  have f1 : From w W1 := by rw [← hW1]; exact (From.refl _).alloc _
  have z1 : W1.heap.size = w.heap.size + 1 := by rw [← hW1]; simp
  have g0 : W1.heap[w.heap.size]? = some (.cells (ccs x (.slice A0 l.length c0)) 50 (0, 0)) := by rw [← hW1]; exact heap_alloc_new _ _
  have HM := bx (made_calls x A0 c0 l W1 (h0.from f1) hm0 hx0 p1 p2 p3)
  have HTab := bx (tableL_tab l (fun n hn => (hx0 n hn).1))
  obtain ⟨C, ch, re, cr, fr, un, es, su⟩ := x
  simp only at p1 p2 p3 p4 p5 hW1 g0 HM
  obtain ⟨c, hc⟩ : ∃ z, cr % 3 = z := ⟨_, rfl⟩
  obtain ⟨k, hk⟩ : ∃ z, fr % 1101 = z := ⟨_, rfl⟩
  obtain ⟨u, hu⟩ : ∃ z, un % 1101 = z := ⟨_, rfl⟩
  have b1 : 0 ≤ c ∧ c ≤ 2 := by omega
  have b2 : 0 ≤ k ∧ k ≤ 1100 := by omega
  unfold MadePost at HM
  simp only [hc, hk, hu] at HM
  generalize tableL l = t at *
  have hend := endT_bd t HTab.out.bd
  obtain ⟨en, hen⟩ : ∃ z, endT t = z := ⟨_, rfl⟩
  rw [hen] at hend
  have HEN := bx hen
  obtain ⟨nd, hnd⟩ : ∃ z, needT t c k es su = z := ⟨_, rfl⟩
  have hnb := needT_bd2 t HTab.out c k es su b2.1 (by omega) p5.1
  have hne : en ≤ k → nd = 0 := fun h => by rw [← hnd]; exact needT_end t c k es su (by rw [hen]; exact h)
  obtain ⟨mo, hmo⟩ : ∃ z, mostT t c k es su = z := ⟨_, rfl⟩
  have hmb := mostT_bd2 t HTab.out c k es su b2.1 (by omega) p5.1
  rw [hnd] at hnb
  rw [hmo] at hmb
  have HND := bx hnd
  have HMO := bx hmo
  have HNE := bx hne
  obtain ⟨cp, hcp⟩ : ∃ z, max nd (mo + es) = z := ⟨_, rfl⟩
  have hE : survT t c k en es su cp nd = true := by rw [← hen]; exact least_enough t c k es su cp nd p4.1 (by rw [hnd]; exact Int.le_refl _) (by rw [hmo, ← hcp]; omega)
  have hS : nd ≠ 0 → survT t c k en es su cp (nd - 1) = false := fun h => by rw [← hen]; exact least_short t c k es su cp (nd - 1) (by rw [hnd]; omega) (by rw [hnd]; omega)
  have HE := bx hE
  have HS := bx hS
  have hcb : 0 ≤ cp ∧ nd ≤ cp ∧ cp ≤ 1000000000000 := by omega
  have o0 : W1.cell? ⟨w.heap.size, 0, none⟩ = some (.int .i64 C) := by rw [cell_of_row _ _ _ _ _ _ g0]; rfl
  have o1 : W1.cell? ⟨w.heap.size, 1, none⟩ = some (.int .i64 ch) := by rw [cell_of_row _ _ _ _ _ _ g0]; rfl
  have o2 : W1.cell? ⟨w.heap.size, 2, none⟩ = some (.int .i64 re) := by rw [cell_of_row _ _ _ _ _ _ g0]; rfl
  have o3 : W1.cell? ⟨w.heap.size, 3, none⟩ = some (.slice A0 l.length c0) := by rw [cell_of_row _ _ _ _ _ _ g0]; rfl
  have o4 : W1.cell? ⟨w.heap.size, 4, none⟩ = some (.int .u8 cr) := by rw [cell_of_row _ _ _ _ _ _ g0]; rfl
  have o5 : W1.cell? ⟨w.heap.size, 5, none⟩ = some (.int .u16 fr) := by rw [cell_of_row _ _ _ _ _ _ g0]; rfl
  have o6 : W1.cell? ⟨w.heap.size, 6, none⟩ = some (.int .u16 un) := by rw [cell_of_row _ _ _ _ _ _ g0]; rfl
  have o7 : W1.cell? ⟨w.heap.size, 7, none⟩ = some (.int .u16 es) := by rw [cell_of_row _ _ _ _ _ _ g0]; rfl
  have o8 : W1.cell? ⟨w.heap.size, 8, none⟩ = some (.int .u16 su) := by rw [cell_of_row _ _ _ _ _ _ g0]; rfl
  have G0 := bx g0
  have HF1 := bx f1
  clear h0 hm0 hx0 hc hk hu hen hnd hmo hne hE hS f1 g0 p1 p2 p3
  go_enter Try.func7, Try.ntmps7
  go_wp2_with fail
  refine HM.out.mono ?_
  rintro e w2 ⟨C', ch', re', A, cc, rfl, q1, q2, q3, hW, k2⟩
  have f2 : From w2 (w2.alloc (.cells (bcs C' ch' re') 23)) := (From.refl _).alloc _
  have e0 := (k2.trans f2).heap G0.out
  have a7 : (w2.alloc (.cells (bcs C' ch' re') 23)).cell? ⟨w.heap.size, 7, none⟩ = some (.int .u16 es) := by rw [cell_of_row _ _ _ _ _ _ e0]; rfl
  have a8 : (w2.alloc (.cells (bcs C' ch' re') 23)).cell? ⟨w.heap.size, 8, none⟩ = some (.int .u16 su) := by rw [cell_of_row _ _ _ _ _ _ e0]; rfl
  have HW := bx (hW.from f2)
  have HF2 := bx (HF1.out.trans (k2.trans f2))
  clear e0 hW k2 f2 o0 o1 o2 o3 o4 o5 o6 o7 o8
  obtain ⟨V, hV⟩ : ∃ V, w2.alloc (.cells (bcs C' ch' re') 23) = V := ⟨_, rfl⟩
  go_wp2_with fail
  rw [hV] at a7 a8 HW HF2
  clear hV
  have HE2 := bx (fun (W : World) (h : From V W) => refEnd_calls A cc t W (HW.out.from h) (by have := HTab.out.len; omega) en HEN.out)
  go_quiet (first | (go_at_call 27; refine Calls.quiet_of_same (HE2.out _ (From.drewN (From.refl _) _))))
  obtain ⟨V2, hV2⟩ : ∃ X, V.drewN nq = X := ⟨_, rfl⟩
  have F3 : From V V2 := by rw [← hV2]; exact From.drewN (From.refl _) _
  rw [hV2]
  have HW2 := bx (HW.out.from F3)
  have HF3 := bx (HF2.out.trans F3)
  clear hV2 F3 a7 a8 HE2
  have es1 := p4.1
  have es2 := p4.2
  have su1 := p5.1
  have su2 := p5.2
  go_wp2_with fail
  refine (need_calls A cc t c k es su V2 HW2.out HTab.out (by omega) (by omega) (by omega) nd HND.out).mono ?_
  rintro e w3 ⟨rfl, g3⟩
  by_cases hke : en ≤ k
  · have d1 : decide (en ≤ k) = true := decide_eq_true hke
    obtain rfl : nd = 0 := HNE.out hke
    go_wp2_with fail
    refine (lives_calls _).mono ?_
    rintro e w4 ⟨rfl, g4⟩
    go_wp2
    go_ret
    exact ⟨rfl, HF3.out.trans (g3.trans g4)⟩
  have d1 : decide (en ≤ k) = false := decide_eq_false hke
  go_wp2_with fail
  refine (greatest_calls A cc t c k es su w3 (HW2.out.from g3) HTab.out (by omega) (by omega) (by omega) mo HMO.out).mono ?_
  rintro e w4 ⟨rfl, g4⟩
  go_wp2_with fail
  refine (surv_calls cp nd 0 A cc t c k en es su w4 (HW2.out.from (g3.trans g4)) HTab.out (by omega) (by omega) (by omega) hend (by omega) (by omega) true HE.out).mono ?_
  rintro e w5 ⟨rfl, g5⟩
  by_cases hz : nd = 0
  · have d2 : (nd == 0) = true := by simp [hz]
    go_wp2_with fail
    refine (lives_calls _).mono ?_
    rintro e w6 ⟨rfl, g6⟩
    go_wp2
    go_ret
    exact ⟨rfl, HF3.out.trans (g3.trans (g4.trans (g5.trans g6)))⟩
  have d2 : (nd == 0) = false := by simpa using hz
  have HS2 := bx (HS.out hz)
  go_wp2_with fail
  refine (surv_calls cp (nd - 1) 0 A cc t c k en es su w5 (HW2.out.from (g3.trans (g4.trans g5))) HTab.out (by omega) (by omega) (by omega) hend (by omega) (by omega) false HS2.out).mono ?_
  rintro e w6 ⟨rfl, g6⟩
  go_wp2_with fail
  refine (lives_calls _).mono ?_
  rintro e w7 ⟨rfl, g7⟩
  go_wp2
  go_ret
  exact ⟨rfl, HF3.out.trans (g3.trans (g4.trans (g5.trans (g6.trans g7))))⟩
set_option maxRecDepth 100000 in
theorem lst_lifted (os : Os) (started : os.Started) (H : Type) (enc : TypeId × Value → H) :
    ReturnsInHanded {} Try.checked os 7 .any (Rows.powerLeastChargeSpec.pre6 enc Try.prog Try.f7 Rows.powerLeastChargeRow.domain false) (Rows.powerLeastChargeSpec.post enc Try.prog Try.f7 false true false false) := by
  refine returnsInHanded_of_change (C := Try.checked) own started (by kernel_rfl) Try.func7
    (ChangeSpec.witness6 (enc := enc) (C := Try.checked) false ⟨#[], #[.agg #[.int .i64 0, .int .i64 0, .int .i64 0, .slice none 0 0, .int .u8 0, .int .u16 0, .int .u16 0, .int .u16 0, .int .u16 0]], []⟩ 8 (by kernel_rfl) (by kernel_rfl) (by kernel_rfl) (by kernel_rfl)) ?_
  intro W base args ds gs before hval0 hW hcnd _
  have hval : ∀ (j : Nat) t v, Try.f7.params[j]? = some t → args[j]? = some v → Value.okWide Try.prog W .any base t v := hval0
  have hW' := hW
  obtain ⟨p, q, hA0, hV, rfl, hfz, hnd⟩ := hW
  have hA : DataW.TrodAll enc Try.prog W 0 (fun _ => true) true Try.f7.params.toList args.toList ds p := hA0
  rw [Try.params7] at hA hval
  obtain ⟨v0, vs0, d0, ds0, p0, q0, hargs, rfl, rfl, h0, r0⟩ := trodAll_cons hA
  obtain ⟨rfl, rfl, rfl⟩ := trodAll_nil r0
  obtain rfl : args = #[v0] := by cases args; simp_all
  obtain ⟨rfl, rfl⟩ := trodVars_none hV
  obtain ⟨x0, A0, c0, l0, rfl, hB0, hm0, hx0, k10, k20, k30, k40, k50⟩ := open_case (hval 0 50 v0 rfl rfl) h0
  refine (lst_walk x0 A0 c0 l0 W hB0 hm0 hx0 k10 k20 k30 k40 k50).mono fun e W' ⟨he, hb⟩ => ?_
  subst he
  exact ⟨_, rfl, law_post Try.laid (by kernel_rfl) rfl rfl Try.underlying4 rfl hW' hb⟩
theorem lst_facts : joinedFacts Try.prog 7 Try.f7 Rows.powerLeastChargeSpec Rows.powerLeastChargeRow = true := by
  unfold joinedFacts
  rw [fact_enter, fact_lift, fact_make, fact_keys, fact_heard, fact_maps, Try.laid]
  kernel_rfl
theorem lst_holds : Rows.PowerLeastChargeSaid :=
  OpenClaim.holds_of_wide 7 Try.f7 rfl rfl rfl rfl rfl rfl rfl ⟨rfl, rfl, rfl, rfl, rfl⟩ rfl rfl rfl rfl rfl (by kernel_rfl) Try.func7 lst_facts
    (of_decide_eq_true (by kernel_rfl)) (by unfold Func.isWrapper; first | (rw [if_pos (by decide +kernel)]; kernel_rfl) | (rw [if_neg (by decide +kernel)]; exact ⟨rfl, rfl⟩))
    (fun os started H enc _ => lst_lifted os started H enc)
#print axioms lst_holds
end Go.Proofs.Ytamfifndddldcaa
