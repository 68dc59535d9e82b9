/-
  For every battery and every list of loads, the law PowerChecks returns true, and its arguments read as before. No condition.
-/
import Derived.Test.YtamfifndddldcaaW19
import Derived.Test.YtamfifndddldcaaR4
namespace Go.Proofs.Ytamfifndddldcaa
open Go.ChangeShapes Go.WideShapes Go.ChangeAt Go.RowKit Go.Deep Go.Shelf

theorem chkF_ok (M : Int) (hM : M ≤ 2147483647) : ∀ (l sn : List Lo), Ids (sn ++ l) → (∀ x ∈ l, 0 ≤ x.pw ∧ x.pw ≤ M) → chkF sn l = 0 := by
  intro l
  induction l with
  | nil => intro sn _ _; rfl
  | cons x l ih =>
    intro sn hi hp
    have hx := hp x List.mem_cons_self
    unfold chkF
    rw [if_neg (by omega), if_neg, ih]
    · rwa [List.append_assoc]
    · exact fun y hy => hp y (List.mem_cons_of_mem _ hy)
    · intro hh
      obtain ⟨y, hy, he⟩ := List.any_eq_true.1 hh
      have he : y.id = x.id := of_decide_eq_true he
      unfold Ids at hi
      rw [List.map_append, List.nodup_append] at hi
      exact hi.2.2 y.id (List.mem_map_of_mem hy) x.id (by simp) he
theorem chkP_made (l : List Lo) : chkP 0 0 0 (madeL l) = 0 := by
  unfold chkP
  have h := madeL_ok l
  have hl := madeL_len l
  rw [if_neg (by unfold badB; omega), if_neg (by omega)]
  exact chkF_ok 1000 (by omega) _ [] (by simpa using h.ids) h.pw
set_option maxHeartbeats 4000000 in
set_option maxRecDepth 10000 in
theorem chk_walk (C ch re : Int) (A0 : Option Addr) (c0 : Nat) (l : List Lo) (w : World) (_ : I64 C) (_ : I64 ch) (_ : I64 re) (h0 : Loads w (.slice A0 l.length c0) l) (hm : l.length ≤ 9223372036854775807) (hcap : l.length ≤ c0) (_ : ∀ x ∈ l, I64 x.id ∧ I64 x.pw ∧ I64 x.pr) :
    Calls Try.prog 3 #[.agg (bcs C ch re), .slice A0 l.length c0] w fun e w' => e = .returned (.bool true) ∧ From w w' := by
  obtain ⟨W1, hW1⟩ : ∃ V, w.alloc (.cells (bcs C ch re) 23) = V := ⟨_, rfl⟩
  have k1 : From w W1 := by rw [← hW1]; exact (From.refl _).alloc _
  have hb1 : BatC W1 w.heap.size C ch re := ⟨by rw [← hW1]; exact heap_alloc_new _ _⟩
  have H := bx (h0.from k1)
  have HK := bx k1
  have HB := bx hb1
  clear h0 k1 hb1
  go_enter Try.func3, Try.ntmps3
  by_cases h100 : 100 < l.length
  · have d1 : decide ((100 : Int) < (l.length : Int)) = true := decide_eq_true (by omega)
    go_wp2_with fail
    refine (lives_calls _).mono ?_
    rintro e w2 ⟨rfl, f2⟩
    go_wp2
    go_ret
    exact ⟨rfl, HK.out.trans f2⟩
  have d1 : decide ((100 : Int) < (l.length : Int)) = false := decide_eq_false (by omega)
  go_wp2_with fail
  refine (madeL_calls A0 c0 l W1 H.out hm).mono ?_
  rintro e w2 ⟨A2, c2, rfl, o2, k2⟩
  obtain ⟨x, hx⟩ : ∃ x, chkP C ch re l = x := ⟨_, rfl⟩
  have hml := madeL_len l
  have hcm := chkP_made l
  have hok := madeL_ok l
  obtain ⟨n, hn⟩ : ∃ n, essL (madeL l) = n := ⟨_, rfl⟩
  obtain ⟨m, hm2⟩ : ∃ m, madeL l = m := ⟨_, rfl⟩
  rw [hm2] at o2 hml hcm hok hn ⊢
  have hL2 := loads_of_own o2
  have hc2 := own_cap o2
  have hpw : ∀ x ∈ m, 0 ≤ x.pw ∧ x.pw ≤ 4000000000 := fun x hx => by have := hok.pw x hx; omega
  have HC1 := bx (fun (W : World) (k : From w2 W) => (show Calls Try.prog 14 #[.agg #[.int .i64 C, .int .i64 ch, .int .i64 re], .slice A0 l.length c0] W fun e w' => e = .returned (.int .i64 x) ∧ From W w' from check_calls C ch re A0 c0 l W (H.out.from (k2.trans k)) hm hcap x hx))
  have HC2 := bx (fun (W : World) (k : From w2 W) => (show Calls Try.prog 15 #[.agg #[.int .i64 C, .int .i64 ch, .int .i64 re], .slice A0 l.length c0] W fun e w' => e = .returned (.int .i64 x) ∧ From W w' from refCheck_calls C ch re A0 c0 l W (H.out.from (k2.trans k)) hm x hx))
  have HC3 := bx (fun (W : World) (k : From w2 W) => (show Calls Try.prog 14 #[.agg #[.int .i64 0, .int .i64 0, .int .i64 0], .slice A2 m.length c2] W fun e w' => e = .returned (.int .i64 0) ∧ From W w' from check_calls 0 0 0 A2 c2 m W (hL2.from k) (by omega) hc2 0 hcm))
  have HE1 := bx (fun (W : World) (k : From w2 W) => essential_calls A2 c2 m W (hL2.from k) (by omega) hpw n hn)
  have HE2 := bx (fun (W : World) (k : From w2 W) => (refEssential_calls A2 c2 m W (hL2.from k) (by omega) hpw n hn).mono (R' := fun e w' => e = .returned (.int .i64 n) ∧ From W w') (fun e w' h => ⟨h.1, by rw [h.2]; exact From.refl _⟩))
  obtain ⟨a0, a1, a2, _, _, _⟩ := (HB.out.from k2).facts
  have HKK := bx (fun (W : World) (kk : From w2 W) => (show From w2 W ∧ W.cell? ⟨w.heap.size, 0, none⟩ = some (.int .i64 C) ∧ W.cell? ⟨w.heap.size, 1, none⟩ = some (.int .i64 ch) ∧ W.cell? ⟨w.heap.size, 2, none⟩ = some (.int .i64 re) from ⟨kk, kk.cell a0, kk.cell a1, kk.cell a2⟩))
  have hFF : From w2 w2 := From.refl _
  have HF := bx (HK.out.trans k2)
  clear hx hcm hn o2 hL2 hok hpw hm2 k2 hcap hm
  go_wp2_with fail
  go_region_held3 (fun W => From w2 W ∧ W.cell? ⟨w.heap.size, 0, none⟩ = some (.int .i64 C) ∧ W.cell? ⟨w.heap.size, 1, none⟩ = some (.int .i64 ch) ∧ W.cell? ⟨w.heap.size, 2, none⟩ = some (.int .i64 re))
    (first | (go_split_ands; with_reducible refine HKK.out _ ?_; repeat' (first | with_reducible assumption | with_reducible exact Nat.le_refl _ | with_reducible refine From.drew ?_ | with_reducible refine From.alloc ?_ _)))
    (first
     | (go_at_call 14; (with_reducible refine (HC1.out _ (show From w2 _ by go_split_ands; assumption)).mono ?_); rintro e w9 ⟨rfl, k9⟩; have hkeep := From.trans (show From w2 _ by go_split_ands; assumption) k9)
     | (go_at_call 14; (with_reducible refine (HC3.out _ (show From w2 _ by go_split_ands; assumption)).mono ?_); rintro e w9 ⟨rfl, k9⟩; have hkeep := From.trans (show From w2 _ by go_split_ands; assumption) k9)
     | (go_at_call 15; (with_reducible refine (HC2.out _ (show From w2 _ by go_split_ands; assumption)).mono ?_); rintro e w9 ⟨rfl, k9⟩; have hkeep := From.trans (show From w2 _ by go_split_ands; assumption) k9)
     | (go_at_call 16; (with_reducible refine (HE1.out _ (show From w2 _ by go_split_ands; assumption)).mono ?_); rintro e w9 ⟨rfl, k9⟩; have hkeep := From.trans (show From w2 _ by go_split_ands; assumption) k9)
     | (go_at_call 17; (with_reducible refine (HE2.out _ (show From w2 _ by go_split_ands; assumption)).mono ?_); rintro e w9 ⟨rfl, k9⟩; have hkeep := From.trans (show From w2 _ by go_split_ands; assumption) k9)
     | (go_at_call 12; (with_reducible refine (lives_calls _).mono ?_); rintro e w9 ⟨rfl, k9⟩; have hkeep := From.trans (show From w2 _ by go_split_ands; assumption) k9))
  all_goals
    go_wp2
    go_ret
    exact ⟨rfl, HF.out.trans (by first | exact hkeep | exact hkeep.drew)⟩
set_option maxRecDepth 100000 in
theorem chk_lifted (os : Os) (started : os.Started) (H : Type) (enc : TypeId × Value → H) :
    ReturnsInHanded {} Try.checked os 3 .any (Rows.powerChecksSpec.pre6 enc Try.prog Try.f3 Rows.powerChecksRow.domain false) (Rows.powerChecksSpec.post enc Try.prog Try.f3 false true false false) := by
  refine returnsInHanded_of_change (C := Try.checked) own started (by kernel_rfl) Try.func3
    (ChangeSpec.witness6 (enc := enc) (C := Try.checked) false ⟨#[], #[.agg #[.int .i64 0, .int .i64 0, .int .i64 0], .slice none 0 0], []⟩ 8 (by kernel_rfl) (by kernel_rfl) (by kernel_rfl) (by kernel_rfl)) ?_
  intro W base args ds gs before hval0 hW hcnd _
  have hval : ∀ (j : Nat) t v, Try.f3.params[j]? = some t → args[j]? = some v → Value.okWide Try.prog W .any base t v := hval0
  have hW' := hW
  obtain ⟨p, q, hA0, hV, rfl, hfz, hnd⟩ := hW
  have hA : DataW.TrodAll enc Try.prog W 0 (fun _ => true) true Try.f3.params.toList args.toList ds p := hA0
  rw [Try.params3] at hA hval
  obtain ⟨v0, vs0, d0, ds0, p0, q0, hargs, rfl, rfl, h0, r0⟩ := trodAll_cons hA
  obtain ⟨v1, vs1, d1, ds1, p1, q1, rfl, rfl, rfl, h1, r1⟩ := trodAll_cons r0
  obtain ⟨rfl, rfl, rfl⟩ := trodAll_nil r1
  obtain rfl : args = #[v0, v1] := by cases args; simp_all
  obtain ⟨rfl, rfl⟩ := trodVars_none hV
  obtain ⟨C0, ch0, re0, rfl, hC0, hch0, hre0⟩ := open_bat (hval 0 23 v0 rfl rfl) h0
  obtain ⟨A1, c1, l1, rfl, hB1, hm1, hcap1, hx1⟩ := open_loads (hval 1 24 v1 rfl rfl) h1
  refine (chk_walk C0 ch0 re0 A1 c1 l1 W hC0 hch0 hre0 hB1 hm1 hcap1 hx1).mono fun e W' ⟨he, hb⟩ => ?_
  subst he
  exact ⟨_, rfl, law_post Try.laid (by kernel_rfl) rfl rfl Try.underlying4 rfl hW' hb⟩
theorem chk_facts : joinedFacts Try.prog 3 Try.f3 Rows.powerChecksSpec Rows.powerChecksRow = true := by
  unfold joinedFacts
  rw [fact_enter, fact_lift, fact_make, fact_keys, fact_heard, fact_maps, Try.laid]
  kernel_rfl
theorem chk_holds : Rows.PowerChecksSaid :=
  OpenClaim.holds_of_wide 3 Try.f3 rfl rfl rfl rfl rfl rfl rfl ⟨rfl, rfl, rfl, rfl, rfl⟩ rfl rfl rfl rfl rfl (by kernel_rfl) Try.func3 chk_facts
    (of_decide_eq_true (by kernel_rfl)) (by unfold Func.isWrapper; first | (rw [if_pos (by decide +kernel)]; kernel_rfl) | (rw [if_neg (by decide +kernel)]; exact ⟨rfl, rfl⟩))
    (fun os started H enc _ => chk_lifted os started H enc)
#print axioms chk_holds
end Go.Proofs.Ytamfifndddldcaa
