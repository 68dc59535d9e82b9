/-
  For every battery, gain and list of loads, the law PowerSteps returns true, and its arguments read as before. No condition.
-/
import Derived.Test.YtamfifndddldcaaW22
import Derived.Test.YtamfifndddldcaaR4
namespace Go.Proofs.Ytamfifndddldcaa
open Go.ChangeShapes Go.WideShapes Go.ChangeAt Go.RowKit Go.Deep Go.Shelf

theorem runL_sv (re : Int) : ∀ (l : List Lo) (s : SS), (runL re l s).sv.length ≤ s.sv.length + l.length := by
  intro l
  induction l with
  | nil => intro s; exact Nat.le_refl _
  | cons x l ih =>
    intro s
    rw [runL_cons, List.length_cons]
    have h1 := ih (stepL re s x)
    have h2 : (stepL re s x).sv.length ≤ s.sv.length + 1 := by
      unfold stepL
      generalize (if x.es = true then (0 : Int) else re) = L
      split
      · exact Nat.le_succ _
      · show (s.sv ++ [x.id]).length ≤ _
        simp
    omega
theorem chkF_zero : ∀ (l sn : List Lo), Ids sn → chkF sn l = 0 → Ids (sn ++ l) ∧ ∀ x ∈ l, 0 ≤ x.pw ∧ x.pw ≤ 2147483647 := by
  intro l
  induction l with
  | nil => intro sn h _; exact ⟨by simpa using h, by simp⟩
  | cons x l ih =>
    intro sn h hc
    unfold chkF at hc
    split at hc
    · cases hc
    · rename_i hp
      split at hc
      · cases hc
      · rename_i hd
        have hd' : hasId x.id sn = false := by simpa using hd
        have h2 : Ids (sn ++ [x]) := by
          unfold Ids
          rw [List.map_append, List.nodup_append]
          refine ⟨h, by simp, fun a ha b hb => ?_⟩
          obtain ⟨z, hz, rfl⟩ := List.mem_map.1 ha
          simp only [List.map_cons, List.map_nil, List.mem_singleton] at hb
          subst hb
          exact hasId_false hd' z hz
        obtain ⟨h3, h4⟩ := ih (sn ++ [x]) h2 hc
        refine ⟨by rwa [List.append_assoc] at h3, fun y hy => ?_⟩
        rcases List.mem_cons.1 hy with rfl | hy
        · omega
        · exact h4 y hy
theorem chkP_zero {C ch re : Int} {l : List Lo} (h : chkP C ch re l = 0) : ¬ badB C ch re ∧ l.length ≤ 64 ∧ Ids l ∧ ∀ x ∈ l, 0 ≤ x.pw ∧ x.pw ≤ 2147483647 := by
  unfold chkP at h
  split at h
  · cases h
  · rename_i hb
    split at h
    · cases h
    · rename_i hl
      obtain ⟨h1, h2⟩ := chkF_zero l [] List.nodup_nil h
      exact ⟨hb, by omega, by simpa using h1, h2⟩
set_option maxHeartbeats 4000000 in
set_option maxRecDepth 10000 in
theorem stp_walk (C ch re : Int) (g : Int) (A0 : Option Addr) (c0 : Nat) (l : List Lo) (w : World) (_ : I64 C) (_ : I64 ch) (_ : I64 re) (gb1 : -9223372036854775808 ≤ g) (gb2 : g ≤ 9223372036854775807) (h0 : Loads w (.slice A0 l.length c0) l) (hm : l.length ≤ 9223372036854775807) (_ : l.length ≤ c0) (_ : ∀ x ∈ l, I64 x.id ∧ I64 x.pw ∧ I64 x.pr) :
    Calls Try.prog 4 #[.agg (bcs C ch re), .int .i64 g, .slice A0 l.length c0] w fun e w' => e = .returned (.bool true) ∧ From w w' := by
  obtain ⟨W1, hW1⟩ : ∃ V, w.alloc (.cells (bcs C ch re) 23) = V := ⟨_, rfl⟩
  have k1 : From w W1 := by rw [← hW1]; exact (From.refl _).alloc _
  have hb1 : BatC W1 w.heap.size C ch re := ⟨by rw [← hW1]; exact heap_alloc_new _ _⟩
  have H := bx (h0.from k1)
  have HK := bx k1
  have HB := bx hb1
  obtain ⟨a0, a1, a2, _, _, _⟩ := hb1.facts
  clear h0 k1 hb1
  have hL := fun (W : World) => lives_calls W
  have HLV := bx hL
  clear hL
  go_enter Try.func4, Try.ntmps4
  by_cases h100 : 100 < l.length
  · have d1 : decide ((100 : Int) < (l.length : Int)) = true := decide_eq_true (by omega)
    go_wp2_with fail
    refine (HLV.out _).mono ?_
    rintro e w2 ⟨rfl, f2⟩
    go_wp2
    go_ret
    exact ⟨rfl, HK.out.trans f2⟩
  have d1 : decide ((100 : Int) < (l.length : Int)) = false := decide_eq_false (by omega)
  by_cases hg0 : g < 0
  · have d2 : decide (g < 0) = true := decide_eq_true hg0
    go_wp2_with fail
    refine (HLV.out _).mono ?_
    rintro e w2 ⟨rfl, f2⟩
    go_wp2
    go_ret
    exact ⟨rfl, HK.out.trans f2⟩
  have d2 : decide (g < 0) = false := decide_eq_false hg0
  by_cases hgM : 2147483647 < g
  · have d3 : decide (2147483647 < g) = true := decide_eq_true hgM
    go_wp2_with fail
    refine (HLV.out _).mono ?_
    rintro e w2 ⟨rfl, f2⟩
    go_wp2
    go_ret
    exact ⟨rfl, HK.out.trans f2⟩
  have d3 : decide (2147483647 < g) = false := decide_eq_false hgM
  obtain ⟨x, hx⟩ : ∃ x, chkP C ch re l = x := ⟨_, rfl⟩
  go_wp2_with fail
  refine (refCheck_calls C ch re A0 c0 l W1 H.out hm x hx).mono ?_
  rintro e w2 ⟨rfl, k2⟩
  by_cases hx0 : x = 0
  case neg =>
    have d4 : (x != 0) = true := by simpa using hx0
    clear hx
    go_wp2_with fail
    refine (HLV.out _).mono ?_
    rintro e w3 ⟨rfl, f3⟩
    go_wp2
    go_ret
    exact ⟨rfl, HK.out.trans (k2.trans f3)⟩
  subst hx0
  obtain ⟨hbad, hl64, hids, hpw⟩ := chkP_zero hx
  unfold badB at hbad
  obtain ⟨s, hs⟩ : ∃ s, stepB C ch re g l = s := ⟨_, rfl⟩
  obtain ⟨gd, hgd⟩ : ∃ gd, gainB C ch g = gd := ⟨_, rfl⟩
  obtain ⟨sc, su, ss, sb⟩ := s
  have hss : ss.length ≤ 1000000 := by
    have h1 := runL_sv re (ordL l) ⟨ch + gainB C ch g, 0, [], false⟩
    unfold stepB at hs
    rw [hs, ordL_len] at h1
    simp only [List.length_nil] at h1
    omega
  have hpw2 : ∀ x ∈ l, 0 ≤ x.pw ∧ x.pw ≤ 4000000000 := fun x hx => by have := hpw x hx; omega
  have HST := bx (fun (W : World) (kk : From W1 W) => (show Calls Try.prog 18 #[.agg #[.int .i64 C, .int .i64 ch, .int .i64 re], .int .i64 g, .slice A0 l.length c0] W (fun e w' => ∃ A c, e = .returned (.tuple #[.agg #[.int .i64 C, .int .i64 sc, .int .i64 re], .agg #[.int .i64 gd, .int .i64 su, .int .i64 (g - gd), .slice A ss.length c, .bool sb]]) ∧ SlN W.heap.size w' (.slice A ss.length c) ss.length (ic ss) ∧ From W w') from step_calls C ch re g A0 c0 l W (H.out.from kk) (by omega) hids (by omega) (by omega) (by omega) (by omega) hpw2 gd hgd ⟨sc, su, ss, sb⟩ hs))
  have HRS := bx (fun (W : World) (kk : From W1 W) => (show Calls Try.prog 19 #[.agg #[.int .i64 C, .int .i64 ch, .int .i64 re], .int .i64 g, .slice A0 l.length c0] W (fun e w' => ∃ A c, e = .returned (.tuple #[.agg #[.int .i64 C, .int .i64 sc, .int .i64 re], .agg #[.int .i64 gd, .int .i64 su, .int .i64 (g - gd), .slice A ss.length c, .bool sb]]) ∧ SlN W.heap.size w' (.slice A ss.length c) ss.length (ic ss) ∧ From W w') from refStep_calls C ch re g A0 c0 l W (H.out.from kk) (by omega) (by omega) (by omega) (by omega) (by omega) hpw2 gd hgd ⟨sc, su, ss, sb⟩ hs))
  obtain ⟨e0, e1, e2, _, _, _⟩ := (HB.out.from k2).facts
  have HK2 := bx k2
  clear hx hs hgd hpw hpw2 hids k2 a0 a1 a2
  go_wp2_with fail
  refine (HST.out w2 HK2.out).mono ?_
  rintro e w3 ⟨A3, c3, rfl, q3, k3⟩
  have f3 : From w3 ((w3.alloc (.cells (bcs C sc re) 23)).alloc (.cells (pcs gd su (g - gd) (.slice A3 ss.length c3) sb) 33)) := ((From.refl _).alloc _).alloc _
  have b3 : BatC ((w3.alloc (.cells (bcs C sc re) 23)).alloc (.cells (pcs gd su (g - gd) (.slice A3 ss.length c3) sb) 33)) w3.heap.size C sc re := ⟨heap_alloc_0 _ _ _⟩
  have s3 : SupC ((w3.alloc (.cells (bcs C sc re) 23)).alloc (.cells (pcs gd su (g - gd) (.slice A3 ss.length c3) sb) 33)) (w3.heap.size + 1) gd su (g - gd) (.slice A3 ss.length c3) sb := ⟨heap_alloc_1 _ _ _⟩
  obtain ⟨V3, hV3⟩ : ∃ V, (w3.alloc (.cells (bcs C sc re) 23)).alloc (.cells (pcs gd su (g - gd) (.slice A3 ss.length c3) sb) 33) = V := ⟨_, rfl⟩
  rw [hV3] at f3 b3 s3
  have E3 := bx (HB.out.from (HK2.out.trans (k3.trans f3)))
  have K3 := bx (HK2.out.trans (k3.trans f3))
  have Q3 := bx (q3.from f3)
  have B3 := bx b3
  have S3 := bx s3
  obtain ⟨e0', e1', e2', _, _, _⟩ := E3.out.facts
  clear e0 e1 e2 k3 q3 f3 b3 s3
  go_wp2_with fail
  refine (HRS.out V3 K3.out).mono ?_
  rintro e w4 ⟨A4, c4, rfl, q4, k4⟩
  have f4 : From w4 ((w4.alloc (.cells (bcs C sc re) 23)).alloc (.cells (pcs gd su (g - gd) (.slice A4 ss.length c4) sb) 33)) := ((From.refl _).alloc _).alloc _
  have b4 : BatC ((w4.alloc (.cells (bcs C sc re) 23)).alloc (.cells (pcs gd su (g - gd) (.slice A4 ss.length c4) sb) 33)) w4.heap.size C sc re := ⟨heap_alloc_0 _ _ _⟩
  have s4 : SupC ((w4.alloc (.cells (bcs C sc re) 23)).alloc (.cells (pcs gd su (g - gd) (.slice A4 ss.length c4) sb) 33)) (w4.heap.size + 1) gd su (g - gd) (.slice A4 ss.length c4) sb := ⟨heap_alloc_1 _ _ _⟩
  obtain ⟨V4, hV4⟩ : ∃ V, (w4.alloc (.cells (bcs C sc re) 23)).alloc (.cells (pcs gd su (g - gd) (.slice A4 ss.length c4) sb) 33) = V := ⟨_, rfl⟩
  rw [hV4] at f4 b4 s4
  have HSM := bx (sameSupply_calls gd su (g - gd) A3 c3 A4 c4 ss sb V4 (Q3.out.from (k4.trans f4)).sl (q4.from f4).sl hss)
  obtain ⟨m0, m1, m2, _, _, _⟩ := (B3.out.from (k4.trans f4)).facts
  obtain ⟨n0, n1, n2, n3, n4, _, _, _, _, _⟩ := (S3.out.from (k4.trans f4)).facts
  obtain ⟨r0, r1, r2, _, _, _⟩ := b4.facts
  obtain ⟨t0, t1, t2, t3, t4, _, _, _, _, _⟩ := s4.facts
  have K4 := bx (K3.out.trans (k4.trans f4))
  clear f4 b4 s4 q4 k4 hV3 e0' e1' e2'
  go_wp2_with fail
  refine HSM.out.mono ?_
  rintro e w5 ⟨rfl, k5⟩
  go_wp2_with fail
  refine (HLV.out _).mono ?_
  rintro e w6 ⟨rfl, k6⟩
  go_wp2
  go_ret
  exact ⟨rfl, HK.out.trans (K4.out.trans (k5.trans k6))⟩
set_option maxRecDepth 100000 in
theorem stp_lifted (os : Os) (started : os.Started) (H : Type) (enc : TypeId × Value → H) :
    ReturnsInHanded {} Try.checked os 4 .any (Rows.powerStepsSpec.pre6 enc Try.prog Try.f4 Rows.powerStepsRow.domain false) (Rows.powerStepsSpec.post enc Try.prog Try.f4 false true false false) := by
  refine returnsInHanded_of_change (C := Try.checked) own started (by kernel_rfl) Try.func4
    (ChangeSpec.witness6 (enc := enc) (C := Try.checked) false ⟨#[], #[.agg #[.int .i64 0, .int .i64 0, .int .i64 0], .int .i64 0, .slice none 0 0], []⟩ 8 (by kernel_rfl) (by kernel_rfl) (by kernel_rfl) (by kernel_rfl)) ?_
  intro W base args ds gs before hval0 hW hcnd _
  have hval : ∀ (j : Nat) t v, Try.f4.params[j]? = some t → args[j]? = some v → Value.okWide Try.prog W .any base t v := hval0
  have hW' := hW
  obtain ⟨p, q, hA0, hV, rfl, hfz, hnd⟩ := hW
  have hA : DataW.TrodAll enc Try.prog W 0 (fun _ => true) true Try.f4.params.toList args.toList ds p := hA0
  rw [Try.params4] at hA hval
  obtain ⟨v0, vs0, d0, ds0, p0, q0, hargs, rfl, rfl, h0, r0⟩ := trodAll_cons hA
  obtain ⟨v1, vs1, d1, ds1, p1, q1, rfl, rfl, rfl, h1, r1⟩ := trodAll_cons r0
  obtain ⟨v2, vs2, d2, ds2, p2, q2, rfl, rfl, rfl, h2, r2⟩ := trodAll_cons r1
  obtain ⟨rfl, rfl, rfl⟩ := trodAll_nil r2
  obtain rfl : args = #[v0, v1, v2] := by cases args; simp_all
  obtain ⟨rfl, rfl⟩ := trodVars_none hV
  obtain ⟨C0, ch0, re0, rfl, hC0, hch0, hre0⟩ := open_bat (hval 0 23 v0 rfl rfl) h0
  obtain ⟨a1, rfl, _, _, w1⟩ := open_int Try.underlying3 (hval 1 3 v1 rfl rfl) h1
  simp only [Lit.wf, Bool.and_eq_true, decide_eq_true_eq] at w1
  obtain ⟨A2, c2, l2, rfl, hB2, hm2, hcap2, hx2⟩ := open_loads (hval 2 24 v2 rfl rfl) h2
  refine (stp_walk C0 ch0 re0 a1 A2 c2 l2 W hC0 hch0 hre0 w1.1 w1.2 hB2 hm2 hcap2 hx2).mono fun e W' ⟨he, hb⟩ => ?_
  subst he
  exact ⟨_, rfl, law_post Try.laid (by kernel_rfl) rfl rfl Try.underlying4 rfl hW' hb⟩
theorem stp_facts : joinedFacts Try.prog 4 Try.f4 Rows.powerStepsSpec Rows.powerStepsRow = true := by
  unfold joinedFacts
  rw [fact_enter, fact_lift, fact_make, fact_keys, fact_heard, fact_maps, Try.laid]
  kernel_rfl
theorem stp_holds : Rows.PowerStepsSaid :=
  OpenClaim.holds_of_wide 4 Try.f4 rfl rfl rfl rfl rfl rfl rfl ⟨rfl, rfl, rfl, rfl, rfl⟩ rfl rfl rfl rfl rfl (by kernel_rfl) Try.func4 stp_facts
    (of_decide_eq_true (by kernel_rfl)) (by unfold Func.isWrapper; first | (rw [if_pos (by decide +kernel)]; kernel_rfl) | (rw [if_neg (by decide +kernel)]; exact ⟨rfl, rfl⟩))
    (fun os started H enc _ => stp_lifted os started H enc)
#print axioms stp_holds
end Go.Proofs.Ytamfifndddldcaa
