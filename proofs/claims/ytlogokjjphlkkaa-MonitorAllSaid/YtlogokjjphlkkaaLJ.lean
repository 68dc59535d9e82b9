/-
  For all lists of up to 8 monitors made from numbers and up to 30 lists of values, the law MonitorAll returns true, and its arguments read as before. No condition.
-/
import Derived.Test.YtlogokjjphlkkaaW27
import Derived.Test.YtlogokjjphlkkaaR6
namespace Go.Proofs.Ytlogokjjphlkkaa
open Go.ChangeShapes Go.WideShapes Go.ChangeAt Go.RowKit Go.Deep Go.Shelf

/-- monitors as the law has them -/
structure Fine (ms : List Mon) : Prop where
  len : ms.length ≤ 8
  each : ∀ m ∈ ms, 0 ≤ m.par ∧ Small m
theorem Fine.past {ms : List Mon} (h : Fine ms) {m : Mon} (hm : m ∈ ms) : m.past.length ≤ 16 := by
  have := (h.each m hm).2
  unfold Small at this
  omega
theorem Fine.all {ms : List Mon} (h : Fine ms) (vs : List Int) : Fine (allM vs ms) := by
  refine ⟨by simp only [allM, List.length_map]; exact h.len, fun m hm => ?_⟩
  obtain ⟨x, hx, rfl⟩ := List.mem_map.1 hm
  obtain ⟨h1, h2⟩ := h.each x hx
  unfold nxM
  split
  · exact ⟨h1, small_step h2 _⟩
  · exact ⟨h1, h2⟩
set_option maxRecDepth 100000 in
set_option maxHeartbeats 16000000 in
theorem alM_walk (A0 : Option Addr) (c0 : Nat) (rows : List (List Int)) (AV : Option Addr) (cV : Nat) (vals : List (List Int)) (w : World)
    (h : Rows w (.slice A0 rows.length c0) rows) (hm : rows.length ≤ 9223372036854775807)
    (hv : Rows w (.slice AV vals.length cV) vals) (_ : vals.length ≤ 9223372036854775807) :
    Calls Try.prog 17 #[.slice A0 rows.length c0, .slice AV vals.length cV] w fun e w' => e = .returned (.bool true) ∧ Below w.heap.size w w' := by
  obtain ⟨ms, hms⟩ : ∃ z, makesM rows = z := ⟨_, rfl⟩
  have hfine : Fine ms := by
    refine ⟨by rw [← hms, makesM, List.length_map, List.length_take]; omega, fun m hmm => ?_⟩
    rw [← hms, makesM] at hmm
    obtain ⟨r, _, rfl⟩ := List.mem_map.1 hmm
    have := makeM_good r
    refine ⟨(pick_bd r 0 6 (by omega)).1, ?_⟩
    have h1 := this.of
    unfold Small
    refine ⟨?_, by omega⟩
    simp only [makeM, List.length_nil] at h1 ⊢
    omega
  have HF := bx hfine
  have HMK := bx (makes_calls A0 c0 rows w h hm ms hms)
  have HV := bx hv
  clear h hms hfine hv
  go_enter Try.func17, Try.ntmps17
  go_wp2_with fail
  refine HMK.out.mono ?_
  rintro e w1 ⟨A, c, rfl, hM1, k1, _, _⟩
  have HM1 := bx hM1
  have HK1 := bx k1
  clear hM1 HMK k1
  go_wp2_with fail
  go_loopw [5, 6, 7, 8, 9, 10, 11, 12, 13] (fun l m i _ _ _ _ _ _ wr => ∃ (k : Nat) (cur : List Mon) (A1 A2 : Option Addr) (c1 c2 : Nat), k ≤ vals.length ∧ k ≤ 30 ∧ i = .int .i64 k ∧ l = .slice A1 cur.length c1 ∧ m = .slice A2 cur.length c2 ∧ Bx (Mons wr (.slice A1 cur.length c1) cur ∧ Mons wr (.slice A2 cur.length c2) cur ∧ Fine cur ∧ From w wr)) (fun _ _ i _ _ _ _ _ _ _ => vals.length - (intOf i).toNat)
  case atStart => exact ⟨0, ms, A, A, c, c, Nat.zero_le _, by omega, rfl, rfl, rfl, ⟨HM1.out, HM1.out, HF.out, HK1.out⟩⟩
  case round =>
    clear HM1 HF HK1
    obtain ⟨k, cur, A1, A2, c1, c2, hk, hk30, rfl, rfl, rfl, HB⟩ := hrel
    by_cases hlt : k < vals.length
    · have z3 : decide ((k : Int) < (vals.length : Int)) = true := decide_eq_true (by omega)
      have y1 : (k : Int) < (vals.length : Int) := by omega
      have y2 : (0 : Int) ≤ (k : Int) := by omega
      by_cases hl30 : k < 30
      · have z4 : decide ((k : Int) < 30) = true := decide_eq_true (by omega)
        obtain ⟨vb, vo, AR, cR, rfl, _, vcell, hI, hIl, hIx⟩ := (HV.out.from HB.out.2.2.2).at_ hlt
        have hc8 := HB.out.2.2.1.len
        have HI := bx hI
        have HVC := bx (fun (W : World) (kk : From wr W) => kk.cell vcell)
        clear hI hIx
        generalize vals[k] = vs at *
        obtain ⟨nw, hnw⟩ : ∃ z, allM vs cur = z := ⟨_, rfl⟩
        obtain ⟨us, hus⟩ : ∃ z, evs (uxM vs) cur = z := ⟨_, rfl⟩
        obtain ⟨ds, hds⟩ : ∃ z, evs (dxM vs) cur = z := ⟨_, rfl⟩
        obtain ⟨rs, hrs⟩ : ∃ z, raisedM nw = z := ⟨_, rfl⟩
        have hul : us.length ≤ 8 := by rw [← hus]; exact Nat.le_trans (evs_len _ _) hc8
        have hdl : ds.length ≤ 8 := by rw [← hds]; exact Nat.le_trans (evs_len _ _) hc8
        have hfn : Fine nw := by rw [← hnw]; exact HB.out.2.2.1.all vs
        have HFN := bx hfn
        have hn8 := hfn.len
        have HC1 := bx (fun (W : World) (kk : From wr W) => all_calls A1 c1 cur AR cR vs W (HB.out.1.from kk) (HI.out.from kk) (by omega) (fun m hm => ⟨(HB.out.2.2.1.each m hm).1, by have := HB.out.2.2.1.past hm; omega⟩) nw us ds hnw hus hds)
        have HC2 := bx (fun (W : World) (kk : From wr W) => all29_calls A2 c2 cur AR cR vs W (HB.out.2.1.from kk) (HI.out.from kk) (by omega) (fun m hm => ⟨(HB.out.2.2.1.each m hm).1, by have := HB.out.2.2.1.past hm; omega, (HB.out.2.2.1.each m hm).2⟩) nw us ds hnw hus hds)
        have hrl : rs.length ≤ 8 := by
          rw [← hrs, raised_two, sortedI_len]
          exact Nat.le_trans (ddE_len _) hn8
        have HRS := bx hrs
        have HFR := bx HB.out.2.2.2
        clear hnw hus hds hfn HB hrs
        go_wp2_with fail
        refine (HC1.out _ (From.refl _)).mono ?_
        rintro e w2 ⟨B1, d1, B2, d2, B3, d3, rfl, q1, q2, q3, k2⟩
        have Q1 := bx q1
        have Q2 := bx q2
        have Q3 := bx q3
        have vc2 := HVC.out _ k2
        clear q1 q2 q3 HC1 vcell
        go_wp2_with fail
        refine (HC2.out _ k2).mono ?_
        rintro e w3 ⟨E1, f1, E2, f2, E3, f3, rfl, q1, q2, q3, k3⟩
        have P1 := bx q1
        have P2 := bx q2
        have P3 := bx q3
        clear q1 q2 q3 HC2 vc2
        go_wp2_with fail
        refine (sameAll_calls B1 E1 d1 f1 nw w3 (Q1.out.from k3) P1.out (by omega) (fun m hm => by have := HFN.out.past hm; omega)).mono ?_
        rintro e w4 ⟨rfl, k4⟩
        go_wp2_with fail
        refine (same_val B2 E2 d2 f2 us us w4 (Q2.out.from (k3.trans k4)) (P2.out.from k4) (by omega) true (by simp)).mono ?_
        rintro e w5' ⟨rfl, q5, rfl⟩
        have k5 : From w4 (w4.drewN q5) := From.drewN (From.refl _) q5
        generalize w4.drewN q5 = w5 at *
        go_wp2_with fail
        refine (same_val B3 E3 d3 f3 ds ds w5 (Q3.out.from (k3.trans (k4.trans k5))) (P3.out.from (k4.trans k5)) (by omega) true (by simp)).mono ?_
        rintro e w6' ⟨rfl, q6, rfl⟩
        have k6 : From w5 (w5.drewN q6) := From.drewN (From.refl _) q6
        generalize w5.drewN q6 = w6 at *
        go_wp2_with fail
        refine (raised_calls B1 d1 nw w6 (Q1.out.from (k3.trans (k4.trans (k5.trans k6)))) (by omega) rs HRS.out).mono ?_
        rintro e w7 ⟨G1, g1, rfl, q7, k7⟩
        have R1 := bx q7
        clear q7
        go_wp2_with fail
        refine (raised29_calls E1 f1 nw w7 (P1.out.from (k4.trans (k5.trans (k6.trans k7)))) (by omega) rs HRS.out).mono ?_
        rintro e w8 ⟨G2, g2, rfl, q8, k8⟩
        have R2 := bx q8
        clear q8
        go_wp2_with fail
        refine (same_val G1 G2 g1 g2 rs rs w8 (R1.out.from k8) R2.out (by omega) true (by simp)).mono ?_
        rintro e w9' ⟨rfl, q9, rfl⟩
        have k9 : From w8 (w8.drewN q9) := From.drewN (From.refl _) q9
        generalize w8.drewN q9 = w9 at *
        have kt := k4.trans (k5.trans (k6.trans (k7.trans (k8.trans k9))))
        have HBN := bx (show Mons w9 (.slice B1 nw.length d1) nw ∧ Mons w9 (.slice E1 nw.length f1) nw ∧ Fine nw ∧ From w w9 from ⟨Q1.out.from (k3.trans kt), P1.out.from kt, HFN.out, HFR.out.trans (k2.trans (k3.trans kt))⟩)
        clear kt k4 k5 k6 k7 k8 k9 k2 k3 Q1 Q2 Q3 P1 P2 P3 R1 R2
        go_wp2_with fail
        go_roundw
        case rel => exact ⟨k + 1, nw, B1, E1, d1, f1, by omega, by omega, by go_num, rfl, rfl, HBN⟩
        case measure => simp [intOf]; omega
      · have z4 : decide ((k : Int) < 30) = false := decide_eq_false (by omega)
        go_wp2_with fail
        refine (livesM_calls _).mono ?_
        rintro e w9 ⟨rfl, k9⟩
        go_wp2
        go_ret
        exact ⟨rfl, HB.out.2.2.2.trans k9⟩
    · have z3 : decide ((k : Int) < (vals.length : Int)) = false := decide_eq_false (by omega)
      go_wp2_with fail
      refine (livesM_calls _).mono ?_
      rintro e w9 ⟨rfl, k9⟩
      go_wp2
      go_ret
      exact ⟨rfl, HB.out.2.2.2.trans k9⟩
set_option maxRecDepth 100000 in
theorem alM_lifted (os : Os) (started : os.Started) (H : Type) (enc : TypeId × Value → H) :
    ReturnsInHanded {} Try.checked os 17 .any (Rows.monitorAllSpec.pre6 enc Try.prog Try.f17 Rows.monitorAllRow.domain false) (Rows.monitorAllSpec.post enc Try.prog Try.f17 false true false false) := by
  refine returnsInHanded_of_change (C := Try.checked) own started (by kernel_rfl) Try.func17
    (ChangeSpec.witness6 (enc := enc) (C := Try.checked) false ⟨#[], #[.slice none 0 0, .slice none 0 0], []⟩ 8 (by kernel_rfl) (by kernel_rfl) (by kernel_rfl) (by kernel_rfl)) ?_
  intro W base args ds gs before hval0 hW hcnd _
  have hval : ∀ (j : Nat) t v, Try.f17.params[j]? = some t → args[j]? = some v → Value.okWide Try.prog W .any base t v := hval0
  have hW' := hW
  obtain ⟨p, q, hA0, hV, rfl, hfz, hnd⟩ := hW
  have hA : DataW.TrodAll enc Try.prog W 0 (fun _ => true) true Try.f17.params.toList args.toList ds p := hA0
  rw [Try.params17] at hA hval
  obtain ⟨v0, vs0, d0, ds0, p0, q0, hargs, rfl, rfl, h0, r0⟩ := trodAll_cons hA
  obtain ⟨v1, vs1, d1, ds1, p1, q1, rfl, rfl, rfl, h1, r1⟩ := trodAll_cons r0
  obtain ⟨rfl, rfl, rfl⟩ := trodAll_nil r1
  obtain rfl : args = #[v0, v1] := by cases args; simp_all
  obtain ⟨rfl, rfl⟩ := trodVars_none hV
  obtain ⟨A0, c0, l0, rfl, hB0, hm0⟩ := open_rows (hval 0 69 v0 rfl rfl) h0
  obtain ⟨A1, c1, l1, rfl, hB1, hm1⟩ := open_rows (hval 1 69 v1 rfl rfl) h1
  refine (alM_walk A0 c0 l0 A1 c1 l1 W hB0 hm0 hB1 hm1).mono fun e W' ⟨he, hb⟩ => ?_
  subst he
  exact ⟨_, rfl, law_post Try.laid (by kernel_rfl) rfl rfl Try.underlying4 rfl hW' hb⟩
theorem alM_facts : joinedFacts Try.prog 17 Try.f17 Rows.monitorAllSpec Rows.monitorAllRow = true := by
  unfold joinedFacts
  rw [fact_enter, fact_lift, fact_make, fact_keys, fact_heard, fact_maps, Try.laid]
  kernel_rfl
theorem alM_holds : Rows.MonitorAllSaid :=
  OpenClaim.holds_of_wide 17 Try.f17 rfl rfl rfl rfl rfl rfl rfl ⟨rfl, rfl, rfl, rfl, rfl⟩ rfl rfl rfl rfl rfl (by kernel_rfl) Try.func17 alM_facts
    (of_decide_eq_true (by kernel_rfl)) (by unfold Func.isWrapper; first | (rw [if_pos (by decide +kernel)]; kernel_rfl) | (rw [if_neg (by decide +kernel)]; exact ⟨rfl, rfl⟩))
    (fun os started H enc _ => alM_lifted os started H enc)
#print axioms alM_holds
end Go.Proofs.Ytlogokjjphlkkaa
