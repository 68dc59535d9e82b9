/-
  For every list of arcs and every number, the law AttitudeDirections returns true, and its arguments read as before. No condition.
-/
import Derived.Test.YtaahdfmbbbjmaaaR1
import Derived.Test.YtaahdfmbbbjmaaaW12
namespace Go.Proofs.Ytaahdfmbbbjmaaa
open Go.ChangeShapes Go.WideShapes Go.ChangeAt Go.RowKit Go.Deep

theorem directions_walk (A : Option Addr) (c : Nat) (l : ArcL) (d : Int) (w : World) (h : Arcs w w.heap.size A l) (hm : l.length ≤ 9223372036854775807) :
    Calls Try.prog 3 #[.slice A l.length c, .int .i64 d] w fun e w' => e = .returned (.bool true) ∧ Below w.heap.size w w' := by
  by_cases h100 : 100 < l.length
  · go_enter Try.func3, Try.ntmps3
    go_wp2_with (go_at_call 12; refine (lives_calls _).mono ?_; rintro e w' ⟨rfl, hb⟩)
    go_ret
    exact ⟨rfl, hb⟩
  · by_cases h0 : checkN l = 0
    · have H0 := bx h0
      have e1 : (checkN l != 0) = false := by simp [h0]
      clear h0
      go_enter Try.func3, Try.ntmps3
      go_wp2_with fail
      refine (ref_check A c l w h hm).mono ?_
      rintro e w' ⟨rfl, rfl⟩
      go_wp2_with fail
      refine (att_check A c l w h hm).mono ?_
      rintro e w1 ⟨rfl, hb1⟩
      go_wp2_with fail
      refine (attNormal _ _).mono ?_
      rintro e w' ⟨rfl, rfl⟩
      go_wp2_with fail
      refine (refNormal _ _).mono ?_
      rintro e w' ⟨rfl, rfl⟩
      go_wp2_with fail
      have ho := (check_ok.1 H0.out).2
      refine (att_avoided A c l d w1 ((h.below hb1).more hb1.size) (by omega) ho).mono ?_
      rintro e w2 ⟨rfl, hb2⟩
      replace hb2 := hb1.trans (hb2.mono hb1.size)
      go_wp2_with fail
      refine (ref_avoided A c l d w2 ((h.below hb2).more hb2.size) (by omega) ho).mono ?_
      rintro e w3 ⟨rfl, hb3⟩
      replace hb3 := hb2.trans (hb3.mono hb2.size)
      go_wp2_with fail
      refine (lives_calls _).mono ?_
      rintro e w4 ⟨rfl, hb4⟩
      go_wp2
      go_ret
      exact ⟨rfl, hb3.trans (hb4.mono hb3.size)⟩
    · have e1 : (checkN l != 0) = true := by simp [h0]
      clear h0
      go_enter Try.func3, Try.ntmps3
      go_wp2_with fail
      refine (ref_check A c l w h hm).mono ?_
      rintro e w' ⟨rfl, rfl⟩
      go_wp2_with fail
      refine (att_check A c l w h hm).mono ?_
      rintro e w1 ⟨rfl, hb1⟩
      go_wp2_with fail
      refine (attNormal _ _).mono ?_
      rintro e w' ⟨rfl, rfl⟩
      go_wp2_with fail
      refine (refNormal _ _).mono ?_
      rintro e w' ⟨rfl, rfl⟩
      go_wp2_with fail
      refine (lives_calls _).mono ?_
      rintro e w4 ⟨rfl, hb4⟩
      go_wp2
      go_ret
      exact ⟨rfl, hb1.trans (hb4.mono hb1.size)⟩

set_option maxRecDepth 100000 in
theorem directions_lifted (os : Os) (started : os.Started) (H : Type) (enc : TypeId × Value → H) :
    ReturnsInHanded {} Try.checked os 3 .any (Rows.attitudeDirectionsSpec.pre6 enc Try.prog Try.f3 Rows.attitudeDirectionsRow.domain false) (Rows.attitudeDirectionsSpec.post enc Try.prog Try.f3 false true false false) := by
  refine returnsInHanded_of_change (C := Try.checked) own started (by kernel_rfl) Try.func3
    (ChangeSpec.witness6 (enc := enc) (C := Try.checked) false ⟨#[], #[.slice none 0 0, .int .i64 0], []⟩ 8 (by kernel_rfl) (by kernel_rfl) (by kernel_rfl) (by kernel_rfl)) ?_
  intro W base args ds gs before hval0 hW hcnd _
  have hval : ∀ (j : Nat) t v, Try.f3.params[j]? = some t → args[j]? = some v → Value.okWide Try.prog W .any base t v := hval0
  have hW' := hW
  obtain ⟨p, q, hA0, hV, rfl, hfz, hnd⟩ := hW
  have hA : DataW.TrodAll enc Try.prog W 0 (fun _ => true) true Try.f3.params.toList args.toList ds p := hA0
  rw [Try.params3] at hA hval
  obtain ⟨v0, vs0, d0, ds0, p0, q0, hargs, rfl, rfl, h0, r0⟩ := trodAll_cons hA
  obtain ⟨v1, vs1, d1, ds1, p1, q1, rfl, rfl, rfl, h1, r1⟩ := trodAll_cons r0
  obtain ⟨rfl, rfl, rfl⟩ := trodAll_nil r1
  obtain rfl : args = #[v0, v1] := by cases args; simp_all
  obtain ⟨rfl, rfl⟩ := trodVars_none hV
  obtain ⟨A, c, l, rfl, hArcs, hlen⟩ := open_arcs (hval 0 22 v0 rfl rfl) h0
  obtain ⟨a1, rfl, _, _, w1⟩ := open_int Try.underlying3 (hval 1 3 v1 rfl rfl) h1
  refine (directions_walk A c l a1 W hArcs hlen).mono fun e W' ⟨he, hb⟩ => ?_
  subst he
  exact ⟨_, rfl, law_post Try.laid (by kernel_rfl) rfl rfl Try.underlying4 rfl hW' hb⟩

theorem directions_over : Rows.attitudeDirectionsRow.holds Try.pinned (OpenSpec.ofChange Rows.attitudeDirectionsSpec) :=
  OpenClaim.holds_of_wide 3 Try.f3 rfl rfl rfl rfl rfl rfl rfl ⟨rfl, rfl, rfl, rfl, rfl⟩ rfl rfl rfl rfl rfl (by kernel_rfl) Try.func3 (by kernel_rfl)
    (of_decide_eq_true (by kernel_rfl)) (by unfold Func.isWrapper; first | (rw [if_pos (by decide +kernel)]; kernel_rfl) | (rw [if_neg (by decide +kernel)]; exact ⟨rfl, rfl⟩))
    (fun os started H enc _ => directions_lifted os started H enc)
theorem directions_holds : Rows.AttitudeDirectionsSaid := directions_over
#print axioms directions_holds
end Go.Proofs.Ytaahdfmbbbjmaaa
