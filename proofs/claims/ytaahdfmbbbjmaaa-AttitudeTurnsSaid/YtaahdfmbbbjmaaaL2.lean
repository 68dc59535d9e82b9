/-
  For every two numbers and every list of arcs, the law AttitudeTurns returns true, and its arguments read as before. No condition.
-/
import Derived.Test.YtaahdfmbbbjmaaaR1
import Derived.Test.YtaahdfmbbbjmaaaW12
namespace Go.Proofs.Ytaahdfmbbbjmaaa
open Go.ChangeShapes Go.WideShapes Go.ChangeAt Go.RowKit Go.Deep

theorem turns_walk (a b : Int) (A : Option Addr) (c : Nat) (l : ArcL) (w : World) (h : Arcs w w.heap.size A l) (hm : l.length ≤ 9223372036854775807) :
    Calls Try.prog 4 #[.int .i64 a, .int .i64 b, .slice A l.length c] w fun e w' => e = .returned (.bool true) ∧ Below w.heap.size w w' := by
  by_cases h16 : 16 < l.length
  · go_enter Try.func4, Try.ntmps4
    go_wp2_with fail
    refine (lives_calls _).mono ?_
    rintro e w9 ⟨rfl, hx⟩
    go_wp2
    go_ret
    exact ⟨rfl, hx⟩
  by_cases h0 : checkN l = 0
  · have H0 := bx h0
    have e1 : (checkN l != 0) = false := by simp [h0]
    clear h0
    have ho := (check_ok.1 H0.out).2
    go_enter Try.func4, Try.ntmps4
    go_wp2_with fail
    refine (ref_check A c l w h hm).mono ?_
    rintro e w' ⟨rfl, rfl⟩
    go_wp2_with fail
    refine (att_turn A c l a b w h (by omega) ho).mono ?_
    rintro e w1 ⟨rfl, hx⟩
    have hb := hx
    clear hx
    go_wp2_with fail
    refine (ref_turn A c l a b w1 ((h.below hb).more hb.size) (by omega) ho).mono ?_
    rintro e w2 ⟨rfl, hx⟩
    replace hb := hb.trans (hx.mono hb.size)
    clear hx
    go_wp2_with fail
    refine (lives_calls _).mono ?_
    rintro e w9 ⟨rfl, hx⟩
    go_wp2
    go_ret
    exact ⟨rfl, hb.trans (hx.mono hb.size)⟩
  · have e1 : (checkN l != 0) = true := by simp [h0]
    clear h0
    go_enter Try.func4, Try.ntmps4
    go_wp2_with fail
    refine (ref_check A c l w h hm).mono ?_
    rintro e w' ⟨rfl, rfl⟩
    go_wp2_with fail
    refine (lives_calls _).mono ?_
    rintro e w9 ⟨rfl, hx⟩
    go_wp2
    go_ret
    exact ⟨rfl, hx⟩

set_option maxRecDepth 100000 in
theorem turns_lifted (os : Os) (started : os.Started) (H : Type) (enc : TypeId × Value → H) :
    ReturnsInHanded {} Try.checked os 4 .any (Rows.attitudeTurnsSpec.pre6 enc Try.prog Try.f4 Rows.attitudeTurnsRow.domain false) (Rows.attitudeTurnsSpec.post enc Try.prog Try.f4 false true false false) := by
  refine returnsInHanded_of_change (C := Try.checked) own started (by kernel_rfl) Try.func4
    (ChangeSpec.witness6 (enc := enc) (C := Try.checked) false ⟨#[], #[.int .i64 0, .int .i64 0, .slice none 0 0], []⟩ 8 (by kernel_rfl) (by kernel_rfl) (by kernel_rfl) (by kernel_rfl)) ?_
  intro W base args ds gs before hval0 hW hcnd _
  have hval : ∀ (j : Nat) t v, Try.f4.params[j]? = some t → args[j]? = some v → Value.okWide Try.prog W .any base t v := hval0
  have hW' := hW
  obtain ⟨p, q, hA0, hV, rfl, hfz, hnd⟩ := hW
  have hA : DataW.TrodAll enc Try.prog W 0 (fun _ => true) true Try.f4.params.toList args.toList ds p := hA0
  rw [Try.params4] at hA hval
  obtain ⟨v0, vs0, d0, ds0, p0, q0, hargs, rfl, rfl, h0, r0⟩ := trodAll_cons hA
  obtain ⟨v1, vs1, d1, ds1, p1, q1, rfl, rfl, rfl, h1, r1⟩ := trodAll_cons r0
  obtain ⟨v2, vs2, d2, ds2, p2, q2, rfl, rfl, rfl, h2, r2⟩ := trodAll_cons r1
  obtain ⟨rfl, rfl, rfl⟩ := trodAll_nil r2
  obtain rfl : args = #[v0, v1, v2] := by cases args; simp_all
  obtain ⟨rfl, rfl⟩ := trodVars_none hV
  obtain ⟨a0, rfl, _, _, w0⟩ := open_int Try.underlying3 (hval 0 3 v0 rfl rfl) h0
  obtain ⟨a1, rfl, _, _, w1⟩ := open_int Try.underlying3 (hval 1 3 v1 rfl rfl) h1
  obtain ⟨A2, c2, l2, rfl, hArcs2, hlen2⟩ := open_arcs (hval 2 22 v2 rfl rfl) h2
  refine (turns_walk a0 a1 A2 c2 l2 W hArcs2 hlen2).mono fun e W' ⟨he, hb⟩ => ?_
  subst he
  exact ⟨_, rfl, law_post Try.laid (by kernel_rfl) rfl rfl Try.underlying4 rfl hW' hb⟩
theorem turns_holds : Rows.AttitudeTurnsSaid :=
  OpenClaim.holds_of_wide 4 Try.f4 rfl rfl rfl rfl rfl rfl rfl ⟨rfl, rfl, rfl, rfl, rfl⟩ rfl rfl rfl rfl rfl (by kernel_rfl) Try.func4 (by kernel_rfl)
    (of_decide_eq_true (by kernel_rfl)) (by unfold Func.isWrapper; first | (rw [if_pos (by decide +kernel)]; kernel_rfl) | (rw [if_neg (by decide +kernel)]; exact ⟨rfl, rfl⟩))
    (fun os started H enc _ => turns_lifted os started H enc)
#print axioms turns_holds
end Go.Proofs.Ytaahdfmbbbjmaaa
