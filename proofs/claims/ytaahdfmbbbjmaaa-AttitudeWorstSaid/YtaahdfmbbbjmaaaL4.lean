/-
  For every list of arcs and every two numbers, the law AttitudeWorst returns true, and its arguments read as before. No condition.
-/
import Derived.Test.YtaahdfmbbbjmaaaR1
import Derived.Test.YtaahdfmbbbjmaaaW12
namespace Go.Proofs.Ytaahdfmbbbjmaaa
open Go.ChangeShapes Go.WideShapes Go.ChangeAt Go.RowKit Go.Deep

theorem bad_of_check {l : ArcL} (h : checkN l = 0) : l.any badArc = false := by
  unfold checkN at h
  split at h
  · omega
  · split at h
    · omega
    · rename_i h2; simpa using h2
theorem ref_worst_val (A : Option Addr) (c : Nat) (l : ArcL) (w : World) (x : Int) (hv : worstOf l = x) (h : Arcs w w.heap.size A l) (hm : l.length ≤ 100) (ho : OkArcs l) :
    Calls Try.prog 26 #[.slice A l.length c] w fun e w' => e = .returned (.int .i64 x) ∧ Below w.heap.size w w' := by
  have := ref_worst A c l w h hm ho
  rwa [hv] at this
theorem worst_walk (A : Option Addr) (c : Nat) (l : ArcL) (a b : Int) (w : World) (h : Arcs w w.heap.size A l) (hm : l.length ≤ 9223372036854775807) :
    Calls Try.prog 6 #[.slice A l.length c, .int .i64 a, .int .i64 b] w fun e w' => e = .returned (.bool true) ∧ Below w.heap.size w w' := by
  by_cases h16 : 16 < l.length
  · go_enter Try.func6, Try.ntmps6
    go_wp2_with fail
    refine (lives_calls _).mono ?_
    rintro e w9 ⟨rfl, hx⟩
    go_wp2
    go_ret
    exact ⟨rfl, hx⟩
  by_cases h0 : checkN l = 0
  · have H0 := bx h0
    have e1 : (checkN l != 0) = false := by simp [h0]
    clear h0
    have ho := (check_ok.1 H0.out).2
    have HB := bx (bad_of_check H0.out)
    obtain ⟨x, e', hv⟩ : ∃ x e', turn l a b = (x, e') := ⟨_, _, rfl⟩
    obtain ⟨b1, b2⟩ := turn_bd l a b
    have hw := @turn_le_worst l a b
    rw [hv] at b1 b2 hw
    simp only at b1 b2 hw
    obtain ⟨z, hz⟩ : ∃ z, worstOf l = z := ⟨_, rfl⟩
    rw [hz] at hw
    have HZ := bx hz
    have HV := bx hv
    clear hz hv
    by_cases he : e' = 0
    · obtain ⟨k1, k2⟩ := hw he
      have k3 : -x ≤ z := by omega
      have e2 : (e' != 0) = false := by simp [he]
      clear he hw k2
      go_enter Try.func6, Try.ntmps6
      go_wp2_with fail
      refine (ref_check A c l w h hm).mono ?_
      rintro e w' ⟨rfl, rfl⟩
      go_wp2_with fail
      refine (worst_val A c l w z HZ.out h (by omega) HB.out).mono ?_
      rintro e w1 ⟨rfl, hx⟩
      have hb := hx
      clear hx
      go_wp2_with fail
      refine (turn_val A c l a b w1 x e' HV.out ((h.below hb).more hb.size) (by omega) HB.out).mono ?_
      rintro e w2 ⟨rfl, hx⟩
      replace hb := hb.trans (hx.mono hb.size)
      clear hx
      go_wp2_with fail
      refine (ref_worst_val A c l w2 z HZ.out ((h.below hb).more hb.size) (by omega) ho).mono ?_
      rintro e w3 ⟨rfl, hx⟩
      replace hb := hb.trans (hx.mono hb.size)
      clear hx
      go_wp2_with fail
      refine (lives_calls _).mono ?_
      rintro e w9 ⟨rfl, hx⟩
      go_wp2
      go_ret
      exact ⟨rfl, hb.trans (hx.mono hb.size)⟩
    · have e2 : (e' != 0) = true := by simp [he]
      clear he hw
      go_enter Try.func6, Try.ntmps6
      go_wp2_with fail
      refine (ref_check A c l w h hm).mono ?_
      rintro e w' ⟨rfl, rfl⟩
      go_wp2_with fail
      refine (worst_val A c l w z HZ.out h (by omega) HB.out).mono ?_
      rintro e w1 ⟨rfl, hx⟩
      have hb := hx
      clear hx
      go_wp2_with fail
      refine (turn_val A c l a b w1 x e' HV.out ((h.below hb).more hb.size) (by omega) HB.out).mono ?_
      rintro e w2 ⟨rfl, hx⟩
      replace hb := hb.trans (hx.mono hb.size)
      clear hx
      go_wp2_with fail
      refine (ref_worst_val A c l w2 z HZ.out ((h.below hb).more hb.size) (by omega) ho).mono ?_
      rintro e w3 ⟨rfl, hx⟩
      replace hb := hb.trans (hx.mono hb.size)
      clear hx
      go_wp2_with fail
      refine (lives_calls _).mono ?_
      rintro e w9 ⟨rfl, hx⟩
      go_wp2
      go_ret
      exact ⟨rfl, hb.trans (hx.mono hb.size)⟩
  · have e1 : (checkN l != 0) = true := by simp [h0]
    clear h0
    go_enter Try.func6, Try.ntmps6
    go_wp2_with fail
    refine (ref_check A c l w h hm).mono ?_
    rintro e w' ⟨rfl, rfl⟩
    go_wp2_with fail
    refine (lives_calls _).mono ?_
    rintro e w9 ⟨rfl, hx⟩
    go_wp2
    go_ret
    exact ⟨rfl, hx⟩

set_option maxRecDepth 100000 in
theorem worst_lifted (os : Os) (started : os.Started) (H : Type) (enc : TypeId × Value → H) :
    ReturnsInHanded {} Try.checked os 6 .any (Rows.attitudeWorstSpec.pre6 enc Try.prog Try.f6 Rows.attitudeWorstRow.domain false) (Rows.attitudeWorstSpec.post enc Try.prog Try.f6 false true false false) := by
  refine returnsInHanded_of_change (C := Try.checked) own started (by kernel_rfl) Try.func6
    (ChangeSpec.witness6 (enc := enc) (C := Try.checked) false ⟨#[], #[.slice none 0 0, .int .i64 0, .int .i64 0], []⟩ 8 (by kernel_rfl) (by kernel_rfl) (by kernel_rfl) (by kernel_rfl)) ?_
  intro W base args ds gs before hval0 hW hcnd _
  have hval : ∀ (j : Nat) t v, Try.f6.params[j]? = some t → args[j]? = some v → Value.okWide Try.prog W .any base t v := hval0
  have hW' := hW
  obtain ⟨p, q, hA0, hV, rfl, hfz, hnd⟩ := hW
  have hA : DataW.TrodAll enc Try.prog W 0 (fun _ => true) true Try.f6.params.toList args.toList ds p := hA0
  rw [Try.params6] at hA hval
  obtain ⟨v0, vs0, d0, ds0, p0, q0, hargs, rfl, rfl, h0, r0⟩ := trodAll_cons hA
  obtain ⟨v1, vs1, d1, ds1, p1, q1, rfl, rfl, rfl, h1, r1⟩ := trodAll_cons r0
  obtain ⟨v2, vs2, d2, ds2, p2, q2, rfl, rfl, rfl, h2, r2⟩ := trodAll_cons r1
  obtain ⟨rfl, rfl, rfl⟩ := trodAll_nil r2
  obtain rfl : args = #[v0, v1, v2] := by cases args; simp_all
  obtain ⟨rfl, rfl⟩ := trodVars_none hV
  obtain ⟨A0, c0, l0, rfl, hArcs0, hlen0⟩ := open_arcs (hval 0 22 v0 rfl rfl) h0
  obtain ⟨a1, rfl, _, _, w1⟩ := open_int Try.underlying3 (hval 1 3 v1 rfl rfl) h1
  obtain ⟨a2, rfl, _, _, w2⟩ := open_int Try.underlying3 (hval 2 3 v2 rfl rfl) h2
  refine (worst_walk A0 c0 l0 a1 a2 W hArcs0 hlen0).mono fun e W' ⟨he, hb⟩ => ?_
  subst he
  exact ⟨_, rfl, law_post Try.laid (by kernel_rfl) rfl rfl Try.underlying4 rfl hW' hb⟩
theorem worst_holds : Rows.AttitudeWorstSaid :=
  OpenClaim.holds_of_wide 6 Try.f6 rfl rfl rfl rfl rfl rfl rfl ⟨rfl, rfl, rfl, rfl, rfl⟩ rfl rfl rfl rfl rfl (by kernel_rfl) Try.func6 (by kernel_rfl)
    (of_decide_eq_true (by kernel_rfl)) (by unfold Func.isWrapper; first | (rw [if_pos (by decide +kernel)]; kernel_rfl) | (rw [if_neg (by decide +kernel)]; exact ⟨rfl, rfl⟩))
    (fun os started H enc _ => worst_lifted os started H enc)
#print axioms worst_holds
end Go.Proofs.Ytaahdfmbbbjmaaa
