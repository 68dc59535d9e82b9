/-
  For every list of arcs and every two numbers, the law AttitudeObstacles returns true, and its arguments read as before. No condition.
-/
import Derived.Test.YtaahdfmbbbjmaaaR1
import Derived.Test.YtaahdfmbbbjmaaaW12
namespace Go.Proofs.Ytaahdfmbbbjmaaa
open Go.ChangeShapes Go.WideShapes Go.ChangeAt Go.RowKit Go.Deep

theorem turn_val8 (A : Option Addr) (c : Nat) (l : ArcL) (a b : Int) (w : World) (x e' : Int) (hv : turn l a b = (x, e')) (h : Arcs w w.heap.size A l) (hm : l.length ≤ 100) (ho : OkArcs l) :
    Calls Try.prog 19 #[.int .i64 a, .int .i64 b, .slice A l.length c] w fun e w' => e = .returned (.tuple #[.int .i64 x, .int .i64 e']) ∧ Below w.heap.size w w' := by
  have := att_turn A c l a b w h hm ho
  rwa [hv] at this
theorem free_val8 (A : Option Addr) (c : Nat) (l : ArcL) (s deg : Int) (w : World) (x : Bool) (hv : fr l s deg = x) (h : Arcs w w.heap.size A l) (hm : l.length ≤ 100) (ho : OkArcs l) (hd1 : -1000 ≤ deg) (hd2 : deg ≤ 1000) :
    Calls Try.prog 29 #[.int .i64 s, .int .i64 deg, .slice A l.length c] w fun e w' => e = .returned (.bool x) ∧ Below w.heap.size w w' := by
  have := ref_free A c l s deg w h hm ho hd1 hd2
  rwa [hv] at this
set_option maxRecDepth 10000 in
theorem obstacles_walk (A0 : Option Addr) (c0 : Nat) (l : ArcL) (a b : Int) (w : World) (h0 : Arcs w w.heap.size A0 l) (hm0 : l.length ≤ 9223372036854775807) :
    Calls Try.prog 10 #[.slice A0 l.length c0, .int .i64 a, .int .i64 b] w fun e w' => e = .returned (.bool true) ∧ Below w.heap.size w w' := by
  have HO := bx (okArcs_made l)
  have HN := bx (show (made l).length ≤ 100 by have := made_len l; omega)
  obtain ⟨x, e', hx⟩ : ∃ x e', turn [] a b = (x, e') := ⟨_, _, rfl⟩
  obtain ⟨k1, k2, k3⟩ := turn_nil a b
  rw [hx] at k1 k2 k3
  simp only at k1 k2 k3
  subst k1
  have HX := bx hx
  obtain ⟨y, f, hv⟩ : ∃ y f, turn (made l) a b = (y, f) := ⟨_, _, rfl⟩
  obtain ⟨b1, b2⟩ := turn_bd (made l) a b
  have hok := @turn_ok_free (made l) a b
  have hot := @turn_other (made l) a b
  rw [hv] at b1 b2 hok hot
  simp only at b1 b2 hok hot
  have HV := bx hv
  clear hx hv
  by_cases hf : f = 0
  case neg =>
    have t1 : (f != 0) = true := by simp [hf]
    clear hf hok hot
    go_enter Try.func10, Try.ntmps10
    go_wp2_with fail
    refine (ref_made A0 c0 l w h0 hm0).mono ?_
    rintro e w1 ⟨A0', c0', rfl, hr0, hx⟩
    have hb := hx
    clear hx
    have hb0 : Below w1.heap.size w1 w1 := Below.refl _ _
    go_wp2_with fail
    refine (turn_val8 none 0 [] a b w1 x 0 HX.out Arcs.nil (by decide) (by intro q hq; simp at hq)).mono ?_
    rintro e w2 ⟨rfl, hx⟩
    replace hb0 := hb0.trans (hx.mono hb0.size)
    clear hx
    go_wp2_with fail
    refine (turn_val8 A0' c0' (made l) a b w2 y f HV.out ((hr0.below hb0).more hb0.size) HN.out HO.out).mono ?_
    rintro e w3 ⟨rfl, hx⟩
    replace hb0 := hb0.trans (hx.mono hb0.size)
    clear hx
    go_wp2_with fail
    refine (lives_calls _).mono ?_
    rintro e w9 ⟨rfl, hx⟩
    go_wp2
    go_ret
    exact ⟨rfl, hb.trans ((hb0.trans (hx.mono hb0.size)).mono hb.size)⟩
  have HOK := bx (hok hf)
  have HOT := bx (hot hf)
  subst hf
  clear hok hot
  by_cases hy : y = 0
  case pos =>
    subst hy
    go_enter Try.func10, Try.ntmps10
    go_wp2_with fail
    refine (ref_made A0 c0 l w h0 hm0).mono ?_
    rintro e w1 ⟨A0', c0', rfl, hr0, hx⟩
    have hb := hx
    clear hx
    have hb0 : Below w1.heap.size w1 w1 := Below.refl _ _
    go_wp2_with fail
    refine (turn_val8 none 0 [] a b w1 x 0 HX.out Arcs.nil (by decide) (by intro q hq; simp at hq)).mono ?_
    rintro e w2 ⟨rfl, hx⟩
    replace hb0 := hb0.trans (hx.mono hb0.size)
    clear hx
    go_wp2_with fail
    refine (turn_val8 A0' c0' (made l) a b w2 0 0 HV.out ((hr0.below hb0).more hb0.size) HN.out HO.out).mono ?_
    rintro e w3 ⟨rfl, hx⟩
    replace hb0 := hb0.trans (hx.mono hb0.size)
    clear hx
    go_wp2_with fail
    refine (lives_calls _).mono ?_
    rintro e w9 ⟨rfl, hx⟩
    go_wp2
    go_ret
    exact ⟨rfl, hb.trans ((hb0.trans (hx.mono hb0.size)).mono hb.size)⟩
  have t2 : (y == 0) = false := by simp [hy]
  clear hy
  by_cases hn : (made l).length = 0
  case pos =>
    have t3 : (((made l).length : Int) == 0) = true := by simp [hn]
    clear hn
    go_enter Try.func10, Try.ntmps10
    go_wp2_with fail
    refine (ref_made A0 c0 l w h0 hm0).mono ?_
    rintro e w1 ⟨A0', c0', rfl, hr0, hx⟩
    have hb := hx
    clear hx
    have hb0 : Below w1.heap.size w1 w1 := Below.refl _ _
    go_wp2_with fail
    refine (turn_val8 none 0 [] a b w1 x 0 HX.out Arcs.nil (by decide) (by intro q hq; simp at hq)).mono ?_
    rintro e w2 ⟨rfl, hx⟩
    replace hb0 := hb0.trans (hx.mono hb0.size)
    clear hx
    go_wp2_with fail
    refine (turn_val8 A0' c0' (made l) a b w2 y 0 HV.out ((hr0.below hb0).more hb0.size) HN.out HO.out).mono ?_
    rintro e w3 ⟨rfl, hx⟩
    replace hb0 := hb0.trans (hx.mono hb0.size)
    clear hx
    go_wp2_with fail
    refine (lives_calls _).mono ?_
    rintro e w9 ⟨rfl, hx⟩
    go_wp2
    go_ret
    exact ⟨rfl, hb.trans ((hb0.trans (hx.mono hb0.size)).mono hb.size)⟩
  have t3 : (((made l).length : Int) == 0) = false := by simp [hn]
  have HOT2 := bx (HOT.out (by intro e; exact hn (by rw [e]; rfl)))
  clear hn HOT
  by_cases hneg : y < 0
  case pos =>
    have HOT3 : Bx (fr (made l) a (y + 360) = false) := by have := HOT2.out; unfold otherTurn at this; rw [if_pos hneg] at this; exact ⟨this⟩
    go_enter Try.func10, Try.ntmps10
    go_wp2_with fail
    refine (ref_made A0 c0 l w h0 hm0).mono ?_
    rintro e w1 ⟨A0', c0', rfl, hr0, hx⟩
    have hb := hx
    clear hx
    have hb0 : Below w1.heap.size w1 w1 := Below.refl _ _
    go_wp2_with fail
    refine (turn_val8 none 0 [] a b w1 x 0 HX.out Arcs.nil (by decide) (by intro q hq; simp at hq)).mono ?_
    rintro e w2 ⟨rfl, hx⟩
    replace hb0 := hb0.trans (hx.mono hb0.size)
    clear hx
    go_wp2_with fail
    refine (turn_val8 A0' c0' (made l) a b w2 y 0 HV.out ((hr0.below hb0).more hb0.size) HN.out HO.out).mono ?_
    rintro e w3 ⟨rfl, hx⟩
    replace hb0 := hb0.trans (hx.mono hb0.size)
    clear hx
    go_wp2_with fail
    refine (free_val8 A0' c0' (made l) a y w3 true HOK.out ((hr0.below hb0).more hb0.size) HN.out HO.out (by omega) (by omega)).mono ?_
    rintro e w4 ⟨rfl, hx⟩
    replace hb0 := hb0.trans (hx.mono hb0.size)
    clear hx
    go_wp2_with fail
    refine (free_val8 A0' c0' (made l) a (y + 360) w4 false HOT3.out ((hr0.below hb0).more hb0.size) HN.out HO.out (by omega) (by omega)).mono ?_
    rintro e w5 ⟨rfl, hx⟩
    replace hb0 := hb0.trans (hx.mono hb0.size)
    clear hx
    go_wp2_with fail
    refine (lives_calls _).mono ?_
    rintro e w9 ⟨rfl, hx⟩
    go_wp2
    go_ret
    exact ⟨rfl, hb.trans ((hb0.trans (hx.mono hb0.size)).mono hb.size)⟩
  case neg =>
    have HOT3 : Bx (fr (made l) a (y - 360) = false) := by have := HOT2.out; unfold otherTurn at this; rw [if_neg hneg] at this; exact ⟨this⟩
    go_enter Try.func10, Try.ntmps10
    go_wp2_with fail
    refine (ref_made A0 c0 l w h0 hm0).mono ?_
    rintro e w1 ⟨A0', c0', rfl, hr0, hx⟩
    have hb := hx
    clear hx
    have hb0 : Below w1.heap.size w1 w1 := Below.refl _ _
    go_wp2_with fail
    refine (turn_val8 none 0 [] a b w1 x 0 HX.out Arcs.nil (by decide) (by intro q hq; simp at hq)).mono ?_
    rintro e w2 ⟨rfl, hx⟩
    replace hb0 := hb0.trans (hx.mono hb0.size)
    clear hx
    go_wp2_with fail
    refine (turn_val8 A0' c0' (made l) a b w2 y 0 HV.out ((hr0.below hb0).more hb0.size) HN.out HO.out).mono ?_
    rintro e w3 ⟨rfl, hx⟩
    replace hb0 := hb0.trans (hx.mono hb0.size)
    clear hx
    go_wp2_with fail
    refine (free_val8 A0' c0' (made l) a y w3 true HOK.out ((hr0.below hb0).more hb0.size) HN.out HO.out (by omega) (by omega)).mono ?_
    rintro e w4 ⟨rfl, hx⟩
    replace hb0 := hb0.trans (hx.mono hb0.size)
    clear hx
    go_wp2_with fail
    refine (free_val8 A0' c0' (made l) a (y - 360) w4 false HOT3.out ((hr0.below hb0).more hb0.size) HN.out HO.out (by omega) (by omega)).mono ?_
    rintro e w5 ⟨rfl, hx⟩
    replace hb0 := hb0.trans (hx.mono hb0.size)
    clear hx
    go_wp2_with fail
    refine (lives_calls _).mono ?_
    rintro e w9 ⟨rfl, hx⟩
    go_wp2
    go_ret
    exact ⟨rfl, hb.trans ((hb0.trans (hx.mono hb0.size)).mono hb.size)⟩

set_option maxRecDepth 100000 in
theorem obstacles_lifted (os : Os) (started : os.Started) (H : Type) (enc : TypeId × Value → H) :
    ReturnsInHanded {} Try.checked os 10 .any (Rows.attitudeObstaclesSpec.pre6 enc Try.prog Try.f10 Rows.attitudeObstaclesRow.domain false) (Rows.attitudeObstaclesSpec.post enc Try.prog Try.f10 false true false false) := by
  refine returnsInHanded_of_change (C := Try.checked) own started (by kernel_rfl) Try.func10
    (ChangeSpec.witness6 (enc := enc) (C := Try.checked) false ⟨#[], #[.slice none 0 0, .int .i64 0, .int .i64 0], []⟩ 8 (by kernel_rfl) (by kernel_rfl) (by kernel_rfl) (by kernel_rfl)) ?_
  intro W base args ds gs before hval0 hW hcnd _
  have hval : ∀ (j : Nat) t v, Try.f10.params[j]? = some t → args[j]? = some v → Value.okWide Try.prog W .any base t v := hval0
  have hW' := hW
  obtain ⟨p, q, hA0, hV, rfl, hfz, hnd⟩ := hW
  have hA : DataW.TrodAll enc Try.prog W 0 (fun _ => true) true Try.f10.params.toList args.toList ds p := hA0
  rw [Try.params10] at hA hval
  obtain ⟨v0, vs0, d0, ds0, p0, q0, hargs, rfl, rfl, h0, r0⟩ := trodAll_cons hA
  obtain ⟨v1, vs1, d1, ds1, p1, q1, rfl, rfl, rfl, h1, r1⟩ := trodAll_cons r0
  obtain ⟨v2, vs2, d2, ds2, p2, q2, rfl, rfl, rfl, h2, r2⟩ := trodAll_cons r1
  obtain ⟨rfl, rfl, rfl⟩ := trodAll_nil r2
  obtain rfl : args = #[v0, v1, v2] := by cases args; simp_all
  obtain ⟨rfl, rfl⟩ := trodVars_none hV
  obtain ⟨A0, c0, l0, rfl, hArcs0, hlen0⟩ := open_arcs (hval 0 22 v0 rfl rfl) h0
  obtain ⟨a1, rfl, _, _, w1⟩ := open_int Try.underlying3 (hval 1 3 v1 rfl rfl) h1
  obtain ⟨a2, rfl, _, _, w2⟩ := open_int Try.underlying3 (hval 2 3 v2 rfl rfl) h2
  refine (obstacles_walk A0 c0 l0 a1 a2 W hArcs0 hlen0).mono fun e W' ⟨he, hb⟩ => ?_
  subst he
  exact ⟨_, rfl, law_post Try.laid (by kernel_rfl) rfl rfl Try.underlying4 rfl hW' hb⟩
theorem obstacles_holds : Rows.AttitudeObstaclesSaid :=
  OpenClaim.holds_of_wide 10 Try.f10 rfl rfl rfl rfl rfl rfl rfl ⟨rfl, rfl, rfl, rfl, rfl⟩ rfl rfl rfl rfl rfl (by kernel_rfl) Try.func10 (by kernel_rfl)
    (of_decide_eq_true (by kernel_rfl)) (by unfold Func.isWrapper; first | (rw [if_pos (by decide +kernel)]; kernel_rfl) | (rw [if_neg (by decide +kernel)]; exact ⟨rfl, rfl⟩))
    (fun os started H enc _ => obstacles_lifted os started H enc)
#print axioms obstacles_holds
end Go.Proofs.Ytaahdfmbbbjmaaa
