/-
  For every list of arcs, every two directions and every rotation, the law AttitudeRotates returns true, and its arguments read as before. No condition.
-/
import Derived.Test.YtaahdfmbbbjmaaaR1
import Derived.Test.YtaahdfmbbbjmaaaW12
namespace Go.Proofs.Ytaahdfmbbbjmaaa
open Go.ChangeShapes Go.WideShapes Go.ChangeAt Go.RowKit Go.Deep

theorem turn_val7 (A : Option Addr) (c : Nat) (l : ArcL) (a b : Int) (w : World) (x e' : Int) (hv : turn l a b = (x, e')) (h : Arcs w w.heap.size A l) (hm : l.length ≤ 100) (ho : OkArcs l) :
    Calls Try.prog 19 #[.int .i64 a, .int .i64 b, .slice A l.length c] w fun e w' => e = .returned (.tuple #[.int .i64 x, .int .i64 e']) ∧ Below w.heap.size w w' := by
  have := att_turn A c l a b w h hm ho
  rwa [hv] at this
theorem avoided_val7 (A : Option Addr) (c : Nat) (l : ArcL) (d : Int) (w : World) (x : Bool) (hv : av l d = x) (h : Arcs w w.heap.size A l) (hm : l.length ≤ 100) (ho : OkArcs l) :
    Calls Try.prog 17 #[.slice A l.length c, .int .i64 d] w fun e w' => e = .returned (.bool x) ∧ Below w.heap.size w w' := by
  have := att_avoided A c l d w h hm ho
  rwa [hv] at this
theorem worst_val7 (A : Option Addr) (c : Nat) (l : ArcL) (w : World) (x : Int) (hv : worstOf l = x) (h : Arcs w w.heap.size A l) (hm : l.length ≤ 100) (ho : OkArcs l) :
    Calls Try.prog 25 #[.slice A l.length c] w fun e w' => e = .returned (.int .i64 x) ∧ Below w.heap.size w w' := by
  have := att_worst A c l w h hm ho
  rwa [hv] at this
theorem rotates_walk (A0 : Option Addr) (c0 : Nat) (l : ArcL) (a b n : Int) (w : World) (h0 : Arcs w w.heap.size A0 l) (hm0 : l.length ≤ 9223372036854775807) (ha : (Lit.int .u16 a).wf = true) (hb_ : (Lit.int .u16 b).wf = true) (hn : (Lit.int .u16 n).wf = true) :
    Calls Try.prog 9 #[.slice A0 l.length c0, .int .u16 a, .int .u16 b, .int .u16 n] w fun e w' => e = .returned (.bool true) ∧ Below w.heap.size w w' := by
  have ba := bounds_u16 ha
  have bb := bounds_u16 hb_
  have bn := bounds_u16 hn
  have q1 : 0 ≤ a := by omega
  have q2 : a ≤ 65535 := by omega
  have q3 : 0 ≤ b := by omega
  have q4 : b ≤ 65535 := by omega
  have q5 : 0 ≤ n := by omega
  have q6 : n ≤ 65535 := by omega
  clear ba bb bn ha hb_ hn
  have HO := bx (okArcs_made l)
  have HN := bx (show (made l).length ≤ 100 by have := made_len l; omega)
  have HO2 := bx (okArcs_rot (made l) n)
  have HN2 := bx (show (rot (made l) n).length ≤ 100 by have := made_len l; simp [rot]; omega)
  obtain ⟨x, e', hv⟩ : ∃ x e', turn (made l) a b = (x, e') := ⟨_, _, rfl⟩
  have HU := bx ((turn_rot (made l) n a b).trans hv)
  have HV := bx hv
  obtain ⟨z, hz⟩ : ∃ z, worstOf (made l) = z := ⟨_, rfl⟩
  have HY := bx ((worst_rot (made l) n).trans hz)
  have HZ := bx hz
  obtain ⟨t, ht⟩ : ∃ t, av (made l) a = t := ⟨_, rfl⟩
  have HS := bx ((av_rot (made l) n a).trans ht)
  have HT := bx ht
  clear hv hz ht
  go_enter Try.func9, Try.ntmps9
  go_wp2_with fail
  refine (ref_made A0 c0 l w h0 hm0).mono ?_
  rintro e w1 ⟨A0', c0', rfl, hr0, hx⟩
  have hb := hx
  clear hx
  have hb0 : Below w1.heap.size w1 w1 := Below.refl _ _
  go_wp2_with fail
  refine (ref_rotated A0' c0' (made l) n w1 ((hr0.below hb0).more hb0.size) HN.out HO.out q5 q6).mono ?_
  rintro e w2 ⟨A1', c1', rfl, hr1, hx⟩
  replace hb0 := hb0.trans (hx.mono hb0.size)
  clear hx
  have hb1 : Below w2.heap.size w2 w2 := Below.refl _ _
  go_wp2_with fail
  refine (turn_val7 A0' c0' (made l) a b w2 x e' HV.out ((hr0.below hb0).more hb0.size) HN.out HO.out).mono ?_
  rintro e w3 ⟨rfl, hx⟩
  replace hb0 := hb0.trans (hx.mono hb0.size)
  replace hb1 := hb1.trans (hx.mono hb1.size)
  clear hx
  go_wp2_with fail
  refine (turn_val7 A1' c1' (rot (made l) n) (a + n) (b + n) w3 x e' HU.out ((hr1.below hb1).more hb1.size) HN2.out HO2.out).mono ?_
  rintro e w4 ⟨rfl, hx⟩
  replace hb0 := hb0.trans (hx.mono hb0.size)
  replace hb1 := hb1.trans (hx.mono hb1.size)
  clear hx
  go_wp2_with fail
  refine (avoided_val7 A0' c0' (made l) a w4 t HT.out ((hr0.below hb0).more hb0.size) HN.out HO.out).mono ?_
  rintro e w5 ⟨rfl, hx⟩
  replace hb0 := hb0.trans (hx.mono hb0.size)
  replace hb1 := hb1.trans (hx.mono hb1.size)
  clear hx
  go_wp2_with fail
  refine (avoided_val7 A1' c1' (rot (made l) n) (a + n) w5 t HS.out ((hr1.below hb1).more hb1.size) HN2.out HO2.out).mono ?_
  rintro e w6 ⟨rfl, hx⟩
  replace hb0 := hb0.trans (hx.mono hb0.size)
  replace hb1 := hb1.trans (hx.mono hb1.size)
  clear hx
  go_wp2_with fail
  refine (worst_val7 A0' c0' (made l) w6 z HZ.out ((hr0.below hb0).more hb0.size) HN.out HO.out).mono ?_
  rintro e w7 ⟨rfl, hx⟩
  replace hb0 := hb0.trans (hx.mono hb0.size)
  replace hb1 := hb1.trans (hx.mono hb1.size)
  clear hx
  go_wp2_with fail
  refine (worst_val7 A1' c1' (rot (made l) n) w7 z HY.out ((hr1.below hb1).more hb1.size) HN2.out HO2.out).mono ?_
  rintro e w8 ⟨rfl, hx⟩
  replace hb0 := hb0.trans (hx.mono hb0.size)
  replace hb1 := hb1.trans (hx.mono hb1.size)
  clear hx
  go_wp2_with fail
  refine (lives_calls _).mono ?_
  rintro e w9 ⟨rfl, hx⟩
  go_wp2
  go_ret
  exact ⟨rfl, hb.trans ((hb0.trans (hx.mono hb0.size)).mono hb.size)⟩

set_option maxRecDepth 100000 in
theorem rotates_lifted (os : Os) (started : os.Started) (H : Type) (enc : TypeId × Value → H) :
    ReturnsInHanded {} Try.checked os 9 .any (Rows.attitudeRotatesSpec.pre6 enc Try.prog Try.f9 Rows.attitudeRotatesRow.domain false) (Rows.attitudeRotatesSpec.post enc Try.prog Try.f9 false true false false) := by
  refine returnsInHanded_of_change (C := Try.checked) own started (by kernel_rfl) Try.func9
    (ChangeSpec.witness6 (enc := enc) (C := Try.checked) false ⟨#[], #[.slice none 0 0, .int .u16 0, .int .u16 0, .int .u16 0], []⟩ 8 (by kernel_rfl) (by kernel_rfl) (by kernel_rfl) (by kernel_rfl)) ?_
  intro W base args ds gs before hval0 hW hcnd _
  have hval : ∀ (j : Nat) t v, Try.f9.params[j]? = some t → args[j]? = some v → Value.okWide Try.prog W .any base t v := hval0
  have hW' := hW
  obtain ⟨p, q, hA0, hV, rfl, hfz, hnd⟩ := hW
  have hA : DataW.TrodAll enc Try.prog W 0 (fun _ => true) true Try.f9.params.toList args.toList ds p := hA0
  rw [Try.params9] at hA hval
  obtain ⟨v0, vs0, d0, ds0, p0, q0, hargs, rfl, rfl, h0, r0⟩ := trodAll_cons hA
  obtain ⟨v1, vs1, d1, ds1, p1, q1, rfl, rfl, rfl, h1, r1⟩ := trodAll_cons r0
  obtain ⟨v2, vs2, d2, ds2, p2, q2, rfl, rfl, rfl, h2, r2⟩ := trodAll_cons r1
  obtain ⟨v3, vs3, d3, ds3, p3, q3, rfl, rfl, rfl, h3, r3⟩ := trodAll_cons r2
  obtain ⟨rfl, rfl, rfl⟩ := trodAll_nil r3
  obtain rfl : args = #[v0, v1, v2, v3] := by cases args; simp_all
  obtain ⟨rfl, rfl⟩ := trodVars_none hV
  obtain ⟨A0, c0, l0, rfl, hArcs0, hlen0⟩ := open_arcs (hval 0 22 v0 rfl rfl) h0
  obtain ⟨a1, rfl, _, _, w1⟩ := open_int Try.underlying31 (hval 1 31 v1 rfl rfl) h1
  obtain ⟨a2, rfl, _, _, w2⟩ := open_int Try.underlying31 (hval 2 31 v2 rfl rfl) h2
  obtain ⟨a3, rfl, _, _, w3⟩ := open_int Try.underlying31 (hval 3 31 v3 rfl rfl) h3
  refine (rotates_walk A0 c0 l0 a1 a2 a3 W hArcs0 hlen0 w1 w2 w3).mono fun e W' ⟨he, hb⟩ => ?_
  subst he
  exact ⟨_, rfl, law_post Try.laid (by kernel_rfl) rfl rfl Try.underlying4 rfl hW' hb⟩
theorem rotates_holds : Rows.AttitudeRotatesSaid :=
  OpenClaim.holds_of_wide 9 Try.f9 rfl rfl rfl rfl rfl rfl rfl ⟨rfl, rfl, rfl, rfl, rfl⟩ rfl rfl rfl rfl rfl (by kernel_rfl) Try.func9 (by kernel_rfl)
    (of_decide_eq_true (by kernel_rfl)) (by unfold Func.isWrapper; first | (rw [if_pos (by decide +kernel)]; kernel_rfl) | (rw [if_neg (by decide +kernel)]; exact ⟨rfl, rfl⟩))
    (fun os started H enc _ => rotates_lifted os started H enc)
#print axioms rotates_holds
end Go.Proofs.Ytaahdfmbbbjmaaa
