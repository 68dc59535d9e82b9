/-
  For every list of arcs, every two numbers and every rate, the law AttitudePath returns true, and its arguments read as before. No condition.
-/
import Derived.Test.YtaahdfmbbbjmaaaR1
import Derived.Test.YtaahdfmbbbjmaaaW12
namespace Go.Proofs.Ytaahdfmbbbjmaaa
open Go.ChangeShapes Go.WideShapes Go.ChangeAt Go.RowKit Go.Deep

theorem turn_val5 (A : Option Addr) (c : Nat) (l : ArcL) (a b : Int) (w : World) (x e' : Int) (hv : turn l a b = (x, e')) (h : Arcs w w.heap.size A l) (hm : l.length ≤ 100) (ho : OkArcs l) :
    Calls Try.prog 19 #[.int .i64 a, .int .i64 b, .slice A l.length c] w fun e w' => e = .returned (.tuple #[.int .i64 x, .int .i64 e']) ∧ Below w.heap.size w w' := by
  have := att_turn A c l a b w h hm ho
  rwa [hv] at this
theorem avoided_val5 (A : Option Addr) (c : Nat) (l : ArcL) (d : Int) (w : World) (x : Bool) (hv : av l d = x) (h : Arcs w w.heap.size A l) (hm : l.length ≤ 100) (ho : OkArcs l) :
    Calls Try.prog 17 #[.slice A l.length c, .int .i64 d] w fun e w' => e = .returned (.bool x) ∧ Below w.heap.size w w' := by
  have := att_avoided A c l d w h hm ho
  rwa [hv] at this
theorem step_val5 (a d r : Int) (w : World) (x y : Int) (hx : (a + stepD d r) % 360 = x) (hy : d - stepD d r = y) (h1 : -360 ≤ d) (h2 : d ≤ 360) (h3 : 1 ≤ r) (h4 : r ≤ 360) :
    Calls Try.prog 21 #[.int .i64 a, .int .i64 d, .int .i64 r] w fun e w' => e = .returned (.tuple #[.int .i64 x, .int .i64 y]) ∧ w = w' := by
  have := att_step a d r w h1 h2 h3 h4
  rwa [hx, hy] at this
theorem ticks_val5 (d r n : Int) (w : World) (hn : ticks d r = n) (h1 : -360 ≤ d) (h2 : d ≤ 360) (h3 : 1 ≤ r) (h4 : r ≤ 360) :
    Calls Try.prog 23 #[.int .i64 d, .int .i64 r] w fun e w' => e = .returned (.int .i64 n) ∧ w = w' := by
  have := att_ticks d r w h1 h2 h3 h4
  rwa [hn] at this
theorem PathAt.next {l : ArcL} {s d r p x n u z : Int} (h : PathAt l s d r p x n) (h1 : 1 ≤ r) (hx : x ≠ 0) (hu : (p + stepD x r) % 360 = u) (hz : x - stepD x r = z) :
    PathAt l s d r u z (n + 1) := by
  have := h.step h1 hx
  rw [hz] at this
  have e : (p % 360 + stepD x r) % 360 = u := by omega
  rwa [e] at this
set_option maxRecDepth 10000 in
theorem path_walk (A0 : Option Addr) (c0 : Nat) (l : ArcL) (a b y : Int) (w : World) (h0 : Arcs w w.heap.size A0 l) (hm0 : l.length ≤ 9223372036854775807) (wy : (Lit.int .u16 y).wf = true) :
    Calls Try.prog 7 #[.slice A0 l.length c0, .int .i64 a, .int .i64 b, .int .u16 y] w fun e w' => e = .returned (.bool true) ∧ Below w.heap.size w w' := by
  have by1 := bounds_u16 wy
  have q1 : 0 ≤ y := by omega
  have q2 : y ≤ 65535 := by omega
  have q3 : 0 ≤ y % 360 := by omega
  have q4 : y % 360 ≤ 359 := by omega
  clear by1 wy
  have HO := bx (okArcs_made l)
  have HN := bx (show (made l).length ≤ 100 by have := made_len l; omega)
  obtain ⟨d, f, hv⟩ : ∃ d f, turn (made l) a b = (d, f) := ⟨_, _, rfl⟩
  obtain ⟨b1, b2⟩ := turn_bd (made l) a b
  have hok := @turn_ok_free (made l) a b
  have hto := turn_to (made l) a b
  have herr := turn_err (made l) a b
  rw [hv] at b1 b2 hok hto herr
  simp only at b1 b2 hok hto herr
  have HV := bx hv
  clear hv
  rcases herr with rfl | ⟨rfl, rfl⟩
  case inr =>
    clear hok hto
    go_enter Try.func7, Try.ntmps7
    go_wp2_with fail
    refine (ref_made A0 c0 l w h0 hm0).mono ?_
    rintro e w1 ⟨A0', c0', rfl, hr0, hb⟩
    go_wp2_with fail
    refine (turn_val5 A0' c0' (made l) a b w1 0 1 HV.out hr0 HN.out HO.out).mono ?_
    rintro e w2 ⟨rfl, hb0⟩
    go_wp2_with fail
    refine (lives_calls _).mono ?_
    rintro e w9 ⟨rfl, hx⟩
    go_wp2
    go_ret
    exact ⟨rfl, hb.trans ((hb0.trans (hx.mono hb0.size)).mono hb.size)⟩
  have HF := bx (hok rfl)
  have HT := bx (hto rfl)
  clear hok hto
  have tb := @ticks_bd d (1 + y % 360) (by omega) b1 b2
  obtain ⟨t, ht⟩ : ∃ t, ticks d (1 + y % 360) = t := ⟨_, rfl⟩
  rw [ht] at tb
  obtain ⟨tb1, tb2⟩ := tb
  have HTK := bx ht
  clear ht
  have HA0 := bx (show av (made l) (a % 360) = false by
    have := (show PathAt (made l) a d (1 + y % 360) (a % 360) d 0 from ⟨by rw [Int.sub_self, Int.add_zero], by omega, by omega, by omega⟩).free HF.out (by omega) 0 (by omega)
    simpa using this)
  go_enter Try.func7, Try.ntmps7
  go_wp2_with fail
  refine (ref_made A0 c0 l w h0 hm0).mono ?_
  rintro e w1 ⟨A0', c0', rfl, hr0, hb⟩
  go_wp2_with fail
  refine (turn_val5 A0' c0' (made l) a b w1 d 0 HV.out hr0 HN.out HO.out).mono ?_
  rintro e w2 ⟨rfl, hb0⟩
  go_wp2_with fail
  refine (attNormal _ _).mono ?_
  rintro e w' ⟨rfl, rfl⟩
  go_wp2_with fail
  refine (avoided_val5 A0' c0' (made l) (a % 360) w2 false HA0.out ((hr0.below hb0).more hb0.size) HN.out HO.out).mono ?_
  rintro e w3 ⟨rfl, hx⟩
  replace hb0 := hb0.trans (hx.mono hb0.size)
  clear hx
  go_wp2
  go_loopw [13, 14, 15, 16, 17, 18, 19] (fun at_ left n _ _ _ _ wr => ∃ (p x k : Int), at_ = .int .i64 p ∧ left = .int .i64 x ∧ n = .int .i64 k ∧ PathAt (made l) a d (1 + y % 360) p x k ∧ Below w1.heap.size w1 wr)
    (fun _ left _ _ _ _ _ _ => (ticks (intOf left) (1 + y % 360)).toNat)
  case atStart => exact ⟨_, _, _, rfl, rfl, rfl, ⟨by rw [Int.sub_self, Int.add_zero], by omega, by omega, by omega⟩, hb0⟩
  case round =>
    clear hb0
    obtain ⟨p, x, k, rfl, rfl, rfl, hp, hb0⟩ := hrel
    have HP := bx hp
    obtain ⟨p0, p1, p2, p3⟩ := hp
    have x1 : -359 ≤ x := by omega
    have x2 : x ≤ 359 := by omega
    have tx := (@ticks_bd x (1 + y % 360) (by omega) x1 x2).1
    rw [HTK.out] at p3
    have k1 : k ≤ 359 := by omega
    have pa : 0 ≤ p := by omega
    have pb : p ≤ 359 := by omega
    by_cases hx0 : x = 0
    · subst hx0
      rw [ticks_zero (by omega)] at p3
      obtain rfl : k = t := by omega
      have HPB := bx (show b % 360 = p by have := HT.out; omega)
      clear p0 p1 p3 tx
      go_wp2_with fail
      refine (normal_val b p wr HPB.out).mono ?_
      rintro e w' ⟨rfl, rfl⟩
      go_wp2_with fail
      refine (ticks_val5 d (1 + y % 360) k _ HTK.out (by omega) (by omega) (by omega) (by omega)).mono ?_
      rintro e w' ⟨rfl, rfl⟩
      go_wp2_with fail
      refine (lives_calls _).mono ?_
      rintro e w9 ⟨rfl, hx⟩
      go_wp2
      go_ret
      exact ⟨rfl, hb.trans ((hb0.trans (hx.mono hb0.size)).mono hb.size)⟩
    · obtain ⟨s1, s2, s3, s4⟩ := @stepD_same x (1 + y % 360) (by omega)
      obtain ⟨u, hu⟩ : ∃ u, (p + stepD x (1 + y % 360)) % 360 = u := ⟨_, rfl⟩
      obtain ⟨z, hz⟩ : ∃ z, x - stepD x (1 + y % 360) = z := ⟨_, rfl⟩
      have u1 : 0 ≤ u := by omega
      have u2 : u ≤ 359 := by omega
      have z1 : x < 0 → x ≤ z ∧ z ≤ 0 := by omega
      have z2 : 0 ≤ x → 0 ≤ z ∧ z ≤ x := by omega
      have z3 : stepD x (1 + y % 360) = x - z := by omega
      have HNX := bx (HP.out.next (by omega) hx0 hu hz)
      have HU := bx hu
      have HZ := bx hz
      have HTZ := bx (show ticks z (1 + y % 360) + 1 = ticks x (1 + y % 360) by rw [← hz, ticks_step (by omega) hx0]; omega)
      have HFR : ∀ i : Nat, i ≤ (x - z).natAbs → Bx (av (made l) (if x < 0 then p - i else p + i) = false) := fun i hi => ⟨HP.out.free HF.out (by omega) i (by rw [z3]; omega)⟩
      clear s1 s2 s3 s4 hu hz p0 p1 p3 tx z3
      have c1 : (x != 0) = true := by simp [hx0]
      clear hx0
      go_wp2_with fail
      refine (step_val5 p x (1 + y % 360) wr u z HU.out HZ.out (by omega) (by omega) (by omega) (by omega)).mono ?_
      rintro e w' ⟨rfl, rfl⟩
      go_wp2
      have hbs := hb0
      clear hb0
      go_loopw [18, 19] (fun kk _ wi => ∃ i : Nat, 1 ≤ i ∧ i ≤ (x - z).natAbs + 1 ∧ kk = .int .i64 i ∧ Below w1.heap.size w1 wi) (fun kk _ _ => (x - z).natAbs + 1 - (intOf kk).toNat)
      case atStart => exact ⟨1, by omega, by omega, rfl, hbs⟩
      case round =>
        obtain ⟨i, hi1, hi2, rfl, hbi⟩ := hrel
        clear hbs
        by_cases hlt : i ≤ (x - z).natAbs
        · have HI := HFR i hlt
          by_cases hxn : x < 0
          · rw [if_pos hxn] at HI
            obtain ⟨z1a, z1b⟩ := z1 hxn
            clear z1 z2
            have g1 : (i : Int) ≤ max (x - z) (z - x) := by omega
            have g2 : (i : Int) ≤ 359 := by omega
            go_wp2_with fail
            refine (avoided_val5 A0' c0' (made l) (p - i) wr false HI.out ((hr0.below hbi).more hbi.size) HN.out HO.out).mono ?_
            rintro e w5 ⟨rfl, hx⟩
            go_wp2
            go_roundw
            case rel => exact ⟨i + 1, by omega, by omega, by go_num, hbi.trans (hx.mono hbi.size)⟩
            case measure => simp [intOf]; omega
          · rw [if_neg hxn] at HI
            obtain ⟨z1a, z1b⟩ := z2 (by omega)
            clear z1 z2
            have g1 : (i : Int) ≤ max (x - z) (z - x) := by omega
            have g2 : (i : Int) ≤ 359 := by omega
            go_wp2_with fail
            refine (avoided_val5 A0' c0' (made l) (p + i) wr false HI.out ((hr0.below hbi).more hbi.size) HN.out HO.out).mono ?_
            rintro e w5 ⟨rfl, hx⟩
            go_wp2
            go_roundw
            case rel => exact ⟨i + 1, by omega, by omega, by go_num, hbi.trans (hx.mono hbi.size)⟩
            case measure => simp [intOf]; omega
        · have g1 : ¬ (i : Int) ≤ max (x - z) (z - x) := by omega
          go_wp2
          go_roundw
          case rel => exact ⟨u, z, k + 1, rfl, rfl, rfl, HNX.out, hbi⟩
          case measure => have := HTZ.out; have := (@ticks_bd z (1 + y % 360) (by omega) (by omega) (by omega)).1; simp [intOf]; omega

set_option maxRecDepth 100000 in
theorem path_lifted (os : Os) (started : os.Started) (H : Type) (enc : TypeId × Value → H) :
    ReturnsInHanded {} Try.checked os 7 .any (Rows.attitudePathSpec.pre6 enc Try.prog Try.f7 Rows.attitudePathRow.domain false) (Rows.attitudePathSpec.post enc Try.prog Try.f7 false true false false) := by
  refine returnsInHanded_of_change (C := Try.checked) own started (by kernel_rfl) Try.func7
    (ChangeSpec.witness6 (enc := enc) (C := Try.checked) false ⟨#[], #[.slice none 0 0, .int .i64 0, .int .i64 0, .int .u16 0], []⟩ 8 (by kernel_rfl) (by kernel_rfl) (by kernel_rfl) (by kernel_rfl)) ?_
  intro W base args ds gs before hval0 hW hcnd _
  have hval : ∀ (j : Nat) t v, Try.f7.params[j]? = some t → args[j]? = some v → Value.okWide Try.prog W .any base t v := hval0
  have hW' := hW
  obtain ⟨p, q, hA0, hV, rfl, hfz, hnd⟩ := hW
  have hA : DataW.TrodAll enc Try.prog W 0 (fun _ => true) true Try.f7.params.toList args.toList ds p := hA0
  rw [Try.params7] at hA hval
  obtain ⟨v0, vs0, d0, ds0, p0, q0, hargs, rfl, rfl, h0, r0⟩ := trodAll_cons hA
  obtain ⟨v1, vs1, d1, ds1, p1, q1, rfl, rfl, rfl, h1, r1⟩ := trodAll_cons r0
  obtain ⟨v2, vs2, d2, ds2, p2, q2, rfl, rfl, rfl, h2, r2⟩ := trodAll_cons r1
  obtain ⟨v3, vs3, d3, ds3, p3, q3, rfl, rfl, rfl, h3, r3⟩ := trodAll_cons r2
  obtain ⟨rfl, rfl, rfl⟩ := trodAll_nil r3
  obtain rfl : args = #[v0, v1, v2, v3] := by cases args; simp_all
  obtain ⟨rfl, rfl⟩ := trodVars_none hV
  obtain ⟨A0, c0, l0, rfl, hArcs0, hlen0⟩ := open_arcs (hval 0 22 v0 rfl rfl) h0
  obtain ⟨a1, rfl, _, _, w1⟩ := open_int Try.underlying3 (hval 1 3 v1 rfl rfl) h1
  obtain ⟨a2, rfl, _, _, w2⟩ := open_int Try.underlying3 (hval 2 3 v2 rfl rfl) h2
  obtain ⟨a3, rfl, _, _, w3⟩ := open_int Try.underlying31 (hval 3 31 v3 rfl rfl) h3
  refine (path_walk A0 c0 l0 a1 a2 a3 W hArcs0 hlen0 w3).mono fun e W' ⟨he, hb⟩ => ?_
  subst he
  exact ⟨_, rfl, law_post Try.laid (by kernel_rfl) rfl rfl Try.underlying4 rfl hW' hb⟩
theorem path_holds : Rows.AttitudePathSaid :=
  OpenClaim.holds_of_wide 7 Try.f7 rfl rfl rfl rfl rfl rfl rfl ⟨rfl, rfl, rfl, rfl, rfl⟩ rfl rfl rfl rfl rfl (by kernel_rfl) Try.func7 (by kernel_rfl)
    (of_decide_eq_true (by kernel_rfl)) (by unfold Func.isWrapper; first | (rw [if_pos (by decide +kernel)]; kernel_rfl) | (rw [if_neg (by decide +kernel)]; exact ⟨rfl, rfl⟩))
    (fun os started H enc _ => path_lifted os started H enc)
#print axioms path_holds
end Go.Proofs.Ytaahdfmbbbjmaaa
