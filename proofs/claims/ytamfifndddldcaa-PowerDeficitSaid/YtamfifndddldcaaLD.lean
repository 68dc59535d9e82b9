/-
  For every table made of numbers, craft, tick and powers, the law PowerDeficit returns true, and its arguments read as before. No condition.
-/
import Derived.Test.YtamfifndddldcaaM6
import Derived.Test.YtamfifndddldcaaW13
import Derived.Test.YtamfifndddldcaaR4
namespace Go.Proofs.Ytamfifndddldcaa
open Go.ChangeShapes Go.WideShapes Go.ChangeAt Go.RowKit Go.Deep Go.Shelf

set_option maxHeartbeats 1000000 in
set_option maxRecDepth 10000 in
theorem dfc_walk (A0 : Option Addr) (c0 : Nat) (l : List Int) (a1 a2 a3 a4 : Int) (w : World) (h0 : Halfs w (.slice A0 l.length c0) l) (hm0 : l.length ≤ 9223372036854775807) (hx0 : ∀ n ∈ l, 0 ≤ n ∧ n ≤ 65535)
    (p1 : 0 ≤ a1) (_ : a1 ≤ 255) (p2 : 0 ≤ a2) (q2 : a2 ≤ 255) (p3 : 0 ≤ a3) (q3 : a3 ≤ 65535) (p4 : 0 ≤ a4) (q4 : a4 ≤ 65535) :
    Calls Try.prog 9 #[.slice A0 l.length c0, .int .u8 a1, .int .u8 a2, .int .u16 a3, .int .u16 a4] w fun e w' => e = .returned (.bool true) ∧ From w w' := by
  have HT := bx (table_calls A0 c0 l w h0 hm0 hx0)
  have htab := tableL_tab l (fun n hn => (hx0 n hn).1)
  have htab0 := tableL_tab0 l (fun n hn => (hx0 n hn).1)
  have r1 : a1.tmod 2 = a1 % 2 := tmod_nn p1 2
  obtain ⟨c, hc⟩ : ∃ z, a1 % 2 = z := ⟨_, rfl⟩
  rw [hc] at r1
  have b1 : 0 ≤ c ∧ c ≤ 1 := by omega
  have HTab := bx htab
  have HTab0 := bx htab0
  clear h0 hm0 hx0 htab htab0 hc
  generalize tableL l = t at *
  have hend := endT_bd t HTab.out.bd
  obtain ⟨en, hen⟩ : ∃ z, endT t = z := ⟨_, rfl⟩
  rw [hen] at hend
  obtain ⟨e1, e2⟩ := hend
  obtain ⟨n1, hn1⟩ : ∃ z, needT t c a2 a3 a4 = z := ⟨_, rfl⟩
  have HLaw := bx (show n1 = mostD t c a2 a3 a4 (en + 1 - a2).toNat by rw [← hn1, ← hen]; exact deficit_law t HTab0.out c a2 a3 a4)
  have HN1 := bx hn1
  have HEN := bx hen
  clear hn1 hen
  go_enter Try.func9, Try.ntmps9
  go_wp2_with fail
  refine HT.out.mono ?_
  rintro e w1 ⟨A, cc, rfl, o1, k1⟩
  have HW := bx (wins_of_own o1)
  clear o1
  go_wp2_with fail
  refine (refEnd_calls A cc t w1 HW.out (by have := HTab.out.len; omega) en HEN.out).mono ?_
  rintro e w2 ⟨rfl, hw2⟩
  subst hw2
  have HK := bx k1
  clear k1
  go_wp2_with fail
  go_loopw [15, 16, 17] (fun v15 v16 _ wr => ∃ (i : Nat) (k : Int), k = a2 + i ∧ (i = 0 ∨ k ≤ en + 1) ∧ v16 = .int .i64 k ∧ v15 = .int .i64 (mostD t c a2 a3 a4 i) ∧ From w2 wr) (fun _ v16 _ _ => (en + 1 - intOf v16).toNat)
  case atStart => exact ⟨0, a2, by omega, .inl rfl, rfl, rfl, From.refl _⟩
  case round =>
    obtain ⟨i, k, hk, hi, rfl, rfl, hf⟩ := hrel
    have hm2 : mostD t c a2 a3 a4 (i + 1) = max (mostD t c a2 a3 a4 i) (defT t c a2 a3 a4 k) := by rw [hk]; rfl
    obtain ⟨mo, hmo⟩ : ∃ z, mostD t c a2 a3 a4 i = z := ⟨_, rfl⟩
    rw [hmo] at hm2 ⊢
    have HMo := bx hmo
    have HKk := bx hk
    clear hmo hk
    by_cases hle : k ≤ en
    · have d1 : decide (k ≤ en) = true := decide_eq_true hle
      obtain ⟨z, hz⟩ : ∃ z, ticksF a2 k (ofL 3 c 0 t) = z := ⟨_, rfl⟩
      have hzb := ticksF_bd a2 k (ofL 3 c 0 t) (fun x hx => HTab.out.bd x (List.mem_filter.1 hx).1)
      have hlen := ofL_len 3 c 0 t
      have htl := HTab.out.len
      rw [hz] at hzb
      unfold defT at hm2
      rw [hz] at hm2
      have HZ := bx hz
      have hka : a2 ≤ k := by have := HKk.out; omega
      have hpb := prod_bd (n := k - a2) (a := a3) (N := 2000000) (M := 70000) (by omega) (by omega) (by omega) (by omega) (by omega)
      have hzz : 0 ≤ z ∧ z ≤ 2000000000 := by omega
      clear hz hzb hlen htl
      have hqb := prod_bd (n := a4) (a := k - a2 - z) (N := 70000) (M := 2000000000) (by omega) (by omega) (by omega) (by omega) (by omega)
      rw [Int.mul_comm a4] at hqb
      obtain ⟨p, hp⟩ : ∃ p, (k - a2) * a3 = p := ⟨_, rfl⟩
      obtain ⟨q, hq⟩ : ∃ q, (k - a2 - z) * a4 = q := ⟨_, rfl⟩
      rw [hp] at hpb hm2
      rw [hq] at hqb hm2
      have HMx := bx hm2
      clear hm2
      go_wp2_with fail
      refine (ticks_calls A cc t 3 c 0 a2 k wr (HW.out.from hf) (by have := HTab.out.len; omega) (by omega) (by omega) HTab.out.bd z HZ.out).mono ?_
      rintro e w3 ⟨rfl, f3⟩
      go_wp2
      go_roundw
      case rel => exact ⟨i + 1, k + 1, by have := HKk.out; omega, .inr (by omega), by go_num, by rw [HMx.out], hf.trans f3⟩
      case measure => simp [intOf]; omega
    · have d1 : decide (k ≤ en) = false := decide_eq_false hle
      have hi2 : (en + 1 - a2).toNat = i := by have := HKk.out; omega
      have hmn : n1 = mo := by rw [HLaw.out, hi2]; exact HMo.out
      have HMn := bx hmn
      clear hi2 hmn hi
      go_wp2_with fail
      refine (need_calls A cc t c a2 a3 a4 wr (HW.out.from hf) HTab.out (by omega) (by omega) (by omega) n1 HN1.out).mono ?_
      rintro e w3 ⟨rfl, f3⟩
      obtain rfl := HMn.out
      go_wp2_with fail
      refine (lives_calls _).mono ?_
      rintro e w4 ⟨rfl, f4⟩
      go_wp2
      go_ret
      exact ⟨rfl, HK.out.trans (hf.trans (f3.trans f4))⟩
set_option maxRecDepth 100000 in
theorem dfc_lifted (os : Os) (started : os.Started) (H : Type) (enc : TypeId × Value → H) :
    ReturnsInHanded {} Try.checked os 9 .any (Rows.powerDeficitSpec.pre6 enc Try.prog Try.f9 Rows.powerDeficitRow.domain false) (Rows.powerDeficitSpec.post enc Try.prog Try.f9 false true false false) := by
  refine returnsInHanded_of_change (C := Try.checked) own started (by kernel_rfl) Try.func9
    (ChangeSpec.witness6 (enc := enc) (C := Try.checked) false ⟨#[], #[.slice none 0 0, .int .u8 0, .int .u8 0, .int .u16 0, .int .u16 0], []⟩ 8 (by kernel_rfl) (by kernel_rfl) (by kernel_rfl) (by kernel_rfl)) ?_
  intro W base args ds gs before hval0 hW hcnd _
  have hval : ∀ (j : Nat) t v, Try.f9.params[j]? = some t → args[j]? = some v → Value.okWide Try.prog W .any base t v := hval0
  have hW' := hW
  obtain ⟨p, q, hA0, hV, rfl, hfz, hnd⟩ := hW
  have hA : DataW.TrodAll enc Try.prog W 0 (fun _ => true) true Try.f9.params.toList args.toList ds p := hA0
  rw [Try.params9] at hA hval
  obtain ⟨v0, vs0, d0, ds0, p0, q0, hargs, rfl, rfl, h0, r0⟩ := trodAll_cons hA
  obtain ⟨v1, vs1, d1, ds1, p1, q1, rfl, rfl, rfl, h1, r1⟩ := trodAll_cons r0
  obtain ⟨v2, vs2, d2, ds2, p2, q2, rfl, rfl, rfl, h2, r2⟩ := trodAll_cons r1
  obtain ⟨v3, vs3, d3, ds3, p3, q3, rfl, rfl, rfl, h3, r3⟩ := trodAll_cons r2
  obtain ⟨v4, vs4, d4, ds4, p4, q4, rfl, rfl, rfl, h4, r4⟩ := trodAll_cons r3
  obtain ⟨rfl, rfl, rfl⟩ := trodAll_nil r4
  obtain rfl : args = #[v0, v1, v2, v3, v4] := by cases args; simp_all
  obtain ⟨rfl, rfl⟩ := trodVars_none hV
  obtain ⟨A0, c0, l0, rfl, hB0, hm0, hx0⟩ := open_half (hval 0 44 v0 rfl rfl) h0
  obtain ⟨a1, rfl, _, _, w1⟩ := open_int Try.underlying5 (hval 1 5 v1 rfl rfl) h1
  simp only [Lit.wf, Bool.and_eq_true, decide_eq_true_eq] at w1
  obtain ⟨a2, rfl, _, _, w2⟩ := open_int Try.underlying5 (hval 2 5 v2 rfl rfl) h2
  simp only [Lit.wf, Bool.and_eq_true, decide_eq_true_eq] at w2
  obtain ⟨a3, rfl, _, _, w3⟩ := open_int Try.underlying38 (hval 3 38 v3 rfl rfl) h3
  simp only [Lit.wf, Bool.and_eq_true, decide_eq_true_eq] at w3
  obtain ⟨a4, rfl, _, _, w4⟩ := open_int Try.underlying38 (hval 4 38 v4 rfl rfl) h4
  simp only [Lit.wf, Bool.and_eq_true, decide_eq_true_eq] at w4
  refine (dfc_walk A0 c0 l0 a1 a2 a3 a4 W hB0 hm0 hx0 w1.1 w1.2 w2.1 w2.2 w3.1 w3.2 w4.1 w4.2).mono fun e W' ⟨he, hb⟩ => ?_
  subst he
  exact ⟨_, rfl, law_post Try.laid (by kernel_rfl) rfl rfl Try.underlying4 rfl hW' hb⟩
theorem dfc_facts : joinedFacts Try.prog 9 Try.f9 Rows.powerDeficitSpec Rows.powerDeficitRow = true := by
  unfold joinedFacts
  rw [fact_enter, fact_lift, fact_make, fact_keys, fact_heard, fact_maps, Try.laid]
  kernel_rfl
theorem dfc_holds : Rows.PowerDeficitSaid :=
  OpenClaim.holds_of_wide 9 Try.f9 rfl rfl rfl rfl rfl rfl rfl ⟨rfl, rfl, rfl, rfl, rfl⟩ rfl rfl rfl rfl rfl (by kernel_rfl) Try.func9 dfc_facts
    (of_decide_eq_true (by kernel_rfl)) (by unfold Func.isWrapper; first | (rw [if_pos (by decide +kernel)]; kernel_rfl) | (rw [if_neg (by decide +kernel)]; exact ⟨rfl, rfl⟩))
    (fun os started H enc _ => dfc_lifted os started H enc)
#print axioms dfc_holds
end Go.Proofs.Ytamfifndddldcaa
