/-
  For every graph made of at most 8 units, and lists of at most 40 numbers, the law DiagnoseLeast returns true, and its arguments read as before. No condition.
-/
import Derived.Test.YtgfmnolghbiedaaR1
import Derived.Test.YtgfmnolghbiedaaK28
namespace Go.Proofs.Ytgfmnolghbiedaa
open Go.ChangeShapes Go.WideShapes Go.ChangeAt Go.RowKit Go.Deep

theorem allOf_len (sh : List (List Int)) (seen clear : List Int) (h : sh.length ≤ 20) : (allOf sh seen clear).length ≤ 1048576 := by
  rcases allOf_cases sh seen clear with ⟨h1, _⟩ | ⟨k, h1, h2, h3, h4⟩
  · rw [h1]; simp
  · rw [h3]
    have e1 := List.length_filter_le (fun s => expl sh s seen []) (subs (cand sh clear) k)
    have e2 := subs_len (cand sh clear) k
    have e3 : 2 ^ (cand sh clear).length ≤ 2 ^ 20 := Nat.pow_le_pow_right (by decide) (by have := cand_len sh clear; omega)
    omega
theorem leastOf_len {sh : List (List Int)} {seen clear s : List Int} (h : leastOf sh seen clear = some s) : s.length ≤ sh.length := by
  rcases least_cases sh seen clear with ⟨h1, _⟩ | ⟨a, r, h1, _, h3, _⟩
  · rw [h] at h1; cases h1
  · rw [h] at h1; cases h1; exact h3
set_option maxRecDepth 100000 in
set_option maxHeartbeats 4000000 in
theorem least_walk (q : Int) (A : Option Addr) (c : Nat) (l : List Int) (AS : Option Addr) (cS : Nat) (seen : List Int) (AC : Option Addr) (cC : Nat) (clear : List Int) (w : World)
    (hq0 : 0 ≤ q) (hq1 : q ≤ 255) (h : Byts w w.heap.size A l) (hm : l.length ≤ 9223372036854775807) (h1 : Ints w w.heap.size AS seen) (hm1 : seen.length ≤ 9223372036854775807) (h2 : Ints w w.heap.size AC clear) (hm2 : clear.length ≤ 9223372036854775807) :
    Calls Try.prog 4 #[.int .u8 q, .slice A l.length c, .slice AS seen.length cS, .slice AC clear.length cC] w fun e w' => e = .returned (.bool true) ∧ Below w.heap.size w w' := by
  by_cases hs : seen.length ≤ 40 ∧ clear.length ≤ 40
  · have HS := bx (short_calls none AS AC 0 0 seen.length cS clear.length cC w (by omega) hm1 hm2 true (by simp [hs]))
    have HM := bx (madeG_calls q A c l 8 w h hm hq0 hq1 (by omega))
    obtain ⟨n, hn⟩ : ∃ n, (q % 9).toNat = n := ⟨_, rfl⟩
    rw [hn] at HM
    have hshl := madeL_take_len l n 8
    obtain ⟨sh, hsh⟩ : ∃ sh, madeL (l.take 8) n = sh := ⟨_, rfl⟩
    rw [hsh] at HM hshl
    obtain ⟨T, hT⟩ : ∃ T, allOf sh seen clear = T := ⟨_, rfl⟩
    have HT := bx hT
    have hTl := bx (show T.length ≤ 9223372036854775807 by rw [← hT]; have := allOf_len sh seen clear (by omega); omega)
    clear hs hsh hn hT
    cases hlo : leastOf sh seen clear
    case none =>
      have HLO := bx hlo
      clear hlo
      go_enter Try.func4, Try.ntmps4
      go_wp2_with fail
      refine HS.out.mono ?_
      rintro e w' ⟨rfl, rfl⟩
      go_wp2_with fail
      refine (show Calls Try.prog 16 #[.int .u8 q, .slice A l.length c, .int .i64 8] _ _ from HM.out).mono ?_
      rintro e X ⟨AG, cG, rfl, hL, hbX⟩
      have hF : From w X := hbX
      go_wp2_with fail
      obtain ⟨W0, hW0⟩ : ∃ W0, X.alloc (.cells #[.int .i64 n, .slice AG sh.length cG] 24) = W0 := ⟨_, rfl⟩
      have hX0 : From X W0 := by rw [← hW0]; exact (Below.refl _ _).alloc (Nat.le_refl _) _
      have HG := bx (show GAt W0 X.heap.size n AG cG sh by rw [← hW0]; exact gat_new X n AG cG sh _)
      have hF0 := hF.trans hX0
      rw [hW0]
      have hGL := bx (hX0.lists hL)
      have hGS := bx (hF0.ints h1)
      have hGC := bx (hF0.ints h2)
      have HA1 := bx (fun (W : World) (k : From W0 W) => all_val n AG cG sh AS cS seen AC cC clear W (k.lists hGL.out) (by omega) (k.ints hGS.out) hm1 (k.ints hGC.out) hm2 T HT.out)
      have HA2 := bx (fun (W : World) (k : From W0 W) => refAll_val n AG cG sh AS cS seen AC cC clear W (k.lists hGL.out) (by omega) (k.ints hGS.out) hm1 (k.ints hGC.out) hm2 T HT.out)
      have hFF : From W0 W0 := Below.refl _ _
      clear hW0 hX0 hL
      refine (least_no n AG cG sh AS cS seen AC cC clear W0 (hFF.lists hGL.out) (by omega) (hFF.ints hGS.out) hm1 (hFF.ints hGC.out) hm2 HLO.out).mono ?_
      rintro e W1 ⟨rfl, hx1⟩
      have k1 := hFF.trans hx1
      obtain ⟨g0, g1⟩ := HG.out.from k1
      go_wp2_with fail
      refine (refLeast_no n AG cG sh AS cS seen AC cC clear W1 (k1.lists hGL.out) (by omega) (k1.ints hGS.out) hm1 (k1.ints hGC.out) hm2 HLO.out).mono ?_
      rintro e W2 ⟨rfl, hx2⟩
      have k2 := k1.trans hx2
      clear g0 g1 hFF
      have HG2 := bx (HG.out.from k2)
      have hFF : From W2 W2 := Below.refl _ _
      obtain ⟨g0, g1⟩ := HG2.out
      go_wp2_with fail
      go_region_held3 (fun w' => From W2 w' ∧ w'.cell? ⟨X.heap.size, 0, none⟩ = some (.int .i64 n) ∧ w'.cell? ⟨X.heap.size, 1, none⟩ = some (.slice AG sh.length cG))
        (first | exact HG2.out.keep (From.drew (by assumption)) | ((go_split_ands; exact HG2.out.keep (From.trans (by assumption) hx))))
        (first | (go_at_call 19; go_split_ands; refine (sameI_val none none 0 0 [] [] _ Ints.nil Ints.nil (by simp) true (by simp)).mono ?_; rintro e w4 ⟨rfl, hx⟩) | (go_at_call 21; refine (HA1.out _ (k2.trans (by go_split_ands; assumption))).mono ?_; rintro e w5 ⟨A5, c5, rfl, hI5, hx⟩) | (go_at_call 22; refine (HA2.out _ (k2.trans (by go_split_ands; assumption))).mono ?_; rintro e w6 ⟨A6, c6, rfl, hI6, hx⟩) | (go_at_call 20; refine (sameL_val A5 A6 c5 c6 T T _ (From.lists hx hI5) hI6 hTl.out true (by simp)).mono ?_; rintro e w7 ⟨rfl, hx⟩) | (go_at_call 11; refine (lives_calls _).mono ?_; rintro e w8 ⟨rfl, hx⟩))
      go_wp2
      go_ret
      go_split_ands
      exact ⟨rfl, hF0.trans (k2.trans (by assumption))⟩
    case some s =>
      have HLO := bx hlo
      have hsl := bx (show s.length ≤ 9223372036854775807 by have := leastOf_len hlo; omega)
      clear hlo
      go_enter Try.func4, Try.ntmps4
      go_wp2_with fail
      refine HS.out.mono ?_
      rintro e w' ⟨rfl, rfl⟩
      go_wp2_with fail
      refine (show Calls Try.prog 16 #[.int .u8 q, .slice A l.length c, .int .i64 8] _ _ from HM.out).mono ?_
      rintro e X ⟨AG, cG, rfl, hL, hbX⟩
      have hF : From w X := hbX
      go_wp2_with fail
      obtain ⟨W0, hW0⟩ : ∃ W0, X.alloc (.cells #[.int .i64 n, .slice AG sh.length cG] 24) = W0 := ⟨_, rfl⟩
      have hX0 : From X W0 := by rw [← hW0]; exact (Below.refl _ _).alloc (Nat.le_refl _) _
      have HG := bx (show GAt W0 X.heap.size n AG cG sh by rw [← hW0]; exact gat_new X n AG cG sh _)
      have hF0 := hF.trans hX0
      rw [hW0]
      have hGL := bx (hX0.lists hL)
      have hGS := bx (hF0.ints h1)
      have hGC := bx (hF0.ints h2)
      have HA1 := bx (fun (W : World) (k : From W0 W) => all_val n AG cG sh AS cS seen AC cC clear W (k.lists hGL.out) (by omega) (k.ints hGS.out) hm1 (k.ints hGC.out) hm2 T HT.out)
      have HA2 := bx (fun (W : World) (k : From W0 W) => refAll_val n AG cG sh AS cS seen AC cC clear W (k.lists hGL.out) (by omega) (k.ints hGS.out) hm1 (k.ints hGC.out) hm2 T HT.out)
      have hFF : From W0 W0 := Below.refl _ _
      clear hW0 hX0 hL
      refine (least_some n AG cG sh AS cS seen AC cC clear W0 (hFF.lists hGL.out) (by omega) (hFF.ints hGS.out) hm1 (hFF.ints hGC.out) hm2 s HLO.out).mono ?_
      rintro e W1 ⟨A1, c1, rfl, hI1, hx1⟩
      have k1 := hFF.trans hx1
      obtain ⟨g0, g1⟩ := HG.out.from k1
      go_wp2_with fail
      refine (refLeast_some n AG cG sh AS cS seen AC cC clear W1 (k1.lists hGL.out) (by omega) (k1.ints hGS.out) hm1 (k1.ints hGC.out) hm2 s HLO.out).mono ?_
      rintro e W2 ⟨A2, c2, rfl, hI2, hx2⟩
      have k2 := k1.trans hx2
      have HI1 := bx (From.ints hx2 hI1)
      have HI2 := bx hI2
      clear hI1 hI2 g0 g1 hFF
      have HG2 := bx (HG.out.from k2)
      have hFF : From W2 W2 := Below.refl _ _
      obtain ⟨g0, g1⟩ := HG2.out
      go_wp2_with fail
      go_region_held3 (fun w' => From W2 w' ∧ w'.cell? ⟨X.heap.size, 0, none⟩ = some (.int .i64 n) ∧ w'.cell? ⟨X.heap.size, 1, none⟩ = some (.slice AG sh.length cG))
        (first | exact HG2.out.keep (From.drew (by assumption)) | ((go_split_ands; exact HG2.out.keep (From.trans (by assumption) hx))))
        (first | (go_at_call 19; go_split_ands; refine (sameI_val A1 A2 c1 c2 s s _ (From.ints (by assumption) HI1.out) (From.ints (by assumption) HI2.out) hsl.out true (by simp)).mono ?_; rintro e w4 ⟨rfl, hx⟩) | (go_at_call 21; refine (HA1.out _ (k2.trans (by go_split_ands; assumption))).mono ?_; rintro e w5 ⟨A5, c5, rfl, hI5, hx⟩) | (go_at_call 22; refine (HA2.out _ (k2.trans (by go_split_ands; assumption))).mono ?_; rintro e w6 ⟨A6, c6, rfl, hI6, hx⟩) | (go_at_call 20; refine (sameL_val A5 A6 c5 c6 T T _ (From.lists hx hI5) hI6 hTl.out true (by simp)).mono ?_; rintro e w7 ⟨rfl, hx⟩) | (go_at_call 11; refine (lives_calls _).mono ?_; rintro e w8 ⟨rfl, hx⟩))
      go_wp2
      go_ret
      go_split_ands
      exact ⟨rfl, hF0.trans (k2.trans (by assumption))⟩
  · have HS := bx (short_calls none AS AC 0 0 seen.length cS clear.length cC w (by omega) hm1 hm2 false (by simp only [decide_eq_false_iff_not]; omega))
    clear hs
    go_enter Try.func4, Try.ntmps4
    go_wp2_with fail
    refine HS.out.mono ?_
    rintro e w' ⟨rfl, rfl⟩
    go_wp2_with fail
    refine (lives_calls _).mono ?_
    rintro e w9 ⟨rfl, hx⟩
    go_wp2
    go_ret
    exact ⟨rfl, hx⟩
set_option maxRecDepth 100000 in
theorem least_lifted (os : Os) (started : os.Started) (H : Type) (enc : TypeId × Value → H) :
    ReturnsInHanded {} Try.checked os 4 .any (Rows.diagnoseLeastSpec.pre6 enc Try.prog Try.f4 Rows.diagnoseLeastRow.domain false) (Rows.diagnoseLeastSpec.post enc Try.prog Try.f4 false true false false) := by
  refine returnsInHanded_of_change (C := Try.checked) own started (by kernel_rfl) Try.func4
    (ChangeSpec.witness6 (enc := enc) (C := Try.checked) false ⟨#[], #[.int .u8 0, .slice none 0 0, .slice none 0 0, .slice none 0 0], []⟩ 8 (by kernel_rfl) (by kernel_rfl) (by kernel_rfl) (by kernel_rfl)) ?_
  intro W base args ds gs before hval0 hW hcnd _
  have hval : ∀ (j : Nat) t v, Try.f4.params[j]? = some t → args[j]? = some v → Value.okWide Try.prog W .any base t v := hval0
  have hW' := hW
  obtain ⟨p, q, hA0, hV, rfl, hfz, hnd⟩ := hW
  have hA : DataW.TrodAll enc Try.prog W 0 (fun _ => true) true Try.f4.params.toList args.toList ds p := hA0
  rw [Try.params4] at hA hval
  obtain ⟨v0, vs0, d0, ds0, p0, q0, hargs, rfl, rfl, h0, r0⟩ := trodAll_cons hA
  obtain ⟨v1, vs1, d1, ds1, p1, q1, rfl, rfl, rfl, h1, r1⟩ := trodAll_cons r0
  obtain ⟨v2, vs2, d2, ds2, p2, q2, rfl, rfl, rfl, h2, r2⟩ := trodAll_cons r1
  obtain ⟨v3, vs3, d3, ds3, p3, q3, rfl, rfl, rfl, h3, r3⟩ := trodAll_cons r2
  obtain ⟨rfl, rfl, rfl⟩ := trodAll_nil r3
  obtain rfl : args = #[v0, v1, v2, v3] := by cases args; simp_all
  obtain ⟨rfl, rfl⟩ := trodVars_none hV
  obtain ⟨a0, rfl, _, _, w0⟩ := open_int Try.underlying5 (hval 0 5 v0 rfl rfl) h0
  simp only [Lit.wf, Bool.and_eq_true, decide_eq_true_eq] at w0
  obtain ⟨A1, c1, l1, rfl, hB1, hm1⟩ := open_bytsv (hval 1 31 v1 rfl rfl) h1
  obtain ⟨A2, c2, l2, rfl, hB2, hm2⟩ := open_intsv (hval 2 25 v2 rfl rfl) h2
  obtain ⟨A3, c3, l3, rfl, hB3, hm3⟩ := open_intsv (hval 3 25 v3 rfl rfl) h3
  refine (least_walk a0 A1 c1 l1 A2 c2 l2 A3 c3 l3 W w0.1 w0.2 hB1 hm1 hB2 hm2 hB3 hm3).mono fun e W' ⟨he, hb⟩ => ?_
  subst he
  exact ⟨_, rfl, law_post Try.laid (by kernel_rfl) rfl rfl Try.underlying4 rfl hW' hb⟩
theorem least_holds : Rows.DiagnoseLeastSaid :=
  OpenClaim.holds_of_wide 4 Try.f4 rfl rfl rfl rfl rfl rfl rfl ⟨rfl, rfl, rfl, rfl, rfl⟩ rfl rfl rfl rfl rfl (by kernel_rfl) Try.func4 (by kernel_rfl)
    (of_decide_eq_true (by kernel_rfl)) (by unfold Func.isWrapper; first | (rw [if_pos (by decide +kernel)]; kernel_rfl) | (rw [if_neg (by decide +kernel)]; exact ⟨rfl, rfl⟩))
    (fun os started H enc _ => least_lifted os started H enc)
#print axioms least_holds
end Go.Proofs.Ytgfmnolghbiedaa
