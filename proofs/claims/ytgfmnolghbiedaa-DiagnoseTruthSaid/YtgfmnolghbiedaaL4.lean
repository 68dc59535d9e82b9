/-
  For every graph made of at most 12 units and every set of faulty units, the law DiagnoseTruth returns true, and its arguments read as before. No condition.
-/
import Derived.Test.YtgfmnolghbiedaaR1
import Derived.Test.YtgfmnolghbiedaaK30
namespace Go.Proofs.Ytgfmnolghbiedaa
open Go.ChangeShapes Go.WideShapes Go.ChangeAt Go.RowKit Go.Deep

set_option maxRecDepth 100000 in
set_option maxHeartbeats 4000000 in
theorem truth_walk (q : Int) (A : Option Addr) (c : Nat) (l : List Int) (y z : Int) (w : World)
    (hq0 : 0 ≤ q) (hq1 : q ≤ 255) (h : Byts w w.heap.size A l) (hm : l.length ≤ 9223372036854775807) (hy0 : 0 ≤ y) (hy1 : y ≤ 65535) (hz0' : 0 ≤ z) (hz1' : z ≤ 255) :
    Calls Try.prog 9 #[.int .u8 q, .slice A l.length c, .int .u16 y, .int .u8 z] w fun e w' => e = .returned (.bool true) ∧ Below w.heap.size w w' := by
  obtain ⟨i0, hi, hz0, hz1, hz2⟩ := info_parts Try.infoInt
  have HM := bx (madeG_calls q A c l 12 w h hm hq0 hq1 (by omega))
  have hn8 : (q % 9).toNat ≤ 8 := by omega
  obtain ⟨n, hn⟩ : ∃ n, (q % 9).toNat = n := ⟨_, rfl⟩
  rw [hn] at HM hn8
  have hshl := madeL_take_len l n 12
  obtain ⟨sh, hsh⟩ : ∃ sh, madeL (l.take 12) n = sh := ⟨_, rfl⟩
  rw [hsh] at HM hshl
  have hul := bitsN_le y sh.length
  have hus' := bitsN_sub y sh.length
  obtain ⟨us, hus⟩ : ∃ us, bitsN y sh.length = us := ⟨_, rfl⟩
  rw [hus] at hul hus'
  have hsl := shown_le sh us n
  have hex0 := shown_expl sh us (bitsN z 8) n
  obtain ⟨seen, hseen⟩ : ∃ seen, shown sh us n = seen := ⟨_, rfl⟩
  rw [hseen] at hsl hex0
  have hkl := bitsN_le z 8
  obtain ⟨chk, hchk⟩ : ∃ chk, bitsN z 8 = chk := ⟨_, rfl⟩
  rw [hchk] at hkl hex0
  obtain ⟨a, hlo, hal⟩ := least_le hus' hex0
  have hce := cert_in hus' hex0
  have hcel : (certOf sh seen (clearOf seen chk n)).length ≤ 12 := by have := certN_le sh seen (cand sh (clearOf seen chk n)) (cand sh (clearOf seen chk n)).length; have := cand_len sh (clearOf seen chk n); unfold certOf; split <;> simp <;> omega
  have hclen := clearOf_le seen chk n
  obtain ⟨cl, hcl⟩ : ∃ cl, clearOf seen chk n = cl := ⟨_, rfl⟩
  rw [hcl] at hex0 hlo hce hcel hclen
  obtain ⟨ce, hce'⟩ : ∃ ce, certOf sh seen cl = ce := ⟨_, rfl⟩
  rw [hce'] at hce hcel
  have HCL := bx hcl
  have HCE' := bx hce'
  have HEX := bx hex0
  have HLO := bx hlo
  have HCE := bx hce
  have HUS := bx hus
  have HSE := bx hseen
  have HCH := bx hchk
  clear hn hsh hus hus' hseen hchk hex0 hlo hce hcl hce'
  go_enter Try.func9, Try.ntmps9
  go_wp2_with fail
  refine (show Calls Try.prog 16 #[.int .u8 q, .slice A l.length c, .int .i64 12] _ _ from HM.out).mono ?_
  rintro e X ⟨AG, cG, rfl, hL, hbX⟩
  have hF : From w X := hbX
  go_wp2_with fail
  obtain ⟨W0, hW0⟩ : ∃ W0, X.alloc (.cells #[.int .i64 n, .slice AG sh.length cG] 24) = W0 := ⟨_, rfl⟩
  have hX0 : From X W0 := by rw [← hW0]; exact (Below.refl _ _).alloc (Nat.le_refl _) _
  have HG := bx (show GAt W0 X.heap.size n AG cG sh by rw [← hW0]; exact gat_new X n AG cG sh _)
  have hF0 := hF.trans hX0
  rw [hW0]
  have hGL := bx (hX0.lists hL)
  clear hW0 hX0 hL hF hbX h
  refine (bits_val y sh.length W0 hy0 hy1 (by omega) us HUS.out).mono ?_
  rintro e W1 ⟨AU, cU, rfl, hU, hx1⟩
  have k1 : From W0 W1 := hx1
  obtain ⟨g0, g1⟩ := HG.out.from k1
  go_wp2_with fail
  refine (shown_val n AG cG sh AU cU us W1 (k1.lists hGL.out) (by omega) hU (by omega) (by omega) seen HSE.out).mono ?_
  rintro e W2 ⟨AS, cS, rfl, hS, hx2⟩
  have k2 : From W1 W2 := hx2
  have HG2 := bx (HG.out.from (k1.trans k2))
  have HL2 := bx ((k1.trans k2).lists hGL.out)
  have HU2 := bx (k2.ints hU)
  have HS2 := bx hS
  have hF2 := hF0.trans (k1.trans k2)
  clear g0 g1 hx1 hx2 hU hS
  go_wp2_with fail
  go_loopw [12, 13] (fun v i wr => ∃ k : Nat, k ≤ n ∧ i = .int .i64 k ∧ wr.ownsRow W2.heap.size 3 1 v (clearOf seen chk k).length (ic (clearOf seen chk k)) ∧ From W2 wr) (fun _ i _ => n - (intOf i).toNat)
  case atStart => exact ⟨0, Nat.zero_le _, rfl, World.ownsRow_nil _ _ _ _, Below.refl _ _⟩
  case round =>
    obtain ⟨k, hk, rfl, hown, hbw⟩ := hrel
    have hsz := Below.size hbw
    obtain ⟨g0, g1⟩ := HG2.out.from hbw
    have hCl := clearOf_le seen chk k
    have hB := clearOf_succ seen chk k
    by_cases hlt : k < n
    · cases hc : seen.contains (k : Int)
      · cases hd : chk.contains (k : Int)
        · rw [hc, hd] at hB
          have HC := bx hc
          have HD := bx hd
          have HB := bx (show clearOf seen chk (k + 1) = clearOf seen chk k from hB)
          clear hc hd hB
          go_wp2_with fail
          refine (has_val AS cS seen k wr (hbw.ints HS2.out) (by omega) false HC.out).mono ?_
          rintro e w3 ⟨rfl, rfl⟩
          go_wp2_with fail
          refine (bits_val z 8 w3 hz0' (by omega) (by omega) chk HCH.out).mono ?_
          rintro e w4 ⟨A4, c4, rfl, hI4, hx4⟩
          have ho4 := own_call hown hx4
          go_wp2_with fail
          refine (has_val A4 c4 chk k w4 hI4 (by omega) false HD.out).mono ?_
          rintro e w5 ⟨rfl, rfl⟩
          go_wp2
          go_roundw
          case rel => exact ⟨k + 1, by omega, by go_num, by rw [HB.out]; exact ho4, hbw.trans hx4⟩
          case measure => simp [intOf]; omega
        · rw [hc, hd] at hB
          have HC := bx hc
          have HD := bx hd
          have HB := bx (show clearOf seen chk (k + 1) = clearOf seen chk k ++ [(k : Int)] from hB)
          clear hc hd hB
          go_wp2_with fail
          refine (has_val AS cS seen k wr (hbw.ints HS2.out) (by omega) false HC.out).mono ?_
          rintro e w3 ⟨rfl, rfl⟩
          go_wp2_with fail
          refine (bits_val z 8 w3 hz0' (by omega) (by omega) chk HCH.out).mono ?_
          rintro e w4 ⟨A4, c4, rfl, hI4, hx4⟩
          have ho4 := own_call hown hx4
          have hb4 := hbw.trans hx4
          have hs4 := Below.size hb4
          go_wp2_with fail
          refine (has_val A4 c4 chk k w4 hI4 (by omega) true HD.out).mono ?_
          rintro e w5 ⟨rfl, rfl⟩
          go_wp2_with (at_builtin; refine wpList_append_own _ rfl _ _ 25 rfl W2.heap.size 3 i0 (.int .i64 0) 1 8 Try.underlying25 hi hz0 hz1 hz2 rfl (by decide) _ _ _ rfl (ho4.alloc _) ⟨w5.heap.size, 0, none⟩ 1 1 [.int .i64 k] rfl rfl (cell_one_new _ _ _) (by simp [Value.oneCell']) (by unfold maxLen; omega) (by omega) (by simp; omega) ?_; intro v' w6 o6 g6 _)
          have hb6 : From W2 w6 := (Below.alloc hb4 hs4 _).grown g6 (by simp; omega) (fun g hg => (ho4.lt g hg).1)
          go_roundw
          case rel => exact ⟨k + 1, by omega, by go_num, by rw [HB.out, ic_append, List.length_append]; exact o6, hb6⟩
          case measure => simp [intOf]; omega
      · rw [hc] at hB
        have HC := bx hc
        have HB := bx (show clearOf seen chk (k + 1) = clearOf seen chk k from hB)
        clear hc hB
        go_wp2_with fail
        refine (has_val AS cS seen k wr (hbw.ints HS2.out) (by omega) true HC.out).mono ?_
        rintro e w3 ⟨rfl, rfl⟩
        go_wp2
        go_roundw
        case rel => exact ⟨k + 1, by omega, by go_num, by rw [HB.out]; exact hown, hbw⟩
        case measure => simp [intOf]; omega
    · obtain rfl : k = n := by omega
      replace hown : wr.ownsRow W2.heap.size 3 1 u12 cl.length (ic cl) := by rw [← HCL.out]; exact hown
      obtain ⟨AC, cC, rfl⟩ := slice_form hown
      have HC2 := bx (ints_of_own hown)
      have HW := bx (hbw.lists HL2.out)
      have HSw := bx (hbw.ints HS2.out)
      have HUw := bx (hbw.ints HU2.out)
      have hF3 := hF2.trans hbw
      clear hown hB hCl
      go_wp2_with fail
      refine (least_some k AG cG sh AS cS seen AC cC cl wr HW.out (by omega) HSw.out (by omega) HC2.out (by omega) a HLO.out).mono ?_
      rintro e w3 ⟨A3, c3, rfl, hI3, hx3⟩
      have k3 : From wr w3 := hx3
      have HG3 := bx ((HG2.out.from hbw).from k3)
      clear g0 g1
      obtain ⟨g0, g1⟩ := HG3.out
      go_wp2_with fail
      refine (certain_val k AG cG sh AS cS seen AC cC cl w3 (k3.lists HW.out) (by omega) (k3.ints HSw.out) (by omega) (k3.ints HC2.out) (by omega) ce HCE'.out).mono ?_
      rintro e w4 ⟨A4, c4, rfl, hI4, hx4⟩
      have k4 : From w3 w4 := hx4
      have HG4 := bx (HG3.out.from k4)
      have HCE4 := bx hI4
      have hF4 := hF3.trans (k3.trans k4)
      have HL4 := bx ((k3.trans k4).lists HW.out)
      have HU4 := bx ((k3.trans k4).ints HUw.out)
      have HS4 := bx ((k3.trans k4).ints HSw.out)
      have HC4 := bx ((k3.trans k4).ints HC2.out)
      clear g0 g1 hI4
      go_wp2_with fail
      go_loopw [17] (fun i wr => ∃ m : Nat, m ≤ ce.length ∧ i = .int .i64 m ∧ wr = w4) (fun i _ => ce.length - (intOf i).toNat)
      case atStart => exact ⟨0, Nat.zero_le _, rfl, rfl⟩
      case round =>
        obtain ⟨m, hm', rfl, rfl⟩ := hrel
        by_cases hlt' : m < ce.length
        · obtain ⟨b, off, rfl, hb, q1⟩ := HCE4.out.at_ m hlt'
          have HU' := bx (HCE.out ce[m] (List.getElem_mem hlt'))
          generalize ce[m] = u at *
          go_wp2_with fail
          refine (has_val AU cU us u _ HU4.out (by omega) true HU'.out).mono ?_
          rintro e w5 ⟨rfl, rfl⟩
          go_wp2
          go_roundw
          case rel => exact ⟨m + 1, by omega, by go_num, trivial⟩
          case measure => simp [intOf]; omega
        · obtain rfl : m = ce.length := by omega
          obtain ⟨g0, g1⟩ := HG4.out
          have t1 : (a.length : Int) ≤ (us.length : Int) := by omega
          go_wp2_with fail
          refine (explains_calls k AG cG sh AU cU us AS cS seen AC cC cl _ HL4.out (by omega) HU4.out (by omega) HS4.out (by omega) HC4.out (by omega) true HEX.out).mono ?_
          rintro e w5 ⟨rfl, hx5⟩
          go_wp2_with fail
          refine (lives_calls _).mono ?_
          rintro e w6 ⟨rfl, hx6⟩
          go_wp2
          go_ret
          exact ⟨rfl, hF4.trans (From.trans hx5 hx6)⟩
set_option maxRecDepth 100000 in
theorem truth_lifted (os : Os) (started : os.Started) (H : Type) (enc : TypeId × Value → H) :
    ReturnsInHanded {} Try.checked os 9 .any (Rows.diagnoseTruthSpec.pre6 enc Try.prog Try.f9 Rows.diagnoseTruthRow.domain false) (Rows.diagnoseTruthSpec.post enc Try.prog Try.f9 false true false false) := by
  refine returnsInHanded_of_change (C := Try.checked) own started (by kernel_rfl) Try.func9
    (ChangeSpec.witness6 (enc := enc) (C := Try.checked) false ⟨#[], #[.int .u8 0, .slice none 0 0, .int .u16 0, .int .u8 0], []⟩ 8 (by kernel_rfl) (by kernel_rfl) (by kernel_rfl) (by kernel_rfl)) ?_
  intro W base args ds gs before hval0 hW hcnd _
  have hval : ∀ (j : Nat) t v, Try.f9.params[j]? = some t → args[j]? = some v → Value.okWide Try.prog W .any base t v := hval0
  have hW' := hW
  obtain ⟨p, q, hA0, hV, rfl, hfz, hnd⟩ := hW
  have hA : DataW.TrodAll enc Try.prog W 0 (fun _ => true) true Try.f9.params.toList args.toList ds p := hA0
  rw [Try.params9] at hA hval
  obtain ⟨v0, vs0, d0, ds0, p0, q0, hargs, rfl, rfl, h0, r0⟩ := trodAll_cons hA
  obtain ⟨v1, vs1, d1, ds1, p1, q1, rfl, rfl, rfl, h1, r1⟩ := trodAll_cons r0
  obtain ⟨v2, vs2, d2, ds2, p2, q2, rfl, rfl, rfl, h2, r2⟩ := trodAll_cons r1
  obtain ⟨v3, vs3, d3, ds3, p3, q3, rfl, rfl, rfl, h3, r3⟩ := trodAll_cons r2
  obtain ⟨rfl, rfl, rfl⟩ := trodAll_nil r3
  obtain rfl : args = #[v0, v1, v2, v3] := by cases args; simp_all
  obtain ⟨rfl, rfl⟩ := trodVars_none hV
  obtain ⟨a0, rfl, _, _, w0⟩ := open_int Try.underlying5 (hval 0 5 v0 rfl rfl) h0
  simp only [Lit.wf, Bool.and_eq_true, decide_eq_true_eq] at w0
  obtain ⟨A1, c1, l1, rfl, hB1, hm1⟩ := open_bytsv (hval 1 31 v1 rfl rfl) h1
  obtain ⟨a2, rfl, _, _, w2⟩ := open_int Try.underlying40 (hval 2 40 v2 rfl rfl) h2
  simp only [Lit.wf, Bool.and_eq_true, decide_eq_true_eq] at w2
  obtain ⟨a3, rfl, _, _, w3⟩ := open_int Try.underlying5 (hval 3 5 v3 rfl rfl) h3
  simp only [Lit.wf, Bool.and_eq_true, decide_eq_true_eq] at w3
  refine (truth_walk a0 A1 c1 l1 a2 a3 W w0.1 w0.2 hB1 hm1 w2.1 w2.2 w3.1 w3.2).mono fun e W' ⟨he, hb⟩ => ?_
  subst he
  exact ⟨_, rfl, law_post Try.laid (by kernel_rfl) rfl rfl Try.underlying4 rfl hW' hb⟩
theorem truth_holds : Rows.DiagnoseTruthSaid :=
  OpenClaim.holds_of_wide 9 Try.f9 rfl rfl rfl rfl rfl rfl rfl ⟨rfl, rfl, rfl, rfl, rfl⟩ rfl rfl rfl rfl rfl (by kernel_rfl) Try.func9 (by kernel_rfl)
    (of_decide_eq_true (by kernel_rfl)) (by unfold Func.isWrapper; first | (rw [if_pos (by decide +kernel)]; kernel_rfl) | (rw [if_neg (by decide +kernel)]; exact ⟨rfl, rfl⟩))
    (fun os started H enc _ => truth_lifted os started H enc)
#print axioms truth_holds
end Go.Proofs.Ytgfmnolghbiedaa
