/-
  For every graph made of at most 12 units and all symptoms chosen by bits, the law DiagnoseCandidates returns true, and its arguments read as before. No condition.
-/
import Derived.Test.YtgfmnolghbiedaaR1
import Derived.Test.YtgfmnolghbiedaaK31
namespace Go.Proofs.Ytgfmnolghbiedaa
open Go.ChangeShapes Go.WideShapes Go.ChangeAt Go.RowKit Go.Deep

theorem from_cells {W w' : World} (h : From W w') {a : Addr} {v : Value} (hc : W.cell? a = some v) : w'.cell? a = some v := (h.cell (World.block_lt_of_cell? W _ hc)).trans hc
set_option maxRecDepth 100000 in
set_option maxHeartbeats 4000000 in
theorem cands_walk (q : Int) (A : Option Addr) (c : Nat) (l : List Int) (x2 x3 : Int) (w : World)
    (hq0 : 0 ≤ q) (hq1 : q ≤ 255) (h : Byts w w.heap.size A l) (hm : l.length ≤ 9223372036854775807) (a20 : 0 ≤ x2) (a21 : x2 ≤ 255) (a30 : 0 ≤ x3) (a31 : x3 ≤ 255) :
    Calls Try.prog 7 #[.int .u8 q, .slice A l.length c, .int .u8 x2, .int .u8 x3] w fun e w' => e = .returned (.bool true) ∧ Below w.heap.size w w' := by
  obtain ⟨i0, hi, hz0, hz1, hz2⟩ := info_parts Try.infoInt
  have HM := bx (madeG_calls q A c l 12 w h hm hq0 hq1 (by omega))
  have hn8 : (q % 9).toNat ≤ 8 := by omega
  obtain ⟨n, hn⟩ : ∃ n, (q % 9).toNat = n := ⟨_, rfl⟩
  rw [hn] at HM hn8
  have hshl := madeL_take_len l n 12
  obtain ⟨sh, hsh⟩ : ∃ sh, madeL (l.take 12) n = sh := ⟨_, rfl⟩
  rw [hsh] at HM hshl
  have hl2 := bitsN_le x2 n
  have hl3 := bitsN_le x3 n
  obtain ⟨s, hs⟩ : ∃ s, bitsN x2 n = s := ⟨_, rfl⟩
  obtain ⟨d, hd⟩ : ∃ d, bitsN x3 n = d := ⟨_, rfl⟩
  have HB2 := bx (fun W => bits_row x2 n W a20 (by omega) (by omega) s hs)
  have HB3 := bx (fun W => bits_row x3 n W a30 (by omega) (by omega) d hd)
  rw [hs] at hl2
  rw [hd] at hl3
  have hxl := cand_len sh d
  have hce := cert_all sh s d
  have hcn := @none_cert sh s d
  have hcw := @want_cert sh s d
  have hli := least_is sh s d
  have hal := allOf_le sh s d (by omega)
  have hcel : (certOf sh s d).length ≤ 12 := by have := certN_le sh s (cand sh d) (cand sh d).length; unfold certOf; split <;> simp <;> omega
  obtain ⟨x, hx⟩ : ∃ x, cand sh d = x := ⟨_, rfl⟩
  obtain ⟨a, ha⟩ : ∃ a, (leastOf sh s d).getD [] = a := ⟨_, rfl⟩
  obtain ⟨b, hb⟩ : ∃ b, (leastOf sh s d).isSome = b := ⟨_, rfl⟩
  obtain ⟨ce, hcert⟩ : ∃ ce, certOf sh s d = ce := ⟨_, rfl⟩
  obtain ⟨T, hT⟩ : ∃ T, allOf sh s d = T := ⟨_, rfl⟩
  rw [hcert] at hcel hce hcn hcw
  rw [hx] at hli hcw hxl
  rw [hT] at hce hal
  rw [hb] at hli
  have hbn : b = false → ce = [] := fun e => hcn (by rw [e] at hb; simpa using hb)
  have HBN := bx hbn
  have HX := bx hx
  have HA := bx ha
  have HBB := bx hb
  have HCE := bx hcert
  have HT := bx hT
  have HAL := bx hce
  have HW := bx hcw
  have HLI := bx hli.symm
  have e2 : IntKind.i64.wrap x2 = x2 := IntWalk.i64_in _ (by omega)
  have e3 : IntKind.i64.wrap x3 = x3 := IntWalk.i64_in _ (by omega)
  clear hn hsh hs hd hx ha hb hcert hT hce hcn hcw hli hbn
  go_enter Try.func7, Try.ntmps7
  go_wp2_with fail
  refine (show Calls Try.prog 16 #[.int .u8 q, .slice A l.length c, .int .i64 12] _ _ from HM.out).mono ?_
  rintro e X ⟨AG, cG, rfl, hL, hbX⟩
  have hF : From w X := hbX
  go_wp2_with fail
  obtain ⟨W0, hW0⟩ : ∃ W0, X.alloc (.cells #[.int .i64 n, .slice AG sh.length cG] 24) = W0 := ⟨_, rfl⟩
  have hX0 : From X W0 := by rw [← hW0]; exact (Below.refl _ _).alloc (Nat.le_refl _) _
  have HG := bx (show GAt W0 X.heap.size n AG cG sh by rw [← hW0]; exact gat_new X n AG cG sh _)
  have hF0 := hF.trans hX0
  rw [hW0]
  have hGL := bx (hX0.lists hL)
  clear hW0 hX0 hL hF hbX h
  have hFF : From W0 W0 := Below.refl _ _
  obtain ⟨g0, g1⟩ := HG.out
  go_region_held3 (fun w' => From W0 w' ∧ w'.cell? ⟨X.heap.size, 0, none⟩ = some (.int .i64 n) ∧ w'.cell? ⟨X.heap.size, 1, none⟩ = some (.slice AG sh.length cG))
    (first | exact HG.out.keep (From.drew (by assumption)) | ((go_split_ands; exact HG.out.keep (From.trans (by assumption) hx))))
    (first | (go_at_call 25; (with_reducible refine (HB2.out _).mono ?_); rintro e w4 ⟨A4, c4, rfl, hI4, hx⟩) | (go_at_call 25; (with_reducible refine (HB3.out _).mono ?_); rintro e w5 ⟨A5, c5, rfl, hI5, hx⟩))
  go_split_ands
  have k5 : From W0 w5 := by assumption
  have HIS5 := bx (From.ints hx (ints_of_own hI4))
  have HID5 := bx (ints_of_own hI5)
  have HG5 := bx (HG.out.from k5)
  have HL5 := bx (k5.lists hGL.out)
  have hF5 := hF0.trans k5
  clear hI4 hI5 hx g0 g1
  obtain ⟨g0, g1⟩ := HG5.out
  go_wp2_with fail
  refine (lcand_calls n AG cG sh A5 c5 d w5 HL5.out (by omega) HID5.out (by omega)).mono ?_
  rw [HX.out]
  rintro e w6 ⟨A6, c6, rfl, ho6, hx6⟩
  have k6 : From w5 w6 := hx6
  have HO6 := bx ho6
  clear g0 g1 hx6 ho6
  obtain ⟨g0, g1⟩ := HG5.out.from k6
  go_wp2_with fail
  refine (least_row n AG cG sh A4 c4 s A5 c5 d w6 (k6.lists HL5.out) (by omega) (k6.ints HIS5.out) (by omega) (k6.ints HID5.out) (by omega) a HA.out b HBB.out).mono ?_
  rintro e w7 ⟨A7, c7, rfl, _, k7⟩
  have k57 := k6.trans k7
  clear g0 g1
  obtain ⟨g0, g1⟩ := HG5.out.from k57
  go_wp2_with fail
  refine (certain_val n AG cG sh A4 c4 s A5 c5 d w7 (k57.lists HL5.out) (by omega) (k57.ints HIS5.out) (by omega) (k57.ints HID5.out) (by omega) ce HCE.out).mono ?_
  rintro e w8 ⟨A8, c8, rfl, hI8, hx8⟩
  have k8 : From w7 w8 := hx8
  have k58 := k57.trans k8
  have k68 := k7.trans k8
  clear g0 g1
  obtain ⟨g0, g1⟩ := HG5.out.from k58
  go_wp2_with fail
  refine (explains_calls n AG cG sh A6 c6 x A4 c4 s A5 c5 d w8 (k58.lists HL5.out) (by omega) (k68.ints (ints_of_own HO6.out)) (by omega) (k58.ints HIS5.out) (by omega) (k58.ints HID5.out) (by omega) b HLI.out).mono ?_
  rintro e w9 ⟨rfl, hx9⟩
  have k9 : From w8 w9 := hx9
  have k59 := k58.trans k9
  have HG9 := bx (HG5.out.from k59)
  have HL9 := bx (k59.lists HL5.out)
  have HIS9 := bx (k59.ints HIS5.out)
  have HID9 := bx (k59.ints HID5.out)
  have HO9 := bx (own_from HO6.out (k68.trans k9))
  have HC9 := bx (k9.ints hI8)
  have hF9 := hF5.trans k59
  have exx : (b != b) = false := by simp
  clear g0 g1 hI8
  cases b
  · have hce0 : ce = [] := HBN.out rfl
    subst hce0
    go_wp2_with fail
    refine (lives_calls _).mono ?_
    rintro e w10 ⟨rfl, hx10⟩
    go_wp2
    go_ret
    exact ⟨rfl, hF9.trans hx10⟩
  · go_wp2_with fail
    have HWN := bx (HW.out HLI.out)
    go_loopw [16, 17] (fun v i wr => ∃ k : Nat, k ≤ x.length ∧ i = .int .i64 k ∧ wr.ownsRow w9.heap.size 3 1 v (wantN sh s d x k).length (ic (wantN sh s d x k)) ∧ From w9 wr) (fun _ i _ => x.length - (intOf i).toNat)
    case atStart => exact ⟨0, Nat.zero_le _, rfl, World.ownsRow_nil _ _ _ _, Below.refl _ _⟩
    case round =>
      obtain ⟨k, hk, rfl, hown, hbw⟩ := hrel
      have hsz := Below.size hbw
      have HGr := bx (HG9.out.from hbw)
      obtain ⟨g0, g1⟩ := HGr.out
      have hWl := wantN_le sh s d x k
      by_cases hlt : k < x.length
      · have hWs : wantN sh s d x (k + 1) = if expl sh (x.take k ++ x.drop (k + 1)) s d then wantN sh s d x k else wantN sh s d x k ++ [x.getD k 0] := rfl
        obtain ⟨y, hy⟩ : ∃ y, x.take k ++ x.drop (k + 1) = y := ⟨_, rfl⟩
        have hyl : y.length ≤ 12 := by rw [← hy, List.length_append, List.length_take, List.length_drop]; omega
        rw [hy] at hWs
        obtain ⟨g, cap, hv, _, _⟩ := HO9.out.form (by omega)
        obtain ⟨rfl, rfl⟩ : A6 = some ⟨g, 0, none⟩ ∧ c6 = cap := by injection hv with h1 h2 h3; exact ⟨h1, h3⟩
        have HY := bx (show ∀ W, From wr W → Calls Try.prog 26 #[.slice (some ⟨g, 0, none⟩) x.length c6, .int .i64 k] W (RowPost W y) from fun W kW => by
          have := without_calls (some ⟨g, 0, none⟩) c6 x k _ W (own_from HO9.out (hbw.trans kW)) hlt (by omega)
          rwa [hy] at this)
        have hxk := ((own_at (own_from HO9.out hbw)).1 k hlt).2
        rw [List.getD_eq_getElem?_getD, List.getElem?_eq_getElem hlt, Option.getD_some] at hWs
        generalize x[k] = u at *
        obtain ⟨v, hv'⟩ : ∃ v, expl sh y s d = v := ⟨_, rfl⟩
        rw [hv'] at hWs
        have HE := bx (fun (W : World) (Aa : Option Addr) (ca : Nat) (kW : From wr W) (Bk : Nat) (ia : W.ownsRow Bk 3 1 (.slice Aa y.length ca) y.length (ic y)) => explains_calls n AG cG sh Aa ca y A4 c4 s A5 c5 d W ((hbw.trans kW).lists HL9.out) (by omega) (ints_of_own ia) (by omega) ((hbw.trans kW).ints HIS9.out) (by omega) ((hbw.trans kW).ints HID9.out) (by omega) v hv')
        have HWs := bx hWs
        have z1 : (k : Int) < (x.length : Int) := by omega
        have z2 : (0 : Int) ≤ (k : Int) := by omega
        clear hv hy hv' hWs
        go_wp2_with fail
        go_region_held3 (fun w' => From wr w' ∧ w'.cell? ⟨X.heap.size, 0, none⟩ = some (.int .i64 n) ∧ w'.cell? ⟨X.heap.size, 1, none⟩ = some (.slice AG sh.length cG))
          (first | exact HGr.out.keep (From.drew (Below.refl _ _)) | ((go_split_ands; exact HGr.out.keep (From.trans (by assumption) hx))))
          (first | (go_at_call 26; (with_reducible refine (HY.out _ (by go_split_ands; assumption)).mono ?_); rintro e wa ⟨Aa, ca, rfl, oa, hx⟩) | (go_at_call 14; go_split_ands; (with_reducible refine (HE.out _ Aa ca (by assumption) _ oa).mono ?_); rintro e wb ⟨rfl, hx⟩))
        go_split_ands
        have kb : From wr wb := by assumption
        have hownb := own_from hown kb
        have hbb := hbw.trans kb
        have hsb := Below.size hbb
        have hxb := from_cells kb hxk
        clear g0 g1
        cases v
        · have hWs : wantN sh s d x (k + 1) = wantN sh s d x k ++ [u] := HWs.out
          go_wp2_with (at_builtin; refine wpList_append_own _ rfl _ _ 25 rfl w9.heap.size 3 i0 (.int .i64 0) 1 8 Try.underlying25 hi hz0 hz1 hz2 rfl (by decide) _ _ _ rfl (hownb.alloc _) ⟨wb.heap.size, 0, none⟩ 1 1 [.int .i64 u] rfl rfl (cell_one_new _ _ _) (by simp [Value.oneCell']) (by unfold maxLen; omega) (by omega) (by simp; omega) ?_; intro v' w5' o5' g5' _)
          have hb5' : From w9 w5' := (Below.alloc hbb hsb _).grown g5' (by simp; omega) (fun g hg => (hownb.lt g hg).1)
          go_roundw
          case rel => exact ⟨k + 1, by omega, by go_num, by rw [hWs, ic_append, List.length_append]; exact o5', hb5'⟩
          case measure => simp [intOf]; omega
        · have hWs : wantN sh s d x (k + 1) = wantN sh s d x k := HWs.out
          go_wp2
          go_roundw
          case rel => exact ⟨k + 1, by omega, by go_num, by rw [hWs]; exact hownb, hbb⟩
          case measure => simp [intOf]; omega
      · obtain rfl : k = x.length := by omega
        replace hown : wr.ownsRow w9.heap.size 3 1 u16 ce.length (ic ce) := by rw [← HWN.out]; exact hown
        obtain ⟨A10, c10, rfl⟩ := slice_form hown
        have HI10 := bx (ints_of_own hown)
        clear hown
        go_wp2_with fail
        refine (all_val n AG cG sh A4 c4 s A5 c5 d wr (hbw.lists HL9.out) (by omega) (hbw.ints HIS9.out) (by omega) (hbw.ints HID9.out) (by omega) T HT.out).mono ?_
        rintro e w11 ⟨A11, c11, rfl, hL11, hx11⟩
        have k11 : From wr w11 := hx11
        have HI11 := bx (k11.ints HI10.out)
        have HC11 := bx (k11.ints (hbw.ints HC9.out))
        have HL11 := bx hL11
        have hF11 := hF9.trans (hbw.trans k11)
        clear g0 g1 hL11 hx11
        go_wp2_with fail
        go_loopw [19, 20] (fun i _ wr => ∃ k : Nat, k ≤ T.length ∧ i = .int .i64 k ∧ From w11 wr) (fun i _ _ => T.length - (intOf i).toNat)
        case atStart => exact ⟨0, Nat.zero_le _, rfl, Below.refl _ _⟩
        case round =>
          obtain ⟨k2, hk2, rfl, hbw2⟩ := hrel
          obtain ⟨wq, rfl⟩ : ∃ W : World, W = wr := ⟨_, rfl⟩
          by_cases hlt2 : k2 < T.length
          · obtain ⟨b2, off2, A', c', rfl, _, q1, q2, q3⟩ := (hbw2.lists HL11.out).at_ k2 hlt2
            have HQ := bx q2
            have HTk := bx (HAL.out T[k2] (List.getElem_mem hlt2))
            generalize T[k2] = t at *
            have z1 : (k2 : Int) < (T.length : Int) := by omega
            have z2 : (0 : Int) ≤ (k2 : Int) := by omega
            have HQ1 := bx q1
            clear q2 q1
            go_wp2_with fail
            go_loopw [20] (fun i wr' => ∃ m : Nat, m ≤ ce.length ∧ i = .int .i64 m ∧ From wq wr') (fun i _ => ce.length - (intOf i).toNat)
            case atStart => exact ⟨0, Nat.zero_le _, rfl, Below.refl _ _⟩
            case round =>
              obtain ⟨m, hm3, rfl, hbw3⟩ := hrel
              have hbm := hbw2.trans hbw3
              by_cases hlt3 : m < ce.length
              · obtain ⟨b3, off3, rfl, hb3, p1⟩ := (hbm.ints HC11.out).at_ m hlt3
                have HU := bx (HTk.out ce[m] (List.getElem_mem hlt3))
                generalize ce[m] = u at *
                have z3 : (m : Int) < (ce.length : Int) := by omega
                have z4 : (0 : Int) ≤ (m : Int) := by omega
                have p2 := from_cells hbw3 HQ1.out
                have HHA := bx (fun (W : World) (kW : From wr W) => has_val A' c' t u W ((From.trans hbw3 kW).ints HQ.out) q3 true HU.out)
                have HK := bx (fun (W : World) (kW : From wr W) => (show From wr W ∧ W.cell? ⟨b2, off2 + k2, none⟩ = some (.slice A' t.length c') ∧ W.cell? ⟨b3, off3 + m, none⟩ = some (.int .i64 u) from ⟨kW, from_cells kW p2, from_cells kW p1⟩))
                go_wp2_with fail
                go_region_held3 (fun w' => From wr w' ∧ w'.cell? ⟨b2, off2 + k2, none⟩ = some (.slice A' t.length c') ∧ w'.cell? ⟨b3, off3 + m, none⟩ = some (.int .i64 u))
                  (first | exact HK.out _ (From.drew (Below.refl _ _)) | (subst hx; go_split_ands; exact HK.out _ (by assumption)))
                  (first | (go_at_call 28; go_split_ands; (with_reducible refine (HHA.out _ (by assumption)).mono ?_); rintro e wh ⟨rfl, hx⟩))
                have kh : From wr wr.drew := From.drew (Below.refl _ _)
                go_wp2
                go_roundw
                case rel => exact ⟨m + 1, by omega, by go_num, From.trans hbw3 kh⟩
                case measure => simp [intOf]; omega
              · obtain rfl : m = ce.length := by omega
                go_wp2
                go_roundw
                case rel => exact ⟨k2 + 1, by omega, by go_num, hbm⟩
                case measure => simp [intOf]; omega
          · obtain rfl : k2 = T.length := by omega
            go_wp2_with fail
            refine (sameI_val A8 A10 c8 c10 ce ce wq (hbw2.ints HC11.out) (hbw2.ints HI11.out) (by omega) true (by simp)).mono ?_
            rintro e w12 ⟨rfl, hx12⟩
            go_wp2_with fail
            refine (lives_calls _).mono ?_
            rintro e w13 ⟨rfl, hx13⟩
            go_wp2
            go_ret
            exact ⟨rfl, hF11.trans (hbw2.trans (From.trans hx12 hx13))⟩
set_option maxRecDepth 100000 in
theorem cands_lifted (os : Os) (started : os.Started) (H : Type) (enc : TypeId × Value → H) :
    ReturnsInHanded {} Try.checked os 7 .any (Rows.diagnoseCandidatesSpec.pre6 enc Try.prog Try.f7 Rows.diagnoseCandidatesRow.domain false) (Rows.diagnoseCandidatesSpec.post enc Try.prog Try.f7 false true false false) := by
  refine returnsInHanded_of_change (C := Try.checked) own started (by kernel_rfl) Try.func7
    (ChangeSpec.witness6 (enc := enc) (C := Try.checked) false ⟨#[], #[.int .u8 0, .slice none 0 0, .int .u8 0, .int .u8 0], []⟩ 8 (by kernel_rfl) (by kernel_rfl) (by kernel_rfl) (by kernel_rfl)) ?_
  intro W base args ds gs before hval0 hW hcnd _
  have hval : ∀ (j : Nat) t v, Try.f7.params[j]? = some t → args[j]? = some v → Value.okWide Try.prog W .any base t v := hval0
  have hW' := hW
  obtain ⟨p, q, hA0, hV, rfl, hfz, hnd⟩ := hW
  have hA : DataW.TrodAll enc Try.prog W 0 (fun _ => true) true Try.f7.params.toList args.toList ds p := hA0
  rw [Try.params7] at hA hval
  obtain ⟨v0, vs0, d0, ds0, p0, q0, hargs, rfl, rfl, h0, r0⟩ := trodAll_cons hA
  obtain ⟨v1, vs1, d1, ds1, p1, q1, rfl, rfl, rfl, h1, r1⟩ := trodAll_cons r0
  obtain ⟨v2, vs2, d2, ds2, p2, q2, rfl, rfl, rfl, h2, r2⟩ := trodAll_cons r1
  obtain ⟨v3, vs3, d3, ds3, p3, q3, rfl, rfl, rfl, h3, r3⟩ := trodAll_cons r2
  obtain ⟨rfl, rfl, rfl⟩ := trodAll_nil r3
  obtain rfl : args = #[v0, v1, v2, v3] := by cases args; simp_all
  obtain ⟨rfl, rfl⟩ := trodVars_none hV
  obtain ⟨a0, rfl, _, _, w0⟩ := open_int Try.underlying5 (hval 0 5 v0 rfl rfl) h0
  simp only [Lit.wf, Bool.and_eq_true, decide_eq_true_eq] at w0
  obtain ⟨A1, c1, l1, rfl, hB1, hm1⟩ := open_bytsv (hval 1 31 v1 rfl rfl) h1
  obtain ⟨a2, rfl, _, _, w2⟩ := open_int Try.underlying5 (hval 2 5 v2 rfl rfl) h2
  simp only [Lit.wf, Bool.and_eq_true, decide_eq_true_eq] at w2
  obtain ⟨a3, rfl, _, _, w3⟩ := open_int Try.underlying5 (hval 3 5 v3 rfl rfl) h3
  simp only [Lit.wf, Bool.and_eq_true, decide_eq_true_eq] at w3
  refine (cands_walk a0 A1 c1 l1 a2 a3 W w0.1 w0.2 hB1 hm1 w2.1 w2.2 w3.1 w3.2).mono fun e W' ⟨he, hb⟩ => ?_
  subst he
  exact ⟨_, rfl, law_post Try.laid (by kernel_rfl) rfl rfl Try.underlying4 rfl hW' hb⟩
theorem cands_holds : Rows.DiagnoseCandidatesSaid :=
  OpenClaim.holds_of_wide 7 Try.f7 rfl rfl rfl rfl rfl rfl rfl ⟨rfl, rfl, rfl, rfl, rfl⟩ rfl rfl rfl rfl rfl (by kernel_rfl) Try.func7 (by kernel_rfl)
    (of_decide_eq_true (by kernel_rfl)) (by unfold Func.isWrapper; first | (rw [if_pos (by decide +kernel)]; kernel_rfl) | (rw [if_neg (by decide +kernel)]; exact ⟨rfl, rfl⟩))
    (fun os started H enc _ => cands_lifted os started H enc)
#print axioms cands_holds
end Go.Proofs.Ytgfmnolghbiedaa
