/-
  Walk of layer 28: decode, with the look-up of Decode.
-/
import Derived.Test.YtpdbdpmlppbnnaaU13
import Derived.Deep.CutRange
namespace Go.Proofs.Ytpdbdpmlppbnnaa
open Go.RowKit Go.Shelf

set_option maxHeartbeats 4000000 in
set_option maxRecDepth 10000 in
theorem decodeD_calls (cap : Value) (has : Nat → Option (Nat × List Int)) (v : Value) (l : List Int) (w : World) (h : Byts w v l) (hl : l.length ≤ 140737488355328) (hb : bytes l)
    (hkey : ∀ q bs bv, has q = some (bs, bv) → bs = q)
    (hhas : ∀ (W : World) (q : Nat), From w W → q < 18446744073709551616 → Calls Try.prog 54 #[.int .u64 q, cap] W (HasPost w W (has q))) :
    Calls Try.prog 53 #[v, .func (.func 54) #[] #[cap]] w (DecPost w (decP has l)) := by
  obtain ⟨W0, hW0⟩ : ∃ W0, w.alloc (.cells #[.int .i64 0, .slice none 0 0] 24) = W0 := ⟨_, rfl⟩
  have k0 : From w W0 := by rw [← hW0]; exact (From.refl _).alloc _
  have b0 : W0.heap[w.heap.size]? = some (.cells #[.int .i64 0, .slice none 0 0] 24 (0, 0)) := by rw [← hW0]; exact heap_alloc_new _ _
  have HNR := bx (newReader_calls v l W0 (h.from k0) hl hb)
  obtain ⟨A0, c0, rfl⟩ := h.form
  have HH := bx hhas
  have HB0 := bx b0
  have HK0 := bx k0
  obtain ⟨D, hD⟩ : ∃ D, decP has l = D := ⟨_, rfl⟩
  rw [hD]
  have HD := bx hD
  obtain ⟨lN, hlN⟩ : ∃ lN, l.length = lN := ⟨_, rfl⟩
  rw [hlN] at HNR ⊢
  clear h hhas b0 k0 hD hlN
  go_enter Try.func53, Try.ntmps53
  go_wp2_with fail
  clear hW0
  refine HNR.out.mono ?_
  rintro e w1 ⟨b, rfl, hlb, hr1, k1⟩
  have h1 : DH w w1 b w.heap.size (.good l) := ⟨HK0.out.trans k1, ⟨by have := Below.size HK0.out; omega, Nat.le_refl _⟩, hr1, k1.heap HB0.out⟩
  have H1 := bx h1
  clear h1 hr1 k1
  go_wp2_with fail
  refine (rUint_calls b (.good l) w1 H1.out.rd).mono ?_
  rintro e w2 ⟨rfl, hr2, g2⟩
  have H2 := bx (H1.out.read hr2 g2)
  have hq := rdS_lt H1.out.rd.okb
  obtain ⟨first, hfirst⟩ : ∃ q, (rdS (.good l)).1 = q := ⟨_, rfl⟩
  obtain ⟨s1, hs1⟩ : ∃ s, (rdS (.good l)).2 = s := ⟨_, rfl⟩
  rw [hfirst] at hq ⊢
  rw [hs1] at H2
  have HFS := bx (And.intro hfirst hs1)
  clear hfirst hs1 hr2 g2
  go_wp2_with fail
  refine (HH.out w2 first H2.out.from_ hq).mono ?_
  rintro e w3 ⟨k3, hp3⟩
  have H3 := bx (H2.out.go k3)
  obtain ⟨r, hr⟩ : ∃ r, has first = r := ⟨_, rfl⟩
  rw [hr] at hp3
  have HR := bx hr
  clear hr k3
  cases r with
  | none =>
    obtain ⟨q, A3, N3, c3, rfl, hN3⟩ := hp3
    obtain ⟨ec, hec, hne⟩ : ∃ ec, failS s1 43 = .bad ec ∧ ec ≠ 0 := by
      have hok := H3.out.rd.ok
      cases s1 with
      | bad e => exact ⟨e, rfl, hok⟩
      | good _ => exact ⟨43, rfl, by decide⟩
    have HDD := bx (show D = .err ec by rw [← HD.out]; exact decP_none HFS.out HR.out hec)
    have d1 : (ec != 0) = true := by simpa using hne
    have H4 := bx (H3.out.go ((From.refl w3).alloc (.cells #[.int .i64 q, .slice A3 N3 c3] 24)))
    have hbx4 := heap_alloc_new w3 (.cells #[.int .i64 q, .slice A3 N3 c3] 24)
    obtain ⟨W4, hW4⟩ : ∃ W4, w3.alloc (.cells #[.int .i64 q, .slice A3 N3 c3] 24) = W4 := ⟨_, rfl⟩
    rw [hW4] at H4 hbx4
    obtain ⟨p0, hp0⟩ : ∃ p0, w3.heap.size = p0 := ⟨_, rfl⟩
    rw [hp0] at hbx4
    have HBX4 := bx hbx4
    have HEC := bx hec
    have ew : IntKind.u64.wrap (N3 : Int) = (N3 : Int) := by rw [IntKind.wrap_u64]; omega
    have z0 : decide ((0 : Int) ≤ (first : Int)) = true := decide_eq_true (by omega)
    have z1 : decide ((N3 : Int) < 0) = false := decide_eq_false (by omega)
    have z2 : ((0 : Int) ≤ (first : Int)) := by omega
    have z3 : ((N3 : Int) < 0) = False := eq_false (by omega)
    clear hec hne hbx4
    go_wp2_with fail
    clear hW4 hp0
    refine (rFail_calls b s1 43 W4 H4.out.rd (by decide)).mono ?_
    rintro e w5 ⟨rfl, hr5, g5⟩
    rw [HEC.out] at hr5
    have H5 := bx (H4.out.read hr5 g5)
    go_wp2_with fail
    refine (rUint_calls b _ w5 H5.out.rd).mono ?_
    rintro e w6 ⟨rfl, hr6, g6⟩
    have H6 := bx (H5.out.read hr6 g6)
    simp only [rdS] at H6 ⊢
    go_wp2_with fail
    refine (rFail_calls b _ 7 w6 H6.out.rd (by decide)).mono ?_
    rintro e w7 ⟨rfl, hr7, g7⟩
    have H7 := bx (H6.out.read hr7 g7)
    simp only [failS] at H7
    go_wp2_with fail
    refine (rUint_calls b _ w7 H7.out.rd).mono ?_
    rintro e w8 ⟨rfl, hr8, g8⟩
    have H8 := bx (H7.out.read hr8 g8)
    simp only [rdS] at H8 ⊢
    go_wp2_with fail
    refine (rUint_calls b _ w8 H8.out.rd).mono ?_
    rintro e w9 ⟨rfl, hr9, g9⟩
    have H9 := bx (H8.out.read hr9 g9)
    simp only [rdS] at H9 ⊢
    have hbx9 := grown_cells (grown_trans g5 (grown_trans g6 (grown_trans g7 (grown_trans g8 g9)))) H4.out.rd HBX4.out (by decide)
    obtain ⟨y0, y1, _, _, _⟩ := box2 hbx9
    go_wp2_with fail
    refine (rErr_calls b _ w9 H9.out.rd).mono ?_
    rintro e wB ⟨rfl, rfl⟩
    obtain ⟨t0, t1, t2, t3, _⟩ := box2 H9.out.box
    simp only [St.err]
    go_wp2
    have b9 := box2_set H9.out.box (.int .i64 0) (.slice none 0 0)
    refine bodyPost_ret (v := .tuple #[snv 0 (.slice none 0 0), .slice none 0 0, .bool false, .int .i64 ec]) (by simp [results, Try.results53, go_sem, cell_of_row _ _ _ _ _ _ b9]) rfl ?_
    rw [HDD.out]
    exact ⟨rfl, from_set (from_set H9.out.from_ (Nat.le_refl _) _ _) (Nat.le_refl _) _ _⟩
  | some bp =>
    obtain ⟨bs, bv⟩ := bp
    obtain ⟨A3, c3, rfl, hI3, hpos, hlen, hbs, hfit⟩ := hp3
    have hkb := (hkey _ _ _ HR.out).symm
    subst hkb
    simp only at hI3 hpos hlen hbs hfit
    have HI3 := bx hI3
    have HFT := bx hfit
    clear hI3 hfit
    go_wp2_with fail
    have hsz3 := Below.size H3.out.from_
    have H4 := bx (H3.out.go ((From.refl w3).alloc (.cells #[.int .i64 first, .slice A3 bv.length c3] 24)))
    have hbx4 := heap_alloc_new w3 (.cells #[.int .i64 first, .slice A3 bv.length c3] 24)
    obtain ⟨W4, hW4⟩ : ∃ W4, w3.alloc (.cells #[.int .i64 first, .slice A3 bv.length c3] 24) = W4 := ⟨_, rfl⟩
    rw [hW4] at H4 hbx4 ⊢
    have HBX4 := bx hbx4
    obtain ⟨p0, hp0⟩ : ∃ p0, w3.heap.size = p0 := ⟨_, rfl⟩
    rw [hp0] at HBX4 hsz3 ⊢
    have hp0b : p0 < W4.heap.size := by rw [← hW4, ← hp0]; simp
    clear hW4 hp0 hbx4
    obtain ⟨nb, hnb⟩ : ∃ nb, bv.length = nb := ⟨_, rfl⟩
    have HNB := bx hnb
    rw [hnb] at hpos hlen HBX4 ⊢
    clear hnb
    refine (rUint_calls b s1 W4 H4.out.rd).mono ?_
    rintro e w5 ⟨rfl, hr5, g5⟩
    have H5 := bx (H4.out.read hr5 g5)
    have hq5 := rdS_lt H4.out.rd.okb
    have G5 := bx g5
    obtain ⟨seq, hseq⟩ : ∃ q, (rdS s1).1 = q := ⟨_, rfl⟩
    obtain ⟨s3, hs3⟩ : ∃ s, (rdS s1).2 = s := ⟨_, rfl⟩
    rw [hseq] at hq5 ⊢
    rw [hs3] at H5
    have HS3 := bx (And.intro hseq hs3)
    clear hseq hs3 hr5 g5
    have FAIL := bx (fun (W : World) (s : St) (c : Int) (hc : c ≠ 0) (h : DH w W b w.heap.size s) (g : W4.grownBy W (some b)) => (show Calls Try.prog 83 #[.pointer (some ⟨b, 0, none⟩), .int .i64 c] W fun e w' => e = .returned (.tuple #[]) ∧ DH w w' b w.heap.size (failS s c) ∧ W4.grownBy w' (some b) by
      refine (rFail_calls b s c W h.rd hc).mono ?_
      rintro e w' ⟨h1, h2, h3⟩
      exact ⟨h1, h.read h2 h3, grown_trans g h3⟩))
    go_upto_region 7 with fail
    go_cut [45] from 23 (fun s45 wx => s45 = .bool (decide (seq ≤ first ∨ 1000000 < seq)) ∧ wx = w5)
    case first =>
      by_cases c1 : seq ≤ first
      · have d1 : decide (seq ≤ first) = true := decide_eq_true c1
        have d2 : decide (seq ≤ first ∨ 1000000 < seq) = true := decide_eq_true (.inl c1)
        go_wp2
        go_meet
        case rel => exact ⟨by rw [d2], rfl⟩
      · have d1 : decide (seq ≤ first) = false := decide_eq_false c1
        have d2 : decide (seq ≤ first ∨ 1000000 < seq) = decide ((1000000 : Int) < (seq : Int)) := decide_eq_decide.2 (by omega)
        go_wp2
        go_meet
        case rel => exact ⟨by rw [d2], rfl⟩
    case rest =>
      obtain ⟨rfl, rfl⟩ := hcut
      obtain ⟨s4, hs4⟩ : ∃ s, (if seq ≤ first ∨ 1000000 < seq then failS s3 7 else s3) = s := ⟨_, rfl⟩
      have HSs4 := bx hs4
      clear hs4
      go_upto_if 45 with fail
      go_cut [] from 23 (fun wx => DH w wx b w.heap.size s4 ∧ W4.grownBy wx (some b))
      case first =>
        by_cases cc : seq ≤ first ∨ 1000000 < seq
        · have dd : decide (seq ≤ first ∨ 1000000 < seq) = true := decide_eq_true (by omega)
          rw [dd]
          have e9 := HSs4.out
          rw [if_pos cc] at e9
          have E9 := bx e9
          clear cc e9
          go_wp2_with fail
          refine (FAIL.out _ s3 7 (by decide) H5.out G5.out).mono ?_
          rintro e wF ⟨rfl, hF, gF⟩
          rw [E9.out] at hF
          go_wp2
          go_meet
          case rel => exact ⟨hF, gF⟩
        · have dd : decide (seq ≤ first ∨ 1000000 < seq) = false := decide_eq_false (by omega)
          rw [dd]
          have e9 := HSs4.out
          rw [if_neg cc] at e9
          have E9 := bx e9
          clear cc e9
          go_wp2
          go_meet
          case rel => exact ⟨by rw [← E9.out]; exact H5.out, G5.out⟩
      case rest =>
        obtain ⟨h6, g6⟩ := hcut
        have H6 := bx h6
        have G6 := bx g6
        clear h6 g6
        go_wp2_with fail
        refine (rUint_calls b s4 wc H6.out.rd).mono ?_
        rintro e w7 ⟨rfl, hr7, g7⟩
        have H7 := bx (H6.out.read hr7 g7)
        have hq7 := rdS_lt H6.out.rd.okb
        have G7 := bx (grown_trans G6.out g7)
        obtain ⟨mark, hmark⟩ : ∃ q, (rdS s4).1 = q := ⟨_, rfl⟩
        obtain ⟨s5, hs5⟩ : ∃ s, (rdS s4).2 = s := ⟨_, rfl⟩
        rw [hmark] at hq7 ⊢
        rw [hs5] at H7
        have HS5 := bx (And.intro hmark hs5)
        clear hmark hs5 hr7 g7
        obtain ⟨s6, hs6⟩ : ∃ s, (if 1 < mark then failS s5 7 else s5) = s := ⟨_, rfl⟩
        have HSs6 := bx hs6
        clear hs6
        go_upto_if 51 with fail
        go_cut [] from 23 (fun wx => DH w wx b w.heap.size s6 ∧ W4.grownBy wx (some b))
        case first =>
          by_cases cc : 1 < mark
          · have dd : decide ((1 : Int) < (mark : Int)) = true := decide_eq_true (by omega)
            first | rw [dd] | rw [show decide (1 < mark) = true from decide_eq_true cc] | rw [show decide ((mark : Int) > 1) = true from dd]
            have e9 := HSs6.out
            rw [if_pos cc] at e9
            have E9 := bx e9
            clear cc e9
            go_wp2_with fail
            refine (FAIL.out _ s5 7 (by decide) H7.out G7.out).mono ?_
            rintro e wF ⟨rfl, hF, gF⟩
            rw [E9.out] at hF
            go_wp2
            go_meet
            case rel => exact ⟨hF, gF⟩
          · have dd : decide ((1 : Int) < (mark : Int)) = false := decide_eq_false (by omega)
            first | rw [dd] | rw [show decide (1 < mark) = false from decide_eq_false cc] | rw [show decide ((mark : Int) > 1) = false from dd]
            have e9 := HSs6.out
            rw [if_neg cc] at e9
            have E9 := bx e9
            clear cc e9
            go_wp2
            go_meet
            case rel => exact ⟨by rw [← E9.out]; exact H7.out, G7.out⟩
        case rest =>
          obtain ⟨h8, g8⟩ := hcut
          have H8 := bx h8
          have G8 := bx g8
          clear h8 g8
          go_wp2_with fail
          refine (rUint_calls b s6 wc H8.out.rd).mono ?_
          rintro e w9 ⟨rfl, hr9, g9⟩
          have H9 := bx (H8.out.read hr9 g9)
          have hq9 := rdS_lt H8.out.rd.okb
          have G9 := bx (grown_trans G8.out g9)
          obtain ⟨count, hcount⟩ : ∃ q, (rdS s6).1 = q := ⟨_, rfl⟩
          obtain ⟨s7, hs7⟩ : ∃ s, (rdS s6).2 = s := ⟨_, rfl⟩
          rw [hcount] at hq9 ⊢
          rw [hs7] at H9
          have HS7 := bx (And.intro hcount hs7)
          clear hcount hs7 hr9 g9
          have hbx9 := grown_cells G9.out H4.out.rd HBX4.out (by decide)
          obtain ⟨y0, y1, _, _, _⟩ := box2 hbx9
          have ew : IntKind.u64.wrap (nb : Int) = (nb : Int) := by rw [IntKind.wrap_u64]; omega
          clear hbx9
          obtain ⟨s8, hs8⟩ : ∃ s, (if nb < count then failS s7 2 else s7) = s := ⟨_, rfl⟩
          have HSs8 := bx hs8
          clear hs8
          go_upto_if 61 with fail
          go_cut [] from 23 (fun wx => DH w wx b w.heap.size s8 ∧ W4.grownBy wx (some b))
          case first =>
            by_cases cc : nb < count
            · have dd : decide ((nb : Int) < (count : Int)) = true := decide_eq_true (by omega)
              first | rw [dd] | rw [show decide (nb < count) = true from decide_eq_true cc] | rw [show decide ((count : Int) > (nb : Int)) = true from dd]
              have e9 := HSs8.out
              rw [if_pos cc] at e9
              have E9 := bx e9
              clear cc e9
              go_wp2_with fail
              refine (FAIL.out _ s7 2 (by decide) H9.out G9.out).mono ?_
              rintro e wF ⟨rfl, hF, gF⟩
              rw [E9.out] at hF
              go_wp2
              go_meet
              case rel => exact ⟨hF, gF⟩
            · have dd : decide ((nb : Int) < (count : Int)) = false := decide_eq_false (by omega)
              first | rw [dd] | rw [show decide (nb < count) = false from decide_eq_false cc] | rw [show decide ((count : Int) > (nb : Int)) = false from dd]
              have e9 := HSs8.out
              rw [if_neg cc] at e9
              have E9 := bx e9
              clear cc e9
              go_wp2
              go_meet
              case rel => exact ⟨by rw [← E9.out]; exact H9.out, G9.out⟩
          case rest =>
            obtain ⟨hA, gA⟩ := hcut
            have HA := bx hA
            have GA := bx gA
            clear hA gA y0 y1
            have HHEAD := bx (headS_some HFS.out HR.out HS3.out HSs4.out HS5.out HSs6.out HS7.out HNB.out HSs8.out)
            go_wp2_with fail
            refine (rErr_calls b s8 wc HA.out.rd).mono ?_
            rintro e wB ⟨rfl, rfl⟩
            cases s8 with
            | bad ec =>
              have hec : ec ≠ 0 := HA.out.rd.1
              have d1 : (ec != 0) = true := by simpa using hec
              have HDD := bx (show D = .err ec by rw [← HD.out, decP, HHEAD.out])
              obtain ⟨t0, t1, t2, t3, _⟩ := box2 HA.out.box
              simp only [St.err]
              clear hec
              go_wp2
              have b9 := box2_set HA.out.box (.int .i64 0) (.slice none 0 0)
              refine bodyPost_ret (v := .tuple #[snv 0 (.slice none 0 0), .slice none 0 0, .bool false, .int .i64 ec]) (by simp [results, Try.results53, go_sem, cell_of_row _ _ _ _ _ _ b9]) rfl ?_
              rw [HDD.out]
              exact ⟨rfl, from_set (from_set HA.out.from_ (Nat.le_refl _) _ _) (Nat.le_refl _) _ _⟩
            | good r =>
              obtain ⟨n1, n2, n3, n4⟩ := head_good HSs4.out HS5.out HSs6.out HS7.out HSs8.out rfl
              simp only [St.err]
              have hbxA := grown_cells GA.out H4.out.rd HBX4.out (by decide)
              obtain ⟨y0, y1, _, _, _⟩ := box2 hbxA
              have ew2 : IntKind.i64.wrap (seq : Int) = (seq : Int) := IntWalk.i64_in _ (by omega)
              have HIA : Ints wB (.slice A3 bv.length c3) bv := HI3.out.from HA.out.from_
              have HPD := bx (predict_calls first seq (.slice A3 bv.length c3) bv wB HIA (by rw [HNB.out]; omega) (by rw [HNB.out]; exact hpos) HFT.out (by omega) _ rfl)
              rw [HNB.out] at HPD
              go_wp2_with fail
              refine HPD.out.mono ?_
              rintro e wC ⟨AV, cV, rfl, oV, kC⟩
              have hpl := predP_len bv first seq
              rw [HNB.out] at hpl
              have HPF := bx (predP_fits (bs := first) (seq := seq) HFT.out (by omega))
              obtain ⟨pred, hpred⟩ : ∃ z, predP bv first seq = z := ⟨_, rfl⟩
              rw [hpred] at hpl oV HPF ⊢
              rw [hpl] at oV ⊢
              have HPD2 := bx (And.intro hpred hpl)
              obtain ⟨gv, hAV⟩ : ∃ gv, AV = some ⟨gv, 0, none⟩ := by
                obtain ⟨g, cap, hv, _⟩ := oV.form (by omega)
                injection hv with hv _ _
                exact ⟨g, hv⟩
              subst hAV
              obtain ⟨wD, hmk, oK, kD⟩ := make_bools wC nb (by omega)
              have HC := bx (HA.out.go kC)
              have hszC := Below.size HC.out.from_
              have hszB := Below.size HA.out.from_
              have HL0 := bx (DL.mk ((HA.out.go kC).go kD) (own_call (own_base oV hszB) kD) (own_base oK hszC))
              obtain ⟨gk, hgk⟩ : ∃ gk, wC.heap.size = gk := ⟨_, rfl⟩
              rw [hgk] at hmk HL0
              obtain ⟨R, hR⟩ : ∃ R, entsS count (.good r) (List.replicate nb false) pred = R := ⟨_, rfl⟩
              have HRR := bx hR
              have HDD := bx (show D = finD nb seq mark R by
                rw [← HD.out, decP, HHEAD.out]
                simp only [HR.out]
                rw [HNB.out, hpred, hR]
                cases R <;> rfl)
              clear hR hpred hpl oV oK kC kD y0 y1 hbxA hgk HPD HIA
              go_wp2_with fail
              clear hmk
              go_loopw [78] (fun i wr => ∃ (k : Nat) (r : List Int) (known : List Bool) (vals : List Int), k ≤ count ∧ i = .int .u64 k ∧ DL w wr b w.heap.size (.good r) gv cV gk nb vals known ∧ vals.length = nb ∧ known.length = nb ∧ (∀ x ∈ vals, fitsV x) ∧ entsS (count - k) (.good r) known vals = R) (fun i _ => count - (intOf i).toNat)
              case atStart => exact ⟨0, r, _, _, Nat.zero_le _, rfl, HL0.out, HPD2.out.2, by simp, HPF.out, HRR.out⟩
              case round =>
                obtain ⟨k, r2, known, vals, hk, rfl, hL, hvl, hkl, hvf, hE⟩ := hrel
                have HL := bx hL
                have HVL := bx hvl
                have HKL := bx hkl
                have HVF := bx hvf
                have HE := bx hE
                clear hL hvl hkl hvf hE
                by_cases hlt : k < count
                · have z1 : decide ((k : Int) < (count : Int)) = true := decide_eq_true (by omega)
                  have hm : count - k = (count - (k + 1)) + 1 := by omega
                  have HE2 := bx (show entsS ((count - (k + 1)) + 1) (.good r2) known vals = R by rw [← hm]; exact HE.out)
                  clear hm
                  go_wp2_with fail
                  refine (rUint_calls b (.good r2) wr HL.out.h.rd).mono ?_
                  rintro e v1 ⟨rfl, hr1, g1⟩
                  have L1 := bx (HL.out.read hr1 g1)
                  have hp64 := rdS_lt HL.out.h.rd.okb
                  obtain ⟨p, hp⟩ : ∃ q, (rdS (.good r2)).1 = q := ⟨_, rfl⟩
                  obtain ⟨t1, ht1⟩ : ∃ s, (rdS (.good r2)).2 = s := ⟨_, rfl⟩
                  rw [hp] at hp64 ⊢
                  rw [ht1] at L1
                  have T1 := bx (And.intro hp ht1)
                  clear hp ht1 hr1 g1
                  have ew3 : IntKind.u64.wrap (nb : Int) = (nb : Int) := by rw [IntKind.wrap_u64]; omega
                  go_upto_region 23 with fail
                  go_cut [92] from 79 to 138 (fun s92 wx => s92 = .bool (decide (nb ≤ p ∨ known.getD p false = true)) ∧ wx = v1)
                  case first =>
                    by_cases c1 : nb ≤ p
                    · have d1 : decide ((p : Int) ≥ (nb : Int)) = true := decide_eq_true (by omega)
                      have d2 : decide (nb ≤ p ∨ known.getD p false = true) = true := decide_eq_true (.inl c1)
                      go_wp2
                      go_meet
                      case rel => exact ⟨by rw [d2], rfl⟩
                    · have d1 : decide ((p : Int) ≥ (nb : Int)) = false := decide_eq_false (by omega)
                      have hpk : p < known.length := by rw [HKL.out]; omega
                      obtain ⟨c9, _⟩ := own_cell L1.out.k (j := p) (u := .bool known[p]) (by simp [bc, hpk])
                      have hgd : known.getD p false = known[p] := by simp [List.getD_eq_getElem?_getD, List.getElem?_eq_getElem hpk]
                      have d2 : decide (nb ≤ p ∨ known.getD p false = true) = known[p] := by rw [hgd]; simp [c1]
                      have z5 : (p : Int) < (nb : Int) := by omega
                      have z6 : (0 : Int) ≤ (p : Int) := by omega
                      generalize known[p] = y at *
                      go_wp2
                      go_meet
                      case rel => exact ⟨by rw [d2], rfl⟩
                  case rest =>
                    obtain ⟨rfl, rfl⟩ := hcut
                    have TT := bx True.intro
                    have FAIL2 := bx (fun (W : World) (s : St) (c : Int) (hc : c ≠ 0) (h : DL w W b w.heap.size s gv cV gk nb vals known) (_ : True) => (show Calls Try.prog 83 #[.pointer (some ⟨b, 0, none⟩), .int .i64 c] W fun e w' => e = .returned (.tuple #[]) ∧ DL w w' b w.heap.size (failS s c) gv cV gk nb vals known ∧ True by
                      refine (rFail_calls b s c W h.h.rd hc).mono ?_
                      rintro e w' ⟨h1, h2, h3⟩
                      exact ⟨h1, h.read h2 h3, True.intro⟩))
                    obtain ⟨t2, ht2⟩ : ∃ s, (if nb ≤ p ∨ known.getD p false = true then failS t1 7 else t1) = s := ⟨_, rfl⟩
                    have HSt2 := bx ht2
                    clear ht2
                    go_upto_if 92 with fail
                    go_cut [] from 79 to 138 (fun wx => DL w wx b w.heap.size t2 gv cV gk nb vals known ∧ True)
                    case first =>
                      by_cases cc : nb ≤ p ∨ known.getD p false = true
                      · have dd : decide (nb ≤ p ∨ known.getD p false = true) = true := decide_eq_true cc
                        rw [dd]
                        have e9 := HSt2.out
                        rw [if_pos cc] at e9
                        have E9 := bx e9
                        clear cc e9
                        go_wp2_with fail
                        refine (FAIL2.out _ t1 7 (by decide) L1.out TT.out).mono ?_
                        rintro e wF ⟨rfl, hF, gF⟩
                        rw [E9.out] at hF
                        go_wp2
                        go_meet
                        case rel => exact ⟨hF, gF⟩
                      · have dd : decide (nb ≤ p ∨ known.getD p false = true) = false := decide_eq_false cc
                        rw [dd]
                        have e9 := HSt2.out
                        rw [if_neg cc] at e9
                        have E9 := bx e9
                        clear cc e9
                        go_wp2
                        go_meet
                        case rel => exact ⟨by rw [← E9.out]; exact L1.out, TT.out⟩
                    case rest =>
                      have L2 := bx hcut.1
                      clear hcut
                      go_wp2_with fail
                      refine (rInt_calls b t2 wc L2.out.h.rd).mono ?_
                      rintro e v3 ⟨rfl, hr3, g3⟩
                      have L3 := bx (L2.out.read hr3 g3)
                      have hdb := zag_bd (rdS_lt L2.out.h.rd.okb)
                      obtain ⟨u, hu⟩ : ∃ q, (rdS t2).1 = q := ⟨_, rfl⟩
                      obtain ⟨t3, ht3⟩ : ∃ s, (rdS t2).2 = s := ⟨_, rfl⟩
                      have T3 := bx (And.intro hu ht3)
                      rw [hu] at hdb ⊢
                      rw [ht3] at L3
                      obtain ⟨d, hd⟩ : ∃ d, zag u = d := ⟨_, rfl⟩
                      rw [hd] at hdb ⊢
                      have HD9 := bx hd
                      clear hu ht3 hr3 g3 hd
                      obtain ⟨t4, ht4⟩ : ∃ s, (if d = 0 then failS t3 7 else t3) = s := ⟨_, rfl⟩
                      have HSt4 := bx ht4
                      clear ht4
                      go_upto_if 98 with fail
                      go_cut [] from 79 to 138 (fun wx => DL w wx b w.heap.size t4 gv cV gk nb vals known ∧ True)
                      case first =>
                        by_cases cc : d = 0
                        · have dd : (d == 0) = true := by simp [cc]
                          rw [dd]
                          have e9 := HSt4.out
                          rw [if_pos cc] at e9
                          have E9 := bx e9
                          clear cc e9
                          go_wp2_with fail
                          refine (FAIL2.out _ t3 7 (by decide) L3.out TT.out).mono ?_
                          rintro e wF ⟨rfl, hF, gF⟩
                          rw [E9.out] at hF
                          go_wp2
                          go_meet
                          case rel => exact ⟨hF, gF⟩
                        · have dd : (d == 0) = false := by simpa using cc
                          rw [dd]
                          have e9 := HSt4.out
                          rw [if_neg cc] at e9
                          have E9 := bx e9
                          clear cc e9
                          go_wp2
                          go_meet
                          case rel => exact ⟨by rw [← E9.out]; exact L3.out, TT.out⟩
                      case rest =>
                        have L4 := bx hcut.1
                        clear hcut
                        obtain ⟨cb, hcb⟩ : ∃ cb, decide (¬ fitsV (d.tdiv 2) ∨ ¬ fitsV (vals.getD (min p (nb - 1)) 0 + d)) = cb := ⟨_, rfl⟩
                        have HCB := bx hcb
                        clear hcb
                        go_upto_region 28 with fail
                        go_cut [119] from 79 to 138 (fun s119 wx => s119 = .bool cb ∧ wx = wc)
                        case first =>
                          have hm : min p (nb - 1) < vals.length := by rw [HVL.out]; omega
                          have hgm : vals.getD (min p (nb - 1)) 0 = vals[min p (nb - 1)] := getD_nat vals _ hm
                          have hvm := HVF.out vals[min p (nb - 1)] (List.getElem_mem hm)
                          obtain ⟨c8, _⟩ := own_cell L4.out.v (j := min p (nb - 1)) (u := .int .i64 vals[min p (nb - 1)]) (by simp [ic, hm])
                          have hcb := HCB.out
                          rw [hgm] at hcb
                          have hif : (if (nb : Int) - 1 < (p : Int) then (nb : Int) - 1 else (p : Int)) = ((min p (nb - 1) : Nat) : Int) := by split <;> omega
                          have hmn : min p (nb - 1) < nb := by omega
                          generalize vals[min p (nb - 1)] = vm at *
                          generalize min p (nb - 1) = m at *
                          unfold fitsV at hvm
                          have ew4 : IntKind.i64.wrap ((nb : Int) - 1) = (nb : Int) - 1 := IntWalk.i64_in _ (by omega)
                          have ew5 : IntKind.u64.wrap ((nb : Int) - 1) = (nb : Int) - 1 := by rw [IntKind.wrap_u64]; omega
                          have z7 : (m : Int) < (nb : Int) := by omega
                          have z8 : (0 : Int) ≤ (m : Int) := by omega
                          have htd := tdiv2_bd d hdb
                          have ew8 : IntKind.i64.wrap (d.tdiv 2) = d.tdiv 2 := IntWalk.i64_in _ htd
                          have HC8 := bx hcb
                          have HIF := bx hif
                          have HDB := bx hdb
                          have HTD := bx htd
                          clear hcb hgm hm hif htd hdb
                          by_cases f1 : fitsV (d.tdiv 2)
                          · have y1 : decide (fitsV (d.tdiv 2)) = true := decide_eq_true f1
                            have hds := tdiv2_small d f1
                            have ew9 : IntKind.i64.wrap (vm + d) = vm + d := IntWalk.i64_in _ (by omega)
                            have HC9 := bx (show (!decide (fitsV (vm + d))) = cb by rw [← HC8.out]; simp [f1])
                            clear f1 hds
                            go_wp2_with fail
                            refine (fits_calls (d.tdiv 2) wc).mono ?_
                            rintro e v5 ⟨rfl, rfl⟩
                            rw [y1]
                            have hif := HIF.out
                            go_wp2_with fail
                            refine (fits_calls (vm + d) _).mono ?_
                            rintro e v6 ⟨rfl, rfl⟩
                            go_wp2
                            go_meet
                            case rel => exact ⟨by rw [← HC9.out], rfl⟩
                          · have y1 : decide (fitsV (d.tdiv 2)) = false := decide_eq_false f1
                            have HC9 := bx (show true = cb by rw [← HC8.out]; simp [f1])
                            clear f1
                            go_wp2_with fail
                            refine (fits_calls (d.tdiv 2) wc).mono ?_
                            rintro e v5 ⟨rfl, rfl⟩
                            rw [y1]
                            go_wp2
                            go_meet
                            case rel => exact ⟨by rw [← HC9.out], rfl⟩
                        case rest =>
                          obtain ⟨rfl, rfl⟩ := hcut
                          obtain ⟨t5, ht5⟩ : ∃ s, (if cb = true then failS t4 5 else t4) = s := ⟨_, rfl⟩
                          have HSt5 := bx ht5
                          clear ht5
                          go_upto_if 119 with fail
                          go_cut [] from 79 to 138 (fun wx => DL w wx b w.heap.size t5 gv cV gk nb vals known ∧ True)
                          case first =>
                            by_cases cc : cb = true
                            · have dd : cb = true := cc
                              subst dd
                              have e9 := HSt5.out
                              rw [if_pos cc] at e9
                              have E9 := bx e9
                              clear cc e9
                              go_wp2_with fail
                              refine (FAIL2.out _ t4 5 (by decide) L4.out TT.out).mono ?_
                              rintro e wF ⟨rfl, hF, gF⟩
                              rw [E9.out] at hF
                              go_wp2
                              go_meet
                              case rel => exact ⟨hF, gF⟩
                            · have dd : cb = false := by simpa using cc
                              subst dd
                              have e9 := HSt5.out
                              rw [if_neg cc] at e9
                              have E9 := bx e9
                              clear cc e9
                              go_wp2
                              go_meet
                              case rel => exact ⟨by rw [← E9.out]; exact L4.out, TT.out⟩
                          case rest =>
                            have L5 := bx hcut.1
                            clear hcut
                            have HT5 := bx (show (if ¬ fitsV (d.tdiv 2) ∨ ¬ fitsV (vals.getD (min p (nb - 1)) 0 + d) then failS t4 5 else t4) = t5 by
                              rw [← HSt5.out, ← HCB.out]
                              simp only [decide_eq_true_eq])
                            have HENT := bx (entry_eq HVL.out T1.out HSt2.out T3.out HD9.out HSt4.out HT5.out)
                            go_wp2_with fail
                            refine (rErr_calls b t5 wc L5.out.h.rd).mono ?_
                            rintro e v6 ⟨rfl, rfl⟩
                            cases t5 with
                            | bad ec =>
                              have hec : ec ≠ 0 := L5.out.h.rd.1
                              have d1 : (ec != 0) = true := by simpa using hec
                              have HRE := bx (show R = .err ec by rw [← HE2.out, entsS, HENT.out])
                              obtain ⟨q0, q1, q2, q3, _⟩ := box2 L5.out.h.box
                              simp only [St.err]
                              clear hec
                              go_wp2
                              have b9 := box2_set L5.out.h.box (.int .i64 0) (.slice none 0 0)
                              refine bodyPost_ret (v := .tuple #[snv 0 (.slice none 0 0), .slice none 0 0, .bool false, .int .i64 ec]) (by simp [results, Try.results53, go_sem, cell_of_row _ _ _ _ _ _ b9]) rfl ?_
                              rw [HDD.out, HRE.out]
                              exact ⟨rfl, from_set (from_set L5.out.h.from_ (Nat.le_refl _) _ _) (Nat.le_refl _) _ _⟩
                            | good l5 =>
                              obtain ⟨hpn, hfv⟩ := entry_good HSt2.out T3.out HSt4.out HT5.out rfl
                              have hpv : p < vals.length := by rw [HVL.out]; exact hpn
                              have hgd : vals.getD p 0 = vals[p] := getD_nat vals p hpv
                              obtain ⟨c8, f8⟩ := own_cell L5.out.v (j := p) (u := .int .i64 vals[p]) (by simp [ic, hpv])
                              have LV := L5.out.setV p (vals.getD p 0 + d)
                              have LK := bx (LV.setK p true)
                              have hpk : p < known.length := by rw [HKL.out]; exact hpn
                              obtain ⟨c9, f9⟩ := own_cell LV.k (j := p) (u := .bool known[p]) (by simp [bc, hpk])
                              have HNX := bx (show entsS (count - (k + 1)) (.good l5) (known.set p true) (vals.set p (vals.getD p 0 + d)) = R by rw [← HE2.out, entsS, HENT.out])
                              have HFV := bx (show ∀ x ∈ vals.set p (vals.getD p 0 + d), fitsV x by
                                intro x hx
                                rcases List.mem_or_eq_of_mem_set hx with hx | rfl
                                · exact HVF.out x hx
                                · exact hfv)
                              rw [hgd] at LK c9 f9 HNX HFV hfv
                              unfold fitsV at hfv
                              generalize vals[p] = vp at *
                              generalize known[p] = kp at *
                              have ew6 : IntKind.i64.wrap (vp + d) = vp + d := IntWalk.i64_in _ (by omega)
                              have z5 : (p : Int) < (nb : Int) := by omega
                              have z6 : (0 : Int) ≤ (p : Int) := by omega
                              have ew7 : IntKind.u64.wrap ((k : Int) + 1) = (k : Int) + 1 := by rw [IntKind.wrap_u64]; omega
                              clear hfv hgd LV
                              simp only [St.err]
                              go_wp2
                              go_roundw
                              case rel => exact ⟨k + 1, l5, _, _, by omega, by go_num, LK.out, by rw [List.length_set]; exact HVL.out, by rw [List.length_set]; exact HKL.out, HFV.out, HNX.out⟩
                              case measure => simp [intOf]; omega
                · obtain rfl : k = count := by omega
                  have HRE := bx (show R = .ok (.good r2) known vals by rw [← HE.out, Nat.sub_self, entsS])
                  have z1 : decide ((k : Int) < (k : Int)) = false := decide_eq_false (by omega)
                  go_wp2_with fail
                  refine (rEnd_calls b (.good r2) wr HL.out.h.rd).mono ?_
                  rintro e v8 ⟨rfl, k8⟩
                  have L8 := bx (HL.out.go k8)
                  cases r2 with
                  | cons yy tt =>
                    have HRX := bx (show D = .err 7 by rw [HDD.out, HRE.out, finD, if_pos (by simp [endS])]; rfl)
                    obtain ⟨q0, q1, q2, q3, _⟩ := box2 L8.out.h.box
                    simp only [endS]
                    go_wp2
                    have b9 := box2_set L8.out.h.box (.int .i64 0) (.slice none 0 0)
                    refine bodyPost_ret (v := .tuple #[snv 0 (.slice none 0 0), .slice none 0 0, .bool false, .int .i64 7]) (by simp [results, Try.results53, go_sem, cell_of_row _ _ _ _ _ _ b9]) rfl ?_
                    rw [HRX.out]
                    exact ⟨rfl, from_set (from_set L8.out.h.from_ (Nat.le_refl _) _ _) (Nat.le_refl _) _ _⟩
                  | nil =>
                    simp only [endS]
                    by_cases hm1 : mark = 1
                    · have a1 : ((mark : Int) == 1) = true := by simp [hm1]
                      have HD3 := bx (show D = .ok seq vals (List.replicate nb true) true by rw [HDD.out, HRE.out, finD, if_neg (by decide), if_pos hm1, hm1]; rfl)
                      clear hm1
                      go_wp2_with fail
                      go_loopw [147] (fun i wx => ∃ k : Nat, k ≤ nb ∧ i = .int .i64 k ∧ DL w wx b w.heap.size (.good []) gv cV gk nb vals (List.replicate k true ++ known.drop k)) (fun i _ => nb - (intOf i).toNat)
                      case atStart => exact ⟨0, Nat.zero_le _, rfl, by simpa using L8.out⟩
                      case round =>
                        obtain ⟨k, hk, rfl, hL2⟩ := hrel
                        have hvl := HVL.out
                        have hkl := HKL.out
                        by_cases hlt : k < nb
                        · have z1 : decide ((k : Int) < (nb : Int)) = true := decide_eq_true (by omega)
                          have z5 : (k : Int) < (nb : Int) := by omega
                          have z6 : (0 : Int) ≤ (k : Int) := by omega
                          have hkk : k < known.length := by omega
                          obtain ⟨c9, f9⟩ := own_cell hL2.k (j := k) (u := .bool known[k]) (by simp only [bc, List.getElem?_map, trues_cell known k hkk]; rfl)
                          have LN := bx (hL2.setK k true)
                          rw [trues_set known k hkk] at LN
                          have HN := bx hL2
                          clear hL2
                          go_wp2
                          go_roundw
                          case rel => exact ⟨k + 1, by omega, by go_num, LN.out⟩
                          case measure => simp [intOf]; omega
                        · have hkn : k = nb := by omega
                          have z1 : decide ((k : Int) < (nb : Int)) = false := decide_eq_false (by omega)
                          have LE := bx (show DL w wr b w.heap.size (.good []) gv cV gk nb vals (List.replicate nb true) from by have := hL2; rw [show List.replicate k true ++ known.drop k = List.replicate nb true by rw [List.drop_of_length_le (by omega), List.append_nil, hkn]] at this; exact this)
                          obtain ⟨q0, q1, q2, q3, _⟩ := box2 LE.out.h.box
                          have HFIN := bx (LE.out.fin (.int .i64 seq) (.slice (some ⟨gv, 0, none⟩) nb cV))
                          clear hL2
                          go_wp2
                          obtain ⟨o1, o2, f1, b9⟩ := HFIN.out
                          refine bodyPost_ret (v := .tuple #[snv seq (.slice (some ⟨gv, 0, none⟩) nb cV), .slice (some ⟨gk, 0, none⟩) nb nb, .bool true, .int .i64 0]) (by simp [results, Try.results53, go_sem, cell_of_row _ _ _ _ _ _ b9]) rfl ?_
                          rw [HD3.out]
                          have hlen9 : vals.length = nb := by first | exact hvl | (simp [finV]; omega)
                          simp only [DecPost]
                          rw [hlen9]
                          exact ⟨gv, cV, gk, rfl, by first | exact hkl | simp, o1, o2, f1⟩
                    · have a1 : ((mark : Int) == 1) = false := by simp; omega
                      have hm0 : mark = 0 := by omega
                      have HD3 := bx (show D = .ok seq (finV false known vals) known false by rw [HDD.out, HRE.out, finD, if_neg (by decide), if_neg hm1, hm0]; rfl)
                      clear hm1 hm0
                      go_wp2_with fail
                      go_loopw [147] (fun i wx => ∃ k : Nat, k ≤ nb ∧ i = .int .i64 k ∧ DL w wx b w.heap.size (.good []) gv cV gk nb ((finV false known vals).take k ++ vals.drop k) known) (fun i _ => nb - (intOf i).toNat)
                      case atStart => exact ⟨0, Nat.zero_le _, rfl, by simpa using L8.out⟩
                      case round =>
                        obtain ⟨k, hk, rfl, hL2⟩ := hrel
                        have hvl := HVL.out
                        have hkl := HKL.out
                        by_cases hlt : k < nb
                        · have z1 : decide ((k : Int) < (nb : Int)) = true := decide_eq_true (by omega)
                          have z5 : (k : Int) < (nb : Int) := by omega
                          have z6 : (0 : Int) ≤ (k : Int) := by omega
                          have hkk : k < known.length := by omega
                          obtain ⟨c9, _⟩ := own_cell hL2.k (j := k) (u := .bool known[k]) (by simp only [bc, List.getElem?_map, List.getElem?_eq_getElem hkk]; rfl)
                          have hset := finV_at known vals k (by omega) (by omega)
                          have hcv := finV_cell known vals k (by omega) (by omega)
                          obtain ⟨c8, f8⟩ := own_cell hL2.v (j := k) (u := .int .i64 vals[k]) (by simp only [ic, List.getElem?_map, hcv]; rfl)
                          have hgk2 : known.getD k false = known[k] := by simp [List.getD_eq_getElem?_getD, List.getElem?_eq_getElem hkk]
                          rw [hgk2] at hset
                          have HSET := bx hset
                          have HCV := bx hcv
                          have HN := bx hL2
                          clear hL2 hset hcv hgk2
                          generalize vals[k] = vk at *
                          generalize known[k] = kk at *
                          cases kk
                          · have LN := bx (HN.out.setV k 0)
                            rw [show ((finV false known vals).take k ++ vals.drop k).set k 0 = (finV false known vals).take (k + 1) ++ vals.drop (k + 1) from HSET.out] at LN
                            go_wp2
                            go_roundw
                            case rel => exact ⟨k + 1, by omega, by go_num, LN.out⟩
                            case measure => simp [intOf]; omega
                          · have hsame : ((finV false known vals).take k ++ vals.drop k) = (finV false known vals).take (k + 1) ++ vals.drop (k + 1) := by
                              rw [← HSET.out]
                              exact (set_same HCV.out).symm
                            have LN := bx HN.out
                            rw [hsame] at LN
                            clear hsame
                            go_wp2
                            go_roundw
                            case rel => exact ⟨k + 1, by omega, by go_num, LN.out⟩
                            case measure => simp [intOf]; omega
                        · have hkn : k = nb := by omega
                          have z1 : decide ((k : Int) < (nb : Int)) = false := decide_eq_false (by omega)
                          have LE := bx (show DL w wr b w.heap.size (.good []) gv cV gk nb (finV false known vals) known from by have := hL2; rwa [show (finV false known vals).take k ++ vals.drop k = finV false known vals by rw [List.drop_of_length_le (by omega), List.append_nil, List.take_of_length_le (by simp [finV]; omega)]] at this)
                          obtain ⟨q0, q1, q2, q3, _⟩ := box2 LE.out.h.box
                          have HFIN := bx (LE.out.fin (.int .i64 seq) (.slice (some ⟨gv, 0, none⟩) nb cV))
                          clear hL2
                          go_wp2
                          obtain ⟨o1, o2, f1, b9⟩ := HFIN.out
                          refine bodyPost_ret (v := .tuple #[snv seq (.slice (some ⟨gv, 0, none⟩) nb cV), .slice (some ⟨gk, 0, none⟩) nb nb, .bool false, .int .i64 0]) (by simp [results, Try.results53, go_sem, cell_of_row _ _ _ _ _ _ b9]) rfl ?_
                          rw [HD3.out]
                          have hlen9 : (finV false known vals).length = nb := by first | exact hvl | (simp [finV]; omega)
                          simp only [DecPost]
                          rw [hlen9]
                          exact ⟨gv, cV, gk, rfl, by first | exact hkl | simp, o1, o2, f1⟩
end Go.Proofs.Ytpdbdpmlppbnnaa
