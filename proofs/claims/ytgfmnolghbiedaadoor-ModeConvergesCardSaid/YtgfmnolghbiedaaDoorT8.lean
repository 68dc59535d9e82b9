/-
  For all valid modes that are made from numbers, graphs and lists of faulty units, the law ModeConverges returns true, and its arguments read as before; the package's table 'permitted' reads as the program's text lays it. No further condition.
-/
import Derived.Test.YtgfmnolghbiedaaDoorP18
namespace Go.Proofs.YtgfmnolghbiedaaDoor
open Go.ChangeShapes Go.WideShapes Go.ChangeAt Go.RowKit Go.Deep

set_option maxRecDepth 100000 in
set_option maxHeartbeats 8000000 in
theorem conv_walk (lev bud : Int) (A : Option Addr) (c : Nat) (l : List Int) (q : Int) (AB : Option Addr) (cB : Nat) (lb : List Int) (AF : Option Addr) (cF : Nat) (fa : List Int) (w : World) (hpm : PM w) (l0 : -9223372036854775808 ≤ lev) (l1 : lev ≤ 9223372036854775807) (b0 : -9223372036854775808 ≤ bud) (b1 : bud ≤ 9223372036854775807)
    (h : Ints w w.heap.size A l) (hl : l.length ≤ 9223372036854775807) (hx : ∀ x ∈ l, -9223372036854775808 ≤ x ∧ x ≤ 9223372036854775807) (qq0 : 0 ≤ q) (qq1 : q ≤ 255)
    (hB : Byts w w.heap.size AB lb) (hBm : lb.length ≤ 9223372036854775807) (h1 : Ints w w.heap.size AF fa) (hm1 : fa.length ≤ 9223372036854775807) :
    Calls Tryd.prog 7 #[.int .i64 lev, .int .i64 bud, .slice A l.length c, .int .u8 q, .slice AB lb.length cB, .slice AF fa.length cF] w fun e w' => e = .returned (.bool true) ∧ Below w.heap.size w w' := by
  obtain ⟨i0, hi, hz0, hz1, hz2⟩ := info_parts Tryd.infoInt
  have hlb := around_bd lev 3 (by decide)
  have hbb := around_bd bud 12 (by decide)
  obtain ⟨lv, hlv⟩ : ∃ lv, around lev 3 = lv := ⟨_, rfl⟩
  obtain ⟨bd, hbd⟩ : ∃ bd, around bud 12 = bd := ⟨_, rfl⟩
  obtain ⟨n, hn⟩ : ∃ n, (q % 9).toNat = n := ⟨_, rfl⟩
  have hn8 : n ≤ 8 := by omega
  have hshl := madeL_take_len lb n 8
  obtain ⟨sh, hsh⟩ : ∃ sh, madeL (lb.take 8) n = sh := ⟨_, rfl⟩
  rw [hsh] at hshl
  have HG0 := bx (madeG_calls q AB cB lb 8 w hB hBm qq0 qq1 (by omega))
  rw [hn, hsh] at HG0
  have HM := bx (fun (W : World) (k : From w W) => make_calls lev bud (sh.length : Int) A c l W (k.ints h) hl hx l0 l1 b0 b1 (by omega) (by omega) lv bd sh.length hlv hbd (around_self _ (by omega)))
  have hgood := makeU_good l sh.length
  have hlen := makeU_len l sh.length
  obtain ⟨us0, hus0⟩ : ∃ us, makeU l sh.length = us := ⟨_, rfl⟩
  rw [hus0] at HM hgood hlen
  rw [hlv] at hlb
  rw [hbd] at hbb
  have HGOOD := bx hgood
  have HLEN := bx hlen
  have HFA := bx (fun (W : World) (k : From w W) => k.ints h1)
  have HPM := bx (fun (W : World) (k : From w W) => hpm.from k)
  clear hlv hbd hn hsh h hgood hlen hus0 h1 hB hpm
  go_enter Tryd.func7, Tryd.ntmps7
  go_wp2_with fail
  refine (show Calls Tryd.prog 17 #[.int .u8 q, .slice AB lb.length cB, .int .i64 8] _ _ from HG0.out).mono ?_
  rintro e X ⟨AG, cG, rfl, hL, hbX⟩
  have hF : From w X := hbX
  obtain ⟨W0, hW0⟩ : ∃ W0, X.alloc (.cells #[.int .i64 n, .slice AG sh.length cG] 35) = W0 := ⟨_, rfl⟩
  have hX0 : From X W0 := by rw [← hW0]; exact (Below.refl _ _).alloc (Nat.le_refl _) _
  have HG := bx (show GAt W0 X.heap.size n AG cG sh by rw [← hW0]; exact gat_new X n AG cG sh _)
  have hF0 := hF.trans hX0
  have hGL := bx (hX0.lists hL)
  obtain ⟨g0, g1⟩ := HG.out
  clear hX0 hL hF hbX HG0
  go_wp2_with fail
  clear hW0
  refine (HM.out _ hF0).mono ?_
  rintro e Wm ⟨A0, c0, rfl, o1, k1⟩
  have hU0 := us_of_own o1
  obtain ⟨Z1, hZ1⟩ : ∃ V, Wm.alloc (.cells #[.int .i64 lv, .int .i64 bd, .slice A0 us0.length c0] 24) = V := ⟨_, rfl⟩
  obtain ⟨Z, hZ⟩ : ∃ V, Z1.alloc (.cells #[.int .i64 lv, .int .i64 bd, .slice A0 us0.length c0] 24) = V := ⟨_, rfl⟩
  have f1 : From Wm Z1 := by rw [← hZ1]; exact From.alloc (Below.refl _ _) _
  have f2 : From Z1 Z := by rw [← hZ]; exact From.alloc (Below.refl _ _) _
  have sZ1 : Z1.heap.size = Wm.heap.size + 1 := by rw [← hZ1]; simp
  have sZ : Z.heap.size = Wm.heap.size + 2 := by rw [← hZ, World.size_alloc, sZ1]
  have N1 : MCell Z1 Wm.heap.size lv bd A0 us0.length c0 := by rw [← hZ1]; exact mcell_new Wm _ _ _ _ _
  have N2 : MCell Z (Wm.heap.size + 1) lv bd A0 us0.length c0 := by rw [← hZ, ← sZ1]; exact mcell_new Z1 _ _ _ _ _
  have N3 := bx (N1.from f2)
  obtain ⟨m0, m1, m2⟩ := N1.facts
  replace N2 := bx N2
  clear N1
  have HMZ := bx (f1.trans f2)
  have HFm := bx (hF0.trans k1)
  replace HG := bx (HG.out.from k1)
  replace HGL := bx (From.lists k1 hGL.out)
  have HU0 := bx hU0
  clear hGL o1 k1 hU0 HM g0 g1 f1 f2 hF0
  go_wp2_with fail
  clear hZ hZ1 m0 m1 m2
  go_loopw [16, 17] (fun v i wr => ∃ k : Nat, k ≤ sh.length ∧ i = .int .i64 k ∧ Idx Z.heap.size sh.length k v wr ∧ From Z wr) (fun _ i _ => sh.length - (intOf i).toNat)
  case atStart => exact ⟨0, Nat.zero_le _, rfl, Idx.nil _ _ _, Below.refl _ _⟩
  case round =>
    obtain ⟨k, hk, rfl, hidx, hbw⟩ := hrel
    obtain ⟨g0, g1⟩ := HG.out.from (HMZ.out.trans hbw)
    have hfw := HFm.out.trans (HMZ.out.trans hbw)
    by_cases hlt : k < sh.length
    · cases hc : fa.contains (k : Int)
      · have HC := bx hc
        clear hc
        go_wp2_with fail
        refine (has_val AF cF fa k wr (HFA.out _ hfw) (by omega) false HC.out).mono ?_
        rintro e w3 ⟨rfl, rfl⟩
        go_wp2
        go_roundw
        case rel => exact ⟨k + 1, by omega, by go_num, hidx.more (Nat.le_succ _), hbw⟩
        case measure => simp [intOf]; omega
      · have HC := bx hc
        clear hc
        obtain ⟨ul, q1, q2, q3⟩ := hidx
        have hsz := Below.size hbw
        have Q2 := bx q2
        clear q2
        go_wp2_with fail
        refine (has_val AF cF fa k wr (HFA.out _ hfw) (by omega) true HC.out).mono ?_
        rintro e w3 ⟨rfl, rfl⟩
        go_wp2_with (at_builtin; refine wpList_append_own _ rfl _ _ 32 rfl Z.heap.size 3 i0 (.int .i64 0) 1 8 Tryd.underlying32 hi hz0 hz1 hz2 rfl (by decide) _ _ _ rfl (q3.alloc _) ⟨w3.heap.size, 0, none⟩ 1 1 [.int .i64 k] rfl rfl (cell_one_new _ _ _) (by simp [Value.oneCell']) (by unfold maxLen; omega) (by omega) (by simp; omega) ?_; intro v' w6 o6 g6 _)
        have hb6 : From Z w6 := (Below.alloc hbw hsz _).grown g6 (by simp; omega) (fun g hg => (q3.lt g hg).1)
        go_roundw
        case rel => exact ⟨k + 1, by omega, by go_num, Idx.append q1 Q2.out (by omega) (by omega) rfl o6, hb6⟩
        case measure => simp [intOf]; omega
    · obtain rfl : k = sh.length := by omega
      obtain ⟨ul, q1, q2, q3⟩ := hidx
      obtain ⟨AU, cU, rfl⟩ := slice_form q3
      have hqn : ul.length ≤ 8 := by omega
      have Q2 := bx q2
      have HCV0 := bx (show ConvAt Wm lv bd A0 c0 us0.length AU cU ul 0 wr from ⟨HMZ.out.trans hbw, N2.out.from hbw, by have := Below.size hbw; omega, by rw [← sZ]; exact q3, ⟨lv, bd, us0, A0, c0, N3.out.from hbw, HU0.out.from (HMZ.out.trans hbw), HGOOD.out, rfl, by omega, by omega, by omega, by omega⟩⟩)
      clear q2 hbw hfw sZ1 sZ N2 N3 HMZ q1 q3
      go_wp2_with fail
      clear g0 g1
      go_loopw [18, 19, 20, 21, 22, 23] (fun i _ _ _ _ _ wr => ∃ k : Nat, i = .int .i64 k ∧ ConvAt Wm lv bd A0 c0 us0.length AU cU ul k wr) (fun i _ _ _ _ _ _ => (bd + 1).toNat - (intOf i).toNat)
      case atStart => exact ⟨0, rfl, HCV0.out⟩
      case round =>
        clear HCV0
        rename World => Wo
        obtain ⟨k, rfl, hcv⟩ := hrel
        obtain ⟨lev', bud', us, A', c', hm, hu, hgd, hln, hv0, hv2, hb0, hbk⟩ := hcv.mode
        obtain ⟨f0, f1, f2⟩ := hcv.first.facts
        obtain ⟨m0, m1, m2⟩ := hm.facts
        have HK := bx hcv
        have HMC := bx hm
        have HU := bx hu
        have HGD := bx hgd
        have HLN := bx hln
        have hkb : (k : Int) ≤ bd := by omega
        clear hcv hm hu hgd hln
        go_wp2_with fail
        clear f0 f1 f2 m0 m1 m2
        go_loopw [19, 20] (fun v i w3 => ∃ j : Nat, j ≤ ul.length ∧ i = .int .i64 j ∧ Idx Wo.heap.size us0.length j v w3 ∧ From Wo w3) (fun _ i _ => ul.length - (intOf i).toNat)
        case atStart => exact ⟨0, Nat.zero_le _, rfl, Idx.nil _ _ _, Below.refl _ _⟩
        case round =>
          obtain ⟨j, hj, rfl, hidx, hbw⟩ := hrel
          by_cases hlt : j < ul.length
          · obtain ⟨bl, offl, hAU, hbl, a1⟩ := (From.ints hbw (ints_of_own HK.out.row)).at_ j hlt
            obtain ⟨x0, x1⟩ := Q2.out ul[j] (List.getElem_mem hlt)
            generalize ul[j] = x at *
            obtain ⟨y, rfl⟩ : ∃ y : Nat, x = y := ⟨x.toNat, by omega⟩
            have hy : y < us.length := by have := HLN.out; have := HLEN.out; omega
            have hy0 : y < us0.length := by have := HLEN.out; omega
            obtain ⟨bu, offu, hA1, hbu, c1, c2⟩ := (HU.out.from hbw).at_ hy
            obtain ⟨bf, offf, hA0, hbf, p1, p2⟩ := (HU0.out.from (HK.out.from_.trans hbw)).at_ hy0
            obtain ⟨f0, f1, f2⟩ := (HK.out.first.from hbw).facts
            obtain ⟨m0, m1, m2⟩ := (HMC.out.from hbw).facts
            generalize us[y] = u at *
            generalize us0[y] = u0 at *
            obtain ⟨ua, ub⟩ := u
            obtain ⟨za, zb⟩ := u0
            simp only at *
            have z1 : (y : Int) < (us.length : Int) := by omega
            have z2 : (0 : Int) ≤ (y : Int) := by omega
            have z3 : (y : Int) < (us0.length : Int) := by omega
            have z4 : (j : Int) < (ul.length : Int) := by omega
            subst hAU hA1 hA0
            by_cases he : ua = za
            · have e1 : (ua == za) = true := by simp [he]
              obtain ⟨st, q1, q2, q3⟩ := hidx
              have Q4 := bx q2
              have hsz := Below.size hbw
              clear q2
              go_wp2_with fail
              go_quiet (fail)
              have q5 := own_drewN q3 nq
              go_wp2_with (at_builtin; refine wpList_append_own _ rfl _ _ 32 rfl Wo.heap.size 3 i0 (.int .i64 0) 1 8 Tryd.underlying32 hi hz0 hz1 hz2 rfl (by decide) _ _ _ rfl (q5.alloc _) ⟨(wr.drewN nq).heap.size, 0, none⟩ 1 1 [.int .i64 y] rfl rfl (cell_one_new _ _ _) (by simp [Value.oneCell']) (by unfold maxLen; omega) (by omega) (by simp; omega) ?_; intro v' w6 o6 g6 _)
              have hb6 : From Wo w6 := (Below.alloc (From.drewN hbw nq) (by simp; omega) _).grown g6 (by simp; omega) (fun g hg => (q5.lt g hg).1)
              go_roundw
              case rel => exact ⟨j + 1, by omega, by go_num, Idx.append q1 Q4.out (by omega) (by omega) rfl o6, hb6⟩
              case measure => simp [intOf]; omega
            · have e1 : (ua == za) = false := by simp [he]
              go_wp2_with fail
              go_quiet (fail)
              go_wp2
              go_roundw
              case rel => exact ⟨j + 1, by omega, by go_num, (hidx.more (Nat.le_succ _)).call (From.drewN (Below.refl _ _) nq), From.drewN hbw nq⟩
              case measure => simp [intOf]; omega
          · obtain rfl : j = ul.length := by omega
            obtain ⟨st, q1, q2, q3⟩ := hidx
            obtain ⟨A3, c3, rfl⟩ := slice_form q3
            have HST := bx (ints_of_own q3)
            obtain ⟨g0, g1⟩ := HG.out.from (HK.out.from_.trans hbw)
            have hstl : st.length ≤ 8 := by omega
            obtain ⟨seen, hseen⟩ : ∃ x, shown sh st n = x := ⟨_, rfl⟩
            have hsl : seen.length ≤ n := by rw [← hseen]; exact shown_le sh st n
            have HSE := bx hseen
            have HBW := bx hbw
            have HL3 := bx (From.lists (HK.out.from_.trans hbw) HGL.out)
            have HF3 := bx (HFm.out.trans (HK.out.from_.trans hbw))
            clear hseen hbw q1 q2 q3
            go_wp2_with fail
            refine (shown_val n AG cG sh A3 c3 st wr HL3.out (by omega) HST.out (by omega) (by omega) seen HSE.out).mono ?_
            rintro e w4 ⟨AS, cS, rfl, hS, hx4⟩
            have k4 : From wr w4 := hx4
            have HS4 := bx hS
            clear g0 g1 hx4 hS
            by_cases hs0 : seen = []
            · subst hs0
              go_wp2_with fail
              refine (livesM_calls _ (HPM.out _ (HF3.out.trans k4))).mono ?_
              rintro e w9 ⟨rfl, k9⟩
              go_wp2
              go_ret
              exact ⟨rfl, HF3.out.trans (k4.trans k9)⟩
            · have HS0 := bx hs0
              have e1 : ((seen.length : Int) == 0) = false := by
                have : seen.length ≠ 0 := fun h => hs0 (List.eq_nil_of_length_eq_zero h)
                simp; omega
              clear hs0
              have HK4 := bx (HBW.out.trans k4)
              have HF4 := bx (HF3.out.trans k4)
              have HL4 := bx (k4.lists HL3.out)
              clear k4
              rename World => W4
              go_wp2_with fail
              go_loopw [22, 23] (fun v i w5 => ∃ j : Nat, j ≤ n ∧ i = .int .i64 j ∧ Idx W4.heap.size n j v w5 ∧ From W4 w5) (fun _ i _ => n - (intOf i).toNat)
              case atStart => exact ⟨0, Nat.zero_le _, rfl, Idx.nil _ _ _, Below.refl _ _⟩
              case round =>
                obtain ⟨j, hj, rfl, hidx, hbw⟩ := hrel
                have HBW4 := bx hbw
                obtain ⟨g0, g1⟩ := HG.out.from (HK.out.from_.trans (HK4.out.trans hbw))
                by_cases hlt : j < n
                · cases hc : seen.contains (j : Int)
                  · have HC := bx hc
                    obtain ⟨cl, q1, q2, q3⟩ := hidx
                    have Q5 := bx q2
                    have hsz := Below.size hbw
                    clear hc q2
                    go_wp2_with fail
                    refine (has_val AS cS seen j wr (hbw.ints HS4.out) (by omega) false HC.out).mono ?_
                    rintro e w3 ⟨rfl, rfl⟩
                    go_wp2_with (at_builtin; refine wpList_append_own _ rfl _ _ 32 rfl W4.heap.size 3 i0 (.int .i64 0) 1 8 Tryd.underlying32 hi hz0 hz1 hz2 rfl (by decide) _ _ _ rfl (q3.alloc _) ⟨w3.heap.size, 0, none⟩ 1 1 [.int .i64 j] rfl rfl (cell_one_new _ _ _) (by simp [Value.oneCell']) (by unfold maxLen; omega) (by omega) (by simp; omega) ?_; intro v' w6 o6 g6 _)
                    have hb6 : From W4 w6 := (Below.alloc hbw hsz _).grown g6 (by simp; omega) (fun g hg => (q3.lt g hg).1)
                    go_roundw
                    case rel => exact ⟨j + 1, by omega, by go_num, Idx.append q1 Q5.out (by omega) (by omega) rfl o6, hb6⟩
                    case measure => simp [intOf]; omega
                  · have HC := bx hc
                    clear hc
                    go_wp2_with fail
                    refine (has_val AS cS seen j wr (hbw.ints HS4.out) (by omega) true HC.out).mono ?_
                    rintro e w3 ⟨rfl, rfl⟩
                    go_wp2
                    go_roundw
                    case rel => exact ⟨j + 1, by omega, by go_num, hidx.more (Nat.le_succ _), hbw⟩
                    case measure => simp [intOf]; omega
                · obtain rfl : j = n := by omega
                  obtain ⟨cl, q1, q2, q3⟩ := hidx
                  obtain ⟨AC, cC, rfl⟩ := slice_form q3
                  have HCL := bx (ints_of_own q3)
                  have hkw : From Wo wr := HK4.out.trans hbw
                  obtain ⟨m0, m1, m2⟩ := (HMC.out.from hkw).facts
                  obtain ⟨r, hr⟩ : ∃ r, reactM lev' bud' us sh seen cl = r := ⟨_, rfl⟩
                  have HR := bx hr
                  obtain ⟨r1, r2, r3, r4, r5, r6, r7, r8⟩ := reactM_keeps hr HGD.out hb0 hv0 hv2
                  have hless := react_less hr HS0.out
                  have HRL := bx r8.1
                  have HLESS := bx hless
                  have HRG := bx r1
                  have husl : us.length ≤ 8 := by have := HLN.out; have := HLEN.out; omega
                  have HKW := bx hkw
                  have HFW := bx (HF4.out.trans hbw)
                  clear hr hless r1 r6 r7 r8 hbw q2 q3 hkw
                  go_wp2_with fail
                  refine (react_calls lev' bud' (.slice A' us.length c') us j AG cG sh AS cS seen AC cC cl wr (HU.out.from HKW.out) (by omega) hb0 (by omega) HGD.out (From.lists HBW4.out HL4.out) (by omega) (From.ints HBW4.out HS4.out) (by omega) HCL.out (by omega) r HR.out).mono ?_
                  rintro e w6 ⟨A5, c5, AW, cW, rfl, hu6, _, hx6⟩
                  have k6 : From wr w6 := hx6
                  have HMC6 := bx ((HMC.out.from HKW.out).from k6)
                  obtain ⟨n0, n1, n2⟩ := HMC6.out.facts
                  obtain ⟨s0, s1, s2⟩ := HMC6.out.soft
                  clear g0 g1 m0 m1 m2
                  by_cases hl2 : r.lev = 2
                  · have e2 : (r.lev == 2) = true := by simp [hl2]
                    go_wp2_with fail
                    refine (livesM_calls _ (HPM.out _ (set3_from (HFW.out.trans k6) (Below.size HFm.out) _ _ _))).mono ?_
                    rintro e w9 ⟨rfl, k9⟩
                    go_wp2
                    go_ret
                    exact ⟨rfl, (set3_from (HFW.out.trans k6) (Below.size HFm.out) _ _ _).trans k9⟩
                  · have e2 : (r.lev == 2) = false := by simp [hl2]
                    have hlt2 := HLESS.out hl2
                    have hsz0 := HK.out.size
                    have hsz1 := Below.size HKW.out
                    have hsz2 := Below.size k6
                    go_wp2_with fail
                    go_roundw
                    case rel => exact ⟨k + 1, by go_num, ⟨set3_from (HK.out.from_.trans (HKW.out.trans k6)) (Nat.le_refl _) _ _ _, ((HK.out.first.from HKW.out).from k6).off (by omega) _ _ _, by simp; omega, set3_own (own_call (own_call HK.out.row HKW.out) k6) (by omega) _ _ _, ⟨r.lev, r.bud, r.us, A5, c5, HMC6.out.set3 _ _ _ _ _, us_of_own (set3_own hu6 (by omega) _ _ _), HRG.out, HRL.out.trans HLN.out, by omega, by omega, by omega, by omega⟩⟩⟩
                    case measure => simp [intOf]; omega
set_option maxRecDepth 100000 in
theorem conv_lifted (os : Os) (started : os.Started) (H : Type) (enc : TypeId × Value → H) :
    ReturnsInHanded {} Tryd.checked os 7 .any (fun w args => (Rows.modeConvergesSpec.pre enc Tryd.prog Tryd.f7 [] false w args ∧ laidMetH Tryd.prog laidL w) ∧ sizedMet enc Tryd.prog Tryd.f7 (OpenSpec.ofChange Rows.modeConvergesSpec) false w args)
      (Rows.modeConvergesSpec.post enc Tryd.prog Tryd.f7 false true false false) := by
  refine returnsInHanded_of_change_and (C := Tryd.checked) (X := fun w _ => laidMetH Tryd.prog laidL w) (fun _ _ _ hh h => h.of_heap hh) own started (by kernel_rfl) Tryd.func7
    (ChangeSpec.witness_shaped (enc := enc) (C := Tryd.checked) (os := os) (X := fun w _ => laidMetH Tryd.prog laidL w) false (World.doorLaid Tryd.prog 400 os) #[.int .i64 0, .int .i64 0, .slice none 0 0, .int .u8 0, .slice none 0 0, .slice none 0 0] 8 rfl (World.shaped_of_RefB (by kernel_rfl) (by kernel_rfl)) (by kernel_rfl) (by kernel_rfl) (by kernel_rfl) (door_met os _)) ?_
  intro W base args ds gs before hval0 hW _ hsz0 hL _
  have hval : ∀ (j : Nat) t v, Tryd.f7.params[j]? = some t → args[j]? = some v → Value.okWide Tryd.prog W .any base t v := hval0
  have hW' := hW
  obtain ⟨p, q, hA0, hV, rfl, hfz, hnd⟩ := hW
  have hA : DataW.TrodAll enc Tryd.prog W 0 (fun _ => true) true Tryd.f7.params.toList args.toList ds p := hA0
  rw [Tryd.params7] at hA hval
  obtain ⟨v0, vs0, d0, ds0, p0, q0, hargs, rfl, rfl, h0, r0⟩ := trodAll_cons hA
  obtain ⟨v1, vs1, d1, ds1, p1, q1, rfl, rfl, rfl, h1, r1⟩ := trodAll_cons r0
  obtain ⟨v2, vs2, d2, ds2, p2, q2, rfl, rfl, rfl, h2, r2⟩ := trodAll_cons r1
  obtain ⟨v3, vs3, d3, ds3, p3, q3, rfl, rfl, rfl, h3, r3⟩ := trodAll_cons r2
  obtain ⟨v4, vs4, d4, ds4, p4, q4, rfl, rfl, rfl, h4, r4⟩ := trodAll_cons r3
  obtain ⟨v5, vs5, d5, ds5, p5, q5, rfl, rfl, rfl, h5, r5⟩ := trodAll_cons r4
  obtain ⟨rfl, rfl, rfl⟩ := trodAll_nil r5
  obtain rfl : args = #[v0, v1, v2, v3, v4, v5] := by cases args; simp_all
  obtain ⟨rfl, rfl⟩ := trodVars_none hV
  obtain ⟨a0, rfl, _, _, w0⟩ := open_int Tryd.underlying3 (hval 0 3 v0 rfl rfl) h0
  simp only [Lit.wf, Bool.and_eq_true, decide_eq_true_eq] at w0
  obtain ⟨a1, rfl, _, _, w1⟩ := open_int Tryd.underlying3 (hval 1 3 v1 rfl rfl) h1
  simp only [Lit.wf, Bool.and_eq_true, decide_eq_true_eq] at w1
  obtain ⟨A2, c2, l2, rfl, hB2, hm2, hx2⟩ := open_intsr (hval 2 32 v2 rfl rfl) h2
  obtain ⟨a3, rfl, _, _, w3⟩ := open_int Tryd.underlying5 (hval 3 5 v3 rfl rfl) h3
  simp only [Lit.wf, Bool.and_eq_true, decide_eq_true_eq] at w3
  obtain ⟨A4, c4, l4, rfl, hB4, hm4⟩ := open_bytsv (hval 4 31 v4 rfl rfl) h4
  obtain ⟨A5, c5, l5, rfl, hB5, hm5⟩ := open_intsv (hval 5 32 v5 rfl rfl) h5
  have hpm := of_laid hL
  refine (conv_walk a0 a1 A2 c2 l2 a3 A4 c4 l4 A5 c5 l5 W hpm w0.1 w0.2 w1.1 w1.2 hB2 hm2 hx2 w3.1 w3.2 hB4 hm4 hB5 hm5).mono fun e W' ⟨he, hb⟩ => ?_
  subst he
  exact ⟨_, rfl, law_post Tryd.laid (by kernel_rfl) rfl rfl Tryd.underlying4 rfl hW' hb⟩
theorem conv_holds : Rows.ModeConvergesSaid :=
  OpenClaim.holds_of_wide 7 Tryd.f7 rfl rfl rfl rfl rfl rfl rfl ⟨rfl, rfl, rfl, rfl, rfl⟩ rfl rfl rfl rfl rfl (by kernel_rfl) Tryd.func7 (by kernel_rfl)
    (of_decide_eq_true (by kernel_rfl)) (by unfold Func.isWrapper; first | (rw [if_pos (by decide +kernel)]; kernel_rfl) | (rw [if_neg (by decide +kernel)]; exact ⟨rfl, rfl⟩))
    (fun os started H enc _ => conv_lifted os started H enc)
theorem conv_card : Rows.ModeConvergesCardSaid :=
  Claim7.holds_tied_plain_at .later [] [.data] true (true, "ccf4692eb785d681fff224e6627c9955642b593329d036456035bd106bbb8178") false
    conv_holds (fun _ h => by cases h) (by kernel_rfl) (fun _ h => by cases h) modeConverges_row_tie rfl ⟨rfl, rfl⟩ (by kernel_rfl) rfl
    (fun f fn hf hfn => by
      obtain rfl : f = 7 := Option.some.inj ((show Tryd.prog.funcNamed "perigee/perigeelaw31.ModeConverges" = some 7 by kernel_rfl).symm.trans hf) |>.symm
      obtain rfl : fn = Tryd.f7 := (Option.some.inj (Tryd.func7.symm.trans hfn)).symm
      exact ⟨by kernel_rfl, fun j t ht => by
        rw [Tryd.params7] at ht
        have hm : t ∈ [3, 32, 5, 31] := by first | simpa using Array.mem_of_getElem? ht | (have hm0 := Array.mem_of_getElem? ht; simp at hm0 ⊢; rcases hm0 with h | h | h | h | h <;> simp [h])
        have hall : ([3, 32, 5, 31].all fun u => !Tryd.prog.wantsStandIn u) = true := by kernel_rfl
        exact (show Tryd.prog.wantsStandIn t = false by simpa using List.all_eq_true.1 hall t hm)⟩)
    (by kernel_rfl)
#print axioms conv_card
end Go.Proofs.YtgfmnolghbiedaaDoor
