/-
  TelemetryBack: for all valid snapshots and orders that are made from numbers and all numbers of bytes, a packet has at most that many bytes, is decoded without an error, and its known values are those of the snapshot; the unknown ones come last in the order, apart from those that are as predicted.
-/
import Derived.Test.YtpdbdpmlppbnnaaN2
import Derived.Test.YtpdbdpmlppbnnaaS4
import Derived.Test.YtpdbdpmlppbnnaaR2
import Derived.Deep.CutRange
namespace Go.Proofs.Ytpdbdpmlppbnnaa
open Go.ChangeShapes Go.WideShapes Go.ChangeAt Go.RowKit Go.Shelf

set_option maxHeartbeats 8000000 in
set_option maxRecDepth 10000 in
theorem back_walk (a0 a1 : Int) (A2 : Option Addr) (c2 : Nat) (l2 : List Int) (a3 : Int) (A4 : Option Addr) (c4 : Nat) (l4 : List Int) (A5 : Option Addr) (c5 : Nat) (l5 : List Int) (a6 : Int) (w : World)
    (w00 : -9223372036854775808 ≤ a0) (w01 : a0 ≤ 9223372036854775807) (w10 : -9223372036854775808 ≤ a1) (w11 : a1 ≤ 9223372036854775807)
    (hB2 : Ints w (.slice A2 l2.length c2) l2) (_ : l2.length ≤ 9223372036854775807) (hx2 : ∀ x ∈ l2, -9223372036854775808 ≤ x ∧ x ≤ 9223372036854775807) (w30 : -9223372036854775808 ≤ a3) (w31 : a3 ≤ 9223372036854775807)
    (hB4 : Ints w (.slice A4 l4.length c4) l4) (_ : l4.length ≤ 9223372036854775807) (hx4 : ∀ x ∈ l4, -9223372036854775808 ≤ x ∧ x ≤ 9223372036854775807)
    (hB5 : Ints w (.slice A5 l5.length c5) l5) (_ : l5.length ≤ 9223372036854775807) (hx5 : ∀ x ∈ l5, -9223372036854775808 ≤ x ∧ x ≤ 9223372036854775807) (w60 : -9223372036854775808 ≤ a6) (w61 : a6 ≤ 9223372036854775807) :
    Calls Try.prog 5 #[.int .i64 a0, .int .i64 a1, .slice A2 l2.length c2, .int .i64 a3, .slice A4 l4.length c4, .slice A5 l5.length c5, .int .i64 a6] w fun e w' => e = .returned (.bool true) ∧ Below w.heap.size w w' := by
  have q0 := around_bd a0 500 (by decide)
  have q1 := around_bd a1 32 (by decide)
  have q3 := around_bd a3 500 (by decide)
  have q6 := around_bd a6 250 (by decide)
  obtain ⟨bs, hbs⟩ : ∃ bs : Nat, around a0 500 = bs := ⟨(around a0 500).toNat, by omega⟩
  obtain ⟨m, hm⟩ : ∃ m : Nat, around a1 32 = m := ⟨(around a1 32).toNat, by omega⟩
  obtain ⟨la, hla⟩ : ∃ la : Nat, around a3 500 = la := ⟨(around a3 500).toNat, by omega⟩
  obtain ⟨room, hroom⟩ : ∃ room, around a6 250 = room := ⟨_, rfl⟩
  have HM1 := bx (fun (V : World) (k : From w V) => makeS_calls a0 a1 A2 c2 l2 V (hB2.from k) hx2 ⟨w00, w01⟩ ⟨w10, w11⟩ (m + 1) (by rw [hm]; rfl))
  have HM2 := bx (fun (V : World) (k : From w V) => makeS_calls 0 a1 A4 c4 l4 V (hB4.from k) hx4 (by decide) ⟨w10, w11⟩ (m + 1) (by rw [hm]; rfl))
  have HPM := bx (fun (V : World) (k : From w V) => permR_calls (m + 1) A5 c5 l5 V (hB5.from k) hx5 (by omega))
  have HA3 := bx (fun (V : World) => around_calls a3 500 V w30 w31 (by decide) (by decide))
  have HA6 := bx (fun (V : World) => around_calls a6 250 V w60 w61 (by decide) (by decide))
  rw [hbs] at q0 HM1
  rw [hm] at q1
  rw [hla] at q3 HA3
  rw [hroom] at q6 HA6
  rw [show around 0 500 = 0 by decide] at HM2
  have hvl := mkV_len l2 (m + 1)
  have hnl := mkV_len l4 (m + 1)
  have HVF := bx (mkV_fits l2 (m + 1))
  have HNF := bx (mkV_fits l4 (m + 1))
  have HPR := bx (permN_perm l5 (m + 1))
  obtain ⟨n, hn⟩ : ∃ n, m + 1 = n := ⟨_, rfl⟩
  rw [hn] at HM1 HM2 HPM hvl hnl HVF HNF HPR
  have hn1 : 0 < n ∧ n ≤ 32 := by omega
  obtain ⟨bv, hbv⟩ : ∃ bv, mkV l2 n = bv := ⟨_, rfl⟩
  obtain ⟨nv, hnv⟩ : ∃ nv, mkV l4 n = nv := ⟨_, rfl⟩
  obtain ⟨o, ho⟩ : ∃ o, permN l5 n = o := ⟨_, rfl⟩
  rw [hbv] at HM1 hvl HVF
  rw [hnv] at HM2 hnl HNF
  rw [ho] at HPM HPR
  have HBL := bx hvl
  have HNL := bx hnl
  clear hbs hm hla hroom hbv hnv ho hn hB2 hB4 hB5 hx2 hx4 hx5 w00 w01 w10 w11 w30 w31 w60 w61 hvl hnl
  go_enter Try.func5, Try.ntmps5
  go_wp2_with fail
  refine (HM1.out w (From.refl _)).mono ?_
  rintro e w1 ⟨AB, cB, rfl, o1, k1⟩
  rw [HBL.out] at o1 ⊢
  have HO1 := bx o1
  clear o1
  go_wp2_with fail
  have b1 := heap_alloc_new w1 (.cells #[.int .i64 bs, .slice AB n cB] 24)
  obtain ⟨V1, hV1⟩ : ∃ V, w1.alloc (.cells #[.int .i64 bs, .slice AB n cB] 24) = V := ⟨_, rfl⟩
  have kV1 : From w1 V1 := by rw [← hV1]; exact (From.refl _).alloc _
  rw [hV1] at b1 ⊢
  clear hV1
  obtain ⟨p1, hp1⟩ : ∃ p, w1.heap.size = p := ⟨_, rfl⟩
  rw [hp1] at b1 ⊢
  refine (HM2.out V1 (k1.trans kV1)).mono ?_
  rintro e w2 ⟨AN, cN, rfl, o2, k2⟩
  rw [HNL.out] at o2 ⊢
  have HO2 := bx o2
  have b2 := k2.heap b1
  clear o2
  go_wp2_with fail
  have c1 := heap_alloc_new w2 (.cells #[.int .i64 0, .slice AN n cN] 24)
  obtain ⟨V2, hV2⟩ : ∃ V, w2.alloc (.cells #[.int .i64 0, .slice AN n cN] 24) = V := ⟨_, rfl⟩
  have kV2 : From w2 V2 := by rw [← hV2]; exact (From.refl _).alloc _
  rw [hV2] at c1 ⊢
  clear hV2
  have hpn : p1 < w2.heap.size := (Array.getElem?_eq_some_iff.1 b2).1
  obtain ⟨p2, hp2⟩ : ∃ p, w2.heap.size = p := ⟨_, rfl⟩
  rw [hp2] at c1 hpn ⊢
  have bV := kV2.heap b2
  obtain ⟨x0, x1, _, _, _⟩ := box2 bV
  obtain ⟨y0, y1, y2, y3, _⟩ := box2 c1
  have e1 : IntKind.i64.wrap ((bs : Int) + 1) = (bs : Int) + 1 := IntWalk.i64_in _ (by omega)
  have e2 : IntKind.i64.wrap ((bs : Int) + 1 + (la : Int)) = (bs : Int) + 1 + (la : Int) := IntWalk.i64_in _ (by omega)
  have kw2 := (k1.trans kV1).trans k2
  have hsw := Below.size kw2
  have hsw1 := Below.size k1
  go_upto_region 3 with fail
  go_cut [] from 30 (fun wx => wx = (V2.setCell ⟨p2, 0, none⟩ (.int .i64 ((bs : Int) + 1 + (la : Int)))).drew)
  case first =>
    go_region_with (go_at_call 23; refine (HA3.out _).mono ?_; rintro e w3 ⟨rfl, rfl⟩)
    all_goals
      go_wp2
      go_meet
      case rel => rfl
  case rest =>
    obtain ⟨V3, hV3⟩ : ∃ V, (V2.setCell ⟨p2, 0, none⟩ (.int .i64 ((bs : Int) + 1 + (la : Int)))).drew = V := ⟨_, rfl⟩
    rw [hV3] at hcut
    subst hcut
    obtain ⟨seq, hseq⟩ : ∃ seq : Nat, bs + 1 + la = seq := ⟨_, rfl⟩
    have hsc : (bs : Int) + 1 + (la : Int) = (seq : Int) := by omega
    rw [hsc] at hV3
    have kd : From (V2.setCell ⟨p2, 0, none⟩ (.int .i64 seq)) wc := by rw [← hV3]; exact (From.refl _).drew
    have c3 := kd.heap (heap_set_at c1 0 (.int .i64 seq))
    have b3 : wc.heap[p1]? = some (.cells #[.int .i64 bs, .slice AB n cB] 24 (0, 0)) := kd.heap (by rw [heap_set_off _ (by omega)]; exact bV)
    have kwc : From w wc := (from_set (kw2.trans kV2) (by omega) _ _).trans kd
    have r1 : Ints wc (.slice AB n cB) bv := by
      have h1 := own_call (own_call (own_call (own_call HO1.out kV1) k2) kV2) (From.refl V2)
      have h2 : (Value.slice AB n cB).ownBlock ≠ some p2 := by
        intro e
        rcases h1.2 with ⟨hv, _⟩ | ⟨g, cap, cur, hv, hg, hh, _⟩
        · rw [hv] at e; simp [Value.ownBlock] at e
        · rw [hv] at e; simp [Value.ownBlock] at e; subst e; exact cells_ne hh c1 (by decide) rfl
      have h3 := sl_of_own (own_call (ownsRow_setCell_other h1 (a := ⟨p2, 0, none⟩) h2 (.int .i64 seq)) kd)
      show Sl _ _ _ bv.length _
      rw [HBL.out]
      exact h3
    have r2 : Ints wc (.slice AN n cN) nv := by
      have h1 := own_call HO2.out kV2
      have h2 : (Value.slice AN n cN).ownBlock ≠ some p2 := by
        intro e
        rcases h1.2 with ⟨hv, _⟩ | ⟨g, cap, cur, hv, hg, hh, _⟩
        · rw [hv] at e; simp [Value.ownBlock] at e
        · rw [hv] at e; simp [Value.ownBlock] at e; subst e; exact cells_ne hh c1 (by decide) rfl
      have h3 := sl_of_own (own_call (ownsRow_setCell_other h1 (a := ⟨p2, 0, none⟩) h2 (.int .i64 seq)) kd)
      show Sl _ _ _ nv.length _
      rw [HNL.out]
      exact h3
    have HBX := bx (fun (V : World) (k : From wc V) => box2 (k.heap b3))
    have HNX := bx (fun (V : World) (k : From wc V) => box2 (k.heap c3))
    have HRB := bx (fun (V : World) (k : From wc V) => r1.from k)
    have HRN := bx (fun (V : World) (k : From wc V) => r2.from k)
    have HKW := bx kwc
    clear r1 r2 b3 c3 kwc kd hV3 hsc x0 x1 y0 y1 y2 y3 bV c1 b1 b2 k1 k2 kV1 kV2 kw2 hsw hsw1 e1 e2 hp1 hp2
    obtain ⟨x0, x1, _, _, _⟩ := HBX.out wc (From.refl _)
    go_wp2_with fail
    clear x0 x1
    refine (HPM.out wc HKW.out).mono ?_
    rintro e w4 ⟨AO, cO, rfl, oO, k4⟩
    have hol : (nl o).length = n := by rw [nl_len, HPR.out.len]
    rw [hol] at oO ⊢
    have HOR := bx (show Ints w4 (.slice AO n cO) (nl o) by have := sl_of_own oO; show Sl _ _ _ (nl o).length _; rw [hol]; exact this)
    clear oO hol
    go_wp2_with fail
    refine (HA6.out w4).mono ?_
    rintro e w' ⟨rfl, hw⟩
    rw [hw]
    clear hw w'
    obtain ⟨x0, x1, _, _, _⟩ := HBX.out w4 k4
    obtain ⟨y0, y1, _, _, _⟩ := HNX.out w4 k4
    have hbs2 : bs < seq ∧ seq ≤ 1000 := by omega
    obtain ⟨L, er, hLe⟩ : ∃ L er, encP bs bv seq nv o room = (L, er) := ⟨_, _, rfl⟩
    have HL := bx hLe
    have HE := bx (encode_calls n bs (.slice AB n cB) bv seq (.slice AN n cN) nv (.slice AO n cO) o room w4 ⟨HRB.out w4 k4, HRN.out w4 k4, HOR.out, HBL.out, HNL.out, HPR.out, by omega, HVF.out, HNF.out, by omega⟩ (L, er) hLe)
    have her := encP_err bs seq bv nv o room hbs2.1
    rw [hLe] at her
    simp only at her
    clear hLe
    go_wp2_with fail
    clear x0 x1 y0 y1
    refine HE.out.mono ?_
    rintro e w5 ⟨AL, cL, rfl, oL, k5⟩
    simp only at oL ⊢
    have HOL := bx oL
    have k45 := k4.trans k5
    clear oL
    rcases her with rfl | rfl
    case inr =>
      obtain ⟨hr8, hL0⟩ := limit_plain bs seq bv nv o room L hbs2.1 (by omega) HL.out
      subst hL0
      have z1 : decide (room < 8) = true := decide_eq_true hr8
      go_wp2_with fail
      refine (lives_calls w5).mono ?_
      rintro e w6 ⟨rfl, k6⟩
      go_wp2
      go_ret
      exact ⟨rfl, HKW.out.trans (k45.trans k6)⟩
    case inl =>
      obtain ⟨hlen, vals, known, all, hdec, hok⟩ := back_plain bs seq n bv nv o room L (by omega) HBL.out HNL.out (by omega) HVF.out HNF.out HPR.out HL.out
      have HOK := bx hok
      have hyb := encP_bytes bs seq bv nv o room
      rw [HL.out] at hyb
      simp only at hyb
      have HBI : Bx (BaseIn w5 bs (.slice AB n cB) bv) := ⟨⟨HRB.out w5 k45, by rw [HBL.out]; omega, HVF.out, by omega⟩⟩
      have HDC := bx (decodeT_calls bs (.slice AB n cB) bv (.slice AL L.length cL) L w5 HBI.out (sl_of_own HOL.out) (by omega) hyb (.ok seq vals known all) hdec)
      clear hok hyb hdec
      obtain ⟨x0, x1, _, _, _⟩ := HBX.out w5 k45
      obtain ⟨LL, hLL⟩ : ∃ LL, L.length = LL := ⟨_, rfl⟩
      rw [hLL] at hlen HDC ⊢
      clear hLL
      go_wp2_with fail
      clear x0 x1
      refine HDC.out.mono ?_
      rintro e w6 ⟨gv, cv, gk, rfl, hkl, ov, ok, k6⟩
      have hvl : vals.length = n := HOK.out.vl
      rw [hvl] at ov ok ⊢
      have k46 := k45.trans k6
      have HV := bx (sl_of_own ov)
      have HK := bx (sl_of_own ok)
      have b6 := heap_alloc_new w6 (.cells #[.int .i64 seq, .slice (some ⟨gv, 0, none⟩) n cv] 24)
      obtain ⟨V6, hV6⟩ : ∃ V, w6.alloc (.cells #[.int .i64 seq, .slice (some ⟨gv, 0, none⟩) n cv] 24) = V := ⟨_, rfl⟩
      have kV6 : From w6 V6 := by rw [← hV6]; exact (From.refl _).alloc _
      rw [hV6] at b6
      have HSX := bx (fun (V : World) (k : From V6 V) => box2 (k.heap b6))
      have k4V := k46.trans kV6
      obtain ⟨x0, x1, _, _, _⟩ := HBX.out V6 k4V
      obtain ⟨y0, y1, _, _, _⟩ := HNX.out V6 k4V
      obtain ⟨u0, u1, _, _, _⟩ := HSX.out V6 (From.refl _)
      have z1 : decide ((LL : Int) > room) = false := decide_eq_false (by omega)
      have HPD := bx (predict_calls bs seq (.slice AB n cB) bv V6 (HRB.out V6 k4V) (by rw [HBL.out]; omega) (by rw [HBL.out]; omega) HVF.out (by omega) _ rfl)
      clear ov ok
      go_wp2_with fail
      clear x0 x1 y0 y1 u0 u1
      refine HPD.out.mono ?_
      rintro e w7 ⟨AP, cP, rfl, oP, k7⟩
      have hpl := predP_len bv bs seq
      rw [HBL.out] at hpl
      obtain ⟨pred, hpd⟩ : ∃ pred, predP bv bs seq = pred := ⟨_, rfl⟩
      rw [hpd] at HOK hpl oP ⊢
      rw [hpl] at oP ⊢
      have HPP := bx (sl_of_own oP)
      have hkl2 : known.length = n := HOK.out.kl
      have HKL := bx hkl2
      have HVL := bx hvl
      have HPL := bx hpl
      clear oP hpd hpl hkl hkl2 hvl HPD
      have k67 := kV6.trans k7
      have k47 := k4V.trans k7
      go_wp2_with fail
      go_loopw [26, 27] (fun mv i wr => ∃ (k : Nat) (mb : Bool), k ≤ n ∧ i = .int .i64 k ∧ mv = .bool mb ∧ (mb = true → ∃ i, i < k ∧ known.getD (o.getD i 0) false = false ∧ pred.getD (o.getD i 0) 0 ≠ nv.getD (o.getD i 0) 0) ∧ From w7 wr) (fun _ i _ => n - (intOf i).toNat)
      case atStart => exact ⟨0, false, Nat.zero_le _, rfl, rfl, fun h => (nomatch h), From.refl _⟩
      case round =>
        obtain ⟨k, mb, hk, rfl, rfl, hms, hf⟩ := hrel
        have HF := bx hf
        have HMS := bx hms
        clear hms
        by_cases hlt : k < n
        · have hko : k < o.length := by rw [HPR.out.len]; exact hlt
          have hpn := HPR.out.lt o[k] (List.getElem_mem hko)
          have hgo : o.getD k 0 = o[k] := getD_o hko
          obtain ⟨bo, fo, rfl, _, v1⟩ := ints_at (HOR.out.from ((k5.trans (k6.trans k67)).trans hf)) (k := k) (by rw [nl_len]; exact hko)
          have e1 : (nl o)[k]'(by rw [nl_len]; exact hko) = (o[k] : Int) := by simp [nl]
          rw [e1] at v1
          have HGO := bx hgo
          have HLAST := bx (fun (hm : mb = true) => (show known.getD o[k] false = false by
            obtain ⟨i0, hi0, h1, h2⟩ := HMS.out hm
            rw [← HGO.out]
            exact HOK.out.last i0 k hi0 hlt h1 h2))
          clear e1 hgo
          generalize o[k] = p at *
          have hp1 : p < pred.length := by rw [HPL.out]; exact hpn
          have hp2 : p < nv.length := by rw [HNL.out]; exact hpn
          have hp3 : p < known.length := by rw [HKL.out]; exact hpn
          have hp4 : p < vals.length := by rw [HVL.out]; exact hpn
          obtain ⟨b1, f1, rfl, _, v2⟩ := ints_at (HPP.out.from hf) hp1
          obtain ⟨b2, f2, rfl, _, v3⟩ := ints_at ((HRN.out w7 k47).from hf) hp2
          obtain ⟨b3, f3, hA3, _, v4⟩ := bools_at (HK.out.from (k67.trans hf)) hp3
          obtain ⟨b4, f4, hA4, _, v5⟩ := ints_at (HV.out.from (k67.trans hf)) hp4
          injection hA3 with hA3
          injection hA3 with i1 i2 _
          subst i1 i2
          injection hA4 with hA4
          injection hA4 with i1 i2 _
          subst i1 i2
          rw [Nat.zero_add] at v4 v5
          have g1 := getD_nat pred p hp1
          have g2 := getD_nat nv p hp2
          have g4 := getD_nat vals p hp4
          have g3 : known.getD p false = known[p] := by simp [List.getD_eq_getElem?_getD, List.getElem?_eq_getElem hp3]
          have HY := bx (fun (h : known[p] = true) => (show vals[p] = nv[p] by rw [← g4, ← g2]; exact HOK.out.yes p hpn (by rw [g3]; exact h)))
          have HNO := bx (fun (h : known[p] = false) => (show vals[p] = 0 by rw [← g4]; exact HOK.out.no p hpn (by rw [g3]; exact h)))
          have HW := bx (fun (h1 : known[p] = false) (h2 : pred[p] ≠ nv[p]) => (show ∃ i, i < k + 1 ∧ known.getD (o.getD i 0) false = false ∧ pred.getD (o.getD i 0) 0 ≠ nv.getD (o.getD i 0) 0 from ⟨k, by omega, by rw [HGO.out, g3]; exact h1, by rw [HGO.out, g1, g2]; exact h2⟩))
          rw [g3] at HLAST
          clear g1 g2 g3 g4
          generalize pred[p] = y1 at *
          generalize nv[p] = y2 at *
          generalize known[p] = kp at *
          generalize vals[p] = y4 at *
          obtain ⟨s0, s1, _, _, _⟩ := HSX.out wr (k7.trans hf)
          obtain ⟨t0, t1, _, _, _⟩ := HNX.out wr (k47.trans hf)
          have z1 : decide ((k : Int) < (n : Int)) = true := decide_eq_true (by omega)
          have z2 : (k : Int) < (n : Int) := by omega
          have z3 : (0 : Int) ≤ (k : Int) := by omega
          have z4 : (p : Int) < (n : Int) := by omega
          have z5 : (0 : Int) ≤ (p : Int) := by omega
          clear hf
          cases kp
          · have hy4 := HNO.out rfl
            subst hy4
            cases mb
            · by_cases hyy : y1 = y2
              · have d1 : (y1 == y2) = true := by simp [hyy]
                clear hyy
                go_wp2_with fail
                go_quiet (fail)
                go_wp2_with fail
                go_quiet (fail)
                go_wp2
                go_roundw
                case rel => exact ⟨k + 1, false, by omega, by go_num, rfl, (fun h => by cases h), HF.out.drewN _⟩
                case measure => simp [intOf]; omega
              · have d1 : (y1 == y2) = false := by simpa using hyy
                have HWW := bx (HW.out rfl hyy)
                clear hyy
                go_wp2_with fail
                go_quiet (fail)
                go_wp2_with fail
                go_quiet (fail)
                go_wp2
                go_roundw
                case rel => exact ⟨k + 1, true, by omega, by go_num, rfl, (fun _ => HWW.out), HF.out.drewN _⟩
                case measure => simp [intOf]; omega
            · have HWW := bx (show ∃ i, i < k + 1 ∧ known.getD (o.getD i 0) false = false ∧ pred.getD (o.getD i 0) 0 ≠ nv.getD (o.getD i 0) 0 by
                obtain ⟨i0, hi0, h1, h2⟩ := HMS.out rfl
                exact ⟨i0, by omega, h1, h2⟩)
              go_wp2_with fail
              go_quiet (fail)
              go_wp2_with fail
              go_quiet (fail)
              go_wp2
              go_roundw
              case rel => exact ⟨k + 1, true, by omega, by go_num, rfl, (fun _ => HWW.out), HF.out.drewN _⟩
              case measure => simp [intOf]; omega
          · have hy4 := HY.out rfl
            subst hy4
            cases mb
            · have d2 : (y4 != y4) = false := by simp
              go_wp2_with fail
              go_quiet (fail)
              go_wp2_with fail
              go_quiet (fail)
              go_wp2
              go_roundw
              case rel => exact ⟨k + 1, false, by omega, by go_num, rfl, (fun h => by cases h), HF.out.drewN _⟩
              case measure => simp [intOf]; omega
            · exact absurd (HLAST.out rfl) (by simp)
        · have z1 : decide ((k : Int) < (n : Int)) = false := decide_eq_false (by omega)
          go_wp2_with fail
          refine (lives_calls wr).mono ?_
          rintro e w9 ⟨rfl, k9⟩
          go_wp2
          go_ret
          exact ⟨rfl, (HKW.out.trans (k47.trans HF.out)).trans k9⟩
set_option maxRecDepth 100000 in
theorem back_lifted (os : Os) (started : os.Started) (H : Type) (enc : TypeId × Value → H) :
    ReturnsInHanded {} Try.checked os 5 .any (Rows.telemetryBackSpec.pre6 enc Try.prog Try.f5 Rows.telemetryBackRow.domain false) (Rows.telemetryBackSpec.post enc Try.prog Try.f5 false true false false) := by
  refine returnsInHanded_of_change (C := Try.checked) own started (by kernel_rfl) Try.func5
    (ChangeSpec.witness6 (enc := enc) (C := Try.checked) false ⟨#[], #[.int .i64 0, .int .i64 0, .slice none 0 0, .int .i64 0, .slice none 0 0, .slice none 0 0, .int .i64 0], []⟩ 8 (by kernel_rfl) (by kernel_rfl) (by kernel_rfl) (by kernel_rfl)) ?_
  intro W base args ds gs before hval0 hW hcnd _
  have hval : ∀ (j : Nat) t v, Try.f5.params[j]? = some t → args[j]? = some v → Value.okWide Try.prog W .any base t v := hval0
  have hW' := hW
  obtain ⟨p, q, hA0, hV, rfl, hfz, hnd⟩ := hW
  have hA : DataW.TrodAll enc Try.prog W 0 (fun _ => true) true Try.f5.params.toList args.toList ds p := hA0
  rw [Try.params5] at hA hval
  obtain ⟨v0, vs0, d0, ds0, p0, q0, hargs, rfl, rfl, h0, r0⟩ := trodAll_cons hA
  obtain ⟨v1, vs1, d1, ds1, p1, q1, rfl, rfl, rfl, h1, r1⟩ := trodAll_cons r0
  obtain ⟨v2, vs2, d2, ds2, p2, q2, rfl, rfl, rfl, h2, r2⟩ := trodAll_cons r1
  obtain ⟨v3, vs3, d3, ds3, p3, q3, rfl, rfl, rfl, h3, r3⟩ := trodAll_cons r2
  obtain ⟨v4, vs4, d4, ds4, p4, q4, rfl, rfl, rfl, h4, r4⟩ := trodAll_cons r3
  obtain ⟨v5, vs5, d5, ds5, p5, q5, rfl, rfl, rfl, h5, r5⟩ := trodAll_cons r4
  obtain ⟨v6, vs6, d6, ds6, p6, q6, rfl, rfl, rfl, h6, r6⟩ := trodAll_cons r5
  obtain ⟨rfl, rfl, rfl⟩ := trodAll_nil r6
  obtain rfl : args = #[v0, v1, v2, v3, v4, v5, v6] := by cases args; simp_all
  obtain ⟨rfl, rfl⟩ := trodVars_none hV
  obtain ⟨a0, rfl, _, _, w0⟩ := open_int Try.underlying3 (hval 0 3 v0 rfl rfl) h0
  simp only [Lit.wf, Bool.and_eq_true, decide_eq_true_eq] at w0
  obtain ⟨a1, rfl, _, _, w1⟩ := open_int Try.underlying3 (hval 1 3 v1 rfl rfl) h1
  simp only [Lit.wf, Bool.and_eq_true, decide_eq_true_eq] at w1
  obtain ⟨A2, c2, l2, rfl, hB2, hm2, hx2⟩ := open_intsr (hval 2 22 v2 rfl rfl) h2
  obtain ⟨a3, rfl, _, _, w3⟩ := open_int Try.underlying3 (hval 3 3 v3 rfl rfl) h3
  simp only [Lit.wf, Bool.and_eq_true, decide_eq_true_eq] at w3
  obtain ⟨A4, c4, l4, rfl, hB4, hm4, hx4⟩ := open_intsr (hval 4 22 v4 rfl rfl) h4
  obtain ⟨A5, c5, l5, rfl, hB5, hm5, hx5⟩ := open_intsr (hval 5 22 v5 rfl rfl) h5
  obtain ⟨a6, rfl, _, _, w6⟩ := open_int Try.underlying3 (hval 6 3 v6 rfl rfl) h6
  simp only [Lit.wf, Bool.and_eq_true, decide_eq_true_eq] at w6
  refine (back_walk a0 a1 A2 c2 l2 a3 A4 c4 l4 A5 c5 l5 a6 W w0.1 w0.2 w1.1 w1.2 hB2 hm2 hx2 w3.1 w3.2 hB4 hm4 hx4 hB5 hm5 hx5 w6.1 w6.2).mono fun e W' ⟨he, hb⟩ => ?_
  subst he
  exact ⟨_, rfl, law_post Try.laid (by kernel_rfl) rfl rfl Try.underlying4 rfl hW' hb⟩
theorem back_facts : joinedFacts Try.prog 5 Try.f5 Rows.telemetryBackSpec Rows.telemetryBackRow = true := by
  unfold joinedFacts
  rw [fact_enter, fact_lift, fact_make, fact_keys, fact_heard, fact_maps, Try.laid]
  kernel_rfl
theorem back_holds : Rows.TelemetryBackSaid :=
  OpenClaim.holds_of_wide 5 Try.f5 rfl rfl rfl rfl rfl rfl rfl ⟨rfl, rfl, rfl, rfl, rfl⟩ rfl rfl rfl rfl rfl (by kernel_rfl) Try.func5 back_facts
    (of_decide_eq_true (by kernel_rfl)) (by unfold Func.isWrapper; first | (rw [if_pos (by decide +kernel)]; kernel_rfl) | (rw [if_neg (by decide +kernel)]; exact ⟨rfl, rfl⟩))
    (fun os started H enc _ => back_lifted os started H enc)
#print axioms back_holds
end Go.Proofs.Ytpdbdpmlppbnnaa
