/-
  TelemetryRoom: for all valid snapshots and orders that are made from numbers and all numbers of bytes: where a packet can be made, one with more bytes can be made; a complete one stays the same; with 500 bytes it is always complete.
-/
import Derived.Test.YtpdbdpmlppbnnaaU19
import Derived.Test.YtpdbdpmlppbnnaaN4
import Derived.Test.YtpdbdpmlppbnnaaS4
import Derived.Test.YtpdbdpmlppbnnaaR2
import Derived.Test.YtpdbdpmlppbnnaaU18
import Derived.Test.YtpdbdpmlppbnnaaS5
import Derived.Deep.CutRange
namespace Go.Proofs.Ytpdbdpmlppbnnaa
open Go.ChangeShapes Go.WideShapes Go.ChangeAt Go.RowKit Go.Shelf

set_option maxHeartbeats 8000000 in
set_option maxRecDepth 10000 in
theorem room_walk (a0 a1 : Int) (A2 : Option Addr) (c2 : Nat) (l2 : List Int) (A4 : Option Addr) (c4 : Nat) (l4 : List Int) (A5 : Option Addr) (c5 : Nat) (l5 : List Int) (a3 : Int) (a6 : Int) (w : World)
    (w00 : -9223372036854775808 ≤ a0) (w01 : a0 ≤ 9223372036854775807) (w10 : -9223372036854775808 ≤ a1) (w11 : a1 ≤ 9223372036854775807)
    (hB2 : Ints w (.slice A2 l2.length c2) l2) (_ : l2.length ≤ 9223372036854775807) (hx2 : ∀ x ∈ l2, -9223372036854775808 ≤ x ∧ x ≤ 9223372036854775807)
    (hB4 : Ints w (.slice A4 l4.length c4) l4) (_ : l4.length ≤ 9223372036854775807) (hx4 : ∀ x ∈ l4, -9223372036854775808 ≤ x ∧ x ≤ 9223372036854775807)
    (hB5 : Ints w (.slice A5 l5.length c5) l5) (_ : l5.length ≤ 9223372036854775807) (hx5 : ∀ x ∈ l5, -9223372036854775808 ≤ x ∧ x ≤ 9223372036854775807) (w30 : -9223372036854775808 ≤ a3) (w31 : a3 ≤ 9223372036854775807) (w60 : -9223372036854775808 ≤ a6) (w61 : a6 ≤ 9223372036854775807) :
    Calls Try.prog 6 #[.int .i64 a0, .int .i64 a1, .slice A2 l2.length c2, .slice A4 l4.length c4, .slice A5 l5.length c5, .int .i64 a3, .int .i64 a6] w fun e w' => e = .returned (.bool true) ∧ Below w.heap.size w w' := by
  have q0 := around_bd a0 500 (by decide)
  have q1 := around_bd a1 32 (by decide)
  have q3 := around_bd a3 250 (by decide)
  have q6 := around_bd a6 250 (by decide)
  obtain ⟨bs, hbs⟩ : ∃ bs : Nat, around a0 500 = bs := ⟨(around a0 500).toNat, by omega⟩
  obtain ⟨m, hm⟩ : ∃ m : Nat, around a1 32 = m := ⟨(around a1 32).toNat, by omega⟩
  obtain ⟨room, hroom⟩ : ∃ room, around a3 250 = room := ⟨_, rfl⟩
  obtain ⟨rm, hrm⟩ : ∃ rm, around a6 250 = rm := ⟨_, rfl⟩
  have HM1 := bx (fun (V : World) (k : From w V) => makeS_calls a0 a1 A2 c2 l2 V (hB2.from k) hx2 ⟨w00, w01⟩ ⟨w10, w11⟩ (m + 1) (by rw [hm]; rfl))
  have HM2 := bx (fun (V : World) (k : From w V) => makeS_calls 0 a1 A4 c4 l4 V (hB4.from k) hx4 (by decide) ⟨w10, w11⟩ (m + 1) (by rw [hm]; rfl))
  have HPM := bx (fun (V : World) (k : From w V) => permR_calls (m + 1) A5 c5 l5 V (hB5.from k) hx5 (by omega))
  have HA3 := bx (fun (V : World) => around_calls a3 250 V w30 w31 (by decide) (by decide))
  have HA6 := bx (fun (V : World) => around_calls a6 250 V w60 w61 (by decide) (by decide))
  rw [hbs] at q0 HM1
  rw [hm] at q1
  rw [hroom] at q3 HA3
  rw [hrm] at q6 HA6
  rw [show around 0 500 = 0 by decide] at HM2
  have hvl := mkV_len l2 (m + 1)
  have hnl := mkV_len l4 (m + 1)
  have HVF := bx (mkV_fits l2 (m + 1))
  have HNF := bx (mkV_fits l4 (m + 1))
  have HPR := bx (permN_perm l5 (m + 1))
  obtain ⟨n, hn⟩ : ∃ n, m + 1 = n := ⟨_, rfl⟩
  rw [hn] at HM1 HM2 HPM hvl hnl HVF HNF HPR
  have hn1 : 0 < n ∧ n ≤ 32 := by omega
  obtain ⟨bv, hbv⟩ : ∃ bv, mkV l2 n = bv := ⟨_, rfl⟩
  obtain ⟨nv, hnv⟩ : ∃ nv, mkV l4 n = nv := ⟨_, rfl⟩
  obtain ⟨o, ho⟩ : ∃ o, permN l5 n = o := ⟨_, rfl⟩
  rw [hbv] at HM1 hvl HVF
  rw [hnv] at HM2 hnl HNF
  rw [ho] at HPM HPR
  have HBL := bx hvl
  have HNL := bx hnl
  clear hbs hm hrm hroom hbv hnv ho hn hB2 hB4 hB5 hx2 hx4 hx5 w00 w01 w10 w11 w30 w31 w60 w61 hvl hnl
  go_enter Try.func6, Try.ntmps6
  go_wp2_with fail
  refine (HM1.out w (From.refl _)).mono ?_
  rintro e w1 ⟨AB, cB, rfl, o1, k1⟩
  rw [HBL.out] at o1 ⊢
  have HO1 := bx o1
  clear o1
  go_wp2_with fail
  have b1 := heap_alloc_new w1 (.cells #[.int .i64 bs, .slice AB n cB] 24)
  obtain ⟨V1, hV1⟩ : ∃ V, w1.alloc (.cells #[.int .i64 bs, .slice AB n cB] 24) = V := ⟨_, rfl⟩
  have kV1 : From w1 V1 := by rw [← hV1]; exact (From.refl _).alloc _
  rw [hV1] at b1 ⊢
  clear hV1
  obtain ⟨p1, hp1⟩ : ∃ p, w1.heap.size = p := ⟨_, rfl⟩
  rw [hp1] at b1 ⊢
  refine (HM2.out V1 (k1.trans kV1)).mono ?_
  rintro e w2 ⟨AN, cN, rfl, o2, k2⟩
  rw [HNL.out] at o2 ⊢
  have HO2 := bx o2
  have b2 := k2.heap b1
  clear o2
  go_upto_region 3 with fail
  have c1 := heap_alloc_new w2 (.cells #[.int .i64 0, .slice AN n cN] 24)
  obtain ⟨V2, hV2⟩ : ∃ V, w2.alloc (.cells #[.int .i64 0, .slice AN n cN] 24) = V := ⟨_, rfl⟩
  have kV2 : From w2 V2 := by rw [← hV2]; exact (From.refl _).alloc _
  rw [hV2] at c1 ⊢
  clear hV2
  have hpn : p1 < w2.heap.size := (Array.getElem?_eq_some_iff.1 b2).1
  obtain ⟨p2, hp2⟩ : ∃ p, w2.heap.size = p := ⟨_, rfl⟩
  rw [hp2] at c1 hpn ⊢
  have bV := kV2.heap b2
  obtain ⟨x0, x1, _, _, _⟩ := box2 bV
  obtain ⟨y0, y1, y2, y3, _⟩ := box2 c1
  have e1 : IntKind.i64.wrap ((bs : Int) + 1) = (bs : Int) + 1 := IntWalk.i64_in _ (by omega)
  have kw2 := (k1.trans kV1).trans k2
  have hsw := Below.size kw2
  have hsw1 := Below.size k1
  go_upto_region 4 with fail
  clear x0 x1 y0 y1 y2 y3
  obtain ⟨seq, hseq⟩ : ∃ seq : Nat, bs + 1 = seq := ⟨_, rfl⟩
  have hsc : (bs : Int) + 1 = (seq : Int) := by omega
  rw [hsc]
  obtain ⟨wc, hV3⟩ : ∃ V, V2.setCell ⟨p2, 0, none⟩ (.int .i64 seq) = V := ⟨_, rfl⟩
  rw [hV3]
  have kd : From (V2.setCell ⟨p2, 0, none⟩ (.int .i64 seq)) wc := by rw [← hV3]; exact From.refl _
  have c3 := kd.heap (heap_set_at c1 0 (.int .i64 seq))
  have b3 : wc.heap[p1]? = some (.cells #[.int .i64 bs, .slice AB n cB] 24 (0, 0)) := kd.heap (by rw [heap_set_off _ (by omega)]; exact bV)
  have kwc : From w wc := (from_set (kw2.trans kV2) (by omega) _ _).trans kd
  have r1 : Ints wc (.slice AB n cB) bv := by
    have h1 := own_call (own_call (own_call (own_call HO1.out kV1) k2) kV2) (From.refl V2)
    have h2 : (Value.slice AB n cB).ownBlock ≠ some p2 := by
      intro e
      rcases h1.2 with ⟨hv, _⟩ | ⟨g, cap, cur, hv, hg, hh, _⟩
      · rw [hv] at e; simp [Value.ownBlock] at e
      · rw [hv] at e; simp [Value.ownBlock] at e; subst e; exact cells_ne hh c1 (by decide) rfl
    have h3 := sl_of_own (own_call (ownsRow_setCell_other h1 (a := ⟨p2, 0, none⟩) h2 (.int .i64 seq)) kd)
    show Sl _ _ _ bv.length _
    rw [HBL.out]
    exact h3
  have r2 : Ints wc (.slice AN n cN) nv := by
    have h1 := own_call HO2.out kV2
    have h2 : (Value.slice AN n cN).ownBlock ≠ some p2 := by
      intro e
      rcases h1.2 with ⟨hv, _⟩ | ⟨g, cap, cur, hv, hg, hh, _⟩
      · rw [hv] at e; simp [Value.ownBlock] at e
      · rw [hv] at e; simp [Value.ownBlock] at e; subst e; exact cells_ne hh c1 (by decide) rfl
    have h3 := sl_of_own (own_call (ownsRow_setCell_other h1 (a := ⟨p2, 0, none⟩) h2 (.int .i64 seq)) kd)
    show Sl _ _ _ nv.length _
    rw [HNL.out]
    exact h3
  have HBX := bx (fun (V : World) (k : From wc V) => box2 (k.heap b3))
  have HNX := bx (fun (V : World) (k : From wc V) => box2 (k.heap c3))
  have HRB := bx (fun (V : World) (k : From wc V) => r1.from k)
  have HRN := bx (fun (V : World) (k : From wc V) => r2.from k)
  have HKW := bx kwc
  clear r1 r2 b3 c3 kwc kd hV3 hsc bV c1 b1 b2 k1 k2 kV1 kV2 kw2 hsw hsw1 e1 hp1 hp2
  obtain ⟨x0, x1, _, _, _⟩ := HBX.out wc (From.refl _)
  go_wp2_with fail
  clear x0 x1
  refine (HPM.out wc HKW.out).mono ?_
  rintro e w4 ⟨AO, cO, rfl, oO, k4⟩
  have hol : (nl o).length = n := by rw [nl_len, HPR.out.len]
  rw [hol] at oO ⊢
  have HOR := bx (show Ints w4 (.slice AO n cO) (nl o) by have := sl_of_own oO; show Sl _ _ _ (nl o).length _; rw [hol]; exact this)
  clear oO hol
  go_wp2_with fail
  refine (HA3.out w4).mono ?_
  rintro e w' ⟨rfl, hw⟩
  rw [hw]
  clear hw w'
  have hbs2 : bs < seq ∧ seq ≤ 1000 := by omega
  have HEN := bx (fun (V : World) (k : From w4 V) (room : Int) (x : List Int × Int) (hx : encP bs bv seq nv o room = x) => encode_calls n bs (.slice AB n cB) bv seq (.slice AN n cN) nv (.slice AO n cO) o room V ⟨HRB.out V (k4.trans k), HRN.out V (k4.trans k), HOR.out.from k, HBL.out, HNL.out, HPR.out, by omega, HVF.out, HNF.out, by omega⟩ x hx)
  have HRP := bx (fun (room : Int) (L : List Int) (h : encP bs bv seq nv o room = (L, 0)) => room_plain bs seq n bv nv o room L (by omega) HBL.out HNL.out (by omega) HVF.out HNF.out HPR.out h)
  have hF5 : FitsAll bs seq 500 nv (predP bv bs seq) o [] := fits_500 (n := n) (by omega) (by omega) (by omega) HNF.out (predP_fits HVF.out (by omega)) HNL.out (by rw [predP_len, HBL.out]) o [] HPR.out.lt (by rw [HPR.out.len, List.length_nil]; omega) (Nat.le_refl _)
  have HF5 := bx hF5
  clear hF5
  obtain ⟨L1, e1, hLe1⟩ : ∃ L er, encP bs bv seq nv o room = (L, er) := ⟨_, _, rfl⟩
  obtain ⟨L2, e2, hLe2⟩ : ∃ L er, encP bs bv seq nv o (room + rm) = (L, er) := ⟨_, _, rfl⟩
  obtain ⟨L3, hLe3⟩ := room_500 bs seq bv nv o (by omega) (by omega)
  have her1 := encP_err bs seq bv nv o room hbs2.1
  have her2 := encP_err bs seq bv nv o (room + rm) hbs2.1
  rw [hLe1] at her1
  rw [hLe2] at her2
  simp only at her1 her2
  have HM := bx (fun (h : e1 = 0) => (show e2 = 0 by
    subst h
    obtain ⟨L', h'⟩ := room_more bs seq bv nv o room (room + rm) L1 (by omega) hLe1
    rw [hLe2] at h'
    injection h'))
  have HLe1 := bx hLe1
  have HLe2 := bx hLe2
  have HLe3 := bx hLe3
  clear hLe1 hLe2 hLe3
  -- what whole answers to a packet
  have HWH := bx (fun (L : List Int) (room : Int) (h : encP bs bv seq nv o room = (L, 0)) => (show ∃ t : Bool, (t = true ↔ FitsAll bs seq room nv (predP bv bs seq) o []) ∧ ∀ (V : World), From w4 V → ∀ (A : Option Addr) (c : Nat), Byts V (.slice A L.length c) L → L.length ≤ 1000 → Calls Try.prog 26 #[snv bs (.slice AB n cB), .slice A L.length c] V fun e w' => e = .returned (.bool t) ∧ From V w' by
    obtain ⟨vals, known, all, hd, hv, hk, hi, _⟩ := HRP.out room L h
    have hby := encP_bytes bs seq bv nv o room
    rw [h] at hby
    refine ⟨wholeP known, (wholeP_iff hk).trans hi, fun V kV A c hB hl => ?_⟩
    exact whole_calls bs (.slice AB n cB) bv (.slice A L.length c) L V ⟨HRB.out V (k4.trans kV), by rw [HBL.out]; omega, HVF.out, by omega⟩ hB (by omega) hby seq vals known all n hd hv hk (by omega)))
  have HLL := bx (fun (L : List Int) (room : Int) (h : encP bs bv seq nv o room = (L, 0)) (hr : room ≤ 500) => (show L.length ≤ 1000 by
    obtain ⟨h1, _⟩ := back_plain bs seq n bv nv o room L (by omega) HBL.out HNL.out (by omega) HVF.out HNF.out HPR.out h
    omega))
  have HL12 := bx (fun (h1 : e1 = 0) (hf : FitsAll bs seq room nv (predP bv bs seq) o []) => (show L1 = L2 by
    have h2 := HM.out h1
    subst h1 h2
    have a1 := (HRP.out room L1 HLe1.out).choose_spec.choose_spec.choose_spec.2.2.2.2 hf
    have a2 := (HRP.out (room + rm) L2 HLe2.out).choose_spec.choose_spec.choose_spec.2.2.2.2 (hf.mono (by omega))
    rw [a1, a2]))
  have HL23 := bx (fun (h2 : e2 = 0) (hf : FitsAll bs seq (room + rm) nv (predP bv bs seq) o []) => (show L2 = L3 by
    subst h2
    have a1 := (HRP.out (room + rm) L2 HLe2.out).choose_spec.choose_spec.choose_spec.2.2.2.2 hf
    have a2 := (HRP.out 500 L3 HLe3.out).choose_spec.choose_spec.choose_spec.2.2.2.2 HF5.out
    rw [a1, a2]))
  have hby2 : bytes L2 := by have := encP_bytes bs seq bv nv o (room + rm); rwa [HLe2.out] at this
  have HB2 := bx hby2
  obtain ⟨t3, ht3, HW3⟩ := HWH.out L3 500 HLe3.out
  have h3t := ht3.2 HF5.out
  subst h3t
  have HW3 := bx HW3
  have hrm5 : room + rm ≤ 500 := by omega
  have hw2 : IntKind.i64.wrap (room + rm) = room + rm := IntWalk.i64_in _ (by omega)
  clear hby2 ht3
  obtain ⟨x0, x1, _, _, _⟩ := HBX.out w4 k4
  obtain ⟨y0, y1, _, _, _⟩ := HNX.out w4 k4
  go_wp2_with fail
  clear x0 x1 y0 y1
  refine (HEN.out w4 (From.refl _) room (L1, e1) HLe1.out).mono ?_
  rintro e w5 ⟨AL1, cL1, rfl, oL1, k5⟩
  simp only at oL1 ⊢
  have HOL1 := bx (sl_of_own oL1)
  clear oL1
  obtain ⟨x0, x1, _, _, _⟩ := HBX.out w5 (k4.trans k5)
  obtain ⟨y0, y1, _, _, _⟩ := HNX.out w5 (k4.trans k5)
  go_upto_region 7 with fail
  go_cut [21, 22] from 25 (fun b f wx => ∃ A c, b = .slice A L2.length c ∧ f = .int .i64 e2 ∧ Byts wx (.slice A L2.length c) L2 ∧ From w5 wx)
  case first =>
    go_region_with (first
      | (go_at_call 23; refine (HA6.out _).mono ?_; rintro e w3 ⟨rfl, rfl⟩)
      | (go_at_call 25; refine (HEN.out _ (by first | exact k5 | exact k5.drew) (room + rm) (L2, e2) HLe2.out).mono ?_; rintro e w7 ⟨AL2, cL2, rfl, oL2, k7⟩; simp only at oL2 ⊢))
    all_goals
      go_wp2
      go_meet
      case rel => exact ⟨_, _, rfl, rfl, sl_of_own oL2, by first | exact k7 | exact (From.drew (From.refl _)).trans k7⟩
  case rest =>
    obtain ⟨AL2, cL2, rfl, rfl, hol2, k7⟩ := hcut
    have HOL2 := bx hol2
    clear hol2 x0 x1 y0 y1 hw2
    have k57 := k5.trans k7
    obtain ⟨x0, x1, _, _, _⟩ := HBX.out wc (k4.trans k57)
    obtain ⟨y0, y1, _, _, _⟩ := HNX.out wc (k4.trans k57)
    go_wp2_with fail
    clear x0 x1 y0 y1
    refine (HEN.out wc k57 500 (L3, 0) HLe3.out).mono ?_
    rintro e w8 ⟨AL3, cL3, rfl, oL3, k8⟩
    simp only at oL3 ⊢
    have HOL3 := bx (sl_of_own oL3)
    have HP2 := bx (HOL2.out.from k8)
    have HP1 := bx (HOL1.out.from (k7.trans k8))
    have k48 := k57.trans k8
    clear oL3
    obtain ⟨x0, x1, _, _, _⟩ := HBX.out w8 (k4.trans k48)
    go_wp2_with fail
    clear x0 x1
    refine (HW3.out w8 k48 AL3 cL3 HOL3.out (HLL.out L3 500 HLe3.out (by omega))).mono ?_
    rintro e w9 ⟨rfl, k9⟩
    obtain ⟨x0, x1, _, _, _⟩ := HBX.out w9 (k4.trans (k48.trans k9))
    rcases her1 with rfl | rfl
    · have h2 := HM.out rfl
      subst h2
      obtain ⟨t1, ht1, hw1⟩ := HWH.out L1 room HLe1.out
      obtain ⟨t2, ht2, hw2⟩ := HWH.out L2 (room + rm) HLe2.out
      have HW1 := bx hw1
      have HW2 := bx hw2
      have HT1 := bx ht1
      have HT2 := bx ht2
      clear ht1 ht2 hw1 hw2 her2
      go_wp2_with fail
      clear x0 x1
      refine (HW1.out w9 (k48.trans k9) AL1 cL1 (HP1.out.from k9) (HLL.out L1 room HLe1.out (by omega))).mono ?_
      rintro e w10 ⟨rfl, k10⟩
      obtain ⟨x0, x1, _, _, _⟩ := HBX.out w10 (k4.trans ((k48.trans k9).trans k10))
      cases t1
      · go_wp2_with fail
        refine (HW2.out w10 ((k48.trans k9).trans k10) AL2 cL2 (HP2.out.from (k9.trans k10)) (HLL.out L2 (room + rm) HLe2.out hrm5)).mono ?_
        rintro e wY ⟨rfl, kY⟩
        cases t2
        · clear x0 x1
          go_wp2_with fail
          refine (lives_calls wY).mono ?_
          rintro e wZ ⟨rfl, kZ⟩
          go_wp2
          go_ret
          exact ⟨rfl, HKW.out.trans (k4.trans ((((k48.trans k9).trans k10).trans kY).trans kZ))⟩
        · have HQ := bx (HL23.out (by first | rfl | trivial) (HT2.out.1 rfl))
          clear x0 x1
          go_wp2_with fail
          refine (sameB_calls (.slice AL2 L2.length cL2) (.slice AL3 L3.length cL3) L2 L3 wY (HP2.out.from ((k9.trans k10).trans kY)) (HOL3.out.from ((k9.trans k10).trans kY)) HB2.out (by rw [← HQ.out]; exact HB2.out)).mono ?_
          rintro e w' ⟨he, hw⟩
          rw [decide_eq_true HQ.out] at he
          subst he
          rw [hw]
          clear hw w'
          go_wp2_with fail
          refine (lives_calls wY).mono ?_
          rintro e wZ ⟨rfl, kZ⟩
          go_wp2
          go_ret
          exact ⟨rfl, HKW.out.trans (k4.trans ((((k48.trans k9).trans k10).trans kY).trans kZ))⟩
      · have HQ1 := bx (HL12.out (by first | rfl | trivial) (HT1.out.1 rfl))
        go_wp2_with fail
        refine (sameB_calls (.slice AL1 L1.length cL1) (.slice AL2 L2.length cL2) L1 L2 w10 (HP1.out.from (k9.trans k10)) (HP2.out.from (k9.trans k10)) (by rw [HQ1.out]; exact HB2.out) HB2.out).mono ?_
        rintro e w' ⟨he, hw⟩
        rw [decide_eq_true HQ1.out] at he
        subst he
        rw [hw]
        clear hw w'
        go_wp2_with fail
        refine (HW2.out w10 ((k48.trans k9).trans k10) AL2 cL2 (HP2.out.from (k9.trans k10)) (HLL.out L2 (room + rm) HLe2.out hrm5)).mono ?_
        rintro e wY ⟨rfl, kY⟩
        cases t2
        · clear x0 x1
          go_wp2_with fail
          refine (lives_calls wY).mono ?_
          rintro e wZ ⟨rfl, kZ⟩
          go_wp2
          go_ret
          exact ⟨rfl, HKW.out.trans (k4.trans ((((k48.trans k9).trans k10).trans kY).trans kZ))⟩
        · have HQ := bx (HL23.out (by first | rfl | trivial) (HT2.out.1 rfl))
          clear x0 x1
          go_wp2_with fail
          refine (sameB_calls (.slice AL2 L2.length cL2) (.slice AL3 L3.length cL3) L2 L3 wY (HP2.out.from ((k9.trans k10).trans kY)) (HOL3.out.from ((k9.trans k10).trans kY)) HB2.out (by rw [← HQ.out]; exact HB2.out)).mono ?_
          rintro e w' ⟨he, hw⟩
          rw [decide_eq_true HQ.out] at he
          subst he
          rw [hw]
          clear hw w'
          go_wp2_with fail
          refine (lives_calls wY).mono ?_
          rintro e wZ ⟨rfl, kZ⟩
          go_wp2
          go_ret
          exact ⟨rfl, HKW.out.trans (k4.trans ((((k48.trans k9).trans k10).trans kY).trans kZ))⟩
    · rcases her2 with rfl | rfl
      · obtain ⟨t2, ht2, hw2⟩ := HWH.out L2 (room + rm) HLe2.out
        have HW2 := bx hw2
        have HT2 := bx ht2
        clear ht2 hw2
        go_wp2_with fail
        refine (HW2.out w9 (k48.trans k9) AL2 cL2 (HP2.out.from (k9)) (HLL.out L2 (room + rm) HLe2.out hrm5)).mono ?_
        rintro e wY ⟨rfl, kY⟩
        cases t2
        · clear x0 x1
          go_wp2_with fail
          refine (lives_calls wY).mono ?_
          rintro e wZ ⟨rfl, kZ⟩
          go_wp2
          go_ret
          exact ⟨rfl, HKW.out.trans (k4.trans (((k48.trans k9).trans kY).trans kZ))⟩
        · have HQ := bx (HL23.out (by first | rfl | trivial) (HT2.out.1 rfl))
          clear x0 x1
          go_wp2_with fail
          refine (sameB_calls (.slice AL2 L2.length cL2) (.slice AL3 L3.length cL3) L2 L3 wY (HP2.out.from ((k9).trans kY)) (HOL3.out.from ((k9).trans kY)) HB2.out (by rw [← HQ.out]; exact HB2.out)).mono ?_
          rintro e w' ⟨he, hw⟩
          rw [decide_eq_true HQ.out] at he
          subst he
          rw [hw]
          clear hw w'
          go_wp2_with fail
          refine (lives_calls wY).mono ?_
          rintro e wZ ⟨rfl, kZ⟩
          go_wp2
          go_ret
          exact ⟨rfl, HKW.out.trans (k4.trans (((k48.trans k9).trans kY).trans kZ))⟩
      · clear x0 x1
        go_wp2_with fail
        refine (lives_calls w9).mono ?_
        rintro e wZ ⟨rfl, kZ⟩
        go_wp2
        go_ret
        exact ⟨rfl, HKW.out.trans (k4.trans ((k48.trans k9).trans kZ))⟩
set_option maxRecDepth 100000 in
theorem room_lifted (os : Os) (started : os.Started) (H : Type) (enc : TypeId × Value → H) :
    ReturnsInHanded {} Try.checked os 6 .any (Rows.telemetryRoomSpec.pre6 enc Try.prog Try.f6 Rows.telemetryRoomRow.domain false) (Rows.telemetryRoomSpec.post enc Try.prog Try.f6 false true false false) := by
  refine returnsInHanded_of_change (C := Try.checked) own started (by kernel_rfl) Try.func6
    (ChangeSpec.witness6 (enc := enc) (C := Try.checked) false ⟨#[], #[.int .i64 0, .int .i64 0, .slice none 0 0, .slice none 0 0, .slice none 0 0, .int .i64 0, .int .i64 0], []⟩ 8 (by kernel_rfl) (by kernel_rfl) (by kernel_rfl) (by kernel_rfl)) ?_
  intro W base args ds gs before hval0 hW hcnd _
  have hval : ∀ (j : Nat) t v, Try.f6.params[j]? = some t → args[j]? = some v → Value.okWide Try.prog W .any base t v := hval0
  have hW' := hW
  obtain ⟨p, q, hA0, hV, rfl, hfz, hnd⟩ := hW
  have hA : DataW.TrodAll enc Try.prog W 0 (fun _ => true) true Try.f6.params.toList args.toList ds p := hA0
  rw [Try.params6] at hA hval
  obtain ⟨v0, vs0, d0, ds0, p0, q0, hargs, rfl, rfl, h0, r0⟩ := trodAll_cons hA
  obtain ⟨v1, vs1, d1, ds1, p1, q1, rfl, rfl, rfl, h1, r1⟩ := trodAll_cons r0
  obtain ⟨v2, vs2, d2, ds2, p2, q2, rfl, rfl, rfl, h2, r2⟩ := trodAll_cons r1
  obtain ⟨v3, vs3, d3, ds3, p3, q3, rfl, rfl, rfl, h3, r3⟩ := trodAll_cons r2
  obtain ⟨v4, vs4, d4, ds4, p4, q4, rfl, rfl, rfl, h4, r4⟩ := trodAll_cons r3
  obtain ⟨v5, vs5, d5, ds5, p5, q5, rfl, rfl, rfl, h5, r5⟩ := trodAll_cons r4
  obtain ⟨v6, vs6, d6, ds6, p6, q6, rfl, rfl, rfl, h6, r6⟩ := trodAll_cons r5
  obtain ⟨rfl, rfl, rfl⟩ := trodAll_nil r6
  obtain rfl : args = #[v0, v1, v2, v3, v4, v5, v6] := by cases args; simp_all
  obtain ⟨rfl, rfl⟩ := trodVars_none hV
  obtain ⟨a0, rfl, _, _, w0⟩ := open_int Try.underlying3 (hval 0 3 v0 rfl rfl) h0
  simp only [Lit.wf, Bool.and_eq_true, decide_eq_true_eq] at w0
  obtain ⟨a1, rfl, _, _, w1⟩ := open_int Try.underlying3 (hval 1 3 v1 rfl rfl) h1
  simp only [Lit.wf, Bool.and_eq_true, decide_eq_true_eq] at w1
  obtain ⟨A2, c2, l2, rfl, hB2, hm2, hx2⟩ := open_intsr (hval 2 22 v2 rfl rfl) h2
  obtain ⟨A3, c3, l3, rfl, hB3, hm3, hx3⟩ := open_intsr (hval 3 22 v3 rfl rfl) h3
  obtain ⟨A4, c4, l4, rfl, hB4, hm4, hx4⟩ := open_intsr (hval 4 22 v4 rfl rfl) h4
  obtain ⟨a5, rfl, _, _, w5⟩ := open_int Try.underlying3 (hval 5 3 v5 rfl rfl) h5
  simp only [Lit.wf, Bool.and_eq_true, decide_eq_true_eq] at w5
  obtain ⟨a6, rfl, _, _, w6⟩ := open_int Try.underlying3 (hval 6 3 v6 rfl rfl) h6
  simp only [Lit.wf, Bool.and_eq_true, decide_eq_true_eq] at w6
  refine (room_walk a0 a1 A2 c2 l2 A3 c3 l3 A4 c4 l4 a5 a6 W w0.1 w0.2 w1.1 w1.2 hB2 hm2 hx2 hB3 hm3 hx3 hB4 hm4 hx4 w5.1 w5.2 w6.1 w6.2).mono fun e W' ⟨he, hb⟩ => ?_
  subst he
  exact ⟨_, rfl, law_post Try.laid (by kernel_rfl) rfl rfl Try.underlying4 rfl hW' hb⟩
theorem room_facts : joinedFacts Try.prog 6 Try.f6 Rows.telemetryRoomSpec Rows.telemetryRoomRow = true := by
  unfold joinedFacts
  rw [fact_enter, fact_lift, fact_make, fact_keys, fact_heard, fact_maps, Try.laid]
  kernel_rfl
theorem room_holds : Rows.TelemetryRoomSaid :=
  OpenClaim.holds_of_wide 6 Try.f6 rfl rfl rfl rfl rfl rfl rfl ⟨rfl, rfl, rfl, rfl, rfl⟩ rfl rfl rfl rfl rfl (by kernel_rfl) Try.func6 room_facts
    (of_decide_eq_true (by kernel_rfl)) (by unfold Func.isWrapper; first | (rw [if_pos (by decide +kernel)]; kernel_rfl) | (rw [if_neg (by decide +kernel)]; exact ⟨rfl, rfl⟩))
    (fun os started H enc _ => room_lifted os started H enc)
#print axioms room_holds
end Go.Proofs.Ytpdbdpmlppbnnaa
