/-
  MonitorGround: for all lists of up to 8 monitors made from numbers and up to 20 lists of 6 values, the monitors that are stepped with what a sink returns are always in the states of those that are stepped with the values themselves.
-/
import Derived.Test.YtpdbdpmlppbnnaaR10
import Derived.Test.YtpdbdpmlppbnnaaN9
import Derived.Test.YtpdbdpmlppbnnaaV8
import Derived.Deep.CutRange
namespace Go.Proofs.Ytpdbdpmlppbnnaa
open Go.ChangeShapes Go.WideShapes Go.ChangeAt Go.RowKit Go.Shelf

/-- monitors as the law has them -/
structure Fine (ms : List Mo.Mon) : Prop where
  len : ms.length ≤ 8
  each : ∀ m ∈ ms, 0 ≤ m.par ∧ Mo.Small m
theorem Fine.past {ms : List Mo.Mon} (h : Fine ms) {m : Mo.Mon} (hm : m ∈ ms) : m.past.length ≤ 16 := by
  have := (h.each m hm).2
  unfold Mo.Small at this
  omega
theorem Fine.all {ms : List Mo.Mon} (h : Fine ms) (vs : List Int) : Fine (Mo.allM vs ms) := by
  refine ⟨by simp only [Mo.allM, List.length_map]; exact h.len, fun m hm => ?_⟩
  obtain ⟨x, hx, rfl⟩ := List.mem_map.1 hm
  obtain ⟨h1, h2⟩ := h.each x hx
  unfold Mo.nxM
  split
  · exact ⟨h1, Mo.small_step h2 _⟩
  · exact ⟨h1, h2⟩
theorem src_box {S : Nat → Prop} {w : World} {p n bs : Nat} {all : List (List Int)} (h : Src S w p n all bs) : ∃ cs, w.heap[p]? = some (.cells cs 100 (0, 0)) ∧ ∀ (j : Nat) (x : Bool), cs[j]? ≠ some (.bool x) := by
  obtain ⟨b, last, m, vb, M, h⟩ := h
  obtain ⟨A, c, e⟩ := h.base.form
  refine ⟨_, h.box, fun j x hj => ?_⟩
  subst e
  rcases j with _ | _ | _ | _ | _ | j <;> simp at hj
theorem snk_box {S : Nat → Prop} {w : World} {p n m : Nat} {H : Nat → Option (List Int)} (h : Snk S w p n m H) : ∃ cs, w.heap[p]? = some (.cells cs 103 (0, 0)) ∧ ∀ (j : Nat) (x : Bool), cs[j]? ≠ some (.bool x) := by
  obtain ⟨b, M, h⟩ := h
  refine ⟨_, h.box, fun j x hj => ?_⟩
  rcases j with _ | j <;> simp at hj
/-- two boards of monitors in the same states -/
structure Two (w : World) (vb vg : Value) (ms : List Mo.Mon) : Prop where
  b : Mo.Mons w vb ms
  g : Mo.Mons w vg ms
theorem Two.from {w w' : World} {vb vg : Value} {ms : List Mo.Mon} (h : Two w vb vg ms) (k : From w w') : Two w' vb vg ms := ⟨h.b.from k, h.g.from k⟩
theorem Two.offX {w w' : World} {vb vg : Value} {ms : List Mo.Mon} {p : Nat} {cs : Array Value} {t : TypeId} (h : Two w vb vg ms) (o : OffX p w w') (hp : w.heap[p]? = some (.cells cs t (0, 0))) (hn : ∀ (j : Nat) (x : Bool), cs[j]? ≠ some (.bool x)) : Two w' vb vg ms :=
  ⟨mons_offX h.b o hp hn, mons_offX h.g o hp hn⟩
/-- what holds at the loop's head -/
def GrL (w0 wr : World) (p1 p2 N k : Nat) (i vb vg : Value) : Prop :=
  ∃ (ms : List Mo.Mon) (all : List (List Int)) (bs : Nat) (H : Nat → Option (List Int)) (S1 S2 : Nat → Prop) (A1 A2 : Option Addr) (c1 c2 : Nat), k ≤ N ∧ k ≤ 20 ∧ i = .int .i64 k ∧ vb = .slice A1 ms.length c1 ∧ vg = .slice A2 ms.length c2 ∧ Two wr vb vg ms ∧ Fine ms ∧
    Sy w0 wr p1 p2 6 (k + 1) bs (.slice none 0 0) (.slice none 0 0) all [] [] H S1 S2 (fun _ => False) (fun _ => False) ∧ SyncP 6 all bs H [] ∧ all.length = k + 1
theorem gr_start {w0 w1 w2 w3 : World} {p1 p2 : Nat} {H : Nat → Option (List Int)} (k0 : From w0 w1) (k1 : From w1 w2) (s1 : Src (NewS w1 w2) w2 p1 6 [List.replicate 6 0] 0) (k2 : From w2 w3) (s2 : Snk (NewS w2 w3) w3 p2 6 1 H) :
    Sy w0 w3 p1 p2 6 1 0 (.slice none 0 0) (.slice none 0 0) [List.replicate 6 0] [] [] H (NewS w1 w2) (NewS w2 w3) (fun _ => False) (fun _ => False) :=
  { f := k0.trans (k1.trans k2)
    s := s1.from k2
    k := s2
    a := rowsOf_nil _ _ _ _
    t := rowsOf_nil _ _ _ _
    l3 := fun i hi => hi.elim
    l4 := fun i hi => hi.elim
    b1 := fun i hi => by have := k0.size; have := hi.1; omega
    b2 := fun i hi => by have := k0.size; have := k1.size; have := hi.1; omega
    b3 := fun i hi => hi.elim
    b4 := fun i hi => hi.elim
    d12 := fun i a b => by have := a.2; have := b.1; omega
    d13 := fun i _ b => b.elim
    d14 := fun i _ b => b.elim
    d23 := fun i _ b => b.elim
    d24 := fun i _ b => b.elim
    d34 := fun i _ b => b.elim }
/-- the values of a round -/
def xsV (l : List Int) : List Int := l.map fun x => boundI x 1000
theorem xsV_fits (l : List Int) : ∀ x ∈ xsV l, fitsV x := by
  intro x hx
  obtain ⟨y, _, rfl⟩ := List.mem_map.1 hx
  have := bound_bd y 1000 (by decide)
  exact ⟨by omega, by omega⟩
set_option maxHeartbeats 8000000 in
set_option maxRecDepth 10000 in
theorem grd_walk (A0 : Option Addr) (c0 : Nat) (rows : List (List Int)) (A1 : Option Addr) (c1 : Nat) (vals : List (List Int)) (A2 : Option Addr) (c2 : Nat) (acks : List Bool) (w : World)
    (h0 : Mo.Rows w (.slice A0 rows.length c0) rows) (hm0 : rows.length ≤ 9223372036854775807) (h1 : Sixes w A1 vals) (_ : vals.length ≤ 9223372036854775807) (h2 : Bools w (.slice A2 acks.length c2) acks) (_ : acks.length ≤ 9223372036854775807) (_ : acks.length ≤ c2) (_ : A2 = none → c2 = 0) :
    Calls Try.prog 10 #[.slice A0 rows.length c0, .slice A1 vals.length c1, .slice A2 acks.length c2] w fun e w' => e = .returned (.bool true) ∧ Below w.heap.size w w' := by
  obtain ⟨ms0, hms⟩ : ∃ z, Mo.makesM rows = z := ⟨_, rfl⟩
  have hfine : Fine ms0 := by
    refine ⟨by rw [← hms, Mo.makesM, List.length_map, List.length_take]; omega, fun m hmm => ?_⟩
    rw [← hms, Mo.makesM] at hmm
    obtain ⟨r, _, rfl⟩ := List.mem_map.1 hmm
    have := Mo.makeM_good r
    refine ⟨(Mo.pick_bd r 0 6 (by omega)).1, ?_⟩
    have h1 := this.of
    unfold Mo.Small
    refine ⟨?_, by omega⟩
    simp only [Mo.makeM, List.length_nil] at h1 ⊢
    omega
  have HF := bx hfine
  have HMK := bx (Mo.makes_calls A0 c0 rows w h0 hm0 ms0 hms)
  have HV := bx h1
  have HAC := bx h2
  have HLV := bx (fun (V : World) => Mo.livesM_calls V)
  have H1 := bx (fun (V : World) => newSource_calls 6 V (by decide))
  have H2 := bx (fun (V : World) => newSink_calls 6 V (by decide))
  obtain ⟨N, hN⟩ : ∃ N, vals.length = N := ⟨_, rfl⟩
  have HNN := bx hN
  rw [hN]
  clear h0 h1 h2 hms hfine hN
  go_enter Try.func10, Try.ntmps10
  go_wp2_with fail
  refine HMK.out.mono ?_
  rintro e w1 ⟨A, c, rfl, hM1, k0, _, _⟩
  have HM1 := bx hM1
  have HK0 := bx k0
  clear hM1 k0
  go_wp2_with fail
  refine (H1.out w1).mono ?_
  rintro e w2 ⟨p1, rfl, k1, hs1⟩
  go_wp2_with fail
  refine (H2.out w2).mono ?_
  rintro e w3 ⟨p2, rfl, k2, hk2⟩
  have HS0 := bx (gr_start HK0.out k1 hs1 k2 hk2)
  have HM3 := bx (HM1.out.from (k1.trans k2))
  clear k1 hs1 k2 hk2
  go_wp2_with fail
  go_loopw [11, 7, 8] (fun i b g wr => ∃ k, GrL w wr p1 p2 N k i b g) (fun i _ _ _ => 20 - (intOf i).toNat)
  case atStart => exact ⟨0, ms0, _, 0, _, _, _, A, A, c, c, Nat.zero_le _, by omega, rfl, rfl, rfl, ⟨HM3.out, HM3.out⟩, HF.out, HS0.out, sync_start 6 (by decide) _ rfl, rfl⟩
  case round =>
    obtain ⟨k, ms, all, bs, H, S1, S2, Ab, Ag, cb, cg, hk, hk20, rfl, rfl, rfl, htw, hfi, hsy, hsp, hal⟩ := hrel
    have HTW := bx htw
    have HFI := bx hfi
    have HSY := bx hsy
    have HSP := bx hsp
    have HAL := bx hal
    clear htw hfi hsy hsp hal
    by_cases hlt : k < N
    · have z1 : decide ((k : Int) < (N : Int)) = true := decide_eq_true (by omega)
      by_cases h20 : k < 20
      · have z2 : decide ((k : Int) < 20) = true := decide_eq_true (by omega)
        have z3 : (k : Int) < (N : Int) := by omega
        have z4 : (0 : Int) ≤ (k : Int) := by omega
        obtain ⟨hl6, hlx, vb, vo, rfl, hvb, hcell⟩ := HV.out k (by rw [HNN.out]; exact hlt)
        obtain ⟨lv, hlv⟩ : ∃ lv, vals[k]'(by rw [HNN.out]; exact hlt) = lv := ⟨_, rfl⟩
        rw [hlv] at hl6 hlx hcell
        have HL6 := bx hl6
        have HLX := bx hlx
        have HCE := bx hcell
        clear hl6 hlx hcell hlv
        have hxl : (xsV lv).length = 6 := by simp [xsV, HL6.out]
        have HXL := bx hxl
        clear hxl
        go_wp2_with fail
        go_loopw [13, 12] (fun i o wx => ∃ j : Nat, j ≤ 6 ∧ i = .int .i64 j ∧ wx.ownsRow wr.heap.size 3 1 o j (ic ((xsV lv).take j)) ∧ From wr wx) (fun i _ _ => 6 - (intOf i).toNat)
        case atStart => exact ⟨0, by omega, rfl, own_nil _ _ _ _, From.refl _⟩
        case round =>
          obtain ⟨j, hj, rfl, ho, hf⟩ := hrel
          have HO := bx ho
          have HFR := bx hf
          clear ho hf
          by_cases hj6 : j < 6
          · have y1 : decide ((j : Int) < 6) = true := decide_eq_true (by omega)
            have y2 : (j : Int) < 6 := by omega
            have y3 : (0 : Int) ≤ (j : Int) := by omega
            have hcell := (HSY.out.f.trans HFR.out).cell (HCE.out j hj6)
            have hjl : j < lv.length := by rw [HL6.out]; exact hj6
            have hgd : lv.getD j 0 = lv[j] := getD_nat lv j hjl
            have hxb := HLX.out lv[j] (List.getElem_mem hjl)
            have HTK := bx (show (xsV lv).take (j + 1) = (xsV lv).take j ++ [boundI lv[j] 1000] by
              rw [List.take_succ_eq_append_getElem (by rw [HXL.out]; exact hj6)]
              simp [xsV])
            rw [hgd] at hcell
            generalize lv[j] = xj at *
            have HBC := bx (fun (V : World) => bound_calls xj 1000 V hxb.1 hxb.2 (by decide) (by decide))
            obtain ⟨yj, hyj⟩ : ∃ y, boundI xj 1000 = y := ⟨_, rfl⟩
            rw [hyj] at HBC HTK
            clear hgd hxb hyj
            go_wp2_with fail
            refine (HBC.out _).mono ?_
            rintro e w' ⟨rfl, hw⟩
            rw [hw]
            clear hw w'
            go_wp2_with (at_builtin; refine app_sl rfl _ _ 22 rfl Try.elInt rfl (HO.out.alloc _) 1 [.int .i64 yj] rfl (sl_new _ [.int .i64 yj] 3 1 1) rfl (by simp [Value.oneCell']) (by omega) (by unfold maxLen; omega) (by have := Below.size HFR.out; simp; omega) ?_; intro A3 c3 w9 o9 g9 _)
            go_roundw
            case rel => exact ⟨j + 1, by omega, by go_num, by rw [HTK.out, ic_append]; exact o9, From.app (HFR.out.alloc _) (HO.out.alloc _) (Nat.le_refl _) g9⟩
            case measure => simp [intOf]; omega
          · obtain rfl : j = 6 := by omega
            have hx6 : (xsV lv).take 6 = xsV lv := List.take_of_length_le (by rw [HXL.out]; exact Nat.le_refl _)
            obtain ⟨xv, hxv⟩ : ∃ xv, xsV lv = xv := ⟨_, rfl⟩
            have hvf := xsV_fits lv
            rw [hx6, hxv] at HO
            rw [hxv] at HXL hvf
            have HVF := bx hvf
            obtain ⟨AX, cX, heX⟩ := slice_form HO.out
            subst heX
            clear hx6 hxv hvf
            have HSX := bx (HSY.out.go HFR.out)
            have HTX := bx (HTW.out.from HFR.out)
            obtain ⟨pk, hpk, hpb1, hpb2, hput, hsp'⟩ := ground_step HSP.out xv ⟨HXL.out, HVF.out⟩ (by have := HAL.out; omega)
            have HPK0 := bx hpk
            have HPT0 := bx hput
            have HPB := bx (And.intro hpb1 hpb2)
            have HSP2 := bx hsp'
            clear hpk hput hpb1 hpb2 hsp'
            obtain ⟨csx, bxX, nbX⟩ := src_box HSX.out.s
            have BXX := bx bxX
            have NBX := bx nbX
            have HTK := bx (takeX_calls S1 p1 6 all bs (.slice AX 6 cX) xv wr HSX.out.s (apart_own HXL.out HO.out bxX (by decide)) (by rw [HXL.out]; decide) ((all.length : Nat) : Int) 0 (all ++ [xv]) (by
              rw [takeP, if_neg (fun h => h HXL.out), if_neg (fun h => h HVF.out), if_neg (by have := HAL.out; omega)]))
            clear bxX nbX
            have hal : all.length ≤ 21 ∧ 1 ≤ all.length := by have := HAL.out; omega
            go_wp2_with fail
            refine HTK.out.mono ?_
            rintro e w4 ⟨⟨rfl, off4, s4⟩, ox4⟩
            have HS4 := bx ((HSX.out.src off4 s4).go ((From.refl _).alloc (.cells #[.int .i64 0, .int .i64 1, .int .i64 2, .int .i64 3, .int .i64 4, .int .i64 5] 3)))
            have HT4 := bx ((HTX.out.offX ox4 BXX.out NBX.out).from ((From.refl _).alloc (.cells #[.int .i64 0, .int .i64 1, .int .i64 2, .int .i64 3, .int .i64 4, .int .i64 5] 3)))
            have HO4 := bx (own_call (own_offX HO.out ox4 BXX.out (by decide)) ((From.refl _).alloc (.cells #[.int .i64 0, .int .i64 1, .int .i64 2, .int .i64 3, .int .i64 4, .int .i64 5] 3)))
            have hio : Ints (w4.alloc (.cells #[.int .i64 0, .int .i64 1, .int .i64 2, .int .i64 3, .int .i64 4, .int .i64 5] 3)) (.slice (some ⟨w4.heap.size, 0, none⟩) 6 6) (nl o6) := by
              have := sl_new w4 (ic (nl o6)) 3 6 6
              show Sl _ _ _ (nl o6).length _
              rw [World.size_alloc]
              exact this
            have HPK := bx (srcPacket_calls _ p1 6 (all ++ [xv]) bs (.slice (some ⟨w4.heap.size, 0, none⟩) 6 6) o6 1000 _ HS4.out.s (fun _ => ⟨hio, o6_perm⟩) (pk, 0) HPK0.out)
            clear off4 s4 ox4 hio
            go_wp2_with fail
            refine HPK.out.mono ?_
            rintro e w5 ⟨AB, cB, rfl, oB, k5⟩
            have HS5 := bx (HS4.out.go k5)
            have HT5 := bx (HT4.out.from k5)
            have HO5 := bx (own_call HO4.out k5)
            simp only at oB
            obtain ⟨csk, bxK, nbK⟩ := snk_box HS5.out.k
            have BXK := bx bxK
            have NBK := bx nbK
            obtain ⟨H', hH'⟩ : ∃ H', (fun q => if q = all.length then some xv else H q) = H' := ⟨_, rfl⟩
            have hHx : H' all.length = some xv := by rw [← hH']; simp
            have hgp : getP H' (all.length : Int) = (xv, true) := by rw [getP, if_neg (by omega), show ((all.length : Nat) : Int).toNat = all.length by omega, hHx]; rfl
            rw [hH'] at HPT0 HSP2
            have HPT := bx (putSX_calls S2 p2 6 (k + 1) H (.slice AB pk.length cB) pk w5 HS5.out.k (sl_of_own oB) (by have := HPB.out.2; omega) HPB.out.1 (by omega) ((all.length : Nat) : Int) 0 true H' HPT0.out)
            have HGP := bx hgp
            have HHX := bx hHx
            clear bxK nbK oB k5 hH' hgp hHx
            go_wp2_with fail
            refine HPT.out.mono ?_
            rintro e w6 ⟨⟨rfl, off6, s6⟩, ox6⟩
            have HS6 := bx (HS5.out.snk off6 s6)
            have HT6 := bx (HT5.out.offX ox6 BXK.out NBK.out)
            have HO6 := bx (own_offX HO5.out ox6 BXK.out (by decide))
            have HG := bx (get_calls _ p2 6 (k + 2) H' (all.length : Int) w6 HS6.out.k (by omega))
            rw [HGP.out] at HG
            clear off6 s6 ox6
            go_wp2_with fail
            refine HG.out.mono ?_
            rintro e w7 ⟨AY, cY, rfl, oY, k7⟩
            have HS7 := bx (HS6.out.go k7)
            have HT7 := bx (HT6.out.from k7)
            have HO7 := bx (own_call HO6.out k7)
            rw [show ((xv, true) : List Int × Bool).1 = xv from rfl, HXL.out] at oY
            rw [show ((xv, true) : List Int × Bool).1 = xv from rfl, show ((xv, true) : List Int × Bool).2 = true from rfl, HXL.out]
            have HOY := bx oY
            clear oY k7
            have e1 : ((all.length : Int) != (all.length : Int)) = false := by simp
            go_upto_region 21 with fail
            go_cut [121] from 106 to 121 (fun s wx => s = .bool false ∧ ∃ bs' S1' S2', Two wx (.slice Ab ms.length cb) (.slice Ag ms.length cg) ms ∧ Ints wx (.slice AX 6 cX) xv ∧ Ints wx (.slice AY 6 cY) xv ∧ Sy w wx p1 p2 6 (k + 2) bs' (.slice none 0 0) (.slice none 0 0) (all ++ [xv]) [] [] H' S1' S2' (fun _ => False) (fun _ => False) ∧ SyncP 6 (all ++ [xv]) bs' H' [])
            case first =>
              have hxi : ∀ (V : World) (B : Nat) (A : Option Addr) (c : Nat), V.ownsRow B 3 1 (.slice A 6 c) 6 (ic xv) → Ints V (.slice A 6 c) xv := fun V B A c h => by
                have := sl_of_own h
                show Sl _ _ _ xv.length _
                rw [HXL.out]
                exact this
              by_cases ka : k < acks.length
              · have d1 : decide ((k : Int) < (acks.length : Int)) = true := decide_eq_true (by omega)
                have d2 : (k : Int) < (acks.length : Int) := by omega
                obtain ⟨ba, fa, rfl, _, ca⟩ := bools_at (HAC.out.from HS7.out.f) ka
                obtain ⟨ak, hak0⟩ : ∃ ak, acks[k] = ak := ⟨_, rfl⟩
                rw [hak0] at ca
                clear hak0
                cases ak
                · go_wp2
                  go_meet
                  case rel => exact ⟨rfl, bs, _, _, HT7.out, hxi _ _ _ _ HO7.out, (by have := sl_of_own HOY.out; show Sl _ _ _ xv.length _; rw [HXL.out]; exact this), HS7.out, HSP2.out⟩
                · obtain ⟨bs', hak, hsp3⟩ := HSP2.out.ack all.length (by omega) (by simp; omega) (by rw [HHX.out]; rfl)
                  have HSP3 := bx hsp3
                  obtain ⟨csy, bxY, nbY⟩ := src_box HS7.out.s
                  have BXY := bx bxY
                  have NBY := bx nbY
                  have HAK := bx (ackX_calls _ p1 6 (all ++ [xv]) bs ((all.length : Nat) : Int) w7 HS7.out.s (by omega) 0 bs' hak)
                  clear hak hsp3 bxY nbY
                  go_wp2_with fail
                  refine HAK.out.mono ?_
                  rintro e w8 ⟨⟨rfl, off8, s8⟩, ox8⟩
                  have HS8 := bx (HS7.out.src off8 s8)
                  have HT8 := bx (HT7.out.offX ox8 BXY.out NBY.out)
                  have HO8 := bx (own_offX HO7.out ox8 BXY.out (by decide))
                  have HY8 := bx (own_offX HOY.out ox8 BXY.out (by decide))
                  clear off8 s8 ox8 ca
                  go_wp2
                  go_meet
                  case rel => exact ⟨rfl, bs', _, _, HT8.out, hxi _ _ _ _ HO8.out, (by have := sl_of_own HY8.out; show Sl _ _ _ xv.length _; rw [HXL.out]; exact this), HS8.out, HSP3.out⟩
              · have d1 : decide ((k : Int) < (acks.length : Int)) = false := decide_eq_false (by omega)
                go_wp2
                go_meet
                case rel => exact ⟨rfl, bs, _, _, HT7.out, hxi _ _ _ _ HO7.out, (by have := sl_of_own HOY.out; show Sl _ _ _ xv.length _; rw [HXL.out]; exact this), HS7.out, HSP2.out⟩
            case rest =>
              obtain ⟨rfl, bs', S1', S2', htw, hix, hiy, hsy, hsp⟩ := hcut
              have HTW2 := bx htw
              have HIX := bx hix
              have HIY := bx hiy
              have HSY2 := bx hsy
              have HSP3 := bx hsp
              have hf8 := HFI.out.len
              have hgood : ∀ m ∈ ms, 0 ≤ m.par ∧ m.past.length ≤ 900 := fun m hm => ⟨(HFI.out.each m hm).1, by have := HFI.out.past hm; omega⟩
              obtain ⟨nw, hnw⟩ : ∃ z, Mo.allM xv ms = z := ⟨_, rfl⟩
              have HFN := bx (show Fine nw by rw [← hnw]; exact HFI.out.all xv)
              have HAL1 := bx (show Calls Try.prog 45 #[.slice Ab ms.length cb, .slice AX 6 cX] wc (Mo.AllPost wc nw (Mo.evs (Mo.uxM xv) ms) (Mo.evs (Mo.dxM xv) ms)) by
                have := Mo.all_calls Ab cb ms AX cX xv wc HTW2.out.b (by rw [HXL.out]; exact ints_mo HIX.out) (by omega) hgood nw _ _ hnw rfl rfl
                rwa [HXL.out] at this)
              have HAL2 := bx (fun (V : World) (k : From wc V) => (show Calls Try.prog 45 #[.slice Ag ms.length cg, .slice AY 6 cY] V (Mo.AllPost V nw (Mo.evs (Mo.uxM xv) ms) (Mo.evs (Mo.dxM xv) ms)) by
                have := Mo.all_calls Ag cg ms AY cY xv V (HTW2.out.g.from k) (by rw [HXL.out]; exact ints_mo (HIY.out.from k)) (by omega) hgood nw _ _ hnw rfl rfl
                rwa [HXL.out] at this))
              have HAL3 := bx HAL.out
              clear htw hix hiy hsy hsp hgood hnw
              generalize Mo.evs (Mo.uxM xv) ms = us at *
              generalize Mo.evs (Mo.dxM xv) ms = ds at *
              go_wp2_with fail
              refine HAL1.out.mono ?_
              rintro e w9 ⟨B1, d1, B2, d2, B3, d3, rfl, hm9, _, _, k9⟩
              have HM9 := bx hm9
              go_wp2_with fail
              refine (HAL2.out w9 k9).mono ?_
              rintro e wA ⟨C1, f1, C2, f2, C3, f3, rfl, hmA, _, _, kA⟩
              have HTA := bx (Two.mk (HM9.out.from kA) hmA)
              have HSA := bx (Mo.sameAll_calls B1 C1 d1 f1 nw wA HTA.out.b HTA.out.g (by have := HFN.out.len; omega) (fun m hm => by have := HFN.out.past hm; omega))
              clear hm9 hmA
              go_wp2_with fail
              refine HSA.out.mono ?_
              rintro e wB ⟨rfl, kB⟩
              have ewk : IntKind.i64.wrap ((k : Int) + 1) = (k : Int) + 1 := IntWalk.i64_in _ (by omega)
              go_wp2
              go_roundw
              case rel => exact ⟨k + 1, nw, all ++ [xv], bs', H', S1', S2', B1, C1, d1, f1, by omega, by omega, by go_num, rfl, rfl, HTA.out.from kB, HFN.out, HSY2.out.go (k9.trans (kA.trans kB)), HSP3.out, by rw [List.length_append, HAL3.out]; rfl⟩
              case measure => simp [intOf]; omega
      · have z2 : decide ((k : Int) < 20) = false := decide_eq_false (by omega)
        go_wp2_with fail
        refine (HLV.out _).mono ?_
        rintro e w9 ⟨rfl, k9⟩
        go_wp2
        go_ret
        exact ⟨rfl, HSY.out.f.trans k9⟩
    · have z1 : decide ((k : Int) < (N : Int)) = false := decide_eq_false (by omega)
      go_wp2_with fail
      refine (HLV.out _).mono ?_
      rintro e w9 ⟨rfl, k9⟩
      go_wp2
      go_ret
      exact ⟨rfl, HSY.out.f.trans k9⟩
set_option maxRecDepth 100000 in
theorem grd_lifted (os : Os) (started : os.Started) (H : Type) (enc : TypeId × Value → H) :
    ReturnsInHanded {} Try.checked os 10 .any (Rows.monitorGroundSpec.pre6 enc Try.prog Try.f10 Rows.monitorGroundRow.domain false) (Rows.monitorGroundSpec.post enc Try.prog Try.f10 false true false false) := by
  refine returnsInHanded_of_change (C := Try.checked) own started (by kernel_rfl) Try.func10
    (ChangeSpec.witness6 (enc := enc) (C := Try.checked) false ⟨#[], #[.slice none 0 0, .slice none 0 0, .slice none 0 0], []⟩ 8 (by kernel_rfl) (by kernel_rfl) (by kernel_rfl) (by kernel_rfl)) ?_
  intro W base args ds gs before hval0 hW hcnd _
  have hval : ∀ (j : Nat) t v, Try.f10.params[j]? = some t → args[j]? = some v → Value.okWide Try.prog W .any base t v := hval0
  have hW' := hW
  obtain ⟨p, q, hA0, hV, rfl, hfz, hnd⟩ := hW
  have hA : DataW.TrodAll enc Try.prog W 0 (fun _ => true) true Try.f10.params.toList args.toList ds p := hA0
  rw [Try.params10] at hA hval
  obtain ⟨v0, vs0, d0, ds0, p0, q0, hargs, rfl, rfl, h0, r0⟩ := trodAll_cons hA
  obtain ⟨v1, vs1, d1, ds1, p1, q1, rfl, rfl, rfl, h1, r1⟩ := trodAll_cons r0
  obtain ⟨v2, vs2, d2, ds2, p2, q2, rfl, rfl, rfl, h2, r2⟩ := trodAll_cons r1
  obtain ⟨rfl, rfl, rfl⟩ := trodAll_nil r2
  obtain rfl : args = #[v0, v1, v2] := by cases args; simp_all
  obtain ⟨rfl, rfl⟩ := trodVars_none hV
  obtain ⟨A0, c0, l0, rfl, hB0, hm0⟩ := open_rows (hval 0 69 v0 rfl rfl) h0
  obtain ⟨A1, c1, l1, rfl, hB1, hm1⟩ := open_arr6s (hval 1 70 v1 rfl rfl) h1
  obtain ⟨A2, c2, l2, rfl, hB2, hm2, hc2, hn2⟩ := open_boolsv (hval 2 32 v2 rfl rfl) h2
  refine (grd_walk A0 c0 l0 A1 c1 l1 A2 c2 l2 W hB0 hm0 hB1 hm1 hB2 hm2 hc2 hn2).mono fun e W' ⟨he, hb⟩ => ?_
  subst he
  exact ⟨_, rfl, law_post Try.laid (by kernel_rfl) rfl rfl Try.underlying4 rfl hW' hb⟩
theorem grd_facts : joinedFacts Try.prog 10 Try.f10 Rows.monitorGroundSpec Rows.monitorGroundRow = true := by
  unfold joinedFacts
  rw [fact_enter, fact_lift, fact_make, fact_keys, fact_heard, fact_maps, Try.laid]
  kernel_rfl
theorem grd_holds : Rows.MonitorGroundSaid :=
  OpenClaim.holds_of_wide 10 Try.f10 rfl rfl rfl rfl rfl rfl rfl ⟨rfl, rfl, rfl, rfl, rfl⟩ rfl rfl rfl rfl rfl (by kernel_rfl) Try.func10 grd_facts
    (of_decide_eq_true (by kernel_rfl)) (by unfold Func.isWrapper; first | (rw [if_pos (by decide +kernel)]; kernel_rfl) | (rw [if_neg (by decide +kernel)]; exact ⟨rfl, rfl⟩))
    (fun os started H enc _ => grd_lifted os started H enc)
#print axioms grd_holds
end Go.Proofs.Ytpdbdpmlppbnnaa
