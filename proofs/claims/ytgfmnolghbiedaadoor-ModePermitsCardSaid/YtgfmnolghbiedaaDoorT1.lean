/-
  For all modes and numbers, the law ModePermits returns true, and its arguments read as before; the package's table 'permitted' reads as the program's text lays it. No further condition.
-/
import Derived.Test.YtgfmnolghbiedaaDoorQ1
namespace Go.Proofs.YtgfmnolghbiedaaDoor
open Go.ChangeShapes Go.WideShapes Go.ChangeAt Go.RowKit Go.Deep

theorem perm_mono (lev k : Int) (h0 : 0 < lev) (h1 : lev ≤ 2) (h : permM lev k = true) : permM (lev - 1) k = true := by
  simp only [permM, Bool.or_eq_true, decide_eq_true_eq] at *
  omega
set_option maxRecDepth 100000 in
set_option maxHeartbeats 4000000 in
theorem permits_walk (lev bud : Int) (A : Option Addr) (c : Nat) (us : UL) (what : Int) (w : World) (hpm : PM w)
    (_ : US w w.heap.size (.slice A us.length c) us) (_ : us.length ≤ 9223372036854775807) (_ : -9223372036854775808 ≤ lev ∧ lev ≤ 9223372036854775807) (_ : -9223372036854775808 ≤ bud ∧ bud ≤ 9223372036854775807) (_ : -9223372036854775808 ≤ what) (_ : what ≤ 9223372036854775807) :
    Calls Tryd.prog 6 #[.agg #[.int .i64 lev, .int .i64 bud, .slice A us.length c], .int .i64 what] w fun e w' => e = .returned (.bool true) ∧ Below w.heap.size w w' := by
  obtain ⟨W0, hW0⟩ : ∃ W0, w.alloc (.cells #[.int .i64 lev, .int .i64 bud, .slice A us.length c] 24) = W0 := ⟨_, rfl⟩
  have hF0 : From w W0 := by rw [← hW0]; exact From.alloc (Below.refl _ _) _
  have HM := bx (show MCell W0 w.heap.size lev bud A us.length c by rw [← hW0]; exact mcell_new w lev bud A us.length c)
  have HP := bx (hpm.from hF0)
  have s0 : W0.heap.size = w.heap.size + 1 := by rw [← hW0]; simp
  obtain ⟨q0, q1, q2⟩ := HM.out.facts
  obtain ⟨x, hx⟩ : ∃ x, permM lev what = x := ⟨_, rfl⟩
  have HX := bx hx
  have exx : (x != x) = false := by simp
  clear hx
  generalize us.length = n at *
  have HC := bx (fun (W : World) (k : From W0 W) => permits_calls lev bud what A n c W (HP.out.from k) x HX.out)
  have HD := bx (fun (W : World) (_ : From W0 W) => refPermits_calls lev bud what A n c W x HX.out)
  have hFF : From W0 W0 := Below.refl _ _
  have HK := bx (fun (W : World) (k : From W0 W) => (show From W0 W ∧ W.cell? ⟨w.heap.size, 0, none⟩ = some (.int .i64 lev) ∧ W.cell? ⟨w.heap.size, 1, none⟩ = some (.int .i64 bud) ∧ W.cell? ⟨w.heap.size, 2, none⟩ = some (.slice A n c) from ⟨k, (HM.out.from k).facts⟩))
  go_enter Tryd.func6, Tryd.ntmps6
  go_wp2_with fail
  go_region_held3 (fun W => From W0 W ∧ W.cell? ⟨w.heap.size, 0, none⟩ = some (.int .i64 lev) ∧ W.cell? ⟨w.heap.size, 1, none⟩ = some (.int .i64 bud) ∧ W.cell? ⟨w.heap.size, 2, none⟩ = some (.slice A n c))
    (first | exact HK.out _ (From.drew hFF) | (go_split_ands; exact HK.out _ (From.trans (by assumption) hx)))
    (first | (go_at_call 24; (with_reducible refine (HC.out _ (by go_split_ands; assumption)).mono ?_); rintro e w4 ⟨rfl, hx⟩) | (go_at_call 25; (with_reducible refine (HD.out _ (by go_split_ands; assumption)).mono ?_); rintro e w5 ⟨rfl, hx⟩))
  go_split_ands
  have k5 : From W0 w5 := by assumption
  have hF5 := hF0.trans k5
  have HP5 := bx (HP.out.from k5)
  clear hx q0 q1 q2 hW0
  go_wp2
  go_loopw [5, 6, 7, 8] (fun lv _ _ _ wr => ∃ L : Nat, L ≤ 2 ∧ lv = .int .i64 L ∧ From w5 wr) (fun lv _ _ _ _ => (intOf lv).toNat)
  case atStart => exact ⟨2, Nat.le_refl _, rfl, Below.refl _ _⟩
  case round =>
    obtain ⟨L, hL, rfl, hbw⟩ := hrel
    obtain ⟨wq, rfl⟩ : ∃ W : World, W = wr := ⟨_, rfl⟩
    have hc : L = 0 ∨ L = 1 ∨ L = 2 := by omega
    rcases hc with rfl | rfl | rfl
    · go_wp2_with fail
      refine (livesM_calls wq (HP5.out.from hbw)).mono ?_
      rintro e w9 ⟨rfl, hx9⟩
      go_wp2
      go_ret
      exact ⟨rfl, hF5.trans (hbw.trans hx9)⟩
    · go_wp2
      obtain ⟨Z1, hZ1⟩ : ∃ V, wq.alloc (.cells #[.int .i64 1, .int .i64 0, .slice none 0 0] 24) = V := ⟨_, rfl⟩
      obtain ⟨Z2, hZ2⟩ : ∃ V, Z1.alloc (.cells #[.int .i64 0, .int .i64 0, .slice none 0 0] 24) = V := ⟨_, rfl⟩
      have sZ1 : Z1.heap.size = wq.heap.size + 1 := by rw [← hZ1]; simp
      have f1 : From wq Z1 := by rw [← hZ1]; exact From.alloc (Below.refl _ _) _
      have f2 : From Z1 Z2 := by rw [← hZ2]; exact From.alloc (Below.refl _ _) _
      have M1 := bx (show MCell Z2 wq.heap.size 1 0 none 0 0 by have := mcell_new wq 1 0 none 0 0; rw [hZ1] at this; exact this.from f2)
      have M2 := bx (show MCell Z2 (wq.heap.size + 1) 0 0 none 0 0 by have := mcell_new Z1 0 0 none 0 0; rw [hZ2, sZ1] at this; exact this)
      have hbz := hbw.trans (f1.trans f2)
      have HPZ := bx (HP5.out.from hbz)
      rw [hZ1, hZ2]
      clear f1 f2 hZ1 hZ2
      go_loopw [8] (fun kv wr' => ∃ k : Nat, k ≤ 4 ∧ kv = .int .i64 k ∧ From Z2 wr') (fun kv _ => 4 - (intOf kv).toNat)
      case atStart => exact ⟨0, Nat.zero_le _, rfl, Below.refl _ _⟩
      case round =>
        obtain ⟨k, hk, rfl, hbw2⟩ := hrel
        obtain ⟨m0, m1, m2⟩ := (M1.out.from hbw2).facts
        obtain ⟨n0, n1, n2⟩ := (M2.out.from hbw2).facts
        obtain ⟨wz, rfl⟩ : ∃ W : World, W = wr := ⟨_, rfl⟩
        by_cases hk4 : k < 4
        · have z1 : (k : Int) < 4 := by omega
          obtain ⟨y, hy⟩ : ∃ y, permM 1 k = y := ⟨_, rfl⟩
          have HY := bx hy
          have HMO := bx (fun (h : y = true) => show permM 0 k = true from by have := perm_mono 1 k (by decide) (by decide) (hy.trans h); exact this)
          clear hy
          go_wp2_with fail
          refine (permits_calls 1 0 k none 0 0 wz (HPZ.out.from hbw2) y HY.out).mono ?_
          rintro e w6 ⟨rfl, k6⟩
          have k6' : From wz w6 := k6
          clear n0 n1 n2 m0 m1 m2
          obtain ⟨n0, n1, n2⟩ := ((M2.out.from hbw2).from k6').facts
          cases y
          · go_wp2
            go_roundw
            case rel => exact ⟨_, .int .i64 ((k : Int) + 1), _, _, _, _, _, _, _, _, _, _, _, _, _, ⟨k + 1, by omega, by go_num, hbw2.trans k6'⟩, rfl⟩
            case measure => simp [intOf]; omega
          · have HY2 := bx (HMO.out rfl)
            go_wp2_with fail
            refine (permits_calls 0 0 k none 0 0 w6 ((HPZ.out.from hbw2).from k6') true HY2.out).mono ?_
            rintro e w7 ⟨rfl, k7⟩
            go_wp2
            go_roundw
            case rel => exact ⟨_, .int .i64 ((k : Int) + 1), _, _, _, _, _, _, _, _, _, _, _, _, _, ⟨k + 1, by omega, by go_num, hbw2.trans (k6'.trans k7)⟩, rfl⟩
            case measure => simp [intOf]; omega
        · obtain rfl : k = 4 := by omega
          go_wp2
          go_roundw
          case rel => exact ⟨0, by omega, rfl, hbz.trans hbw2⟩
          case measure => simp [intOf]
    · go_wp2
      obtain ⟨Z1, hZ1⟩ : ∃ V, wq.alloc (.cells #[.int .i64 2, .int .i64 0, .slice none 0 0] 24) = V := ⟨_, rfl⟩
      obtain ⟨Z2, hZ2⟩ : ∃ V, Z1.alloc (.cells #[.int .i64 1, .int .i64 0, .slice none 0 0] 24) = V := ⟨_, rfl⟩
      have sZ1 : Z1.heap.size = wq.heap.size + 1 := by rw [← hZ1]; simp
      have f1 : From wq Z1 := by rw [← hZ1]; exact From.alloc (Below.refl _ _) _
      have f2 : From Z1 Z2 := by rw [← hZ2]; exact From.alloc (Below.refl _ _) _
      have M1 := bx (show MCell Z2 wq.heap.size 2 0 none 0 0 by have := mcell_new wq 2 0 none 0 0; rw [hZ1] at this; exact this.from f2)
      have M2 := bx (show MCell Z2 (wq.heap.size + 1) 1 0 none 0 0 by have := mcell_new Z1 1 0 none 0 0; rw [hZ2, sZ1] at this; exact this)
      have hbz := hbw.trans (f1.trans f2)
      have HPZ := bx (HP5.out.from hbz)
      rw [hZ1, hZ2]
      clear f1 f2 hZ1 hZ2
      go_loopw [8] (fun kv wr' => ∃ k : Nat, k ≤ 4 ∧ kv = .int .i64 k ∧ From Z2 wr') (fun kv _ => 4 - (intOf kv).toNat)
      case atStart => exact ⟨0, Nat.zero_le _, rfl, Below.refl _ _⟩
      case round =>
        obtain ⟨k, hk, rfl, hbw2⟩ := hrel
        obtain ⟨m0, m1, m2⟩ := (M1.out.from hbw2).facts
        obtain ⟨n0, n1, n2⟩ := (M2.out.from hbw2).facts
        obtain ⟨wz, rfl⟩ : ∃ W : World, W = wr := ⟨_, rfl⟩
        by_cases hk4 : k < 4
        · have z1 : (k : Int) < 4 := by omega
          obtain ⟨y, hy⟩ : ∃ y, permM 2 k = y := ⟨_, rfl⟩
          have HY := bx hy
          have HMO := bx (fun (h : y = true) => show permM 1 k = true from by have := perm_mono 2 k (by decide) (by decide) (hy.trans h); exact this)
          clear hy
          go_wp2_with fail
          refine (permits_calls 2 0 k none 0 0 wz (HPZ.out.from hbw2) y HY.out).mono ?_
          rintro e w6 ⟨rfl, k6⟩
          have k6' : From wz w6 := k6
          clear n0 n1 n2 m0 m1 m2
          obtain ⟨n0, n1, n2⟩ := ((M2.out.from hbw2).from k6').facts
          cases y
          · go_wp2
            go_roundw
            case rel => exact ⟨_, .int .i64 ((k : Int) + 1), _, _, _, _, _, _, _, _, _, _, _, _, _, ⟨k + 1, by omega, by go_num, hbw2.trans k6'⟩, rfl⟩
            case measure => simp [intOf]; omega
          · have HY2 := bx (HMO.out rfl)
            go_wp2_with fail
            refine (permits_calls 1 0 k none 0 0 w6 ((HPZ.out.from hbw2).from k6') true HY2.out).mono ?_
            rintro e w7 ⟨rfl, k7⟩
            go_wp2
            go_roundw
            case rel => exact ⟨_, .int .i64 ((k : Int) + 1), _, _, _, _, _, _, _, _, _, _, _, _, _, ⟨k + 1, by omega, by go_num, hbw2.trans (k6'.trans k7)⟩, rfl⟩
            case measure => simp [intOf]; omega
        · obtain rfl : k = 4 := by omega
          go_wp2
          go_roundw
          case rel => exact ⟨1, by omega, rfl, hbz.trans hbw2⟩
          case measure => simp [intOf]
set_option maxRecDepth 100000 in
theorem permits_lifted (os : Os) (started : os.Started) (H : Type) (enc : TypeId × Value → H) :
    ReturnsInHanded {} Tryd.checked os 6 .any (fun w args => (Rows.modePermitsSpec.pre enc Tryd.prog Tryd.f6 [] false w args ∧ laidMetH Tryd.prog laidL w) ∧ sizedMet enc Tryd.prog Tryd.f6 (OpenSpec.ofChange Rows.modePermitsSpec) false w args)
      (Rows.modePermitsSpec.post enc Tryd.prog Tryd.f6 false true false false) := by
  refine returnsInHanded_of_change_and (C := Tryd.checked) (X := fun w _ => laidMetH Tryd.prog laidL w) (fun _ _ _ hh h => h.of_heap hh) own started (by kernel_rfl) Tryd.func6
    (ChangeSpec.witness_shaped (enc := enc) (C := Tryd.checked) (os := os) (X := fun w _ => laidMetH Tryd.prog laidL w) false (World.doorLaid Tryd.prog 400 os) #[.agg #[.int .i64 0, .int .i64 0, .slice none 0 0], .int .i64 0] 8 rfl (World.shaped_of_RefB (by kernel_rfl) (by kernel_rfl)) (by kernel_rfl) (by kernel_rfl) (by kernel_rfl) (door_met os _)) ?_
  intro W base args ds gs before hval0 hW _ hsz0 hL _
  have hval : ∀ (j : Nat) t v, Tryd.f6.params[j]? = some t → args[j]? = some v → Value.okWide Tryd.prog W .any base t v := hval0
  have hW' := hW
  obtain ⟨p, q, hA0, hV, rfl, hfz, hnd⟩ := hW
  have hA : DataW.TrodAll enc Tryd.prog W 0 (fun _ => true) true Tryd.f6.params.toList args.toList ds p := hA0
  rw [Tryd.params6] at hA hval
  obtain ⟨v0, vs0, d0, ds0, p0, q0, hargs, rfl, rfl, h0, r0⟩ := trodAll_cons hA
  obtain ⟨v1, vs1, d1, ds1, p1, q1, rfl, rfl, rfl, h1, r1⟩ := trodAll_cons r0
  obtain ⟨rfl, rfl, rfl⟩ := trodAll_nil r1
  obtain rfl : args = #[v0, v1] := by cases args; simp_all
  obtain ⟨rfl, rfl⟩ := trodVars_none hV
  obtain ⟨lev0, bud0, A0, c0, us0, rfl, hB0, hm0, hl0, hb0⟩ := open_modev (hval 0 24 v0 rfl rfl) h0
  obtain ⟨a1, rfl, _, _, w1⟩ := open_int Tryd.underlying3 (hval 1 3 v1 rfl rfl) h1
  simp only [Lit.wf, Bool.and_eq_true, decide_eq_true_eq] at w1
  have hpm := of_laid hL
  refine (permits_walk lev0 bud0 A0 c0 us0 a1 W hpm hB0 hm0 hl0 hb0 w1.1 w1.2).mono fun e W' ⟨he, hb⟩ => ?_
  subst he
  exact ⟨_, rfl, law_post Tryd.laid (by kernel_rfl) rfl rfl Tryd.underlying4 rfl hW' hb⟩
theorem permits_holds : Rows.ModePermitsSaid :=
  OpenClaim.holds_of_wide 6 Tryd.f6 rfl rfl rfl rfl rfl rfl rfl ⟨rfl, rfl, rfl, rfl, rfl⟩ rfl rfl rfl rfl rfl (by kernel_rfl) Tryd.func6 (by kernel_rfl)
    (of_decide_eq_true (by kernel_rfl)) (by unfold Func.isWrapper; first | (rw [if_pos (by decide +kernel)]; kernel_rfl) | (rw [if_neg (by decide +kernel)]; exact ⟨rfl, rfl⟩))
    (fun os started H enc _ => permits_lifted os started H enc)
theorem permits_card : Rows.ModePermitsCardSaid :=
  Claim7.holds_tied_plain_at .later [] [.data] true (true, "ccf4692eb785d681fff224e6627c9955642b593329d036456035bd106bbb8178") false
    permits_holds (fun _ h => by cases h) (by kernel_rfl) (fun _ h => by cases h) modePermits_row_tie rfl ⟨rfl, rfl⟩ (by kernel_rfl) rfl
    (fun f fn hf hfn => by
      obtain rfl : f = 6 := Option.some.inj ((show Tryd.prog.funcNamed "perigee/perigeelaw31.ModePermits" = some 6 by kernel_rfl).symm.trans hf) |>.symm
      obtain rfl : fn = Tryd.f6 := (Option.some.inj (Tryd.func6.symm.trans hfn)).symm
      exact ⟨by kernel_rfl, fun j t ht => by
        rw [Tryd.params6] at ht
        have hm : t ∈ [24, 3] := by simpa using Array.mem_of_getElem? ht
        have hall : ([24, 3].all fun u => !Tryd.prog.wantsStandIn u) = true := by kernel_rfl
        exact (show Tryd.prog.wantsStandIn t = false by simpa using List.all_eq_true.1 hall t hm)⟩)
    (by kernel_rfl)
#print axioms permits_card
end Go.Proofs.YtgfmnolghbiedaaDoor
