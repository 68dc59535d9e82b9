/-
  For all modes and lists of loads, the law ModeLoads returns true, and its arguments read as before; the package's table 'permitted' reads as the program's text lays it. No further condition.
-/
import Derived.Test.YtgfmnolghbiedaaDoorQ2
import Derived.Test.YtgfmnolghbiedaaDoorP16
namespace Go.Proofs.YtgfmnolghbiedaaDoor
open Go.ChangeShapes Go.WideShapes Go.ChangeAt Go.RowKit Go.Deep Go.Joins

theorem Tryd.cellsLoad : Tryd.prog.cellsOf 75 = 4 := by kernel_rfl
theorem open_loadsv {H : Type} {enc : TypeId × Value → H} {W : World} {base : Nat} {v : Value} {d : DataW H} {p : List MemPlace}
    (hv : Value.okWide Tryd.prog W .any base 50 v) (h : DataW.Trod enc Tryd.prog W 0 (fun _ => true) true 50 v d p) (hwt : ∀ n ∈ d.weights Tryd.prog 50, n ≤ reachBytes) :
    ∃ A c l, v = .slice A (l : LL).length c ∧ LS W W.heap.size (.slice A l.length c) l ∧ l.length ≤ 4398046511104 := by
  obtain ⟨a0, len, cap, rfl⟩ := okWide_slice Tryd.underlying50 hv
  have hlen : len ≤ 4398046511104 := by
    obtain ⟨fuel, hf⟩ := h
    rcases open_slice Tryd.underlying50 hf with ⟨hcs, _⟩ | ⟨a, len', cap', m, k, D, Pl, hcs, _, _, _, _, hy, _⟩
    · simp only [Value.cells, List.cons.injEq, Value.slice.injEq, and_true] at hcs
      omega
    · simp only [Value.cells, List.cons.injEq, Value.slice.injEq, and_true] at hcs
      obtain ⟨_, rfl, _⟩ := hcs
      have hb : Tryd.prog.bytesOf 75 = 32 := by kernel_rfl
      have hm : (len + (m - len)) * 32 ∈ d.weights Tryd.prog 50 := by
        have hd : d = .slice ((List.range len).map D) ((List.range (m - len)).map fun j => D (len + j)) := by
          have := congrArg Prod.fst hy; simpa using this
        rw [hd, DataW.weights, Tryd.underlying50]
        simp [hb]
      have := hwt _ hm
      unfold reachBytes at this
      omega
  rcases open_structs Tryd.underlying50 Tryd.underlying75 (by kernel_rfl) Tryd.cellsLoad h with ⟨rfl, rfl, rfl⟩ | ⟨a, rfl, hm, hall⟩
  · exact ⟨none, 0, [], rfl, ⟨none, 0, rfl, fun k hk => absurd hk (by simp)⟩, by simp⟩
  · have hcell : ∀ i, i < len → ∃ x : LD, W.cell? (a.add (i * 4)) = some (.int .i64 x.1) ∧ W.cell? (a.add (i * 4 + 1)) = some (.int .i64 x.2.1) ∧ W.cell? (a.add (i * 4 + 2)) = some (.int .i64 x.2.2.1) ∧ W.cell? (a.add (i * 4 + 3)) = some (.bool x.2.2.2) := by
      intro i hil
      obtain ⟨v0, y0, m0, c0, t0⟩ := hall i hil 0 _ rfl
      obtain ⟨v1, y1, m1, c1, t1⟩ := hall i hil 1 _ rfl
      obtain ⟨v2, y2, m2, c2, t2⟩ := hall i hil 2 _ rfl
      obtain ⟨v3, y3, m3, c3, t3⟩ := hall i hil 3 _ rfl
      obtain ⟨n0, e0, _, _⟩ := DataW.trod_int Tryd.underlying3 t0
      obtain ⟨n1, e1, _, _⟩ := DataW.trod_int Tryd.underlying3 t1
      obtain ⟨n2, e2, _, _⟩ := DataW.trod_int Tryd.underlying3 t2
      obtain ⟨n3, e3, _⟩ := DataW.trod_bool Tryd.underlying4 t3
      simp only [List.cons.injEq, and_true] at e0 e1 e2 e3
      subst e0 e1 e2 e3
      exact ⟨(n0, n1, n2, n3), c0, c1, c2, c3⟩
    obtain ⟨f, hfn⟩ := choose_lt hcell
    refine ⟨some a, cap, (List.range len).map f, by simp, ⟨some a, cap, rfl, fun k hk => ?_⟩, by simpa using hlen⟩
    simp only [List.length_map, List.length_range] at hk
    obtain ⟨c0, c1, c2, c3⟩ := hfn k hk
    obtain ⟨c00, _⟩ := hfn 0 (by omega)
    obtain ⟨b, off, rfl⟩ := addr_form (show W.cell? a = _ by rw [← c00]; rfl)
    have e : ∀ n, (⟨b, off, none⟩ : Addr).add n = ⟨b, off + n, none⟩ := fun n => Addr.add_mid b off n
    rw [e] at c0 c1 c2 c3
    refine ⟨b, off, rfl, World.block_lt_of_cell? W _ c0, ?_, ?_, ?_, ?_⟩
    · simpa using c0
    · simpa [Nat.add_assoc] using c1
    · simpa [Nat.add_assoc] using c2
    · simpa [Nat.add_assoc] using c3
theorem loads_twice (lev : Int) (l : LL) : loadsM 2 (loadsM lev l) = loadsM 2 l := by
  unfold loadsM
  rw [List.filter_filter]
  congr 1
  funext x
  unfold on
  cases x.2.2.2 <;> simp
set_option maxRecDepth 100000 in
set_option maxHeartbeats 4000000 in
theorem loadsL_walk (lev bud : Int) (A : Option Addr) (c : Nat) (us : UL) (AL : Option Addr) (cL : Nat) (l : LL) (w : World) (hpm : PM w)
    (h : US w w.heap.size (.slice A us.length c) us) (hm : us.length ≤ 8796093022208) (_ : -9223372036854775808 ≤ lev ∧ lev ≤ 9223372036854775807) (_ : -9223372036854775808 ≤ bud ∧ bud ≤ 9223372036854775807)
    (hL : LS w w.heap.size (.slice AL l.length cL) l) (hl : l.length ≤ 4398046511104) :
    Calls Tryd.prog 8 #[.agg #[.int .i64 lev, .int .i64 bud, .slice A us.length c], .slice AL l.length cL] w fun e w' => e = .returned (.bool true) ∧ Below w.heap.size w w' := by
  obtain ⟨W0, hW0⟩ : ∃ W0, w.alloc (.cells #[.int .i64 lev, .int .i64 bud, .slice A us.length c] 24) = W0 := ⟨_, rfl⟩
  have hF0 : From w W0 := by rw [← hW0]; exact From.alloc (Below.refl _ _) _
  have HM := bx (show MCell W0 w.heap.size lev bud A us.length c by rw [← hW0]; exact mcell_new w lev bud A us.length c)
  have HU := bx (h.from hF0)
  have HL := bx (hL.from hF0)
  have HP := bx (hpm.from hF0)
  have hr1 := loadsM_le lev l
  have hr2 := loadsM_le 2 l
  obtain ⟨r1, hr1'⟩ : ∃ r1, loadsM lev l = r1 := ⟨_, rfl⟩
  obtain ⟨r2, hr2'⟩ : ∃ r2, loadsM 2 l = r2 := ⟨_, rfl⟩
  have H1 := bx hr1'
  have H2 := bx hr2'
  have H3 := bx (show loadsM 2 r1 = r2 by rw [← hr1', loads_twice, hr2'])
  rw [hr1'] at hr1
  rw [hr2'] at hr2
  clear hr1' hr2' h hL hpm
  obtain ⟨m0, m1, m2⟩ := HM.out.facts
  go_enter Tryd.func8, Tryd.ntmps8
  go_wp2_with fail
  refine (loads_calls lev bud A us.length c AL cL l W0 HL.out hl r1 H1.out).mono ?_
  rintro e w1 ⟨A1, c1, rfl, o1, k1⟩
  have HO1 := bx (ls_of_own o1)
  clear m0 m1 m2
  obtain ⟨m0, m1, m2⟩ := (HM.out.from k1).facts
  go_wp2_with fail
  refine (refLoads_calls lev bud A us.length c AL cL l w1 (HL.out.from k1) hl r1 H1.out).mono ?_
  rintro e w2 ⟨A2, c2, rfl, o2, k2⟩
  go_wp2_with fail
  refine (sameLoads_calls A1 c1 A2 c2 r1 w2 (HO1.out.from k2) (ls_of_own o2) (by omega)).mono ?_
  rintro e w3 ⟨rfl, k3⟩
  have k03 := From.trans k1 (From.trans k2 k3)
  have HO3 := bx ((HO1.out.from k2).from k3)
  clear m0 m1 m2
  obtain ⟨m0, m1, m2⟩ := (HM.out.from k03).facts
  go_wp2_with fail
  refine (safe_calls lev bud (.slice A us.length c) us w3 (HU.out.from k03) hm).mono ?_
  rintro e w4 ⟨A4, c4, rfl, _, k4⟩
  go_wp2_with fail
  refine (loads_calls 2 bud A4 us.length c4 AL cL l w4 ((HL.out.from k03).from k4) hl r2 H2.out).mono ?_
  rintro e w5 ⟨A5, c5, rfl, o5, k5⟩
  have k35 := From.trans k4 k5
  have k05 := From.trans k03 k35
  have HO5 := bx (ls_of_own o5)
  clear m0 m1 m2
  obtain ⟨m0, m1, m2⟩ := (HM.out.from k05).facts
  go_wp2_with fail
  refine (safe_calls lev bud (.slice A us.length c) us w5 (HU.out.from k05) hm).mono ?_
  rintro e w6 ⟨A6, c6, rfl, _, k6⟩
  go_wp2_with fail
  refine (loads_calls 2 bud A6 us.length c6 A1 c1 r1 w6 ((HO3.out.from k35).from k6) (by omega) r2 H3.out).mono ?_
  rintro e w7 ⟨A7, c7, rfl, o7, k7⟩
  go_wp2_with fail
  refine (sameLoads_calls A7 c7 A5 c5 r2 w7 (ls_of_own o7) ((HO5.out.from k6).from k7) (by omega)).mono ?_
  rintro e w8 ⟨rfl, k8⟩
  have k08 := From.trans k05 (From.trans k6 (From.trans k7 k8))
  go_wp2_with fail
  refine (livesM_calls w8 (HP.out.from k08)).mono ?_
  rintro e w9 ⟨rfl, k9⟩
  go_wp2
  go_ret
  exact ⟨rfl, hF0.trans (From.trans k08 k9)⟩
set_option maxRecDepth 100000 in
theorem loadsL_lifted (os : Os) (started : os.Started) (H : Type) (enc : TypeId × Value → H) :
    ReturnsInHanded {} Tryd.checked os 8 .any (fun w args => (Rows.modeLoadsSpec.pre enc Tryd.prog Tryd.f8 [] false w args ∧ laidMetH Tryd.prog laidL w) ∧ sizedMet enc Tryd.prog Tryd.f8 (OpenSpec.ofChange Rows.modeLoadsSpec) false w args)
      (Rows.modeLoadsSpec.post enc Tryd.prog Tryd.f8 false true false false) := by
  refine returnsInHanded_of_change_and (C := Tryd.checked) (X := fun w _ => laidMetH Tryd.prog laidL w) (fun _ _ _ hh h => h.of_heap hh) own started (by kernel_rfl) Tryd.func8
    (ChangeSpec.witness_shaped (enc := enc) (C := Tryd.checked) (os := os) (X := fun w _ => laidMetH Tryd.prog laidL w) false (World.doorLaid Tryd.prog 400 os) #[.agg #[.int .i64 0, .int .i64 0, .slice none 0 0], .slice none 0 0] 8 rfl (World.shaped_of_RefB (by kernel_rfl) (by kernel_rfl)) (by kernel_rfl) (by kernel_rfl) (by kernel_rfl) (door_met os _)) ?_
  intro W base args ds gs before hval0 hW _ hsz0 hL _
  have hval : ∀ (j : Nat) t v, Tryd.f8.params[j]? = some t → args[j]? = some v → Value.okWide Tryd.prog W .any base t v := hval0
  have hW' := hW
  obtain ⟨p, q, hA0, hV, rfl, hfz, hnd⟩ := hW
  have hA : DataW.TrodAll enc Tryd.prog W 0 (fun _ => true) true Tryd.f8.params.toList args.toList ds p := hA0
  have hsz : (DataW.weightsEach Tryd.prog (Tryd.f8.params.toList ++ Rows.modeLoadsSpec.plain.varTypes Tryd.prog) (ds ++ gs)).all (· ≤ reachBytes) = true := hsz0
  rw [Tryd.params8] at hA hval hsz
  obtain ⟨v0, vs0, d0, ds0, p0, q0, hargs, rfl, rfl, h0, r0⟩ := trodAll_cons hA
  obtain ⟨v1, vs1, d1, ds1, p1, q1, rfl, rfl, rfl, h1, r1⟩ := trodAll_cons r0
  obtain ⟨rfl, rfl, rfl⟩ := trodAll_nil r1
  obtain rfl : args = #[v0, v1] := by cases args; simp_all
  obtain ⟨rfl, rfl⟩ := trodVars_none hV
  obtain ⟨lev0, bud0, A0, c0, us0, rfl, hB0, hm0, hl0, hb0⟩ := open_modew (hval 0 24 v0 rfl rfl) h0 (sized_mem hsz (j := 0) rfl rfl)
  obtain ⟨A1, c1, l1, rfl, hB1, hm1⟩ := open_loadsv (hval 1 50 v1 rfl rfl) h1 (sized_mem hsz (j := 1) rfl rfl)
  have hpm := of_laid hL
  refine (loadsL_walk lev0 bud0 A0 c0 us0 A1 c1 l1 W hpm hB0 hm0 hl0 hb0 hB1 hm1).mono fun e W' ⟨he, hb⟩ => ?_
  subst he
  exact ⟨_, rfl, law_post Tryd.laid (by kernel_rfl) rfl rfl Tryd.underlying4 rfl hW' hb⟩
theorem loadsL_holds : Rows.ModeLoadsSaid :=
  OpenClaim.holds_of_wide 8 Tryd.f8 rfl rfl rfl rfl rfl rfl rfl ⟨rfl, rfl, rfl, rfl, rfl⟩ rfl rfl rfl rfl rfl (by kernel_rfl) Tryd.func8 (by kernel_rfl)
    (of_decide_eq_true (by kernel_rfl)) (by unfold Func.isWrapper; first | (rw [if_pos (by decide +kernel)]; kernel_rfl) | (rw [if_neg (by decide +kernel)]; exact ⟨rfl, rfl⟩))
    (fun os started H enc _ => loadsL_lifted os started H enc)
theorem loadsL_card : Rows.ModeLoadsCardSaid :=
  Claim7.holds_tied_plain_at .later [] [.data] true (true, "ccf4692eb785d681fff224e6627c9955642b593329d036456035bd106bbb8178") false
    loadsL_holds (fun _ h => by cases h) (by kernel_rfl) (fun _ h => by cases h) modeLoads_row_tie rfl ⟨rfl, rfl⟩ (by kernel_rfl) rfl
    (fun f fn hf hfn => by
      obtain rfl : f = 8 := Option.some.inj ((show Tryd.prog.funcNamed "perigee/perigeelaw31.ModeLoads" = some 8 by kernel_rfl).symm.trans hf) |>.symm
      obtain rfl : fn = Tryd.f8 := (Option.some.inj (Tryd.func8.symm.trans hfn)).symm
      exact ⟨by kernel_rfl, fun j t ht => by
        rw [Tryd.params8] at ht
        have hm : t ∈ [24, 50] := by first | simpa using Array.mem_of_getElem? ht | (have hm0 := Array.mem_of_getElem? ht; simp at hm0 ⊢; rcases hm0 with h | h | h | h | h <;> simp [h])
        have hall : ([24, 50].all fun u => !Tryd.prog.wantsStandIn u) = true := by kernel_rfl
        exact (show Tryd.prog.wantsStandIn t = false by simpa using List.all_eq_true.1 hall t hm)⟩)
    (by kernel_rfl)
#print axioms loadsL_card
end Go.Proofs.YtgfmnolghbiedaaDoor
