/-
  For every battery, gain and list of loads made valid, the law PowerConserves returns true, and its arguments read as before. No condition.
-/
import Derived.Test.YtamfifndddldcaaM8
import Derived.Test.YtamfifndddldcaaR4
namespace Go.Proofs.Ytamfifndddldcaa
open Go.ChangeShapes Go.WideShapes Go.ChangeAt Go.RowKit Go.Deep Go.Shelf

theorem runL_sv (re : Int) : ∀ (l : List Lo) (s : SS), (runL re l s).sv.length ≤ s.sv.length + l.length := by
  intro l
  induction l with
  | nil => intro s; exact Nat.le_refl _
  | cons x l ih =>
    intro s
    rw [runL_cons, List.length_cons]
    have h1 := ih (stepL re s x)
    have h2 : (stepL re s x).sv.length ≤ s.sv.length + 1 := by
      unfold stepL
      generalize (if x.es = true then (0 : Int) else re) = L
      split
      · exact Nat.le_succ _
      · show (s.sv ++ [x.id]).length ≤ _
        simp
    omega
theorem usedF_append (ss : List Int) (l m : List Lo) : usedF ss (l ++ m) = usedF ss l + usedF ss m := by
  induction l with
  | nil => show usedF ss m = 0 + _; omega
  | cons x l ih => show _ + usedF ss (l ++ m) = _ + usedF ss l + _; rw [ih]; omega
theorem usedF_take (ss : List Int) (l : List Lo) (i : Nat) (h : i < l.length) : usedF ss (l.take (i + 1)) = usedF ss (l.take i) + if ss.contains l[i].id then l[i].pw else 0 := by
  rw [List.take_succ_eq_append_getElem h, usedF_append]
  show _ + (_ + 0) = _
  omega
theorem moreF_take (ss : List Int) (l : List Lo) (i : Nat) (h : i < l.length) : moreF ss (l.take (i + 1)) = (moreF ss (l.take i) || (ss.contains l[i].id && !l[i].es)) := by
  unfold moreF
  rw [List.take_succ_eq_append_getElem h, List.any_append]
  simp
theorem brownF_take (ss : List Int) (l : List Lo) (i : Nat) (h : i < l.length) : brownF ss (l.take (i + 1)) = (brownF ss (l.take i) || (l[i].es && !ss.contains l[i].id)) := by
  unfold brownF
  rw [List.take_succ_eq_append_getElem h, List.any_append]
  simp
theorem filt_take (l : List Lo) (i : Nat) (h : i < l.length) : (l.take (i + 1)).filter (·.es) = (l.take i).filter (·.es) ++ if l[i].es then [l[i]] else [] := by
  rw [List.take_succ_eq_append_getElem h, List.filter_append]
  congr 1
  cases he : l[i].es <;> simp [he]
theorem cont_take (ss : List Int) (y : Int) (k : Nat) (h : k < ss.length) : (ss.take (k + 1)).contains y = ((ss.take k).contains y || decide (ss[k] = y)) := by
  rw [List.take_succ_eq_append_getElem h, Bool.eq_iff_iff]
  simp only [List.contains_iff_mem, List.mem_append, List.mem_singleton, Bool.or_eq_true, decide_eq_true_eq]
  constructor
  · rintro (h | h)
    · exact .inl h
    · exact .inr h.symm
  · rintro (h | h)
    · exact .inl h
    · exact .inr h.symm
theorem used_bd (ss : List Int) (l : List Lo) (h : ∀ x ∈ l, 0 ≤ x.pw ∧ x.pw ≤ 1000) : 0 ≤ usedF ss l ∧ usedF ss l ≤ l.length * 1000 := by
  induction l with
  | nil => exact ⟨Int.le_refl _, by simp [usedF]⟩
  | cons x l ih =>
    have h1 := h x List.mem_cons_self
    have h2 := ih fun y hy => h y (List.mem_cons_of_mem _ hy)
    have e : usedF ss (x :: l) = (if ss.contains x.id then x.pw else 0) + usedF ss l := rfl
    rw [e, List.length_cons]
    split <;> omega
theorem ints_take {w : World} {B c : Nat} {A : Option Addr} {l : List Int} (h : Sl w B (.slice A l.length c) l.length (ic l)) (n : Nat) (hn : n ≤ l.length) : Sl w B (.slice A (l.take n).length c) (l.take n).length (ic (l.take n)) := by
  have e : (l.take n).length = n := by rw [List.length_take]; omega
  rcases h.out with ⟨h1, h2, _⟩ | ⟨a, c', e', h'⟩
  · have hl := List.eq_nil_of_length_eq_zero h2
    subst hl
    rw [List.take_nil]
    simpa using h
  · injection e' with e1 e2 e3
    subst e1 e3
    refine ⟨.inr ⟨a, c, rfl, fun j u hj => h' j u ?_⟩⟩
    have e4 : ic l = ic (l.take n) ++ ic (l.drop n) := by rw [← ic_append, List.take_append_drop]
    rw [e4, List.getElem?_append_left (List.getElem?_eq_some_iff.1 hj).1]
    exact hj
set_option maxHeartbeats 64000000 in
set_option maxRecDepth 10000 in
theorem con_walk (C0 ch0 re0 : Int) (g : Int) (A0 : Option Addr) (c0 : Nat) (l : List Lo) (w : World) (_ : I64 C0) (_ : I64 ch0) (_ : I64 re0) (gb1 : 0 ≤ g) (gb2 : g ≤ 65535) (h0 : Loads w (.slice A0 l.length c0) l) (hm : l.length ≤ 9223372036854775807) (_ : l.length ≤ c0) (_ : ∀ x ∈ l, I64 x.id ∧ I64 x.pw ∧ I64 x.pr) :
    Calls Try.prog 5 #[.agg (bcs C0 ch0 re0), .int .u16 g, .slice A0 l.length c0] w fun e w' => e = .returned (.bool true) ∧ From w w' := by
  obtain ⟨W1, hW1⟩ : ∃ V, w.alloc (.cells (bcs C0 ch0 re0) 23) = V := ⟨_, rfl⟩
  have k1 : From w W1 := by rw [← hW1]; exact (From.refl _).alloc _
  have hb1 : BatC W1 w.heap.size C0 ch0 re0 := ⟨by rw [← hW1]; exact heap_alloc_new _ _⟩
  have H := bx (h0.from k1)
  have HK := bx k1
  obtain ⟨a0, a1, a2, _, _, _⟩ := hb1.facts
  clear h0 k1 hb1
  have hL := fun (W : World) => lives_calls W
  have HLV := bx hL
  clear hL
  have hwg : IntKind.i64.wrap g = g := IntWalk.i64_in _ (by omega)
  have hml := madeL_len l
  have hok := madeL_ok l
  have HMC := bx (fun (W : World) (k : From W1 W) => madeL_calls A0 c0 l W (H.out.from k) hm)
  generalize madeL l = m at *
  have HOK := bx hok
  clear hok hm
  go_enter Try.func5, Try.ntmps5
  go_wp2_with fail
  refine (madeB_calls C0 ch0 re0 5000 W1 (by omega)).mono ?_
  rintro e w2 ⟨C, ch, re, rfl, q1, q2, q3, k2⟩
  go_wp2_with fail
  refine (HMC.out w2 k2).mono ?_
  rintro e w3 ⟨A2, c2, rfl, o3, k3⟩
  have HL3 := bx (loads_of_own o3)
  have K3 := bx (k2.trans k3)
  clear k2 k3 o3 HMC a0 a1 a2 H
  obtain ⟨V3, hV3⟩ : ∃ V, w3.alloc (.cells (bcs C ch re) 23) = V := ⟨_, rfl⟩
  have kV : From w3 V3 := by rw [← hV3]; exact (From.refl _).alloc _
  have bV : BatC V3 w3.heap.size C ch re := ⟨by rw [← hV3]; exact heap_alloc_new _ _⟩
  have HBV := bx bV
  have HL := bx (HL3.out.from kV)
  have KV := bx (K3.out.trans kV)
  obtain ⟨a0, a1, a2, _, _, _⟩ := bV.facts
  obtain ⟨s, hs⟩ : ∃ s, stepB C ch re g m = s := ⟨_, rfl⟩
  obtain ⟨u, hu⟩ : ∃ u, stepB C ch re g (m.filter (·.es)) = u := ⟨_, rfl⟩
  obtain ⟨gd, hgd⟩ : ∃ gd, gainB C ch g = gd := ⟨_, rfl⟩
  have hcons := conserve C ch re g m HOK.out.ids (fun x hx => (HOK.out.pw x hx).1) q2 q3.1 gb1 s u hs hu
  rw [hgd] at hcons
  have hgdb : 0 ≤ gd ∧ gd ≤ g := by rw [← hgd]; unfold gainB; omega
  obtain ⟨sc, su, ss, sb⟩ := s
  obtain ⟨uc, uu, us, ub⟩ := u
  have hss : ss.length ≤ 10 := by
    have h1 := runL_sv re (ordL m) ⟨ch + gainB C ch g, 0, [], false⟩
    unfold stepB at hs
    rw [hs, ordL_len] at h1
    simp only [List.length_nil] at h1
    omega
  have hpw2 : ∀ x ∈ m, 0 ≤ x.pw ∧ x.pw ≤ 4000000000 := fun x hx => by have := HOK.out.pw x hx; omega
  have hf1 : ∀ x ∈ m.filter (·.es), 0 ≤ x.pw ∧ x.pw ≤ 4000000000 := fun x hx => hpw2 x (List.mem_filter.1 hx).1
  have hf2 : Ids (m.filter (·.es)) := (List.Sublist.map _ List.filter_sublist).nodup HOK.out.ids
  have hf3 : (m.filter (·.es)).length ≤ 10 := Nat.le_trans (List.length_filter_le _ _) hml
  have HCN := bx hcons
  have HF1 := bx hf1
  have HF2 := bx hf2
  have HU := bx hu
  have HGD := bx hgd
  have HST := bx (show Calls Try.prog 18 #[.agg #[.int .i64 C, .int .i64 ch, .int .i64 re], .int .i64 g, .slice A2 m.length c2] V3 (fun e w' => ∃ A c, e = .returned (.tuple #[.agg #[.int .i64 C, .int .i64 sc, .int .i64 re], .agg #[.int .i64 gd, .int .i64 su, .int .i64 (g - gd), .slice A ss.length c, .bool sb]]) ∧ SlN V3.heap.size w' (.slice A ss.length c) ss.length (ic ss) ∧ From V3 w' ∧ ss.length ≤ c) from stepC_calls C ch re g A2 c2 m V3 HL.out (by omega) HOK.out.ids (by omega) q2 q3 (by omega) hpw2 gd hgd ⟨sc, su, ss, sb⟩ hs)
  have kV4 := From.refl V3
  clear hs hu hgd hcons hf1 hf2 hpw2 kV bV HL3
  go_wp2_with fail
  refine HST.out.mono ?_
  rintro e w4 ⟨A4, c4, rfl, q4, k4, hc4⟩
  obtain ⟨V4, hV4⟩ : ∃ V, (w4.alloc (.cells (bcs C sc re) 23)).alloc (.cells (pcs gd su (g - gd) (.slice A4 ss.length c4) sb) 33) = V := ⟨_, rfl⟩
  have f4 : From w4 V4 := by rw [← hV4]; exact ((From.refl _).alloc _).alloc _
  have b4 : BatC V4 w4.heap.size C sc re := ⟨by rw [← hV4]; exact heap_alloc_0 _ _ _⟩
  have s4 : SupC V4 (w4.heap.size + 1) gd su (g - gd) (.slice A4 ss.length c4) sb := ⟨by rw [← hV4]; exact heap_alloc_1 _ _ _⟩
  have K4 := bx (KV.out.trans (k4.trans f4))
  have HL4 := bx (HL.out.from (k4.trans f4))
  have HB4 := bx (HBV.out.from (k4.trans f4))
  have B4 := bx b4
  have S4 := bx s4
  have Q4 := bx (q4.from f4)
  have kw4 := bx (kV4.trans k4)
  clear k4 q4 f4 b4 s4 a0 a1 a2 HST kV4
  go_wp2_with fail
  have hbd := used_bd ss m (fun x hx => HOK.out.pw x hx)
  have hwz : w3.heap.size < w4.heap.size ∧ w4.heap.size + 1 < V4.heap.size := by
    have h1 := (Array.getElem?_eq_some_iff.1 S4.out.out).1
    have h2 := (Array.getElem?_eq_some_iff.1 HBV.out.out).1
    exact ⟨by have := Below.size kw4.out; omega, h1⟩
  go_loopw [11, 12, 13, 14, 15, 16, 17] (fun v11 v12 v13 v14 v15 _ _ wr => ∃ (i : Nat) (A : Option Addr) (cc : Nat), i ≤ m.length ∧ v15 = .int .i64 i ∧ v12 = .int .i64 (usedF ss (m.take i)) ∧ v13 = .bool (moreF ss (m.take i)) ∧ v14 = .bool (brownF ss (m.take i)) ∧
    v11 = .slice A ((m.take i).filter (·.es)).length cc ∧ wr.ownsRow V4.heap.size 41 4 (.slice A ((m.take i).filter (·.es)).length cc) ((m.take i).filter (·.es)).length (((m.take i).filter (·.es)).flatMap lcs) ∧ From V4 wr) (fun _ _ _ _ v15 _ _ _ => m.length - (intOf v15).toNat)
  case atStart => exact ⟨0, none, 0, by omega, rfl, rfl, rfl, rfl, rfl, own_nil _ _ _ _, From.refl _⟩
  case round =>
    obtain ⟨i, A, cc, hi, rfl, rfl, rfl, rfl, rfl, hown, hf⟩ := hrel
    by_cases hlt : i < m.length
    case neg =>
      obtain rfl : i = m.length := by omega
      rw [List.take_length] at hown
      rw [List.take_length]
      have d1 : decide (((m.length : Nat) : Int) < (m.length : Int)) = false := decide_eq_false (by omega)
      have hcn := HCN.out
      have hu1 := hcn.used
      have hu2 := hcn.brown
      have hu3 := hcn.more
      have hu4 := hcn.eq
      have hu5 := hcn.nn
      have hu6 := hcn.le
      have hu7 := hcn.len
      have hu8 := hcn.pre
      have hu9 := hcn.br
      simp only at hu1 hu2 hu3 hu4 hu5 hu6 hu7 hu8 hu9
      rw [hu1, hu2]
      obtain ⟨mo, hmo⟩ : ∃ b, moreF ss m = b := ⟨_, rfl⟩
      rw [hmo] at hu3 ⊢
      subst hu9
      obtain ⟨f, hf0⟩ : ∃ f, m.filter (·.es) = f := ⟨_, rfl⟩
      have hU := HU.out
      have hF1 := HF1.out
      have hF2 := HF2.out
      rw [hf0] at hown hf3 hU hF1 hF2 ⊢
      have hLf := loads_of_own hown
      have HST := bx (show Calls Try.prog 18 #[.agg #[.int .i64 C, .int .i64 ch, .int .i64 re], .int .i64 g, .slice A f.length cc] wr (fun e w' => ∃ A c, e = .returned (.tuple #[.agg #[.int .i64 C, .int .i64 uc, .int .i64 re], .agg #[.int .i64 gd, .int .i64 uu, .int .i64 (g - gd), .slice A us.length c, .bool ub]]) ∧ SlN wr.heap.size w' (.slice A us.length c) us.length (ic us) ∧ From wr w') from step_calls C ch re g A cc f wr hLf (by omega) hF2 (by omega) q2 q3 (by omega) hF1 gd HGD.out ⟨uc, uu, us, ub⟩ hU)
      obtain ⟨a0, a1, a2, _, _, _⟩ := (HB4.out.from hf).facts
      have HFR := bx hf
      have HPRE := bx hu8
      clear hown hU hF1 hF2 hLf hf0 hcn hu1 hu2 hu8 hmo hf
      go_wp2_with fail
      refine HST.out.mono ?_
      rintro e w5 ⟨A5, c5, rfl, q5, k5⟩
      obtain ⟨V5, hV5⟩ : ∃ V, (w5.alloc (.cells (bcs C uc re) 23)).alloc (.cells (pcs gd uu (g - gd) (.slice A5 us.length c5) ub) 33) = V := ⟨_, rfl⟩
      have f5 : From w5 V5 := by rw [← hV5]; exact ((From.refl _).alloc _).alloc _
      have s5 : SupC V5 (w5.heap.size + 1) gd uu (g - gd) (.slice A5 us.length c5) ub := ⟨by rw [← hV5]; exact heap_alloc_1 _ _ _⟩
      have k45 : From V4 V5 := HFR.out.trans (k5.trans f5)
      obtain ⟨b0, b1, b2, _, _, _⟩ := (HB4.out.from k45).facts
      obtain ⟨r0, r1, r2, _, _, _⟩ := (B4.out.from k45).facts
      obtain ⟨s0, s1, s2, s3, s4, _, _, _, _, _⟩ := (S4.out.from k45).facts
      obtain ⟨u0, u1, u2, u3, u4, _, _, _, _, _⟩ := s5.facts
      have hq45 := Q4.out.from k45
      have hq55 := q5.from f5
      have hsm := fun (W : World) (kk : From V5 W) => same_int_calls A5 c5 A4 c4 us (ss.take us.length) W (hq55.sl.from kk) (ints_take (hq45.sl.from kk) us.length hu7) (by omega) (by rw [List.length_take]; omega) true (by rw [HPRE.out]; simp)
      rw [show (ss.take us.length).length = us.length by rw [List.length_take]; omega] at hsm
      have HSM := bx hsm
      have HKK := bx (fun (W : World) (kk : From V5 W) => (show From V5 W ∧ W.cell? ⟨w5.heap.size + 1, 3, none⟩ = some (.slice A5 us.length c5) ∧ W.cell? ⟨w4.heap.size + 1, 3, none⟩ = some (.slice A4 ss.length c4) ∧ W.cell? ⟨w5.heap.size + 1, 4, none⟩ = some (.bool ub) from ⟨kk, kk.cell u3, kk.cell s3, kk.cell u4⟩))
      have hFF : From V5 V5 := From.refl _
      have K45 := bx k45
      have hl1 : ¬ ((ss.length : Int) < (us.length : Int)) := by omega
      have hl2 : decide ((ss.length : Int) < (us.length : Int)) = false := decide_eq_false (by omega)
      have hl6 : decide (ss.length < us.length) = false := decide_eq_false (by omega)
      have hl3 : (us.length : Int) ≤ (c4 : Int) := by omega
      have hl4 : (0 : Int) ≤ (us.length : Int) := by omega
      have hl5 : us.length ≤ c4 := by omega
      clear a0 a1 a2 q5 k5 f5 s5 k45 hq45 hq55 hsm HST b0 b1 b2 r0 r1 r2 s0 s1 s2 s3 s4 u0 u1 u2 u3 u4
      go_wp2_with fail
      clear hV5
      go_region_held3 (fun W => From V5 W ∧ W.cell? ⟨w5.heap.size + 1, 3, none⟩ = some (.slice A5 us.length c5) ∧ W.cell? ⟨w4.heap.size + 1, 3, none⟩ = some (.slice A4 ss.length c4) ∧ W.cell? ⟨w5.heap.size + 1, 4, none⟩ = some (.bool ub))
        (first | (go_split_ands; with_reducible refine HKK.out _ ?_; repeat' (first | with_reducible assumption | with_reducible refine From.drew ?_)))
        (first | (go_at_call 22; (with_reducible refine (HSM.out _ (show From V5 _ by go_split_ands; assumption)).mono ?_); rintro e w6 ⟨rfl, k6⟩; have hkeep := From.trans (show From V5 _ by go_split_ands; assumption) k6))
      have hk6 : From V5 w6 := by first | exact hkeep | exact hkeep.drew
      have k46 : From V4 w6 := K45.out.trans hk6
      obtain ⟨b0, b1, b2, _, _, _⟩ := (HB4.out.from k46).facts
      obtain ⟨r0, r1, r2, _, _, _⟩ := (B4.out.from k46).facts
      obtain ⟨s0, s1, s2, s3, s4, _, _, _, _, _⟩ := (S4.out.from k46).facts
      have K6 := bx (K4.out.trans k46)
      clear hk6 k46 hkeep k6 HKK hFF HSM hl1 hl2 hl3 hl4 hl5 hl6
      subst hu4
      obtain ⟨g1, g2⟩ := hgdb
      have hgg : gd + (g - gd) = g := by omega
      have e1 : decide (0 ≤ gd) = true := decide_eq_true g1
      have e2 : decide (0 ≤ g - gd) = true := decide_eq_true (by omega)
      have e3 : decide (0 ≤ ch + gd - su) = true := decide_eq_true hu5
      have e4 : decide (ch + gd - su ≤ C) = true := decide_eq_true hu6
      cases mo
      all_goals
        first | (have e5 : decide (re ≤ ch + gd - su) = true := decide_eq_true (hu3 rfl)) | skip
        go_wp2_with fail
        refine (HLV.out _).mono ?_
        rintro e w7 ⟨rfl, f7⟩
        go_wp2
        go_ret
        exact ⟨rfl, HK.out.trans (K6.out.trans f7)⟩
    have d1 : decide ((i : Int) < (m.length : Int)) = true := decide_eq_true (by omega)
    have t1 := usedF_take ss m i hlt
    have t2 := moreF_take ss m i hlt
    have t3 := brownF_take ss m i hlt
    have t4 := filt_take m i hlt
    have hub := used_bd ss (m.take i) (fun x hx => HOK.out.pw x (List.mem_of_mem_take hx))
    have hpy := HOK.out.pw m[i] (List.getElem_mem hlt)
    have hfl : ((m.take i).filter (·.es)).length ≤ 10 := Nat.le_trans (List.length_filter_le _ _) (by rw [List.length_take]; omega)
    rw [List.length_take, Nat.min_eq_left (by omega)] at hub
    obtain ⟨Y, hY⟩ : ∃ Y, m[i] = Y := ⟨_, rfl⟩
    rw [hY] at t1 t2 t3 t4 hpy
    obtain ⟨F, hF⟩ : ∃ F, (m.take i).filter (·.es) = F := ⟨_, rfl⟩
    rw [hF] at t4 hown hfl ⊢
    obtain ⟨us0, hus0⟩ : ∃ z, usedF ss (m.take i) = z := ⟨_, rfl⟩
    obtain ⟨mo0, hmo0⟩ : ∃ z, moreF ss (m.take i) = z := ⟨_, rfl⟩
    obtain ⟨br0, hbr0⟩ : ∃ z, brownF ss (m.take i) = z := ⟨_, rfl⟩
    rw [hus0] at t1 hub ⊢
    rw [hmo0] at t2 ⊢
    rw [hbr0] at t3 ⊢
    have T1 := bx t1
    have T2 := bx t2
    have T3 := bx t3
    have T4 := bx t4
    have HO := bx hown
    have HF := bx hf
    have HYY := bx hY
    have hs3 := (S4.out.from hf).facts.2.2.2.1
    clear t1 t2 t3 t4 hown hus0 hmo0 hbr0 hF hY
    go_wp2_with fail
    obtain ⟨y0, y1, y2, y3⟩ := Y
    simp only at hpy
    go_loopw [16, 17] (fun v16 v17 wr1 => ∃ k : Nat, k ≤ ss.length ∧ v17 = .int .i64 k ∧ v16 = .bool ((ss.take k).contains y0) ∧ From wr wr1) (fun _ v17 _ => ss.length - (intOf v17).toNat)
    case atStart => exact ⟨0, by omega, rfl, by simp, From.refl _⟩
    case round =>
      clear hs3
      obtain ⟨k, hk, rfl, rfl, hq⟩ := hrel
      by_cases hks : k < ss.length
      · have d2 : decide ((k : Int) < (ss.length : Int)) = true := decide_eq_true (by omega)
        have hs3 := (S4.out.from (HF.out.trans hq)).facts.2.2.2.1
        obtain ⟨b5, o5, rfl, _, i5⟩ := ints_at (Q4.out.sl.from (HF.out.trans hq)) hks
        obtain ⟨b6, o6, rfl, _, j0, j1, j2, j3⟩ := loads_at (HL4.out.from (HF.out.trans hq)) hlt
        rw [HYY.out] at j0 j1 j2 j3
        have he := cont_take ss y0 k hks
        obtain ⟨z, hz⟩ : ∃ z, ss[k] = z := ⟨_, rfl⟩
        rw [hz] at i5 he
        obtain ⟨kn, hkn⟩ : ∃ kn, (ss.take k).contains y0 = kn := ⟨_, rfl⟩
        rw [hkn] at he ⊢
        simp only at j0 j1 j2 j3
        have HE := bx he
        have HQ := bx hq
        clear he hz hkn hq
        cases kn with
        | true =>
          go_wp2_with fail
          go_quiet (fail)
          go_wp2
          go_roundw
          case rel => exact ⟨k + 1, by omega, by go_num, by rw [HE.out]; rfl, HQ.out.drewN _⟩
          case measure => simp [intOf]; omega
        | false =>
          by_cases hzy : z = y0
          · subst hzy
            go_wp2_with fail
            go_quiet (fail)
            go_wp2
            go_roundw
            case rel => exact ⟨k + 1, by omega, by go_num, by rw [HE.out]; simp, HQ.out.drewN _⟩
            case measure => simp [intOf]; omega
          · have d5 : (z == y0) = false := by simpa using hzy
            go_wp2_with fail
            go_quiet (fail)
            go_wp2
            go_roundw
            case rel => exact ⟨k + 1, by omega, by go_num, by rw [HE.out]; simp [hzy], HQ.out.drewN _⟩
            case measure => simp [intOf]; omega
      · obtain rfl : k = ss.length := by omega
        have d2 : decide (((ss.length : Nat) : Int) < (ss.length : Int)) = false := decide_eq_false (by omega)
        rw [List.take_length]
        have hs3 := (S4.out.from (HF.out.trans hq)).facts.2.2.2.1
        obtain ⟨b6, o6, rfl, _, j0, j1, j2, j3⟩ := loads_at (HL4.out.from (HF.out.trans hq)) hlt
        rw [HYY.out] at j0 j1 j2 j3
        simp only at j0 j1 j2 j3
        obtain ⟨sv, hsv⟩ : ∃ b, ss.contains y0 = b := ⟨_, rfl⟩
        have t1 := T1.out
        have t2 := T2.out
        have t3 := T3.out
        have t4 := T4.out
        simp only at t1 t2 t3 t4
        rw [hsv] at t1 t2 t3 ⊢
        have HQ := bx hq
        have HOQ := bx (own_call HO.out hq)
        have hzq := bx (show V4.heap.size ≤ _ from Below.size (HF.out.trans hq))
        clear T1 T2 T3 T4 hsv hq HO
        cases y3 with
        | true =>
          simp only [if_true, Bool.true_and, Bool.not_true, Bool.and_false, Bool.or_false] at t2 t3 t4
          cases br0 <;> cases sv
          all_goals
            simp at t1 t2 t3
            have T := bx (And.intro t1 (And.intro t2 (And.intro t3 t4)))
            clear t1 t2 t3 t4
            cases mo0
            all_goals
              go_wp2_with (at_builtin; refine app_sl rfl _ _ 24 rfl Try.elLo rfl (HOQ.out.alloc _) 1 (lcs ⟨y0, y1, y2, true⟩) rfl (sl_new _ (lcs ⟨y0, y1, y2, true⟩) 41 1 1) rfl (lcs_one _) (by omega) (by unfold maxLen; omega) (by have := hzq.out; simp; omega) ?_; intro A7 c7 w7 o7 g7 _; have kw7 := From.app ((HF.out.trans HQ.out).alloc _) (HOQ.out.alloc _) (Nat.le_refl _) g7; obtain ⟨b7, p7, e7, _, r0, r1, r2, r3⟩ := loads_at (HL4.out.from kw7) hlt; simp only [Option.some.injEq, Addr.mk.injEq, and_true] at e7; obtain ⟨rfl, rfl⟩ := e7; rw [HYY.out] at r0 r1 r2 r3; simp only at r0 r1 r2 r3)
              go_roundw
              case rel =>
                refine ⟨i + 1, A7, c7, by omega, by go_num, by rw [T.out.1], by rw [T.out.2.1], by rw [T.out.2.2.1], by rw [T.out.2.2.2, List.length_append]; rfl, ?_, ?_⟩
                · rw [T.out.2.2.2]
                  simpa [List.length_append, List.flatMap_append] using o7
                · exact kw7
              case measure => simp [intOf]; omega
        | false =>
          simp only [Bool.false_eq_true, if_false, List.append_nil, Bool.false_and, Bool.or_false, Bool.not_false, Bool.and_true] at t2 t3 t4
          cases mo0 <;> cases sv
          all_goals
            simp at t1 t2 t3
            have T := bx (And.intro t1 (And.intro t2 (And.intro t3 t4)))
            clear t1 t2 t3 t4
            go_wp2
            go_roundw
            case rel => exact ⟨i + 1, A, cc, by omega, by go_num, by rw [T.out.1], by rw [T.out.2.1], by rw [T.out.2.2.1], by rw [T.out.2.2.2], by rw [T.out.2.2.2]; exact HOQ.out, HF.out.trans HQ.out⟩
            case measure => simp [intOf]; omega
set_option maxRecDepth 100000 in
theorem con_lifted (os : Os) (started : os.Started) (H : Type) (enc : TypeId × Value → H) :
    ReturnsInHanded {} Try.checked os 5 .any (Rows.powerConservesSpec.pre6 enc Try.prog Try.f5 Rows.powerConservesRow.domain false) (Rows.powerConservesSpec.post enc Try.prog Try.f5 false true false false) := by
  refine returnsInHanded_of_change (C := Try.checked) own started (by kernel_rfl) Try.func5
    (ChangeSpec.witness6 (enc := enc) (C := Try.checked) false ⟨#[], #[.agg #[.int .i64 0, .int .i64 0, .int .i64 0], .int .u16 0, .slice none 0 0], []⟩ 8 (by kernel_rfl) (by kernel_rfl) (by kernel_rfl) (by kernel_rfl)) ?_
  intro W base args ds gs before hval0 hW hcnd _
  have hval : ∀ (j : Nat) t v, Try.f5.params[j]? = some t → args[j]? = some v → Value.okWide Try.prog W .any base t v := hval0
  have hW' := hW
  obtain ⟨p, q, hA0, hV, rfl, hfz, hnd⟩ := hW
  have hA : DataW.TrodAll enc Try.prog W 0 (fun _ => true) true Try.f5.params.toList args.toList ds p := hA0
  rw [Try.params5] at hA hval
  obtain ⟨v0, vs0, d0, ds0, p0, q0, hargs, rfl, rfl, h0, r0⟩ := trodAll_cons hA
  obtain ⟨v1, vs1, d1, ds1, p1, q1, rfl, rfl, rfl, h1, r1⟩ := trodAll_cons r0
  obtain ⟨v2, vs2, d2, ds2, p2, q2, rfl, rfl, rfl, h2, r2⟩ := trodAll_cons r1
  obtain ⟨rfl, rfl, rfl⟩ := trodAll_nil r2
  obtain rfl : args = #[v0, v1, v2] := by cases args; simp_all
  obtain ⟨rfl, rfl⟩ := trodVars_none hV
  obtain ⟨C0, ch0, re0, rfl, hC0, hch0, hre0⟩ := open_bat (hval 0 23 v0 rfl rfl) h0
  obtain ⟨a1, rfl, _, _, w1⟩ := open_int Try.underlying38 (hval 1 38 v1 rfl rfl) h1
  simp only [Lit.wf, Bool.and_eq_true, decide_eq_true_eq] at w1
  obtain ⟨A2, c2, l2, rfl, hB2, hm2, hcap2, hx2⟩ := open_loads (hval 2 24 v2 rfl rfl) h2
  refine (con_walk C0 ch0 re0 a1 A2 c2 l2 W hC0 hch0 hre0 w1.1 w1.2 hB2 hm2 hcap2 hx2).mono fun e W' ⟨he, hb⟩ => ?_
  subst he
  exact ⟨_, rfl, law_post Try.laid (by kernel_rfl) rfl rfl Try.underlying4 rfl hW' hb⟩
theorem con_facts : joinedFacts Try.prog 5 Try.f5 Rows.powerConservesSpec Rows.powerConservesRow = true := by
  unfold joinedFacts
  rw [fact_enter, fact_lift, fact_make, fact_keys, fact_heard, fact_maps, Try.laid]
  kernel_rfl
theorem con_holds : Rows.PowerConservesSaid :=
  OpenClaim.holds_of_wide 5 Try.f5 rfl rfl rfl rfl rfl rfl rfl ⟨rfl, rfl, rfl, rfl, rfl⟩ rfl rfl rfl rfl rfl (by kernel_rfl) Try.func5 con_facts
    (of_decide_eq_true (by kernel_rfl)) (by unfold Func.isWrapper; first | (rw [if_pos (by decide +kernel)]; kernel_rfl) | (rw [if_neg (by decide +kernel)]; exact ⟨rfl, rfl⟩))
    (fun os started H enc _ => con_lifted os started H enc)
#print axioms con_holds
end Go.Proofs.Ytamfifndddldcaa
