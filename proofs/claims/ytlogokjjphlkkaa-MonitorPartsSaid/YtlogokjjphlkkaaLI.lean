/-
  For all lists of up to 8 monitors made from numbers, all divisions and values, the law MonitorParts returns true, and its arguments read as before. No condition.
-/
import Derived.Test.YtlogokjjphlkkaaW24
import Derived.Test.YtlogokjjphlkkaaR6
namespace Go.Proofs.Ytlogokjjphlkkaa
open Go.ChangeShapes Go.WideShapes Go.ChangeAt Go.RowKit Go.Deep Go.Shelf

theorem nx_past (vs : List Int) (m : Mon) (h : m.past.length ≤ 900) : (nxM vs m).past.length ≤ 1000 := by
  unfold nxM
  split
  · show (pushP m.past m.of _).length ≤ 1000
    unfold pushP
    split <;> simp <;> omega
  · omega
theorem Mons.dropA {w : World} {A : Option Addr} {c : Nat} {ms : List Mon} (h : Mons w (.slice A ms.length c) ms) (k : Nat) (hk : k ≤ ms.length) : Mons w (.slice (Option.map (fun x : Addr => x.add (k * 8)) A) (ms.length - k) (c - k)) (ms.drop k) := by
  by_cases h0 : ms.length = 0
  · have hd : ms.drop k = [] := List.drop_eq_nil_of_le (by omega)
    rw [hd, show ms.length - k = 0 by omega]
    refine Mons.none _ _ _ fun ha => ?_
    cases A with
    | none =>
      obtain ⟨ps, h1, h2, h3⟩ := h.out
      rcases h2.out with ⟨e, _, _⟩ | ⟨a, c0, e, _⟩
      · injection e with _ _ e3
        omega
      · injection e with e1 _ _
        cases e1
    | some a => cases ha
  · obtain ⟨b, off, _, _, rfl, _⟩ := h.at_ (show 0 < ms.length by omega)
    have := h.drop k hk (c - k)
    simp only [Option.map_some, Addr.add_mid]
    exact this
set_option maxRecDepth 100000 in
set_option maxHeartbeats 16000000 in
theorem prt_walk (A0 : Option Addr) (c0 : Nat) (rows : List (List Int)) (at_ : Int) (AV : Option Addr) (cV : Nat) (vals : List Int) (w : World)
    (h : Rows w (.slice A0 rows.length c0) rows) (hm : rows.length ≤ 9223372036854775807) (h1 : -9223372036854775808 ≤ at_) (h2 : at_ ≤ 9223372036854775807)
    (hv : Ints w (.slice AV vals.length cV) vals) (_ : vals.length ≤ 9223372036854775807) (_ : ∀ x ∈ vals, -9223372036854775808 ≤ x ∧ x ≤ 9223372036854775807) :
    Calls Try.prog 18 #[.slice A0 rows.length c0, .int .i64 at_, .slice AV vals.length cV] w fun e w' => e = .returned (.bool true) ∧ Below w.heap.size w w' := by
  obtain ⟨ms, hms⟩ : ∃ z, makesM rows = z := ⟨_, rfl⟩
  have hl8 : ms.length ≤ 8 := by rw [← hms, makesM, List.length_map, List.length_take]; omega
  have hgood : ∀ m ∈ ms, 0 ≤ m.par ∧ m.past.length ≤ 900 := by
    intro m hmm
    rw [← hms, makesM] at hmm
    obtain ⟨r, _, rfl⟩ := List.mem_map.1 hmm
    exact ⟨(pick_bd r 0 6 (by omega)).1, by simp [makeM]⟩
  have HMK := bx (makes_calls A0 c0 rows w h hm ms hms)
  obtain ⟨k, hk, hk0, hk1⟩ : ∃ k : Nat, around at_ ((ms.length : Int) + 1) = (k : Int) ∧ k ≤ ms.length ∧ (k : Int) ≤ ms.length := ⟨(around at_ ((ms.length : Int) + 1)).toNat, by have := around_bd at_ ((ms.length : Int) + 1) (by omega); omega, by have := around_bd at_ ((ms.length : Int) + 1) (by omega); omega, by have := around_bd at_ ((ms.length : Int) + 1) (by omega); omega⟩
  have HG := bx hgood
  have HV := bx hv
  have HAR := bx (fun (W : World) => around_calls at_ ((ms.length : Int) + 1) W h1 h2 (by omega) (by omega))
  rw [hk] at HAR
  clear hk h hms hgood hv h1 h2
  go_enter Try.func18, Try.ntmps18
  go_wp2_with fail
  refine HMK.out.mono ?_
  rintro e w1 ⟨A, c, rfl, hM1, k1, hroom, hnone⟩
  have HM1 := bx hM1
  have HNN := bx hnone
  clear hM1 HMK hnone
  go_wp2_with fail
  refine (HAR.out _).mono ?_
  rintro e w2 ⟨rfl, rfl⟩
  have HA0 := bx (fun (W : World) (kk : From w2 W) (as_ : List Mon) (us ds : List Int) (ha : allM vals ms = as_) (hu : evs (uxM vals) ms = us) (hd : evs (dxM vals) ms = ds) => all_calls A c ms AV cV vals W (HM1.out.from kk) (HV.out.from (k1.trans kk)) (by omega) HG.out as_ us ds ha hu hd)
  have HA1 := bx (fun (W : World) (kk : From w2 W) (as_ : List Mon) (us ds : List Int) (ha : allM vals (ms.take k) = as_) (hu : evs (uxM vals) (ms.take k) = us) (hd : evs (dxM vals) (ms.take k) = ds) =>
    (show Calls Try.prog 66 #[.slice A k c, .slice AV vals.length cV] W (AllPost W as_ us ds) from by
      have hl : (ms.take k).length = k := by rw [List.length_take]; omega
      have := all_calls A c (ms.take k) AV cV vals W (by rw [hl]; exact (HM1.out.from kk).take k hk0 c HNN.out) (HV.out.from (k1.trans kk)) (by omega) (fun m hm => HG.out m (List.mem_of_mem_take hm)) as_ us ds ha hu hd
      rwa [hl] at this))
  have HA2 := bx (fun (W : World) (kk : From w2 W) (A' : Option Addr) (c' : Nat) (hM : Mons W (.slice A' (ms.length - k) c') (ms.drop k)) (as_ : List Mon) (us ds : List Int) (ha : allM vals (ms.drop k) = as_) (hu : evs (uxM vals) (ms.drop k) = us) (hd : evs (dxM vals) (ms.drop k) = ds) =>
    (show Calls Try.prog 66 #[.slice A' (ms.length - k) c', .slice AV vals.length cV] W (AllPost W as_ us ds) from by
      have hl : (ms.drop k).length = ms.length - k := by rw [List.length_drop]
      have := all_calls A' c' (ms.drop k) AV cV vals W (by rw [hl]; exact hM) (HV.out.from (k1.trans kk)) (by omega) (fun m hm => HG.out m (List.mem_of_mem_drop hm)) as_ us ds ha hu hd
      rwa [hl] at this))
  obtain ⟨as0, ha0⟩ : ∃ z, allM vals ms = z := ⟨_, rfl⟩
  obtain ⟨us0, hu0⟩ : ∃ z, evs (uxM vals) ms = z := ⟨_, rfl⟩
  obtain ⟨ds0, hd0⟩ : ∃ z, evs (dxM vals) ms = z := ⟨_, rfl⟩
  obtain ⟨as1, ha1⟩ : ∃ z, allM vals (ms.take k) = z := ⟨_, rfl⟩
  obtain ⟨us1, hu1⟩ : ∃ z, evs (uxM vals) (ms.take k) = z := ⟨_, rfl⟩
  obtain ⟨ds1, hd1⟩ : ∃ z, evs (dxM vals) (ms.take k) = z := ⟨_, rfl⟩
  obtain ⟨as2, ha2⟩ : ∃ z, allM vals (ms.drop k) = z := ⟨_, rfl⟩
  obtain ⟨us2, hu2⟩ : ∃ z, evs (uxM vals) (ms.drop k) = z := ⟨_, rfl⟩
  obtain ⟨ds2, hd2⟩ : ∃ z, evs (dxM vals) (ms.drop k) = z := ⟨_, rfl⟩
  have hta : as0 = as1 ++ as2 := by rw [← ha0, ← ha1, ← ha2, ← allM_append, List.take_append_drop]
  have htu : us0 = us1 ++ us2 := by rw [← hu0, ← hu1, ← hu2, ← evs_append, List.take_append_drop]
  have htd : ds0 = ds1 ++ ds2 := by rw [← hd0, ← hd1, ← hd2, ← evs_append, List.take_append_drop]
  have HTT := bx (And.intro hta (And.intro htu htd))
  have HL0 := bx (show as0.length = ms.length by rw [← ha0]; simp [allM])
  have HAT := bx (show ∀ i (hi : i < ms.length) (hj : i < as0.length), as0[i] = nxM vals ms[i] by intro i hi hj; subst ha0; simp [allM])
  have HPB := bx (show ∀ m ∈ as0, m.past.length ≤ 1000 by
    intro m hmm
    rw [← ha0] at hmm
    obtain ⟨x, hx, rfl⟩ := List.mem_map.1 hmm
    exact nx_past vals x (HG.out x hx).2)
  have HB := bx (show us0.length ≤ 8 ∧ ds0.length ≤ 8 by rw [← hu0, ← hd0]; have h1 := evs_len (uxM vals) ms; have h2 := evs_len (dxM vals) ms; omega)
  have HC0 := bx (fun (W : World) (kk : From w2 W) => HA0.out W kk as0 us0 ds0 ha0 hu0 hd0)
  have HC1 := bx (fun (W : World) (kk : From w2 W) => HA1.out W kk as1 us1 ds1 ha1 hu1 hd1)
  have HC2 := bx (fun (W : World) (kk : From w2 W) (A' : Option Addr) (c' : Nat) (hM : Mons W (.slice A' (ms.length - k) c') (ms.drop k)) => HA2.out W kk A' c' hM as2 us2 ds2 ha2 hu2 hd2)
  clear HA0 HA1 HA2 ha0 hu0 hd0 ha1 hu1 hd1 ha2 hu2 hd2 hta htu htd HAR
  go_wp2_with fail
  refine (HC0.out _ (From.refl _)).mono ?_
  rintro e w3 ⟨B1, d1, B2, d2, B3, d3, rfl, q1, q2, q3, k3⟩
  have Q1 := bx q1
  have Q2 := bx q2
  have Q3 := bx q3
  clear q1 q2 q3 HC0
  have e1 : (k : Int) ≤ (c : Int) := by omega
  have e2 : (0 : Int) ≤ (k : Int) := by omega
  go_wp2_with fail
  refine (HC1.out _ k3).mono ?_
  rintro e w4 ⟨E1, f1, E2, f2, E3, f3, rfl, q1, q2, q3, k4⟩
  have P1 := bx q1
  have P2 := bx q2
  have P3 := bx q3
  clear q1 q2 q3 HC1
  go_upto_region 5 with fail
  go_cut [15, 16, 17] from 46 to 54 (fun s15 s16 s17 wx => ∃ G1 g1 G2 g2 G3 g3, s15 = .slice G1 as2.length g1 ∧ s16 = .slice G2 us2.length g2 ∧ s17 = .slice G3 ds2.length g3 ∧ Mons wx (.slice G1 as2.length g1) as2 ∧ Ints wx (.slice G2 us2.length g2) us2 ∧ Ints wx (.slice G3 ds2.length g3) ds2 ∧ From w4 wx)
  case first =>
    have hl1 : (ms.drop k).length = ms.length - k := by rw [List.length_drop]
    by_cases hck : c = k
    · have hz : ms.length - k = 0 := by omega
      have hMN : Mons w4 (.slice A (ms.length - k) 0) (ms.drop k) := by rw [List.drop_eq_nil_of_le (show ms.length ≤ k by omega), hz]; exact Mons.none _ _ _ (fun _ => rfl)
      have HC3 := bx (HC2.out w4 (k3.trans k4) A 0 hMN)
      rw [hz] at HC3
      clear hz hMN
      subst hck
      go_wp2_with fail
      refine HC3.out.mono ?_
      rintro e w5 ⟨G1, g1, G2, g2, G3, g3, rfl, q1, q2, q3, k5⟩
      have P4 := bx q1
      have P5 := bx q2
      have P6 := bx q3
      clear q1 q2 q3
      go_wp2_with fail
      go_meet
      case rel => exact ⟨G1, g1, G2, g2, G3, g3, rfl, rfl, rfl, P4.out, P5.out, P6.out, k5⟩
    · have HC3 := bx (HC2.out w4 (k3.trans k4) _ _ ((HM1.out.from (k3.trans k4)).dropA k hk0))
      go_wp2_with fail
      refine HC3.out.mono ?_
      rintro e w5 ⟨G1, g1, G2, g2, G3, g3, rfl, q1, q2, q3, k5⟩
      have P4 := bx q1
      have P5 := bx q2
      have P6 := bx q3
      clear q1 q2 q3
      go_wp2_with fail
      go_meet
      case rel => exact ⟨G1, g1, G2, g2, G3, g3, rfl, rfl, rfl, P4.out, P5.out, P6.out, k5⟩
  case rest =>
  obtain ⟨G1, g1, G2, g2, G3, g3, rfl, rfl, rfl, q1, q2, q3, k5⟩ := hcut
  obtain ⟨w5, hw5⟩ : ∃ z, z = wc := ⟨_, rfl⟩
  subst hw5
  have P4 := bx q1
  have P5 := bx q2
  have P6 := bx q3
  clear q1 q2 q3 HC2
  obtain ⟨ps1, hp1, hs1, hb1⟩ := (P1.out.from k5).out
  obtain ⟨ps2, hp2, hs2, hb2⟩ := P4.out.out
  have HS1 := bx hs1
  have HS2 := bx hs2
  have HB1 := bx hb1
  have HB2 := bx hb2
  have hl1 : as1.length ≤ 8 ∧ as2.length ≤ 8 ∧ as1.length + as2.length = as0.length := by have := HTT.out.1; have h0 := HL0.out; rw [this, List.length_append] at h0; rw [this, List.length_append]; omega
  have hl2 : us1.length ≤ 8 ∧ us2.length ≤ 8 ∧ us1.length + us2.length = us0.length := by have := HTT.out.2.1; have h0 := HB.out.1; rw [this, List.length_append] at h0; rw [this, List.length_append]; omega
  have hl3 : ds1.length ≤ 8 ∧ ds2.length ≤ 8 ∧ ds1.length + ds2.length = ds0.length := by have := HTT.out.2.2; have h0 := HB.out.2; rw [this, List.length_append] at h0; rw [this, List.length_append]; omega
  obtain ⟨la1, la2, la3⟩ := hl1
  obtain ⟨lu1, lu2, lu3⟩ := hl2
  obtain ⟨ld1, ld2, ld3⟩ := hl3
  have hm1 : (mlc ps1).length = as1.length * 8 := by rw [mlc_len, ← hp1, List.length_map]
  have hm2 : (mlc ps2).length = as2.length * 8 := by rw [mlc_len, ← hp2, List.length_map]
  have HPS := bx (show (ps1 ++ ps2).map (·.1) = as0 by rw [List.map_append, hp1, hp2]; exact HTT.out.1.symm)
  clear hs1 hs2 hb1 hb2 hp1 hp2
  go_upto_region 8 with (at_builtin; refine app_sl rfl _ _ 85 rfl Try.elMon rfl (own_nil w5 w5.heap.size _ _) as1.length (mlc ps1) rfl HS1.out hm1 (cells_ones HB1.out) (by omega) (by unfold maxLen; omega) (Nat.le_refl _) ?_; intro A6 c6 w6 o6 g6 _)
  have k6 : From w5 w6 := From.app (From.refl _) (own_nil w5 w5.heap.size 71 8) (Nat.le_refl _) g6
  have hs6 := Below.size k6
  rw [Nat.zero_add, List.nil_append] at o6
  try simp only [Nat.zero_add]
  go_upto_region 9 with (at_builtin; refine app_sl rfl _ _ 85 rfl Try.elMon rfl o6 as2.length (mlc ps2) rfl (HS2.out.from k6) hm2 (cells_ones HB2.out) (by omega) (by unfold maxLen; omega) hs6 ?_; intro A7 c7 w7 o7 g7 _)
  have k7 : From w5 w7 := From.app k6 o6 (Nat.le_refl _) g7
  have HO7 := bx (show w7.ownsRow w5.heap.size 71 8 (.slice A7 (as1.length + as2.length) c7) (as1.length + as2.length) (mlc (ps1 ++ ps2)) by rw [mlc_append]; simpa using o7)
  clear o6 g6 o7 g7 k6 hs6
  go_upto_region 11 with (at_builtin; refine app_sl rfl _ _ 22 rfl Try.elInt rfl (own_nil w7 w7.heap.size _ _) us1.length (ic us1) rfl (P2.out.from (k5.trans k7)) (by simp [ic_len]) (ic_one _) (by omega) (by unfold maxLen; omega) (Nat.le_refl _) ?_; intro A6 c6 w8 o6 g6 _)
  have k8 : From w7 w8 := From.app (From.refl _) (own_nil w7 w7.heap.size 3 1) (Nat.le_refl _) g6
  have hs8 := Below.size k8
  rw [Nat.zero_add, List.nil_append] at o6
  try simp only [Nat.zero_add]
  go_upto_region 12 with (at_builtin; refine app_sl rfl _ _ 22 rfl Try.elInt rfl o6 us2.length (ic us2) rfl (P5.out.from (k7.trans k8)) (by simp [ic_len]) (ic_one _) (by omega) (by unfold maxLen; omega) hs8 ?_; intro A8 c8 w9 o7 g7 _)
  have k9 : From w7 w9 := From.app k8 o6 (Nat.le_refl _) g7
  have HO9 := bx (show w9.ownsRow w7.heap.size 3 1 (.slice A8 (us1.length + us2.length) c8) (us1.length + us2.length) (ic (us1 ++ us2)) by rw [ic_append]; simpa using o7)
  clear o6 g6 o7 g7 k8 hs8
  go_upto_region 14 with (at_builtin; refine app_sl rfl _ _ 22 rfl Try.elInt rfl (own_nil w9 w9.heap.size _ _) ds1.length (ic ds1) rfl (P3.out.from (k5.trans (k7.trans k9))) (by simp [ic_len]) (ic_one _) (by omega) (by unfold maxLen; omega) (Nat.le_refl _) ?_; intro A6 c6 wA o6 g6 _)
  have kA : From w9 wA := From.app (From.refl _) (own_nil w9 w9.heap.size 3 1) (Nat.le_refl _) g6
  have hsA := Below.size kA
  rw [Nat.zero_add, List.nil_append] at o6
  try simp only [Nat.zero_add]
  go_upto_region 15 with (at_builtin; refine app_sl rfl _ _ 22 rfl Try.elInt rfl o6 ds2.length (ic ds2) rfl (P6.out.from (k7.trans (k9.trans kA))) (by simp [ic_len]) (ic_one _) (by omega) (by unfold maxLen; omega) hsA ?_; intro A9 c9 wB o7 g7 _)
  have kB : From w9 wB := From.app kA o6 (Nat.le_refl _) g7
  have HOB := bx (show wB.ownsRow w9.heap.size 3 1 (.slice A9 (ds1.length + ds2.length) c9) (ds1.length + ds2.length) (ic (ds1 ++ ds2)) by rw [ic_append]; simpa using o7)
  clear o6 g6 o7 g7 kA hsA
  have kk7 := k7.trans (k9.trans kB)
  have HQ1 := bx (Q1.out.from (k4.trans (k5.trans kk7)))
  have HQ2 := bx (Q2.out.from (k4.trans (k5.trans kk7)))
  have HQ3 := bx (Q3.out.from (k4.trans (k5.trans kk7)))
  have HSA := bx (fun (W : World) (kk : From wB W) => (show Calls Try.prog 68 #[.slice B1 as0.length d1, .slice A7 as0.length c7] W (fun e w' => e = .returned (.bool true) ∧ From W w') from by
    have hM : Mons wB (.slice A7 (as1.length + as2.length) c7) as0 := mons_own (own_call HO7.out (k9.trans kB)) la3 HPS.out (fun a ha => by rcases List.mem_append.1 ha with h | h; exact (HB1.out a h).from kk7; exact (HB2.out a h).from kk7)
    rw [la3] at hM
    exact sameAll_calls B1 A7 d1 c7 as0 W (HQ1.out.from kk) (hM.from kk) (by have := HL0.out; omega) HPB.out))
  have HSU := bx (fun (W : World) (kk : From wB W) => (show Calls Try.prog 22 #[.slice B2 us0.length d2, .slice A8 us0.length c8] W (fun e w' => e = .returned (.bool true) ∧ From W w') from by
    have hI : Ints wB (.slice A8 (us1.length + us2.length) c8) (us1 ++ us2) := by have := sl_of_own (own_call HO9.out kB); unfold Ints; rw [List.length_append]; exact this
    have he := HTT.out.2.1
    rw [← he] at hI
    rw [lu3] at hI
    refine (same_val B2 A8 d2 c8 us0 us0 W (HQ2.out.from kk) (hI.from kk) (by omega) true (by simp)).mono ?_
    rintro e w' ⟨rfl, q, rfl⟩
    exact ⟨rfl, From.drewN (From.refl _) q⟩))
  have HSD := bx (fun (W : World) (kk : From wB W) => (show Calls Try.prog 22 #[.slice B3 ds0.length d3, .slice A9 ds0.length c9] W (fun e w' => e = .returned (.bool true) ∧ From W w') from by
    have hI : Ints wB (.slice A9 (ds1.length + ds2.length) c9) (ds1 ++ ds2) := by have := sl_of_own HOB.out; unfold Ints; rw [List.length_append]; exact this
    have he := HTT.out.2.2
    rw [← he] at hI
    rw [ld3] at hI
    refine (same_val B3 A9 d3 c9 ds0 ds0 W (HQ3.out.from kk) (hI.from kk) (by omega) true (by simp)).mono ?_
    rintro e w' ⟨rfl, q, rfl⟩
    exact ⟨rfl, From.drewN (From.refl _) q⟩))
  have HML := bx (HM1.out.from (k3.trans (k4.trans (k5.trans kk7))))
  have HVB := bx (HV.out.from (k1.trans (k3.trans (k4.trans (k5.trans kk7)))))
  have HFW := bx (k1.trans (k3.trans (k4.trans (k5.trans kk7))))
  clear Q1 Q2 Q3 HQ2 HQ3 HB1 HB2 HPS P1 P2 P3 P4 P5 P6 HO7 HO9 HOB HM1 HV k1 k3 k4 k5 k7 k9 kB kk7 hm1 hm2 HS1 HS2
  go_wp2_with fail
  refine (HSA.out _ (From.refl _)).mono ?_
  rintro e wC ⟨rfl, kC⟩
  go_wp2_with fail
  refine (HSU.out _ kC).mono ?_
  rintro e wD ⟨rfl, kD⟩
  go_wp2_with fail
  refine (HSD.out _ (kC.trans kD)).mono ?_
  rintro e wE ⟨rfl, kE⟩
  have kk := (kC.trans kD).trans kE
  clear HSA HSU HSD kC kD kE HTT HB HPB
  go_wp2_with fail
  go_loopw [21, 22] (fun i _ wr => ∃ j : Nat, j ≤ ms.length ∧ i = .int .i64 j ∧ From wB wr) (fun i _ _ => ms.length - (intOf i).toNat)
  case atStart => exact ⟨0, Nat.zero_le _, rfl, kk⟩
  case round =>
    clear kk
    obtain ⟨j, hj, rfl, hbw⟩ := hrel
    by_cases hlt : j < ms.length
    · have z3 : decide ((j : Int) < (ms.length : Int)) = true := decide_eq_true (by omega)
      have hlt2 : j < as0.length := by rw [HL0.out]; exact hlt
      have z4 : decide ((j : Int) < (as0.length : Int)) = true := decide_eq_true (by omega)
      have y1 : (j : Int) < (ms.length : Int) := by omega
      have y2 : (0 : Int) ≤ (j : Int) := by omega
      have y3 : (j : Int) < (as0.length : Int) := by omega
      obtain ⟨hp0, hp9⟩ := HG.out ms[j] (List.getElem_mem hlt)
      have hn9 := nx_past vals ms[j] hp9
      have HNX := bx (HAT.out j hlt hlt2)
      obtain ⟨b, off, AP, cP, rfl, hb, hBP, g0, g1, g2, g3, g4, g5, g6, g7⟩ := (HML.out.from hbw).at_ hlt
      obtain ⟨b', off', AQ, cQ, rfl, hb', hBQ, f0, f1, f2, f3, f4, f5, f6, f7⟩ := (HQ1.out.from hbw).at_ hlt2
      have HBP := bx hBP
      have HBQ := bx hBQ
      have HFF := bx (And.intro f0 (And.intro f1 (And.intro f2 (And.intro f3 (And.intro f4 (And.intro f5 (And.intro f6 f7)))))))
      clear hBP hBQ f0 f1 f2 f3 f4 f5 f6 f7
      rw [HNX.out] at HFF HBQ
      generalize ms[j] = m at *
      obtain ⟨n, hn⟩ : ∃ n, nxM vals m = n := ⟨_, rfl⟩
      rw [hn] at HFF HBQ hn9
      clear HNX
      have HN := bx hn
      obtain ⟨pj, hpj⟩ : ∃ pj : Nat, m.par = (pj : Int) := ⟨m.par.toNat, by omega⟩
      obtain ⟨Z1, hZ1⟩ : ∃ V, wr.alloc (.cells (mcs ⟨0, 0, 0, 0, 0, 0, [], false⟩ (.slice none 0 0)) 71) = V := ⟨_, rfl⟩
      have kz : From wr Z1 := by rw [← hZ1]; exact From.alloc (From.refl _) _
      have sz : Z1.heap.size = wr.heap.size + 1 := by rw [← hZ1]; simp
      have hZM : MonC Z1 wr.heap.size ⟨0, 0, 0, 0, 0, 0, [], false⟩ (.slice none 0 0) := by rw [← hZ1]; exact MonC.new wr _ _
      have HZM := bx hZM
      have t0 := hZM.soft 0
      have t1 := hZM.soft 1
      have t2 := hZM.soft 2
      have t3 := hZM.soft 3
      have t4 := hZM.soft 4
      have t5 := hZM.soft 5
      have t6 := hZM.soft 6
      have t7 := hZM.soft 7
      obtain ⟨e0, e1, e2, e3, e4, e5, e6, e7⟩ := hZM.facts
      simp only at e0 e1 e2 e3 e4 e5 e6 e7
      clear hZM hn
      obtain ⟨mp, ml, mh, mn, mo, me, mps, mr⟩ := m
      simp only at g0 g1 g2 g3 g4 g5 g6 g7 hp0 hp9 HBP hpj
      obtain rfl := hpj
      go_upto_region 21 with fail
      obtain ⟨W2, hW2⟩ : ∃ V, set8 Z1 wr.heap.size ⟨(pj : Int), ml, mh, mn, mo, me, mps, mr⟩ (.slice AP mps.length cP) = V := ⟨_, rfl⟩
      have hW3 := hW2
      unfold set8 at hW3
      simp only at hW3
      rw [hW3]
      have k2 : From wr W2 := by rw [← hW2]; exact From.set8 kz (Nat.le_refl _) _ _
      have s2 : W2.heap.size = wr.heap.size + 1 := by rw [← hW2, size_set8]; exact sz
      have HMC := bx (show MonC W2 wr.heap.size ⟨(pj : Int), ml, mh, mn, mo, me, mps, mr⟩ (.slice AP mps.length cP) by rw [← hW2]; exact MonC.set8 HZM.out)
      have HBP := bx (HBP.out.from k2)
      clear hW2 hW3 hZ1 kz sz HZM e0 e1 e2 e3 e4 e5 e6 e7 t0 t1 t2 t3 t4 t5 t6 t7 g0 g1 g2 g3 g4 g5 g6 g7
      obtain ⟨np, nl, nh, nn, no, ne, nps, nr⟩ := n
      simp only at hn9 HBQ HFF
      obtain ⟨a0, a1, a2, a3, a4, a5, a6, a7⟩ := HMC.out.facts
      simp only at a0 a1 a2 a3 a4 a5 a6 a7

      go_upto_if 109 with fail
      go_cut [22] from 105 to 120 (fun s22 wx => s22 = .pointer (some ⟨wr.heap.size, 0, none⟩) ∧ ∃ A3 c3, From wr wx ∧ MonC wx wr.heap.size ⟨np, nl, nh, nn, no, ne, nps, nr⟩ (.slice A3 nps.length c3) ∧ Bools wx (.slice A3 nps.length c3) nps)
      case first =>
        have hnn := HN.out
        simp only [nxM] at hnn
        by_cases hj : (pj : Int) < (vals.length : Int)
        · have x4 : (0 : Int) ≤ (pj : Int) := by omega
          rw [if_pos hj] at hnn
          have hjl : pj < vals.length := by omega
          simp only [Int.toNat_natCast] at hnn
          obtain ⟨vb, vo, rfl, _, vcell⟩ := ints_at (HVB.out.from (hbw.trans k2)) hjl
          have hgv : vals.getD pj 0 = vals[pj]'hjl := by rw [List.getD_eq_getElem?_getD, List.getElem?_eq_getElem (by omega)]; rfl
          rw [hgv] at hnn
          obtain ⟨v, hvv⟩ : ∃ v, vals[pj]'hjl = v := ⟨_, rfl⟩
          rw [hvv] at hnn vcell
          clear hvv
          obtain ⟨up, huu⟩ : ∃ u, upM ⟨(pj : Int), ml, mh, mn, mo, me, mps, mr⟩ v = u := ⟨_, rfl⟩
          obtain ⟨dn, hdd⟩ : ∃ u, dnM ⟨(pj : Int), ml, mh, mn, mo, me, mps, mr⟩ v = u := ⟨_, rfl⟩
          have HST := bx (fun (W : World) (kk : From W2 W) => step_calls ⟨(pj : Int), ml, mh, mn, mo, me, mps, mr⟩ AP cP v W (HBP.out.from kk) (by show mps.length ≤ 1000; omega) ⟨np, nl, nh, nn, no, ne, nps, nr⟩ hnn up dn huu hdd)
          clear hnn huu hdd hgv
          go_wp2_with fail
          refine region_cut (fun q0 a' w' => ∃ (x110 x111 x112 x113 x114 x115 x116 x117 x118 x119 x120 : Value) (A3 : Option Addr) (c3 : Nat) (w4 : World), a' = puts q0 [(110, x110), (111, x111), (112, x112), (113, x113), (114, x114), (115, x115), (116, x116), (117, x117), (118, x118), (119, x119), (120, x120)] ∧ From W2 w4 ∧ SlN W2.heap.size w4 (.slice A3 nps.length c3) nps.length (bc nps) ∧ w' = set8 w4 wr.heap.size ⟨np, nl, nh, nn, no, ne, nps, nr⟩ (.slice A3 nps.length c3)) (fun K' HKK => ?_) ?_
          · go_region_with (go_at_call 58; refine (HST.out _ (by first | exact From.refl _ | exact From.drew (From.refl _))).mono ?_; rintro e w3 ⟨A3, c3, rfl, q3, k3⟩; have hkeep : From W2 w3 := (by first | exact k3 | exact From.trans (From.drew (From.refl _)) k3); have hMm := HMC.out.from hkeep; have t0 := hMm.soft 0; have t1 := hMm.soft 1; have t2 := hMm.soft 2; have t3 := hMm.soft 3; have t4 := hMm.soft 4; have t5 := hMm.soft 5; have t6 := hMm.soft 6; have t7 := hMm.soft 7; obtain ⟨e0, e1, e2, e3, e4, e5, e6, e7⟩ := hMm.facts)
            all_goals
              refine HKK.out _ _ ⟨_, _, _, _, _, _, _, _, _, _, _, A3, c3, w3, (by simp only [puts, Act.put, List.setIfInBounds_toArray, List.set_cons_zero, List.set_cons_succ]; rfl), hkeep, ?_, ?_⟩
              · exact q3.low (by simp)
              · with_reducible rfl
          rintro a' w' ⟨x110, x111, x112, x113, x114, x115, x116, x117, x118, x119, x120, A3, c3, w4, rfl, k4, hS4, rfl⟩
          simp only [puts, Act.put, List.setIfInBounds_toArray, List.set_cons_zero, List.set_cons_succ]

          go_wp2_with fail
          go_meet
          case rel => exact ⟨rfl, A3, c3, From.set8 (k2.trans k4) (Nat.le_refl _) ⟨np, nl, nh, nn, no, ne, nps, nr⟩ _, MonC.set8 (HMC.out.from k4), ((hS4.low (by omega)).set8 (show wr.heap.size < wr.heap.size + 1 by omega) ⟨np, nl, nh, nn, no, ne, nps, nr⟩ _).sl⟩
        · rw [if_neg hj] at hnn
          simp only [Mon.mk.injEq] at hnn
          obtain ⟨rfl, rfl, rfl, rfl, rfl, rfl, rfl, rfl⟩ := hnn
          go_wp2_with fail
          go_meet
          case rel => exact ⟨rfl, AP, cP, k2, HMC.out, HBP.out⟩
      case rest =>
        clear a0 a1 a2 a3 a4 a5 a6 a7
        obtain ⟨rfl, A3, c3, k4, hM4, hS4⟩ := hcut
        have HS := bx (fun (W : World) (kk : From wc W) => same29_calls ⟨np, nl, nh, nn, no, ne, nps, nr⟩ AQ A3 cQ c3 W ((HBQ.out.from k4).from kk) (hS4.from kk) hn9)
        obtain ⟨f0, f1, f2, f3, f4, f5, f6, f7⟩ := HFF.out
        replace f0 := k4.cell f0
        replace f1 := k4.cell f1
        replace f2 := k4.cell f2
        replace f3 := k4.cell f3
        replace f4 := k4.cell f4
        replace f5 := k4.cell f5
        replace f6 := k4.cell f6
        replace f7 := k4.cell f7
        obtain ⟨b0, b1, b2, b3, b4, b5, b6, b7⟩ := hM4.facts
        simp only at b0 b1 b2 b3 b4 b5 b6 b7
        clear hM4 HFF
        go_wp2_with fail
        refine region_cut (fun q0 a' w' => ∃ (x121 x122 x123 x124 x125 x126 : Value), a' = puts q0 [(121, x121), (122, x122), (123, x123), (124, x124), (125, x125), (126, x126), (127, .bool false)] ∧ From wc w') (fun K' HKK => ?_) ?_
        · go_region_with (go_at_call 60; refine (HS.out _ (by first | exact From.refl _ | exact From.drew (From.refl _))).mono ?_; rintro e w3 ⟨rfl, k3⟩; have hkeep : From wc w3 := (by first | exact k3 | exact From.trans (From.drew (From.refl _)) k3))
          all_goals
            exact HKK.out _ _ ⟨_, _, _, _, _, _, (by simp only [puts, Act.put, List.setIfInBounds_toArray, List.set_cons_zero, List.set_cons_succ]; rfl), hkeep⟩
        rintro a' w4 ⟨x121, x122, x123, x124, x125, x126, rfl, k5⟩
        clear f0 f1 f2 f3 f4 f5 f6 f7 b0 b1 b2 b3 b4 b5 b6 b7
        have hf5 := (hbw.trans k4).trans k5
        simp only [puts, Act.put, List.setIfInBounds_toArray, List.set_cons_zero, List.set_cons_succ]
        go_wp2_with fail
        exact ⟨⟨j + 1, by omega, by go_num, hf5⟩, by simp [intOf]; omega⟩
    · have z3 : decide ((j : Int) < (ms.length : Int)) = false := decide_eq_false (by omega)
      have HF9 := bx (HFW.out.trans hbw)
      go_wp2_with fail
      refine (livesM_calls _).mono ?_
      rintro e w9 ⟨rfl, k9⟩
      go_wp2
      go_ret
      exact ⟨rfl, HF9.out.trans k9⟩
set_option maxRecDepth 100000 in
theorem prt_lifted (os : Os) (started : os.Started) (H : Type) (enc : TypeId × Value → H) :
    ReturnsInHanded {} Try.checked os 18 .any (Rows.monitorPartsSpec.pre6 enc Try.prog Try.f18 Rows.monitorPartsRow.domain false) (Rows.monitorPartsSpec.post enc Try.prog Try.f18 false true false false) := by
  refine returnsInHanded_of_change (C := Try.checked) own started (by kernel_rfl) Try.func18
    (ChangeSpec.witness6 (enc := enc) (C := Try.checked) false ⟨#[], #[.slice none 0 0, .int .i64 0, .slice none 0 0], []⟩ 8 (by kernel_rfl) (by kernel_rfl) (by kernel_rfl) (by kernel_rfl)) ?_
  intro W base args ds gs before hval0 hW hcnd _
  have hval : ∀ (j : Nat) t v, Try.f18.params[j]? = some t → args[j]? = some v → Value.okWide Try.prog W .any base t v := hval0
  have hW' := hW
  obtain ⟨p, q, hA0, hV, rfl, hfz, hnd⟩ := hW
  have hA : DataW.TrodAll enc Try.prog W 0 (fun _ => true) true Try.f18.params.toList args.toList ds p := hA0
  rw [Try.params18] at hA hval
  obtain ⟨v0, vs0, d0, ds0, p0, q0, hargs, rfl, rfl, h0, r0⟩ := trodAll_cons hA
  obtain ⟨v1, vs1, d1, ds1, p1, q1, rfl, rfl, rfl, h1, r1⟩ := trodAll_cons r0
  obtain ⟨v2, vs2, d2, ds2, p2, q2, rfl, rfl, rfl, h2, r2⟩ := trodAll_cons r1
  obtain ⟨rfl, rfl, rfl⟩ := trodAll_nil r2
  obtain rfl : args = #[v0, v1, v2] := by cases args; simp_all
  obtain ⟨rfl, rfl⟩ := trodVars_none hV
  obtain ⟨A0, c0, l0, rfl, hB0, hm0⟩ := open_rows (hval 0 69 v0 rfl rfl) h0
  obtain ⟨a1, rfl, _, _, w1⟩ := open_int Try.underlying3 (hval 1 3 v1 rfl rfl) h1
  simp only [Lit.wf, Bool.and_eq_true, decide_eq_true_eq] at w1
  obtain ⟨A2, c2, l2, rfl, hB2, hm2, hx2⟩ := open_intsr (hval 2 22 v2 rfl rfl) h2
  refine (prt_walk A0 c0 l0 a1 A2 c2 l2 W hB0 hm0 w1.1 w1.2 hB2 hm2 hx2).mono fun e W' ⟨he, hb⟩ => ?_
  subst he
  exact ⟨_, rfl, law_post Try.laid (by kernel_rfl) rfl rfl Try.underlying4 rfl hW' hb⟩
theorem prt_facts : joinedFacts Try.prog 18 Try.f18 Rows.monitorPartsSpec Rows.monitorPartsRow = true := by
  unfold joinedFacts
  rw [fact_enter, fact_lift, fact_make, fact_keys, fact_heard, fact_maps, Try.laid]
  kernel_rfl
theorem prt_holds : Rows.MonitorPartsSaid :=
  OpenClaim.holds_of_wide 18 Try.f18 rfl rfl rfl rfl rfl rfl rfl ⟨rfl, rfl, rfl, rfl, rfl⟩ rfl rfl rfl rfl rfl (by kernel_rfl) Try.func18 prt_facts
    (of_decide_eq_true (by kernel_rfl)) (by unfold Func.isWrapper; first | (rw [if_pos (by decide +kernel)]; kernel_rfl) | (rw [if_neg (by decide +kernel)]; exact ⟨rfl, rfl⟩))
    (fun os started H enc _ => prt_lifted os started H enc)
#print axioms prt_holds
end Go.Proofs.Ytlogokjjphlkkaa
