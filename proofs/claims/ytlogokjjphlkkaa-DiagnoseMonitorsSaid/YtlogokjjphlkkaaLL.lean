/-
  For every graph made of at most 12 units and every set of faulty units, watched by one monitor for each symptom, the law DiagnoseMonitors returns true, and its arguments read as before. No condition.
-/
import Derived.Test.YtlogokjjphlkkaaR5
import Derived.Test.YtlogokjjphlkkaaW32
import Derived.Test.YtlogokjjphlkkaaW24
import Derived.Test.YtlogokjjphlkkaaDB
namespace Go.Proofs.Ytlogokjjphlkkaa
open Go.ChangeShapes Go.WideShapes Go.ChangeAt Go.RowKit Go.Deep Go.Shelf

theorem dg_ints {w : World} {B m n c : Nat} {A : Option Addr} {l : List Int} (h : Sl w B (.slice A m c) n (ic l)) : Dg.Ints w B A l := ⟨fun _ hk => ints_at h hk⟩
theorem dg_byts {w : World} {A : Option Addr} {c : Nat} {l : List Int} (h : Byts w (.slice A l.length c) l) (hx : ∀ x ∈ l, 0 ≤ x ∧ x ≤ 255) : Dg.Byts w w.heap.size A l := ⟨fun k hk => by
  obtain ⟨b, off, e, hb, hc⟩ := byts_at h hk
  exact ⟨b, off, e, hb, hc, hx _ (List.getElem_mem hk)⟩⟩
theorem strict_units (n : Nat) : (Dg.units n).Pairwise (· < ·) := by
  unfold Dg.units
  rw [List.pairwise_map]
  exact List.pairwise_lt_range.imp fun h => by simpa using h
theorem mem_units {n : Nat} {x : Int} : x ∈ Dg.units n ↔ 0 ≤ x ∧ x < n := by
  unfold Dg.units
  rw [List.mem_map]
  constructor
  · rintro ⟨s, hs, rfl⟩
    have := List.mem_range.1 hs
    simp only [Int.ofNat_eq_natCast]
    omega
  · rintro ⟨h0, h1⟩
    exact ⟨x.toNat, List.mem_range.2 (by omega), by simp only [Int.ofNat_eq_natCast]; omega⟩
theorem shown_two {sh : List (List Int)} {us a : List Int} {n : Nat} (h : Dg.expl sh a (Dg.shown sh us n) (Dg.clearOf (Dg.shown sh us n) (Dg.units n) n) = true) : Dg.shown sh a n = Dg.shown sh us n := by
  unfold Dg.expl at h
  simp only [Bool.and_eq_true, Bool.not_eq_true', List.all_eq_true] at h
  obtain ⟨h1, h2⟩ := h
  have h2' : ∀ s ∈ Dg.clearOf (Dg.shown sh us n) (Dg.units n) n, Dg.cau sh a s = false := by
    intro s hs
    cases hc : Dg.cau sh a s with
    | false => rfl
    | true => rw [List.any_eq_true.2 ⟨s, hs, hc⟩] at h2; cases h2
  show (Dg.units n).filter _ = (Dg.units n).filter _
  refine List.filter_congr fun s hs => ?_
  by_cases hm : s ∈ Dg.shown sh us n
  · rw [h1 s hm, (List.mem_filter.1 hm).2]
  · have hcl : s ∈ Dg.clearOf (Dg.shown sh us n) (Dg.units n) n := by
      unfold Dg.clearOf
      refine List.mem_filter.2 ⟨hs, ?_⟩
      have e1 : (Dg.shown sh us n).contains s = false := by simpa using hm
      rw [e1]
      simpa using hs
    rw [h2' s hcl]
    cases hu : Dg.cau sh us s with
    | false => rfl
    | true => exact absurd (List.mem_filter.2 ⟨hs, hu⟩) hm
theorem shown_strict (sh : List (List Int)) (us : List Int) (n : Nat) : (Dg.shown sh us n).Pairwise (· < ·) := (strict_units n).filter _
theorem shown_bd (sh : List (List Int)) (us : List Int) (n : Nat) : ∀ x ∈ Dg.shown sh us n, 0 ≤ x ∧ x < n := fun _ hx => mem_units.1 (List.mem_filter.1 hx).1
set_option maxRecDepth 100000 in
set_option maxHeartbeats 16000000 in
theorem dmo_walk (q : Int) (A : Option Addr) (c : Nat) (l : List Int) (y : Int) (w : World)
    (hq0 : 0 ≤ q) (hq1 : q ≤ 255) (h : Byts w (.slice A l.length c) l) (hm : l.length ≤ 9223372036854775807) (hx : ∀ x ∈ l, 0 ≤ x ∧ x ≤ 255) (hy0 : 0 ≤ y) (hy1 : y ≤ 65535) :
    Calls Try.prog 21 #[.int .u8 q, .slice A l.length c, .int .u16 y] w fun e w' => e = .returned (.bool true) ∧ Below w.heap.size w w' := by
  have HM := bx (Dg.madeG_calls q A c l 12 w (dg_byts h hx) hm hq0 hq1 (by omega))
  have hn8 : (q % 9).toNat ≤ 8 := by omega
  obtain ⟨n, hn⟩ : ∃ n, (q % 9).toNat = n := ⟨_, rfl⟩
  rw [hn] at HM hn8
  have hshl := Dg.madeL_take_len l n 12
  obtain ⟨sh, hsh⟩ : ∃ sh, Dg.madeL (l.take 12) n = sh := ⟨_, rfl⟩
  rw [hsh] at HM hshl
  have hul := Dg.bitsN_le y sh.length
  have hus' := Dg.bitsN_sub y sh.length
  obtain ⟨us, hus⟩ : ∃ us, Dg.bitsN y sh.length = us := ⟨_, rfl⟩
  rw [hus] at hul hus'
  have hsl := Dg.shown_le sh us n
  have hex0 := Dg.shown_expl sh us (Dg.units n) n
  have hst := shown_strict sh us n
  have hsb := shown_bd sh us n
  obtain ⟨a, hlo, hal⟩ := Dg.least_le hus' hex0
  have hsa := shown_two (Dg.least_ex hlo).1
  obtain ⟨seen, hseen⟩ : ∃ seen, Dg.shown sh us n = seen := ⟨_, rfl⟩
  rw [hseen] at hsl hex0 hst hsb hlo hsa
  have hclen := Dg.clearOf_le seen (Dg.units n) n
  obtain ⟨cl, hcl⟩ : ∃ cl, Dg.clearOf seen (Dg.units n) n = cl := ⟨_, rfl⟩
  rw [hcl] at hex0 hlo hclen
  have HCL := bx hcl
  have HEX := bx hex0
  have HLO := bx hlo
  have HUS := bx hus
  have HSE := bx hseen
  have HSA := bx hsa
  have HSTB := bx (And.intro hst hsb)
  clear hn hsh hus hus' hseen hex0 hlo hcl hst hsb hsa h hx
  go_enter Try.func21, Try.ntmps21
  go_wp2_with fail
  refine (show Calls Try.prog 76 #[.int .u8 q, .slice A l.length c, .int .i64 12] _ _ from HM.out).mono ?_
  rintro e X ⟨AG, cG, rfl, hL, hbX⟩
  have hF : From w X := hbX
  go_wp2_with fail
  obtain ⟨W0, hW0⟩ : ∃ W0, X.alloc (.cells #[.int .i64 n, .slice AG sh.length cG] 108) = W0 := ⟨_, rfl⟩
  have hX0 : From X W0 := by rw [← hW0]; exact (Below.refl _ _).alloc (Nat.le_refl _) _
  have HG := bx (show Dg.GAt W0 X.heap.size n AG cG sh by rw [← hW0]; exact Dg.gat_new X n AG cG sh _)
  have hF0 := hF.trans hX0
  rw [hW0]
  have hGL := bx (Dg.From.lists hX0 hL)
  clear hW0 hX0 hL hF hbX HM
  refine (Dg.bits_val y sh.length W0 hy0 hy1 (by omega) us HUS.out).mono ?_
  rintro e W1 ⟨AU, cU, rfl, hU, hx1⟩
  have k1 : From W0 W1 := hx1
  obtain ⟨g0, g1⟩ := HG.out.from k1
  go_wp2_with fail
  refine (Dg.shown_val n AG cG sh AU cU us W1 (Dg.From.lists k1 hGL.out) (by omega) hU (by omega) (by omega) seen HSE.out).mono ?_
  rintro e W2 ⟨AS, cS, rfl, hS, hx2⟩
  have k2 : From W1 W2 := hx2
  have HG2 := bx (HG.out.from (k1.trans k2))
  have HL2 := bx (Dg.From.lists (k1.trans k2) hGL.out)
  have HU2 := bx (Dg.From.ints k2 hU)
  have HS2 := bx hS
  have HF2 := bx (hF0.trans (k1.trans k2))
  clear g0 g1 hx1 hx2 hU hS k1 k2 hF0 HG hGL HUS
  go_wp2_with fail
  go_loopw [10, 11, 12] (fun v1 v2 i wr => ∃ k : Nat, k ≤ n ∧ i = .int .i64 k ∧ Bx (AllAt W2 wr v1 v2 (.slice none 0 0) (fresh (monsS k)) (valsS seen k) [])) (fun _ _ i _ => n - (intOf i).toNat)
  case atStart => exact ⟨0, Nat.zero_le _, rfl, ⟨AllAt.start W2⟩⟩
  case round =>
    obtain ⟨k, hk, rfl, HB⟩ := hrel
    have hsz := Below.size HB.out.from_
    obtain ⟨g0, g1⟩ := HG2.out.from HB.out.from_
    by_cases hlt : k < n
    · have z3 : decide ((k : Int) < (n : Int)) = true := decide_eq_true (by omega)
      have hfl : (fresh (monsS k)).length = k := by rw [fresh_len, monsS_len]
      have ho1 := HB.out.o1
      rw [hfl] at ho1
      have HO1 := bx ho1
      clear ho1
      go_upto_region 10 with (at_builtin; refine app_sl rfl _ _ 85 rfl Try.elMon rfl (HO1.out.alloc _) 1 (mcs ⟨(k : Int), 0, 0, 1, 1, (k : Int), [], false⟩ (.slice none 0 0)).toList rfl (sl_new wr (mcs ⟨(k : Int), 0, 0, 1, 1, (k : Int), [], false⟩ (.slice none 0 0)).toList 71 1 1) rfl (by simp [Value.oneCell']) (by omega) (by unfold maxLen; omega) (by simp; omega) ?_; intro A5 c5 w5 o5 g5 b5)
      have o6 : w5.ownsRow W2.heap.size 71 8 (.slice A5 (k + 1) c5) ((fresh (monsS k)).length + 1) (mlc (fresh (monsS k) ++ [(monS k, .slice none 0 0)])) := by rw [hfl, mlc_append]; simpa [mlc, monS] using o5
      have HB5 := bx ((HB.out.call (From.alloc (From.refl _) _)).app1 (monS k, .slice none 0 0) o6 g5 b5 ⟨.inl ⟨rfl, rfl, rfl⟩⟩)
      rw [show fresh (monsS k) ++ [(monS k, Value.slice none 0 0)] = fresh (monsS (k + 1)) by rw [monsS_succ]; simp [fresh]] at HB5
      clear o5 o6 g5 b5 HB HO1 g0 g1
      have hs5 := Below.size HB5.out.from_
      have hvl := valsS_len seen k
      obtain ⟨tt, htt⟩ : ∃ z, seen.contains (k : Int) = z := ⟨_, rfl⟩
      have hV := valsS_succ seen k
      rw [htt] at hV
      have HHAS := bx (Dg.has_val AS cS seen k w5 (Dg.From.ints HB5.out.from_ HS2.out) (by omega) tt htt)
      have HV := bx hV
      have ho2 := HB5.out.o2
      rw [hvl] at ho2
      have HO2 := bx ho2
      clear hV htt ho2
      go_wp2_with fail
      refine HHAS.out.mono ?_
      rintro e w6 ⟨rfl, hw6⟩
      obtain rfl := hw6
      cases tt
      · go_wp2_with (at_builtin; refine app_sl rfl _ _ 22 rfl Try.elInt rfl (HO2.out.alloc _) 1 [.int .i64 0] rfl (sl_new w6 [.int .i64 0] 3 1 1) rfl (by simp [Value.oneCell']) (by omega) (by unfold maxLen; omega) (by simp; omega) ?_; intro A7 c7 w7 o7 g7 b7)
        have o8 : w7.ownsRow W2.heap.size 3 1 (.slice A7 (k + 1) c7) (valsS seen (k + 1)).length (ic (valsS seen (k + 1))) := by rw [valsS_len, HV.out]; simpa [ic] using o7
        exact ⟨⟨k + 1, by omega, by go_num, ⟨(HB5.out.call (From.alloc (From.refl _) _)).app2 o8 g7 b7⟩⟩, by simp [intOf]; omega⟩
      · go_wp2_with (at_builtin; refine app_sl rfl _ _ 22 rfl Try.elInt rfl (HO2.out.alloc _) 1 [.int .i64 1] rfl (sl_new w6 [.int .i64 1] 3 1 1) rfl (by simp [Value.oneCell']) (by omega) (by unfold maxLen; omega) (by simp; omega) ?_; intro A7 c7 w7 o7 g7 b7)
        have o8 : w7.ownsRow W2.heap.size 3 1 (.slice A7 (k + 1) c7) (valsS seen (k + 1)).length (ic (valsS seen (k + 1))) := by rw [valsS_len, HV.out]; simpa [ic] using o7
        exact ⟨⟨k + 1, by omega, by go_num, ⟨(HB5.out.call (From.alloc (From.refl _) _)).app2 o8 g7 b7⟩⟩, by simp [intOf]; omega⟩
    · obtain rfl : k = n := by omega
      have hfl : (fresh (monsS k)).length = k := by rw [fresh_len, monsS_len]
      have hvl := valsS_len seen k
      have ho1 := HB.out.o1
      have ho2 := HB.out.o2
      rw [hfl] at ho1
      rw [hvl] at ho2
      obtain ⟨A1, c1, rfl⟩ := slice_form ho1
      obtain ⟨A2, c2, rfl⟩ := slice_form ho2
      obtain ⟨nw, hnw⟩ : ∃ z, allM (valsS seen k) (monsS k) = z := ⟨_, rfl⟩
      obtain ⟨ds, hds⟩ : ∃ z, evs (dxM (valsS seen k)) (monsS k) = z := ⟨_, rfl⟩
      have hrs := raised_S seen k HSTB.out.1 HSTB.out.2
      rw [hnw] at hrs
      have hnl : nw.length = k := by rw [← hnw]; simp [allM, monsS_len]
      have HALL := bx (show Calls Try.prog 66 #[.slice A1 k c1, .slice A2 k c2] wr (AllPost wr nw seen ds) from by
        have hM : Mons wr (.slice A1 (monsS k).length c1) (monsS k) := by rw [monsS_len]; exact HB.out.mons (fresh_fst _)
        have hI : Ints wr (.slice A2 (valsS seen k).length c2) (valsS seen k) := by rw [show (Value.slice A2 (valsS seen k).length c2) = .slice A2 k c2 by rw [hvl]]; exact sl_of_own HB.out.o2
        have := all_calls A1 c1 (monsS k) A2 c2 (valsS seen k) wr hM hI (by rw [monsS_len]; omega) (fun m hm => by
          obtain ⟨s, _, rfl⟩ := List.mem_map.1 hm
          exact ⟨by show (0 : Int) ≤ (s : Int); omega, by simp [monS]⟩) nw seen ds hnw (ups_S seen k HSTB.out.1 HSTB.out.2) hds
        rwa [monsS_len, hvl] at this)
      have hfw := HB.out.from_
      have HG3 := bx (HG2.out.from hfw)
      have HL3 := bx (Dg.From.lists hfw HL2.out)
      have HU3 := bx (Dg.From.ints hfw HU2.out)
      have HS3 := bx (Dg.From.ints hfw HS2.out)
      have HF3 := bx (HF2.out.trans hfw)
      have HRS := bx hrs
      clear HB ho1 ho2 hnw hds hrs hfw HG2 HL2 HU2 HS2 HF2 hsz
      go_wp2_with fail
      refine HALL.out.mono ?_
      rintro e w3 ⟨E1, f1, E2, f2, E3, f3, rfl, q1, q2, q3, k3⟩
      have HQ1 := bx q1
      clear q1 q2 q3
      rw [show nw.length = k from hnl]
      go_wp2_with fail
      have HRA := bx (raised_calls E1 f1 nw w3 HQ1.out (by omega) seen HRS.out)
      rw [hnl] at HRA
      refine HRA.out.mono ?_
      rintro e w4 ⟨G1, gg1, rfl, q4, k4⟩
      have k34 := k3.trans k4
      have HG4 := bx (HG3.out.from k34)
      have HL4 := bx (Dg.From.lists k34 HL3.out)
      have HU4 := bx (Dg.From.ints k34 HU3.out)
      have HS4 := bx (Dg.From.ints k34 HS3.out)
      have HF4 := bx (HF3.out.trans k34)
      have HN4 := bx (dg_ints q4)
      clear q4 k3 k4 k34 HG3 HL3 HU3 HS3 HF3 HQ1
      go_wp2_with fail
      go_loopw [17, 18] (fun v i wr => ∃ j : Nat, j ≤ k ∧ i = .int .i64 j ∧ Bx (wr.ownsRow w4.heap.size 3 1 v (Dg.clearOf seen (Dg.units k) j).length (ic (Dg.clearOf seen (Dg.units k) j)) ∧ From w4 wr)) (fun _ i _ => k - (intOf i).toNat)
      case atStart => exact ⟨0, Nat.zero_le _, rfl, ⟨own_nil _ _ _ _, From.refl _⟩⟩
      case round =>
        obtain ⟨j, hj, rfl, HB⟩ := hrel
        have hsz := Below.size HB.out.2
        obtain ⟨g0, g1⟩ := HG4.out.from HB.out.2
        have hCl := Dg.clearOf_le seen (Dg.units k) j
        by_cases hlt : j < k
        · have z3 : decide ((j : Int) < (k : Int)) = true := decide_eq_true (by omega)
          have hB := Dg.clearOf_succ seen (Dg.units k) j
          have huj : (Dg.units k).contains (j : Int) = true := by simpa using (mem_units (n := k) (x := (j : Int))).2 ⟨by omega, by omega⟩
          rw [huj, Bool.and_true] at hB
          obtain ⟨tt, htt⟩ : ∃ z, seen.contains (j : Int) = z := ⟨_, rfl⟩
          rw [htt] at hB
          have HHAS := bx (Dg.has_val G1 gg1 seen j wr (Dg.From.ints HB.out.2 HN4.out) (by omega) tt htt)
          have HBB := bx hB
          have HO := bx HB.out.1
          clear hB huj htt
          go_wp2_with fail
          refine HHAS.out.mono ?_
          rintro e w6 ⟨rfl, hw6⟩
          obtain rfl := hw6
          cases tt
          · have hB2 : Dg.clearOf seen (Dg.units k) (j + 1) = Dg.clearOf seen (Dg.units k) j ++ [(j : Int)] := by have := HBB.out; simpa using this
            have HB2 := bx hB2
            clear hB2
            go_wp2_with (at_builtin; refine app_sl rfl _ _ 22 rfl Try.elInt rfl (HO.out.alloc _) 1 [.int .i64 j] rfl (sl_new w6 [.int .i64 j] 3 1 1) rfl (by simp [Value.oneCell']) (by omega) (by unfold maxLen; omega) (by simp; omega) ?_; intro A7 c7 w7 o7 g7 b7)
            have k7 : From w4 w7 := From.app (HB.out.2.alloc _) (HO.out.alloc _) (Nat.le_refl _) g7
            exact ⟨⟨j + 1, by omega, by go_num, ⟨by rw [HB2.out, List.length_append, ic_append]; exact o7, k7⟩⟩, by simp [intOf]; omega⟩
          · have hB2 : Dg.clearOf seen (Dg.units k) (j + 1) = Dg.clearOf seen (Dg.units k) j := by have := HBB.out; simpa using this
            have HB2 := bx hB2
            clear hB2
            go_wp2_with fail
            exact ⟨⟨j + 1, by omega, by go_num, ⟨by rw [HB2.out]; exact HO.out, HB.out.2⟩⟩, by simp [intOf]; omega⟩
        · obtain rfl : j = k := by omega
          have hown := HB.out.1
          rw [HCL.out] at hown
          obtain ⟨AC, cC, rfl⟩ := slice_form hown
          have kw := HB.out.2
          have HC5 := bx (dg_ints (sl_of_own hown))
          have HG5 := bx (HG4.out.from kw)
          have HL5 := bx (Dg.From.lists kw HL4.out)
          have HU5 := bx (Dg.From.ints kw HU4.out)
          have HS5 := bx (Dg.From.ints kw HS4.out)
          have HN5 := bx (Dg.From.ints kw HN4.out)
          have HF5 := bx (HF4.out.trans kw)
          clear hown HB hCl hsz kw HG4 HL4 HU4 HS4 HN4 HF4
          go_wp2_with fail
          refine (Dg.least_some j AG cG sh G1 gg1 seen AC cC cl wr HL5.out (by omega) HN5.out (by omega) HC5.out (by omega) a HLO.out).mono ?_
          rintro e w5 ⟨A3, c3, rfl, hI5, hx5⟩
          have k5 : From wr w5 := hx5
          have HI5 := bx hI5
          have HG6 := bx (HG5.out.from k5)
          clear g0 g1 hI5 hx5
          go_wp2_with fail
          refine (Dg.same_val G1 AS gg1 cS seen seen w5 (Dg.From.ints k5 HN5.out) (Dg.From.ints k5 HS5.out) (by omega) true (by simp)).mono ?_
          rintro e w6' ⟨rfl, q6, rfl⟩
          have k6 : From w5 (w5.drewN q6) := From.drewN (From.refl _) q6
          generalize w5.drewN q6 = w6 at *
          have k56 := k5.trans k6
          obtain ⟨g0, g1⟩ := HG5.out.from k56
          go_wp2_with fail
          refine (Dg.explains_calls j AG cG sh AU cU us G1 gg1 seen AC cC cl w6 (Dg.From.lists k56 HL5.out) (by omega) (Dg.From.ints k56 HU5.out) (by omega) (Dg.From.ints k56 HN5.out) (by omega) (Dg.From.ints k56 HC5.out) (by omega) true HEX.out).mono ?_
          rintro e w7 ⟨rfl, hx7⟩
          have k7 : From w6 w7 := hx7
          have k57 := k56.trans k7
          clear g0 g1 hx7
          obtain ⟨g0, g1⟩ := HG5.out.from k57
          go_wp2_with fail
          refine (Dg.shown_val j AG cG sh A3 c3 a w7 (Dg.From.lists k57 HL5.out) (by omega) (Dg.From.ints (k6.trans k7) HI5.out) (by omega) (by omega) seen HSA.out).mono ?_
          rintro e w8 ⟨A9, c9, rfl, hI9, hx9⟩
          have k8 : From w7 w8 := hx9
          have k58 := k57.trans k8
          have HI9 := bx hI9
          clear g0 g1 hx9 hI9
          go_wp2_with fail
          refine (Dg.same_val A9 G1 c9 gg1 seen seen w8 HI9.out (Dg.From.ints k58 HN5.out) (by omega) true (by simp)).mono ?_
          rintro e w9' ⟨rfl, q9, rfl⟩
          have k9 : From w8 (w8.drewN q9) := From.drewN (From.refl _) q9
          generalize w8.drewN q9 = w9 at *
          have HFE := bx (HF5.out.trans (k58.trans k9))
          clear k5 k6 k56 k7 k57 k8 k58 k9
          go_wp2_with fail
          refine (Dg.lives_calls _).mono ?_
          rintro e wE ⟨rfl, hxE⟩
          go_wp2
          go_ret
          exact ⟨rfl, HFE.out.trans hxE⟩
set_option maxRecDepth 100000 in
theorem dmo_lifted (os : Os) (started : os.Started) (H : Type) (enc : TypeId × Value → H) :
    ReturnsInHanded {} Try.checked os 21 .any (Rows.diagnoseMonitorsSpec.pre6 enc Try.prog Try.f21 Rows.diagnoseMonitorsRow.domain false) (Rows.diagnoseMonitorsSpec.post enc Try.prog Try.f21 false true false false) := by
  refine returnsInHanded_of_change (C := Try.checked) own started (by kernel_rfl) Try.func21
    (ChangeSpec.witness6 (enc := enc) (C := Try.checked) false ⟨#[], #[.int .u8 0, .slice none 0 0, .int .u16 0], []⟩ 8 (by kernel_rfl) (by kernel_rfl) (by kernel_rfl) (by kernel_rfl)) ?_
  intro W base args ds gs before hval0 hW hcnd _
  have hval : ∀ (j : Nat) t v, Try.f21.params[j]? = some t → args[j]? = some v → Value.okWide Try.prog W .any base t v := hval0
  have hW' := hW
  obtain ⟨p, q, hA0, hV, rfl, hfz, hnd⟩ := hW
  have hA : DataW.TrodAll enc Try.prog W 0 (fun _ => true) true Try.f21.params.toList args.toList ds p := hA0
  rw [Try.params21] at hA hval
  obtain ⟨v0, vs0, d0, ds0, p0, q0, hargs, rfl, rfl, h0, r0⟩ := trodAll_cons hA
  obtain ⟨v1, vs1, d1, ds1, p1, q1, rfl, rfl, rfl, h1, r1⟩ := trodAll_cons r0
  obtain ⟨v2, vs2, d2, ds2, p2, q2, rfl, rfl, rfl, h2, r2⟩ := trodAll_cons r1
  obtain ⟨rfl, rfl, rfl⟩ := trodAll_nil r2
  obtain rfl : args = #[v0, v1, v2] := by cases args; simp_all
  obtain ⟨rfl, rfl⟩ := trodVars_none hV
  obtain ⟨a0, rfl, _, _, w0⟩ := open_int Try.underlying5 (hval 0 5 v0 rfl rfl) h0
  simp only [Lit.wf, Bool.and_eq_true, decide_eq_true_eq] at w0
  obtain ⟨A1, c1, l1, rfl, hB1, hm1, hx1⟩ := open_bytsv (hval 1 31 v1 rfl rfl) h1
  obtain ⟨a2, rfl, _, _, w2⟩ := open_int Try.underlying106 (hval 2 106 v2 rfl rfl) h2
  simp only [Lit.wf, Bool.and_eq_true, decide_eq_true_eq] at w2
  refine (dmo_walk a0 A1 c1 l1 a2 W w0.1 w0.2 hB1 hm1 hx1 w2.1 w2.2).mono fun e W' ⟨he, hb⟩ => ?_
  subst he
  exact ⟨_, rfl, law_post Try.laid (by kernel_rfl) rfl rfl Try.underlying4 rfl hW' hb⟩
theorem dmo_facts : joinedFacts Try.prog 21 Try.f21 Rows.diagnoseMonitorsSpec Rows.diagnoseMonitorsRow = true := by
  unfold joinedFacts
  rw [fact_enter, fact_lift, fact_make, fact_keys, fact_heard, fact_maps, Try.laid]
  kernel_rfl
theorem dmo_holds : Rows.DiagnoseMonitorsSaid :=
  OpenClaim.holds_of_wide 21 Try.f21 rfl rfl rfl rfl rfl rfl rfl ⟨rfl, rfl, rfl, rfl, rfl⟩ rfl rfl rfl rfl rfl (by kernel_rfl) Try.func21 dmo_facts
    (of_decide_eq_true (by kernel_rfl)) (by unfold Func.isWrapper; first | (rw [if_pos (by decide +kernel)]; kernel_rfl) | (rw [if_neg (by decide +kernel)]; exact ⟨rfl, rfl⟩))
    (fun os started H enc _ => dmo_lifted os started H enc)
#print axioms dmo_holds
end Go.Proofs.Ytlogokjjphlkkaa
