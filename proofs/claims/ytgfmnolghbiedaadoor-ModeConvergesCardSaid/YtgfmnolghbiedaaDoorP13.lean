/-
  Walks of layer 31: the specification's React.
-/
import Derived.Test.YtgfmnolghbiedaaDoorP10
import Derived.Test.YtgfmnolghbiedaaDoorP3
namespace Go.Proofs.YtgfmnolghbiedaaDoor
open Go.RowKit Go.Shelf

theorem stops_ref {s : RS} {u : Int} (hb : 0 ≤ s.bud) (hg : GoodU s.us) (hu : 0 ≤ u) : ¬ stops s u ↔ (u < s.us.length ∧ 0 < s.bud ∧ (s.us.getD u.toNat (0, 0)).1 + 1 < (s.us.getD u.toNat (0, 0)).2) := by
  constructor
  · intro h
    have h1 : u.toNat < s.us.length := by
      by_cases h1 : u.toNat < s.us.length
      · exact h1
      · exact absurd (.inl (by omega)) h
    have h2 : ¬ s.bud = 0 := fun e => h (.inr (.inl e))
    have h3 : ¬ (s.us.getD u.toNat (0, 0)).1 + 1 = (s.us.getD u.toNat (0, 0)).2 := fun e => h (.inr (.inr e))
    have hd : s.us.getD u.toNat (0, 0) = s.us[u.toNat] := by simp [List.getD_eq_getElem?_getD, List.getElem?_eq_getElem h1]
    obtain ⟨g1, g2, g3⟩ := hg _ (List.getElem_mem h1)
    rw [hd] at h3 ⊢
    omega
  · rintro ⟨h1, h2, h3⟩ (h | h | h)
    · omega
    · omega
    · omega
/-- the state of the specification's loop: the level is settled behind it -/
theorem runR_lev (s : RS) (l : List Int) : (runR s l).lev = if (runR s l).sw.length < s.sw.length + l.length then 2 else s.lev := by
  induction l generalizing s with
  | nil => simp [runR]
  | cons u t ih =>
    show (runR (stepR s u) t).lev = if (runR (stepR s u) t).sw.length < _ then 2 else _
    rw [ih (stepR s u)]
    have hle := runR_sw (stepR s u) t
    by_cases h : stops s u
    · have e1 : (stepR s u).sw = s.sw := by rw [stepR, if_pos h]
      have e2 : (stepR s u).lev = 2 := by rw [stepR, if_pos h]
      rw [e1] at hle ⊢
      rw [e2]
      simp only [List.length_cons]
      rw [if_pos (show (runR (stepR s u) t).sw.length < s.sw.length + (t.length + 1) by omega)]
      split <;> rfl
    · have e1 : (stepR s u).sw.length = s.sw.length + 1 := by rw [stepR, if_neg h]; simp
      have e2 : (stepR s u).lev = s.lev := by rw [stepR, if_neg h]
      rw [e1] at hle ⊢
      rw [e2]
      simp only [List.length_cons]
      by_cases hc : (runR (stepR s u) t).sw.length < s.sw.length + 1 + t.length
      · rw [if_pos hc, if_pos (show (runR (stepR s u) t).sw.length < s.sw.length + (t.length + 1) by omega)]
      · rw [if_neg hc, if_neg (show ¬ (runR (stepR s u) t).sw.length < s.sw.length + (t.length + 1) by omega)]
/-- what the loop over an explanation keeps -/
def RLoop (b B0 B1 : Nat) (A3 : Option Addr) (c3 n : Nat) (lev : Int) (s0 : RS) (At : Option Addr) (ct : Nat) (t : List Int) (W0 wF : World) (v i : Value) (wr : World) : Prop :=
  ∃ k : Nat, k ≤ t.length ∧ i = .int .i64 k ∧ wr.heap[b]? = some (.cells #[.int .i64 lev, .int .i64 (runR s0 (t.take k)).bud, .slice A3 n c3] 24 (0, 0)) ∧
    wr.ownsRow B0 44 2 (.slice A3 n c3) n (uc (runR s0 (t.take k)).us) ∧ wr.ownsRow B1 3 1 (.slice At t.length ct) t.length (ic t) ∧ wr.ownsRow wF.heap.size 3 1 v (runR s0 (t.take k)).sw.length (ic (runR s0 (t.take k)).sw) ∧ From W0 wr ∧ wF.heap.size ≤ wr.heap.size
theorem apart_box {W : World} {b base n c g : Nat} {lev bud : Int} {A : Option Addr} {m c' : Nat} {xs : List Value} (h : W.heap[b]? = some (.cells #[.int .i64 lev, .int .i64 bud, .slice A m c'] 24 (0, 0))) (ho : W.ownsRow base 44 2 (.slice (some ⟨g, 0, none⟩) n c) n xs) : g ≠ b := by
  rintro rfl
  rcases ho.2 with ⟨hv, _⟩ | ⟨g', cap, cur, hv, _, hh, _⟩
  · cases hv
  · have hg : g = g' := by injection hv with h1; injection h1 with h1; injection h1
    rw [← hg, h] at hh
    injection hh with hh
    injection hh with _ h2 _
    exact absurd h2 (by decide)
set_option maxHeartbeats 4000000 in
set_option maxRecDepth 10000 in
theorem refReact_calls (lev bud : Int) (v : Value) (us : UL) (n : Int) (AG : Option Addr) (cG : Nat) (sh : List (List Int)) (AS : Option Addr) (cS : Nat) (seen : List Int) (AC : Option Addr) (cC : Nat) (clear : List Int) (w : World)
    (h : US w w.heap.size v us) (hm : us.length ≤ 8796093022208) (hb0 : 0 ≤ bud) (hb1 : bud ≤ 9223372036854775807) (hg : GoodU us)
    (hl : Lists w w.heap.size AG sh) (hn : sh.length ≤ 20) (h1 : Ints w w.heap.size AS seen) (hm1 : seen.length ≤ 9223372036854775807) (h2 : Ints w w.heap.size AC clear) (hm2 : clear.length ≤ 9223372036854775807)
    (r : RS) (hr : reactM lev bud us sh seen clear = r) :
    Calls Tryd.prog 19 #[.agg #[.int .i64 lev, .int .i64 bud, v], .agg #[.int .i64 n, .slice AG sh.length cG], .slice AS seen.length cS, .slice AC clear.length cC] w (ReactPost w r) := by
  obtain ⟨i0, hi, hz0, hz1, hz2⟩ := info_parts Tryd.infoInt
  obtain ⟨A, c, rfl⟩ := h.form
  have H := bx h
  have HGOOD := bx hg
  clear h hg
  obtain ⟨Wa, hWa⟩ : ∃ Wa, w.alloc (.cells #[.int .i64 lev, .int .i64 bud, .slice A us.length c] 24) = Wa := ⟨_, rfl⟩
  obtain ⟨Wb, hWb⟩ : ∃ Wb, Wa.alloc (.cells #[.int .i64 n, .slice AG sh.length cG] 35) = Wb := ⟨_, rfl⟩
  obtain ⟨W0, hW0⟩ : ∃ W0, Wb.alloc (.cells #[.int .i64 0, .int .i64 0, .slice none 0 0] 24) = W0 := ⟨_, rfl⟩
  have hFa : From w Wa := by rw [← hWa]; exact From.alloc (Below.refl _ _) _
  have hFb : From Wa Wb := by rw [← hWb]; exact From.alloc (Below.refl _ _) _
  have hFc : From Wb W0 := by rw [← hW0]; exact From.alloc (Below.refl _ _) _
  have hF0 : From w W0 := hFa.trans (hFb.trans hFc)
  have sa : Wa.heap.size = w.heap.size + 1 := by rw [← hWa]; simp
  have sb : Wb.heap.size = w.heap.size + 2 := by rw [← hWb]; simp; omega
  have s0 : W0.heap.size = w.heap.size + 3 := by rw [← hW0]; simp; omega
  have HM := bx (show MCell W0 w.heap.size lev bud A us.length c by have := mcell_new w lev bud A us.length c; rw [hWa] at this; exact this.from (hFb.trans hFc))
  have HGC := bx (show GAt W0 (w.heap.size + 1) n AG cG sh by have := gat_new Wa n AG cG sh 35; rw [hWb, sa] at this; exact this.from hFc)
  have HR := bx (show RCell W0 (w.heap.size + 2) by have := rcell_new Wb; rw [hW0, sb] at this; exact this)
  have HL := bx (hF0.lists hl)
  have HS := bx (hF0.ints h1)
  have HC := bx (hF0.ints h2)
  obtain ⟨q0, q1, q2⟩ := HM.out.facts
  clear hl h1 h2 hFa hFb hFc
  have HCP := bx (fun (W : World) (k : From W0 W) => copied_calls (.slice A us.length c) us W (H.out.from (hF0.trans k)) hm)
  have HK := bx (fun (W : World) (k : From W0 W) => (show From W0 W ∧ W.cell? ⟨w.heap.size, 0, none⟩ = some (.int .i64 lev) ∧ W.cell? ⟨w.heap.size, 1, none⟩ = some (.int .i64 bud) ∧ W.cell? ⟨w.heap.size, 2, none⟩ = some (.slice A us.length c) from ⟨k, (HM.out.from k).facts⟩))
  have hFF : From W0 W0 := Below.refl _ _
  go_enter Tryd.func19, Tryd.ntmps19
  go_wp2_with fail
  refine region_cut (fun a0 a' w' => ∃ (u16 u17 u18 u19 u20 u21 u22 u23 : Value) (b : Nat) (A3 : Option Addr) (c3 : Nat), a' = puts a0 [(16, u16), (17, u17), (18, u18), (19, u19), (20, u20), (21, u21), (22, u22), (23, u23), (10, .pointer (some ⟨b, 0, none⟩))] ∧ From W0 w' ∧ MCell w' b lev bud A3 us.length c3 ∧ W0.heap.size ≤ b ∧ w'.ownsRow W0.heap.size 44 2 (.slice A3 us.length c3) us.length (uc us)) (fun K' HKK => ?_) ?_
  · go_region_held3 (fun W => From W0 W ∧ W.cell? ⟨w.heap.size, 0, none⟩ = some (.int .i64 lev) ∧ W.cell? ⟨w.heap.size, 1, none⟩ = some (.int .i64 bud) ∧ W.cell? ⟨w.heap.size, 2, none⟩ = some (.slice A us.length c))
      (first | exact HK.out _ (From.drew hFF) | (go_split_ands; exact HK.out _ (From.trans (by assumption) hx)) | (go_split_ands; exact HK.out _ (From.alloc (by assumption) _)) | (go_split_ands; exact HK.out _ (set3_from (by assumption) (by omega) _ _ _)) | (go_split_ands; exact HK.out _ (From.alloc (From.trans (From.drew hFF) hx) _)))
      (first | (go_at_call 37; (with_reducible refine (HCP.out _ (by go_split_ands; assumption)).mono ?_); rintro e w3 ⟨A3, c3, rfl, o3, hx⟩; first | (have HRC := RCell.from (rcell_new W0.drew) hx; rw [show W0.drew.heap.size = w.heap.size + 3 from s0] at HRC; obtain ⟨r0, r1, r2, t0, t1, t2⟩ := HRC.facts) | skip))
    all_goals first
      | (exact HKK.out _ _ ⟨_, _, _, _, _, _, _, _, _, A3, c3, (by simp only [puts, Act.put, List.setIfInBounds_toArray, List.set_cons_zero, List.set_cons_succ]; rfl), From.alloc (From.trans (From.drew hFF) hx) _, mcell_new w3 _ _ _ _ _, Below.size (From.trans (From.drew hFF) hx), o3.alloc _⟩)
      | (exact HKK.out _ _ ⟨_, _, _, _, _, _, _, _, _, A3, c3, (by simp only [puts, Act.put, List.setIfInBounds_toArray, List.set_cons_zero, List.set_cons_succ]; rfl), set3_from (From.trans (From.alloc (From.drew hFF) _) hx) (by omega) _ _ _, ⟨heap_set_at (heap_set_at (heap_set_at HRC.out 0 _) 1 _) 2 _⟩, by omega, own_base (set3_own o3 (by simp; omega) _ _ _) (by simp)⟩)
  · rintro a' w3 ⟨u16, u17, u18, u19, u20, u21, u22, u23, b, A3, c3, rfl, k3, hMb, hb, o3⟩
    rename_i K0 hK0
    apply hK0
    simp only [puts, Act.put, List.setIfInBounds_toArray, List.set_cons_zero, List.set_cons_succ]
    have HMB := bx hMb
    have HO := bx o3
    have hF3 := hF0.trans k3
    have hbl : b < w3.heap.size := (Array.getElem?_eq_some_iff.1 hMb.out).1
    have HR3 := bx (HR.out.from k3)
    have HG3 := bx (HGC.out.from k3)
    have HM3 := bx (HM.out.from k3)
    have HL3 := bx (k3.lists HL.out)
    have HS3 := bx (k3.ints HS.out)
    have HC3 := bx (k3.ints HC.out)
    have HU3 := bx (H.out.from hF3)
    have k3s := Below.size k3
    clear q0 q1 q2 HCP HK hFF o3 hMb hWa hWb hW0
    by_cases hs : seen = []
    · subst hs
      obtain rfl : r = ⟨lev, bud, us, []⟩ := by rw [← hr]; simp [reactM]
      clear hr
      obtain ⟨q0, q1, q2⟩ := HMB.out.facts
      obtain ⟨r0, r1, r2, t0, t1, t2⟩ := HR3.out.facts
      have hne : ¬ w.heap.size + 2 = b := by omega
      go_wp2
      refine bodyPost_ret (v := .tuple #[.agg #[.int .i64 lev, .int .i64 bud, .slice A3 us.length c3], .slice none 0 0]) (by simp [results, Tryd.results19, go_sem, r0, r1, r2]) rfl ⟨A3, c3, none, 0, rfl, own_base (set3_own HO.out (by omega) _ _ _) (by omega), World.ownsRow_nil _ _ _ _, set3_from hF3 (by omega) _ _ _⟩
    have hs1 : ((seen.length : Int) == 0) = false := by
      cases seen with
      | nil => exact absurd rfl hs
      | cons _ _ => simp; omega
    have hs2 : ¬ (seen.length : Int) = 0 := by
      cases seen with
      | nil => exact absurd rfl hs
      | cons _ _ => simp; omega
    obtain ⟨g0, g1⟩ := HG3.out
    go_wp2_with fail
    refine (refLeast_calls n AG cG sh AS cS seen AC cC clear w3 HL3.out hn HS3.out hm1 HC3.out hm2).mono ?_
    clear g0 g1
    rintro e w4 (⟨t, At, ct, hlo, rfl, ot, k4⟩ | ⟨hlo, rfl, k4⟩)
    · obtain ⟨htl, htm⟩ := least_mem hlo
      have HTM := bx (show ∀ x ∈ t, 0 ≤ x ∧ x ≤ 1000 from fun x hx => by have := htm x hx; omega)
      have hrr : r = runR ⟨max lev 1, bud, us, []⟩ t := by rw [← hr]; simp [reactM, hs, hlo]
      obtain ⟨st, hst⟩ : ∃ st : RS, st = ⟨max lev 1, bud, us, []⟩ := ⟨_, rfl⟩
      rw [← hst] at hrr
      have HRR := bx hrr
      have HST := bx hst
      have e4 : From w3 w4 := k4
      have z4 := Below.size e4
      have HRL := bx (show RLoop b W0.heap.size w3.heap.size A3 c3 us.length lev st At ct t W0 w4 (.slice none 0 0) (.int .i64 0) w4 from
        ⟨0, Nat.zero_le _, rfl, by show w4.heap[b]? = some (.cells #[.int .i64 lev, .int .i64 st.bud, .slice A3 us.length c3] 24 (0, 0)); rw [HST.out]; exact (HMB.out.from e4).out,
          by show w4.ownsRow _ _ _ _ _ (uc st.us); rw [HST.out]; exact own_from HO.out e4, ot, by show w4.ownsRow _ _ _ _ st.sw.length (ic st.sw); rw [HST.out]; exact World.ownsRow_nil _ _ _ _, k3.trans e4, Nat.le_refl _⟩)
      have HRT := bx ot
      have hsl : st.us.length = us.length := by rw [HST.out]
      have hss : st.sw = [] := by rw [HST.out]
      have hsb : st.bud = bud := by rw [HST.out]
      have HSG := bx (show GoodU st.us by rw [HST.out]; exact HGOOD.out)
      have HSS := bx hss
      have HSL := bx hsl
      have HSB := bx hsb
      have hFw : From w w4 := hF3.trans e4
      have HRW := bx (HR3.out.from e4)
      clear hr hs hlo htm hrr hst k4 ot e4 hss hsl hsb
      go_wp2
      go_loopw [13, 14, 15] (fun v i _ wr => RLoop b W0.heap.size w3.heap.size A3 c3 us.length lev st At ct t W0 w4 v i wr) (fun _ i _ _ => t.length - (intOf i).toNat)
      case atStart => exact HRL.out
      case round =>
        clear HRL
        obtain ⟨k, hk, rfl, hM, hU, hT, hFF, hbw, hsz⟩ := hrel
        obtain ⟨q0, q1, q2⟩ := (show MCell wr b lev (runR st (t.take k)).bud A3 us.length c3 from ⟨hM⟩).facts
        have f0 : wr.frozen? ⟨b, 0, none⟩ = false := by simp [World.frozen?, hM]
        have f1 : wr.frozen? ⟨b, 1, none⟩ = false := by simp [World.frozen?, hM]
        by_cases hlt : k < t.length
        · obtain ⟨bt, offt, rfl, hbt, g1⟩ := (ints_of_own hT).at_ k hlt
          have hx := HTM.out t[k] (List.getElem_mem hlt)
          have Hs := bx (show runR st (t.take (k + 1)) = stepR (runR st (t.take k)) t[k] by rw [List.take_succ_eq_append_getElem hlt, runR_snoc])
          generalize t[k] = u at *
          have hslw := runR_sw st (t.take k)
          rw [HSS.out, List.length_take] at hslw
          simp only [List.length_nil] at hslw
          have hlen := runR_len st (t.take k)
          rw [HSL.out] at hlen
          have hgood := runR_good (t.take k) HSG.out
          obtain ⟨d0, d1⟩ := runR_bud (s := st) (t.take k) (by rw [HSB.out]; exact hb0)
          rw [HSB.out] at d1
          obtain ⟨s, hs⟩ : ∃ s, runR st (t.take k) = s := ⟨_, rfl⟩
          rw [hs] at hM hU hFF hslw hlen hgood d0 d1 q1
          rw [hs] at Hs
          have hsr := stops_ref (s := s) (u := u) d0 hgood hx.1
          obtain ⟨gU, hgU, hcells⟩ := own_units hU
          have HMk := bx hM
          have HUk := bx hU
          have HTk := bx hT
          have HFk := bx hFF
          have HSR := bx hsr
          have HCE := bx hcells
          have HGD := bx hgood
          obtain ⟨ku, rfl⟩ : ∃ ku : Nat, u = ku := ⟨u.toNat, by omega⟩
          have hku : (ku : Int).toNat = ku := by omega
          clear hs hM hU hT hFF hsr hcells hgood
          by_cases hst : stops s (ku : Int)
          · have Hs2 := bx (show runR st (t.take (k + 1)) = { s with lev := 2 } by rw [Hs.out, stepR, if_pos hst])
            have FIN := bx (fun q => show RLoop b W0.heap.size w3.heap.size A3 c3 us.length lev st (some ⟨bt, offt, none⟩) ct t W0 w4 u13 (.int .i64 ((k + 1 : Nat) : Int)) (wr.drewN q) from
              ⟨k + 1, by omega, rfl, by rw [Hs2.out]; exact (heap_drewN wr q b).trans HMk.out, by rw [Hs2.out]; exact own_drewN HUk.out q, own_drewN HTk.out q, by rw [Hs2.out]; exact own_drewN HFk.out q, From.drewN hbw q, by rw [size_drewN]; exact hsz⟩)
            by_cases c1 : (ku : Int) < (us.length : Int)
            · have hk2 : ku < s.us.length := by omega
              obtain ⟨rfl, c2, c3', c4⟩ := HCE.out ku hk2
              by_cases c5 : 0 < s.bud
              · have hna : ¬ s.us[ku].1 + 1 < s.us[ku].2 := fun h => (HSR.out.2 ⟨by omega, c5, by rw [hku]; simpa [List.getD_eq_getElem?_getD, List.getElem?_eq_getElem hk2] using h⟩) hst
                obtain ⟨ga, gb, gc⟩ := HGD.out s.us[ku] (List.getElem_mem hk2)
                generalize s.us[ku] = x at *
                obtain ⟨xa, xb⟩ := x
                simp only at *
                have z3 : (0 : Int) ≤ (ku : Int) := by omega
                have ew : IntKind.i64.wrap (xa + 1) = xa + 1 := IntWalk.i64_in _ (by omega)
                go_wp2_with fail
                go_quiet (fail)
                go_wp2
                go_roundw
                case rel => exact FIN.out nq
                case measure => simp [intOf]; omega
              · have e0 : s.bud = 0 := by omega
                rw [e0] at q1
                clear c5 e0
                go_wp2_with fail
                go_quiet (fail)
                go_wp2
                go_roundw
                case rel => exact FIN.out nq
                case measure => simp [intOf]; omega
            · have c7 : us.length ≤ ku := by omega
              have c8 : decide (ku < us.length) = false := decide_eq_false (by omega)
              have c9 : decide ((ku : Int) < (us.length : Int)) = false := decide_eq_false c1
              have c10 : (ku < us.length) = False := by simp; omega
              clear hku c7
              go_wp2_with fail
              go_quiet (fail)
              go_wp2
              go_roundw
              case rel => exact FIN.out nq
              case measure => simp [intOf]; omega
          · obtain ⟨c1, c5, cna⟩ := HSR.out.1 hst
            have hk2 : ku < s.us.length := by omega
            have hd : s.us.getD ((ku : Int)).toNat (0, 0) = s.us[ku] := by rw [hku]; simp [List.getD_eq_getElem?_getD, List.getElem?_eq_getElem hk2]
            have Hs2 := bx (show runR st (t.take (k + 1)) = { s with bud := s.bud - 1, us := s.us.set ku (s.us[ku].1 + 1, s.us[ku].2), sw := s.sw ++ [(ku : Int)] } by rw [Hs.out, stepR, if_neg hst, hd, hku])
            rw [hd] at cna
            obtain ⟨rfl, c2, c3', c4⟩ := HCE.out ku hk2
            obtain ⟨ga, gb, gc⟩ := HGD.out s.us[ku] (List.getElem_mem hk2)
            have hgb : gU ≠ b := apart_box HMk.out HUk.out
            have hgl : gU < w3.heap.size := (HO.out.lt gU rfl).2
            have hU3 := bx (fun q => put_units (own_drewN HUk.out q) hk2 (s.us[ku].1 + 1))
            have F1 := bx (fun q => (show (((wr.drewN q).setCell ⟨gU, ku * 2, none⟩ (.int .i64 (s.us[ku].1 + 1))).setCell ⟨b, 1, none⟩ (.int .i64 (s.bud - 1))).heap[b]? = some (.cells #[.int .i64 lev, .int .i64 (s.bud - 1), .slice (some ⟨gU, 0, none⟩) us.length c3] 24 (0, 0)) from
              heap_set_at ((Below.heap_setCell _ _ _ _ (Ne.symm hgb)).trans ((heap_drewN wr q b).trans HMk.out)) 1 _))
            have F2 := bx (fun q => (show (((wr.drewN q).setCell ⟨gU, ku * 2, none⟩ (.int .i64 (s.us[ku].1 + 1))).setCell ⟨b, 1, none⟩ (.int .i64 (s.bud - 1))).ownsRow W0.heap.size 44 2 (.slice (some ⟨gU, 0, none⟩) us.length c3) us.length (uc (s.us.set ku (s.us[ku].1 + 1, s.us[ku].2))) from
              ownsRow_setCell_other (hU3.out q) (by simp [Value.ownBlock]; exact hgb) _))
            have F3 := bx (fun q => (show (((wr.drewN q).setCell ⟨gU, ku * 2, none⟩ (.int .i64 (s.us[ku].1 + 1))).setCell ⟨b, 1, none⟩ (.int .i64 (s.bud - 1))).ownsRow w4.heap.size 3 1 u13 s.sw.length (ic s.sw) from
              own_setCell (own_setCell (own_drewN HFk.out q) (by show gU < _; omega) _) (by show b < _; omega) _))
            have F4 := bx (fun q => (show (((wr.drewN q).setCell ⟨gU, ku * 2, none⟩ (.int .i64 (s.us[ku].1 + 1))).setCell ⟨b, 1, none⟩ (.int .i64 (s.bud - 1))).ownsRow w3.heap.size 3 1 (.slice (some ⟨bt, offt, none⟩) t.length ct) t.length (ic t) from
              own_setCell (own_setCell (own_drewN HTk.out q) (by show gU < _; omega) _) (by show b < _; omega) _))
            have F5 := bx (fun q => (show From W0 (((wr.drewN q).setCell ⟨gU, ku * 2, none⟩ (.int .i64 (s.us[ku].1 + 1))).setCell ⟨b, 1, none⟩ (.int .i64 (s.bud - 1))) from
              Below.setCell (Below.setCell (From.drewN hbw q) (p := ⟨gU, ku * 2, none⟩) (HO.out.lt gU rfl).1 _) (p := ⟨b, 1, none⟩) hb _))
            have hfw : ∀ q x, ((wr.drewN q).setCell ⟨gU, ku * 2, none⟩ x).cell? ⟨b, 1, none⟩ = some (.int .i64 s.bud) := fun q x =>
              (World.cell?_setCell_far (wr.drewN q) ⟨gU, ku * 2, none⟩ ⟨b, 1, none⟩ x hgb).trans ((show (wr.drewN q).cell? ⟨b, 1, none⟩ = wr.cell? ⟨b, 1, none⟩ by simp).trans q1)
            have HXX := bx (show s.us[ku].1 = s.us[ku].1 from rfl)
            generalize s.us[ku] = x at *
            obtain ⟨xa, xb⟩ := x
            simp only at *
            have z3 : (0 : Int) ≤ (ku : Int) := by omega
            have z5 : (ku : Int) < (us.length : Int) := by omega
            have ew : IntKind.i64.wrap (xa + 1) = xa + 1 := IntWalk.i64_in _ (by omega)
            have hszq : ∀ q, (((wr.drewN q).setCell ⟨gU, ku * 2, none⟩ (.int .i64 (xa + 1))).setCell ⟨b, 1, none⟩ (.int .i64 (s.bud - 1))).heap.size = wr.heap.size := fun q => by simp [World.setCell]
            clear hd hU3 HXX
            go_wp2_with fail
            go_quiet (fail)
            have hszn := hszq nq
            have P3 := F3.out nq
            go_wp2_with (at_builtin; refine wpList_append_own _ rfl _ _ 32 rfl w4.heap.size 3 i0 (.int .i64 0) 1 8 Tryd.underlying32 hi hz0 hz1 hz2 rfl (by decide) _ _ _ rfl (P3.alloc _) ⟨wr.heap.size, 0, none⟩ 1 1 [.int .i64 (ku : Int)] rfl rfl (by rw [← hszn]; exact cell_one_new _ _ _) (by simp [Value.oneCell']) (by unfold maxLen; omega) (by omega) (by simp; omega) ?_; intro v' w5 o5 g5 _)
            have hvb : ∀ b', b' < w4.heap.size → some b' ≠ u13.ownBlock := fun b' hb' e => by have := (P3.lt b' e.symm).1; omega
            have FIN := bx (show RLoop b W0.heap.size w3.heap.size (some ⟨gU, 0, none⟩) c3 us.length lev st (some ⟨bt, offt, none⟩) ct t W0 w4 v' (.int .i64 ((k + 1 : Nat) : Int)) w5 from
              ⟨k + 1, by omega, rfl, by rw [Hs2.out]; exact (g5.block b (by simp; omega) (hvb b (by omega))).trans ((Below.heap_alloc _ _ _ (by omega)).trans (F1.out nq)),
                by rw [Hs2.out]; exact ((F2.out nq).alloc _).kept g5 (.inr (fun e => hvb gU (by omega) e)),
                ((F4.out nq).alloc _).kept g5 (.inr (fun e => hvb bt (by have := ((F4.out nq).lt bt rfl).2; have := (HRT.out.lt bt rfl).2; omega) e)),
                by rw [Hs2.out, ic_append, List.length_append]; exact o5,
                Below.grown (From.alloc (F5.out nq) _) g5 (by simp; omega) (fun b' e => by have := (P3.lt b' e).1; omega), by have := g5.size; simp at this; omega⟩)
            clear g5 o5 P3
            go_roundw
            case rel => exact FIN.out
            case measure => simp [intOf]; omega
        · obtain rfl : k = t.length := by omega
          rw [List.take_of_length_le (Nat.le_refl _), ← HRR.out] at hM hU hFF
          rw [List.take_of_length_le (Nat.le_refl _), ← HRR.out] at q1
          obtain ⟨A5, c5, rfl⟩ := slice_form hFF
          have hrlv := runR_lev st t
          rw [← HRR.out, HSS.out, show st.lev = max lev 1 by rw [HST.out]] at hrlv
          simp only [List.length_nil, Nat.zero_add] at hrlv
          have hrus := runR_len st t
          rw [← HRR.out, HSL.out] at hrus
          have HRU := bx hrus
          have HMk := bx hM
          have HUk := bx hU
          have HFk := bx hFF
          have hne1 : ¬ b = w.heap.size + 2 := by omega
          have hdisj : ∀ x : Value, (wr.setCell ⟨b, 0, none⟩ x).ownsRow W0.heap.size 44 2 (.slice A3 us.length c3) us.length (uc r.us) := fun x => by
            refine ownsRow_setCell_other HUk.out ?_ x
            intro e
            cases A3 with
            | none => simp [Value.ownBlock] at e
            | some p =>
              obtain ⟨g, cap, hv, _, _⟩ | h0 : (∃ g cap, (Value.slice (some p) us.length c3) = .slice (some ⟨g, 0, none⟩) us.length cap ∧ True ∧ True) ∨ False := by
                rcases HUk.out.2 with ⟨hv, _⟩ | ⟨g, cap, _, hv, _⟩
                · cases hv
                · exact .inl ⟨g, cap, hv, trivial, trivial⟩
              · obtain rfl : p = ⟨g, 0, none⟩ := by injection hv with h1; injection h1
                have := apart_box HMk.out HUk.out
                simp [Value.ownBlock] at e
                exact this e
              · exact h0
          have HD := bx hdisj
          have HRr := bx (show RCell wr (w.heap.size + 2) from ⟨(hbw.block (w.heap.size + 2) (by omega)).trans HR.out.out⟩)
          clear hM hU hFF hdisj hrus hT
          by_cases hfew : r.sw.length < t.length
          · have z1 : (r.sw.length : Int) < (t.length : Int) := by omega
            have HLV := bx (show r.lev = 2 by rw [hrlv, if_pos hfew])
            clear hrlv
            obtain ⟨w6, hw6⟩ : ∃ V, wr.setCell ⟨b, 0, none⟩ (.int .i64 2) = V := ⟨_, rfl⟩
            have M6 : MCell w6 b 2 r.bud A3 us.length c3 := ⟨by rw [← hw6]; exact heap_set_at HMk.out 0 _⟩
            have R6 : RCell w6 (w.heap.size + 2) := ⟨by rw [← hw6]; exact (Below.heap_setCell _ _ _ _ (by show w.heap.size + 2 ≠ b; omega)).trans HRr.out.out⟩
            have U6 := HD.out (.int .i64 2)
            have F6 := own_setCell (a := ⟨b, 0, none⟩) HFk.out (by show b < _; omega) (.int .i64 2)
            have W6 : From w (wr.setCell ⟨b, 0, none⟩ (.int .i64 2)) := hF0.trans (Below.setCell hbw (p := ⟨b, 0, none⟩) hb _)
            rw [hw6] at U6 F6 W6
            obtain ⟨m0, m1, m2⟩ := M6.facts
            obtain ⟨r0, r1, r2, t0, t1, t2⟩ := R6.facts
            have K1 := bx (set3_own (r := w.heap.size + 2) U6 (by omega) (.int .i64 2) (.int .i64 r.bud) (.slice A3 us.length c3))
            have K2 := bx (set3_own (r := w.heap.size + 2) F6 (by omega) (.int .i64 2) (.int .i64 r.bud) (.slice A3 us.length c3))
            have K3 := bx (set3_from (r := w.heap.size + 2) W6 (by omega) (.int .i64 2) (.int .i64 r.bud) (.slice A3 us.length c3))
            clear M6 R6 U6 F6 W6
            go_wp2
            refine bodyPost_ret (v := .tuple #[.agg #[.int .i64 2, .int .i64 r.bud, .slice A3 us.length c3], .slice A5 r.sw.length c5]) (by simp [results, Tryd.results19, go_sem, r0, r1, r2]) rfl ⟨A3, c3, A5, c5, by rw [HRU.out, HLV.out], ?_, own_base K2.out (by omega), K3.out⟩
            rw [HRU.out]
            exact own_base K1.out (by omega)
          · have z1 : ¬ (r.sw.length : Int) < (t.length : Int) := by omega
            rw [if_neg hfew] at hrlv
            rcases (show lev < 1 ∨ lev = 1 ∨ 1 < lev by omega) with hlv | hlv | hlv
            · have HLV := bx (show r.lev = 1 by omega)
              clear hrlv
              obtain ⟨w6, hw6⟩ : ∃ V, wr.setCell ⟨b, 0, none⟩ (.int .i64 1) = V := ⟨_, rfl⟩
              have M6 : MCell w6 b 1 r.bud A3 us.length c3 := ⟨by rw [← hw6]; exact heap_set_at HMk.out 0 _⟩
              have R6 : RCell w6 (w.heap.size + 2) := ⟨by rw [← hw6]; exact (Below.heap_setCell _ _ _ _ (by show w.heap.size + 2 ≠ b; omega)).trans HRr.out.out⟩
              have U6 := HD.out (.int .i64 1)
              have F6 := own_setCell (a := ⟨b, 0, none⟩) HFk.out (by show b < _; omega) (.int .i64 1)
              have W6 : From w (wr.setCell ⟨b, 0, none⟩ (.int .i64 1)) := hF0.trans (Below.setCell hbw (p := ⟨b, 0, none⟩) hb _)
              rw [hw6] at U6 F6 W6
              obtain ⟨m0, m1, m2⟩ := M6.facts
              obtain ⟨r0, r1, r2, t0, t1, t2⟩ := R6.facts
              have K1 := bx (set3_own (r := w.heap.size + 2) U6 (by omega) (.int .i64 1) (.int .i64 r.bud) (.slice A3 us.length c3))
              have K2 := bx (set3_own (r := w.heap.size + 2) F6 (by omega) (.int .i64 1) (.int .i64 r.bud) (.slice A3 us.length c3))
              have K3 := bx (set3_from (r := w.heap.size + 2) W6 (by omega) (.int .i64 1) (.int .i64 r.bud) (.slice A3 us.length c3))
              clear M6 R6 U6 F6 W6
              go_wp2
              refine bodyPost_ret (v := .tuple #[.agg #[.int .i64 1, .int .i64 r.bud, .slice A3 us.length c3], .slice A5 r.sw.length c5]) (by simp [results, Tryd.results19, go_sem, r0, r1, r2]) rfl ⟨A3, c3, A5, c5, by rw [HRU.out, HLV.out], ?_, own_base K2.out (by omega), K3.out⟩
              rw [HRU.out]
              exact own_base K1.out (by omega)
            · have HLV := bx (show r.lev = 1 by omega)
              clear hrlv
              subst hlv
              obtain ⟨w6, hw6⟩ : ∃ V, wr.setCell ⟨b, 0, none⟩ (.int .i64 1) = V := ⟨_, rfl⟩
              have M6 : MCell w6 b 1 r.bud A3 us.length c3 := ⟨by rw [← hw6]; exact heap_set_at HMk.out 0 _⟩
              have R6 : RCell w6 (w.heap.size + 2) := ⟨by rw [← hw6]; exact (Below.heap_setCell _ _ _ _ (by show w.heap.size + 2 ≠ b; omega)).trans HRr.out.out⟩
              have U6 := HD.out (.int .i64 1)
              have F6 := own_setCell (a := ⟨b, 0, none⟩) HFk.out (by show b < _; omega) (.int .i64 1)
              have W6 : From w (wr.setCell ⟨b, 0, none⟩ (.int .i64 1)) := hF0.trans (Below.setCell hbw (p := ⟨b, 0, none⟩) hb _)
              rw [hw6] at U6 F6 W6
              obtain ⟨m0, m1, m2⟩ := M6.facts
              obtain ⟨r0, r1, r2, t0, t1, t2⟩ := R6.facts
              have K1 := bx (set3_own (r := w.heap.size + 2) U6 (by omega) (.int .i64 1) (.int .i64 r.bud) (.slice A3 us.length c3))
              have K2 := bx (set3_own (r := w.heap.size + 2) F6 (by omega) (.int .i64 1) (.int .i64 r.bud) (.slice A3 us.length c3))
              have K3 := bx (set3_from (r := w.heap.size + 2) W6 (by omega) (.int .i64 1) (.int .i64 r.bud) (.slice A3 us.length c3))
              clear M6 R6 U6 F6 W6
              go_wp2
              refine bodyPost_ret (v := .tuple #[.agg #[.int .i64 1, .int .i64 r.bud, .slice A3 us.length c3], .slice A5 r.sw.length c5]) (by simp [results, Tryd.results19, go_sem, r0, r1, r2]) rfl ⟨A3, c3, A5, c5, by rw [HRU.out, HLV.out], ?_, own_base K2.out (by omega), K3.out⟩
              rw [HRU.out]
              exact own_base K1.out (by omega)
            · have HLV := bx (show r.lev = lev by omega)
              clear hrlv
              obtain ⟨w6, hw6⟩ : ∃ V, wr.setCell ⟨b, 0, none⟩ (.int .i64 lev) = V := ⟨_, rfl⟩
              have M6 : MCell w6 b lev r.bud A3 us.length c3 := ⟨by rw [← hw6]; exact heap_set_at HMk.out 0 _⟩
              have R6 : RCell w6 (w.heap.size + 2) := ⟨by rw [← hw6]; exact (Below.heap_setCell _ _ _ _ (by show w.heap.size + 2 ≠ b; omega)).trans HRr.out.out⟩
              have U6 := HD.out (.int .i64 lev)
              have F6 := own_setCell (a := ⟨b, 0, none⟩) HFk.out (by show b < _; omega) (.int .i64 lev)
              have W6 : From w (wr.setCell ⟨b, 0, none⟩ (.int .i64 lev)) := hF0.trans (Below.setCell hbw (p := ⟨b, 0, none⟩) hb _)
              rw [hw6] at U6 F6 W6
              obtain ⟨m0, m1, m2⟩ := M6.facts
              obtain ⟨r0, r1, r2, t0, t1, t2⟩ := R6.facts
              have K1 := bx (set3_own (r := w.heap.size + 2) U6 (by omega) (.int .i64 lev) (.int .i64 r.bud) (.slice A3 us.length c3))
              have K2 := bx (set3_own (r := w.heap.size + 2) F6 (by omega) (.int .i64 lev) (.int .i64 r.bud) (.slice A3 us.length c3))
              have K3 := bx (set3_from (r := w.heap.size + 2) W6 (by omega) (.int .i64 lev) (.int .i64 r.bud) (.slice A3 us.length c3))
              clear M6 R6 U6 F6 W6
              go_wp2
              refine bodyPost_ret (v := .tuple #[.agg #[.int .i64 lev, .int .i64 r.bud, .slice A3 us.length c3], .slice A5 r.sw.length c5]) (by simp [results, Tryd.results19, go_sem, r0, r1, r2]) rfl ⟨A3, c3, A5, c5, by rw [HRU.out, HLV.out], ?_, own_base K2.out (by omega), K3.out⟩
              rw [HRU.out]
              exact own_base K1.out (by omega)
    · obtain rfl : r = ⟨2, bud, us, []⟩ := by rw [← hr]; simp [reactM, hs, hlo]
      clear hr hs hlo
      obtain ⟨q0, q1, q2⟩ := (HM3.out.from k4).facts
      go_wp2_with fail
      refine (refSafe_calls lev bud (.slice A us.length c) us w4 (HU3.out.from k4) hm).mono ?_
      rintro e w5 ⟨A5, c5, rfl, o5, k5⟩
      have z4 := Below.size k4
      clear q0 q1 q2
      obtain ⟨r0, r1, r2, t0, t1, t2⟩ := ((HR3.out.from k4).from k5).facts
      go_wp2
      refine bodyPost_ret (v := .tuple #[.agg #[.int .i64 2, .int .i64 bud, .slice A5 us.length c5], .slice none 0 0]) (by simp [results, Tryd.results19, go_sem, r0, r1, r2]) rfl ⟨A5, c5, none, 0, rfl, own_base (set3_own o5 (by omega) _ _ _) (by omega), World.ownsRow_nil _ _ _ _, set3_from (hF3.trans (From.trans k4 k5)) (by omega) _ _ _⟩
end Go.Proofs.YtgfmnolghbiedaaDoor
