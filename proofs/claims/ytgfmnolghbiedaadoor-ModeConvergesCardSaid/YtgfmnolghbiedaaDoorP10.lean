/-
  Walks of layer 31: mode.React.
-/
import Derived.Test.YtgfmnolghbiedaaDoorP9
namespace Go.Proofs.YtgfmnolghbiedaaDoor
open Go.RowKit Go.Shelf

/-- React's answer -/
def reactM (lev bud : Int) (us : UL) (sh : List (List Int)) (seen clear : List Int) : RS :=
  if seen = [] then ⟨lev, bud, us, []⟩ else match leastOf sh seen clear with
    | none => ⟨2, bud, us, []⟩
    | some t => runR ⟨max lev 1, bud, us, []⟩ t
def ReactPost (w : World) (r : RS) (e : Ending) (w' : World) : Prop :=
  ∃ A c A' c', e = .returned (.tuple #[.agg #[.int .i64 r.lev, .int .i64 r.bud, .slice A r.us.length c], .slice A' r.sw.length c']) ∧ w'.ownsRow w.heap.size 44 2 (.slice A r.us.length c) r.us.length (uc r.us) ∧ w'.ownsRow w.heap.size 3 1 (.slice A' r.sw.length c') r.sw.length (ic r.sw) ∧ From w w'
theorem least_mem {sh : List (List Int)} {s c t : List Int} (h : leastOf sh s c = some t) : t.length ≤ sh.length ∧ ∀ x ∈ t, 0 ≤ x ∧ x < sh.length := by
  refine ⟨(least_ex h).2, fun x hx => ?_⟩
  rcases least_cases sh s c with ⟨h1, _⟩ | ⟨a, r, h1, h2, h3, h4⟩
  · rw [h] at h1; cases h1
  · rw [h] at h1; cases h1
    have := (h4 t (by simp)).sub.subset hx
    simp only [units, List.mem_map, List.mem_range] at this
    obtain ⟨k, hk, rfl⟩ := this
    exact ⟨Int.natCast_nonneg k, Int.ofNat_lt.2 hk⟩
theorem gcell_new (w : World) (n : Int) (A : Option Addr) (m c : Nat) : (w.alloc (.cells #[.int .i64 n, .slice A m c] 35)).cell? ⟨w.heap.size, 0, none⟩ = some (.int .i64 n) ∧ (w.alloc (.cells #[.int .i64 n, .slice A m c] 35)).cell? ⟨w.heap.size, 1, none⟩ = some (.slice A m c) :=
  ⟨by rw [World.cell?_alloc_new]; rfl, by rw [World.cell?_alloc_new]; rfl⟩
set_option maxHeartbeats 3200000 in
theorem react_calls (lev bud : Int) (v : Value) (us : UL) (n : Int) (AG : Option Addr) (cG : Nat) (sh : List (List Int)) (AS : Option Addr) (cS : Nat) (seen : List Int) (AC : Option Addr) (cC : Nat) (clear : List Int) (w : World)
    (h : US w w.heap.size v us) (hm : us.length ≤ 8796093022208) (hb0 : 0 ≤ bud) (hb1 : bud ≤ 9223372036854775807) (hg : GoodU us)
    (hl : Lists w w.heap.size AG sh) (hn : sh.length ≤ 20) (h1 : Ints w w.heap.size AS seen) (hm1 : seen.length ≤ 9223372036854775807) (h2 : Ints w w.heap.size AC clear) (hm2 : clear.length ≤ 9223372036854775807)
    (r : RS) (hr : reactM lev bud us sh seen clear = r) :
    Calls Tryd.prog 18 #[.agg #[.int .i64 lev, .int .i64 bud, v], .agg #[.int .i64 n, .slice AG sh.length cG], .slice AS seen.length cS, .slice AC clear.length cC] w (ReactPost w r) := by
  obtain ⟨A, c, rfl⟩ := h.form
  have H := bx h
  have HGOOD := bx hg
  clear h hg
  obtain ⟨Wa, hWa⟩ : ∃ Wa, w.alloc (.cells #[.int .i64 lev, .int .i64 bud, .slice A us.length c] 24) = Wa := ⟨_, rfl⟩
  obtain ⟨Wb, hWb⟩ : ∃ Wb, Wa.alloc (.cells #[.int .i64 n, .slice AG sh.length cG] 35) = Wb := ⟨_, rfl⟩
  obtain ⟨W0, hW0⟩ : ∃ W0, Wb.alloc (.cells #[.int .i64 0, .int .i64 0, .slice none 0 0] 24) = W0 := ⟨_, rfl⟩
  have hFa : From w Wa := by rw [← hWa]; exact From.alloc (Below.refl _ _) _
  have hFb : From Wa Wb := by rw [← hWb]; exact From.alloc (Below.refl _ _) _
  have hFc : From Wb W0 := by rw [← hW0]; exact From.alloc (Below.refl _ _) _
  have hF0 : From w W0 := hFa.trans (hFb.trans hFc)
  have sa : Wa.heap.size = w.heap.size + 1 := by rw [← hWa]; simp
  have sb : Wb.heap.size = w.heap.size + 2 := by rw [← hWb]; simp; omega
  have s0 : W0.heap.size = w.heap.size + 3 := by rw [← hW0]; simp; omega
  have HM := bx (show MCell W0 w.heap.size lev bud A us.length c by have := mcell_new w lev bud A us.length c; rw [hWa] at this; exact this.from (hFb.trans hFc))
  have HGC := bx (show GAt W0 (w.heap.size + 1) n AG cG sh by have := gat_new Wa n AG cG sh 35; rw [hWb, sa] at this; exact this.from hFc)
  have HR := bx (show RCell W0 (w.heap.size + 2) by have := rcell_new Wb; rw [hW0, sb] at this; exact this)
  have HL := bx (hF0.lists hl)
  have HS := bx (hF0.ints h1)
  have HC := bx (hF0.ints h2)
  obtain ⟨q0, q1, q2⟩ := HM.out.facts
  obtain ⟨p0, p1⟩ := HGC.out
  clear hl h1 h2 hFa hFb hFc
  by_cases hs : seen = []
  · subst hs
    obtain rfl : r = ⟨lev, bud, us, []⟩ := by rw [← hr]; simp [reactM]
    clear hr
    go_enter Tryd.func18, Tryd.ntmps18
    go_wp2_with fail
    refine (at_calls lev bud lev (.slice A us.length c) us W0 (H.out.from hF0) hm).mono ?_
    rintro e w3 ⟨A3, c3, rfl, o3, hx⟩
    have hb3 : From W0 w3 := hx
    clear q0 q1 q2 p0 p1
    obtain ⟨r0, r1, r2, t0, t1, t2⟩ := (HR.out.from hb3).facts
    go_wp2
    refine bodyPost_ret (v := .tuple #[.agg #[.int .i64 lev, .int .i64 bud, .slice A3 us.length c3], .slice none 0 0]) (by simp [results, Tryd.results18, go_sem, r0, r1, r2]) rfl ⟨A3, c3, none, 0, rfl, own_base (set3_own o3 (by omega) _ _ _) (by omega), World.ownsRow_nil _ _ _ _, set3_from (hF0.trans hb3) (by omega) _ _ _⟩
  have hs1 : ((seen.length : Int) == 0) = false := by
    cases seen with
    | nil => exact absurd rfl hs
    | cons _ _ => simp; omega
  have hs2 : ¬ (seen.length : Int) = 0 := by
    cases seen with
    | nil => exact absurd rfl hs
    | cons _ _ => simp; omega
  cases hlo : leastOf sh seen clear with
  | none =>
    obtain rfl : r = ⟨2, bud, us, []⟩ := by rw [← hr]; simp [reactM, hs, hlo]
    have HLO := bx hlo
    clear hr hs hlo
    go_enter Tryd.func18, Tryd.ntmps18
    go_wp2_with fail
    refine (least_no n AG cG sh AS cS seen AC cC clear W0 HL.out (by omega) HS.out hm1 HC.out hm2 HLO.out).mono ?_
    rintro e w1 ⟨rfl, hx1⟩
    have k1 : From W0 w1 := hx1
    clear q0 q1 q2 p0 p1
    obtain ⟨q0, q1, q2⟩ := (HM.out.from k1).facts
    go_wp2_with fail
    refine (safe_calls lev bud (.slice A us.length c) us w1 (H.out.from (hF0.trans k1)) hm).mono ?_
    rintro e w3 ⟨A3, c3, rfl, o3, hx⟩
    have hb3 : From w1 w3 := hx
    have k3 : From W0 w3 := k1.trans hx
    have z1 := Below.size k1
    clear q0 q1 q2
    obtain ⟨r0, r1, r2, t0, t1, t2⟩ := (HR.out.from k3).facts
    go_wp2
    refine bodyPost_ret (v := .tuple #[.agg #[.int .i64 2, .int .i64 bud, .slice A3 us.length c3], .slice none 0 0]) (by simp [results, Tryd.results18, go_sem, r0, r1, r2]) rfl ⟨A3, c3, none, 0, rfl, own_base (set3_own o3 (by omega) _ _ _) (by omega), World.ownsRow_nil _ _ _ _, set3_from (hF0.trans k3) (by omega) _ _ _⟩
  | some t =>
    have HLO := bx hlo
    obtain ⟨htl, htm⟩ := least_mem hlo
    have HTM := bx (show ∀ x ∈ t, 0 ≤ x ∧ x ≤ 1000 from fun x hx => by have := htm x hx; omega)
    have hrr : r = runR ⟨max lev 1, bud, us, []⟩ t := by rw [← hr]; simp [reactM, hs, hlo]
    clear hr hs hlo htm
    rcases (show lev < 1 ∨ lev = 1 ∨ 1 < lev by omega) with hlv | rfl | hlv
    · obtain ⟨st, hst⟩ : ∃ st : RS, st = ⟨1, bud, us, []⟩ := ⟨_, rfl⟩
      have HR1 := bx (show r = runR st t by rw [hrr, hst, show max lev 1 = (1 : Int) by omega])
      have HST := bx hst
      clear hrr hst
      go_enter Tryd.func18, Tryd.ntmps18
      go_wp2_with fail
      refine (least_row n AG cG sh AS cS seen AC cC clear W0 HL.out (by omega) HS.out hm1 HC.out hm2 t (by rw [HLO.out]; rfl) true (by rw [HLO.out]; rfl)).mono ?_
      rintro e w1 ⟨At, ct, rfl, ot, k1⟩
      have HOT := bx ot
      have z1 := Below.size k1
      clear q0 q1 q2 p0 p1 ot
      obtain ⟨q0, q1, q2⟩ := (HM.out.from k1).facts
      go_wp2_with fail
      refine (at_calls lev bud 1 (.slice A us.length c) us w1 (H.out.from (hF0.trans k1)) hm).mono ?_
      rintro e w2 ⟨A2, c2, rfl, o2, k2⟩
      have z2 := Below.size k2
      have HM2 := ((HM.out.from k1).from k2).out
      have HR2 := bx ((HR.out.from k1).from k2)
      have HOT2 := own_from HOT.out k2
      have f0 : w2.frozen? ⟨w.heap.size, 0, none⟩ = false := by simp [World.frozen?, HM2]
      have f1 : w2.frozen? ⟨w.heap.size, 1, none⟩ = false := by simp [World.frozen?, HM2]
      have f2 : w2.frozen? ⟨w.heap.size, 2, none⟩ = false := by simp [World.frozen?, HM2]
      clear q0 q1 q2
      obtain ⟨q0, q1, q2⟩ := ((HM.out.from k1).from k2).facts
      have E1 := heap_set_at (heap_set_at (heap_set_at HM2 0 (.int .i64 1)) 1 (.int .i64 bud)) 2 (.slice A2 us.length c2)
      have E2 := set3_own (r := w.heap.size) o2 (by omega) (.int .i64 1) (.int .i64 bud) (.slice A2 us.length c2)
      have E3 := set3_own (r := w.heap.size) HOT2 (by omega) (.int .i64 1) (.int .i64 bud) (.slice A2 us.length c2)
      have E4 : From w (((w2.setCell ⟨w.heap.size, 0, none⟩ (.int .i64 1)).setCell ⟨w.heap.size, 1, none⟩ (.int .i64 bud)).setCell ⟨w.heap.size, 2, none⟩ (.slice A2 us.length c2)) := set3_from (hF0.trans (k1.trans k2)) (Nat.le_refl _) _ _ _
      have E5 : (((w2.setCell ⟨w.heap.size, 0, none⟩ (.int .i64 1)).setCell ⟨w.heap.size, 1, none⟩ (.int .i64 bud)).setCell ⟨w.heap.size, 2, none⟩ (.slice A2 us.length c2)).heap[w.heap.size + 2]? = some (.cells #[.int .i64 0, .int .i64 0, .slice none 0 0] 24 (0, 0)) :=
        (Below.heap_setCell _ _ _ _ (by show w.heap.size + 2 ≠ w.heap.size; omega)).trans ((Below.heap_setCell _ _ _ _ (by show w.heap.size + 2 ≠ w.heap.size; omega)).trans ((Below.heap_setCell _ _ _ _ (by show w.heap.size + 2 ≠ w.heap.size; omega)).trans HR2.out.out))
      have E6 : (((w2.setCell ⟨w.heap.size, 0, none⟩ (.int .i64 1)).setCell ⟨w.heap.size, 1, none⟩ (.int .i64 bud)).setCell ⟨w.heap.size, 2, none⟩ (.slice A2 us.length c2)).heap.size = w2.heap.size := by simp [World.setCell]
      have G1 := bx E1
      have G2 := bx E2
      have G3 := bx E3
      have G4 := bx E4
      have G5 := bx E5
      clear E1 E2 E3 E4 E5 o2 HOT2 HM2
      go_wp2_with fail
      generalize ((w2.setCell ⟨w.heap.size, 0, none⟩ (.int .i64 1)).setCell ⟨w.heap.size, 1, none⟩ (.int .i64 bud)).setCell ⟨w.heap.size, 2, none⟩ (.slice A2 us.length c2) = wF at *
      have hbt : ∀ k (hk : k < t.length), ∃ b off, At = some ⟨b, off, none⟩ ∧ b ≠ w.heap.size ∧ b < w1.heap.size ∧ wF.cell? ⟨b, off + k, none⟩ = some (.int .i64 t[k]) := fun k hk => by
        obtain ⟨b, off, e1, e2, e3⟩ := (ints_of_own G3.out).at_ k hk
        obtain ⟨g, cap, hv, hgb, hgl⟩ := HOT.out.form (by omega)
        have e4 : At = some ⟨g, 0, none⟩ := by injection hv
        rw [e4] at e1
        injection e1 with e1
        injection e1 with e1 e5
        exact ⟨b, off, by rw [e4, e1, e5], by omega, by omega, e3⟩
      have hl1 : st.us = us := by rw [HST.out]
      have hl2 : st.bud = bud := by rw [HST.out]
      refine (filter_calls w.heap.size w1.heap.size A2 c2 st At ct t wF (by rw [HST.out]) (by rw [HST.out]; exact G1.out) (by rw [hl1]; exact G2.out) (by omega) (by omega) hbt HTM.out (by omega) (by rw [hl1]; exact hm) (by rw [hl2]; exact hb0) (by rw [hl2]; exact hb1) (by rw [hl1]; exact HGOOD.out)).mono ?_
      rintro e w5 ⟨A5, c5, rfl, k, hk, hkt, hB, hU, hFF, hAg⟩
      obtain rfl : k = t.length := by injection hkt with _ e; omega
      rw [List.take_of_length_le (Nat.le_refl _), ← HR1.out] at hB hU hFF
      rw [← HR1.out]
      rw [hl1] at hB hU
      have hrl : r.us.length = us.length := by rw [HR1.out, runR_len, hl1]
      have K1 := bx (set3_own (r := w.heap.size + 2) hU (by omega) (.int .i64 r.lev) (.int .i64 r.bud) (.slice A2 us.length c2))
      have K2 := bx (set3_own (r := w.heap.size + 2) hFF (by omega) (.int .i64 r.lev) (.int .i64 r.bud) (.slice A2 us.length c2))
      have K3 : From w w5 := ⟨hAg.os.trans G4.out.os, hAg.tape.trans G4.out.tape, hAg.output.trans G4.out.output, Nat.le_trans G4.out.size hAg.size, fun b hb => (hAg.block b (by omega) (by omega)).trans (G4.out.block b hb)⟩
      have K4 := bx (set3_from (r := w.heap.size + 2) K3 (by omega) (.int .i64 r.lev) (.int .i64 r.bud) (.slice A2 us.length c2))
      have K5 := (hAg.block (w.heap.size + 2) (by omega) (by omega)).trans G5.out
      have HRL := bx hrl
      obtain ⟨q0, q1, q2⟩ := (show MCell w5 w.heap.size r.lev r.bud A2 us.length c2 from ⟨hB⟩).facts
      obtain ⟨r0, r1, r2, t0, t1, t2⟩ := (show RCell w5 (w.heap.size + 2) from ⟨K5⟩).facts
      clear hB hU hFF hAg K3 K5 hrl hbt f0 f1 f2
      go_wp2
      refine bodyPost_ret (v := .tuple #[.agg #[.int .i64 r.lev, .int .i64 r.bud, .slice A2 us.length c2], .slice A5 r.sw.length c5]) (by simp [results, Tryd.results18, go_sem, r0, r1, r2]) rfl ⟨A2, c2, A5, c5, by rw [HRL.out], ?_, own_base K2.out (by omega), K4.out⟩
      rw [HRL.out]
      exact own_base K1.out (by omega)
    · obtain ⟨st, hst⟩ : ∃ st : RS, st = ⟨1, bud, us, []⟩ := ⟨_, rfl⟩
      have HR1 := bx (show r = runR st t by rw [hrr, hst, show max 1 1 = (1 : Int) by omega])
      have HST := bx hst
      clear hrr hst
      go_enter Tryd.func18, Tryd.ntmps18
      go_wp2_with fail
      refine (least_row n AG cG sh AS cS seen AC cC clear W0 HL.out (by omega) HS.out hm1 HC.out hm2 t (by rw [HLO.out]; rfl) true (by rw [HLO.out]; rfl)).mono ?_
      rintro e w1 ⟨At, ct, rfl, ot, k1⟩
      have HOT := bx ot
      have z1 := Below.size k1
      clear q0 q1 q2 p0 p1 ot
      obtain ⟨q0, q1, q2⟩ := (HM.out.from k1).facts
      go_wp2_with fail
      refine (at_calls 1 bud 1 (.slice A us.length c) us w1 (H.out.from (hF0.trans k1)) hm).mono ?_
      rintro e w2 ⟨A2, c2, rfl, o2, k2⟩
      have z2 := Below.size k2
      have HM2 := ((HM.out.from k1).from k2).out
      have HR2 := bx ((HR.out.from k1).from k2)
      have HOT2 := own_from HOT.out k2
      have f0 : w2.frozen? ⟨w.heap.size, 0, none⟩ = false := by simp [World.frozen?, HM2]
      have f1 : w2.frozen? ⟨w.heap.size, 1, none⟩ = false := by simp [World.frozen?, HM2]
      have f2 : w2.frozen? ⟨w.heap.size, 2, none⟩ = false := by simp [World.frozen?, HM2]
      clear q0 q1 q2
      obtain ⟨q0, q1, q2⟩ := ((HM.out.from k1).from k2).facts
      have E1 := heap_set_at (heap_set_at (heap_set_at HM2 0 (.int .i64 1)) 1 (.int .i64 bud)) 2 (.slice A2 us.length c2)
      have E2 := set3_own (r := w.heap.size) o2 (by omega) (.int .i64 1) (.int .i64 bud) (.slice A2 us.length c2)
      have E3 := set3_own (r := w.heap.size) HOT2 (by omega) (.int .i64 1) (.int .i64 bud) (.slice A2 us.length c2)
      have E4 : From w (((w2.setCell ⟨w.heap.size, 0, none⟩ (.int .i64 1)).setCell ⟨w.heap.size, 1, none⟩ (.int .i64 bud)).setCell ⟨w.heap.size, 2, none⟩ (.slice A2 us.length c2)) := set3_from (hF0.trans (k1.trans k2)) (Nat.le_refl _) _ _ _
      have E5 : (((w2.setCell ⟨w.heap.size, 0, none⟩ (.int .i64 1)).setCell ⟨w.heap.size, 1, none⟩ (.int .i64 bud)).setCell ⟨w.heap.size, 2, none⟩ (.slice A2 us.length c2)).heap[w.heap.size + 2]? = some (.cells #[.int .i64 0, .int .i64 0, .slice none 0 0] 24 (0, 0)) :=
        (Below.heap_setCell _ _ _ _ (by show w.heap.size + 2 ≠ w.heap.size; omega)).trans ((Below.heap_setCell _ _ _ _ (by show w.heap.size + 2 ≠ w.heap.size; omega)).trans ((Below.heap_setCell _ _ _ _ (by show w.heap.size + 2 ≠ w.heap.size; omega)).trans HR2.out.out))
      have E6 : (((w2.setCell ⟨w.heap.size, 0, none⟩ (.int .i64 1)).setCell ⟨w.heap.size, 1, none⟩ (.int .i64 bud)).setCell ⟨w.heap.size, 2, none⟩ (.slice A2 us.length c2)).heap.size = w2.heap.size := by simp [World.setCell]
      have G1 := bx E1
      have G2 := bx E2
      have G3 := bx E3
      have G4 := bx E4
      have G5 := bx E5
      clear E1 E2 E3 E4 E5 o2 HOT2 HM2
      go_wp2_with fail
      generalize ((w2.setCell ⟨w.heap.size, 0, none⟩ (.int .i64 1)).setCell ⟨w.heap.size, 1, none⟩ (.int .i64 bud)).setCell ⟨w.heap.size, 2, none⟩ (.slice A2 us.length c2) = wF at *
      have hbt : ∀ k (hk : k < t.length), ∃ b off, At = some ⟨b, off, none⟩ ∧ b ≠ w.heap.size ∧ b < w1.heap.size ∧ wF.cell? ⟨b, off + k, none⟩ = some (.int .i64 t[k]) := fun k hk => by
        obtain ⟨b, off, e1, e2, e3⟩ := (ints_of_own G3.out).at_ k hk
        obtain ⟨g, cap, hv, hgb, hgl⟩ := HOT.out.form (by omega)
        have e4 : At = some ⟨g, 0, none⟩ := by injection hv
        rw [e4] at e1
        injection e1 with e1
        injection e1 with e1 e5
        exact ⟨b, off, by rw [e4, e1, e5], by omega, by omega, e3⟩
      have hl1 : st.us = us := by rw [HST.out]
      have hl2 : st.bud = bud := by rw [HST.out]
      refine (filter_calls w.heap.size w1.heap.size A2 c2 st At ct t wF (by rw [HST.out]) (by rw [HST.out]; exact G1.out) (by rw [hl1]; exact G2.out) (by omega) (by omega) hbt HTM.out (by omega) (by rw [hl1]; exact hm) (by rw [hl2]; exact hb0) (by rw [hl2]; exact hb1) (by rw [hl1]; exact HGOOD.out)).mono ?_
      rintro e w5 ⟨A5, c5, rfl, k, hk, hkt, hB, hU, hFF, hAg⟩
      obtain rfl : k = t.length := by injection hkt with _ e; omega
      rw [List.take_of_length_le (Nat.le_refl _), ← HR1.out] at hB hU hFF
      rw [← HR1.out]
      rw [hl1] at hB hU
      have hrl : r.us.length = us.length := by rw [HR1.out, runR_len, hl1]
      have K1 := bx (set3_own (r := w.heap.size + 2) hU (by omega) (.int .i64 r.lev) (.int .i64 r.bud) (.slice A2 us.length c2))
      have K2 := bx (set3_own (r := w.heap.size + 2) hFF (by omega) (.int .i64 r.lev) (.int .i64 r.bud) (.slice A2 us.length c2))
      have K3 : From w w5 := ⟨hAg.os.trans G4.out.os, hAg.tape.trans G4.out.tape, hAg.output.trans G4.out.output, Nat.le_trans G4.out.size hAg.size, fun b hb => (hAg.block b (by omega) (by omega)).trans (G4.out.block b hb)⟩
      have K4 := bx (set3_from (r := w.heap.size + 2) K3 (by omega) (.int .i64 r.lev) (.int .i64 r.bud) (.slice A2 us.length c2))
      have K5 := (hAg.block (w.heap.size + 2) (by omega) (by omega)).trans G5.out
      have HRL := bx hrl
      obtain ⟨q0, q1, q2⟩ := (show MCell w5 w.heap.size r.lev r.bud A2 us.length c2 from ⟨hB⟩).facts
      obtain ⟨r0, r1, r2, t0, t1, t2⟩ := (show RCell w5 (w.heap.size + 2) from ⟨K5⟩).facts
      clear hB hU hFF hAg K3 K5 hrl hbt f0 f1 f2
      go_wp2
      refine bodyPost_ret (v := .tuple #[.agg #[.int .i64 r.lev, .int .i64 r.bud, .slice A2 us.length c2], .slice A5 r.sw.length c5]) (by simp [results, Tryd.results18, go_sem, r0, r1, r2]) rfl ⟨A2, c2, A5, c5, by rw [HRL.out], ?_, own_base K2.out (by omega), K4.out⟩
      rw [HRL.out]
      exact own_base K1.out (by omega)
    · obtain ⟨st, hst⟩ : ∃ st : RS, st = ⟨lev, bud, us, []⟩ := ⟨_, rfl⟩
      have HR1 := bx (show r = runR st t by rw [hrr, hst, show max lev 1 = (lev : Int) by omega])
      have HST := bx hst
      clear hrr hst
      go_enter Tryd.func18, Tryd.ntmps18
      go_wp2_with fail
      refine (least_row n AG cG sh AS cS seen AC cC clear W0 HL.out (by omega) HS.out hm1 HC.out hm2 t (by rw [HLO.out]; rfl) true (by rw [HLO.out]; rfl)).mono ?_
      rintro e w1 ⟨At, ct, rfl, ot, k1⟩
      have HOT := bx ot
      have z1 := Below.size k1
      clear q0 q1 q2 p0 p1 ot
      obtain ⟨q0, q1, q2⟩ := (HM.out.from k1).facts
      go_wp2_with fail
      refine (at_calls lev bud lev (.slice A us.length c) us w1 (H.out.from (hF0.trans k1)) hm).mono ?_
      rintro e w2 ⟨A2, c2, rfl, o2, k2⟩
      have z2 := Below.size k2
      have HM2 := ((HM.out.from k1).from k2).out
      have HR2 := bx ((HR.out.from k1).from k2)
      have HOT2 := own_from HOT.out k2
      have f0 : w2.frozen? ⟨w.heap.size, 0, none⟩ = false := by simp [World.frozen?, HM2]
      have f1 : w2.frozen? ⟨w.heap.size, 1, none⟩ = false := by simp [World.frozen?, HM2]
      have f2 : w2.frozen? ⟨w.heap.size, 2, none⟩ = false := by simp [World.frozen?, HM2]
      clear q0 q1 q2
      obtain ⟨q0, q1, q2⟩ := ((HM.out.from k1).from k2).facts
      have E1 := heap_set_at (heap_set_at (heap_set_at HM2 0 (.int .i64 lev)) 1 (.int .i64 bud)) 2 (.slice A2 us.length c2)
      have E2 := set3_own (r := w.heap.size) o2 (by omega) (.int .i64 lev) (.int .i64 bud) (.slice A2 us.length c2)
      have E3 := set3_own (r := w.heap.size) HOT2 (by omega) (.int .i64 lev) (.int .i64 bud) (.slice A2 us.length c2)
      have E4 : From w (((w2.setCell ⟨w.heap.size, 0, none⟩ (.int .i64 lev)).setCell ⟨w.heap.size, 1, none⟩ (.int .i64 bud)).setCell ⟨w.heap.size, 2, none⟩ (.slice A2 us.length c2)) := set3_from (hF0.trans (k1.trans k2)) (Nat.le_refl _) _ _ _
      have E5 : (((w2.setCell ⟨w.heap.size, 0, none⟩ (.int .i64 lev)).setCell ⟨w.heap.size, 1, none⟩ (.int .i64 bud)).setCell ⟨w.heap.size, 2, none⟩ (.slice A2 us.length c2)).heap[w.heap.size + 2]? = some (.cells #[.int .i64 0, .int .i64 0, .slice none 0 0] 24 (0, 0)) :=
        (Below.heap_setCell _ _ _ _ (by show w.heap.size + 2 ≠ w.heap.size; omega)).trans ((Below.heap_setCell _ _ _ _ (by show w.heap.size + 2 ≠ w.heap.size; omega)).trans ((Below.heap_setCell _ _ _ _ (by show w.heap.size + 2 ≠ w.heap.size; omega)).trans HR2.out.out))
      have E6 : (((w2.setCell ⟨w.heap.size, 0, none⟩ (.int .i64 lev)).setCell ⟨w.heap.size, 1, none⟩ (.int .i64 bud)).setCell ⟨w.heap.size, 2, none⟩ (.slice A2 us.length c2)).heap.size = w2.heap.size := by simp [World.setCell]
      have G1 := bx E1
      have G2 := bx E2
      have G3 := bx E3
      have G4 := bx E4
      have G5 := bx E5
      clear E1 E2 E3 E4 E5 o2 HOT2 HM2
      go_wp2_with fail
      generalize ((w2.setCell ⟨w.heap.size, 0, none⟩ (.int .i64 lev)).setCell ⟨w.heap.size, 1, none⟩ (.int .i64 bud)).setCell ⟨w.heap.size, 2, none⟩ (.slice A2 us.length c2) = wF at *
      have hbt : ∀ k (hk : k < t.length), ∃ b off, At = some ⟨b, off, none⟩ ∧ b ≠ w.heap.size ∧ b < w1.heap.size ∧ wF.cell? ⟨b, off + k, none⟩ = some (.int .i64 t[k]) := fun k hk => by
        obtain ⟨b, off, e1, e2, e3⟩ := (ints_of_own G3.out).at_ k hk
        obtain ⟨g, cap, hv, hgb, hgl⟩ := HOT.out.form (by omega)
        have e4 : At = some ⟨g, 0, none⟩ := by injection hv
        rw [e4] at e1
        injection e1 with e1
        injection e1 with e1 e5
        exact ⟨b, off, by rw [e4, e1, e5], by omega, by omega, e3⟩
      have hl1 : st.us = us := by rw [HST.out]
      have hl2 : st.bud = bud := by rw [HST.out]
      refine (filter_calls w.heap.size w1.heap.size A2 c2 st At ct t wF (by rw [HST.out]) (by rw [HST.out]; exact G1.out) (by rw [hl1]; exact G2.out) (by omega) (by omega) hbt HTM.out (by omega) (by rw [hl1]; exact hm) (by rw [hl2]; exact hb0) (by rw [hl2]; exact hb1) (by rw [hl1]; exact HGOOD.out)).mono ?_
      rintro e w5 ⟨A5, c5, rfl, k, hk, hkt, hB, hU, hFF, hAg⟩
      obtain rfl : k = t.length := by injection hkt with _ e; omega
      rw [List.take_of_length_le (Nat.le_refl _), ← HR1.out] at hB hU hFF
      rw [← HR1.out]
      rw [hl1] at hB hU
      have hrl : r.us.length = us.length := by rw [HR1.out, runR_len, hl1]
      have K1 := bx (set3_own (r := w.heap.size + 2) hU (by omega) (.int .i64 r.lev) (.int .i64 r.bud) (.slice A2 us.length c2))
      have K2 := bx (set3_own (r := w.heap.size + 2) hFF (by omega) (.int .i64 r.lev) (.int .i64 r.bud) (.slice A2 us.length c2))
      have K3 : From w w5 := ⟨hAg.os.trans G4.out.os, hAg.tape.trans G4.out.tape, hAg.output.trans G4.out.output, Nat.le_trans G4.out.size hAg.size, fun b hb => (hAg.block b (by omega) (by omega)).trans (G4.out.block b hb)⟩
      have K4 := bx (set3_from (r := w.heap.size + 2) K3 (by omega) (.int .i64 r.lev) (.int .i64 r.bud) (.slice A2 us.length c2))
      have K5 := (hAg.block (w.heap.size + 2) (by omega) (by omega)).trans G5.out
      have HRL := bx hrl
      obtain ⟨q0, q1, q2⟩ := (show MCell w5 w.heap.size r.lev r.bud A2 us.length c2 from ⟨hB⟩).facts
      obtain ⟨r0, r1, r2, t0, t1, t2⟩ := (show RCell w5 (w.heap.size + 2) from ⟨K5⟩).facts
      clear hB hU hFF hAg K3 K5 hrl hbt f0 f1 f2
      go_wp2
      refine bodyPost_ret (v := .tuple #[.agg #[.int .i64 r.lev, .int .i64 r.bud, .slice A2 us.length c2], .slice A5 r.sw.length c5]) (by simp [results, Tryd.results18, go_sem, r0, r1, r2]) rfl ⟨A2, c2, A5, c5, by rw [HRL.out], ?_, own_base K2.out (by omega), K4.out⟩
      rw [HRL.out]
      exact own_base K1.out (by omega)
end Go.Proofs.YtgfmnolghbiedaaDoor
