/-
  Walks of layer 29: a monitor whose past lies anywhere but in its box; perigeelaw29.see; perigeeref29.Same of equal monitors.
-/
import Derived.Test.YtlogokjjphlkkaaW16
namespace Go.Proofs.Ytlogokjjphlkkaa
open Go.RowKit Go.Shelf

/-- a cut behind a piece of code at a block's end -/
theorem region_cut_end {P : Program} {c : Code} {Q : Exit → Act → World → Prop} {a : Act} {w : World} (R : Act → Act → World → Prop)
    (h : ∀ K' : Act → World → Prop, Bx (∀ a' w', R a a' w' → K' a' w') → Code.wp P c (Exit.then K' Q) a w) (hR : ∀ a' w', R a a' w' → Q .normal a' w') : Code.wp P c Q a w :=
  Code.wp_mono (fun e a' w' he => by cases e <;> first | exact hR _ _ he | exact he) (h (R a) ⟨fun _ _ h => h⟩)
/-- the slice v holds n elements, in the cells cs, in a block of which P holds -/
structure SlP (P : Nat → Prop) (w : World) (v : Value) (n : Nat) (cs : List Value) : Prop where
  out : (v = .slice none 0 0 ∧ n = 0 ∧ cs = []) ∨ ∃ a c, v = .slice (some a) n c ∧ ∀ j u, cs[j]? = some u → ∃ b off, a = ⟨b, off, none⟩ ∧ P b ∧ w.cell? ⟨b, off + j, none⟩ = some u
theorem SlP.sl {P : Nat → Prop} {w : World} {v : Value} {n : Nat} {cs : List Value} (h : SlP P w v n cs) : Sl w w.heap.size v n cs := by
  rcases h.out with h | ⟨a, c, e, h⟩
  · exact ⟨.inl h⟩
  · refine ⟨.inr ⟨a, c, e, fun j u hj => ?_⟩⟩
    obtain ⟨b, off, e1, _, e3⟩ := h j u hj
    exact ⟨b, off, e1, World.block_lt_of_cell? w _ e3, e3⟩
theorem SlP.from {P : Nat → Prop} {w w' : World} {v : Value} {n : Nat} {cs : List Value} (h : SlP P w v n cs) (hb : From w w') : SlP P w' v n cs := by
  rcases h.out with h | ⟨a, c, e, h⟩
  · exact ⟨.inl h⟩
  · refine ⟨.inr ⟨a, c, e, fun j u hj => ?_⟩⟩
    obtain ⟨b, off, e1, e2, e3⟩ := h j u hj
    exact ⟨b, off, e1, e2, hb.cell e3⟩
theorem SlP.imp {P Q : Nat → Prop} {w : World} {v : Value} {n : Nat} {cs : List Value} (h : SlP P w v n cs) (hi : ∀ b, b < w.heap.size → P b → Q b) : SlP Q w v n cs := by
  rcases h.out with h | ⟨a, c, e, h⟩
  · exact ⟨.inl h⟩
  · refine ⟨.inr ⟨a, c, e, fun j u hj => ?_⟩⟩
    obtain ⟨b, off, e1, e2, e3⟩ := h j u hj
    exact ⟨b, off, e1, hi b (World.block_lt_of_cell? w _ e3) e2, e3⟩
theorem SlP.setCell {P : Nat → Prop} {r : Nat} {w : World} {v : Value} {n : Nat} {cs : List Value} (h : SlP P w v n cs) (hr : ¬ P r) (i : Nat) (x : Value) : SlP P (w.setCell ⟨r, i, none⟩ x) v n cs := by
  rcases h.out with h | ⟨a, c, e, h⟩
  · exact ⟨.inl h⟩
  · refine ⟨.inr ⟨a, c, e, fun j u hj => ?_⟩⟩
    obtain ⟨b, off, e1, e2, e3⟩ := h j u hj
    exact ⟨b, off, e1, e2, cell_set_off e3 (by show b ≠ r; rintro rfl; exact hr e2)⟩
theorem SlP.set8 {P : Nat → Prop} {r : Nat} {w : World} {v : Value} {n : Nat} {cs : List Value} (h : SlP P w v n cs) (hr : ¬ P r) (m : Mon) (u : Value) : SlP P (Go.Proofs.Ytlogokjjphlkkaa.set8 w r m u) v n cs :=
  (((((((h.setCell hr _ _).setCell hr _ _).setCell hr _ _).setCell hr _ _).setCell hr _ _).setCell hr _ _).setCell hr _ _).setCell hr _ _
theorem SlN.slp {P : Nat → Prop} {l : Nat} {w : World} {v : Value} {n : Nat} {cs : List Value} (h : SlN l w v n cs) (hr : ∀ b, l ≤ b → P b) : SlP P w v n cs := by
  rcases h.out with h | ⟨a, c, e, h⟩
  · exact ⟨.inl h⟩
  · refine ⟨.inr ⟨a, c, e, fun j u hj => ?_⟩⟩
    obtain ⟨b, off, e1, e2, e3⟩ := h j u hj
    exact ⟨b, off, e1, hr b e2, e3⟩
theorem Sl.slp {P : Nat → Prop} {B : Nat} {w : World} {v : Value} {n : Nat} {cs : List Value} (h : Sl w B v n cs) (hr : ∀ b, b < B → P b) : SlP P w v n cs := by
  rcases h.out with h | ⟨a, c, e, h⟩
  · exact ⟨.inl h⟩
  · refine ⟨.inr ⟨a, c, e, fun j u hj => ?_⟩⟩
    obtain ⟨b, off, e1, e2, e3⟩ := h j u hj
    exact ⟨b, off, e1, hr b e2, e3⟩
/-- the monitor m in the box r, its past in blocks of which P holds; nothing of w has turned -/
structure RunX (w : World) (P : Nat → Prop) (r : Nat) (m : Mon) (wr : World) : Prop where
  from_ : From w wr
  low : w.heap.size ≤ r ∧ ¬ P r ∧ ∀ b, wr.heap.size ≤ b → P b
  mon : ∃ A c, MonC wr r m (.slice A m.past.length c) ∧ SlP P wr (.slice A m.past.length c) m.past.length (bc m.past)
theorem RunX.step {w wr w4 : World} {P : Nat → Prop} {r : Nat} {m n : Mon} {A3 : Option Addr} {c3 : Nat} (h : RunX w P r m wr) (k4 : From wr w4) (hS : SlN wr.heap.size w4 (.slice A3 n.past.length c3) n.past.length (bc n.past)) :
    RunX w P r n (set8 w4 r n (.slice A3 n.past.length c3)) := by
  obtain ⟨A, c, hM, _⟩ := h.mon
  obtain ⟨l1, l2, l3⟩ := h.low
  have hs := Below.size k4
  exact ⟨From.set8 (h.from_.trans k4) l1 _ _, ⟨l1, l2, fun b hb => l3 b (by rw [size_set8] at hb; omega)⟩, A3, c3, MonC.set8 (hM.from k4), (hS.slp l3).set8 l2 _ _⟩
theorem RunX.call {w wr w4 : World} {P : Nat → Prop} {r : Nat} {m : Mon} (h : RunX w P r m wr) (k4 : From wr w4) : RunX w P r m w4 := by
  obtain ⟨A, c, hM, hS⟩ := h.mon
  obtain ⟨l1, l2, l3⟩ := h.low
  exact ⟨h.from_.trans k4, ⟨l1, l2, fun b hb => l3 b (Nat.le_trans (Below.size k4) hb)⟩, A, c, hM.from k4, hS.from k4⟩
/-- another box turns -/
theorem RunX.other {w wr : World} {P : Nat → Prop} {r r' : Nat} {m : Mon} (h : RunX w P r m wr) (h1 : w.heap.size ≤ r') (h2 : ¬ P r') (hne : r' ≠ r) (n : Mon) (u : Value) : RunX w P r m (set8 wr r' n u) := by
  obtain ⟨A, c, hM, hS⟩ := h.mon
  obtain ⟨l1, l2, l3⟩ := h.low
  exact ⟨From.set8 h.from_ h1 _ _, ⟨l1, l2, fun b hb => l3 b (by rwa [size_set8] at hb)⟩, A, c, hM.off8 hne, hS.set8 h2 _ _⟩
/-- a past that fits -/
def Small (m : Mon) : Prop := (m.past.length : Int) ≤ m.of ∧ m.of ≤ 16
theorem small_step {m : Mon} (h : Small m) (v : Int) : Small (stepM m v) := by
  obtain ⟨h1, h2⟩ := h
  refine ⟨?_, h2⟩
  show ((pushP m.past m.of (outB m v)).length : Int) ≤ m.of
  unfold pushP
  split
  · simp; exact h1
  · simp; omega
theorem small_run {m : Mon} (h : Small m) (l : List Int) : Small (runM m l) := by
  induction l generalizing m with
  | nil => exact h
  | cons a t ih => exact ih (small_step h a)
/-- a monitor is answered, its past readable -/
def SeePost (w : World) (Q : Nat → Prop) (m : Mon) (e : Ending) (w' : World) : Prop := ∃ A c, e = .returned (.agg (mcs m (.slice A m.past.length c))) ∧ SlP Q w' (.slice A m.past.length c) m.past.length (bc m.past) ∧ From w w'
set_option maxHeartbeats 4000000 in
set_option maxRecDepth 100000 in
theorem see_calls (Q : Nat → Prop) (m0 : Mon) (Am : Option Addr) (cm : Nat) (AV : Option Addr) (cV : Nat) (vals : List Int) (w : World) (hQ : ∀ b, w.heap.size ≤ b → Q b) (hm : SlP Q w (.slice Am m0.past.length cm) m0.past.length (bc m0.past)) (hs : Small m0) (h : Ints w (.slice AV vals.length cV) vals) (hv100 : vals.length ≤ 100)
    (mE : Mon) (hE : runM m0 vals = mE) :
    Calls Try.prog 64 #[.agg (mcs m0 (.slice Am m0.past.length cm)), .slice AV vals.length cV] w (SeePost w Q mE) := by
  obtain ⟨P, hPd⟩ : ∃ P : Nat → Prop, ∀ b, P b ↔ (Q b ∧ b ≠ w.heap.size ∧ b ≠ w.heap.size + 1) := ⟨_, fun _ => Iff.rfl⟩
  have HPQ := bx (fun b (h : P b) => ((hPd b).1 h).1)
  have hP0 : ¬ P w.heap.size := fun h => ((hPd _).1 h).2.1 rfl
  have hP1 : ¬ P (w.heap.size + 1) := fun h => ((hPd _).1 h).2.2 rfl
  have HP1 := bx hP1
  obtain ⟨W1, hW1⟩ : ∃ V, w.alloc (.cells (mcs m0 (.slice Am m0.past.length cm)) 71) = V := ⟨_, rfl⟩
  obtain ⟨W2, hW2⟩ : ∃ V, W1.alloc (.cells (mcs ⟨0, 0, 0, 0, 0, 0, [], false⟩ (.slice none 0 0)) 71) = V := ⟨_, rfl⟩
  have k1 : From w W1 := by rw [← hW1]; exact From.alloc (From.refl _) _
  have k2 : From W1 W2 := by rw [← hW2]; exact From.alloc (From.refl _) _
  have s1 : W1.heap.size = w.heap.size + 1 := by rw [← hW1]; simp
  have s2 : W2.heap.size = w.heap.size + 2 := by rw [← hW2]; simp [s1]
  have HR0 := bx (show RunX w P w.heap.size m0 W2 from ⟨k1.trans k2, ⟨Nat.le_refl _, hP0, fun b hb => (hPd b).2 ⟨hQ b (by omega), by omega, by omega⟩⟩, Am, cm, MonC.from (by rw [← hW1]; exact MonC.new w m0 _) k2, (hm.imp fun b hb h => (hPd b).2 ⟨h, by omega, by omega⟩).from (k1.trans k2)⟩)
  have HZ0 := bx (show MonC W2 (w.heap.size + 1) ⟨0, 0, 0, 0, 0, 0, [], false⟩ (.slice none 0 0) by rw [← hW2, ← s1]; exact MonC.new W1 _ _)
  have HV := bx h
  have HSM := bx hs
  have HE := bx hE
  clear hm hs h hE hQ hPd hP0 hP1
  go_enter Try.func64, Try.ntmps64
  go_wp2_with fail
  clear hW1 hW2
  go_loopw [5] (fun i wr => ∃ k : Nat, k ≤ vals.length ∧ i = .int .i64 k ∧ RunX w P w.heap.size (runM m0 (vals.take k)) wr ∧ MonC wr (w.heap.size + 1) ⟨0, 0, 0, 0, 0, 0, [], false⟩ (.slice none 0 0)) (fun i _ => vals.length - (intOf i).toNat)
  case atStart => exact ⟨0, Nat.zero_le _, rfl, HR0.out, HZ0.out⟩
  case round =>
    clear HR0 HZ0
    obtain ⟨k, hk, rfl, hat, hz⟩ := hrel
    have hp16 : (runM m0 (vals.take k)).past.length ≤ 16 := by have := small_run HSM.out (vals.take k); unfold Small at this; omega
    by_cases hlt : k < vals.length
    · have z1 : (k : Int) < (vals.length : Int) := by omega
      have z2 : (0 : Int) ≤ (k : Int) := by omega
      have hS := runM_take m0 vals k hlt
      obtain ⟨vb, vo, rfl, _, vcell⟩ := ints_at (HV.out.from hat.from_) hlt
      have HS := bx hS
      have HZ := bx hz
      clear hS hz
      generalize vals[k] = v at *
      obtain ⟨m, hm⟩ : ∃ z, runM m0 (vals.take k) = z := ⟨_, rfl⟩
      rw [hm] at hat hp16
      have HAT := bx hat
      obtain ⟨hfr, hlow, A, c, hmc, hpast⟩ := hat
      obtain ⟨n, hn⟩ : ∃ z, stepM m v = z := ⟨_, rfl⟩
      obtain ⟨up, hup⟩ : ∃ u, upM m v = u := ⟨_, rfl⟩
      obtain ⟨dn, hdn⟩ : ∃ u, dnM m v = u := ⟨_, rfl⟩
      have HN := bx hn
      have HUP := bx hup
      have HDN := bx hdn
      have HM := bx hm
      have HST := bx (fun (W : World) (kk : From wr W) => step_calls m A c v W (hpast.sl.from kk) (by omega) n hn up dn hup hdn)
      have HMC := bx hmc
      have hmlt := hmc.lt
      clear hm hn hup hdn hpast

      have hS := HS.out
      rw [HM.out, HN.out] at hS
      replace HS := bx hS
      clear hS HUP HDN
      obtain ⟨mp, ml, mh, mn, mo, me, mps, mr⟩ := m
      obtain ⟨np, nl, nh, nn, no, ne, nps, nr⟩ := n
      obtain ⟨a0, a1, a2, a3, a4, a5, a6, a7⟩ := hmc.facts
      simp only at a0 a1 a2 a3 a4 a5 a6 a7
      clear hmc

      go_wp2_with fail
      refine region_cut_end (fun q0 a' w' => ∃ (x12 x13 x14 x15 x16 x17 x18 x19 x20 x21 : Value) (A3 : Option Addr) (c3 : Nat) (w4 : World), a' = puts q0 [(12, x12), (13, x13), (14, x14), (15, x15), (16, x16), (17, x17), (18, x18), (19, x19), (20, x20), (21, x21)] ∧ From wr w4 ∧ SlN wr.heap.size w4 (.slice A3 nps.length c3) nps.length (bc nps) ∧ w' = set8 w4 w.heap.size ⟨np, nl, nh, nn, no, ne, nps, nr⟩ (.slice A3 nps.length c3)) (fun K' HKK => ?_) ?_
      · go_region_with (go_at_call 58; refine (HST.out _ (by first | exact From.refl _ | exact From.drew (From.refl _))).mono ?_; rintro e w3 ⟨A3, c3, rfl, q3, k3⟩; have hkeep : From wr w3 := (by first | exact k3 | exact From.trans (From.drew (From.refl _)) k3); have hMm := HMC.out.from hkeep; have t0 := hMm.soft 0; have t1 := hMm.soft 1; have t2 := hMm.soft 2; have t3 := hMm.soft 3; have t4 := hMm.soft 4; have t5 := hMm.soft 5; have t6 := hMm.soft 6; have t7 := hMm.soft 7; obtain ⟨e0, e1, e2, e3, e4, e5, e6, e7⟩ := hMm.facts)
        all_goals
          refine HKK.out _ _ ⟨_, _, _, _, _, _, _, _, _, _, A3, c3, w3, (by simp only [puts, Act.put, List.setIfInBounds_toArray, List.set_cons_zero, List.set_cons_succ]; rfl), hkeep, ?_, ?_⟩
          · exact q3.low (by simp)
          · with_reducible rfl
      rintro a' w' ⟨x12, x13, x14, x15, x16, x17, x18, x19, x20, x21, A3, c3, w4, rfl, k4, hS4, rfl⟩
      simp only [puts, Act.put, List.setIfInBounds_toArray, List.set_cons_zero, List.set_cons_succ]

      have HNX := bx (HAT.out.step (n := ⟨np, nl, nh, nn, no, ne, nps, nr⟩) k4 hS4)
      have HZ2 := bx (MonC.off8 (m := ⟨np, nl, nh, nn, no, ne, nps, nr⟩) (v := .slice A3 nps.length c3) (HZ.out.from k4) (show w.heap.size ≠ w.heap.size + 1 by omega))
      clear hS4
      go_wp2
      go_roundw
      case rel => exact ⟨k + 1, by omega, by go_num, by rw [HS.out]; exact HNX.out, HZ2.out⟩
      case measure => simp [intOf]; omega
    · obtain rfl : k = vals.length := by omega
      rw [List.take_of_length_le (Nat.le_refl _), HE.out] at hat hp16
      obtain ⟨hfr, hlow, A, c, hmc, hpast⟩ := hat
      have HFR := bx hfr
      have HPA := bx hpast
      clear hfr hpast
      obtain ⟨a0, a1, a2, a3, a4, a5, a6, a7⟩ := hmc.facts
      obtain ⟨b0, b1, b2, b3, b4, b5, b6, b7⟩ := hz.facts
      have t0 := hz.soft 0
      have t1 := hz.soft 1
      have t2 := hz.soft 2
      have t3 := hz.soft 3
      have t4 := hz.soft 4
      have t5 := hz.soft 5
      have t6 := hz.soft 6
      have t7 := hz.soft 7
      have hsz := hz.lt
      clear hmc HE
      obtain ⟨yp, yl, yh, yn, yo, ye, yps, yr⟩ := mE
      simp only at a0 a1 a2 a3 a4 a5 a6 a7 b0 b1 b2 b3 b4 b5 b6 b7
      go_wp2_with fail
      refine bodyPost_ret (v := .agg (mcs ⟨yp, yl, yh, yn, yo, ye, yps, yr⟩ (.slice A yps.length c))) (by simp [results, Try.results64, go_sem, b0, b1, b2, b3, b4, b5, b6, b7]) rfl ⟨A, c, rfl, ?_, ?_⟩
      · exact (HPA.out.set8 HP1.out ⟨yp, yl, yh, yn, yo, ye, yps, yr⟩ _).imp fun b _ h => HPQ.out b h
      · exact From.set8 HFR.out (Nat.le_succ _) ⟨yp, yl, yh, yn, yo, ye, yps, yr⟩ _
end Go.Proofs.Ytlogokjjphlkkaa
