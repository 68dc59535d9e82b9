/-
  For all lists of numbers and all triples, the law MonitorMonotone returns true, and its arguments read as before. No condition.
-/
import Derived.Test.YtlogokjjphlkkaaW18
import Derived.Test.YtlogokjjphlkkaaR4
namespace Go.Proofs.Ytlogokjjphlkkaa
open Go.ChangeShapes Go.WideShapes Go.ChangeAt Go.RowKit Go.Deep Go.Shelf

theorem trues_mono (f g : Int → Bool) (h : ∀ v, f v = true → g v = true) (xs : List Int) : trues (xs.map f) ≤ trues (xs.map g) := by
  induction xs with
  | nil => simp
  | cons a t ih =>
    have : ∀ b : Bool, ∀ l : List Bool, trues (b :: l) = (if b then 1 else 0) + trues l := fun b l => by cases b <;> simp [trues]; omega
    rw [List.map_cons, List.map_cons, this, this]
    have := h a
    cases hf : f a <;> cases hg : g a <;> simp_all <;> omega
theorem mono_step {m n : Mon} {v : Int} (hr : m.raised = true → n.raised = true) (hc : trues (stepM m v).past ≤ trues (stepM n v).past) (hn : n.need ≤ m.need) (h1 : 1 ≤ n.need) : (stepM m v).raised = true → (stepM n v).raised = true := by
  intro h
  by_cases hq : n.need ≤ (trues (stepM n v).past : Int)
  · exact (step_delay h1).1 hq
  · have hmq : ¬ m.need ≤ (trues (pushP m.past m.of (outB m v)) : Int) := fun hh => hq (by
      have : trues (stepM m v).past = trues (pushP m.past m.of (outB m v)) := rfl
      omega)
    have hmr : m.raised = true ∧ ¬ trues (pushP m.past m.of (outB m v)) = 0 := by
      change (if upM m v || dnM m v then upM m v else m.raised) = true at h
      unfold upM dnM at h
      cases hx : m.raised
      · rw [hx] at h; simp [hmq] at h
      · refine ⟨rfl, fun h0 => ?_⟩
        rw [hx] at h; simp [h0] at h
    have hnr := hr hmr.1
    have hnc : ¬ trues (pushP n.past n.of (outB n v)) = 0 := fun h0 => hmr.2 (by
      have e1 : trues (stepM m v).past = trues (pushP m.past m.of (outB m v)) := rfl
      have e2 : trues (stepM n v).past = trues (pushP n.past n.of (outB n v)) := rfl
      omega)
    show (if upM n v || dnM n v then upM n v else n.raised) = true
    unfold upM dnM
    rw [hnr]
    simp [hnc]
set_option maxRecDepth 100000 in
set_option maxHeartbeats 8000000 in
theorem mtn_walk (A0 : Option Addr) (c0 : Nat) (l : List Int) (x y z : Int) (AV : Option Addr) (cV : Nat) (vals : List Int) (w : World)
    (h : Ints w (.slice A0 l.length c0) l) (_ : l.length ≤ 9223372036854775807) (hx : ∀ x ∈ l, -9223372036854775808 ≤ x ∧ x ≤ 9223372036854775807)
    (bx0 : Fits x) (by0 : Fits y) (bz0 : Fits z)
    (hv : Ints w (.slice AV vals.length cV) vals) (hvm : vals.length ≤ 9223372036854775807) (_ : ∀ x ∈ vals, -9223372036854775808 ≤ x ∧ x ≤ 9223372036854775807) :
    Calls Try.prog 15 #[.slice A0 l.length c0, .agg #[.int .i64 x, .int .i64 y, .int .i64 z], .slice AV vals.length cV] w fun e w' => e = .returned (.bool true) ∧ Below w.heap.size w w' := by
  obtain ⟨m0, hm0⟩ : ∃ m, makeM l = m := ⟨_, rfl⟩
  have hg : GoodM m0 := by rw [← hm0]; exact makeM_good l
  have hp : m0.past = [] := by rw [← hm0]; rfl
  have M0F := bx (show m0.raised = false by rw [← hm0]; rfl)
  have hlow := hg.low
  have hhigh := hg.high
  have hneed := hg.need
  have hof := hg.of
  have ba := around_bd x (m0.high - m0.low + 1) (by omega)
  obtain ⟨a, ha⟩ : ∃ a, around x (m0.high - m0.low + 1) = a := ⟨_, rfl⟩
  rw [ha] at ba
  have bb := around_bd y (m0.high - (m0.low + a) + 1) (by omega)
  obtain ⟨b, hb⟩ : ∃ b, around y (m0.high - (m0.low + a) + 1) = b := ⟨_, rfl⟩
  rw [hb] at bb
  have bc9 := around_bd z m0.need (by omega)
  obtain ⟨c, hc⟩ : ∃ c, around z m0.need = c := ⟨_, rfl⟩
  rw [hc] at bc9
  have AR1 := bx (fun (W : World) => (show Calls Try.prog 34 #[.int .i64 x, .int .i64 (m0.high - m0.low + 1)] W _ from by have := around_calls x (m0.high - m0.low + 1) W bx0.1 bx0.2 (by omega) (by omega); rw [ha] at this; exact this))
  have AR2 := bx (fun (W : World) => (show Calls Try.prog 34 #[.int .i64 y, .int .i64 (m0.high - (m0.low + a) + 1)] W _ from by have := around_calls y (m0.high - (m0.low + a) + 1) W by0.1 by0.2 (by omega) (by omega); rw [hb] at this; exact this))
  have AR3 := bx (fun (W : World) => (show Calls Try.prog 34 #[.int .i64 z, .int .i64 m0.need] W _ from by have := around_calls z m0.need W bz0.1 bz0.2 (by omega) (by omega); rw [hc] at this; exact this))
  obtain ⟨Wa, hWa⟩ : ∃ V, w.alloc (.cells #[.int .i64 x, .int .i64 y, .int .i64 z] 81) = V := ⟨_, rfl⟩
  have ka : From w Wa := by rw [← hWa]; exact From.alloc (From.refl _) _
  have HMK := bx (makeM_calls A0 c0 l Wa (h.from ka) hx m0 hm0)
  have HMO := bx (show Wa.cell? ⟨w.heap.size, 0, none⟩ = some (.int .i64 x) ∧ Wa.cell? ⟨w.heap.size, 1, none⟩ = some (.int .i64 y) ∧ Wa.cell? ⟨w.heap.size, 2, none⟩ = some (.int .i64 z) by
    rw [← hWa]; exact ⟨by rw [World.cell?_alloc_new]; rfl, by rw [World.cell?_alloc_new]; rfl, by rw [World.cell?_alloc_new]; rfl⟩)
  have HG := bx hg
  have HP := bx hp
  have HV := bx hv
  have e1 : IntKind.i64.wrap (m0.high - m0.low) = m0.high - m0.low := IntWalk.i64_in _ (by omega)
  have e2 : IntKind.i64.wrap (m0.high - m0.low + 1) = m0.high - m0.low + 1 := IntWalk.i64_in _ (by omega)
  have e3 : IntKind.i64.wrap (m0.low + a) = m0.low + a := IntWalk.i64_in _ (by omega)
  have e4 : IntKind.i64.wrap (m0.high - (m0.low + a)) = m0.high - (m0.low + a) := IntWalk.i64_in _ (by omega)
  have e5 : IntKind.i64.wrap (m0.high - (m0.low + a) + 1) = m0.high - (m0.low + a) + 1 := IntWalk.i64_in _ (by omega)
  have e6 : IntKind.i64.wrap (m0.high - b) = m0.high - b := IntWalk.i64_in _ (by omega)
  have e7 : IntKind.i64.wrap (1 + c) = 1 + c := IntWalk.i64_in _ (by omega)
  clear hg hp hm0 h hx hv ha hb hc
  go_enter Try.func15, Try.ntmps15
  go_wp2_with fail
  refine HMK.out.mono ?_
  rintro e w1 ⟨rfl, k1⟩
  clear hWa
  go_wp2_with fail
  obtain ⟨Wm, hWm⟩ : ∃ V, w1.alloc (.cells (mcs m0 (.slice none 0 0)) 71) = V := ⟨_, rfl⟩
  obtain ⟨Wn, hWn0⟩ : ∃ V, Wm.alloc (.cells (mcs m0 (.slice none 0 0)) 71) = V := ⟨_, rfl⟩
  have km : From w1 Wm := by rw [← hWm]; exact From.alloc (From.refl _) _
  have hWn : From Wm Wn := by rw [← hWn0]; exact From.alloc (From.refl _) _
  have sm : Wm.heap.size = w1.heap.size + 1 := by rw [← hWm]; simp
  have hleW : Wm.heap.size ≤ w1.heap.size + 1 := by omega
  have HM := bx (show MonC Wm w1.heap.size m0 (.slice none 0 0) by rw [← hWm]; exact MonC.new w1 m0 _)
  have HN := bx (show MonC Wn (w1.heap.size + 1) ⟨m0.par, m0.low, m0.high, m0.need, m0.of, m0.ev, [], m0.raised⟩ (.slice none 0 0) by rw [← hWn0, ← sm]; exact ⟨(MonC.new Wm m0 (.slice none 0 0)).out⟩)
  rw [show w1.alloc (.cells #[.int .i64 m0.par, .int .i64 m0.low, .int .i64 m0.high, .int .i64 m0.need, .int .i64 m0.of, .int .i64 m0.ev, .slice none 0 0, .bool m0.raised] 71) = Wm from hWm,
    show Wm.alloc (.cells #[.int .i64 m0.par, .int .i64 m0.low, .int .i64 m0.high, .int .i64 m0.need, .int .i64 m0.of, .int .i64 m0.ev, .slice none 0 0, .bool m0.raised] 71) = Wn from hWn0]
  have kWm := (ka.trans k1).trans km
  have hw1 : w.heap.size ≤ w1.heap.size := Below.size (ka.trans k1)
  have HMM := bx ((HMO.out.imp (fun h => (k1.trans km).cell h) (And.imp (fun h => (k1.trans km).cell h) (fun h => (k1.trans km).cell h))))
  have HK := bx (fun (W : World) (k : From Wm W) => (show From Wm W ∧ W.cell? ⟨w1.heap.size, 1, none⟩ = some (.int .i64 m0.low) ∧ W.cell? ⟨w1.heap.size, 2, none⟩ = some (.int .i64 m0.high) ∧ W.cell? ⟨w1.heap.size, 3, none⟩ = some (.int .i64 m0.need) ∧ W.cell? ⟨w.heap.size, 0, none⟩ = some (.int .i64 x) ∧ W.cell? ⟨w.heap.size, 1, none⟩ = some (.int .i64 y) ∧ W.cell? ⟨w.heap.size, 2, none⟩ = some (.int .i64 z) from ⟨k, (HM.out.from k).facts.2.1, (HM.out.from k).facts.2.2.1, (HM.out.from k).facts.2.2.2.1, k.cell HMM.out.1, k.cell HMM.out.2.1, k.cell HMM.out.2.2⟩))
  have HK0 := HK
  clear hWm hWn0 HMK km k1
  obtain ⟨n0, n1, n2, n3, n4, n5, n6, n7⟩ := HN.out.facts
  simp only at n0 n1 n2 n3 n4 n5 n6 n7
  have fr := HN.out.soft 1
  go_wp2_with fail
  refine region_cut (fun q0 a' w' => ∃ (x13 x14 x15 x16 x17 x18 x19 x20 x21 x22 x23 x24 x25 : Value), a' = puts q0 [(13, x13), (14, x14), (15, x15), (16, x16), (17, x17), (18, x18), (19, x19), (20, x20), (21, x21), (22, x22), (23, x23), (24, x24), (25, x25)] ∧ From Wm w' ∧ MonC w' (w1.heap.size + 1) ⟨m0.par, m0.low + a, m0.high, m0.need, m0.of, m0.ev, [], m0.raised⟩ (.slice none 0 0)) (fun K' HKK => ?_) ?_
  · go_region_held3 (fun W => From Wm W ∧ W.cell? ⟨w1.heap.size, 1, none⟩ = some (.int .i64 m0.low) ∧ W.cell? ⟨w1.heap.size, 2, none⟩ = some (.int .i64 m0.high) ∧ W.cell? ⟨w1.heap.size, 3, none⟩ = some (.int .i64 m0.need) ∧ W.cell? ⟨w.heap.size, 0, none⟩ = some (.int .i64 x) ∧ W.cell? ⟨w.heap.size, 1, none⟩ = some (.int .i64 y) ∧ W.cell? ⟨w.heap.size, 2, none⟩ = some (.int .i64 z))
      (first | (go_split_ands; with_reducible refine HK.out _ ?_; repeat' (first | with_reducible assumption | with_reducible exact Nat.le_refl _ | with_reducible refine From.drew ?_ | with_reducible refine From.alloc ?_ _ | with_reducible refine From.setCell ?_ ?_ _ _)))
      (first | (go_at_call 34; (with_reducible refine (AR1.out _).mono ?_); rintro e wA ⟨rfl, rfl⟩))
    all_goals exact HKK.out _ _ ⟨_, _, _, _, _, _, _, _, _, _, _, _, _, (by simp only [puts, Act.put, List.setIfInBounds_toArray, List.set_cons_zero, List.set_cons_succ]; rfl), by first | (with_reducible exact (From.setCell hWn hleW _ _).drew) | (with_reducible exact From.setCell hWn.drew hleW _ _) | (with_reducible exact From.setCell hWn hleW _ _), by first | exact MonC.from ⟨heap_set_at HN.out.out 1 _⟩ (From.drew (From.refl _)) | exact ⟨heap_set_at HN.out.out 1 _⟩⟩
  rintro a' w' ⟨x13, x14, x15, x16, x17, x18, x19, x20, x21, x22, x23, x24, x25, rfl, hk, hM⟩
  rename_i K0 hK0
  apply hK0
  clear hK0 n0 n1 n2 n3 n4 n5 n6 n7 fr HK HN hWn
  simp only [puts, Act.put, List.setIfInBounds_toArray, List.set_cons_zero, List.set_cons_succ]
  rename World => W3
  have hWn := hk
  have HN := bx hM
  have HK := HK0
  clear hk hM

  obtain ⟨n0, n1, n2, n3, n4, n5, n6, n7⟩ := HN.out.facts
  simp only at n0 n1 n2 n3 n4 n5 n6 n7
  have fr := HN.out.soft 2
  have HK := bx (fun (W : World) (k : From Wm W) (q : W.cell? ⟨w1.heap.size + 1, 1, none⟩ = some (.int .i64 (m0.low + a))) => (show From Wm W ∧ W.cell? ⟨w1.heap.size, 1, none⟩ = some (.int .i64 m0.low) ∧ W.cell? ⟨w1.heap.size, 2, none⟩ = some (.int .i64 m0.high) ∧ W.cell? ⟨w1.heap.size, 3, none⟩ = some (.int .i64 m0.need) ∧ W.cell? ⟨w.heap.size, 0, none⟩ = some (.int .i64 x) ∧ W.cell? ⟨w.heap.size, 1, none⟩ = some (.int .i64 y) ∧ W.cell? ⟨w.heap.size, 2, none⟩ = some (.int .i64 z) ∧ W.cell? ⟨w1.heap.size + 1, 1, none⟩ = some (.int .i64 (m0.low + a)) from by obtain ⟨s0, s1, s2, s3, s4, s5, s6⟩ := HK0.out W k; exact ⟨s0, s1, s2, s3, s4, s5, s6, q⟩))
  go_wp2_with fail
  refine region_cut (fun q0 a' w' => ∃ (x26 x27 x28 x29 x30 x31 x32 x33 x34 x35 x36 x37 x38 : Value), a' = puts q0 [(26, x26), (27, x27), (28, x28), (29, x29), (30, x30), (31, x31), (32, x32), (33, x33), (34, x34), (35, x35), (36, x36), (37, x37), (38, x38)] ∧ From Wm w' ∧ MonC w' (w1.heap.size + 1) ⟨m0.par, m0.low + a, m0.high - b, m0.need, m0.of, m0.ev, [], m0.raised⟩ (.slice none 0 0)) (fun K' HKK => ?_) ?_
  · go_region_held3 (fun W => From Wm W ∧ W.cell? ⟨w1.heap.size, 1, none⟩ = some (.int .i64 m0.low) ∧ W.cell? ⟨w1.heap.size, 2, none⟩ = some (.int .i64 m0.high) ∧ W.cell? ⟨w1.heap.size, 3, none⟩ = some (.int .i64 m0.need) ∧ W.cell? ⟨w.heap.size, 0, none⟩ = some (.int .i64 x) ∧ W.cell? ⟨w.heap.size, 1, none⟩ = some (.int .i64 y) ∧ W.cell? ⟨w.heap.size, 2, none⟩ = some (.int .i64 z) ∧ W.cell? ⟨w1.heap.size + 1, 1, none⟩ = some (.int .i64 (m0.low + a)))
      (first | (go_split_ands; with_reducible refine HK.out _ ?_ (by first | with_reducible assumption | exact (From.drew (From.refl _)).cell (by with_reducible assumption) | (rw [World.cell?_setCell_other _ _ _ _ (by simp)]; with_reducible assumption) | (refine (From.drew (From.refl _)).cell ?_; rw [World.cell?_setCell_other _ _ _ _ (by simp)]; with_reducible assumption)); repeat' (first | with_reducible assumption | with_reducible exact Nat.le_refl _ | with_reducible refine From.drew ?_ | with_reducible refine From.alloc ?_ _ | with_reducible refine From.setCell ?_ ?_ _ _)))
      (first | (go_at_call 34; (with_reducible refine (AR2.out _).mono ?_); rintro e wA ⟨rfl, rfl⟩))
    all_goals exact HKK.out _ _ ⟨_, _, _, _, _, _, _, _, _, _, _, _, _, (by simp only [puts, Act.put, List.setIfInBounds_toArray, List.set_cons_zero, List.set_cons_succ]; rfl), by first | (with_reducible exact (From.setCell hWn hleW _ _).drew) | (with_reducible exact From.setCell hWn.drew hleW _ _) | (with_reducible exact From.setCell hWn hleW _ _), by first | exact MonC.from ⟨heap_set_at HN.out.out 2 _⟩ (From.drew (From.refl _)) | exact ⟨heap_set_at HN.out.out 2 _⟩⟩
  rintro a' w' ⟨x26, x27, x28, x29, x30, x31, x32, x33, x34, x35, x36, x37, x38, rfl, hk, hM⟩
  rename_i K0 hK0
  apply hK0
  clear hK0 n0 n1 n2 n3 n4 n5 n6 n7 fr HK HN hWn
  simp only [puts, Act.put, List.setIfInBounds_toArray, List.set_cons_zero, List.set_cons_succ]
  rename World => W4
  have hWn := hk
  have HN := bx hM
  have HK := HK0
  clear hk hM

  obtain ⟨n0, n1, n2, n3, n4, n5, n6, n7⟩ := HN.out.facts
  simp only at n0 n1 n2 n3 n4 n5 n6 n7
  have fr := HN.out.soft 3
  obtain ⟨_, p1, p2, p3, p4, p5, p6⟩ := HK.out _ hWn
  go_wp2_with fail
  refine (AR3.out _).mono ?_
  rintro e wA ⟨rfl, rfl⟩
  go_wp2_with fail
  obtain ⟨W5, hW5⟩ : ∃ V, wA.setCell ⟨w1.heap.size + 1, 3, none⟩ (.int .i64 (1 + c)) = V := ⟨_, rfl⟩
  have k5 : From Wm W5 := by rw [← hW5]; exact From.setCell hWn hleW _ _
  obtain ⟨nn, hnn⟩ : ∃ z : Mon, (⟨m0.par, m0.low + a, m0.high - b, 1 + c, m0.of, m0.ev, [], m0.raised⟩ : Mon) = z := ⟨_, rfl⟩
  have HN5 := bx (show MonC W5 (w1.heap.size + 1) nn (.slice none 0 0) by rw [← hW5, ← hnn]; exact ⟨heap_set_at HN.out.out 3 _⟩)
  rw [hW5]
  have hlt5 := HN5.out.lt
  obtain ⟨P, hPd⟩ : ∃ P : Nat → Prop, ∀ b, P b ↔ (b ≠ w1.heap.size ∧ b ≠ w1.heap.size + 1) := ⟨_, fun _ => Iff.rfl⟩
  have hP1 : ¬ P w1.heap.size := fun h => ((hPd _).1 h).1 rfl
  have hP2 : ¬ P (w1.heap.size + 1) := fun h => ((hPd _).1 h).2 rfl
  have hws := Below.size kWm
  have HX1 := bx (show RunX w P w1.heap.size m0 W5 from ⟨kWm.trans k5, ⟨hw1, hP1, fun b hb => (hPd b).2 ⟨by omega, by omega⟩⟩, none, 0, by rw [HP.out]; exact HM.out.from k5, by rw [HP.out]; exact ⟨.inl ⟨rfl, rfl, rfl⟩⟩⟩)
  have hnp : nn.past = [] := by rw [← hnn]
  have HX2 := bx (show RunX w P (w1.heap.size + 1) nn W5 from ⟨kWm.trans k5, ⟨by omega, hP2, fun b hb => (hPd b).2 ⟨by omega, by omega⟩⟩, none, 0, by rw [hnp]; exact HN5.out, by rw [hnp]; exact ⟨.inl ⟨rfl, rfl, rfl⟩⟩⟩)
  have hsm : Small m0 := by unfold Small; rw [HP.out]; simp; omega
  have hsn : Small nn := by unfold Small; rw [hnp, ← hnn]; simp; omega
  have hout : ∀ v, outB m0 v = true → outB nn v = true := by
    intro v hv
    rw [← hnn]
    simp only [outB, Bool.or_eq_true, decide_eq_true_eq] at hv ⊢
    omega
  have HREL := bx (fun (xs : List Int) => show trues (runM m0 xs).past ≤ trues (runM nn xs).past by
    rw [run_past m0 HP.out m0.of.toNat (by omega) (by omega), run_past nn hnp m0.of.toNat (by rw [← hnn]; show m0.of = _; omega) (by omega), ← drop_map_last, ← drop_map_last]
    exact trues_mono _ _ hout _)
  have HND := bx (fun (xs : List Int) => show (runM nn xs).need ≤ (runM m0 xs).need ∧ 1 ≤ (runM nn xs).need by
    have h1 := (like_run m0 xs).2.2.2.1
    have h2 := (like_run nn xs).2.2.2.1
    rw [h1, h2, ← hnn]
    show 1 + c ≤ m0.need ∧ 1 ≤ 1 + c
    omega)
  have HR0 := bx (show m0.raised = true → nn.raised = true from fun h => by rw [M0F.out] at h; cases h)
  have HSM := bx hsm
  have HSN := bx hsn
  have HP2 := bx hP2
  have HP1 := bx hP1
  clear hW5 hnn hPd hP1 hP2 hnp hsm hsn hout n0 n1 n2 n3 n4 n5 n6 n7 fr p1 p2 p3 p4 p5 p6 HN5 HN HM HK HK0 HMM AR1 AR2 AR3 e1 e2 e3 e4 e5 e6 e7 k5 hWn
  go_wp2_with fail
  go_loopw [9] (fun i wr => ∃ k : Nat, k ≤ vals.length ∧ k ≤ 100 ∧ i = .int .i64 k ∧ RunX w P w1.heap.size (runM m0 (vals.take k)) wr ∧ RunX w P (w1.heap.size + 1) (runM nn (vals.take k)) wr ∧ ((runM m0 (vals.take k)).raised = true → (runM nn (vals.take k)).raised = true)) (fun i _ => vals.length - (intOf i).toNat)
  case atStart => exact ⟨0, Nat.zero_le _, by omega, rfl, HX1.out, HX2.out, HR0.out⟩
  case round =>
    clear HX1 HX2 HR0
    obtain ⟨k, hk, hk100, rfl, hat, hat2, hrr⟩ := hrel
    by_cases hlt : k < vals.length
    · by_cases hl100 : k < 100
      · have z1 : (k : Int) < (vals.length : Int) := by omega
        have z2 : (0 : Int) ≤ (k : Int) := by omega
        have z3 : decide ((k : Int) < (vals.length : Int)) = true := decide_eq_true z1
        have hp16 : (runM m0 (vals.take k)).past.length ≤ 16 := by have := small_run HSM.out (vals.take k); unfold Small at this; omega
        have hp162 : (runM nn (vals.take k)).past.length ≤ 16 := by have := small_run HSN.out (vals.take k); unfold Small at this; omega
        have hS := runM_take m0 vals k hlt
        have hS2 := runM_take nn vals k hlt
        have hq1 := HREL.out (vals.take (k + 1))
        obtain ⟨hq2, hq3⟩ := HND.out (vals.take k)
        have HRR := bx (show (runM m0 (vals.take (k + 1))).raised = true → (runM nn (vals.take (k + 1))).raised = true by
          rw [hS, hS2] at hq1 ⊢
          exact mono_step hrr hq1 hq2 hq3)
        clear hq1 hq2 hq3 hrr
        obtain ⟨vb, vo, rfl, _, vcell⟩ := ints_at (HV.out.from hat.from_) hlt
        have HVC := bx (fun (W : World) (kk : From w W) => (show W.cell? ⟨vb, vo + k, none⟩ = some (.int .i64 vals[k]) from by
          obtain ⟨b, o, e, _, hh⟩ := ints_at (HV.out.from kk) hlt
          cases e
          exact hh))
        have HS := bx hS
        have HS2 := bx hS2
        have HAT2 := bx hat2
        clear hS hS2 hat2
        generalize vals[k] = v at *
        obtain ⟨m, hm⟩ : ∃ z, runM m0 (vals.take k) = z := ⟨_, rfl⟩
        rw [hm] at hat hp16
        have HAT := bx hat
        obtain ⟨hfr, hlow, A, c, hmc, hpast⟩ := hat
        obtain ⟨j, hn⟩ : ∃ z, stepM m v = z := ⟨_, rfl⟩
        obtain ⟨up, hup⟩ : ∃ u, upM m v = u := ⟨_, rfl⟩
        obtain ⟨dn, hdn⟩ : ∃ u, dnM m v = u := ⟨_, rfl⟩
        have HN := bx hn
        have HUP := bx hup
        have HDN := bx hdn
        have HM := bx hm
        have HST := bx (fun (W : World) (kk : From wr W) => step_calls m A c v W (hpast.sl.from kk) (by omega) j hn up dn hup hdn)
        have HMC := bx hmc
        have hmlt := hmc.lt
        clear hm hn hup hdn hpast

        have hS := HS.out
        rw [HM.out, HN.out] at hS
        replace HS := bx hS
        clear hS HUP HDN
        obtain ⟨mp, ml, mh, mn, mo, me, mps, mr⟩ := m
        obtain ⟨jp, jl, jh, jn, jo, je, jps, jr⟩ := j
        obtain ⟨a0, a1, a2, a3, a4, a5, a6, a7⟩ := hmc.facts
        simp only at a0 a1 a2 a3 a4 a5 a6 a7
        clear hmc

        go_wp2_with fail
        refine region_cut (fun q0 a' w' => ∃ (x56 x57 x58 x59 x60 x61 x62 x63 x64 x65 : Value) (A3 : Option Addr) (c3 : Nat) (w4 : World), a' = puts q0 [(56, x56), (57, x57), (58, x58), (59, x59), (60, x60), (61, x61), (62, x62), (63, x63), (64, x64), (65, x65)] ∧ From wr w4 ∧ SlN wr.heap.size w4 (.slice A3 jps.length c3) jps.length (bc jps) ∧ w' = set8 w4 w1.heap.size ⟨jp, jl, jh, jn, jo, je, jps, jr⟩ (.slice A3 jps.length c3)) (fun K' HKK => ?_) ?_
        · go_region_with (go_at_call 58; refine (HST.out _ (by first | exact From.refl _ | exact From.drew (From.refl _))).mono ?_; rintro e w3 ⟨A3, c3, rfl, q3, k3⟩; have hkeep : From wr w3 := (by first | exact k3 | exact From.trans (From.drew (From.refl _)) k3); have hMm := HMC.out.from hkeep; have t0 := hMm.soft 0; have t1 := hMm.soft 1; have t2 := hMm.soft 2; have t3 := hMm.soft 3; have t4 := hMm.soft 4; have t5 := hMm.soft 5; have t6 := hMm.soft 6; have t7 := hMm.soft 7; obtain ⟨e0, e1, e2, e3, e4, e5, e6, e7⟩ := hMm.facts)
          all_goals
            refine HKK.out _ _ ⟨_, _, _, _, _, _, _, _, _, _, A3, c3, w3, (by simp only [puts, Act.put, List.setIfInBounds_toArray, List.set_cons_zero, List.set_cons_succ]; rfl), hkeep, ?_, ?_⟩
            · exact q3.low (by simp)
            · with_reducible rfl
        rintro a' w' ⟨x56, x57, x58, x59, x60, x61, x62, x63, x64, x65, A3, c3, w4, rfl, k4, hS4, rfl⟩
        rename_i K0 hK0
        apply hK0
        simp only [puts, Act.put, List.setIfInBounds_toArray, List.set_cons_zero, List.set_cons_succ]

        clear hK0
        have HNX := bx (HAT.out.step (n := ⟨jp, jl, jh, jn, jo, je, jps, jr⟩) k4 hS4)
        replace HAT2 := bx ((HAT2.out.call k4).other hw1 HP1.out (show w1.heap.size ≠ w1.heap.size + 1 by omega) ⟨jp, jl, jh, jn, jo, je, jps, jr⟩ (.slice A3 jps.length c3))
        clear hS4 HAT HMC HST a0 a1 a2 a3 a4 a5 a6 a7 vcell hfr hlow
        generalize set8 w4 w1.heap.size ⟨jp, jl, jh, jn, jo, je, jps, jr⟩ (.slice A3 jps.length c3) = W5 at *
        clear k4
        have hat2 := HAT2.out
        have vcell := HVC.out _ hat2.from_
        
        obtain ⟨f, hm2⟩ : ∃ z, runM nn (vals.take k) = z := ⟨_, rfl⟩
        rw [hm2] at hat2 hp162
        have HAT2 := bx hat2
        obtain ⟨hfr2, hlow2, A2, c2, hmc2, hpast2⟩ := hat2
        obtain ⟨g, hn2⟩ : ∃ z, stepM f v = z := ⟨_, rfl⟩
        obtain ⟨up2, hup2⟩ : ∃ u, upM f v = u := ⟨_, rfl⟩
        obtain ⟨dn2, hdn2⟩ : ∃ u, dnM f v = u := ⟨_, rfl⟩
        have HN2 := bx hn2
        have HUP2 := bx hup2
        have HDN2 := bx hdn2
        have HM2 := bx hm2
        have HST2 := bx (fun (W : World) (kk : From W5 W) => step_calls f A2 c2 v W (hpast2.sl.from kk) (by omega) g hn2 up2 dn2 hup2 hdn2)
        have HMC2 := bx hmc2
        have hmlt2 := hmc2.lt
        clear hm2 hn2 hup2 hdn2 hpast2

        have hS2 := HS2.out
        rw [HM2.out, HN2.out] at hS2
        replace HS2 := bx hS2
        clear hS2 HUP2 HDN2
        obtain ⟨fp, fl, fh, fn, fo, fe, fps, fr⟩ := f
        obtain ⟨gp, gl, gh, gn, go, ge, gps, gr⟩ := g
        obtain ⟨a0, a1, a2, a3, a4, a5, a6, a7⟩ := hmc2.facts
        simp only at a0 a1 a2 a3 a4 a5 a6 a7
        clear hmc2

        go_wp2_with fail
        refine region_cut (fun q0 a' w' => ∃ (x66 x67 x68 x69 x70 x71 x72 x73 x74 x75 : Value) (A3 : Option Addr) (c3 : Nat) (w4 : World), a' = puts q0 [(66, x66), (67, x67), (68, x68), (69, x69), (70, x70), (71, x71), (72, x72), (73, x73), (74, x74), (75, x75)] ∧ From W5 w4 ∧ SlN W5.heap.size w4 (.slice A3 gps.length c3) gps.length (bc gps) ∧ w' = set8 w4 (w1.heap.size + 1) ⟨gp, gl, gh, gn, go, ge, gps, gr⟩ (.slice A3 gps.length c3)) (fun K' HKK => ?_) ?_
        · go_region_with (go_at_call 58; refine (HST2.out _ (by first | exact From.refl _ | exact From.drew (From.refl _))).mono ?_; rintro e w3 ⟨A3, c3, rfl, q3, k3⟩; have hkeep : From W5 w3 := (by first | exact k3 | exact From.trans (From.drew (From.refl _)) k3); have hMm := HMC2.out.from hkeep; have t0 := hMm.soft 0; have t1 := hMm.soft 1; have t2 := hMm.soft 2; have t3 := hMm.soft 3; have t4 := hMm.soft 4; have t5 := hMm.soft 5; have t6 := hMm.soft 6; have t7 := hMm.soft 7; obtain ⟨e0, e1, e2, e3, e4, e5, e6, e7⟩ := hMm.facts)
          all_goals
            refine HKK.out _ _ ⟨_, _, _, _, _, _, _, _, _, _, A3, c3, w3, (by simp only [puts, Act.put, List.setIfInBounds_toArray, List.set_cons_zero, List.set_cons_succ]; rfl), hkeep, ?_, ?_⟩
            · exact q3.low (by simp)
            · with_reducible rfl
        rintro a' w' ⟨x66, x67, x68, x69, x70, x71, x72, x73, x74, x75, A3, c3, w4, rfl, k4, hS4, rfl⟩
        rename_i K0 hK0
        apply hK0
        simp only [puts, Act.put, List.setIfInBounds_toArray, List.set_cons_zero, List.set_cons_succ]

        clear hK0
        have HNX2 := bx (HAT2.out.step (n := ⟨gp, gl, gh, gn, go, ge, gps, gr⟩) k4 hS4)
        have HNX1 := bx ((HNX.out.call k4).other (show w.heap.size ≤ w1.heap.size + 1 by omega) HP2.out (show w1.heap.size + 1 ≠ w1.heap.size by omega) ⟨gp, gl, gh, gn, go, ge, gps, gr⟩ (.slice A3 gps.length c3))
        clear hS4 HAT2 HMC2 HST2 a0 a1 a2 a3 a4 a5 a6 a7 vcell hfr2 hlow2 HNX
        generalize set8 w4 (w1.heap.size + 1) ⟨gp, gl, gh, gn, go, ge, gps, gr⟩ (.slice A3 gps.length c3) = W7 at *
        clear k4

        obtain ⟨A8, c8, hM8, _⟩ := HNX1.out.mon
        obtain ⟨A9, c9, hM9, _⟩ := HNX2.out.mon
        obtain ⟨b0, b1, b2, b3, b4, b5, b6, b7⟩ := hM8.facts
        obtain ⟨d0, d1, d2, d3, d4, d5, d6, d7⟩ := hM9.facts
        simp only at b0 b1 b2 b3 b4 b5 b6 b7 d0 d1 d2 d3 d4 d5 d6 d7
        clear hM8 hM9
        have hrr := HRR.out
        rw [HS.out, HS2.out] at hrr
        have HRR := bx hrr
        simp only at hrr
        cases jr
        · clear hrr
          go_wp2
          go_roundw
          case rel => exact ⟨k + 1, by omega, by omega, by go_num, by rw [HS.out]; exact HNX1.out, by rw [HS2.out]; exact HNX2.out, by rw [HS.out, HS2.out]; exact HRR.out⟩
          case measure => simp [intOf]; omega
        · obtain rfl := hrr rfl
          clear hrr
          go_wp2
          go_roundw
          case rel => exact ⟨k + 1, by omega, by omega, by go_num, by rw [HS.out]; exact HNX1.out, by rw [HS2.out]; exact HNX2.out, by rw [HS.out, HS2.out]; exact HRR.out⟩
          case measure => simp [intOf]; omega
      · have hl100' : k = 100 := by omega
        have z3 : decide ((k : Int) < (vals.length : Int)) = true := decide_eq_true (by omega)
        have z4 : decide ((k : Int) < 100) = false := decide_eq_false (by omega)
        go_wp2_with fail
        refine (livesM_calls _).mono ?_
        rintro e w9 ⟨rfl, k9⟩
        go_wp2
        go_ret
        exact ⟨rfl, hat.from_.trans k9⟩
    · have z3 : decide ((k : Int) < (vals.length : Int)) = false := decide_eq_false (by omega)
      go_wp2_with fail
      refine (livesM_calls _).mono ?_
      rintro e w9 ⟨rfl, k9⟩
      go_wp2
      go_ret
      exact ⟨rfl, hat.from_.trans k9⟩
set_option maxRecDepth 100000 in
theorem mtn_lifted (os : Os) (started : os.Started) (H : Type) (enc : TypeId × Value → H) :
    ReturnsInHanded {} Try.checked os 15 .any (Rows.monitorMonotoneSpec.pre6 enc Try.prog Try.f15 Rows.monitorMonotoneRow.domain false) (Rows.monitorMonotoneSpec.post enc Try.prog Try.f15 false true false false) := by
  refine returnsInHanded_of_change (C := Try.checked) own started (by kernel_rfl) Try.func15
    (ChangeSpec.witness6 (enc := enc) (C := Try.checked) false ⟨#[], #[.slice none 0 0, .agg #[.int .i64 0, .int .i64 0, .int .i64 0], .slice none 0 0], []⟩ 8 (by kernel_rfl) (by kernel_rfl) (by kernel_rfl) (by kernel_rfl)) ?_
  intro W base args ds gs before hval0 hW hcnd _
  have hval : ∀ (j : Nat) t v, Try.f15.params[j]? = some t → args[j]? = some v → Value.okWide Try.prog W .any base t v := hval0
  have hW' := hW
  obtain ⟨p, q, hA0, hV, rfl, hfz, hnd⟩ := hW
  have hA : DataW.TrodAll enc Try.prog W 0 (fun _ => true) true Try.f15.params.toList args.toList ds p := hA0
  rw [Try.params15] at hA hval
  obtain ⟨v0, vs0, d0, ds0, p0, q0, hargs, rfl, rfl, h0, r0⟩ := trodAll_cons hA
  obtain ⟨v1, vs1, d1, ds1, p1, q1, rfl, rfl, rfl, h1, r1⟩ := trodAll_cons r0
  obtain ⟨v2, vs2, d2, ds2, p2, q2, rfl, rfl, rfl, h2, r2⟩ := trodAll_cons r1
  obtain ⟨rfl, rfl, rfl⟩ := trodAll_nil r2
  obtain rfl : args = #[v0, v1, v2] := by cases args; simp_all
  obtain ⟨rfl, rfl⟩ := trodVars_none hV
  obtain ⟨A0, c0, l0, rfl, hB0, hm0, hx0⟩ := open_intsr (hval 0 22 v0 rfl rfl) h0
  obtain ⟨x1, y1, z1, rfl, hx1, hy1, hz1⟩ := open_arr3 (hval 1 81 v1 rfl rfl) h1
  obtain ⟨A2, c2, l2, rfl, hB2, hm2, hx2⟩ := open_intsr (hval 2 22 v2 rfl rfl) h2
  refine (mtn_walk A0 c0 l0 x1 y1 z1 A2 c2 l2 W hB0 hm0 hx0 hx1 hy1 hz1 hB2 hm2 hx2).mono fun e W' ⟨he, hb⟩ => ?_
  subst he
  exact ⟨_, rfl, law_post Try.laid (by kernel_rfl) rfl rfl Try.underlying4 rfl hW' hb⟩
theorem mtn_facts : joinedFacts Try.prog 15 Try.f15 Rows.monitorMonotoneSpec Rows.monitorMonotoneRow = true := by
  unfold joinedFacts
  rw [fact_enter, fact_lift, fact_make, fact_keys, fact_heard, fact_maps, Try.laid]
  kernel_rfl
theorem mtn_holds : Rows.MonitorMonotoneSaid :=
  OpenClaim.holds_of_wide 15 Try.f15 rfl rfl rfl rfl rfl rfl rfl ⟨rfl, rfl, rfl, rfl, rfl⟩ rfl rfl rfl rfl rfl (by kernel_rfl) Try.func15 mtn_facts
    (of_decide_eq_true (by kernel_rfl)) (by unfold Func.isWrapper; first | (rw [if_pos (by decide +kernel)]; kernel_rfl) | (rw [if_neg (by decide +kernel)]; exact ⟨rfl, rfl⟩))
    (fun os started H enc _ => mtn_lifted os started H enc)
#print axioms mtn_holds
end Go.Proofs.Ytlogokjjphlkkaa
