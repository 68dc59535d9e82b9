/-
  Walk of layer 10: power.Survives.
-/
import Derived.Test.YtamfifndddldcaaW2
namespace Go.Proofs.Ytamfifndddldcaa
open Go.RowKit Go.Shelf
attribute [local go_sem] Oper.semAt_some

theorem prod_bd {n a N M : Int} (h0 : 0 ≤ n) (h1 : n ≤ N) (h2 : -M ≤ a) (h3 : a ≤ M) (hM : 0 ≤ M) : -(N * M) ≤ n * a ∧ n * a ≤ N * M := by
  have e1 : n * M ≤ N * M := Int.mul_le_mul_of_nonneg_right h1 hM
  have e2 : n * a ≤ n * M := Int.mul_le_mul_of_nonneg_left h3 h0
  have e3 : n * (-M) ≤ n * a := Int.mul_le_mul_of_nonneg_left h2 h0
  rw [Int.mul_neg] at e3
  omega
def stepS (C e : Int) (x : Int × Int) (c : Int) : Option Int :=
  if min C (c + x.2) - e < 0 then none else if min (C - e) (min C (c + x.2) - e + (x.1 - 1) * (x.2 - e)) < 0 then none else some (min (C - e) (min C (c + x.2) - e + (x.1 - 1) * (x.2 - e)))
def runP (C e : Int) : List (Int × Int) → Int → Option Int
  | [], c => some c
  | x :: l, c => (stepS C e x c).bind (runP C e l)
theorem survS_run (C e : Int) (l : List (Int × Int)) : ∀ c, survS C e l c = (runP C e l c).isSome := by
  induction l with
  | nil => intro c; rfl
  | cons x l ih =>
    intro c
    unfold survS runP stepS
    split
    · rfl
    · split
      · rfl
      · rw [ih]; rfl
theorem runP_append (C e : Int) (l m : List (Int × Int)) : ∀ c, runP C e (l ++ m) c = (runP C e l c).bind (runP C e m) := by
  induction l with
  | nil => intro c; rfl
  | cons x l ih =>
    intro c
    rw [List.cons_append]
    unfold runP
    cases stepS C e x c with
    | none => rfl
    | some c' => exact ih c'
theorem runP_snoc (C e : Int) (l : List (Int × Int)) (x : Int × Int) (c : Int) : runP C e (l ++ [x]) c = (runP C e l c).bind (stepS C e x) := by
  rw [runP_append]
  congr 1
  funext c'
  show (stepS C e x c').bind (runP C e []) = _
  cases stepS C e x c' <;> rfl
theorem stB_new (w : World) (v : Value) (c fr un s : Int) :
    StB (((((w.alloc (.cells #[v] 45)).alloc (.cells #[.int .i64 c] 3)).alloc (.cells #[.int .i64 fr] 3)).alloc (.cells #[.int .i64 un] 3)).alloc (.cells #[.int .i64 s] 3)) w.heap.size v c fr un s := by
  obtain ⟨V1, hV1⟩ : ∃ V, w.alloc (.cells #[v] 45) = V := ⟨_, rfl⟩
  obtain ⟨V2, hV2⟩ : ∃ V, V1.alloc (.cells #[.int .i64 c] 3) = V := ⟨_, rfl⟩
  obtain ⟨V3, hV3⟩ : ∃ V, V2.alloc (.cells #[.int .i64 fr] 3) = V := ⟨_, rfl⟩
  obtain ⟨V4, hV4⟩ : ∃ V, V3.alloc (.cells #[.int .i64 un] 3) = V := ⟨_, rfl⟩
  obtain ⟨V5, hV5⟩ : ∃ V, V4.alloc (.cells #[.int .i64 s] 3) = V := ⟨_, rfl⟩
  rw [hV1, hV2, hV3, hV4, hV5]
  have z1 : V1.heap.size = w.heap.size + 1 := by rw [← hV1]; simp
  have z2 : V2.heap.size = w.heap.size + 2 := by rw [← hV2]; simp [z1]
  have z3 : V3.heap.size = w.heap.size + 3 := by rw [← hV3]; simp [z2]
  have z4 : V4.heap.size = w.heap.size + 4 := by rw [← hV4]; simp [z3]
  have F2 : From V1 V2 := by rw [← hV2]; exact (From.refl _).alloc _
  have F3 : From V2 V3 := by rw [← hV3]; exact (From.refl _).alloc _
  have F4 : From V3 V4 := by rw [← hV4]; exact (From.refl _).alloc _
  have F5 : From V4 V5 := by rw [← hV5]; exact (From.refl _).alloc _
  have b0 : Boxed V1 w.heap.size 45 v := by rw [← hV1]; exact heap_alloc_new _ _
  have b1 : Boxed V2 (w.heap.size + 1) 3 (.int .i64 c) := by rw [← hV2, ← z1]; exact heap_alloc_new _ _
  have b2 : Boxed V3 (w.heap.size + 2) 3 (.int .i64 fr) := by rw [← hV3, ← z2]; exact heap_alloc_new _ _
  have b3 : Boxed V4 (w.heap.size + 3) 3 (.int .i64 un) := by rw [← hV4, ← z3]; exact heap_alloc_new _ _
  have b4 : Boxed V5 (w.heap.size + 4) 3 (.int .i64 s) := by rw [← hV5, ← z4]; exact heap_alloc_new _ _
  exact ⟨(F2.trans (F3.trans (F4.trans F5))).cell b0.cell, (F3.trans (F4.trans F5)).cell b1.cell, (F4.trans F5).cell b2.cell, F5.cell b3.cell, b4.cell⟩
/-- the boxes that Survives only reads -/
structure Keep2 (W : World) (B : Nat) (C ch re e : Int) : Prop where
  bat : W.heap[B]? = some (.cells #[.int .i64 C, .int .i64 ch, .int .i64 re] 23 (0, 0))
  ess : Boxed W (B + 1) 3 (.int .i64 e)
theorem Keep2.facts {W : World} {B : Nat} {C ch re e : Int} (h : Keep2 W B C ch re e) : W.cell? ⟨B, 0, none⟩ = some (.int .i64 C) ∧ W.cell? ⟨B + 1, 0, none⟩ = some (.int .i64 e) :=
  ⟨by rw [cell_of_row _ _ _ _ _ _ h.bat]; rfl, h.ess.cell⟩
theorem keep2_own {β : Type} {B : Nat} {C ch re e : Int} : Own (fun (_ : β) W => Keep2 W B C ch re e) := fun _ _ _ _ hs hg hr =>
  ⟨(grownBy_keeps_cells hg hr hs.bat rfl).trans hs.bat, (grownBy_keeps_cells hg hr hs.ess rfl).trans hs.ess⟩
theorem Keep2.set {W : World} {B : Nat} {C ch re e : Int} (h : Keep2 W B C ch re e) (b j : Nat) (u : Value) (hb : B + 1 < b) : Keep2 (W.setCell ⟨b, j, none⟩ u) B C ch re e :=
  ⟨(heap_set_off W (by omega) j u).trans h.bat, (heap_set_off W (by omega) j u).trans h.ess⟩
theorem surv_own {C e ch : Int} {B : Nat} : Own (fun (pre : List Str) W => ∃ q, runP C e (pre.map (·.1)) ch = some q ∧ 0 ≤ q ∧ q ≤ C ∧ Boxed W B 3 (.int .i64 q)) := fun _ _ _ _ hs hg hr => by
  obtain ⟨q, h1, h2, h3, h4⟩ := hs
  exact ⟨q, h1, h2, h3, (grownBy_keeps_cells hg hr h4 rfl).trans h4⟩
theorem boxed_not {W : World} {b : Nat} {t t' : TypeId} {v : Value} (h : Boxed W b t v) (ht : t ≠ t') : ∀ cs fz, W.heap[b]? ≠ some (Obj.cells cs t' fz) := by
  intro cs fz hh
  rw [show W.heap[b]? = _ from h] at hh
  injection hh with hh
  injection hh with _ h2 _
  exact ht h2
theorem survives_calls (C ch re : Int) (A : Option Addr) (cap : Nat) (t : List Wn) (c fr un e s : Int) (w : World) (h : Wins w (.slice A t.length cap) t) (hm : t.length ≤ 1000000) (hC : 0 ≤ C ∧ C ≤ 1000000000000) (hch : 0 ≤ ch ∧ ch ≤ C)
    (hfr : 0 ≤ fr ∧ fr ≤ 2000000) (hun : 0 ≤ un ∧ un ≤ 2000000) (he : 0 ≤ e ∧ e ≤ 10000000) (hs : 0 ≤ s ∧ s ≤ 10000000) (hw : ∀ x ∈ t, 0 ≤ x.f ∧ x.f < x.u ∧ x.u ≤ 2000000) (b : Bool) (hb : survS C e (strs c un s t fr) ch = b) :
    Calls Try.prog 29 #[.agg #[.int .i64 C, .int .i64 ch, .int .i64 re], .slice A t.length cap, .int .i64 c, .int .i64 fr, .int .i64 un, .int .i64 e, .int .i64 s] w fun r w' => r = .returned (.bool b) ∧ From w w' := by
  rw [survS_run] at hb
  have HBb := bx hb
  have HS := bx h
  clear h hb
  refine (callsIn_wide (n := 3)).1 ?_
  refine callsIn_of_wp_marks Try.func29 rfl trivial ?_ rfl
  simp only [Try.ntmps29, List.size_toArray, List.length_cons, List.length_nil, Nat.reduceAdd, Nat.reduceSub, Array.replicate_succ, Array.replicate_zero, List.push_toArray, List.append_toArray, List.nil_append, List.cons_append]
  gi_wp2_with (first | (refine ⟨trivial, ?_⟩; gi_at_call 38; refine (callsIn_wide.2 (stretches_calls _ _ _ _ _ _ _ _)).mono ?_; rintro e w' ⟨rfl, rfl⟩) | gi_in)
  simp only [Nat.add_assoc, Nat.reduceAdd]
  obtain ⟨V1, hV1⟩ : ∃ V, w.alloc (.cells #[.int .i64 C, .int .i64 ch, .int .i64 re] 23) = V := ⟨_, rfl⟩
  obtain ⟨V2, hV2⟩ : ∃ V, V1.alloc (.cells #[.int .i64 e] 3) = V := ⟨_, rfl⟩
  obtain ⟨V3, hV3⟩ : ∃ V, V2.alloc (.cells #[.bool false] 4) = V := ⟨_, rfl⟩
  obtain ⟨V4, hV4⟩ : ∃ V, V3.alloc (.cells #[.int .i64 ch] 3) = V := ⟨_, rfl⟩
  obtain ⟨W0, hW0⟩ : ∃ V, ((((V4.alloc (.cells #[.slice A t.length cap] 45)).alloc (.cells #[.int .i64 c] 3)).alloc (.cells #[.int .i64 fr] 3)).alloc (.cells #[.int .i64 un] 3)).alloc (.cells #[.int .i64 s] 3) = V := ⟨_, rfl⟩
  rw [hV1, hV2, hV3, hV4, hW0]
  have z1 : V1.heap.size = w.heap.size + 1 := by rw [← hV1]; simp
  have z2 : V2.heap.size = w.heap.size + 2 := by rw [← hV2]; simp [z1]
  have z3 : V3.heap.size = w.heap.size + 3 := by rw [← hV3]; simp [z2]
  have z4 : V4.heap.size = w.heap.size + 4 := by rw [← hV4]; simp [z3]
  have z0 : W0.heap.size = w.heap.size + 9 := by rw [← hW0]; simp [z4]
  have F1 : From w V1 := by rw [← hV1]; exact (From.refl _).alloc _
  have F2 : From V1 V2 := by rw [← hV2]; exact (From.refl _).alloc _
  have F3 : From V2 V3 := by rw [← hV3]; exact (From.refl _).alloc _
  have F4 : From V3 V4 := by rw [← hV4]; exact (From.refl _).alloc _
  have F5 : From V4 W0 := by rw [← hW0]; exact (((((From.refl _).alloc _).alloc _).alloc _).alloc _).alloc _
  have r0 : W0.heap[w.heap.size]? = some (.cells #[.int .i64 C, .int .i64 ch, .int .i64 re] 23 (0, 0)) := (F2.trans (F3.trans (F4.trans F5))).heap (by rw [← hV1]; exact heap_alloc_new _ _)
  have r1 : Boxed W0 (w.heap.size + 1) 3 (.int .i64 e) := (F3.trans (F4.trans F5)).heap (by rw [← hV2, ← z1]; exact heap_alloc_new _ _)
  have r2 : Boxed W0 (w.heap.size + 2) 4 (.bool false) := (F4.trans F5).heap (by rw [← hV3, ← z2]; exact heap_alloc_new _ _)
  have r3 : Boxed W0 (w.heap.size + 3) 3 (.int .i64 ch) := F5.heap (by rw [← hV4, ← z3]; exact heap_alloc_new _ _)
  have hB0 : From w W0 := F1.trans (F2.trans (F3.trans (F4.trans F5)))
  have rS : StB W0 (w.heap.size + 4) (.slice A t.length cap) c fr un s := by
    rw [← hW0, ← z4]
    exact stB_new V4 _ _ _ _ _
  have hS0 : Sl W0 w.heap.size (.slice A t.length cap) t.length (t.flatMap wcs) := HS.out.below hB0
  clear hV1 hV2 hV3 hV4 hW0 F1 F2 F3 F4 F5
  obtain ⟨L, hL⟩ : ∃ L, strs c un s t fr = L := ⟨_, rfl⟩
  have hst := str_stops 2 (w.heap.size + 4) w.heap.size A cap t c fr un s hm hfr hun hs hw W0 hS0 rS (by omega) (by omega)
  rw [hL] at hst HBb
  refine wpIn_rangeFunc_ownG rfl (by omega) (gf := 50) (lb := #[.pointer (some ⟨w.heap.size + 6, 0, none⟩), .pointer (some ⟨w.heap.size + 4, 0, none⟩), .pointer (some ⟨w.heap.size + 7, 0, none⟩), .pointer (some ⟨w.heap.size + 5, 0, none⟩), .pointer (some ⟨w.heap.size + 8, 0, none⟩)]) (by simp [Act.eval]) trivial (enters_of Try.func50 (by kernel_rfl) rfl)
    hst KeepS.t (KeepS.b (by omega) (by omega)) (Below.refl _ _) (fun _ => rfl)
    (fun pre W => (∃ q, runP C e (pre.map (·.1)) ch = some q ∧ 0 ≤ q ∧ q ≤ C ∧ Boxed W (w.heap.size + 3) 3 (.int .i64 q)) ∧ Boxed W (w.heap.size + 2) 4 (.bool false) ∧ Below w.heap.size w W ∧ Keep2 W w.heap.size C ch re e)
    (fun k pre W => k = .ret ∧ runP C e (pre.map (·.1)) ch = none ∧ Boxed W (w.heap.size + 2) 4 (.bool false) ∧ Below w.heap.size w W)
    (OwnFrom.and (Own.from surv_own _) (OwnFrom.and (Own.from (boxed_own _ _ _) _) (OwnFrom.and (ownFrom_below (Nat.le_refl _) (by omega)) (Own.from keep2_own _))))
    (fun k => OwnFrom.and (ownFrom_pure _ _) (OwnFrom.and (ownFrom_pure _ _) (OwnFrom.and (Own.from (boxed_own _ _ _) _) (ownFrom_below (Nat.le_refl _) (by omega)))))
    ⟨⟨ch, rfl, hch.1, hch.2, r3⟩, r2, hB0, ⟨r0, r1⟩⟩
    (fun x => { tmps := #[.agg #[.int .i64 C, .int .i64 ch, .int .i64 re], .slice A t.length cap, .int .i64 c, .int .i64 fr, .int .i64 un, .int .i64 e, .int .i64 s, .pointer (some ⟨w.heap.size, 0, none⟩), undef, undef, undef, undef, .pointer (some ⟨w.heap.size + 1, 0, none⟩), undef, .pointer (some ⟨w.heap.size + 2, 0, none⟩), .pointer (some ⟨w.heap.size + 3, 0, none⟩), .int .i64 x.1.1, .int .i64 x.1.2, .pointer (some ⟨w.heap.size, 1, none⟩), .int .i64 ch, .slice A t.length cap, .int .i64 c, .int .i64 fr, .int .i64 un, .int .i64 s, .func (.func 50) #[] #[.pointer (some ⟨w.heap.size + 6, 0, none⟩), .pointer (some ⟨w.heap.size + 4, 0, none⟩), .pointer (some ⟨w.heap.size + 7, 0, none⟩), .pointer (some ⟨w.heap.size + 5, 0, none⟩), .pointer (some ⟨w.heap.size + 8, 0, none⟩)], .int .i64 x.1.1, .int .i64 x.1.2, undef, undef, undef, undef, undef, undef, undef, undef, undef, undef, undef, undef, undef, undef, undef, undef, undef, undef, undef, undef, undef, undef, undef, undef, undef], defers := [] }) ?assign ?body ?done ?s
  case assign =>
    intro l x W K hK
    simp only [encStr]
    gi_wp2
    exact hK
  case body =>
    rintro lp pre x W ⟨⟨q, hq, q0, q1, hqb⟩, hrb, hbw, hkp⟩ _
    obtain ⟨⟨n, g⟩, x1, x2, x3, x4⟩ := x
    simp only at x1 x2 x3 x4
    have hst1 : runP C e ((pre ++ [(⟨(n, g), x1, x2, x3, x4⟩ : Str)]).map (·.1)) ch = stepS C e (n, g) q := by
      rw [List.map_append, List.map_cons, List.map_nil, runP_snoc, hq]; rfl
    unfold stepS at hst1
    simp only at hst1
    have HKP := bx hkp
    obtain ⟨k1, k2⟩ := hkp.facts
    have c3 := hqb.cell
    have f3 := hqb.frozen
    have c2 := hrb.cell
    have f2 := hrb.frozen
    have HQ := bx hqb
    have HR := bx hrb
    clear hkp hqb hrb hq
    obtain ⟨p, hp⟩ : ∃ p, (n - 1) * (g - e) = p := ⟨_, rfl⟩
    have hpb := prod_bd (n := n - 1) (a := g - e) (N := 10000000) (M := 10000000) (by omega) (by omega) (by omega) (by omega) (by omega)
    rw [hp] at hpb hst1
    obtain ⟨p1, p2⟩ := hpb
    by_cases k3 : C ≤ q + g
    case pos =>
      rw [show min C (q + g) = C by omega] at hst1
      have HST := bx hst1
      clear hst1
      by_cases k4 : C - e < 0
      · have d1 : decide (C - e < 0) = true := decide_eq_true k4
        have hnone := HST.out
        rw [if_pos k4] at hnone
        have HN := bx hnone
        clear hnone
        gi_wp2
        refine ⟨((KeepsOthers.setCell _ _ _).trans (KeepsOthers.setCell _ _ _)).from _, rfl, HN.out, ?_, ?_⟩
        · exact (HR.out.other (by omega) _).set _
        · exact (hbw.setCell (p := ⟨_, 0, none⟩) (by simp) _).setCell (p := ⟨_, 0, none⟩) (by simp) _
      · have d1 : decide (C - e < 0) = false := decide_eq_false k4
        have hnone := HST.out
        rw [if_neg k4] at hnone
        by_cases k5 : C - e ≤ C - e + p
        case pos =>
          rw [show min (C - e) (C - e + p) = C - e by omega] at hnone
          by_cases k6 : C - e < 0
          · have d2 : decide (C - e < 0) = true := decide_eq_true k6
            rw [if_pos k6] at hnone
            have HN := bx hnone
            clear hnone
            exfalso; omega
          · have d2 : decide (C - e < 0) = false := decide_eq_false k6
            rw [if_neg k6] at hnone
            have HN := bx hnone
            clear hnone
            gi_wp2
            refine ⟨((KeepsOthers.setCell _ _ _).trans (KeepsOthers.setCell _ _ _)).from _, ?_, ⟨_, HN.out, by omega, by omega, ?_⟩, ?_, ?_, ?_⟩
            · exact ((KeepS.refl _ _ _).set _ _ _ (by omega) (by omega) (boxed_not HQ.out (by decide))).set _ _ _ (by omega) (by omega) (boxed_not (HQ.out.set _) (by decide))
            · exact (HQ.out.set _).set _
            · exact (HR.out.other (by omega) _).other (by omega) _
            · exact (hbw.setCell (p := ⟨_, 0, none⟩) (by simp) _).setCell (p := ⟨_, 0, none⟩) (by simp) _
            · exact (HKP.out.set _ _ _ (by omega)).set _ _ _ (by omega)
        case neg =>
          rw [show min (C - e) (C - e + p) = C - e + p by omega] at hnone
          by_cases k6 : C - e + p < 0
          · have d2 : decide (C - e + p < 0) = true := decide_eq_true k6
            rw [if_pos k6] at hnone
            have HN := bx hnone
            clear hnone
            gi_wp2
            refine ⟨(((KeepsOthers.setCell _ _ _).trans (KeepsOthers.setCell _ _ _)).trans (KeepsOthers.setCell _ _ _)).from _, rfl, HN.out, ?_, ?_⟩
            · exact ((HR.out.other (by omega) _).other (by omega) _).set _
            · exact ((hbw.setCell (p := ⟨_, 0, none⟩) (by simp) _).setCell (p := ⟨_, 0, none⟩) (by simp) _).setCell (p := ⟨_, 0, none⟩) (by simp) _
          · have d2 : decide (C - e + p < 0) = false := decide_eq_false k6
            rw [if_neg k6] at hnone
            have HN := bx hnone
            clear hnone
            gi_wp2
            refine ⟨((KeepsOthers.setCell _ _ _).trans (KeepsOthers.setCell _ _ _)).from _, ?_, ⟨_, HN.out, by omega, by omega, ?_⟩, ?_, ?_, ?_⟩
            · exact ((KeepS.refl _ _ _).set _ _ _ (by omega) (by omega) (boxed_not HQ.out (by decide))).set _ _ _ (by omega) (by omega) (boxed_not (HQ.out.set _) (by decide))
            · exact (HQ.out.set _).set _
            · exact (HR.out.other (by omega) _).other (by omega) _
            · exact (hbw.setCell (p := ⟨_, 0, none⟩) (by simp) _).setCell (p := ⟨_, 0, none⟩) (by simp) _
            · exact (HKP.out.set _ _ _ (by omega)).set _ _ _ (by omega)
    case neg =>
      rw [show min C (q + g) = q + g by omega] at hst1
      have HST := bx hst1
      clear hst1
      by_cases k4 : q + g - e < 0
      · have d1 : decide (q + g - e < 0) = true := decide_eq_true k4
        have hnone := HST.out
        rw [if_pos k4] at hnone
        have HN := bx hnone
        clear hnone
        gi_wp2
        refine ⟨((KeepsOthers.setCell _ _ _).trans (KeepsOthers.setCell _ _ _)).from _, rfl, HN.out, ?_, ?_⟩
        · exact (HR.out.other (by omega) _).set _
        · exact (hbw.setCell (p := ⟨_, 0, none⟩) (by simp) _).setCell (p := ⟨_, 0, none⟩) (by simp) _
      · have d1 : decide (q + g - e < 0) = false := decide_eq_false k4
        have hnone := HST.out
        rw [if_neg k4] at hnone
        by_cases k5 : C - e ≤ q + g - e + p
        case pos =>
          rw [show min (C - e) (q + g - e + p) = C - e by omega] at hnone
          by_cases k6 : C - e < 0
          · have d2 : decide (C - e < 0) = true := decide_eq_true k6
            rw [if_pos k6] at hnone
            have HN := bx hnone
            clear hnone
            exfalso; omega
          · have d2 : decide (C - e < 0) = false := decide_eq_false k6
            rw [if_neg k6] at hnone
            have HN := bx hnone
            clear hnone
            gi_wp2
            refine ⟨((KeepsOthers.setCell _ _ _).trans (KeepsOthers.setCell _ _ _)).from _, ?_, ⟨_, HN.out, by omega, by omega, ?_⟩, ?_, ?_, ?_⟩
            · exact ((KeepS.refl _ _ _).set _ _ _ (by omega) (by omega) (boxed_not HQ.out (by decide))).set _ _ _ (by omega) (by omega) (boxed_not (HQ.out.set _) (by decide))
            · exact (HQ.out.set _).set _
            · exact (HR.out.other (by omega) _).other (by omega) _
            · exact (hbw.setCell (p := ⟨_, 0, none⟩) (by simp) _).setCell (p := ⟨_, 0, none⟩) (by simp) _
            · exact (HKP.out.set _ _ _ (by omega)).set _ _ _ (by omega)
        case neg =>
          rw [show min (C - e) (q + g - e + p) = q + g - e + p by omega] at hnone
          by_cases k6 : q + g - e + p < 0
          · have d2 : decide (q + g - e + p < 0) = true := decide_eq_true k6
            rw [if_pos k6] at hnone
            have HN := bx hnone
            clear hnone
            gi_wp2
            refine ⟨(((KeepsOthers.setCell _ _ _).trans (KeepsOthers.setCell _ _ _)).trans (KeepsOthers.setCell _ _ _)).from _, rfl, HN.out, ?_, ?_⟩
            · exact ((HR.out.other (by omega) _).other (by omega) _).set _
            · exact ((hbw.setCell (p := ⟨_, 0, none⟩) (by simp) _).setCell (p := ⟨_, 0, none⟩) (by simp) _).setCell (p := ⟨_, 0, none⟩) (by simp) _
          · have d2 : decide (q + g - e + p < 0) = false := decide_eq_false k6
            rw [if_neg k6] at hnone
            have HN := bx hnone
            clear hnone
            gi_wp2
            refine ⟨((KeepsOthers.setCell _ _ _).trans (KeepsOthers.setCell _ _ _)).from _, ?_, ⟨_, HN.out, by omega, by omega, ?_⟩, ?_, ?_, ?_⟩
            · exact ((KeepS.refl _ _ _).set _ _ _ (by omega) (by omega) (boxed_not HQ.out (by decide))).set _ _ _ (by omega) (by omega) (boxed_not (HQ.out.set _) (by decide))
            · exact (HQ.out.set _).set _
            · exact (HR.out.other (by omega) _).other (by omega) _
            · exact (hbw.setCell (p := ⟨_, 0, none⟩) (by simp) _).setCell (p := ⟨_, 0, none⟩) (by simp) _
            · exact (HKP.out.set _ _ _ (by omega)).set _ _ _ (by omega)
  case done =>
    rintro D xs W hD hxs ⟨⟨q, hq, q0, q1, hqb⟩, hrb, hbw, hkp⟩ hK
    rw [hxs] at hq
    have HF := HBb.out
    rw [hq] at HF
    have HF := bx HF
    have hcl := hrb.cell
    have hfz := hrb.frozen
    have hK' := (KeepsOthers.setCell W ⟨w.heap.size + 2, 0, none⟩ (.bool true)).same D _ hK rfl
    clear hxs hq
    gi_wp2
    refine ⟨by simp, .inl ⟨_, _, rfl, run_takeDeferred hK', ?_⟩⟩
    have hb2 := (hrb.set (.bool true)).kept (grownBy_putObj' _ D (.deferred none)) (by simp; omega)
    have hc2 := hb2.cell
    have hbb := belowK_b (n₀ := w.heap.size) (w := W0) (by omega) (W.setCell ⟨w.heap.size + 2, 0, none⟩ (.bool true)) D _ (.deferred none) hD hK' rfl rfl
    exact ⟨.bool true, by simp [results, Try.results29, go_sem, hc2], ret_bool HF.out, (hbw.setCell (p := ⟨w.heap.size + 2, 0, none⟩) (by simp) _).trans hbb⟩
  case s =>
    rintro D k pre W hD ⟨r, hr⟩ ⟨rfl, hn, hrb, hbw⟩ hK
    have HF := HBb.out
    rw [← hr, runP_append, hn] at HF
    have HF := bx HF
    clear hn hr
    gi_wp2
    refine ⟨by simp, .inl ⟨_, _, rfl, run_takeDeferred hK, ?_⟩⟩
    have hb2 := hrb.kept (grownBy_putObj' _ D (.deferred none)) (by simp; omega)
    have hc2 := hb2.cell
    have hbb := belowK_b (n₀ := w.heap.size) (w := W0) (by omega) W D _ (.deferred none) hD hK rfl rfl
    exact ⟨.bool false, by simp [results, Try.results29, go_sem, hc2], ret_bool HF.out, hbw.trans hbb⟩
end Go.Proofs.Ytamfifndddldcaa
