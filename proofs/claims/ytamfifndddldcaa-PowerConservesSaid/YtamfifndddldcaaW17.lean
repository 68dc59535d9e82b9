/-
  Walks of layer 9: orbit.Next, orbit.At; the law's gain.
-/
import Derived.Test.YtamfifndddldcaaW16
namespace Go.Proofs.Ytamfifndddldcaa
open Go.RowKit Go.Shelf
attribute [local go_sem] Oper.semAt_some

theorem From.setC {w w' : World} {r : Nat} (h : From w w') (hr : w.heap.size ≤ r) (i : Nat) (x : Value) : From w (w'.setCell ⟨r, i, none⟩ x) := Below.setCell h (p := ⟨r, i, none⟩) hr _
/-- the first window that ends after a tick -/
def nextF (k : Int) (l : List Wn) : Option Wn := l.find? fun x => decide (k < x.u)
abbrev wag (x : Wn) : Value := .agg #[.int .i64 x.k, .int .i64 x.a, .int .i64 x.b, .int .i64 x.f, .int .i64 x.u, .int .i64 x.r]
def zWn : Wn := ⟨0, 0, 0, 0, 0, 0⟩
def optW (o : Option Wn) : Wn := match o with
  | some x => x
  | none => zWn
abbrev wce (x : Wn) : Array Value := #[.int .i64 x.k, .int .i64 x.a, .int .i64 x.b, .int .i64 x.f, .int .i64 x.u, .int .i64 x.r]
theorem winC_own {β : Type} (B : Nat) (x : Wn) : Own (fun (_ : β) W => WinC W B x) := fun _ _ _ _ hs hg hr => ⟨(grownBy_keeps_cells hg hr hs.out rfl).trans hs.out⟩
theorem WinC.frozen {W : World} {r : Nat} {x : Wn} (h : WinC W r x) : W.frozen? ⟨r, 0, none⟩ = false ∧ W.frozen? ⟨r, 1, none⟩ = false ∧ W.frozen? ⟨r, 2, none⟩ = false ∧ W.frozen? ⟨r, 3, none⟩ = false ∧ W.frozen? ⟨r, 4, none⟩ = false ∧ W.frozen? ⟨r, 5, none⟩ = false := by
  have e := h.out
  refine ⟨?_, ?_, ?_, ?_, ?_, ?_⟩ <;> simp [World.frozen?, e]
theorem WinC.cells {W : World} {r : Nat} {x : Wn} (h : WinC W r x) : W.cell? ⟨r, 0, none⟩ = some (.int .i64 x.k) ∧ W.cell? ⟨r, 1, none⟩ = some (.int .i64 x.a) ∧ W.cell? ⟨r, 2, none⟩ = some (.int .i64 x.b) ∧
    W.cell? ⟨r, 3, none⟩ = some (.int .i64 x.f) ∧ W.cell? ⟨r, 4, none⟩ = some (.int .i64 x.u) ∧ W.cell? ⟨r, 5, none⟩ = some (.int .i64 x.r) := by
  have e := h.out
  refine ⟨?_, ?_, ?_, ?_, ?_, ?_⟩ <;> (rw [cell_of_row _ _ _ _ _ _ e]; rfl)
theorem WinC.put {W : World} {r : Nat} {z : Wn} (h : WinC W r z) (x : Wn) : WinC ((((((W.setCell ⟨r, 0, none⟩ (.int .i64 x.k)).setCell ⟨r, 1, none⟩ (.int .i64 x.a)).setCell ⟨r, 2, none⟩ (.int .i64 x.b)).setCell ⟨r, 3, none⟩ (.int .i64 x.f)).setCell ⟨r, 4, none⟩ (.int .i64 x.u)).setCell ⟨r, 5, none⟩ (.int .i64 x.r)) r x :=
  ⟨heap_set_at (heap_set_at (heap_set_at (heap_set_at (heap_set_at (heap_set_at h.out 0 (.int .i64 x.k)) 1 (.int .i64 x.a)) 2 (.int .i64 x.b)) 3 (.int .i64 x.f)) 4 (.int .i64 x.u)) 5 (.int .i64 x.r)⟩
theorem off6 {W : World} {b r : Nat} {t : TypeId} {v : Value} (h : Boxed W b t v) (hr : r ≠ b) (x : Wn) : Boxed ((((((W.setCell ⟨r, 0, none⟩ (.int .i64 x.k)).setCell ⟨r, 1, none⟩ (.int .i64 x.a)).setCell ⟨r, 2, none⟩ (.int .i64 x.b)).setCell ⟨r, 3, none⟩ (.int .i64 x.f)).setCell ⟨r, 4, none⟩ (.int .i64 x.u)).setCell ⟨r, 5, none⟩ (.int .i64 x.r)) b t v :=
  (heap_set_off _ hr _ _).trans ((heap_set_off _ hr _ _).trans ((heap_set_off _ hr _ _).trans ((heap_set_off _ hr _ _).trans ((heap_set_off _ hr _ _).trans ((heap_set_off _ hr _ _).trans h)))))
/-- the results written -/
abbrev put7 (W : World) (b : Nat) (x : Wn) (o : Bool) : World :=
  ((((((W.setCell ⟨b + 1, 0, none⟩ (.int .i64 x.k)).setCell ⟨b + 1, 1, none⟩ (.int .i64 x.a)).setCell ⟨b + 1, 2, none⟩ (.int .i64 x.b)).setCell ⟨b + 1, 3, none⟩ (.int .i64 x.f)).setCell ⟨b + 1, 4, none⟩ (.int .i64 x.u)).setCell ⟨b + 1, 5, none⟩ (.int .i64 x.r)).setCell ⟨b + 2, 0, none⟩ (.bool o)
theorem put7_keeps (W : World) (b : Nat) (x : Wn) (o : Bool) : KeepsOthers W (put7 W b x o) :=
  ((((((KeepsOthers.setCell _ _ _).trans (KeepsOthers.setCell _ _ _)).trans (KeepsOthers.setCell _ _ _)).trans (KeepsOthers.setCell _ _ _)).trans (KeepsOthers.setCell _ _ _)).trans (KeepsOthers.setCell _ _ _)).trans (KeepsOthers.setCell _ _ _)
theorem put7_below {w W : World} {n b : Nat} (h : Below n w W) (hb : n ≤ b) (x : Wn) (o : Bool) : Below n w (put7 W b x o) :=
  ((((((h.setCell (p := ⟨b + 1, 0, none⟩) (by simp; omega) _).setCell (p := ⟨b + 1, 1, none⟩) (by simp; omega) _).setCell (p := ⟨b + 1, 2, none⟩) (by simp; omega) _).setCell (p := ⟨b + 1, 3, none⟩) (by simp; omega) _).setCell (p := ⟨b + 1, 4, none⟩) (by simp; omega) _).setCell (p := ⟨b + 1, 5, none⟩) (by simp; omega) _).setCell (p := ⟨b + 2, 0, none⟩) (by simp; omega) _
theorem next_calls (A : Option Addr) (cap : Nat) (t : List Wn) (k a b tk : Int) (w : World) (h : Wins w (.slice A t.length cap) t) (hm : t.length ≤ 1000000)
    (hw : ∀ x ∈ t, 0 ≤ x.f ∧ x.f < x.u ∧ x.u ≤ 2000000) (z : Option Wn) (hz : nextF tk (ofL k a b t) = z) :
    Calls Try.prog 53 #[.slice A t.length cap, .int .i64 k, .int .i64 a, .int .i64 b, .int .i64 tk] w fun r w' => r = .returned (.tuple #[wag (optW z), .bool z.isSome]) ∧ From w w' := by
  have HZ := Go.Proofs.Ytamfifndddldcaa.bx hz
  have HS := Go.Proofs.Ytamfifndddldcaa.bx h
  clear h hz
  refine (callsIn_wide (n := 3)).1 ?_
  refine callsIn_of_wp_marks Try.func53 rfl trivial ?_ rfl
  simp only [Try.ntmps53, List.size_toArray, List.length_cons, List.length_nil, Nat.reduceAdd, Nat.reduceSub, Array.replicate_succ, Array.replicate_zero, List.push_toArray, List.append_toArray, List.nil_append, List.cons_append]
  gi_wp2_with (first | (refine ⟨trivial, ?_⟩; gi_at_call 42; refine (callsIn_wide.2 (of_calls _ _ _ _ _ _ _)).mono ?_; rintro e w' ⟨rfl, rfl⟩) | gi_in)
  simp only [Nat.add_assoc, Nat.reduceAdd]
  obtain ⟨V1, hV1⟩ : ∃ V, w.alloc (.cells #[.int .i64 tk] 3) = V := ⟨_, rfl⟩
  obtain ⟨V2, hV2⟩ : ∃ V, V1.alloc (.cells (wce zWn) 68) = V := ⟨_, rfl⟩
  obtain ⟨V3, hV3⟩ : ∃ V, V2.alloc (.cells #[.bool false] 4) = V := ⟨_, rfl⟩
  obtain ⟨W0, hW0⟩ : ∃ V, (((V3.alloc (.cells #[.slice A t.length cap] 45)).alloc (.cells #[.int .i64 k] 3)).alloc (.cells #[.int .i64 a] 3)).alloc (.cells #[.int .i64 b] 3) = V := ⟨_, rfl⟩
  simp only [wce, zWn] at hV2
  rw [hV1, hV2, hV3, hW0]
  have z1 : V1.heap.size = w.heap.size + 1 := by rw [← hV1]; simp
  have z2 : V2.heap.size = w.heap.size + 2 := by rw [← hV2]; simp [z1]
  have z3 : V3.heap.size = w.heap.size + 3 := by rw [← hV3]; simp [z2]
  have z0 : W0.heap.size = w.heap.size + 7 := by rw [← hW0]; simp [z3]
  have F1 : From w V1 := by rw [← hV1]; exact (From.refl _).alloc _
  have F2 : From V1 V2 := by rw [← hV2]; exact (From.refl _).alloc _
  have F3 : From V2 V3 := by rw [← hV3]; exact (From.refl _).alloc _
  have F4 : From V3 W0 := by rw [← hW0]; exact ((((From.refl _).alloc _).alloc _).alloc _).alloc _
  have r0 : Boxed W0 w.heap.size 3 (.int .i64 tk) := (F2.trans (F3.trans F4)).heap (by rw [← hV1]; exact heap_alloc_new _ _)
  have r1 : WinC W0 (w.heap.size + 1) zWn := ⟨(F3.trans F4).heap (by rw [← hV2, ← z1]; exact heap_alloc_new _ _)⟩
  have r2 : Boxed W0 (w.heap.size + 2) 4 (.bool false) := F4.heap (by rw [← hV3, ← z2]; exact heap_alloc_new _ _)
  have hB0 : From w W0 := F1.trans (F2.trans (F3.trans F4))
  have rO : OfB W0 (w.heap.size + 3) (.slice A t.length cap) k a b := by
    rw [← hW0, ← z3]
    exact ofB_new V3 _ _ _ _
  have hS0 : Sl W0 w.heap.size (.slice A t.length cap) t.length (t.flatMap wcs) := HS.out.below hB0
  clear hV1 hV2 hV3 hW0 F1 F2 F3 F4
  have hst := of_stops 2 (w.heap.size + 3) w.heap.size (w.heap.size + 2) A cap t k a b hm hw W0 hS0 rO (by omega) (by omega)
  obtain ⟨L, hL⟩ : ∃ L, ofL k a b t = L := ⟨_, rfl⟩
  rw [hL] at hst HZ
  refine wpIn_rangeFunc_ownH rfl (by omega) (gf := 52) (lb := #[.pointer (some ⟨w.heap.size + 3, 0, none⟩), .pointer (some ⟨w.heap.size + 4, 0, none⟩), .pointer (some ⟨w.heap.size + 5, 0, none⟩), .pointer (some ⟨w.heap.size + 6, 0, none⟩)]) (by simp [Act.eval]) trivial (enters_of Try.func52 (by kernel_rfl) rfl)
    hst KeepO.t (KeepO.b (by omega)) (Below.refl _ _) (fun _ => rfl)
    (fun pre X => nextF tk (pre.map (·.1)) = none ∧ Below w.heap.size w X ∧ Boxed X w.heap.size 3 (.int .i64 tk) ∧ WinC X (w.heap.size + 1) zWn ∧ Boxed X (w.heap.size + 2) 4 (.bool false) ∧ w.heap.size + 7 ≤ X.heap.size)
    (fun c pre X => c = .ret ∧ Below w.heap.size w X ∧ ∃ x, nextF tk (pre.map (·.1)) = some x ∧ WinC X (w.heap.size + 1) x ∧ Boxed X (w.heap.size + 2) 4 (.bool true))
    (OwnFrom.and (ownFrom_pure _ _) (OwnFrom.and (ownFrom_below (Nat.le_refl _) (by omega)) (OwnFrom.and (Own.from (boxed_own _ _ _) _) (OwnFrom.and (Own.from (winC_own _ _) _) (OwnFrom.and (Own.from (boxed_own _ _ _) _) (fun _ _ _ _ hs hg _ => Nat.le_trans hs hg.size))))))
    (fun k => OwnFrom.and (ownFrom_pure _ _) (OwnFrom.and (ownFrom_below (Nat.le_refl _) (by omega)) (fun _ X Y row ⟨x, h1, h2, h3⟩ hg hr => ⟨x, h1, ⟨(grownBy_keeps_cells hg (fun r e => (hr r e).2) h2.out rfl).trans h2.out⟩, (grownBy_keeps_cells hg (fun r e => (hr r e).2) h3 rfl).trans h3⟩)))
    ⟨rfl, hB0, r0, r1, r2, by omega⟩
    (fun x a' X => ∃ Bz, w.heap.size + 7 ≤ Bz ∧ WinC X Bz x.1 ∧ a' = { tmps := #[.slice A t.length cap, .int .i64 k, .int .i64 a, .int .i64 b, .int .i64 tk, undef, undef, undef, undef, .pointer (some ⟨w.heap.size, 0, none⟩), .pointer (some ⟨w.heap.size + 1, 0, none⟩), .pointer (some ⟨w.heap.size + 2, 0, none⟩), .pointer (some ⟨Bz, 0, none⟩), .slice A t.length cap, .int .i64 k, .int .i64 a, .int .i64 b, .func (.func 52) #[] #[.pointer (some ⟨w.heap.size + 3, 0, none⟩), .pointer (some ⟨w.heap.size + 4, 0, none⟩), .pointer (some ⟨w.heap.size + 5, 0, none⟩), .pointer (some ⟨w.heap.size + 6, 0, none⟩)], .agg #[.int .i64 x.1.k, .int .i64 x.1.a, .int .i64 x.1.b, .int .i64 x.1.f, .int .i64 x.1.u, .int .i64 x.1.r], undef, undef, undef, undef, undef, undef], defers := [] })
    (fun x a' => fun _ X Y row ⟨Bz, h1, h2, h3⟩ hg hr => ⟨Bz, h1, ⟨(grownBy_keeps_cells hg (fun r e => (hr r e).2) h2.out rfl).trans h2.out⟩, h3⟩) ?assign ?body ?done ?s
  case assign =>
    rintro l pre x X K ⟨i1, i2, i3, i4, i5, i6⟩ hK'
    simp only [encW]
    gi_wp2
    refine hK' _ _ ((KeepsOthers.alloc _ _).from _) ((KeepO.refl _ _ _).alloc (by omega) _) ⟨i1, i2.alloc (by omega) _, i3.alloc _, ⟨((From.refl X).alloc _).heap i4.out⟩, i5.alloc _, by simp; omega⟩ ⟨X.heap.size, by omega, WinC.new X x.1, rfl⟩
  case body =>
    rintro l pre x a' X hl ⟨r, hr⟩ ⟨i1, i2, i3, i4, i5, i6⟩ ⟨Bz, hBz, hwc, rfl⟩ hlt
    have hF : nextF tk ((pre ++ [x]).map (·.1)) = if tk < x.1.u then some x.1 else none := by
      rw [List.map_append]
      unfold nextF at i1 ⊢
      rw [List.find?_append, i1]
      simp [List.find?_cons]
      split <;> simp_all
    have e0 := hwc.out
    have c0 := i3.cell
    obtain ⟨f0, f1, f2, f3, f4, f5⟩ := i4.frozen
    obtain ⟨g0, g1, g2, g3, g4, g5⟩ := i4.cells
    simp only [zWn] at g0 g1 g2 g3 g4 g5
    have f6 := i5.frozen
    have g6 := i5.cell
    have I4 := Go.Proofs.Ytamfifndddldcaa.bx i4
    have I5 := Go.Proofs.Ytamfifndddldcaa.bx i5
    have I3 := Go.Proofs.Ytamfifndddldcaa.bx i3
    obtain ⟨⟨x0, x1, x2, x3, x4, x5⟩, hx⟩ := x
    simp only at e0 hF hx
    have p0 : X.cell? ⟨Bz, 0, none⟩ = some (.int .i64 x0) := by rw [cell_of_row _ _ _ _ _ _ e0]; rfl
    have p1 : X.cell? ⟨Bz, 1, none⟩ = some (.int .i64 x1) := by rw [cell_of_row _ _ _ _ _ _ e0]; rfl
    have p2 : X.cell? ⟨Bz, 2, none⟩ = some (.int .i64 x2) := by rw [cell_of_row _ _ _ _ _ _ e0]; rfl
    have p3 : X.cell? ⟨Bz, 3, none⟩ = some (.int .i64 x3) := by rw [cell_of_row _ _ _ _ _ _ e0]; rfl
    have p4 : X.cell? ⟨Bz, 4, none⟩ = some (.int .i64 x4) := by rw [cell_of_row _ _ _ _ _ _ e0]; rfl
    have p5 : X.cell? ⟨Bz, 5, none⟩ = some (.int .i64 x5) := by rw [cell_of_row _ _ _ _ _ _ e0]; rfl
    clear HZ HS hst hlt hr i1 i4 i5 i3 e0 hwc
    by_cases hc : tk < x4
    case pos =>
      rw [if_pos hc] at hF
      have HF := Go.Proofs.Ytamfifndddldcaa.bx hF
      clear hF
      have d1 : decide (tk < x4) = true := decide_eq_true hc
      gi_wp2
      refine ⟨(((((((KeepsOthers.setCell _ _ _).trans (KeepsOthers.setCell _ _ _)).trans (KeepsOthers.setCell _ _ _)).trans (KeepsOthers.setCell _ _ _)).trans (KeepsOthers.setCell _ _ _)).trans (KeepsOthers.setCell _ _ _)).trans (KeepsOthers.setCell _ _ _)).from _, rfl, ?_, ⟨x0, x1, x2, x3, x4, x5⟩, by first | exact HF.out | simpa using HF.out, ⟨(heap_set_off _ (by omega) _ _).trans (I4.out.put ⟨x0, x1, x2, x3, x4, x5⟩).out⟩, (off6 I5.out (by omega) ⟨x0, x1, x2, x3, x4, x5⟩).set _⟩
      exact ((((((i2.setCell (p := ⟨_, 0, none⟩) (by simp) _).setCell (p := ⟨_, 1, none⟩) (by simp) _).setCell (p := ⟨_, 2, none⟩) (by simp) _).setCell (p := ⟨_, 3, none⟩) (by simp) _).setCell (p := ⟨_, 4, none⟩) (by simp) _).setCell (p := ⟨_, 5, none⟩) (by simp) _).setCell (p := ⟨_, 0, none⟩) (by simp) _
    case neg =>
      rw [if_neg hc] at hF
      have HF := Go.Proofs.Ytamfifndddldcaa.bx hF
      clear hF
      have d1 : decide (tk < x4) = false := decide_eq_false hc
      gi_wp2
      exact ⟨KeepsFrom.refl _ _, KeepO.refl _ _ _, by first | exact HF.out | simpa using HF.out, i2, I3.out, I4.out, I5.out, i6⟩
  case done =>
    rintro D xs X hD hxs ⟨i1, i2, i3, i4, i5, i6⟩ hK
    rw [hxs, HZ.out] at i1
    obtain rfl := i1
    obtain ⟨f0, f1, f2, f3, f4, f5⟩ := i4.frozen
    obtain ⟨g0, g1, g2, g3, g4, g5⟩ := i4.cells
    simp only [zWn] at g0 g1 g2 g3 g4 g5
    have f6 := i5.frozen
    have g6 := i5.cell
    have I4 := Go.Proofs.Ytamfifndddldcaa.bx i4
    have I5 := Go.Proofs.Ytamfifndddldcaa.bx i5
    have HK := Go.Proofs.Ytamfifndddldcaa.bx hK
    clear i4 i5 hK HZ HS hst
    gi_wp2
    obtain ⟨X2, hX2⟩ : ∃ V, put7 X w.heap.size zWn false = V := ⟨_, rfl⟩
    have hX2' := hX2
    simp only [put7, zWn] at hX2'
    rw [hX2']
    have o1 : WinC X2 (w.heap.size + 1) zWn := by rw [← hX2]; exact ⟨(heap_set_off _ (by omega) _ _).trans (I4.out.put zWn).out⟩
    have o2 : Boxed X2 (w.heap.size + 2) 4 (.bool false) := by rw [← hX2]; exact (off6 I5.out (by omega) zWn).set _
    have hk2 : X2.heap[D]? = some (.deferred (some [])) := by rw [← hX2]; exact (put7_keeps X _ _ _).same D _ HK.out rfl
    have hb2 : Below w.heap.size w X2 := by rw [← hX2]; exact put7_below i2 (Nat.le_refl _) _ _
    refine ⟨by simp, .inl ⟨_, _, rfl, run_takeDeferred hk2, ?_⟩⟩
    have hbb := belowK_b (n₀ := w.heap.size) (w := W0) (by omega) X2 D _ (.deferred none) hD hk2 rfl rfl
    have hq1 := (winC_own (β := Unit) (w.heap.size + 1) zWn) () _ _ _ o1 (grownBy_putObj' X2 D (.deferred none)) (fun r e => by cases e; exact ⟨_, hk2, rfl⟩)
    have hq2 := o2.kept (grownBy_putObj' X2 D (.deferred none)) (by simp; omega)
    have hc2 := hq2.cell
    have hr := hq1.out
    exact ⟨.tuple #[wag zWn, .bool false], by simp [results, Try.results53, go_sem, cell_of_row _ _ _ _ _ _ hr, hc2, zWn], rfl, hb2.trans hbb⟩
  case s =>
    rintro D k pre X hD ⟨r, hr⟩ ⟨rfl, i2, x, i1, i4, i5⟩ hK
    have HF := HZ.out
    rw [← hr] at HF
    unfold nextF at HF i1
    rw [List.find?_append, i1, Option.some_or] at HF
    obtain rfl := HF
    clear hr i1 HZ HS hst
    gi_wp2
    refine ⟨by simp, .inl ⟨_, _, rfl, run_takeDeferred hK, ?_⟩⟩
    have hbb := belowK_b (n₀ := w.heap.size) (w := W0) (by omega) X D _ (.deferred none) hD hK rfl rfl
    have hq1 := (winC_own (β := Unit) (w.heap.size + 1) x) () _ _ _ i4 (grownBy_putObj' X D (.deferred none)) (fun r e => by cases e; exact ⟨_, hK, rfl⟩)
    have hq2 := i5.kept (grownBy_putObj' X D (.deferred none)) (by simp; omega)
    have hc2 := hq2.cell
    have hr := hq1.out
    exact ⟨.tuple #[wag x, .bool true], by simp [results, Try.results53, go_sem, cell_of_row _ _ _ _ _ _ hr, hc2], rfl, i2.trans hbb⟩
/-- the window at a tick -/
def atF (tk : Int) (l : List Wn) : Option Wn := (nextF tk l).filter fun x => decide (x.f ≤ tk)
theorem WinC.keepF {W W' : World} {r : Nat} {x : Wn} (h : WinC W r x) (k : From W W') : WinC W' r x := ⟨k.heap h.out⟩
theorem at_calls (A : Option Addr) (cap : Nat) (t : List Wn) (k a b tk : Int) (w : World) (h : Wins w (.slice A t.length cap) t) (hm : t.length ≤ 1000000)
    (hw : ∀ x ∈ t, 0 ≤ x.f ∧ x.f < x.u ∧ x.u ≤ 2000000) (z : Option Wn) (hz : atF tk (ofL k a b t) = z) :
    Calls Try.prog 43 #[.slice A t.length cap, .int .i64 k, .int .i64 a, .int .i64 b, .int .i64 tk] w fun r w' => r = .returned (.tuple #[wag (optW z), .bool z.isSome]) ∧ From w w' := by
  unfold atF at hz
  obtain ⟨y, hy⟩ : ∃ y, nextF tk (ofL k a b t) = y := ⟨_, rfl⟩
  have k1 : From w (w.alloc (.cells #[.int .i64 0, .int .i64 0, .int .i64 0, .int .i64 0, .int .i64 0, .int .i64 0] 68)) := (From.refl _).alloc _
  have HN := Go.Proofs.Ytamfifndddldcaa.bx (next_calls A cap t k a b tk _ (h.from k1) hm hw y hy)
  have HK := Go.Proofs.Ytamfifndddldcaa.bx k1
  have HW1 := Go.Proofs.Ytamfifndddldcaa.bx (WinC.new w zWn)
  rw [hy] at hz
  clear h hy k1 hm hw
  go_enter Try.func43, Try.ntmps43
  go_wp2_with fail
  refine HN.out.mono ?_
  rintro e w2 ⟨rfl, f2⟩
  have hz2 : w.heap.size < w2.heap.size := by have := Below.size f2; simp at this; omega
  have c2 := HW1.out.keepF f2
  clear HN
  cases y with
  | none =>
    simp only [Option.filter_none] at hz
    subst hz
    simp only [optW, zWn, wag, Option.isSome_none]
    obtain ⟨g0, g1, g2, g3, g4, g5⟩ := c2.cells
    obtain ⟨f0, f1, f2', f3, f4, f5⟩ := c2.frozen
    simp only [zWn] at g0 g1 g2 g3 g4 g5
    have C2 := Go.Proofs.Ytamfifndddldcaa.bx c2
    have F2 := Go.Proofs.Ytamfifndddldcaa.bx f2
    clear c2 f2
    go_wp2
    have hr := ((From.refl _).alloc (.cells #[.int .i64 0, .int .i64 0, .int .i64 0, .int .i64 0, .int .i64 0, .int .i64 0] 68)).heap (C2.out.put ⟨0, 0, 0, 0, 0, 0⟩).out
    refine bodyPost_ret (v := .tuple #[wag zWn, .bool false]) (by simp [results, Try.results43, go_sem, cell_of_row _ _ _ _ _ _ hr, zWn]) rfl ⟨rfl, ?_⟩
    exact (((((((HK.out.trans F2.out).setC (Nat.le_refl _) _ _).setC (Nat.le_refl _) _ _).setC (Nat.le_refl _) _ _).setC (Nat.le_refl _) _ _).setC (Nat.le_refl _) _ _).setC (Nat.le_refl _) _ _).alloc _
  | some y =>
    obtain ⟨y0, y1, y2, y3, y4, y5⟩ := y
    simp only [optW, wag, Option.isSome_some]
    obtain ⟨g0, g1, g2, g3, g4, g5⟩ := c2.cells
    obtain ⟨f0, f1, f2', f3, f4, f5⟩ := c2.frozen
    obtain ⟨n0, n1, n2, n3, n4, n5⟩ := (WinC.new w2 ⟨y0, y1, y2, y3, y4, y5⟩).cells
    simp only [zWn] at g0 g1 g2 g3 g4 g5
    have C2 := Go.Proofs.Ytamfifndddldcaa.bx c2
    have F2 := Go.Proofs.Ytamfifndddldcaa.bx f2
    clear c2 f2
    by_cases hq : y3 ≤ tk
    · have hz' : z = some ⟨y0, y1, y2, y3, y4, y5⟩ := by rw [← hz]; simp [Option.filter, hq]
      subst hz'
      have d1 : decide (y3 ≤ tk) = true := decide_eq_true hq
      clear hz
      go_wp2
      have hr := ((From.refl _).alloc (.cells #[.int .i64 y0, .int .i64 y1, .int .i64 y2, .int .i64 y3, .int .i64 y4, .int .i64 y5] 68)).heap (C2.out.put ⟨y0, y1, y2, y3, y4, y5⟩).out
      refine bodyPost_ret (v := .tuple #[wag ⟨y0, y1, y2, y3, y4, y5⟩, .bool true]) (by simp [results, Try.results43, go_sem, cell_of_row _ _ _ _ _ _ hr]) rfl ⟨rfl, ?_⟩
      exact (((((((HK.out.trans F2.out).setC (Nat.le_refl _) _ _).setC (Nat.le_refl _) _ _).setC (Nat.le_refl _) _ _).setC (Nat.le_refl _) _ _).setC (Nat.le_refl _) _ _).setC (Nat.le_refl _) _ _).alloc _
    · have hz' : z = none := by rw [← hz]; simp [Option.filter, hq]
      subst hz'
      have d1 : decide (y3 ≤ tk) = false := decide_eq_false hq
      clear hz
      go_wp2
      have hr := ((From.refl _).alloc (.cells #[.int .i64 y0, .int .i64 y1, .int .i64 y2, .int .i64 y3, .int .i64 y4, .int .i64 y5] 68)).heap (C2.out.put ⟨0, 0, 0, 0, 0, 0⟩).out
      refine bodyPost_ret (v := .tuple #[wag zWn, .bool false]) (by simp [results, Try.results43, go_sem, cell_of_row _ _ _ _ _ _ hr, zWn]) rfl ⟨rfl, ?_⟩
      exact (((((((HK.out.trans F2.out).setC (Nat.le_refl _) _ _).setC (Nat.le_refl _) _ _).setC (Nat.le_refl _) _ _).setC (Nat.le_refl _) _ _).setC (Nat.le_refl _) _ _).setC (Nat.le_refl _) _ _).alloc _
def gainA (t : List Wn) (c s k : Int) : Int := if (atF k (ofL 3 c 0 t)).isSome then 0 else s
theorem gain_calls (A : Option Addr) (cap : Nat) (t : List Wn) (c k s : Int) (w : World) (h : Wins w (.slice A t.length cap) t) (hm : t.length ≤ 1000000)
    (hw : ∀ x ∈ t, 0 ≤ x.f ∧ x.f < x.u ∧ x.u ≤ 2000000) (z : Int) (hz : gainA t c s k = z) :
    Calls Try.prog 31 #[.slice A t.length cap, .int .i64 c, .int .i64 k, .int .i64 s] w fun r w' => r = .returned (.int .i64 z) ∧ From w w' := by
  unfold gainA at hz
  obtain ⟨y, hy⟩ : ∃ y, atF k (ofL 3 c 0 t) = y := ⟨_, rfl⟩
  have HN := Go.Proofs.Ytamfifndddldcaa.bx (at_calls A cap t 3 c 0 k w h hm hw y hy)
  rw [hy] at hz
  clear h hy hm hw
  go_enter Try.func31, Try.ntmps31
  go_wp2_with fail
  refine HN.out.mono ?_
  rintro e w2 ⟨rfl, f2⟩
  clear HN
  obtain ⟨⟨x0, x1, x2, x3, x4, x5⟩, hx⟩ : ∃ x, optW y = x := ⟨_, rfl⟩
  rw [hx]
  simp only [wag]
  cases hb : y.isSome with
  | true =>
    rw [hb, if_pos rfl] at hz
    subst hz
    clear hb hx
    go_wp2
    go_ret
    exact ⟨rfl, f2.alloc _⟩
  | false =>
    rw [hb, if_neg (by simp)] at hz
    subst hz
    clear hb hx
    go_wp2
    go_ret
    exact ⟨rfl, f2.alloc _⟩
end Go.Proofs.Ytamfifndddldcaa
