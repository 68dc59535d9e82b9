/-
  Walks of layer 12: is a turn free, in the program's way.
-/
import Derived.Test.YtaahdfmbbbjmaaaW4
namespace Go.Proofs.Ytaahdfmbbbjmaaa
open Go.RowKit Go.Shelf
attribute [local go_sem] Oper.semAt_some

/-- the 360 marks in a block -/
def Marked (w : World) (b : Nat) (l : ArcL) : Prop := ∀ i : Int, 0 ≤ i → i < 360 → w.cell? ⟨b, i.toNat, none⟩ = some (.bool (av l i))
theorem wayList_mem {f deg : Int} {n : Nat} {x : Dir} (h : x ∈ wayList f deg n) : ∃ k, k < n ∧ x.1 = stepTo f deg k % 360 := by
  simp only [wayList, List.mem_map, List.mem_range] at h
  obtain ⟨k, hk, rfl⟩ := h
  exact ⟨k, hk, rfl⟩
theorem fr_of_way {l : ArcL} {f deg : Int} (h : ∀ x ∈ wayList f deg (deg.natAbs + 1), av l x.1 = false) : fr l f deg = true := by
  rw [fr_iff]
  intro k hk
  have := h (wayDir f deg k) (List.mem_map.2 ⟨k, List.mem_range.2 (by omega), rfl⟩)
  rwa [wayDir, av_mod] at this
theorem not_fr_of_way {l : ArcL} {f deg : Int} {m : Nat} (hm : m ≤ deg.natAbs + 1) (h : ∃ x ∈ wayList f deg m, av l x.1 = true) : fr l f deg = false := by
  obtain ⟨x, hx, hv⟩ := h
  obtain ⟨k, hk, e⟩ := wayList_mem hx
  rw [fr_false]
  refine ⟨k, by omega, ?_⟩
  rwa [e, av_mod] at hv
theorem heap_kept {W W' : World} {row : Option Nat} {B : Nat} {c : Array Value} {t : TypeId} {fz : Nat × Nat} (h : W.heap[B]? = some (.cells c t fz)) (hg : W.grownBy W' row) (hr : ∀ r, row = some r → ∃ o : Obj, W.heap[r]? = some o ∧ o.isCells = false) :
    W'.heap[B]? = some (.cells c t fz) := (grownBy_keeps_cells hg hr h rfl).trans h
theorem free_calls (l : ArcL) (a deg : Int) (Bf Bb : Nat) (w : World) (h1 : w.cell? ⟨Bf, 0, none⟩ = some (.int .i64 a)) (h2 : Marked w Bb l) (hd1 : -360 ≤ deg) (hd2 : deg ≤ 360) (hBb : Bb < w.heap.size) :
    Calls Try.prog 35 #[.int .i64 deg, .pointer (some ⟨Bf, 0, none⟩), .pointer (some ⟨Bb, 0, none⟩)] w fun e w' => e = .returned (.bool (fr l a deg)) ∧ Below w.heap.size w w' := by
  refine (callsIn_wide (n := 3)).1 ?_
  refine callsIn_of_wp_marks Try.func35 rfl trivial ?_ rfl
  simp only [Try.ntmps35, List.size_toArray, List.length_cons, List.length_nil, Nat.reduceAdd, Nat.reduceSub, Array.replicate_succ, Array.replicate_zero, List.push_toArray, List.append_toArray, List.nil_append, List.cons_append]
  have c0 : (w.alloc (.cells #[.bool false] 4)).cell? ⟨Bf, 0, none⟩ = some (.int .i64 a) := (World.cell?_alloc_lt w _ ⟨Bf, 0, none⟩ (World.block_lt_of_cell? w _ h1)).trans h1
  gi_wp2_with (first | (refine ⟨trivial, ?_⟩; gi_at_call 36; refine (callsIn_wide.2 (way_calls _ _ _)).mono ?_; rintro e w' ⟨rfl, rfl⟩) | gi_in)
  obtain ⟨W0, hW0⟩ : ∃ W0, ((w.alloc (.cells #[.bool false] 4)).alloc (.cells #[.int .i64 a] 3)).alloc (.cells #[.int .i64 deg] 3) = W0 := ⟨_, rfl⟩
  have s0 : W0.heap.size = w.heap.size + 3 := by rw [← hW0]; simp
  have hB0 : Below w.heap.size w W0 := by rw [← hW0]; exact (((Below.refl _ w).alloc (Nat.le_refl _) _).alloc (by simp) _).alloc (by simp; omega) _
  have r0 : Boxed W0 w.heap.size 4 (.bool false) := by rw [← hW0]; exact ((Boxed.new w 4 _).alloc _).alloc _
  have r1 : Boxed W0 (w.heap.size + 1) 3 (.int .i64 a) := by rw [← hW0]; have := Boxed.new (w.alloc (.cells #[.bool false] 4)) 3 (.int .i64 a); rw [World.size_alloc] at this; exact this.alloc _
  have r2 : Boxed W0 (w.heap.size + 2) 3 (.int .i64 deg) := by rw [← hW0]; have := Boxed.new ((w.alloc (.cells #[.bool false] 4)).alloc (.cells #[.int .i64 a] 3)) 3 (.int .i64 deg); rw [World.size_alloc, World.size_alloc] at this; exact this
  have hm0 : ∀ W, Below w.heap.size w W → Marked W Bb l := fun W hb i i0 i1 => (hb.cell (p := ⟨Bb, i.toNat, none⟩) hBb).trans (h2 i i0 i1)
  rw [hW0]
  refine wpIn_rangeFunc_ownG rfl (by omega) (gf := 44) (lb := #[.pointer (some ⟨w.heap.size + 2, 0, none⟩), .pointer (some ⟨w.heap.size + 1, 0, none⟩)]) (by simp [Act.eval]) trivial (enters_of Try.func44 (by kernel_rfl) rfl)
    (way_stops _ (w.heap.size + 2) (w.heap.size + 1) a deg W0 hd1 hd2 (by omega) (by omega) r2.cell r1.cell) KeepB.t (KeepB.b (by omega) (by omega)) (Below.refl _ _) (fun _ => rfl)
    (fun pre W => (∀ x ∈ pre, av l x.1 = false) ∧ Boxed W w.heap.size 4 (.bool false) ∧ Below w.heap.size w W)
    (fun c pre W => c = .ret ∧ (∃ x ∈ pre, av l x.1 = true) ∧ Boxed W w.heap.size 4 (.bool false) ∧ Below w.heap.size w W)
    (OwnFrom.and (ownFrom_pure _ _) (OwnFrom.and (Own.from (boxed_own _ _ _) _) (ownFrom_below (Nat.le_refl _) (by omega))))
    (fun c => OwnFrom.and (ownFrom_pure _ _) (OwnFrom.and (ownFrom_pure _ _) (OwnFrom.and (Own.from (boxed_own _ _ _) _) (ownFrom_below (Nat.le_refl _) (by omega)))))
    ⟨by simp, r0, hB0⟩
    (fun x => { tmps := #[.int .i64 deg, .pointer (some ⟨Bf, 0, none⟩), .pointer (some ⟨Bb, 0, none⟩), undef, .pointer (some ⟨w.heap.size, 0, none⟩), .int .i64 x.1, .int .i64 a, .int .i64 deg, .func (.func 44) #[] #[.pointer (some ⟨w.heap.size + 2, 0, none⟩), .pointer (some ⟨w.heap.size + 1, 0, none⟩)], .int .i64 x.1, undef, undef, undef], defers := [] }) ?assign ?body ?done ?stop
  case assign =>
    intro l x W K hK
    simp only [encDir]
    gi_wp2
    exact hK
  case body =>
    rintro lp pre x W ⟨hf, hbx, hbw⟩ _
    have hx1 := x.2.1
    have hx2 := x.2.2
    have hc := hm0 W hbw x.1 hx1 hx2
    have hcl := hbx.cell
    have hfz := hbx.frozen
    cases hv : av l x.1
    · have Hv := bx hv
      rw [hv] at hc
      clear hv
      gi_wp2
      refine ⟨KeepsFrom.refl _ _, ⟨Nat.le_refl _, rfl, rfl⟩, ?_, hbx, hbw⟩
      intro y hy
      rcases List.mem_append.1 hy with hy | hy
      · exact hf y hy
      · obtain rfl := List.mem_singleton.1 hy
        exact Hv.out
    · have Hv := bx hv
      rw [hv] at hc
      clear hv
      gi_wp2
      exact ⟨(KeepsOthers.setCell _ _ _).from _, rfl, ⟨x, by simp, Hv.out⟩, hbx.set _, hbw.setCell (Nat.le_refl _) _⟩
  case done =>
    rintro D xs W hD rfl ⟨hf, hbx, hbw⟩ hK
    have HF := bx (fr_of_way hf)
    have hcl := hbx.cell
    have hfz := hbx.frozen
    have hK' := (KeepsOthers.setCell W ⟨w.heap.size, 0, none⟩ (.bool true)).same D _ hK rfl
    gi_wp2
    refine ⟨by simp, .inl ⟨_, _, rfl, run_takeDeferred hK', ?_⟩⟩
    have hb2 := (hbx.set (.bool true)).kept (grownBy_putObj' _ D (.deferred none)) (by simp; omega)
    have hc2 := hb2.cell
    have hbb := belowK_b (n₀ := w.heap.size) (w := W0) (by omega) (W.setCell ⟨w.heap.size, 0, none⟩ (.bool true)) D _ (.deferred none) hD hK' rfl rfl
    exact ⟨.bool true, by simp [results, Try.results35, go_sem, hc2], by rw [HF.out], (hbw.setCell (p := ⟨w.heap.size, 0, none⟩) (Nat.le_refl _) _).trans hbb⟩
  case stop =>
    rintro D c pre W hD ⟨m, hm, rfl⟩ ⟨rfl, hx, hbx, hbw⟩ hK
    have HF := bx (not_fr_of_way hm hx)
    gi_wp2
    refine ⟨by simp, .inl ⟨_, _, rfl, run_takeDeferred hK, ?_⟩⟩
    have hb2 := hbx.kept (grownBy_putObj' _ D (.deferred none)) (by simp; omega)
    have hc2 := hb2.cell
    have hbb := belowK_b (n₀ := w.heap.size) (w := W0) (by omega) W D _ (.deferred none) hD hK rfl rfl
    exact ⟨.bool false, by simp [results, Try.results35, go_sem, hc2], by rw [HF.out], hbw.trans hbb⟩
end Go.Proofs.Ytaahdfmbbbjmaaa
