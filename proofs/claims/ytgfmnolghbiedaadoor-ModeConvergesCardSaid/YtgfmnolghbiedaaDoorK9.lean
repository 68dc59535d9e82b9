/-
  Walks of layer 30: diagnose.All.
-/
import Derived.Test.YtgfmnolghbiedaaDoorK8
import Derived.WalkMore
namespace Go.Proofs.YtgfmnolghbiedaaDoor
open Go.RowKit Go.Shelf
attribute [local go_sem] Oper.semAt_some

/-- the explanations among the sets that have come -/
def good (sh : List (List Int)) (seen : List Int) (pre : List Slc) : List Slc := pre.filter fun y => expl sh y.s seen []
theorem Tryd.infoInts : (Tryd.prog.info? 32).map (fun i => (i.zero, i.size, i.bytes)) = some (some (.slice none 0 0), 1, 24) := by kernel_rfl
/-- a list of lists of the call's own -/
def ListsPost (w : World) (T : List (List Int)) (e : Ending) (Y : World) : Prop :=
  ∃ (ys : List Slc) (A : Option Addr) (c : Nat), ys.map (·.s) = T ∧ e = .returned (.slice A ys.length c) ∧ Y.ownsRow w.heap.size 32 1 (.slice A ys.length c) ys.length (ys.map Slc.v) ∧
    (∀ y ∈ ys, Y.ownsRow w.heap.size 3 1 y.v y.s.length (ic y.s)) ∧ Below w.heap.size w Y
/-- what All's loop keeps between two rounds over sets -/
structure AllAt (w W1 : World) (sh : List (List Int)) (seen : List Int) (ds : List Deferred) (pre : List Slc) (W : World) : Prop where
  out : ∃ v, Boxed W (w.heap.size + 1 + 1) 33 v ∧ W.ownsRow (w.heap.size + 1 + 1) 32 1 v (good sh seen pre).length ((good sh seen pre).map Slc.v) ∧ (v = .slice none 0 0 ↔ good sh seen pre = [])
  own : ∀ y ∈ pre, W.ownsRow (w.heap.size + 1 + 1) 3 1 y.v y.s.length (ic y.s)
  marks : MarksOk w.heap.size W ds
  below : Below (w.heap.size + 1 + 1) W1 W
  ints : KInt none W1 W
theorem AllAt.row {w W1 X Y : World} {sh : List (List Int)} {seen : List Int} {ds : List Deferred} {pre : List Slc} {row : Option Nat} {B : Nat} (h : AllAt w W1 sh seen ds pre X) (hg : X.grownBy Y row) (hB : W1.heap.size ≤ B) (hB2 : w.heap.size + 1 + 1 ≤ W1.heap.size)
    (hr : ∀ r, row = some r → RowS B pre r X) : AllAt w W1 sh seen ds pre Y := by
  obtain ⟨⟨v, b1, b2, b3⟩, o, m, bl, ki⟩ := h
  have hc : ∀ r, row = some r → ∃ cs t fz, X.heap[r]? = some (.cells cs t fz) := fun r e => (hr r e).2.2.elim fun cs h => ⟨cs, _, h⟩
  refine ⟨⟨v, b1.kept hg ?_, b2.kept hg ?_, b3⟩, fun y hy => (o y hy).kept hg ?_, m.cells hg hc, bl.grown hg (by have := bl.size; have := ki.size; omega) (fun r e => by have := (hr r e).1; omega), ?_⟩
  · intro e
    obtain ⟨_, _, cs, fz, h⟩ := hr _ e.symm
    rw [show X.heap[w.heap.size + 1 + 1]? = _ from b1] at h; cases h
  · rcases b2.2 with ⟨rfl, _⟩ | ⟨g, cap, cur, rfl, _, hh, _⟩
    · exact .inl rfl
    · refine .inr fun e => ?_
      obtain ⟨_, _, cs, fz, h⟩ := hr g (by simpa [Value.ownBlock] using e.symm)
      rw [hh] at h; cases h
  · cases ho : y.v.ownBlock with
    | none => exact .inl rfl
    | some r =>
      refine .inr fun e => ?_
      exact (hr r e.symm).2.1 y hy ho
  · refine ⟨Nat.le_trans ki.size hg.size, fun b cs fz hb hn => ?_⟩
    have h1 := ki.same b cs fz hb hn
    refine (hg.block b (Array.getElem?_eq_some_iff.1 h1).1 fun e => ?_).trans h1
    have := (hr b e.symm).1
    have := (Array.getElem?_eq_some_iff.1 hb).1
    omega
theorem AllAt.put {w W1 X : World} {sh : List (List Int)} {seen : List Int} {ds : List Deferred} {pre : List Slc} {M l : Nat} {o o' : Obj} (h : AllAt w W1 sh seen ds pre X) (hl : X.heap[l]? = some o) (ho : o.isCells = false) (hM : M ≤ l) (hM2 : w.heap.size + 1 + 1 ≤ M)
    (hlt : ∀ d ∈ ds, ∀ D, d.target = .collected D → D < M) : AllAt w W1 sh seen ds pre (X.putObj l o') := by
  obtain ⟨⟨v, b1, b2, b3⟩, o1, m, bl, ki⟩ := h
  refine ⟨⟨v, boxed_put b1 hl ho, own_put b2 hl ho, b3⟩, fun y hy => own_put (o1 y hy) hl ho, m.put hM hlt, ?_, ki.trans ⟨by simp, fun b cs fz hb _ => (World.putObj_heap_other (by rintro rfl; rw [hl] at hb; cases hb; cases ho)).trans hb⟩⟩
  exact ⟨bl.os, bl.tape, bl.output, by simpa using bl.size, fun i hi => (World.putObj_heap_other (by omega)).trans (bl.block i hi)⟩
theorem subs_len : ∀ (l : List Int) (k : Nat), (subs l k).length ≤ 2 ^ l.length := by
  intro l
  induction l with
  | nil => intro k; cases k <;> simp [subs]
  | cons x xs ih =>
    intro k
    cases k with
    | zero => simp [subs]; exact Nat.one_le_two_pow
    | succ k =>
      have h1 := ih k
      have h2 := ih (k + 1)
      simp only [subs, List.length_append, List.length_map, List.length_cons, Nat.pow_succ]
      omega
theorem good_skip {sh : List (List Int)} {seen : List Int} {pre : List Slc} {x : Slc} (h : expl sh x.s seen [] = false) : good sh seen (pre ++ [x]) = good sh seen pre := by simp [good, h]
theorem good_take {sh : List (List Int)} {seen : List Int} {pre : List Slc} {x : Slc} (h : expl sh x.s seen [] = true) : good sh seen (pre ++ [x]) = good sh seen pre ++ [x] := by simp [good, h]
theorem AllAt.call {w W1 X Y : World} {sh : List (List Int)} {seen : List Int} {ds : List Deferred} {pre : List Slc} (h : AllAt w W1 sh seen ds pre X) (hb : Below X.heap.size X Y) (hB2 : w.heap.size + 1 + 1 ≤ W1.heap.size) : AllAt w W1 sh seen ds pre Y :=
  h.row (B := W1.heap.size) (grown_of_below hb none) (Nat.le_refl _) hB2 (fun r e => by cases e)
theorem AllAt.skip {w W1 X : World} {sh : List (List Int)} {seen : List Int} {ds : List Deferred} {pre : List Slc} {x : Slc} (h : AllAt w W1 sh seen ds pre X) (hv : expl sh x.s seen [] = false) (hx : X.ownsRow (w.heap.size + 1 + 1) 3 1 x.v x.s.length (ic x.s)) : AllAt w W1 sh seen ds (pre ++ [x]) X := by
  obtain ⟨o, o1, m, bl, ki⟩ := h
  refine ⟨by rw [good_skip hv]; exact o, fun y hy => ?_, m, bl, ki⟩
  rcases List.mem_append.1 hy with hy | hy
  · exact o1 y hy
  · obtain rfl := List.mem_singleton.1 hy; exact hx
theorem kint_append {W w1 : World} {r B n : Nat} {v v' : Value} {xs : List Value} {tmp : Obj} (hbx : Boxed W r 33 v) (hrow : W.ownsRow B 32 1 v n xs) (hg : (W.alloc tmp).grownBy w1 v.ownBlock) : KInt none W (w1.setCell ⟨r, 0, none⟩ v') := by
  refine ⟨?_, fun b cs fz hb _ => ?_⟩
  · have := hg.size; simp [World.setCell] at this ⊢; omega
  · have hlt := (Array.getElem?_eq_some_iff.1 hb).1
    refine (Below.heap_setCell _ _ _ _ ?_).trans ((hg.block b (by simp; omega) ?_).trans ((heap_alloc_old W tmp hlt).trans hb))
    · simp only [ne_eq]
      rintro rfl
      rw [show W.heap[b]? = _ from hbx] at hb; cases hb
    · intro e
      rcases hrow.2 with ⟨rfl, _⟩ | ⟨g, cap, cur, rfl, _, hh, _⟩
      · simp [Value.ownBlock] at e
      · have : b = g := by simpa [Value.ownBlock] using e
        subst this
        rw [hh] at hb; cases hb
theorem allOf_at {sh : List (List Int)} {seen clear : List Int} {k : Nat} (hk : k ≤ (cand sh clear).length) (h : ∀ j, j < k → noneAt sh seen (cand sh clear) j) (hne : (subs (cand sh clear) k).filter (fun s => expl sh s seen []) ≠ []) :
    allOf sh seen clear = (subs (cand sh clear) k).filter (fun s => expl sh s seen []) := by
  rw [allOf, firstOf_eq _ k (fun j hj => filter_none (h j hj)) hne _ (by omega)]
theorem allOf_none {sh : List (List Int)} {seen clear : List Int} (h : ∀ j, j < (cand sh clear).length + 1 → noneAt sh seen (cand sh clear) j) : allOf sh seen clear = [] := by
  rw [allOf, firstOf_nil _ _ (fun j hj => filter_none (h j hj))]
theorem good_map (sh : List (List Int)) (seen : List Int) (xs : List Slc) : (good sh seen xs).map (·.s) = (xs.map (·.s)).filter (fun s => expl sh s seen []) := by
  rw [List.filter_map]; rfl
end Go.Proofs.YtgfmnolghbiedaaDoor
