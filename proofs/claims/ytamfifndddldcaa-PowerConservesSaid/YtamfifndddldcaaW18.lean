/-
  Cuts behind drawn regions; boxes that a region lays at places of its own. Plain law of the sequence of Steps.
-/
import Derived.Test.YtamfifndddldcaaM6
import Derived.Test.YtamfifndddldcaaW13
namespace Go.Proofs.Ytamfifndddldcaa
open Go.RowKit Go.Shelf

/-- a cut behind a piece of code: what is known there -/
theorem region_cut {P : Program} {c : Code} {K : Act → World → Prop} {Q : Exit → Act → World → Prop} {a : Act} {w : World} (R : Act → Act → World → Prop)
    (h : ∀ K' : Act → World → Prop, Bx (∀ a' w', R a a' w' → K' a' w') → Code.wp P c (Exit.then K' Q) a w) (hR : ∀ a' w', R a a' w' → K a' w') : Code.wp P c (Exit.then K Q) a w :=
  Code.wp_mono (fun e a' w' he => by cases e <;> first | exact hR _ _ he | exact he) (h (R a) ⟨fun _ _ h => h⟩)
/-- slots that are written one behind the other -/
def puts (a : Act) : List (Nat × Value) → Act
  | [] => a
  | (d, v) :: r => puts (a.put (some d) v) r
theorem heap_alloc_1 (w : World) (o o' : Obj) : ((w.alloc o).alloc o').heap[w.heap.size + 1]? = some o' := by
  have := heap_alloc_new (w.alloc o) o'
  rwa [World.size_alloc] at this
theorem heap_alloc_0 (w : World) (o o' : Obj) : ((w.alloc o).alloc o').heap[w.heap.size]? = some o := ((From.refl _).alloc _).heap (heap_alloc_new w o)
theorem heap_drew_n (w : World) (o : Obj) : (w.drew.alloc o).heap[w.heap.size]? = some o := heap_alloc_new w.drew o
theorem heap_drew_1 (w : World) (o o' : Obj) : ((w.drew.alloc o).alloc o').heap[w.heap.size + 1]? = some o' := heap_alloc_1 w.drew o o'
theorem heap_drew_0 (w : World) (o o' : Obj) : ((w.drew.alloc o).alloc o').heap[w.heap.size]? = some o := heap_alloc_0 w.drew o o'
abbrev zBat : Obj := .cells (bcs 0 0 0) 23
abbrev zSup : Obj := .cells (pcs 0 0 0 (.slice none 0 0) false) 33
theorem heap_alloc_at (w : World) (o : Obj) (n : Nat) (h : n = w.heap.size) : (w.alloc o).heap[n]? = some o := by rw [h]; exact heap_alloc_new w o
theorem bat_put3 {W : World} {r : Nat} {x y z : Int} (h : BatC W r x y z) (C c re : Int) : BatC (((W.setCell ⟨r, 0, none⟩ (.int .i64 C)).setCell ⟨r, 1, none⟩ (.int .i64 c)).setCell ⟨r, 2, none⟩ (.int .i64 re)) r C c re :=
  ⟨heap_set_at (heap_set_at (heap_set_at h.out 0 (.int .i64 C)) 1 (.int .i64 c)) 2 (.int .i64 re)⟩
theorem sup_put5 {W : World} {r : Nat} (h : SupC W r 0 0 0 (.slice none 0 0) false) (g u sp : Int) (v : Value) (b : Bool) : SupC (((((W.setCell ⟨r, 0, none⟩ (.int .i64 g)).setCell ⟨r, 1, none⟩ (.int .i64 u)).setCell ⟨r, 2, none⟩ (.int .i64 sp)).setCell ⟨r, 3, none⟩ v).setCell ⟨r, 4, none⟩ (.bool b)) r g u sp v b :=
  ⟨heap_set_at (heap_set_at (heap_set_at (heap_set_at (heap_set_at h.out 0 (.int .i64 g)) 1 (.int .i64 u)) 2 (.int .i64 sp)) 3 v) 4 (.bool b)⟩
theorem bat_off5 {W : World} {r s : Nat} {C c re : Int} (h : BatC W r C c re) (hn : s ≠ r) (v0 v1 v2 v3 v4 : Value) : BatC (((((W.setCell ⟨s, 0, none⟩ v0).setCell ⟨s, 1, none⟩ v1).setCell ⟨s, 2, none⟩ v2).setCell ⟨s, 3, none⟩ v3).setCell ⟨s, 4, none⟩ v4) r C c re :=
  ⟨(heap_set_off _ hn _ _).trans ((heap_set_off _ hn _ _).trans ((heap_set_off _ hn _ _).trans ((heap_set_off _ hn _ _).trans ((heap_set_off _ hn _ _).trans h.out))))⟩
theorem sup_off3 {W : World} {r s : Nat} {g u sp : Int} {v : Value} {b : Bool} (h : SupC W r g u sp v b) (hn : s ≠ r) (v0 v1 v2 : Value) : SupC (((W.setCell ⟨s, 0, none⟩ v0).setCell ⟨s, 1, none⟩ v1).setCell ⟨s, 2, none⟩ v2) r g u sp v b :=
  ⟨(heap_set_off _ hn _ _).trans ((heap_set_off _ hn _ _).trans ((heap_set_off _ hn _ _).trans h.out))⟩
/-- one essential load, one tick -/
abbrev oneL (e : Int) : List Lo := [⟨9, e, 0, true⟩]
theorem step_one (C ch re g e : Int) : stepB C ch re g (oneL e) = if min C (ch + g) < e then ⟨min C (ch + g), 0, [], true⟩ else ⟨min C (ch + g) - e, e, [9], false⟩ := by
  have h : ch + gainB C ch g = min C (ch + g) := by unfold gainB; omega
  unfold stepB oneL
  rw [h]
  show stepL re ⟨min C (ch + g), 0, [], false⟩ ⟨9, e, 0, true⟩ = _
  unfold stepL
  by_cases hb : min C (ch + g) < e
  · rw [if_pos hb, if_pos (by simp only [if_true]; omega)]
    simp
  · rw [if_neg hb, if_neg (by simp only [if_true]; omega)]
    simp
/-- where the sequence of Steps stands behind i ticks: charge and whether there was a brownout; n ticks in all from k on, T: does it survive? -/
structure BySt (g : Int → Int) (C e : Int) (n : Nat) (k : Int) (T : Bool) (i : Nat) (cv : Int) (br : Bool) : Prop where
  le : i ≤ n
  bd : 0 ≤ cv ∧ cv ≤ C
  res : if br = true then T = false else survN g C e (n - i) (k + i) cv = T
theorem BySt.next {g : Int → Int} {C e : Int} {n : Nat} {k : Int} {T : Bool} {i : Nat} {cv : Int} {br : Bool} (h : BySt g C e n k T i cv br) (hi : i < n) (he : 0 ≤ e) (hg : 0 ≤ g (k + i)) (s : SS) (re : Int) (hs : stepB C cv re (g (k + i)) (oneL e) = s) :
    BySt g C e n k T (i + 1) s.c (br || s.br) := by
  obtain ⟨h1, ⟨h2, h3⟩, h4⟩ := h
  rw [step_one] at hs
  subst hs
  have hn : n - i = (n - (i + 1)) + 1 := by omega
  rw [hn, survN_succ] at h4
  by_cases hb : min C (cv + g (k + i)) < e
  · rw [if_pos hb] at h4 ⊢
    refine ⟨hi, ⟨by simp only; omega, by simp only; omega⟩, ?_⟩
    simp only [Bool.or_true, if_true]
    cases br <;> simp_all
  · rw [if_neg hb] at h4 ⊢
    refine ⟨hi, ⟨by simp only; omega, by simp only; omega⟩, ?_⟩
    simp only [Bool.or_false]
    rw [show k + ((i + 1 : Nat) : Int) = k + i + 1 by omega]
    exact h4
theorem BySt.done {g : Int → Int} {C e : Int} {n : Nat} {k : Int} {T : Bool} {cv : Int} {br : Bool} (h : BySt g C e n k T n cv br) : T = !br := by
  have h4 := h.res
  rw [Nat.sub_self] at h4
  cases br
  · simp only [Bool.false_eq_true, if_false] at h4
    exact h4.symm
  · simpa using h4
end Go.Proofs.Ytamfifndddldcaa
