/-
  Walks of layer 31: what holds at the heads of the loops of the law ModeConverges.
-/
import Derived.Test.YtgfmnolghbiedaaDoorP17
import Derived.Test.YtgfmnolghbiedaaDoorQ3
namespace Go.Proofs.YtgfmnolghbiedaaDoor
open Go.RowKit Go.Shelf

/-- a row of one's own with at most m numbers, all of them below N -/
def Idx (B N m : Nat) (v : Value) (W : World) : Prop := ∃ l : List Int, l.length ≤ m ∧ (∀ x ∈ l, 0 ≤ x ∧ x < N) ∧ W.ownsRow B 3 1 v l.length (ic l)
theorem Idx.nil (B N : Nat) (W : World) : Idx B N 0 (.slice none 0 0) W := ⟨[], Nat.le_refl _, by simp, World.ownsRow_nil _ _ _ _⟩
theorem Idx.more {B N m m' : Nat} {v : Value} {W : World} (h : Idx B N m v W) (hm : m ≤ m') : Idx B N m' v W := by
  obtain ⟨l, h1, h2⟩ := h
  exact ⟨l, by omega, h2⟩
theorem Idx.call {B N m : Nat} {v : Value} {W W' : World} (h : Idx B N m v W) (hb : From W W') : Idx B N m v W' := by
  obtain ⟨l, h1, h2, h3⟩ := h
  exact ⟨l, h1, h2, own_call h3 hb⟩
theorem Idx.append {B N m : Nat} {v' : Value} {W' : World} {l : List Int} {x : Int} {n : Nat} (h1 : l.length ≤ m) (h2 : ∀ x ∈ l, 0 ≤ x ∧ x < N) (hx : 0 ≤ x) (hx' : x < N) (hn : n = l.length + 1) (h3 : W'.ownsRow B 3 1 v' n (ic l ++ [.int .i64 x])) : Idx B N (m + 1) v' W' := by
  subst hn
  refine ⟨l ++ [x], by simp; omega, ?_, ?_⟩
  · intro y hy
    rcases List.mem_append.1 hy with hy | hy
    · exact h2 y hy
    · simp at hy; subst hy; exact ⟨hx, hx'⟩
  · rw [ic_append, List.length_append]; exact h3
theorem MCell.set3 {W : World} {r : Nat} {lev bud : Int} {A : Option Addr} {n c : Nat} (h : MCell W r lev bud A n c) (lev' bud' : Int) (A' : Option Addr) (n' c' : Nat) :
    MCell (((W.setCell ⟨r, 0, none⟩ (.int .i64 lev')).setCell ⟨r, 1, none⟩ (.int .i64 bud')).setCell ⟨r, 2, none⟩ (.slice A' n' c')) r lev' bud' A' n' c' :=
  ⟨heap_set_at (heap_set_at (heap_set_at h.out 0 _) 1 _) 2 _⟩
theorem heap_set_off (W : World) {B r : Nat} (hr : r ≠ B) (i : Nat) (v : Value) : (W.setCell ⟨r, i, none⟩ v).heap[B]? = W.heap[B]? := by
  simp only [World.setCell, Array.getElem?_modify]
  rw [if_neg hr]
theorem MCell.off {W : World} {r b : Nat} {lev bud : Int} {A : Option Addr} {n c : Nat} (h : MCell W b lev bud A n c) (hr : r ≠ b) (x y z : Value) :
    MCell (((W.setCell ⟨r, 0, none⟩ x).setCell ⟨r, 1, none⟩ y).setCell ⟨r, 2, none⟩ z) b lev bud A n c :=
  ⟨by rw [heap_set_off _ hr, heap_set_off _ hr, heap_set_off _ hr]; exact h.out⟩
theorem MCell.soft {W : World} {r : Nat} {lev bud : Int} {A : Option Addr} {n c : Nat} (h : MCell W r lev bud A n c) : W.frozen? ⟨r, 0, none⟩ = false ∧ W.frozen? ⟨r, 1, none⟩ = false ∧ W.frozen? ⟨r, 2, none⟩ = false := by
  have e := h.out
  exact ⟨by simp [World.frozen?, e], by simp [World.frozen?, e], by simp [World.frozen?, e]⟩
/-- the head of the outer loop: after k calls of React the mode in block r is valid and at least k of the budget is spent; the box of the first mode and the row of the units are as they were -/
structure ConvAt (Wm : World) (lv bd : Int) (A0 : Option Addr) (c0 N : Nat) (AU : Option Addr) (cU : Nat) (ul : List Int) (k : Nat) (W : World) : Prop where
  from_ : From Wm W
  first : MCell W (Wm.heap.size + 1) lv bd A0 N c0
  size : Wm.heap.size + 2 ≤ W.heap.size
  row : W.ownsRow (Wm.heap.size + 2) 3 1 (.slice AU ul.length cU) ul.length (ic ul)
  mode : ∃ (lev bud : Int) (us : UL) (A : Option Addr) (c : Nat), MCell W Wm.heap.size lev bud A us.length c ∧ US W W.heap.size (.slice A us.length c) us ∧ GoodU us ∧ us.length = N ∧ 0 ≤ lev ∧ lev ≤ 2 ∧ 0 ≤ bud ∧ bud + k ≤ bd
theorem around_self (n : Nat) (hn : n ≤ 16) : around (n : Int) 17 = n := by
  unfold around
  rw [if_neg (by omega)]
  omega
end Go.Proofs.YtgfmnolghbiedaaDoor
