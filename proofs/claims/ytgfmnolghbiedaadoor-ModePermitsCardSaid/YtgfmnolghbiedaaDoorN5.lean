/-
  Plain law of layer 30 (no program): the check of a graph.
-/
import Derived.Test.YtgfmnolghbiedaaDoorN4
namespace Go.Proofs.YtgfmnolghbiedaaDoor

def outB (n s : Int) : Bool := decide (s < 0) || decide (n ≤ s)
def ordAt (l : List Int) (i : Nat) : Bool := decide (0 < i) && decide (l.getD i 0 ≤ l.getD (i - 1) 0)
def ordUpto (l : List Int) (k : Nat) : Bool := (List.range k).any (ordAt l)
def badOrd (l : List Int) : Bool := ordUpto l l.length
def badRng (n : Int) (l : List Int) : Bool := l.any (outB n)
def checkG (n : Int) (sh : List (List Int)) : Int :=
  if n < 0 then 2 else if 24 < n then 2 else if 16 < sh.length then 2 else if sh.any (badRng n) then 5 else if sh.any badOrd then 23 else 0
theorem ordUpto_succ (l : List Int) (k : Nat) : ordUpto l (k + 1) = (ordUpto l k || ordAt l k) := by simp [ordUpto, List.range_succ]
theorem ordUpto_one (l : List Int) : ordUpto l 1 = false := by simp [ordUpto, List.range_succ, ordAt]
theorem ordAt_eq {l : List Int} {i : Nat} (h0 : 0 < i) (hi : i < l.length) : ordAt l i = decide (l[i] ≤ l[i - 1]) := by
  unfold ordAt
  rw [List.getD_eq_getElem?_getD, List.getD_eq_getElem?_getD, List.getElem?_eq_getElem hi, List.getElem?_eq_getElem (show i - 1 < l.length by omega)]
  simp [h0]
theorem ordUpto_mono {l : List Int} {k m : Nat} (hk : k ≤ m) (h : ordUpto l k = true) : ordUpto l m = true := by
  unfold ordUpto at *
  obtain ⟨i, hi, ho⟩ := List.any_eq_true.1 h
  exact List.any_eq_true.2 ⟨i, List.mem_range.2 (by have := List.mem_range.1 hi; omega), ho⟩
theorem any_take_succ {α : Type} (p : α → Bool) {l : List α} {k : Nat} (h : k < l.length) : (l.take (k + 1)).any p = ((l.take k).any p || p l[k]) := by
  rw [List.take_succ_eq_append_getElem h, List.any_append]; simp
theorem any_at {α : Type} {p : α → Bool} {l : List α} {k : Nat} (h : k < l.length) (hp : p l[k] = true) : l.any p = true := List.any_eq_true.2 ⟨_, List.getElem_mem h, hp⟩
theorem check_lim {n : Int} {sh : List (List Int)} (h : n < 0 ∨ 24 < n ∨ 16 < sh.length) : checkG n sh = 2 := by
  unfold checkG; split
  · rfl
  · split
    · rfl
    · rw [if_pos (by omega)]
theorem check_rng {n : Int} {sh : List (List Int)} (h : ¬ (n < 0 ∨ 24 < n ∨ 16 < sh.length)) (hr : sh.any (badRng n) = true) : checkG n sh = 5 := by
  unfold checkG; rw [if_neg (by omega), if_neg (by omega), if_neg (by omega), if_pos hr]
theorem check_ord {n : Int} {sh : List (List Int)} (h : ¬ (n < 0 ∨ 24 < n ∨ 16 < sh.length)) (hr : sh.any (badRng n) = false) (ho : sh.any badOrd = true) : checkG n sh = 23 := by
  unfold checkG; rw [if_neg (by omega), if_neg (by omega), if_neg (by omega), if_neg (by simp [hr]), if_pos ho]
theorem check_fine {n : Int} {sh : List (List Int)} (h : ¬ (n < 0 ∨ 24 < n ∨ 16 < sh.length)) (hr : sh.any (badRng n) = false) (ho : sh.any badOrd = false) : checkG n sh = 0 := by
  unfold checkG; rw [if_neg (by omega), if_neg (by omega), if_neg (by omega), if_neg (by simp [hr]), if_neg (by simp [ho])]
theorem check_len {n : Int} {sh : List (List Int)} (h : checkG n sh = 0) : sh.length ≤ 16 := by
  refine Classical.byContradiction fun hc => ?_
  rw [check_lim (.inr (.inr (by omega)))] at h; cases h
end Go.Proofs.YtgfmnolghbiedaaDoor
