/-
  Walks of layer 30: perigeelaw30.ring; literal lists in memory.
-/
import Derived.Test.YtgfmnolghbiedaaDoorK24
namespace Go.Proofs.YtgfmnolghbiedaaDoor
open Go.RowKit

theorem ints_step (X : World) (cs : Array Value) (t : TypeId) (l : List Int) (h : cs.toList = ic l) : Ints (X.alloc (.cells cs t)) (X.heap.size + 1) (some ⟨X.heap.size, 0, none⟩) l := by
  refine ⟨fun k hk => ⟨X.heap.size, 0, rfl, by omega, ?_⟩⟩
  rw [World.cell?_alloc_new, Nat.zero_add, ← Array.getElem?_toList, h]
  simp [ic, hk]
theorem Ints.al {X : World} {B : Nat} {A : Option Addr} {l : List Int} (h : Ints X B A l) (hB : B ≤ X.heap.size) (o : Obj) : Ints (X.alloc o) B A l := h.below (((Below.refl _ _).alloc (Nat.le_refl _) o).mono hB)
theorem Lists.al {X : World} {B : Nat} {A : Option Addr} {l : List (List Int)} (h : Lists X B A l) (hB : B ≤ X.heap.size) (o : Obj) : Lists (X.alloc o) B A l := h.below (((Below.refl _ _).alloc (Nat.le_refl _) o).mono hB)
/-- a literal list of lists: each element lies somewhere below -/
theorem lists_step (X : World) (cs : Array Value) (t : TypeId) (sh : List (List Int)) (h : ∀ k (hk : k < sh.length), ∃ A' c', cs[k]? = some (.slice A' sh[k].length c') ∧ Ints X X.heap.size A' sh[k] ∧ sh[k].length ≤ 9223372036854775807) :
    Lists (X.alloc (.cells cs t)) (X.heap.size + 1) (some ⟨X.heap.size, 0, none⟩) sh := by
  refine ⟨fun k hk => ?_⟩
  obtain ⟨A', c', h1, h2, h3⟩ := h k hk
  refine ⟨X.heap.size, 0, A', c', rfl, by omega, ?_, (h2.al (Nat.le_refl _) _).more (by omega), h3⟩
  rw [World.cell?_alloc_new, Nat.zero_add, h1]
def ringL : List (List Int) := [[0, 1], [1, 2], [2, 3], [0, 3]]
def i64c (n : Int) : Value := .int .i64 n
theorem ring_lists (X : World) : Lists (((((X.alloc (.cells #[.int .i64 0, .int .i64 1] 3)).alloc (.cells #[.int .i64 1, .int .i64 2] 3)).alloc (.cells #[.int .i64 2, .int .i64 3] 3)).alloc (.cells #[.int .i64 0, .int .i64 3] 3)).alloc
      (.cells #[.slice (some ⟨X.heap.size, 0, none⟩) 2 2, .slice (some ⟨X.heap.size + 1, 0, none⟩) 2 2, .slice (some ⟨X.heap.size + 1 + 1, 0, none⟩) 2 2, .slice (some ⟨X.heap.size + 1 + 1 + 1, 0, none⟩) 2 2] 32)) (X.heap.size + 1 + 1 + 1 + 1 + 1) (some ⟨X.heap.size + 1 + 1 + 1 + 1, 0, none⟩) ringL := by
  obtain ⟨X1, h1⟩ : ∃ X1, X.alloc (.cells #[.int .i64 0, .int .i64 1] 3) = X1 := ⟨_, rfl⟩
  obtain ⟨X2, h2⟩ : ∃ X2, X1.alloc (.cells #[.int .i64 1, .int .i64 2] 3) = X2 := ⟨_, rfl⟩
  obtain ⟨X3, h3⟩ : ∃ X3, X2.alloc (.cells #[.int .i64 2, .int .i64 3] 3) = X3 := ⟨_, rfl⟩
  obtain ⟨X4, h4⟩ : ∃ X4, X3.alloc (.cells #[.int .i64 0, .int .i64 3] 3) = X4 := ⟨_, rfl⟩
  have z1 : X1.heap.size = X.heap.size + 1 := by rw [← h1]; simp
  have z2 : X2.heap.size = X.heap.size + 1 + 1 := by rw [← h2]; simp [z1]
  have z3 : X3.heap.size = X.heap.size + 1 + 1 + 1 := by rw [← h3]; simp [z2]
  have z4 : X4.heap.size = X.heap.size + 1 + 1 + 1 + 1 := by rw [← h4]; simp [z3]
  have i1 := ints_step X #[.int .i64 0, .int .i64 1] 3 [0, 1] rfl
  have i2 := ints_step X1 #[.int .i64 1, .int .i64 2] 3 [1, 2] rfl
  have i3 := ints_step X2 #[.int .i64 2, .int .i64 3] 3 [2, 3] rfl
  have i4 := ints_step X3 #[.int .i64 0, .int .i64 3] 3 [0, 3] rfl
  rw [h1] at i1
  rw [h2, z1] at i2
  rw [h3, z2] at i3
  rw [h4, z3] at i4
  have j1 := i1.al (by omega) (.cells #[.int .i64 1, .int .i64 2] 3)
  rw [h2] at j1
  have j2 := j1.al (by omega) (.cells #[.int .i64 2, .int .i64 3] 3)
  rw [h3] at j2
  have j3 := (j2.al (by omega) (.cells #[.int .i64 0, .int .i64 3] 3)).more (B' := X4.heap.size) (by omega)
  rw [h4] at j3
  have k1 := i2.al (by omega) (.cells #[.int .i64 2, .int .i64 3] 3)
  rw [h3] at k1
  have k2 := (k1.al (by omega) (.cells #[.int .i64 0, .int .i64 3] 3)).more (B' := X4.heap.size) (by omega)
  rw [h4] at k2
  have l1 := (i3.al (by omega) (.cells #[.int .i64 0, .int .i64 3] 3)).more (B' := X4.heap.size) (by omega)
  rw [h4] at l1
  have m1 := i4.more (B' := X4.heap.size) (by omega)
  rw [h1, h2, h3, h4, ← z4]
  refine lists_step X4 _ _ ringL fun k hk => ?_
  match k, hk with
  | 0, _ => exact ⟨_, _, rfl, j3, by simp [ringL]⟩
  | 1, _ => exact ⟨_, _, rfl, k2, by simp [ringL]⟩
  | 2, _ => exact ⟨_, _, rfl, l1, by simp [ringL]⟩
  | 3, _ => exact ⟨_, _, rfl, m1, by simp [ringL]⟩
end Go.Proofs.YtgfmnolghbiedaaDoor
