/-
  Walks of layer 30: perigeelaw30.short; calls at whatever world comes later.
-/
import Derived.Test.YtgfmnolghbiedaaDoorK27
namespace Go.Proofs.YtgfmnolghbiedaaDoor
open Go.RowKit

/-- the world has grown from W0 -/
abbrev From (W0 W : World) : Prop := Below W0.heap.size W0 W
theorem From.ints {W0 W : World} (h : From W0 W) {A : Option Addr} {l : List Int} (hi : Ints W0 W0.heap.size A l) : Ints W W.heap.size A l := (hi.below h).more h.size
theorem From.lists {W0 W : World} (h : From W0 W) {A : Option Addr} {l : List (List Int)} (hi : Lists W0 W0.heap.size A l) : Lists W W.heap.size A l := (hi.below h).more h.size
theorem From.trans {W0 W W' : World} (h : From W0 W) (k : From W W') : From W0 W' := Below.trans h (k.mono h.size)
theorem From.drew {W0 W : World} (h : From W0 W) : From W0 W.drew := Below.drew h
theorem From.alloc {W0 W : World} (h : From W0 W) (o : Obj) : From W0 (W.alloc o) := Below.alloc h h.size o
theorem From.drewN {W0 W : World} (h : From W0 W) (m : Nat) : From W0 (W.drewN m) := below_drewN h m
/-- a graph in a box of its own, at the world W -/
structure GAt (W : World) (b : Nat) (n : Int) (A : Option Addr) (c : Nat) (sh : List (List Int)) : Prop where
  c0 : W.cell? ⟨b, 0, none⟩ = some (.int .i64 n)
  c1 : W.cell? ⟨b, 1, none⟩ = some (.slice A sh.length c)
theorem GAt.from {W W' : World} {b : Nat} {n : Int} {A : Option Addr} {c : Nat} {sh : List (List Int)} (h : GAt W b n A c sh) (k : From W W') : GAt W' b n A c sh :=
  ⟨(k.cell (p := ⟨b, 0, none⟩) (World.block_lt_of_cell? W _ h.c0)).trans h.c0, (k.cell (p := ⟨b, 1, none⟩) (World.block_lt_of_cell? W _ h.c1)).trans h.c1⟩
theorem GAt.keep {W0 W : World} {b : Nat} {n : Int} {A : Option Addr} {c : Nat} {sh : List (List Int)} (h : GAt W0 b n A c sh) (k : From W0 W) : From W0 W ∧ W.cell? ⟨b, 0, none⟩ = some (.int .i64 n) ∧ W.cell? ⟨b, 1, none⟩ = some (.slice A sh.length c) :=
  ⟨k, (h.from k).c0, (h.from k).c1⟩
theorem gat_new (X : World) (n : Int) (A : Option Addr) (c : Nat) (sh : List (List Int)) (t : TypeId) : GAt (X.alloc (.cells #[.int .i64 n, .slice A sh.length c] t)) X.heap.size n A c sh :=
  ⟨by rw [World.cell?_alloc_new]; rfl, by rw [World.cell?_alloc_new]; rfl⟩
theorem madeL_take_len (l : List Int) (n m : Nat) : (madeL (l.take m) n).length ≤ m := by rw [madeL_len, List.length_take]; omega
end Go.Proofs.YtgfmnolghbiedaaDoor
