/-
  Walks of layer 30: perigeelaw30.short; calls at whatever world comes later.
-/
import Derived.Test.YtgfmnolghbiedaaK27
namespace Go.Proofs.Ytgfmnolghbiedaa
open Go.RowKit

theorem short_calls (A1 A2 A3 : Option Addr) (n1 c1 n2 c2 n3 c3 : Nat) (w : World) (h1 : n1 ≤ 9223372036854775807) (h2 : n2 ≤ 9223372036854775807) (h3 : n3 ≤ 9223372036854775807) (x : Bool) (hx : decide (n1 ≤ 40 ∧ n2 ≤ 40 ∧ n3 ≤ 40) = x) :
    Calls Try.prog 10 #[.slice A1 n1 c1, .slice A2 n2 c2, .slice A3 n3 c3] w fun e w' => e = .returned (.bool x) ∧ w = w' := by
  by_cases k1 : n1 ≤ 40
  · by_cases k2 : n2 ≤ 40
    · by_cases k3 : n3 ≤ 40
      · have HX := bx (show true = x by rw [← hx]; simp [k1, k2, k3])
        clear hx
        go_enter Try.func10, Try.ntmps10
        go_wp2
        go_ret
        exact ⟨ret_bool (by rw [← HX.out]; simp; omega), rfl⟩
      · have HX := bx (show false = x by rw [← hx]; simp [k3])
        clear hx
        go_enter Try.func10, Try.ntmps10
        go_wp2
        go_ret
        exact ⟨ret_bool (by rw [← HX.out]; simp; omega), rfl⟩
    · have HX := bx (show false = x by rw [← hx]; simp [k2])
      clear hx
      go_enter Try.func10, Try.ntmps10
      go_wp2
      go_ret
      exact ⟨ret_bool HX.out, rfl⟩
  · have HX := bx (show false = x by rw [← hx]; simp [k1])
    clear hx
    go_enter Try.func10, Try.ntmps10
    go_wp2
    go_ret
    exact ⟨ret_bool HX.out, rfl⟩
/-- the world has grown from W0 -/
abbrev From (W0 W : World) : Prop := Below W0.heap.size W0 W
theorem From.ints {W0 W : World} (h : From W0 W) {A : Option Addr} {l : List Int} (hi : Ints W0 W0.heap.size A l) : Ints W W.heap.size A l := (hi.below h).more h.size
theorem From.lists {W0 W : World} (h : From W0 W) {A : Option Addr} {l : List (List Int)} (hi : Lists W0 W0.heap.size A l) : Lists W W.heap.size A l := (hi.below h).more h.size
theorem From.trans {W0 W W' : World} (h : From W0 W) (k : From W W') : From W0 W' := Below.trans h (k.mono h.size)
theorem From.drew {W0 W : World} (h : From W0 W) : From W0 W.drew := Below.drew h
theorem From.alloc {W0 W : World} (h : From W0 W) (o : Obj) : From W0 (W.alloc o) := Below.alloc h h.size o
theorem From.drewN {W0 W : World} (h : From W0 W) (m : Nat) : From W0 (W.drewN m) := below_drewN h m
/-- a graph in a box of its own, at the world W -/
structure GAt (W : World) (b : Nat) (n : Int) (A : Option Addr) (c : Nat) (sh : List (List Int)) : Prop where
  c0 : W.cell? ⟨b, 0, none⟩ = some (.int .i64 n)
  c1 : W.cell? ⟨b, 1, none⟩ = some (.slice A sh.length c)
theorem GAt.from {W W' : World} {b : Nat} {n : Int} {A : Option Addr} {c : Nat} {sh : List (List Int)} (h : GAt W b n A c sh) (k : From W W') : GAt W' b n A c sh :=
  ⟨(k.cell (p := ⟨b, 0, none⟩) (World.block_lt_of_cell? W _ h.c0)).trans h.c0, (k.cell (p := ⟨b, 1, none⟩) (World.block_lt_of_cell? W _ h.c1)).trans h.c1⟩
theorem GAt.keep {W0 W : World} {b : Nat} {n : Int} {A : Option Addr} {c : Nat} {sh : List (List Int)} (h : GAt W0 b n A c sh) (k : From W0 W) : From W0 W ∧ W.cell? ⟨b, 0, none⟩ = some (.int .i64 n) ∧ W.cell? ⟨b, 1, none⟩ = some (.slice A sh.length c) :=
  ⟨k, (h.from k).c0, (h.from k).c1⟩
theorem gat_new (X : World) (n : Int) (A : Option Addr) (c : Nat) (sh : List (List Int)) (t : TypeId) : GAt (X.alloc (.cells #[.int .i64 n, .slice A sh.length c] t)) X.heap.size n A c sh :=
  ⟨by rw [World.cell?_alloc_new]; rfl, by rw [World.cell?_alloc_new]; rfl⟩
theorem madeL_take_len (l : List Int) (n m : Nat) : (madeL (l.take m) n).length ≤ m := by rw [madeL_len, List.length_take]; omega
end Go.Proofs.Ytgfmnolghbiedaa
