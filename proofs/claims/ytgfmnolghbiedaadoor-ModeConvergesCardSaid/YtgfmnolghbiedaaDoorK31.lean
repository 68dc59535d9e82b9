/-
  Walks of layer 30: calls whose answer is a row of the call's own.
-/
import Derived.Test.YtgfmnolghbiedaaDoorK30
namespace Go.Proofs.YtgfmnolghbiedaaDoor
open Go.RowKit

theorem bits_row (x : Int) (n : Nat) (w : World) (h0 : 0 ≤ x) (h1 : x ≤ 65535) (hn : n ≤ 1000) (l : List Int) (hl : bitsN x n = l) : Calls Tryd.prog 38 #[.int .i64 x, .int .i64 n] w (RowPost w l) := by
  have := bits_calls x n w h0 h1 hn
  rwa [hl] at this
/-- what Least answers, whether there is an answer or not -/
def LeastRow (w : World) (s : List Int) (b : Bool) (e : Ending) (Y : World) : Prop :=
  ∃ A c, e = .returned (.tuple #[.slice A s.length c, .bool b]) ∧ Y.ownsRow w.heap.size 3 1 (.slice A s.length c) s.length (ic s) ∧ From w Y
theorem least_row (n : Int) (AG : Option Addr) (cG : Nat) (sh : List (List Int)) (AS : Option Addr) (cS : Nat) (seen : List Int) (AC : Option Addr) (cC : Nat) (clear : List Int) (w : World)
    (hl : Lists w w.heap.size AG sh) (hn : sh.length ≤ 90) (h1 : Ints w w.heap.size AS seen) (hm1 : seen.length ≤ 9223372036854775807) (h2 : Ints w w.heap.size AC clear) (hm2 : clear.length ≤ 9223372036854775807)
    (s : List Int) (hs : (leastOf sh seen clear).getD [] = s) (b : Bool) (hb : (leastOf sh seen clear).isSome = b) :
    Calls Tryd.prog 39 #[.agg #[.int .i64 n, .slice AG sh.length cG], .slice AS seen.length cS, .slice AC clear.length cC] w (LeastRow w s b) := by
  refine (least_calls n AG cG sh AS cS seen AC cC clear w hl hn h1 hm1 h2 hm2).mono ?_
  rintro e Y (⟨t, A, c, ht, rfl, ho, hx⟩ | ⟨ht, rfl, hx⟩)
  · rw [ht] at hs hb
    obtain rfl : t = s := hs
    obtain rfl : true = b := hb
    exact ⟨A, c, rfl, ho, hx⟩
  · rw [ht] at hs hb
    obtain rfl : [] = s := hs
    obtain rfl : false = b := hb
    exact ⟨none, 0, rfl, World.ownsRow_nil _ _ _ _, hx⟩
theorem own_from {W W' : World} {B n size : Nat} {e : TypeId} {v : Value} {xs : List Value} (h : W.ownsRow B e size v n xs) (hb : From W W') : W'.ownsRow B e size v n xs := own_call h hb
theorem src_from {W W' : World} {u : Value} {xs : List Int} (h : Src W W.heap.size u xs) (hb : From W W') : Src W' W'.heap.size u xs := (h.below hb).more (Below.size hb)
theorem from_grown {W W1 W' : World} {base n : Nat} {e : TypeId} {v : Value} {xs : List Value} (h : From W W1) (hown : W1.ownsRow base e 1 v n xs) (hg : W1.grownBy W' v.ownBlock) (hb : W.heap.size ≤ base) : From W W' :=
  Below.grown h hg (Below.size h) (fun g hg => Nat.le_trans hb (hown.lt g hg).1)
theorem allOf_le (sh : List (List Int)) (seen clear : List Int) (h : sh.length ≤ 20) : (allOf sh seen clear).length ≤ 1048576 := by
  rcases allOf_cases sh seen clear with ⟨h1, _⟩ | ⟨k, h1, h2, h3, h4⟩
  · rw [h1]; simp
  · rw [h3]
    have e1 := List.length_filter_le (fun s => expl sh s seen []) (subs (cand sh clear) k)
    have e2 := subs_len (cand sh clear) k
    have e3 : 2 ^ (cand sh clear).length ≤ 2 ^ 20 := Nat.pow_le_pow_right (by decide) (by have := cand_len sh clear; omega)
    omega
end Go.Proofs.YtgfmnolghbiedaaDoor
