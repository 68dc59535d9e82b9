/-
  Walks of layer 30: rows of numbers, diagnose.candidates, slices.Clone.
-/
import Derived.Test.YtgfmnolghbiedaaDoorK2
import Derived.Maps.AppendAt
import Derived.Laws.AppendOwnNone
import Derived.Deep.AppendLies
import Derived.StillTailTactics
namespace Go.Proofs.YtgfmnolghbiedaaDoor
open Go.RowKit

theorem grown_of_below {W W' : World} (h : Below W.heap.size W W') (row : Option Nat) : W.grownBy W' row := ⟨h.os, h.tape, h.output, h.size, fun i hi _ => h.block i hi⟩
def ic (l : List Int) : List Value := l.map fun x => .int .i64 x
theorem ic_len (l : List Int) : (ic l).length = l.length := by simp [ic]
theorem ic_append (l m : List Int) : ic (l ++ m) = ic l ++ ic m := by simp [ic]
theorem ic_one (l : List Int) : ∀ u ∈ ic l, u.oneCell' = true := by simp [ic, Value.oneCell']
theorem ints_of_own {w : World} {base : Nat} {A : Option Addr} {n c : Nat} {l : List Int} (h : w.ownsRow base 3 1 (.slice A n c) n (ic l)) : Ints w w.heap.size A l := by
  have hn : l.length = n := by have := h.1; rw [ic_len] at this; omega
  refine ⟨fun k hk => ?_⟩
  obtain ⟨g, cap, hv, _, hlt⟩ := h.form (by omega)
  have hA : A = some ⟨g, 0, none⟩ := by injection hv
  subst hA
  have c1 := h.cells (g := g) rfl k (.int .i64 l[k]) (by simp [ic])
  refine ⟨g, 0, rfl, hlt, ?_⟩
  rw [← c1]
  unfold Addr.add
  split
  · rename_i h0; rw [h0]
  · rfl
theorem Tryd.infoInt : (Tryd.prog.info? 3).map (fun i => (i.zero, i.size, i.bytes)) = some (some (.int .i64 0), 1, 8) := by kernel_rfl
theorem ret_slice {A : Option Addr} {n m c : Nat} (h : n = m) : Ending.returned (.slice A n c) = Ending.returned (.slice A m c) := by rw [h]
theorem slice_form {w : World} {base size n : Nat} {e : TypeId} {v : Value} {xs : List Value} (h : w.ownsRow base e size v n xs) : ∃ A c, v = .slice A n c := by
  rcases h.2 with ⟨rfl, rfl⟩ | ⟨g, cap, _, rfl, _⟩
  · exact ⟨_, _, rfl⟩
  · exact ⟨_, _, rfl⟩
theorem own_base {w : World} {base base' size n : Nat} {e : TypeId} {v : Value} {xs : List Value} (h : w.ownsRow base e size v n xs) (hb : base' ≤ base) : w.ownsRow base' e size v n xs := by
  refine ⟨h.1, ?_⟩
  rcases h.2 with h | ⟨g, cap, cur, hv, hg, r⟩
  · exact .inl h
  · exact .inr ⟨g, cap, cur, hv, Nat.le_trans hb hg, r⟩
theorem units_succ (n : Nat) : units (n + 1) = units n ++ [(n : Int)] := by simp [units, List.range_succ]
/-- the candidates among the first units -/
def candN (sh : List (List Int)) (clear : List Int) (k : Nat) : List Int := (units k).filter fun u => expl sh [u] [] clear
theorem candN_succ (sh : List (List Int)) (clear : List Int) (k : Nat) : candN sh clear (k + 1) = if expl sh [(k : Int)] [] clear then candN sh clear k ++ [(k : Int)] else candN sh clear k := by
  rw [candN, units_succ, List.filter_append]
  by_cases h : expl sh [(k : Int)] [] clear = true
  · rw [if_pos h]; simp [candN, h]
  · rw [if_neg h]; simp [candN, h]
theorem candN_le (sh : List (List Int)) (clear : List Int) (k : Nat) : (candN sh clear k).length ≤ k := by
  have := List.length_filter_le (fun u => expl sh [u] [] clear) (units k)
  simpa [candN, units] using this
/-- a row of numbers of the call's own -/
def RowPost (w : World) (l : List Int) (e : Ending) (w' : World) : Prop :=
  ∃ A' c', e = .returned (.slice A' l.length c') ∧ w'.ownsRow w.heap.size 3 1 (.slice A' l.length c') l.length (ic l) ∧ Below w.heap.size w w'
theorem one_int (w : World) (u : Int) : Ints (w.alloc (.cells #[.int .i64 u] 3)) (w.alloc (.cells #[.int .i64 u] 3)).heap.size (some ⟨w.heap.size, 0, none⟩) [u] :=
  ⟨fun k hk => by
    simp at hk; subst hk
    exact ⟨w.heap.size, 0, rfl, by simp, by rw [World.cell?_alloc_new]; rfl⟩⟩
set_option maxRecDepth 10000 in
theorem cand_calls (n : Int) (AG : Option Addr) (cG : Nat) (sh : List (List Int)) (AC : Option Addr) (cC : Nat) (clear : List Int) (w : World)
    (hl : Lists w w.heap.size AG sh) (hn : sh.length ≤ 100) (h2 : Ints w w.heap.size AC clear) (hm2 : clear.length ≤ 9223372036854775807) :
    Calls Tryd.prog 50 #[.agg #[.int .i64 n, .slice AG sh.length cG], .slice AC clear.length cC] w (RowPost w (cand sh clear)) := by
  obtain ⟨i0, hi, hz0, hz1, hz2⟩ := info_parts Tryd.infoInt
  obtain ⟨W1, hW1⟩ : ∃ W1, w.alloc (.cells #[.int .i64 n, .slice AG sh.length cG] 35) = W1 := ⟨_, rfl⟩
  have s1 : W1.heap.size = w.heap.size + 1 := by rw [← hW1]; simp
  have hb1 : Below w.heap.size w W1 := by rw [← hW1]; exact (Below.refl _ _).alloc (Nat.le_refl _) _
  have hG1 : GBox W1 W1.heap.size w.heap.size n sh := by rw [s1, ← hW1]; exact gbox_new w n AG cG sh hl (by omega)
  have hC1 := (h2.below hb1).more hb1.size
  obtain ⟨_, _, gi0, AGi, cGi, gi1, _⟩ := hG1
  go_enter Tryd.func50, Tryd.ntmps50
  go_wp2_with fail
  have hG1 : GBox W1 W1.heap.size w.heap.size n sh := by rw [s1, ← hW1]; exact gbox_new w n AG cG sh hl (by omega)
  clear hW1 hl h2
  go_loopw [5, 6, 10] (fun v _ i wr => ∃ k : Nat, k ≤ sh.length ∧ i = .int .i64 k ∧ wr.ownsRow W1.heap.size 3 1 v (candN sh clear k).length (ic (candN sh clear k)) ∧ Below W1.heap.size W1 wr) (fun _ _ i _ => sh.length - (intOf i).toNat)
  case atStart => exact ⟨0, Nat.zero_le _, rfl, World.ownsRow_nil _ _ _ _, Below.refl _ _⟩
  case round =>
    obtain ⟨k, hk, rfl, hown, hbw⟩ := hrel
    have hG := (hG1.below hbw).more hbw.size
    have hC := bx ((hC1.below hbw).more hbw.size)
    by_cases hlt : k < sh.length
    · obtain ⟨_, l1, g0, AG', cG', gg1, hl⟩ := hG
      have hLe := candN_le sh clear k
      have Hl := bx hl
      clear hl
      obtain ⟨W2, hW2⟩ : ∃ W2, wr.alloc (.cells #[.int .i64 k] 3) = W2 := ⟨_, rfl⟩
      have hb2 : Below wr.heap.size wr W2 := by rw [← hW2]; exact (Below.refl _ _).alloc (Nat.le_refl _) _
      have hU := bx (show Ints W2 W2.heap.size (some ⟨wr.heap.size, 0, none⟩) [(k : Int)] by rw [← hW2]; exact one_int wr k)
      have ho2 := (show W2.ownsRow W1.heap.size 3 1 u5 (candN sh clear k).length (ic (candN sh clear k)) by rw [← hW2]; exact hown.alloc _)
      cases he : expl sh [(k : Int)] [] clear
      · have He := bx he
        have Hs := bx (show candN sh clear (k + 1) = candN sh clear k by rw [candN_succ, he]; rfl)
        clear he
        go_wp2_with fail
        refine (explains_calls n AG' cG' sh _ 1 [(k : Int)] none 0 [] AC cC clear W2 ((Hl.out.below hb2).more hb2.size) l1 hU.out (by simp) Ints.nil (by simp) ((hC.out.below hb2).more hb2.size) hm2 false He.out).mono ?_
        rintro e w3 ⟨rfl, hb3⟩
        have ho3 := ho2.kept (grown_of_below hb3 none) (by cases u5.ownBlock <;> simp)
        go_wp2
        go_roundw
        case rel => exact ⟨k + 1, by omega, by go_num, by rw [Hs.out]; exact ho3, hbw.trans ((hb2.trans (hb3.mono hb2.size)).mono hbw.size)⟩
        case measure => simp [intOf]; omega
      · have He := bx he
        have Hs := bx (show candN sh clear (k + 1) = candN sh clear k ++ [(k : Int)] by rw [candN_succ, he]; rfl)
        clear he
        go_wp2_with fail
        refine (explains_calls n AG' cG' sh _ 1 [(k : Int)] none 0 [] AC cC clear W2 ((Hl.out.below hb2).more hb2.size) l1 hU.out (by simp) Ints.nil (by simp) ((hC.out.below hb2).more hb2.size) hm2 true He.out).mono ?_
        rintro e w3 ⟨rfl, hb3⟩
        have ho3 := ho2.kept (grown_of_below hb3 none) (by cases u5.ownBlock <;> simp)
        have hb13 := hbw.trans ((hb2.trans (hb3.mono hb2.size)).mono hbw.size)
        have hs13 := hb13.size
        go_wp2_with (at_builtin; refine wpList_append_own _ rfl _ _ 32 rfl W1.heap.size 3 i0 (.int .i64 0) 1 8 Tryd.underlying32 hi hz0 hz1 hz2 rfl (by decide) _ _ _ rfl (ho3.alloc _) ⟨w3.heap.size, 0, none⟩ 1 1 [.int .i64 k] rfl rfl (cell_one_new _ _ _) (by simp [Value.oneCell']) (by unfold maxLen; omega) (by omega) (by simp; omega) ?_; intro v' w5 o5 g5 _)
        have hb15 : Below W1.heap.size W1 w5 := (hb13.alloc hs13 _).grown g5 (by simp; omega) (fun g hg => by
          exact (hown.lt g hg).1)
        go_roundw
        case rel => exact ⟨k + 1, by omega, by go_num, by rw [Hs.out, ic_append, List.length_append]; exact o5, hb15⟩
        case measure => simp [intOf]; omega
    · obtain rfl : k = sh.length := by omega
      obtain ⟨A', c', rfl⟩ := slice_form hown
      go_wp2
      go_ret
      exact ⟨A', c', rfl, own_base hown hb1.size, hb1.trans (hbw.mono hb1.size)⟩
end Go.Proofs.YtgfmnolghbiedaaDoor
