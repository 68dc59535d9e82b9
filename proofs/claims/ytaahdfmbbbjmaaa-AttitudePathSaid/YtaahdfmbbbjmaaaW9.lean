/-
  Walks of layer 12: slices.DeleteFunc and slices.MinFunc on one or two turns.
-/
import Derived.Test.YtaahdfmbbbjmaaaW8
import Derived.LoopN
import Derived.Lib.SliceRun
namespace Go.Proofs.Ytaahdfmbbbjmaaa
open Go.RowKit Go.Shelf

theorem blk_cell {W : World} {G : Nat} {cs : Array Value} {t : TypeId} {fz : Nat × Nat} (h : W.heap[G]? = some (.cells cs t fz)) (i : Nat) (v : Value) (hv : cs[i]? = some v) : W.cell? ⟨G, i, none⟩ = some v := by
  rw [cell_of_row _ _ _ _ _ _ h]; exact hv
theorem blk_frozen {W : World} {G : Nat} {cs : Array Value} {t : TypeId} (h : W.heap[G]? = some (.cells cs t (0, 0))) (i : Nat) : W.frozen? ⟨G, i, none⟩ = false := by simp [World.frozen?, h]
theorem ints2 {W : World} {G : Nat} {x y : Int} {t : TypeId} {fz : Nat × Nat} (h : W.heap[G]? = some (.cells #[.int .i64 x, .int .i64 y] t fz)) : Ints W W.heap.size (some ⟨G, 0, none⟩) [x, y] :=
  ⟨fun k hk => by
    have hl := (Array.getElem?_eq_some_iff.1 h).1
    refine ⟨G, 0, rfl, hl, ?_⟩
    rw [Nat.zero_add]
    match k, hk with
    | 0, _ => exact blk_cell h 0 _ rfl
    | 1, _ => exact blk_cell h 1 _ rfl⟩
theorem ints1 {W : World} {G : Nat} {x : Int} {cs : Array Value} {t : TypeId} {fz : Nat × Nat} (h : W.heap[G]? = some (.cells cs t fz)) (h0 : cs[0]? = some (.int .i64 x)) : Ints W W.heap.size (some ⟨G, 0, none⟩) [x] :=
  ⟨fun k hk => by
    have hl := (Array.getElem?_eq_some_iff.1 h).1
    refine ⟨G, 0, rfl, hl, ?_⟩
    rw [Nat.zero_add]
    match k, hk with
    | 0, _ => exact blk_cell h 0 _ h0⟩
theorem clear_run {W : World} {G : Nat} {cs : Array Value} (h : W.heap[G]? = some (.cells cs 3 (0, 0))) (i n c : Nat) (hn : 0 < n) (hi : i + n ≤ cs.size) :
    (Builtin.clear_ #[54] 0 #[.slice (some ⟨G, i, none⟩) n c]).run Try.prog W = .ok (.tuple #[]) (W.setCells G i (List.replicate n (.int .i64 0))) :=
  Lib.run_clear_slice W 54 3 0 (.int .i64 0) Try.underlying54 (fun _ => by kernel_rfl) rfl rfl G i n c hn
    (fun j hj => by rw [cell_of_row _ _ _ _ _ _ h, Array.getElem?_eq_getElem (by omega)]; rfl) (fun _ _ => blk_frozen h _)
theorem grown_of_below {W W' : World} (h : Below W.heap.size W W') (row : Option Nat) : W.grownBy W' row := ⟨h.os, h.tape, h.output, h.size, fun i hi _ => h.block i hi⟩
theorem grown_set {a W : World} {G : Nat} (h : a.grownBy W (some G)) (i : Nat) (v : Value) : a.grownBy (W.setCell ⟨G, i, none⟩ v) (some G) :=
  ⟨h.os, h.tape, h.output, by simpa [World.setCell] using h.size, fun k hk hne => (Below.heap_setCell W ⟨G, i, none⟩ v k (by rintro rfl; exact hne rfl)).trans (h.block k hk hne)⟩
theorem ints0 {W : World} {B : Nat} {A : Option Addr} : Ints W B A [] := ⟨fun k hk => absurd hk (by simp)⟩
/-- what slices.DeleteFunc answers for Turn -/
def DelPost (w : World) (G : Nat) (zs : List Int) (e : Ending) (w' : World) : Prop :=
  e = .returned (.slice (some ⟨G, 0, none⟩) zs.length 2) ∧ Ints w' w'.heap.size (some ⟨G, 0, none⟩) zs ∧ w.grownBy w' (some G)
section
variable (l : ArcL) (a x y : Int) (B9 Bf Bb G : Nat) (w : World)
theorem del_tt (hG : w.heap[G]? = some (.cells #[.int .i64 x, .int .i64 y] 3 (0, 0))) (hd1 : -360 ≤ x ∧ x ≤ 360) (hd2 : -360 ≤ y ∧ y ≤ 360) (h : TurnEnv w w.heap.size l a B9 Bf Bb) (hx : fr l a x = true) (hy : fr l a y = true) :
    Calls Try.prog 37 #[.slice (some ⟨G, 0, none⟩) 2 2, .func (.func 38) #[] #[.pointer (some ⟨B9, 0, none⟩)]] w (DelPost w G [x, y]) := by
  have HX := bx hx
  clear hx
  have HY := bx hy
  clear hy
  have hI : Ints w w.heap.size (some ⟨G, 0, none⟩) [x, y] := ints2 hG
  have hi := bx (show idxOf (fun d => !fr l a d) [x, y] = -1 by simp [idxOf, HX.out, HY.out])
  have hGl := (Array.getElem?_eq_some_iff.1 hG).1
  go_enter Try.func37, Try.ntmps37
  go_wp2_with fail
  refine (indexFunc_turn _ 2 [x, y] l a B9 Bf Bb w hI (by simp) (by simp; omega) h).mono ?_
  rintro e w1 ⟨rfl, hb1⟩
  rw [hi.out]
  have hG1 := bx ((hb1.block G hGl).trans hG)
  go_wp2
  go_ret
  exact ⟨rfl, ints2 hG1.out, grown_of_below hb1 _⟩
theorem del_t (hG : w.heap[G]? = some (.cells #[.int .i64 x, .int .i64 y] 3 (0, 0))) (hd1 : -360 ≤ x ∧ x ≤ 360) (h : TurnEnv w w.heap.size l a B9 Bf Bb) (hx : fr l a x = true)  :
    Calls Try.prog 37 #[.slice (some ⟨G, 0, none⟩) 1 2, .func (.func 38) #[] #[.pointer (some ⟨B9, 0, none⟩)]] w (DelPost w G [x]) := by
  have HX := bx hx
  clear hx
  have hI : Ints w w.heap.size (some ⟨G, 0, none⟩) [x] := ints1 hG rfl
  have hi := bx (show idxOf (fun d => !fr l a d) [x] = -1 by simp [idxOf, HX.out])
  have hGl := (Array.getElem?_eq_some_iff.1 hG).1
  go_enter Try.func37, Try.ntmps37
  go_wp2_with fail
  refine (indexFunc_turn _ 2 [x] l a B9 Bf Bb w hI (by simp) (by simp; omega) h).mono ?_
  rintro e w1 ⟨rfl, hb1⟩
  rw [hi.out]
  have hG1 := bx ((hb1.block G hGl).trans hG)
  go_wp2
  go_ret
  exact ⟨rfl, ints1 hG1.out rfl, grown_of_below hb1 _⟩
theorem del_tf (hG : w.heap[G]? = some (.cells #[.int .i64 x, .int .i64 y] 3 (0, 0))) (hd1 : -360 ≤ x ∧ x ≤ 360) (hd2 : -360 ≤ y ∧ y ≤ 360) (h : TurnEnv w w.heap.size l a B9 Bf Bb) (hx : fr l a x = true) (hy : fr l a y = false) :
    Calls Try.prog 37 #[.slice (some ⟨G, 0, none⟩) 2 2, .func (.func 38) #[] #[.pointer (some ⟨B9, 0, none⟩)]] w (DelPost w G [x]) := by
  have HX := bx hx
  clear hx
  have HY := bx hy
  clear hy
  have hI : Ints w w.heap.size (some ⟨G, 0, none⟩) [x, y] := ints2 hG
  have hi := bx (show idxOf (fun d => !fr l a d) [x, y] = 1 by simp [idxOf, HX.out, HY.out, List.findIdx_cons])
  have hGl := (Array.getElem?_eq_some_iff.1 hG).1
  go_enter Try.func37, Try.ntmps37
  go_wp2_with fail
  refine (indexFunc_turn _ 2 [x, y] l a B9 Bf Bb w hI (by simp) (by simp; omega) h).mono ?_
  rintro e w1 ⟨rfl, hb1⟩
  rw [hi.out]
  have hG1 := bx ((hb1.block G hGl).trans hG)
  have hcl := clear_run hG1.out 1 1 1 (by omega) (by simp)
  simp only [List.replicate, World.setCells] at hcl
  go_wp2_with fail
  refine wp_loop_rounds 1 ?_
  rw [rounds_succ]
  go_wp2
  go_ret
  exact ⟨rfl, ints1 (heap_set hG1.out) rfl, grown_set (grown_of_below hb1 _) _ _⟩
theorem del_f (hG : w.heap[G]? = some (.cells #[.int .i64 x, .int .i64 y] 3 (0, 0))) (hd1 : -360 ≤ x ∧ x ≤ 360) (h : TurnEnv w w.heap.size l a B9 Bf Bb) (hx : fr l a x = false)  :
    Calls Try.prog 37 #[.slice (some ⟨G, 0, none⟩) 1 2, .func (.func 38) #[] #[.pointer (some ⟨B9, 0, none⟩)]] w (DelPost w G ([] : List Int)) := by
  have HX := bx hx
  clear hx
  have hI : Ints w w.heap.size (some ⟨G, 0, none⟩) [x] := ints1 hG rfl
  have hi := bx (show idxOf (fun d => !fr l a d) [x] = 0 by simp [idxOf, HX.out, List.findIdx_cons])
  have hGl := (Array.getElem?_eq_some_iff.1 hG).1
  go_enter Try.func37, Try.ntmps37
  go_wp2_with fail
  refine (indexFunc_turn _ 2 [x] l a B9 Bf Bb w hI (by simp) (by simp; omega) h).mono ?_
  rintro e w1 ⟨rfl, hb1⟩
  rw [hi.out]
  have hG1 := bx ((hb1.block G hGl).trans hG)
  have hcl := clear_run hG1.out 0 1 2 (by omega) (by simp)
  simp only [List.replicate, World.setCells] at hcl
  go_wp2_with fail
  refine wp_loop_rounds 1 ?_
  rw [rounds_succ]
  go_wp2
  go_ret
  exact ⟨rfl, ints0, grown_set (grown_of_below hb1 _) _ _⟩
theorem del_ft (hG : w.heap[G]? = some (.cells #[.int .i64 x, .int .i64 y] 3 (0, 0))) (hd1 : -360 ≤ x ∧ x ≤ 360) (hd2 : -360 ≤ y ∧ y ≤ 360) (h : TurnEnv w w.heap.size l a B9 Bf Bb) (hx : fr l a x = false) (hy : fr l a y = true) :
    Calls Try.prog 37 #[.slice (some ⟨G, 0, none⟩) 2 2, .func (.func 38) #[] #[.pointer (some ⟨B9, 0, none⟩)]] w (DelPost w G [y]) := by
  have HX := bx hx
  clear hx
  have HY := bx hy
  clear hy
  have hI : Ints w w.heap.size (some ⟨G, 0, none⟩) [x, y] := ints2 hG
  have hi := bx (show idxOf (fun d => !fr l a d) [x, y] = 0 by simp [idxOf, HX.out, HY.out, List.findIdx_cons])
  have hGl := (Array.getElem?_eq_some_iff.1 hG).1
  go_enter Try.func37, Try.ntmps37
  go_wp2_with fail
  refine (indexFunc_turn _ 2 [x, y] l a B9 Bf Bb w hI (by simp) (by simp; omega) h).mono ?_
  rintro e w1 ⟨rfl, hb1⟩
  rw [hi.out]
  have hG1 := bx ((hb1.block G hGl).trans hG)
  have h1 := bx ((h.below hb1).more hb1.size)
  have c1 : w1.cell? ⟨G, 1, none⟩ = some (.int .i64 y) := blk_cell hG1.out 1 _ rfl
  go_wp2_with fail
  refine wp_loop_rounds 2 ?_
  rw [rounds_succ]
  go_wp2_with fail
  refine (turn2 _ _ _ _ _ _ _ h1.out (by omega) (by omega)).mono ?_
  rintro e w2 ⟨rfl, hb2⟩
  rw [HY.out]
  have hG2 := bx ((hb2.block G (Nat.lt_of_lt_of_le hGl hb1.size)).trans hG1.out)
  have hb12 := hb1.trans (hb2.mono hb1.size)
  have c20 : w2.cell? ⟨G, 0, none⟩ = some (.int .i64 x) := blk_cell hG2.out 0 _ rfl
  have z20 := blk_frozen hG2.out 0
  have hcl := clear_run (heap_set (i := 0) (v := .int .i64 y) hG2.out) 1 1 1 (by omega) (by simp)
  simp only [List.replicate, World.setCells] at hcl
  go_wp2
  rw [rounds_succ]
  go_wp2
  go_ret
  exact ⟨rfl, ints1 (heap_set (heap_set hG2.out)) rfl, grown_set (grown_set (grown_of_below hb12 _) _ _) _ _⟩
theorem del_ff (hG : w.heap[G]? = some (.cells #[.int .i64 x, .int .i64 y] 3 (0, 0))) (hd1 : -360 ≤ x ∧ x ≤ 360) (hd2 : -360 ≤ y ∧ y ≤ 360) (h : TurnEnv w w.heap.size l a B9 Bf Bb) (hx : fr l a x = false) (hy : fr l a y = false) :
    Calls Try.prog 37 #[.slice (some ⟨G, 0, none⟩) 2 2, .func (.func 38) #[] #[.pointer (some ⟨B9, 0, none⟩)]] w (DelPost w G ([] : List Int)) := by
  have HX := bx hx
  clear hx
  have HY := bx hy
  clear hy
  have hI : Ints w w.heap.size (some ⟨G, 0, none⟩) [x, y] := ints2 hG
  have hi := bx (show idxOf (fun d => !fr l a d) [x, y] = 0 by simp [idxOf, HX.out, HY.out, List.findIdx_cons])
  have hGl := (Array.getElem?_eq_some_iff.1 hG).1
  go_enter Try.func37, Try.ntmps37
  go_wp2_with fail
  refine (indexFunc_turn _ 2 [x, y] l a B9 Bf Bb w hI (by simp) (by simp; omega) h).mono ?_
  rintro e w1 ⟨rfl, hb1⟩
  rw [hi.out]
  have hG1 := bx ((hb1.block G hGl).trans hG)
  have h1 := bx ((h.below hb1).more hb1.size)
  have c1 : w1.cell? ⟨G, 1, none⟩ = some (.int .i64 y) := blk_cell hG1.out 1 _ rfl
  go_wp2_with fail
  refine wp_loop_rounds 2 ?_
  rw [rounds_succ]
  go_wp2_with fail
  refine (turn2 _ _ _ _ _ _ _ h1.out (by omega) (by omega)).mono ?_
  rintro e w2 ⟨rfl, hb2⟩
  rw [HY.out]
  have hG2 := bx ((hb2.block G (Nat.lt_of_lt_of_le hGl hb1.size)).trans hG1.out)
  have hb12 := hb1.trans (hb2.mono hb1.size)
  have c20 : w2.cell? ⟨G, 0, none⟩ = some (.int .i64 x) := blk_cell hG2.out 0 _ rfl
  have z20 := blk_frozen hG2.out 0
  have hcl := clear_run hG2.out 0 2 2 (by omega) (by simp)
  simp only [List.replicate, World.setCells] at hcl
  go_wp2
  rw [rounds_succ]
  go_wp2
  go_ret
  exact ⟨rfl, ints0, grown_set (grown_set (grown_of_below hb12 _) _ _) _ _⟩
end
end Go.Proofs.Ytaahdfmbbbjmaaa
