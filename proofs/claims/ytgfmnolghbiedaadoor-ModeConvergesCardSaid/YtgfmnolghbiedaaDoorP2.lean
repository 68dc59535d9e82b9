/-
  Walks of layer 31: modes at a level (mode.at, New, Safe, Recover, and the specification's).
-/
import Derived.Test.YtgfmnolghbiedaaDoorP1
namespace Go.Proofs.YtgfmnolghbiedaaDoor
open Go.RowKit Go.Shelf

/-- what a call that makes a mode answers: its units are the call's own -/
def ModePost (w : World) (lev bud : Int) (l : UL) (e : Ending) (w' : World) : Prop :=
  ∃ A c, e = .returned (.agg #[.int .i64 lev, .int .i64 bud, .slice A l.length c]) ∧ w'.ownsRow w.heap.size 44 2 (.slice A l.length c) l.length (uc l) ∧ From w w'
theorem at_calls (lev0 bud lev : Int) (v : Value) (l : UL) (w : World) (h : US w w.heap.size v l) (hm : l.length ≤ 8796093022208) :
    Calls Tryd.prog 34 #[.agg #[.int .i64 lev0, .int .i64 bud, v], .int .i64 lev] w (ModePost w lev bud l) := by
  obtain ⟨A, c, rfl⟩ := h.form
  have H := bx h
  clear h
  obtain ⟨W0, hW0⟩ : ∃ W0, (w.alloc (.cells #[.int .i64 lev0, .int .i64 bud, .slice A l.length c] 24)).alloc (.cells #[.int .i64 0, .int .i64 0, .slice none 0 0] 24) = W0 := ⟨_, rfl⟩
  have hF0 : From w W0 := by rw [← hW0]; exact From.alloc (From.alloc (Below.refl _ _) _) _
  have s0 : W0.heap.size = w.heap.size + 2 := by rw [← hW0]; simp
  have e0 : W0.heap[w.heap.size]? = some (.cells #[.int .i64 lev0, .int .i64 bud, .slice A l.length c] 24 (0, 0)) := by rw [← hW0]; exact (Below.heap_alloc _ _ _ (by simp)).trans (heap_alloc_new w _)
  have e1 : W0.heap[w.heap.size + 1]? = some (.cells #[.int .i64 0, .int .i64 0, .slice none 0 0] 24 (0, 0)) := by rw [← hW0]; have := heap_alloc_new (w.alloc (.cells #[.int .i64 lev0, .int .i64 bud, .slice A l.length c] 24)) (.cells #[.int .i64 0, .int .i64 0, .slice none 0 0] 24); rwa [World.size_alloc] at this
  have q2 : W0.cell? ⟨w.heap.size, 2, none⟩ = some (.slice A l.length c) := by rw [cell_of_row _ _ _ _ _ _ e0]; rfl
  have E0 := bx e0
  have E1 := bx e1
  clear e0 e1
  go_enter Tryd.func34, Tryd.ntmps34
  go_wp2_with fail
  refine (cloneU_calls (.slice A l.length c) l W0 (H.out.from hF0) hm).mono ?_
  rintro e w3 ⟨A3, c3, rfl, o3, hx⟩
  have hb3 : From W0 w3 := hx
  have E03 := bx ((hb3.block w.heap.size (by omega)).trans E0.out)
  have E13 := bx ((hb3.block (w.heap.size + 1) (by omega)).trans E1.out)
  have p0 : w3.cell? ⟨w.heap.size, 0, none⟩ = some (.int .i64 lev0) := by rw [cell_of_row _ _ _ _ _ _ E03.out]; rfl
  have p1 : w3.cell? ⟨w.heap.size, 1, none⟩ = some (.int .i64 bud) := by rw [cell_of_row _ _ _ _ _ _ E03.out]; rfl
  have p2 : w3.cell? ⟨w.heap.size, 2, none⟩ = some (.slice A l.length c) := by rw [cell_of_row _ _ _ _ _ _ E03.out]; rfl
  have f0 : w3.frozen? ⟨w.heap.size, 0, none⟩ = false := by simp [World.frozen?, E03.out]
  have f2 : w3.frozen? ⟨w.heap.size, 2, none⟩ = false := by simp [World.frozen?, E03.out]
  have r0 : w3.cell? ⟨w.heap.size + 1, 0, none⟩ = some (.int .i64 0) := by rw [cell_of_row _ _ _ _ _ _ E13.out]; rfl
  have r1 : w3.cell? ⟨w.heap.size + 1, 1, none⟩ = some (.int .i64 0) := by rw [cell_of_row _ _ _ _ _ _ E13.out]; rfl
  have r2 : w3.cell? ⟨w.heap.size + 1, 2, none⟩ = some (.slice none 0 0) := by rw [cell_of_row _ _ _ _ _ _ E13.out]; rfl
  have t0 : w3.frozen? ⟨w.heap.size + 1, 0, none⟩ = false := by simp [World.frozen?, E13.out]
  have t1 : w3.frozen? ⟨w.heap.size + 1, 1, none⟩ = false := by simp [World.frozen?, E13.out]
  have t2 : w3.frozen? ⟨w.heap.size + 1, 2, none⟩ = false := by simp [World.frozen?, E13.out]
  clear q2 hx hW0
  go_wp2
  refine bodyPost_ret (v := .agg #[.int .i64 lev, .int .i64 bud, .slice A3 l.length c3]) (by simp [results, Tryd.results34, go_sem, r0, r1, r2]) rfl ⟨A3, c3, rfl, ?_, ?_⟩
  · exact own_base (own_setCell (own_setCell (own_setCell (own_setCell (own_setCell o3 (by show w.heap.size < _; omega) _) (by show w.heap.size < _; omega) _) (by show w.heap.size + 1 < _; omega) _) (by show w.heap.size + 1 < _; omega) _) (by show w.heap.size + 1 < _; omega) _) (by omega)
  · exact (((((hF0.trans hb3).setCell (p := ⟨w.heap.size, 0, none⟩) (Nat.le_refl _) _).setCell (p := ⟨w.heap.size, 2, none⟩) (Nat.le_refl _) _).setCell (p := ⟨w.heap.size + 1, 0, none⟩) (Nat.le_succ _) _).setCell (p := ⟨w.heap.size + 1, 1, none⟩) (Nat.le_succ _) _).setCell (p := ⟨w.heap.size + 1, 2, none⟩) (Nat.le_succ _) _
/-- a result cell of type Mode at block r, written over -/
structure RCell (W : World) (r : Nat) : Prop where
  out : W.heap[r]? = some (.cells #[.int .i64 0, .int .i64 0, .slice none 0 0] 24 (0, 0))
theorem RCell.from {W W' : World} {r : Nat} (h : RCell W r) (hb : From W W') : RCell W' r := ⟨(hb.block r (Array.getElem?_eq_some_iff.1 h.out).1).trans h.out⟩
theorem RCell.facts {W : World} {r : Nat} (h : RCell W r) : W.cell? ⟨r, 0, none⟩ = some (.int .i64 0) ∧ W.cell? ⟨r, 1, none⟩ = some (.int .i64 0) ∧ W.cell? ⟨r, 2, none⟩ = some (.slice none 0 0) ∧ W.frozen? ⟨r, 0, none⟩ = false ∧ W.frozen? ⟨r, 1, none⟩ = false ∧ W.frozen? ⟨r, 2, none⟩ = false := by
  have e := h.out
  exact ⟨by rw [cell_of_row _ _ _ _ _ _ e]; rfl, by rw [cell_of_row _ _ _ _ _ _ e]; rfl, by rw [cell_of_row _ _ _ _ _ _ e]; rfl, by simp [World.frozen?, e], by simp [World.frozen?, e], by simp [World.frozen?, e]⟩
theorem rcell_new (w : World) : RCell (w.alloc (.cells #[.int .i64 0, .int .i64 0, .slice none 0 0] 24)) w.heap.size := ⟨heap_alloc_new w _⟩
theorem set3_own {w : World} {base r size n : Nat} {e : TypeId} {v : Value} {xs : List Value} (h : w.ownsRow base e size v n xs) (hr : r < base) (x y z : Value) :
    (((w.setCell ⟨r, 0, none⟩ x).setCell ⟨r, 1, none⟩ y).setCell ⟨r, 2, none⟩ z).ownsRow base e size v n xs := own_setCell (own_setCell (own_setCell h hr _) hr _) hr _
theorem set3_from {w w' : World} {r : Nat} (h : From w w') (hr : w.heap.size ≤ r) (x y z : Value) : From w (((w'.setCell ⟨r, 0, none⟩ x).setCell ⟨r, 1, none⟩ y).setCell ⟨r, 2, none⟩ z) :=
  ((h.setCell (p := ⟨r, 0, none⟩) hr _).setCell (p := ⟨r, 1, none⟩) hr _).setCell (p := ⟨r, 2, none⟩) hr _
/-- a mode boxed at block r -/
structure MCell (W : World) (r : Nat) (lev bud : Int) (A : Option Addr) (n c : Nat) : Prop where
  out : W.heap[r]? = some (.cells #[.int .i64 lev, .int .i64 bud, .slice A n c] 24 (0, 0))
theorem MCell.from {W W' : World} {r : Nat} {lev bud : Int} {A : Option Addr} {n c : Nat} (h : MCell W r lev bud A n c) (hb : From W W') : MCell W' r lev bud A n c := ⟨(hb.block r (Array.getElem?_eq_some_iff.1 h.out).1).trans h.out⟩
theorem MCell.facts {W : World} {r : Nat} {lev bud : Int} {A : Option Addr} {n c : Nat} (h : MCell W r lev bud A n c) : W.cell? ⟨r, 0, none⟩ = some (.int .i64 lev) ∧ W.cell? ⟨r, 1, none⟩ = some (.int .i64 bud) ∧ W.cell? ⟨r, 2, none⟩ = some (.slice A n c) := by
  have e := h.out
  exact ⟨by rw [cell_of_row _ _ _ _ _ _ e]; rfl, by rw [cell_of_row _ _ _ _ _ _ e]; rfl, by rw [cell_of_row _ _ _ _ _ _ e]; rfl⟩
theorem mcell_new (w : World) (lev bud : Int) (A : Option Addr) (n c : Nat) : MCell (w.alloc (.cells #[.int .i64 lev, .int .i64 bud, .slice A n c] 24)) w.heap.size lev bud A n c := ⟨heap_alloc_new w _⟩
theorem new_calls (bud : Int) (v : Value) (l : UL) (w : World) (h : US w w.heap.size v l) (hm : l.length ≤ 8796093022208) :
    Calls Tryd.prog 11 #[v, .int .i64 bud] w (ModePost w 0 bud l) := by
  obtain ⟨A, c, rfl⟩ := h.form
  have H := bx h
  clear h
  obtain ⟨W0, hW0⟩ : ∃ W0, w.alloc (.cells #[.int .i64 0, .int .i64 0, .slice none 0 0] 24) = W0 := ⟨_, rfl⟩
  have hF0 : From w W0 := by rw [← hW0]; exact From.alloc (Below.refl _ _) _
  have s0 : W0.heap.size = w.heap.size + 1 := by rw [← hW0]; simp
  have HR := bx (show RCell W0 w.heap.size by rw [← hW0]; exact rcell_new w)
  go_enter Tryd.func11, Tryd.ntmps11
  go_wp2_with fail
  refine (at_calls 0 bud 0 (.slice A l.length c) l W0 (H.out.from hF0) hm).mono ?_
  rintro e w3 ⟨A3, c3, rfl, o3, hx⟩
  have hb3 : From W0 w3 := hx
  have HR3 := bx (HR.out.from hb3)
  clear hx hW0
  obtain ⟨r0, r1, r2, t0, t1, t2⟩ := HR3.out.facts
  go_wp2
  refine bodyPost_ret (v := .agg #[.int .i64 0, .int .i64 bud, .slice A3 l.length c3]) (by simp [results, Tryd.results11, go_sem, r0, r1, r2]) rfl ⟨A3, c3, rfl, ?_, ?_⟩
  · exact own_base (set3_own o3 (by omega) _ _ _) (by omega)
  · exact set3_from (hF0.trans hb3) (by omega) _ _ _
theorem refNew_calls (bud : Int) (v : Value) (l : UL) (w : World) (h : US w w.heap.size v l) (hm : l.length ≤ 8796093022208) :
    Calls Tryd.prog 15 #[v, .int .i64 bud] w (ModePost w 0 bud l) := by
  obtain ⟨A, c, rfl⟩ := h.form
  have H := bx h
  clear h
  obtain ⟨W0, hW0⟩ : ∃ W0, w.alloc (.cells #[.int .i64 0, .int .i64 0, .slice none 0 0] 24) = W0 := ⟨_, rfl⟩
  have hF0 : From w W0 := by rw [← hW0]; exact From.alloc (Below.refl _ _) _
  have s0 : W0.heap.size = w.heap.size + 1 := by rw [← hW0]; simp
  have HR := bx (show RCell W0 w.heap.size by rw [← hW0]; exact rcell_new w)
  go_enter Tryd.func15, Tryd.ntmps15
  go_wp2_with fail
  refine (copied_calls (.slice A l.length c) l W0 (H.out.from hF0) hm).mono ?_
  rintro e w3 ⟨A3, c3, rfl, o3, hx⟩
  have hb3 : From W0 w3 := hx
  have HR3 := bx (HR.out.from hb3)
  clear hx hW0
  obtain ⟨r0, r1, r2, t0, t1, t2⟩ := HR3.out.facts
  go_wp2
  refine bodyPost_ret (v := .agg #[.int .i64 0, .int .i64 bud, .slice A3 l.length c3]) (by simp [results, Tryd.results15, go_sem, r0, r1, r2]) rfl ⟨A3, c3, rfl, ?_, ?_⟩
  · exact own_base (set3_own o3 (by omega) _ _ _) (by omega)
  · exact set3_from (hF0.trans hb3) (by omega) _ _ _
theorem safe_calls (lev bud : Int) (v : Value) (l : UL) (w : World) (h : US w w.heap.size v l) (hm : l.length ≤ 8796093022208) :
    Calls Tryd.prog 30 #[.agg #[.int .i64 lev, .int .i64 bud, v]] w (ModePost w 2 bud l) := by
  obtain ⟨A, c, rfl⟩ := h.form
  have H := bx h
  clear h
  obtain ⟨W0, hW0⟩ : ∃ W0, (w.alloc (.cells #[.int .i64 lev, .int .i64 bud, .slice A l.length c] 24)).alloc (.cells #[.int .i64 0, .int .i64 0, .slice none 0 0] 24) = W0 := ⟨_, rfl⟩
  have hF1 : From (w.alloc (.cells #[.int .i64 lev, .int .i64 bud, .slice A l.length c] 24)) W0 := by rw [← hW0]; exact From.alloc (Below.refl _ _) _
  have hF0 : From w W0 := From.trans (From.alloc (Below.refl _ _) _) hF1
  have s0 : W0.heap.size = w.heap.size + 2 := by rw [← hW0]; simp
  have HR := bx (show RCell W0 (w.heap.size + 1) by have := rcell_new (w.alloc (.cells #[.int .i64 lev, .int .i64 bud, .slice A l.length c] 24)); rw [hW0, World.size_alloc] at this; exact this)
  obtain ⟨q0, q1, q2⟩ := ((mcell_new w lev bud A l.length c).from hF1).facts
  clear hF1
  go_enter Tryd.func30, Tryd.ntmps30
  go_wp2_with fail
  refine (at_calls lev bud 2 (.slice A l.length c) l W0 (H.out.from hF0) hm).mono ?_
  rintro e w3 ⟨A3, c3, rfl, o3, hx⟩
  have hb3 : From W0 w3 := hx
  have HR3 := bx (HR.out.from hb3)
  clear hx hW0 q0 q1 q2
  obtain ⟨r0, r1, r2, t0, t1, t2⟩ := HR3.out.facts
  go_wp2
  refine bodyPost_ret (v := .agg #[.int .i64 2, .int .i64 bud, .slice A3 l.length c3]) (by simp [results, Tryd.results30, go_sem, r0, r1, r2]) rfl ⟨A3, c3, rfl, ?_, ?_⟩
  · exact own_base (set3_own o3 (by omega) _ _ _) (by omega)
  · exact set3_from (hF0.trans hb3) (by omega) _ _ _
end Go.Proofs.YtgfmnolghbiedaaDoor
