/-
  Walks of layer 29: a monitor in a box; monitor.Step.
-/
import Derived.Test.YtlogokjjphlkkaaW2
namespace Go.Proofs.Ytlogokjjphlkkaa
open Go.RowKit Go.Shelf

/-- a monitor's value, its past at v -/
abbrev mcs (m : Mon) (v : Value) : Array Value := #[.int .i64 m.par, .int .i64 m.low, .int .i64 m.high, .int .i64 m.need, .int .i64 m.of, .int .i64 m.ev, v, .bool m.raised]
/-- a monitor in the box r -/
structure MonC (W : World) (r : Nat) (m : Mon) (v : Value) : Prop where
  out : W.heap[r]? = some (.cells (mcs m v) 71 (0, 0))
theorem MonC.from {W W' : World} {r : Nat} {m : Mon} {v : Value} (h : MonC W r m v) (hb : From W W') : MonC W' r m v := ⟨hb.heap h.out⟩
theorem MonC.new (w : World) (m : Mon) (v : Value) : MonC (w.alloc (.cells (mcs m v) 71)) w.heap.size m v := ⟨heap_alloc_new w _⟩
theorem MonC.facts {W : World} {r : Nat} {m : Mon} {v : Value} (h : MonC W r m v) :
    W.cell? ⟨r, 0, none⟩ = some (.int .i64 m.par) ∧ W.cell? ⟨r, 1, none⟩ = some (.int .i64 m.low) ∧ W.cell? ⟨r, 2, none⟩ = some (.int .i64 m.high) ∧ W.cell? ⟨r, 3, none⟩ = some (.int .i64 m.need) ∧
    W.cell? ⟨r, 4, none⟩ = some (.int .i64 m.of) ∧ W.cell? ⟨r, 5, none⟩ = some (.int .i64 m.ev) ∧ W.cell? ⟨r, 6, none⟩ = some v ∧ W.cell? ⟨r, 7, none⟩ = some (.bool m.raised) := by
  have e := h.out
  refine ⟨?_, ?_, ?_, ?_, ?_, ?_, ?_, ?_⟩ <;> (rw [cell_of_row _ _ _ _ _ _ e]; rfl)
theorem MonC.soft {W : World} {r : Nat} {m : Mon} {v : Value} (h : MonC W r m v) (i : Nat) : W.frozen? ⟨r, i, none⟩ = false := by
  have e := h.out
  simp [World.frozen?, e]
theorem MonC.lt {W : World} {r : Nat} {m : Mon} {v : Value} (h : MonC W r m v) : r < W.heap.size := (Array.getElem?_eq_some_iff.1 h.out).1
theorem MonC.off {W : World} {r b : Nat} {m : Mon} {v : Value} (h : MonC W b m v) (hr : r ≠ b) (i : Nat) (x : Value) : MonC (W.setCell ⟨r, i, none⟩ x) b m v := ⟨(heap_set_off W hr i x).trans h.out⟩
theorem MonC.past {W : World} {r : Nat} {m : Mon} {v : Value} (h : MonC W r m v) (v' : Value) (p : List Bool) : MonC (W.setCell ⟨r, 6, none⟩ v') r { m with past := p } v' := ⟨heap_set_at h.out 6 _⟩
theorem MonC.rais {W : World} {r : Nat} {m : Mon} {v : Value} (h : MonC W r m v) (b : Bool) : MonC (W.setCell ⟨r, 7, none⟩ (.bool b)) r { m with raised := b } v := ⟨heap_set_at h.out 7 _⟩
/-- all eight cells of a box written over -/
abbrev set8 (W : World) (r : Nat) (m : Mon) (v : Value) : World :=
  (((((((W.setCell ⟨r, 0, none⟩ (.int .i64 m.par)).setCell ⟨r, 1, none⟩ (.int .i64 m.low)).setCell ⟨r, 2, none⟩ (.int .i64 m.high)).setCell ⟨r, 3, none⟩ (.int .i64 m.need)).setCell ⟨r, 4, none⟩ (.int .i64 m.of)).setCell ⟨r, 5, none⟩ (.int .i64 m.ev)).setCell ⟨r, 6, none⟩ v).setCell ⟨r, 7, none⟩ (.bool m.raised)
theorem mcs_set (n m : Mon) (u v : Value) : (((((((((mcs n u).setIfInBounds 0 (.int .i64 m.par)).setIfInBounds 1 (.int .i64 m.low)).setIfInBounds 2 (.int .i64 m.high)).setIfInBounds 3 (.int .i64 m.need)).setIfInBounds 4 (.int .i64 m.of)).setIfInBounds 5 (.int .i64 m.ev)).setIfInBounds 6 v).setIfInBounds 7 (.bool m.raised)) = mcs m v := by
  simp [mcs]
theorem MonC.set8 {W : World} {r : Nat} {m n : Mon} {u v : Value} (h : MonC W r n u) : MonC (set8 W r m v) r m v := by
  have e0 := h.out
  have e1 := heap_set_at e0 0 (.int .i64 m.par)
  have e2 := heap_set_at e1 1 (.int .i64 m.low)
  have e3 := heap_set_at e2 2 (.int .i64 m.high)
  have e4 := heap_set_at e3 3 (.int .i64 m.need)
  have e5 := heap_set_at e4 4 (.int .i64 m.of)
  have e6 := heap_set_at e5 5 (.int .i64 m.ev)
  have e7 := heap_set_at e6 6 v
  have e8 := heap_set_at e7 7 (.bool m.raised)
  rw [mcs_set] at e8
  exact ⟨e8⟩
theorem MonC.off8 {W : World} {r b : Nat} {m n : Mon} {u v : Value} (h : MonC W b n u) (hr : r ≠ b) : MonC (Go.Proofs.Ytlogokjjphlkkaa.set8 W r m v) b n u :=
  (((((((h.off hr _ _).off hr _ _).off hr _ _).off hr _ _).off hr _ _).off hr _ _).off hr _ _).off hr _ _
theorem From.setCell {w w' : World} {r : Nat} (h : From w w') (hr : w.heap.size ≤ r) (i : Nat) (x : Value) : From w (w'.setCell ⟨r, i, none⟩ x) := Below.setCell h (p := ⟨r, i, none⟩) hr _
theorem From.set8 {w w' : World} {r : Nat} (h : From w w') (hr : w.heap.size ≤ r) (m : Mon) (v : Value) : From w (Go.Proofs.Ytlogokjjphlkkaa.set8 w' r m v) :=
  (((((((h.setCell hr _ _).setCell hr _ _).setCell hr _ _).setCell hr _ _).setCell hr _ _).setCell hr _ _).setCell hr _ _).setCell hr _ _
theorem SlN.set8 {lo : Nat} {w : World} {v : Value} {n : Nat} {cs : List Value} (h : SlN lo w v n cs) {r : Nat} (hr : r < lo) (m : Mon) (u : Value) : SlN lo (Go.Proofs.Ytlogokjjphlkkaa.set8 w r m u) v n cs :=
  (((((((h.setCell hr _ _).setCell hr _ _).setCell hr _ _).setCell hr _ _).setCell hr _ _).setCell hr _ _).setCell hr _ _).setCell hr _ _
/-- what Step answers -/
def StepPost (w : World) (m : Mon) (up dn : Bool) (e : Ending) (w' : World) : Prop :=
  ∃ A c, e = .returned (.tuple #[.agg (mcs m (.slice A m.past.length c)), .bool up, .bool dn]) ∧ SlN w.heap.size w' (.slice A m.past.length c) m.past.length (bc m.past) ∧ From w w'
set_option maxHeartbeats 1000000 in
theorem step_calls (m : Mon) (A : Option Addr) (c : Nat) (v : Int) (w : World) (h : Bools w (.slice A m.past.length c) m.past) (hm : m.past.length ≤ 1000) (n : Mon) (hn : stepM m v = n) (up dn : Bool) (hu : upM m v = up) (hd : dnM m v = dn) :
    Calls Try.prog 58 #[.agg (mcs m (.slice A m.past.length c)), .int .i64 v] w (StepPost w n up dn) := by
  have hf : n.past = pushP m.past m.of (outB m v) ∧ n.raised = (if up || dn then up else m.raised) ∧ Like m n := by rw [← hn, ← hu, ← hd]; exact ⟨rfl, rfl, (Like.refl m).step v⟩
  obtain ⟨q, hq⟩ : ∃ q, pushP m.past m.of (outB m v) = q := ⟨_, rfl⟩
  have hup : up = (!m.raised && decide (m.need ≤ (trues q : Int))) := by rw [← hu, ← hq]; rfl
  have hdn : dn = (m.raised && decide (trues q = 0)) := by rw [← hd, ← hq]; rfl
  rw [hq] at hf
  obtain ⟨f1, f2, f3, f4, f5, f6, f7, f8⟩ := hf
  obtain ⟨W1, hW1⟩ : ∃ V, w.alloc (.cells (mcs m (.slice A m.past.length c)) 71) = V := ⟨_, rfl⟩
  obtain ⟨W2, hW2⟩ : ∃ V, W1.alloc (.cells (mcs ⟨0, 0, 0, 0, 0, 0, [], false⟩ (.slice none 0 0)) 71) = V := ⟨_, rfl⟩
  have k1 : From w W1 := by rw [← hW1]; exact From.alloc (From.refl _) _
  have k2 : From W1 W2 := by rw [← hW2]; exact From.alloc (From.refl _) _
  have s1 : W1.heap.size = w.heap.size + 1 := by rw [← hW1]; simp
  have s2 : W2.heap.size = w.heap.size + 2 := by rw [← hW2]; simp [s1]
  have M1 : MonC W2 w.heap.size m (.slice A m.past.length c) := MonC.from (by rw [← hW1]; exact MonC.new w m _) k2
  have M2 : MonC W2 (w.heap.size + 1) ⟨0, 0, 0, 0, 0, 0, [], false⟩ (.slice none 0 0) := by rw [← hW2, ← s1]; exact MonC.new W1 _ _
  have HS := bx (seen_calls A c m.past m.of m.low m.high v W2 (h.from (k1.trans k2)) (by omega) q (by rw [← hq]; rfl))
  obtain ⟨a0, a1, a2, a3, a4, a5, a6, a7⟩ := M1.facts
  have N1 := bx M1
  have N2 := bx M2
  clear M1 M2 h hu hd hn hq
  obtain ⟨mp, ml, mh, mn, mo, me, mps, mr⟩ := m
  obtain ⟨np, nl, nh, nn, no, ne, nps, nr⟩ := n
  simp only at f1 f2 f3 f4 f5 f6 f7 f8
  subst f1 f3 f4 f5 f6 f7 f8
  simp only at *
  have F2 := bx f2
  have HUP := bx hup
  have HDN := bx hdn
  clear f2 hup hdn
  go_enter Try.func58, Try.ntmps58
  go_wp2_with fail
  refine HS.out.mono ?_
  rintro e w3 ⟨A3, C3, rfl, q3, k3⟩
  have M1 := N1.out.from k3
  have M2 := N2.out.from k3
  have HF := bx ((k1.trans k2).trans k3)
  have HQ := bx q3
  obtain ⟨a0, a1, a2, a3, a4, a5, a6, a7⟩ := M1.facts
  have a8 := M1.soft 6
  have a9 := M1.soft 7
  obtain ⟨b0, b1, b2, b3, b4, b5, b6, b7⟩ := M2.facts
  have c0 := M2.soft 0
  have c1 := M2.soft 1
  have c2 := M2.soft 2
  have c3 := M2.soft 3
  have c4 := M2.soft 4
  have c5 := M2.soft 5
  have c6 := M2.soft 6
  have c7 := M2.soft 7
  simp only at a0 a1 a2 a3 a4 a5 a6 a7 b0 b1 b2 b3 b4 b5 b6 b7
  replace N1 := bx M1
  replace N2 := bx M2
  clear M1 M2 HS hW1 hW2 q3
  generalize trues nps = tq at *
  cases mr
  · by_cases hx : nn ≤ (tq : Int)
    · have d1 : decide (nn ≤ (tq : Int)) = true := by simpa using hx
      obtain rfl : up = true := by rw [HUP.out]; simp [hx]
      obtain rfl : dn = false := by rw [HDN.out]; rfl
      obtain rfl : nr = true := F2.out
      go_wp2_with fail
      refine bodyPost_ret (v := .tuple #[.agg (mcs ⟨np, nl, nh, nn, no, ne, nps, true⟩ (.slice A3 nps.length C3)), .bool true, .bool false]) (by simp [results, Try.results58, go_sem, b0, b1, b2, b3, b4, b5, b6, b7]) rfl ⟨A3, C3, rfl, ?_, ?_⟩
      · exact SlN.low (((HQ.out.setCell (by omega) _ _).setCell (by omega) _ _).set8 (by omega) ⟨np, nl, nh, nn, no, ne, nps, true⟩ _) (by omega)
      · exact From.set8 ((HF.out.setCell (Nat.le_refl _) _ _).setCell (Nat.le_refl _) _ _) (by omega) ⟨np, nl, nh, nn, no, ne, nps, true⟩ _
    · have d1 : decide (nn ≤ (tq : Int)) = false := by simpa using hx
      obtain rfl : up = false := by rw [HUP.out]; simp [hx]
      obtain rfl : dn = false := by rw [HDN.out]; rfl
      obtain rfl : nr = false := F2.out
      go_wp2_with fail
      refine bodyPost_ret (v := .tuple #[.agg (mcs ⟨np, nl, nh, nn, no, ne, nps, false⟩ (.slice A3 nps.length C3)), .bool false, .bool false]) (by simp [results, Try.results58, go_sem, b0, b1, b2, b3, b4, b5, b6, b7]) rfl ⟨A3, C3, rfl, ?_, ?_⟩
      · exact SlN.low ((HQ.out.setCell (by omega) _ _).set8 (by omega) ⟨np, nl, nh, nn, no, ne, nps, false⟩ _) (by omega)
      · exact From.set8 (HF.out.setCell (Nat.le_refl _) _ _) (by omega) ⟨np, nl, nh, nn, no, ne, nps, false⟩ _
  · by_cases hx : tq = 0
    · have d1 : ((tq : Int) == 0) = true := by simp [hx]
      obtain rfl : up = false := by rw [HUP.out]; rfl
      obtain rfl : dn = true := by rw [HDN.out]; simp [hx]
      obtain rfl : nr = false := F2.out
      go_wp2_with fail
      refine bodyPost_ret (v := .tuple #[.agg (mcs ⟨np, nl, nh, nn, no, ne, nps, false⟩ (.slice A3 nps.length C3)), .bool false, .bool true]) (by simp [results, Try.results58, go_sem, b0, b1, b2, b3, b4, b5, b6, b7]) rfl ⟨A3, C3, rfl, ?_, ?_⟩
      · exact SlN.low (((HQ.out.setCell (by omega) _ _).setCell (by omega) _ _).set8 (by omega) ⟨np, nl, nh, nn, no, ne, nps, false⟩ _) (by omega)
      · exact From.set8 ((HF.out.setCell (Nat.le_refl _) _ _).setCell (Nat.le_refl _) _ _) (by omega) ⟨np, nl, nh, nn, no, ne, nps, false⟩ _
    · have d1 : ((tq : Int) == 0) = false := by simp [hx]
      obtain rfl : up = false := by rw [HUP.out]; rfl
      obtain rfl : dn = false := by rw [HDN.out]; simp [hx]
      obtain rfl : nr = true := F2.out
      go_wp2_with fail
      refine bodyPost_ret (v := .tuple #[.agg (mcs ⟨np, nl, nh, nn, no, ne, nps, true⟩ (.slice A3 nps.length C3)), .bool false, .bool false]) (by simp [results, Try.results58, go_sem, b0, b1, b2, b3, b4, b5, b6, b7]) rfl ⟨A3, C3, rfl, ?_, ?_⟩
      · exact SlN.low ((HQ.out.setCell (by omega) _ _).set8 (by omega) ⟨np, nl, nh, nn, no, ne, nps, true⟩ _) (by omega)
      · exact From.set8 (HF.out.setCell (Nat.le_refl _) _ _) (by omega) ⟨np, nl, nh, nn, no, ne, nps, true⟩ _
end Go.Proofs.Ytlogokjjphlkkaa
