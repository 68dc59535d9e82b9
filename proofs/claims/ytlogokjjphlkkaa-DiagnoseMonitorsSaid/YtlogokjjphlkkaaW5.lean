/-
  Walks of layer 29: perigeeref29.Make.
-/
import Derived.Test.YtlogokjjphlkkaaW4
namespace Go.Proofs.Ytlogokjjphlkkaa
open Go.RowKit Go.Shelf

def makeM (l : List Int) : Mon := ⟨pickI l 0 6, pickI l 1 21 - 10, pickI l 1 21 - 10 + pickI l 2 20, 1 + pickI l 4 (1 + pickI l 3 16), 1 + pickI l 3 16, pickI l 5 100, [], false⟩
/-- what is valid -/
structure GoodM (m : Mon) : Prop where
  par : 0 ≤ m.par ∧ m.par < 6
  low : -10 ≤ m.low ∧ m.low ≤ 10
  high : m.low ≤ m.high ∧ m.high ≤ 30
  need : 1 ≤ m.need ∧ m.need ≤ m.of
  of : 1 ≤ m.of ∧ m.of ≤ 16
  ev : 0 ≤ m.ev ∧ m.ev < 100
theorem makeM_good (l : List Int) : GoodM (makeM l) := by
  have h0 := pick_bd l 0 6 (by decide)
  have h1 := pick_bd l 1 21 (by decide)
  have h2 := pick_bd l 2 20 (by decide)
  have h3 := pick_bd l 3 16 (by decide)
  have h4 := pick_bd l 4 (1 + pickI l 3 16) (by omega)
  have h5 := pick_bd l 5 100 (by decide)
  constructor <;> simp only [makeM] <;> omega
/-- what Make answers -/
def MakePost (w : World) (m : Mon) (e : Ending) (w' : World) : Prop := e = .returned (.agg (mcs m (.slice none 0 0))) ∧ From w w'
set_option maxHeartbeats 1000000 in
theorem makeM_calls (A : Option Addr) (c : Nat) (l : List Int) (w : World) (h : Ints w (.slice A l.length c) l) (hx : ∀ x ∈ l, -9223372036854775808 ≤ x ∧ x ≤ 9223372036854775807) (m : Mon) (hm : makeM l = m) :
    Calls Try.prog 56 #[.slice A l.length c] w (MakePost w m) := by
  have h0 := pick_bd l 0 6 (by decide)
  have h1 := pick_bd l 1 21 (by decide)
  have h2 := pick_bd l 2 20 (by decide)
  have h3 := pick_bd l 3 16 (by decide)
  have h4 := pick_bd l 4 (1 + pickI l 3 16) (by omega)
  have h5 := pick_bd l 5 100 (by decide)
  have P0 := bx (fun (W : World) (k : From w W) (y : Int) (hy : pickI l 0 6 = y) => pick_calls A c l 0 6 W (h.from k) hx (by decide) (by decide) y hy)
  have P1 := bx (fun (W : World) (k : From w W) (y : Int) (hy : pickI l 1 21 = y) => pick_calls A c l 1 21 W (h.from k) hx (by decide) (by decide) y hy)
  have P2 := bx (fun (W : World) (k : From w W) (y : Int) (hy : pickI l 2 20 = y) => pick_calls A c l 2 20 W (h.from k) hx (by decide) (by decide) y hy)
  have P3 := bx (fun (W : World) (k : From w W) (y : Int) (hy : pickI l 3 16 = y) => pick_calls A c l 3 16 W (h.from k) hx (by decide) (by decide) y hy)
  have P4 := bx (fun (W : World) (k : From w W) (z y : Int) (hz : 1 + pickI l 3 16 = z) (hy : pickI l 4 z = y) => pick_calls A c l 4 z W (h.from k) hx (by omega) (by omega) y hy)
  have P5 := bx (fun (W : World) (k : From w W) (y : Int) (hy : pickI l 5 100 = y) => pick_calls A c l 5 100 W (h.from k) hx (by decide) (by decide) y hy)
  rw [makeM] at hm
  obtain ⟨y0, e0⟩ : ∃ y, pickI l 0 6 = y := ⟨_, rfl⟩
  obtain ⟨y1, e1⟩ : ∃ y, pickI l 1 21 = y := ⟨_, rfl⟩
  obtain ⟨y2, e2⟩ : ∃ y, pickI l 2 20 = y := ⟨_, rfl⟩
  obtain ⟨y3, e3⟩ : ∃ y, pickI l 3 16 = y := ⟨_, rfl⟩
  obtain ⟨y4, e4⟩ : ∃ y, pickI l 4 (1 + pickI l 3 16) = y := ⟨_, rfl⟩
  obtain ⟨y5, e5⟩ : ∃ y, pickI l 5 100 = y := ⟨_, rfl⟩
  rw [e3] at e4 h4
  rw [e0, e1, e2, e3, e4, e5] at hm
  rw [e0] at h0
  rw [e1] at h1
  rw [e2] at h2
  rw [e3] at h3
  rw [e4] at h4
  rw [e5] at h5
  have E0 := bx e0
  have E1 := bx e1
  have E2 := bx e2
  have E3 := bx e3
  have E4 := bx e4
  have E5 := bx e5
  have HM := bx hm
  clear h hx e0 e1 e2 e3 e4 e5 hm
  have w1 : IntKind.i64.wrap (y1 - 10) = y1 - 10 := IntWalk.i64_in _ (by omega)
  have w2 : IntKind.i64.wrap (1 + y3) = 1 + y3 := IntWalk.i64_in _ (by omega)
  have w3 : IntKind.i64.wrap (y1 - 10 + y2) = y1 - 10 + y2 := IntWalk.i64_in _ (by omega)
  have w4 : IntKind.i64.wrap (1 + y4) = 1 + y4 := IntWalk.i64_in _ (by omega)
  obtain ⟨W1, hW1⟩ : ∃ V, w.alloc (.cells (mcs ⟨0, 0, 0, 0, 0, 0, [], false⟩ (.slice none 0 0)) 71) = V := ⟨_, rfl⟩
  have k1 : From w W1 := by rw [← hW1]; exact From.alloc (From.refl _) _
  go_enter Try.func56, Try.ntmps56
  go_wp2_with fail
  refine (P0.out _ k1 y0 E0.out).mono ?_
  rintro e V ⟨rfl, rfl⟩
  go_wp2_with fail
  refine (P1.out _ k1 y1 E1.out).mono ?_
  rintro e V ⟨rfl, rfl⟩
  go_wp2_with fail
  refine (P3.out _ k1 y3 E3.out).mono ?_
  rintro e V ⟨rfl, rfl⟩
  go_wp2_with fail
  refine (P5.out _ k1 y5 E5.out).mono ?_
  rintro e V ⟨rfl, rfl⟩
  have s1 : V.heap.size = w.heap.size + 1 := by rw [← hW1]; simp
  have M0 := bx (show MonC V w.heap.size ⟨0, 0, 0, 0, 0, 0, [], false⟩ (.slice none 0 0) by rw [← hW1]; exact MonC.new w _ _)
  clear hW1
  go_wp2_with fail
  obtain ⟨V2, hV2⟩ : ∃ X, V.alloc (.cells (mcs ⟨y0, y1 - 10, 0, 0, 1 + y3, y5, [], false⟩ (.slice none 0 0)) 71) = X := ⟨_, rfl⟩
  have k2 : From V V2 := by rw [← hV2]; exact From.alloc (From.refl _) _
  have M1 := bx (show MonC V2 (w.heap.size + 1) ⟨y0, y1 - 10, 0, 0, 1 + y3, y5, [], false⟩ (.slice none 0 0) by rw [← hV2, ← s1]; exact MonC.new V _ _)
  replace M0 := bx (M0.out.from k2)
  have kk := k1.trans k2
  rw [hV2]
  clear k2
  obtain ⟨a0, a1, a2, a3, a4, a5, a6, a7⟩ := M1.out.facts
  have fr := M1.out.soft 2
  simp only at a0 a1 a2 a3 a4 a5 a6 a7
  clear hV2
  go_region_with (go_at_call 94; refine (P2.out _ (by first | exact kk | exact kk.drew) y2 E2.out).mono ?_; rintro e V3 ⟨rfl, rfl⟩)
  all_goals
    have M2 : MonC (V2.setCell ⟨w.heap.size + 1, 2, none⟩ (.int .i64 (y1 - 10 + y2))).drew (w.heap.size + 1) ⟨y0, y1 - 10, y1 - 10 + y2, 0, 1 + y3, y5, [], false⟩ (.slice none 0 0) := MonC.from ⟨heap_set_at M1.out.out 2 _⟩ (From.drew (From.refl _))
    have M3 : MonC (V2.setCell ⟨w.heap.size + 1, 2, none⟩ (.int .i64 (y1 - 10 + y2))).drew w.heap.size ⟨0, 0, 0, 0, 0, 0, [], false⟩ (.slice none 0 0) := (M0.out.off (by omega) _ _).from (From.drew (From.refl _))
    have k4 : From w (V2.setCell ⟨w.heap.size + 1, 2, none⟩ (.int .i64 (y1 - 10 + y2))).drew := (From.setCell kk (by omega) _ _).drew
    generalize (V2.setCell ⟨w.heap.size + 1, 2, none⟩ (.int .i64 (y1 - 10 + y2))).drew = V4 at *
    clear a0 a1 a2 a3 a4 a5 a6 a7 fr
    obtain ⟨a0, a1, a2, a3, a4, a5, a6, a7⟩ := M2.facts
    obtain ⟨b0, b1, b2, b3, b4, b5, b6, b7⟩ := M3.facts
    have fr := M2.soft
    have fs := M3.soft
    simp only at a0 a1 a2 a3 a4 a5 a6 a7 b0 b1 b2 b3 b4 b5 b6 b7
    go_wp2_with fail
    refine (P4.out _ k4 (1 + y3) y4 (by rw [E3.out]) E4.out).mono ?_
    rintro e V5 ⟨rfl, rfl⟩
    go_wp2_with fail
    refine bodyPost_ret (v := .agg (mcs ⟨y0, y1 - 10, y1 - 10 + y2, 1 + y4, 1 + y3, y5, [], false⟩ (.slice none 0 0))) (by simp [results, Try.results56, go_sem, b0, b1, b2, b3, b4, b5, b6, b7]) rfl ⟨by rw [← HM.out], ?_⟩
    exact From.set8 (k4.setCell (by omega) _ _) (by omega) ⟨y0, y1 - 10, y1 - 10 + y2, 1 + y4, 1 + y3, y5, [], false⟩ _
end Go.Proofs.Ytlogokjjphlkkaa
