/-
  Walk of layer 30's examples: `lives` returns true.
-/
import Derived.Test.YtgfmnolghbiedaaK26
namespace Go.Proofs.Ytgfmnolghbiedaa
open Go.RowKit

/-- a list of numbers that a call answers -/
def IntsPost (w : World) (l : List Int) (e : Ending) (Y : World) : Prop := ∃ (A : Option Addr) (c : Nat), e = .returned (.slice A l.length c) ∧ Ints Y Y.heap.size A l ∧ Below w.heap.size w Y
def LPost (w : World) (T : List (List Int)) (e : Ending) (Y : World) : Prop := ∃ (A : Option Addr) (c : Nat), e = .returned (.slice A T.length c) ∧ Lists Y Y.heap.size A T ∧ Below w.heap.size w Y
def SomePost (w : World) (s : List Int) (e : Ending) (Y : World) : Prop := ∃ (A : Option Addr) (c : Nat), e = .returned (.tuple #[.slice A s.length c, .bool true]) ∧ Ints Y Y.heap.size A s ∧ Below w.heap.size w Y
theorem row_ints {w : World} {l m : List Int} (hm : l = m) {e : Ending} {Y : World} (h : RowPost w l e Y) : IntsPost w m e Y := by
  subst hm
  obtain ⟨A, c, rfl, h1, h2⟩ := h
  exact ⟨A, c, rfl, ints_of_own h1, h2⟩
theorem rows_lists {w : World} {T U : List (List Int)} (hT : T = U) {e : Ending} {Y : World} (h : ListsPost w T e Y) : LPost w U e Y := by
  subst hT
  obtain ⟨ys, A, c, rfl, rfl, h1, h2, h3⟩ := h
  exact ⟨A, c, by rw [List.length_map], lists_of_own h1 h2, h3⟩
section
variable (n : Int) (AG : Option Addr) (cG : Nat) (sh : List (List Int)) (AS : Option Addr) (cS : Nat) (seen : List Int) (AC : Option Addr) (cC : Nat) (clear : List Int) (w : World)
    (hl : Lists w w.heap.size AG sh) (hn : sh.length ≤ 20) (h1 : Ints w w.heap.size AS seen) (hm1 : seen.length ≤ 9223372036854775807) (h2 : Ints w w.heap.size AC clear) (hm2 : clear.length ≤ 9223372036854775807)
include hl hn h1 hm1 h2 hm2
theorem least_some (s : List Int) (hs : leastOf sh seen clear = some s) : Calls Try.prog 17 #[.agg #[.int .i64 n, .slice AG sh.length cG], .slice AS seen.length cS, .slice AC clear.length cC] w (SomePost w s) := by
  refine (least_calls n AG cG sh AS cS seen AC cC clear w hl (by omega) h1 hm1 h2 hm2).mono ?_
  rintro e Y (⟨t, A, c, ht, rfl, ho, hb⟩ | ⟨ht, rfl, hb⟩)
  · rw [hs] at ht; cases ht; exact ⟨A, c, rfl, ints_of_own ho, hb⟩
  · rw [hs] at ht; cases ht
theorem least_no (hs : leastOf sh seen clear = none) : Calls Try.prog 17 #[.agg #[.int .i64 n, .slice AG sh.length cG], .slice AS seen.length cS, .slice AC clear.length cC] w fun e Y => e = .returned (.tuple #[.slice none 0 0, .bool false]) ∧ Below w.heap.size w Y := by
  refine (least_calls n AG cG sh AS cS seen AC cC clear w hl (by omega) h1 hm1 h2 hm2).mono ?_
  rintro e Y (⟨t, A, c, ht, rfl, ho, hb⟩ | ⟨ht, rfl, hb⟩)
  · rw [hs] at ht; cases ht
  · exact ⟨rfl, hb⟩
theorem refLeast_some (s : List Int) (hs : leastOf sh seen clear = some s) : Calls Try.prog 18 #[.agg #[.int .i64 n, .slice AG sh.length cG], .slice AS seen.length cS, .slice AC clear.length cC] w (SomePost w s) := by
  refine (refLeast_calls n AG cG sh AS cS seen AC cC clear w hl (by omega) h1 hm1 h2 hm2).mono ?_
  rintro e Y (⟨t, A, c, ht, rfl, ho, hb⟩ | ⟨ht, rfl, hb⟩)
  · rw [hs] at ht; cases ht; exact ⟨A, c, rfl, ints_of_own ho, hb⟩
  · rw [hs] at ht; cases ht
theorem refLeast_no (hs : leastOf sh seen clear = none) : Calls Try.prog 18 #[.agg #[.int .i64 n, .slice AG sh.length cG], .slice AS seen.length cS, .slice AC clear.length cC] w fun e Y => e = .returned (.tuple #[.slice none 0 0, .bool false]) ∧ Below w.heap.size w Y := by
  refine (refLeast_calls n AG cG sh AS cS seen AC cC clear w hl (by omega) h1 hm1 h2 hm2).mono ?_
  rintro e Y (⟨t, A, c, ht, rfl, ho, hb⟩ | ⟨ht, rfl, hb⟩)
  · rw [hs] at ht; cases ht
  · exact ⟨rfl, hb⟩
theorem all_val (T : List (List Int)) (hT : allOf sh seen clear = T) : Calls Try.prog 21 #[.agg #[.int .i64 n, .slice AG sh.length cG], .slice AS seen.length cS, .slice AC clear.length cC] w (LPost w T) :=
  (all_calls n AG cG sh AS cS seen AC cC clear w hl hn h1 hm1 h2 hm2).mono fun _ _ h => rows_lists hT h
theorem refAll_val (T : List (List Int)) (hT : allOf sh seen clear = T) : Calls Try.prog 22 #[.agg #[.int .i64 n, .slice AG sh.length cG], .slice AS seen.length cS, .slice AC clear.length cC] w (LPost w T) :=
  (refAll_calls n AG cG sh AS cS seen AC cC clear w hl hn h1 hm1 h2 hm2).mono fun _ _ h => rows_lists hT h
theorem certain_val (l : List Int) (hT : certOf sh seen clear = l) : Calls Try.prog 23 #[.agg #[.int .i64 n, .slice AG sh.length cG], .slice AS seen.length cS, .slice AC clear.length cC] w (IntsPost w l) :=
  (certain_calls n AG cG sh AS cS seen AC cC clear w hl (by omega) h1 hm1 h2 hm2).mono fun _ _ h => row_ints hT h
theorem refCertain_val (l : List Int) (hT : certOf sh seen clear = l) : Calls Try.prog 24 #[.agg #[.int .i64 n, .slice AG sh.length cG], .slice AS seen.length cS, .slice AC clear.length cC] w (IntsPost w l) :=
  (refCertain_calls n AG cG sh AS cS seen AC cC clear w hl hn h1 hm1 h2 hm2).mono fun _ _ h => row_ints hT h
end
theorem sameI_val (A B : Option Addr) (c d : Nat) (xs ys : List Int) (w : World) (h1 : Ints w w.heap.size A xs) (h2 : Ints w w.heap.size B ys) (hm : xs.length ≤ 9223372036854775807) (x : Bool) (hx : decide (xs = ys) = x) :
    Calls Try.prog 19 #[.slice A xs.length c, .slice B ys.length d] w fun e Y => e = .returned (.bool x) ∧ Below w.heap.size w Y := by
  refine (same_calls A B c d xs ys w h1 h2 hm).mono ?_
  rintro e Y ⟨rfl, m, rfl⟩
  exact ⟨by rw [hx], below_drewN (Below.refl _ _) m⟩
theorem sameL_val (A B : Option Addr) (c d : Nat) (xs ys : List (List Int)) (w : World) (h1 : Lists w w.heap.size A xs) (h2 : Lists w w.heap.size B ys) (hm : xs.length ≤ 9223372036854775807) (x : Bool) (hx : decide (xs = ys) = x) :
    Calls Try.prog 20 #[.slice A xs.length c, .slice B ys.length d] w fun e Y => e = .returned (.bool x) ∧ Below w.heap.size w Y := by
  refine (sameL_calls A B c d xs ys w h1 h2 hm).mono ?_
  rintro e Y ⟨rfl, m, rfl⟩
  exact ⟨by rw [hx], below_drewN (Below.refl _ _) m⟩
set_option maxRecDepth 100000 in
set_option maxHeartbeats 4000000 in
theorem lives_calls (w : World) : Calls Try.prog 11 #[] w fun e w' => e = .returned (.bool true) ∧ Below w.heap.size w w' := by
  go_enter Try.func11, Try.ntmps11
  go_wp2_with fail
  refine (ring_calls w).mono ?_
  rintro e X0 ⟨AR, cR, rfl, hRL, hb⟩
  go_wp2_with fail
  obtain ⟨Z0, hZ0⟩ : ∃ V, X0.alloc (.cells #[.int .i64 0, .int .i64 1, .int .i64 2, .int .i64 3] 3) = V := ⟨_, rfl⟩
  have sZ0 : Z0.heap.size = X0.heap.size + 1 := by rw [← hZ0]; simp
  have bZ0 : Below X0.heap.size X0 Z0 := by rw [← hZ0]; exact (Below.refl _ _).alloc (Nat.le_refl _) _
  have HS := ints_step X0 #[.int .i64 0, .int .i64 1, .int .i64 2, .int .i64 3] 3 [0, 1, 2, 3] rfl
  rw [hZ0] at HS
  obtain ⟨Z1, hZ1⟩ : ∃ V, Z0.alloc (.cells #[.int .i64 4, .slice AR ringL.length cR] 24) = V := ⟨_, rfl⟩
  have sZ1 : Z1.heap.size = X0.heap.size + 1 + 1 := by rw [← hZ1]; simp [sZ0]
  have bZ1 : Below Z0.heap.size Z0 Z1 := by rw [← hZ1]; exact (Below.refl _ _).alloc (Nat.le_refl _) _
  replace HS := bx ((HS.below (bZ1.mono (by omega))).more (B' := Z1.heap.size) (by omega))
  have hby := bZ0.trans (bZ1.mono (by omega))
  have HG := bx ((hRL.below hby).more hby.size)
  have c0 : Z1.cell? ⟨X0.heap.size + 1, 0, none⟩ = some (.int .i64 4) := by rw [← hZ1, ← sZ0, World.cell?_alloc_new]; rfl
  have c1 : Z1.cell? ⟨X0.heap.size + 1, 1, none⟩ = some (.slice AR ringL.length cR) := by rw [← hZ1, ← sZ0, World.cell?_alloc_new]; rfl
  have hbG : X0.heap.size + 1 < Z1.heap.size := by omega
  rw [hZ0, hZ1]
  replace hb := hb.trans (hby.mono hb.size)
  clear hZ0 hZ1 hRL bZ0 bZ1 hby
  refine (least_some 4 AR cR ringL (some ⟨X0.heap.size, 0, none⟩) 4 [0, 1, 2, 3] none 0 [] Z1 HG.out (by decide) HS.out (by simp) Ints.nil (by simp) [0, 2] (by decide +kernel)).mono ?_
  rintro e X1 ⟨Aa, ca, rfl, Ha, hx⟩
  replace HG := bx ((HG.out.below hx).more hx.size)
  replace HS := bx ((HS.out.below hx).more hx.size)
  replace c0 := (hx.cell (p := ⟨X0.heap.size + 1, 0, none⟩) hbG).trans c0
  replace c1 := (hx.cell (p := ⟨X0.heap.size + 1, 1, none⟩) hbG).trans c1
  replace hbG := Nat.lt_of_lt_of_le hbG hx.size
  replace hb := hb.trans (hx.mono hb.size)
  clear hx
  have Ha := bx Ha
  go_wp2_with fail
  refine (all_val 4 AR cR ringL (some ⟨X0.heap.size, 0, none⟩) 4 [0, 1, 2, 3] none 0 [] X1 HG.out (by decide) HS.out (by simp) Ints.nil (by simp) [[0, 2], [1, 3]] (by decide +kernel)).mono ?_
  rintro e X2 ⟨Al, cl, rfl, Hall, hx⟩
  replace HG := bx ((HG.out.below hx).more hx.size)
  replace HS := bx ((HS.out.below hx).more hx.size)
  replace Ha := bx ((Ha.out.below hx).more hx.size)
  replace c0 := (hx.cell (p := ⟨X0.heap.size + 1, 0, none⟩) hbG).trans c0
  replace c1 := (hx.cell (p := ⟨X0.heap.size + 1, 1, none⟩) hbG).trans c1
  replace hbG := Nat.lt_of_lt_of_le hbG hx.size
  replace hb := hb.trans (hx.mono hb.size)
  clear hx
  have Hall := bx Hall
  go_wp2_with fail
  obtain ⟨Z3_0, hZ3_0⟩ : ∃ V, X2.alloc (.cells #[.int .i64 1] 3) = V := ⟨_, rfl⟩
  have sZ3_0 : Z3_0.heap.size = X2.heap.size + 1 := by rw [← hZ3_0]; simp
  have bZ3_0 : Below X2.heap.size X2 Z3_0 := by rw [← hZ3_0]; exact (Below.refl _ _).alloc (Nat.le_refl _) _
  have IZ3_0 := ints_step X2 #[.int .i64 1] 3 [1] rfl
  rw [hZ3_0] at IZ3_0
  replace IZ3_0 := bx (IZ3_0.more (B' := Z3_0.heap.size) (by omega))
  obtain ⟨Z3_1, hZ3_1⟩ : ∃ V, Z3_0.alloc (.cells #[.int .i64 0] 3) = V := ⟨_, rfl⟩
  have sZ3_1 : Z3_1.heap.size = X2.heap.size + 1 + 1 := by rw [← hZ3_1]; simp [sZ3_0]
  have bZ3_1 : Below Z3_0.heap.size Z3_0 Z3_1 := by rw [← hZ3_1]; exact (Below.refl _ _).alloc (Nat.le_refl _) _
  have IZ3_1 := ints_step Z3_0 #[.int .i64 0] 3 [0] rfl
  rw [hZ3_1, sZ3_0] at IZ3_1
  replace IZ3_1 := bx (IZ3_1.more (B' := Z3_1.heap.size) (by omega))
  replace IZ3_0 := bx ((IZ3_0.out.below bZ3_1).more bZ3_1.size)
  rw [hZ3_0, hZ3_1]
  have hy3 : Below X2.heap.size X2 Z3_1 := (bZ3_0.trans (bZ3_1.mono (by omega)))
  clear hZ3_0 hZ3_1
  replace HG := bx ((HG.out.below hy3).more hy3.size)
  replace HS := bx ((HS.out.below hy3).more hy3.size)
  replace Ha := bx ((Ha.out.below hy3).more hy3.size)
  replace Hall := bx ((Hall.out.below hy3).more hy3.size)
  replace c0 := (hy3.cell (p := ⟨X0.heap.size + 1, 0, none⟩) hbG).trans c0
  replace c1 := (hy3.cell (p := ⟨X0.heap.size + 1, 1, none⟩) hbG).trans c1
  replace hbG := Nat.lt_of_lt_of_le hbG hy3.size
  replace hb := hb.trans (hy3.mono hb.size)
  refine (least_some 4 AR cR ringL (some ⟨X2.heap.size, 0, none⟩) 1 [1] (some ⟨X2.heap.size + 1, 0, none⟩) 1 [0] Z3_1 HG.out (by decide) IZ3_0.out (by simp) IZ3_1.out (by simp) [1] (by decide +kernel)).mono ?_
  rintro e X4 ⟨Ab, cb, rfl, Hb, hx⟩
  replace HG := bx ((HG.out.below hx).more hx.size)
  replace HS := bx ((HS.out.below hx).more hx.size)
  replace Ha := bx ((Ha.out.below hx).more hx.size)
  replace Hall := bx ((Hall.out.below hx).more hx.size)
  replace c0 := (hx.cell (p := ⟨X0.heap.size + 1, 0, none⟩) hbG).trans c0
  replace c1 := (hx.cell (p := ⟨X0.heap.size + 1, 1, none⟩) hbG).trans c1
  replace hbG := Nat.lt_of_lt_of_le hbG hx.size
  replace hb := hb.trans (hx.mono hb.size)
  clear hx
  have Hb := bx Hb
  go_wp2_with fail
  obtain ⟨Z5_0, hZ5_0⟩ : ∃ V, X4.alloc (.cells #[.int .i64 1] 3) = V := ⟨_, rfl⟩
  have sZ5_0 : Z5_0.heap.size = X4.heap.size + 1 := by rw [← hZ5_0]; simp
  have bZ5_0 : Below X4.heap.size X4 Z5_0 := by rw [← hZ5_0]; exact (Below.refl _ _).alloc (Nat.le_refl _) _
  have IZ5_0 := ints_step X4 #[.int .i64 1] 3 [1] rfl
  rw [hZ5_0] at IZ5_0
  replace IZ5_0 := bx (IZ5_0.more (B' := Z5_0.heap.size) (by omega))
  obtain ⟨Z5_1, hZ5_1⟩ : ∃ V, Z5_0.alloc (.cells #[.int .i64 0, .int .i64 2] 3) = V := ⟨_, rfl⟩
  have sZ5_1 : Z5_1.heap.size = X4.heap.size + 1 + 1 := by rw [← hZ5_1]; simp [sZ5_0]
  have bZ5_1 : Below Z5_0.heap.size Z5_0 Z5_1 := by rw [← hZ5_1]; exact (Below.refl _ _).alloc (Nat.le_refl _) _
  have IZ5_1 := ints_step Z5_0 #[.int .i64 0, .int .i64 2] 3 [0, 2] rfl
  rw [hZ5_1, sZ5_0] at IZ5_1
  replace IZ5_1 := bx (IZ5_1.more (B' := Z5_1.heap.size) (by omega))
  replace IZ5_0 := bx ((IZ5_0.out.below bZ5_1).more bZ5_1.size)
  rw [hZ5_0, hZ5_1]
  have hy5 : Below X4.heap.size X4 Z5_1 := (bZ5_0.trans (bZ5_1.mono (by omega)))
  clear hZ5_0 hZ5_1
  replace HG := bx ((HG.out.below hy5).more hy5.size)
  replace HS := bx ((HS.out.below hy5).more hy5.size)
  replace Ha := bx ((Ha.out.below hy5).more hy5.size)
  replace Hall := bx ((Hall.out.below hy5).more hy5.size)
  replace Hb := bx ((Hb.out.below hy5).more hy5.size)
  replace c0 := (hy5.cell (p := ⟨X0.heap.size + 1, 0, none⟩) hbG).trans c0
  replace c1 := (hy5.cell (p := ⟨X0.heap.size + 1, 1, none⟩) hbG).trans c1
  replace hbG := Nat.lt_of_lt_of_le hbG hy5.size
  replace hb := hb.trans (hy5.mono hb.size)
  refine (least_no 4 AR cR ringL (some ⟨X4.heap.size, 0, none⟩) 1 [1] (some ⟨X4.heap.size + 1, 0, none⟩) 2 [0, 2] Z5_1 HG.out (by decide) IZ5_0.out (by simp) IZ5_1.out (by simp) (by decide +kernel)).mono ?_
  rintro e X6 ⟨rfl, hx⟩
  replace HG := bx ((HG.out.below hx).more hx.size)
  replace HS := bx ((HS.out.below hx).more hx.size)
  replace Ha := bx ((Ha.out.below hx).more hx.size)
  replace Hall := bx ((Hall.out.below hx).more hx.size)
  replace Hb := bx ((Hb.out.below hx).more hx.size)
  replace c0 := (hx.cell (p := ⟨X0.heap.size + 1, 0, none⟩) hbG).trans c0
  replace c1 := (hx.cell (p := ⟨X0.heap.size + 1, 1, none⟩) hbG).trans c1
  replace hbG := Nat.lt_of_lt_of_le hbG hx.size
  replace hb := hb.trans (hx.mono hb.size)
  clear hx
  go_wp2_with fail
  refine (least_some 4 AR cR ringL none 0 [] none 0 [] X6 HG.out (by decide) Ints.nil (by simp) Ints.nil (by simp) [] (by decide +kernel)).mono ?_
  rintro e X7 ⟨Ac, cc, rfl, Hc, hx⟩
  replace HG := bx ((HG.out.below hx).more hx.size)
  replace HS := bx ((HS.out.below hx).more hx.size)
  replace Ha := bx ((Ha.out.below hx).more hx.size)
  replace Hall := bx ((Hall.out.below hx).more hx.size)
  replace Hb := bx ((Hb.out.below hx).more hx.size)
  replace c0 := (hx.cell (p := ⟨X0.heap.size + 1, 0, none⟩) hbG).trans c0
  replace c1 := (hx.cell (p := ⟨X0.heap.size + 1, 1, none⟩) hbG).trans c1
  replace hbG := Nat.lt_of_lt_of_le hbG hx.size
  replace hb := hb.trans (hx.mono hb.size)
  clear hx
  go_wp2_with fail
  refine (certain_val 4 AR cR ringL (some ⟨X0.heap.size, 0, none⟩) 4 [0, 1, 2, 3] none 0 [] X7 HG.out (by decide) HS.out (by simp) Ints.nil (by simp) [] (by decide +kernel)).mono ?_
  rintro e X8 ⟨Ad, cd, rfl, Hd, hx⟩
  replace HG := bx ((HG.out.below hx).more hx.size)
  replace HS := bx ((HS.out.below hx).more hx.size)
  replace Ha := bx ((Ha.out.below hx).more hx.size)
  replace Hall := bx ((Hall.out.below hx).more hx.size)
  replace Hb := bx ((Hb.out.below hx).more hx.size)
  replace c0 := (hx.cell (p := ⟨X0.heap.size + 1, 0, none⟩) hbG).trans c0
  replace c1 := (hx.cell (p := ⟨X0.heap.size + 1, 1, none⟩) hbG).trans c1
  replace hbG := Nat.lt_of_lt_of_le hbG hx.size
  replace hb := hb.trans (hx.mono hb.size)
  clear hx
  go_wp2_with fail
  obtain ⟨Z9_0, hZ9_0⟩ : ∃ V, X8.alloc (.cells #[.int .i64 0, .int .i64 2] 3) = V := ⟨_, rfl⟩
  have sZ9_0 : Z9_0.heap.size = X8.heap.size + 1 := by rw [← hZ9_0]; simp
  have bZ9_0 : Below X8.heap.size X8 Z9_0 := by rw [← hZ9_0]; exact (Below.refl _ _).alloc (Nat.le_refl _) _
  have IZ9_0 := ints_step X8 #[.int .i64 0, .int .i64 2] 3 [0, 2] rfl
  rw [hZ9_0] at IZ9_0
  replace IZ9_0 := bx (IZ9_0.more (B' := Z9_0.heap.size) (by omega))
  rw [hZ9_0]
  have hy9 : Below X8.heap.size X8 Z9_0 := bZ9_0
  clear hZ9_0
  replace HG := bx ((HG.out.below hy9).more hy9.size)
  replace HS := bx ((HS.out.below hy9).more hy9.size)
  replace Ha := bx ((Ha.out.below hy9).more hy9.size)
  replace Hall := bx ((Hall.out.below hy9).more hy9.size)
  replace Hb := bx ((Hb.out.below hy9).more hy9.size)
  replace c0 := (hy9.cell (p := ⟨X0.heap.size + 1, 0, none⟩) hbG).trans c0
  replace c1 := (hy9.cell (p := ⟨X0.heap.size + 1, 1, none⟩) hbG).trans c1
  replace hbG := Nat.lt_of_lt_of_le hbG hy9.size
  replace hb := hb.trans (hy9.mono hb.size)
  refine (sameI_val Aa (some ⟨X8.heap.size, 0, none⟩) ca 2 [0, 2] [0, 2] Z9_0 Ha.out IZ9_0.out (by simp) true (by decide +kernel)).mono ?_
  rintro e X10 ⟨rfl, hx⟩
  replace HG := bx ((HG.out.below hx).more hx.size)
  replace HS := bx ((HS.out.below hx).more hx.size)
  replace Ha := bx ((Ha.out.below hx).more hx.size)
  replace Hall := bx ((Hall.out.below hx).more hx.size)
  replace Hb := bx ((Hb.out.below hx).more hx.size)
  replace c0 := (hx.cell (p := ⟨X0.heap.size + 1, 0, none⟩) hbG).trans c0
  replace c1 := (hx.cell (p := ⟨X0.heap.size + 1, 1, none⟩) hbG).trans c1
  replace hbG := Nat.lt_of_lt_of_le hbG hx.size
  replace hb := hb.trans (hx.mono hb.size)
  clear hx
  go_wp2_with fail
  obtain ⟨Z11_0, hZ11_0⟩ : ∃ V, X10.alloc (.cells #[.int .i64 0, .int .i64 2] 3) = V := ⟨_, rfl⟩
  have sZ11_0 : Z11_0.heap.size = X10.heap.size + 1 := by rw [← hZ11_0]; simp
  have bZ11_0 : Below X10.heap.size X10 Z11_0 := by rw [← hZ11_0]; exact (Below.refl _ _).alloc (Nat.le_refl _) _
  have IZ11_0 := ints_step X10 #[.int .i64 0, .int .i64 2] 3 [0, 2] rfl
  rw [hZ11_0] at IZ11_0
  replace IZ11_0 := bx (IZ11_0.more (B' := Z11_0.heap.size) (by omega))
  obtain ⟨Z11_1, hZ11_1⟩ : ∃ V, Z11_0.alloc (.cells #[.int .i64 1, .int .i64 3] 3) = V := ⟨_, rfl⟩
  have sZ11_1 : Z11_1.heap.size = X10.heap.size + 1 + 1 := by rw [← hZ11_1]; simp [sZ11_0]
  have bZ11_1 : Below Z11_0.heap.size Z11_0 Z11_1 := by rw [← hZ11_1]; exact (Below.refl _ _).alloc (Nat.le_refl _) _
  have IZ11_1 := ints_step Z11_0 #[.int .i64 1, .int .i64 3] 3 [1, 3] rfl
  rw [hZ11_1, sZ11_0] at IZ11_1
  replace IZ11_1 := bx (IZ11_1.more (B' := Z11_1.heap.size) (by omega))
  replace IZ11_0 := bx ((IZ11_0.out.below bZ11_1).more bZ11_1.size)
  obtain ⟨Z11_n, hZ11_n⟩ : ∃ V, Z11_1.alloc (.cells #[.slice (some ⟨X10.heap.size, 0, none⟩) 2 2, .slice (some ⟨X10.heap.size + 1, 0, none⟩) 2 2] 25) = V := ⟨_, rfl⟩
  have sZ11_n : Z11_n.heap.size = X10.heap.size + 1 + 1 + 1 := by rw [← hZ11_n]; simp [sZ11_1]
  have bZ11_n : Below Z11_1.heap.size Z11_1 Z11_n := by rw [← hZ11_n]; exact (Below.refl _ _).alloc (Nat.le_refl _) _
  have JZ11_n := lists_step Z11_1 #[.slice (some ⟨X10.heap.size, 0, none⟩) 2 2, .slice (some ⟨X10.heap.size + 1, 0, none⟩) 2 2] 25 [[0, 2], [1, 3]] (fun k hk => by
    match k, hk with
    | 0, _ => exact ⟨_, _, rfl, IZ11_0.out, by simp⟩
    | 1, _ => exact ⟨_, _, rfl, IZ11_1.out, by simp⟩
    )
  rw [hZ11_n, sZ11_1] at JZ11_n
  replace JZ11_n := bx (JZ11_n.more (B' := Z11_n.heap.size) (by omega))
  rw [hZ11_0, hZ11_1, hZ11_n]
  have hy11 : Below X10.heap.size X10 Z11_n := ((bZ11_0.trans (bZ11_1.mono (by omega))).trans (bZ11_n.mono (by omega)))
  clear hZ11_0 hZ11_1 hZ11_n
  replace HG := bx ((HG.out.below hy11).more hy11.size)
  replace HS := bx ((HS.out.below hy11).more hy11.size)
  replace Ha := bx ((Ha.out.below hy11).more hy11.size)
  replace Hall := bx ((Hall.out.below hy11).more hy11.size)
  replace Hb := bx ((Hb.out.below hy11).more hy11.size)
  replace c0 := (hy11.cell (p := ⟨X0.heap.size + 1, 0, none⟩) hbG).trans c0
  replace c1 := (hy11.cell (p := ⟨X0.heap.size + 1, 1, none⟩) hbG).trans c1
  replace hbG := Nat.lt_of_lt_of_le hbG hy11.size
  replace hb := hb.trans (hy11.mono hb.size)
  refine (sameL_val Al (some ⟨X10.heap.size + 1 + 1, 0, none⟩) cl 2 [[0, 2], [1, 3]] [[0, 2], [1, 3]] Z11_n Hall.out JZ11_n.out (by simp) true (by decide +kernel)).mono ?_
  rintro e X12 ⟨rfl, hx⟩
  replace HG := bx ((HG.out.below hx).more hx.size)
  replace HS := bx ((HS.out.below hx).more hx.size)
  replace Ha := bx ((Ha.out.below hx).more hx.size)
  replace Hall := bx ((Hall.out.below hx).more hx.size)
  replace Hb := bx ((Hb.out.below hx).more hx.size)
  replace c0 := (hx.cell (p := ⟨X0.heap.size + 1, 0, none⟩) hbG).trans c0
  replace c1 := (hx.cell (p := ⟨X0.heap.size + 1, 1, none⟩) hbG).trans c1
  replace hbG := Nat.lt_of_lt_of_le hbG hx.size
  replace hb := hb.trans (hx.mono hb.size)
  clear hx
  go_wp2_with fail
  obtain ⟨Z13_0, hZ13_0⟩ : ∃ V, X12.alloc (.cells #[.int .i64 1] 3) = V := ⟨_, rfl⟩
  have sZ13_0 : Z13_0.heap.size = X12.heap.size + 1 := by rw [← hZ13_0]; simp
  have bZ13_0 : Below X12.heap.size X12 Z13_0 := by rw [← hZ13_0]; exact (Below.refl _ _).alloc (Nat.le_refl _) _
  have IZ13_0 := ints_step X12 #[.int .i64 1] 3 [1] rfl
  rw [hZ13_0] at IZ13_0
  replace IZ13_0 := bx (IZ13_0.more (B' := Z13_0.heap.size) (by omega))
  rw [hZ13_0]
  have hy13 : Below X12.heap.size X12 Z13_0 := bZ13_0
  clear hZ13_0
  replace HG := bx ((HG.out.below hy13).more hy13.size)
  replace HS := bx ((HS.out.below hy13).more hy13.size)
  replace Ha := bx ((Ha.out.below hy13).more hy13.size)
  replace Hall := bx ((Hall.out.below hy13).more hy13.size)
  replace Hb := bx ((Hb.out.below hy13).more hy13.size)
  replace c0 := (hy13.cell (p := ⟨X0.heap.size + 1, 0, none⟩) hbG).trans c0
  replace c1 := (hy13.cell (p := ⟨X0.heap.size + 1, 1, none⟩) hbG).trans c1
  replace hbG := Nat.lt_of_lt_of_le hbG hy13.size
  replace hb := hb.trans (hy13.mono hb.size)
  refine (sameI_val Ab (some ⟨X12.heap.size, 0, none⟩) cb 1 [1] [1] Z13_0 Hb.out IZ13_0.out (by simp) true (by decide +kernel)).mono ?_
  rintro e X14 ⟨rfl, hx⟩
  replace HG := bx ((HG.out.below hx).more hx.size)
  replace HS := bx ((HS.out.below hx).more hx.size)
  replace Ha := bx ((Ha.out.below hx).more hx.size)
  replace Hall := bx ((Hall.out.below hx).more hx.size)
  replace Hb := bx ((Hb.out.below hx).more hx.size)
  replace c0 := (hx.cell (p := ⟨X0.heap.size + 1, 0, none⟩) hbG).trans c0
  replace c1 := (hx.cell (p := ⟨X0.heap.size + 1, 1, none⟩) hbG).trans c1
  replace hbG := Nat.lt_of_lt_of_le hbG hx.size
  replace hb := hb.trans (hx.mono hb.size)
  clear hx
  go_wp2_with fail
  obtain ⟨Z15_0, hZ15_0⟩ : ∃ V, X14.alloc (.cells #[.int .i64 1] 3) = V := ⟨_, rfl⟩
  have sZ15_0 : Z15_0.heap.size = X14.heap.size + 1 := by rw [← hZ15_0]; simp
  have bZ15_0 : Below X14.heap.size X14 Z15_0 := by rw [← hZ15_0]; exact (Below.refl _ _).alloc (Nat.le_refl _) _
  have IZ15_0 := ints_step X14 #[.int .i64 1] 3 [1] rfl
  rw [hZ15_0] at IZ15_0
  replace IZ15_0 := bx (IZ15_0.more (B' := Z15_0.heap.size) (by omega))
  obtain ⟨Z15_1, hZ15_1⟩ : ∃ V, Z15_0.alloc (.cells #[.int .i64 0] 3) = V := ⟨_, rfl⟩
  have sZ15_1 : Z15_1.heap.size = X14.heap.size + 1 + 1 := by rw [← hZ15_1]; simp [sZ15_0]
  have bZ15_1 : Below Z15_0.heap.size Z15_0 Z15_1 := by rw [← hZ15_1]; exact (Below.refl _ _).alloc (Nat.le_refl _) _
  have IZ15_1 := ints_step Z15_0 #[.int .i64 0] 3 [0] rfl
  rw [hZ15_1, sZ15_0] at IZ15_1
  replace IZ15_1 := bx (IZ15_1.more (B' := Z15_1.heap.size) (by omega))
  replace IZ15_0 := bx ((IZ15_0.out.below bZ15_1).more bZ15_1.size)
  rw [hZ15_0, hZ15_1]
  have hy15 : Below X14.heap.size X14 Z15_1 := (bZ15_0.trans (bZ15_1.mono (by omega)))
  clear hZ15_0 hZ15_1
  replace HG := bx ((HG.out.below hy15).more hy15.size)
  replace HS := bx ((HS.out.below hy15).more hy15.size)
  replace Ha := bx ((Ha.out.below hy15).more hy15.size)
  replace Hall := bx ((Hall.out.below hy15).more hy15.size)
  replace Hb := bx ((Hb.out.below hy15).more hy15.size)
  replace c0 := (hy15.cell (p := ⟨X0.heap.size + 1, 0, none⟩) hbG).trans c0
  replace c1 := (hy15.cell (p := ⟨X0.heap.size + 1, 1, none⟩) hbG).trans c1
  replace hbG := Nat.lt_of_lt_of_le hbG hy15.size
  replace hb := hb.trans (hy15.mono hb.size)
  refine (certain_val 4 AR cR ringL (some ⟨X14.heap.size, 0, none⟩) 1 [1] (some ⟨X14.heap.size + 1, 0, none⟩) 1 [0] Z15_1 HG.out (by decide) IZ15_0.out (by simp) IZ15_1.out (by simp) [1] (by decide +kernel)).mono ?_
  rintro e X16 ⟨Af, cf, rfl, Hf, hx⟩
  replace HG := bx ((HG.out.below hx).more hx.size)
  replace HS := bx ((HS.out.below hx).more hx.size)
  replace Ha := bx ((Ha.out.below hx).more hx.size)
  replace Hall := bx ((Hall.out.below hx).more hx.size)
  replace Hb := bx ((Hb.out.below hx).more hx.size)
  replace c0 := (hx.cell (p := ⟨X0.heap.size + 1, 0, none⟩) hbG).trans c0
  replace c1 := (hx.cell (p := ⟨X0.heap.size + 1, 1, none⟩) hbG).trans c1
  replace hbG := Nat.lt_of_lt_of_le hbG hx.size
  replace hb := hb.trans (hx.mono hb.size)
  clear hx
  have Hf := bx Hf
  go_wp2_with fail
  obtain ⟨Z17_0, hZ17_0⟩ : ∃ V, X16.alloc (.cells #[.int .i64 1] 3) = V := ⟨_, rfl⟩
  have sZ17_0 : Z17_0.heap.size = X16.heap.size + 1 := by rw [← hZ17_0]; simp
  have bZ17_0 : Below X16.heap.size X16 Z17_0 := by rw [← hZ17_0]; exact (Below.refl _ _).alloc (Nat.le_refl _) _
  have IZ17_0 := ints_step X16 #[.int .i64 1] 3 [1] rfl
  rw [hZ17_0] at IZ17_0
  replace IZ17_0 := bx (IZ17_0.more (B' := Z17_0.heap.size) (by omega))
  rw [hZ17_0]
  have hy17 : Below X16.heap.size X16 Z17_0 := bZ17_0
  clear hZ17_0
  replace HG := bx ((HG.out.below hy17).more hy17.size)
  replace HS := bx ((HS.out.below hy17).more hy17.size)
  replace Ha := bx ((Ha.out.below hy17).more hy17.size)
  replace Hall := bx ((Hall.out.below hy17).more hy17.size)
  replace Hb := bx ((Hb.out.below hy17).more hy17.size)
  replace Hf := bx ((Hf.out.below hy17).more hy17.size)
  replace c0 := (hy17.cell (p := ⟨X0.heap.size + 1, 0, none⟩) hbG).trans c0
  replace c1 := (hy17.cell (p := ⟨X0.heap.size + 1, 1, none⟩) hbG).trans c1
  replace hbG := Nat.lt_of_lt_of_le hbG hy17.size
  replace hb := hb.trans (hy17.mono hb.size)
  refine (sameI_val Af (some ⟨X16.heap.size, 0, none⟩) cf 1 [1] [1] Z17_0 Hf.out IZ17_0.out (by simp) true (by decide +kernel)).mono ?_
  rintro e X18 ⟨rfl, hx⟩
  replace HG := bx ((HG.out.below hx).more hx.size)
  replace HS := bx ((HS.out.below hx).more hx.size)
  replace Ha := bx ((Ha.out.below hx).more hx.size)
  replace Hall := bx ((Hall.out.below hx).more hx.size)
  replace Hb := bx ((Hb.out.below hx).more hx.size)
  replace Hf := bx ((Hf.out.below hx).more hx.size)
  replace c0 := (hx.cell (p := ⟨X0.heap.size + 1, 0, none⟩) hbG).trans c0
  replace c1 := (hx.cell (p := ⟨X0.heap.size + 1, 1, none⟩) hbG).trans c1
  replace hbG := Nat.lt_of_lt_of_le hbG hx.size
  replace hb := hb.trans (hx.mono hb.size)
  clear hx
  go_wp2_with fail
  refine (check_calls 4 AR cR ringL X18 HG.out (by decide) 0 (by decide +kernel)).mono ?_
  rintro e X19 ⟨rfl, hx⟩
  replace HG := bx ((HG.out.below hx).more hx.size)
  replace HS := bx ((HS.out.below hx).more hx.size)
  replace Ha := bx ((Ha.out.below hx).more hx.size)
  replace Hall := bx ((Hall.out.below hx).more hx.size)
  replace Hb := bx ((Hb.out.below hx).more hx.size)
  replace Hf := bx ((Hf.out.below hx).more hx.size)
  replace c0 := (hx.cell (p := ⟨X0.heap.size + 1, 0, none⟩) hbG).trans c0
  replace c1 := (hx.cell (p := ⟨X0.heap.size + 1, 1, none⟩) hbG).trans c1
  replace hbG := Nat.lt_of_lt_of_le hbG hx.size
  replace hb := hb.trans (hx.mono hb.size)
  clear hx
  go_wp2_with fail
  refine (check_calls 25 none 0 [] X19 ⟨fun k hk => absurd hk (by simp)⟩ (by decide) 2 (by decide +kernel)).mono ?_
  rintro e X20 ⟨rfl, hx⟩
  replace HG := bx ((HG.out.below hx).more hx.size)
  replace HS := bx ((HS.out.below hx).more hx.size)
  replace Ha := bx ((Ha.out.below hx).more hx.size)
  replace Hall := bx ((Hall.out.below hx).more hx.size)
  replace Hb := bx ((Hb.out.below hx).more hx.size)
  replace Hf := bx ((Hf.out.below hx).more hx.size)
  replace c0 := (hx.cell (p := ⟨X0.heap.size + 1, 0, none⟩) hbG).trans c0
  replace c1 := (hx.cell (p := ⟨X0.heap.size + 1, 1, none⟩) hbG).trans c1
  replace hbG := Nat.lt_of_lt_of_le hbG hx.size
  replace hb := hb.trans (hx.mono hb.size)
  clear hx
  go_wp2_with fail
  obtain ⟨Z21_0, hZ21_0⟩ : ∃ V, X20.alloc (.cells #[.int .i64 1] 3) = V := ⟨_, rfl⟩
  have sZ21_0 : Z21_0.heap.size = X20.heap.size + 1 := by rw [← hZ21_0]; simp
  have bZ21_0 : Below X20.heap.size X20 Z21_0 := by rw [← hZ21_0]; exact (Below.refl _ _).alloc (Nat.le_refl _) _
  have IZ21_0 := ints_step X20 #[.int .i64 1] 3 [1] rfl
  rw [hZ21_0] at IZ21_0
  replace IZ21_0 := bx (IZ21_0.more (B' := Z21_0.heap.size) (by omega))
  obtain ⟨Z21_n, hZ21_n⟩ : ∃ V, Z21_0.alloc (.cells #[.slice (some ⟨X20.heap.size, 0, none⟩) 1 1] 25) = V := ⟨_, rfl⟩
  have sZ21_n : Z21_n.heap.size = X20.heap.size + 1 + 1 := by rw [← hZ21_n]; simp [sZ21_0]
  have bZ21_n : Below Z21_0.heap.size Z21_0 Z21_n := by rw [← hZ21_n]; exact (Below.refl _ _).alloc (Nat.le_refl _) _
  have JZ21_n := lists_step Z21_0 #[.slice (some ⟨X20.heap.size, 0, none⟩) 1 1] 25 [[1]] (fun k hk => by
    match k, hk with
    | 0, _ => exact ⟨_, _, rfl, IZ21_0.out, by simp⟩
    )
  rw [hZ21_n, sZ21_0] at JZ21_n
  replace JZ21_n := bx (JZ21_n.more (B' := Z21_n.heap.size) (by omega))
  rw [hZ21_0, hZ21_n]
  have hy21 : Below X20.heap.size X20 Z21_n := (bZ21_0.trans (bZ21_n.mono (by omega)))
  clear hZ21_0 hZ21_n
  replace HG := bx ((HG.out.below hy21).more hy21.size)
  replace HS := bx ((HS.out.below hy21).more hy21.size)
  replace Ha := bx ((Ha.out.below hy21).more hy21.size)
  replace Hall := bx ((Hall.out.below hy21).more hy21.size)
  replace Hb := bx ((Hb.out.below hy21).more hy21.size)
  replace Hf := bx ((Hf.out.below hy21).more hy21.size)
  replace c0 := (hy21.cell (p := ⟨X0.heap.size + 1, 0, none⟩) hbG).trans c0
  replace c1 := (hy21.cell (p := ⟨X0.heap.size + 1, 1, none⟩) hbG).trans c1
  replace hbG := Nat.lt_of_lt_of_le hbG hy21.size
  replace hb := hb.trans (hy21.mono hb.size)
  refine (check_calls 1 (some ⟨X20.heap.size + 1, 0, none⟩) 1 [[1]] Z21_n JZ21_n.out (by decide) 5 (by decide +kernel)).mono ?_
  rintro e X22 ⟨rfl, hx⟩
  replace HG := bx ((HG.out.below hx).more hx.size)
  replace HS := bx ((HS.out.below hx).more hx.size)
  replace Ha := bx ((Ha.out.below hx).more hx.size)
  replace Hall := bx ((Hall.out.below hx).more hx.size)
  replace Hb := bx ((Hb.out.below hx).more hx.size)
  replace Hf := bx ((Hf.out.below hx).more hx.size)
  replace c0 := (hx.cell (p := ⟨X0.heap.size + 1, 0, none⟩) hbG).trans c0
  replace c1 := (hx.cell (p := ⟨X0.heap.size + 1, 1, none⟩) hbG).trans c1
  replace hbG := Nat.lt_of_lt_of_le hbG hx.size
  replace hb := hb.trans (hx.mono hb.size)
  clear hx
  go_wp2_with fail
  obtain ⟨Z23_0, hZ23_0⟩ : ∃ V, X22.alloc (.cells #[.int .i64 1, .int .i64 0] 3) = V := ⟨_, rfl⟩
  have sZ23_0 : Z23_0.heap.size = X22.heap.size + 1 := by rw [← hZ23_0]; simp
  have bZ23_0 : Below X22.heap.size X22 Z23_0 := by rw [← hZ23_0]; exact (Below.refl _ _).alloc (Nat.le_refl _) _
  have IZ23_0 := ints_step X22 #[.int .i64 1, .int .i64 0] 3 [1, 0] rfl
  rw [hZ23_0] at IZ23_0
  replace IZ23_0 := bx (IZ23_0.more (B' := Z23_0.heap.size) (by omega))
  obtain ⟨Z23_n, hZ23_n⟩ : ∃ V, Z23_0.alloc (.cells #[.slice (some ⟨X22.heap.size, 0, none⟩) 2 2] 25) = V := ⟨_, rfl⟩
  have sZ23_n : Z23_n.heap.size = X22.heap.size + 1 + 1 := by rw [← hZ23_n]; simp [sZ23_0]
  have bZ23_n : Below Z23_0.heap.size Z23_0 Z23_n := by rw [← hZ23_n]; exact (Below.refl _ _).alloc (Nat.le_refl _) _
  have JZ23_n := lists_step Z23_0 #[.slice (some ⟨X22.heap.size, 0, none⟩) 2 2] 25 [[1, 0]] (fun k hk => by
    match k, hk with
    | 0, _ => exact ⟨_, _, rfl, IZ23_0.out, by simp⟩
    )
  rw [hZ23_n, sZ23_0] at JZ23_n
  replace JZ23_n := bx (JZ23_n.more (B' := Z23_n.heap.size) (by omega))
  rw [hZ23_0, hZ23_n]
  have hy23 : Below X22.heap.size X22 Z23_n := (bZ23_0.trans (bZ23_n.mono (by omega)))
  clear hZ23_0 hZ23_n
  replace HG := bx ((HG.out.below hy23).more hy23.size)
  replace HS := bx ((HS.out.below hy23).more hy23.size)
  replace Ha := bx ((Ha.out.below hy23).more hy23.size)
  replace Hall := bx ((Hall.out.below hy23).more hy23.size)
  replace Hb := bx ((Hb.out.below hy23).more hy23.size)
  replace Hf := bx ((Hf.out.below hy23).more hy23.size)
  replace c0 := (hy23.cell (p := ⟨X0.heap.size + 1, 0, none⟩) hbG).trans c0
  replace c1 := (hy23.cell (p := ⟨X0.heap.size + 1, 1, none⟩) hbG).trans c1
  replace hbG := Nat.lt_of_lt_of_le hbG hy23.size
  replace hb := hb.trans (hy23.mono hb.size)
  refine (check_calls 2 (some ⟨X22.heap.size + 1, 0, none⟩) 1 [[1, 0]] Z23_n JZ23_n.out (by decide) 23 (by decide +kernel)).mono ?_
  rintro e X24 ⟨rfl, hx⟩
  replace HG := bx ((HG.out.below hx).more hx.size)
  replace HS := bx ((HS.out.below hx).more hx.size)
  replace Ha := bx ((Ha.out.below hx).more hx.size)
  replace Hall := bx ((Hall.out.below hx).more hx.size)
  replace Hb := bx ((Hb.out.below hx).more hx.size)
  replace Hf := bx ((Hf.out.below hx).more hx.size)
  replace c0 := (hx.cell (p := ⟨X0.heap.size + 1, 0, none⟩) hbG).trans c0
  replace c1 := (hx.cell (p := ⟨X0.heap.size + 1, 1, none⟩) hbG).trans c1
  replace hbG := Nat.lt_of_lt_of_le hbG hx.size
  replace hb := hb.trans (hx.mono hb.size)
  clear hx
  go_wp2_with fail
  obtain ⟨Z25_0, hZ25_0⟩ : ∃ V, X24.alloc (.cells #[.int .i64 1, .int .i64 3] 3) = V := ⟨_, rfl⟩
  have sZ25_0 : Z25_0.heap.size = X24.heap.size + 1 := by rw [← hZ25_0]; simp
  have bZ25_0 : Below X24.heap.size X24 Z25_0 := by rw [← hZ25_0]; exact (Below.refl _ _).alloc (Nat.le_refl _) _
  have IZ25_0 := ints_step X24 #[.int .i64 1, .int .i64 3] 3 [1, 3] rfl
  rw [hZ25_0] at IZ25_0
  replace IZ25_0 := bx (IZ25_0.more (B' := Z25_0.heap.size) (by omega))
  rw [hZ25_0]
  have hy25 : Below X24.heap.size X24 Z25_0 := bZ25_0
  clear hZ25_0
  replace HG := bx ((HG.out.below hy25).more hy25.size)
  replace HS := bx ((HS.out.below hy25).more hy25.size)
  replace Ha := bx ((Ha.out.below hy25).more hy25.size)
  replace Hall := bx ((Hall.out.below hy25).more hy25.size)
  replace Hb := bx ((Hb.out.below hy25).more hy25.size)
  replace Hf := bx ((Hf.out.below hy25).more hy25.size)
  replace c0 := (hy25.cell (p := ⟨X0.heap.size + 1, 0, none⟩) hbG).trans c0
  replace c1 := (hy25.cell (p := ⟨X0.heap.size + 1, 1, none⟩) hbG).trans c1
  replace hbG := Nat.lt_of_lt_of_le hbG hy25.size
  replace hb := hb.trans (hy25.mono hb.size)
  refine (explains_calls 4 AR cR ringL (some ⟨X24.heap.size, 0, none⟩) 2 [1, 3] (some ⟨X0.heap.size, 0, none⟩) 4 [0, 1, 2, 3] none 0 [] Z25_0 HG.out (by decide) IZ25_0.out (by simp) HS.out (by simp) Ints.nil (by simp) true (by decide +kernel)).mono ?_
  rintro e X26 ⟨rfl, hx⟩
  replace HG := bx ((HG.out.below hx).more hx.size)
  replace HS := bx ((HS.out.below hx).more hx.size)
  replace Ha := bx ((Ha.out.below hx).more hx.size)
  replace Hall := bx ((Hall.out.below hx).more hx.size)
  replace Hb := bx ((Hb.out.below hx).more hx.size)
  replace Hf := bx ((Hf.out.below hx).more hx.size)
  replace c0 := (hx.cell (p := ⟨X0.heap.size + 1, 0, none⟩) hbG).trans c0
  replace c1 := (hx.cell (p := ⟨X0.heap.size + 1, 1, none⟩) hbG).trans c1
  replace hbG := Nat.lt_of_lt_of_le hbG hx.size
  replace hb := hb.trans (hx.mono hb.size)
  clear hx
  go_wp2_with fail
  obtain ⟨Z27_0, hZ27_0⟩ : ∃ V, X26.alloc (.cells #[.int .i64 1, .int .i64 2] 3) = V := ⟨_, rfl⟩
  have sZ27_0 : Z27_0.heap.size = X26.heap.size + 1 := by rw [← hZ27_0]; simp
  have bZ27_0 : Below X26.heap.size X26 Z27_0 := by rw [← hZ27_0]; exact (Below.refl _ _).alloc (Nat.le_refl _) _
  have IZ27_0 := ints_step X26 #[.int .i64 1, .int .i64 2] 3 [1, 2] rfl
  rw [hZ27_0] at IZ27_0
  replace IZ27_0 := bx (IZ27_0.more (B' := Z27_0.heap.size) (by omega))
  rw [hZ27_0]
  have hy27 : Below X26.heap.size X26 Z27_0 := bZ27_0
  clear hZ27_0
  replace HG := bx ((HG.out.below hy27).more hy27.size)
  replace HS := bx ((HS.out.below hy27).more hy27.size)
  replace Ha := bx ((Ha.out.below hy27).more hy27.size)
  replace Hall := bx ((Hall.out.below hy27).more hy27.size)
  replace Hb := bx ((Hb.out.below hy27).more hy27.size)
  replace Hf := bx ((Hf.out.below hy27).more hy27.size)
  replace c0 := (hy27.cell (p := ⟨X0.heap.size + 1, 0, none⟩) hbG).trans c0
  replace c1 := (hy27.cell (p := ⟨X0.heap.size + 1, 1, none⟩) hbG).trans c1
  replace hbG := Nat.lt_of_lt_of_le hbG hy27.size
  replace hb := hb.trans (hy27.mono hb.size)
  refine (explains_calls 4 AR cR ringL (some ⟨X26.heap.size, 0, none⟩) 2 [1, 2] (some ⟨X0.heap.size, 0, none⟩) 4 [0, 1, 2, 3] none 0 [] Z27_0 HG.out (by decide) IZ27_0.out (by simp) HS.out (by simp) Ints.nil (by simp) false (by decide +kernel)).mono ?_
  rintro e X28 ⟨rfl, hx⟩
  replace HG := bx ((HG.out.below hx).more hx.size)
  replace HS := bx ((HS.out.below hx).more hx.size)
  replace Ha := bx ((Ha.out.below hx).more hx.size)
  replace Hall := bx ((Hall.out.below hx).more hx.size)
  replace Hb := bx ((Hb.out.below hx).more hx.size)
  replace Hf := bx ((Hf.out.below hx).more hx.size)
  replace c0 := (hx.cell (p := ⟨X0.heap.size + 1, 0, none⟩) hbG).trans c0
  replace c1 := (hx.cell (p := ⟨X0.heap.size + 1, 1, none⟩) hbG).trans c1
  replace hbG := Nat.lt_of_lt_of_le hbG hx.size
  replace hb := hb.trans (hx.mono hb.size)
  clear hx
  go_wp2
  go_ret
  exact ⟨rfl, hb⟩
end Go.Proofs.Ytgfmnolghbiedaa
