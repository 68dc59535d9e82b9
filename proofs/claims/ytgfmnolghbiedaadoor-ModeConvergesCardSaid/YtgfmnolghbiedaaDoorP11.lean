/-
  Walks of layer 31: the examples (perigeelaw31.lives).
-/
import Derived.Test.YtgfmnolghbiedaaDoorP10
namespace Go.Proofs.YtgfmnolghbiedaaDoor
open Go.RowKit Go.Shelf

theorem us_lit (X : World) (l : UL) (n : Nat) (hn : n = l.length) : US (X.alloc (.cells (uc l).toArray 44)) (X.heap.size + 1) (.slice (some ⟨X.heap.size, 0, none⟩) n n) l := by
  subst hn
  refine ⟨.inr ⟨⟨X.heap.size, 0, none⟩, l.length, rfl, fun k hk => ⟨X.heap.size, 0, rfl, by omega, ?_, ?_⟩⟩⟩
  · rw [World.cell?_alloc_new]
    have := (uc_at l k hk).1
    simpa using this
  · rw [World.cell?_alloc_new]
    have := (uc_at l k hk).2
    simpa using this
def gL : List (List Int) := [[0], [0, 1]]
theorem g_lists (X : World) : Lists (((X.alloc (.cells #[.int .i64 0] 3)).alloc (.cells #[.int .i64 0, .int .i64 1] 3)).alloc (.cells #[.slice (some ⟨X.heap.size, 0, none⟩) 1 1, .slice (some ⟨X.heap.size + 1, 0, none⟩) 2 2] 32)) (X.heap.size + 1 + 1 + 1) (some ⟨X.heap.size + 1 + 1, 0, none⟩) gL := by
  obtain ⟨X1, h1⟩ : ∃ X1, X.alloc (.cells #[.int .i64 0] 3) = X1 := ⟨_, rfl⟩
  obtain ⟨X2, h2⟩ : ∃ X2, X1.alloc (.cells #[.int .i64 0, .int .i64 1] 3) = X2 := ⟨_, rfl⟩
  have z1 : X1.heap.size = X.heap.size + 1 := by rw [← h1]; simp
  have z2 : X2.heap.size = X.heap.size + 1 + 1 := by rw [← h2]; simp [z1]
  have i1 := ints_step X #[.int .i64 0] 3 [0] rfl
  have i2 := ints_step X1 #[.int .i64 0, .int .i64 1] 3 [0, 1] rfl
  rw [h1] at i1
  rw [h2, z1] at i2
  have j1 := i1.al (by omega) (.cells #[.int .i64 0, .int .i64 1] 3)
  rw [h2] at j1
  rw [h1, h2, ← z2]
  refine lists_step X2 _ _ gL fun k hk => ?_
  match k, hk with
  | 0, _ => exact ⟨_, _, rfl, j1.more (by omega), by simp [gL]⟩
  | 1, _ => exact ⟨_, _, rfl, i2.more (by omega), by simp [gL]⟩
set_option maxRecDepth 100000 in
set_option maxHeartbeats 4000000 in
theorem livesM_calls (w : World) (hpm : PM w) : Calls Tryd.prog 16 #[] w fun e w' => e = .returned (.bool true) ∧ From w w' := by
  have HF : From w w := Below.refl _ _
  have HP := bx hpm
  obtain ⟨Z1, hZ1⟩ : ∃ V, w.alloc (.cells #[.int .i64 0] 3) = V := ⟨_, rfl⟩
  have sZ1 : Z1.heap.size = w.heap.size + 1 := by rw [← hZ1]; simp
  have fZ1 : From w Z1 := by rw [← hZ1]; exact From.alloc (Below.refl _ _) _
  obtain ⟨Z2, hZ2⟩ : ∃ V, Z1.alloc (.cells #[.int .i64 0, .int .i64 1] 3) = V := ⟨_, rfl⟩
  have sZ2 : Z2.heap.size = w.heap.size + 1 + 1 := by rw [← hZ2]; simp [sZ1]
  have fZ2 : From Z1 Z2 := by rw [← hZ2]; exact From.alloc (Below.refl _ _) _
  obtain ⟨Z3, hZ3⟩ : ∃ V, Z2.alloc (.cells #[.slice (some ⟨w.heap.size, 0, none⟩) 1 1, .slice (some ⟨w.heap.size + 1, 0, none⟩) 2 2] 32) = V := ⟨_, rfl⟩
  have sZ3 : Z3.heap.size = w.heap.size + 1 + 1 + 1 := by rw [← hZ3]; simp [sZ2]
  have fZ3 : From Z2 Z3 := by rw [← hZ3]; exact From.alloc (Below.refl _ _) _
  have HL := g_lists w
  rw [hZ1, hZ2, hZ3] at HL
  obtain ⟨Z4, hZ4⟩ : ∃ V, Z3.alloc (.cells #[.int .i64 2, .slice (some ⟨w.heap.size + 1 + 1, 0, none⟩) 2 2] 35) = V := ⟨_, rfl⟩
  have sZ4 : Z4.heap.size = w.heap.size + 1 + 1 + 1 + 1 := by rw [← hZ4]; simp [sZ3]
  have fZ4 : From Z3 Z4 := by rw [← hZ4]; exact From.alloc (Below.refl _ _) _
  have HG := gat_new Z3 2 (some ⟨w.heap.size + 1 + 1, 0, none⟩) 2 gL 35
  replace HG : GAt Z4 (w.heap.size + 1 + 1 + 1) 2 (some ⟨w.heap.size + 1 + 1, 0, none⟩) 2 gL := by rw [← sZ3, ← hZ4]; exact HG
  obtain ⟨Z5, hZ5⟩ : ∃ V, Z4.alloc (.cells #[.int .i64 0, .int .i64 2, .int .i64 0, .int .i64 2] 44) = V := ⟨_, rfl⟩
  have sZ5 : Z5.heap.size = w.heap.size + 1 + 1 + 1 + 1 + 1 := by rw [← hZ5]; simp [sZ4]
  have fZ5 : From Z4 Z5 := by rw [← hZ5]; exact From.alloc (Below.refl _ _) _
  have HU0 := us_lit Z4 [(0, 2), (0, 2)] 2 rfl
  replace HU0 : US Z5 Z5.heap.size (.slice (some ⟨w.heap.size + 1 + 1 + 1 + 1, 0, none⟩) 2 2) [(0, 2), (0, 2)] := by rw [sZ5, ← sZ4, ← hZ5]; exact HU0
  have fall : From w Z5 := ((((fZ1.trans fZ2).trans fZ3).trans fZ4)).trans fZ5
  replace HP := bx (HP.out.from fall)
  replace HF := From.trans HF fall
  replace HL := bx (From.lists (fZ4.trans fZ5) (HL.more (B' := Z3.heap.size) (by omega)))
  replace HG := bx (HG.from fZ5)
  go_enter Tryd.func16, Tryd.ntmps16
  go_wp2_with fail
  clear hZ1 hZ2 hZ3 hZ4 hZ5 fZ1 fZ2 fZ3 fZ4 fZ5 fall
  refine (new_calls 1 (.slice (some ⟨w.heap.size + 1 + 1 + 1 + 1, 0, none⟩) 2 2) [(0, 2), (0, 2)] Z5 HU0 (by decide)).mono ?_
  rintro e X1 ⟨Am, cm, he, ho, k⟩
  obtain rfl : e = .returned (.agg #[.int .i64 0, .int .i64 1, .slice Am 2 cm]) := he
  replace HP := bx (PM.from HP.out k)
  replace HL := bx (From.lists k HL.out)
  replace HG := bx (GAt.from HG.out k)
  replace HF := From.trans HF k
  have HUm := bx (show US X1 X1.heap.size (.slice Am 2 cm) [(0, 2), (0, 2)] from us_of_own ho)
  clear ho k HU0
  obtain ⟨Y1, hY1⟩ : ∃ V, X1.alloc (.cells #[.int .i64 0, .int .i64 1, .slice Am 2 cm] 24) = V := ⟨_, rfl⟩
  have sY1 : Y1.heap.size = X1.heap.size + 1 := by rw [← hY1]; simp
  have fY1 : From X1 Y1 := by rw [← hY1]; exact From.alloc (Below.refl _ _) _
  replace HP := bx (PM.from HP.out fY1)
  replace HL := bx (From.lists fY1 HL.out)
  replace HG := bx (GAt.from HG.out fY1)
  replace HUm := bx (US.from HUm.out fY1)
  replace HF := From.trans HF fY1
  have Hm := bx (show MCell Y1 X1.heap.size 0 1 Am 2 cm by rw [← hY1]; exact mcell_new X1 0 1 Am 2 cm)
  obtain ⟨m0, m1, m2⟩ := Hm.out.facts
  go_wp2_with fail
  clear hY1 fY1
  refine (check_calls 0 1 (.slice Am 2 cm) [(0, 2), (0, 2)] Y1 HUm.out (by decide) 0 (by decide)).mono ?_
  rintro e X2 ⟨rfl, k⟩
  clear m0 m1 m2
  replace HP := bx (PM.from HP.out k)
  replace HL := bx (From.lists k HL.out)
  replace HG := bx (GAt.from HG.out k)
  replace HUm := bx (US.from HUm.out k)
  replace Hm := bx (MCell.from Hm.out k)
  replace HF := From.trans HF k
  clear k
  obtain ⟨m0, m1, m2⟩ := Hm.out.facts
  go_wp2_with fail
  refine (permits_calls 0 1 2 Am 2 cm X2 HP.out true (by decide)).mono ?_
  rintro e X3 ⟨rfl, k⟩
  clear m0 m1 m2
  replace HP := bx (PM.from HP.out k)
  replace HL := bx (From.lists k HL.out)
  replace HG := bx (GAt.from HG.out k)
  replace HUm := bx (US.from HUm.out k)
  replace Hm := bx (MCell.from Hm.out k)
  replace HF := From.trans HF k
  clear k
  obtain ⟨m0, m1, m2⟩ := Hm.out.facts
  obtain ⟨g0, g1⟩ := HG.out
  obtain ⟨V1, hV1⟩ : ∃ V, X3.alloc (.cells #[.int .i64 0, .int .i64 1] 3) = V := ⟨_, rfl⟩
  have sV1 : V1.heap.size = X3.heap.size + 1 := by rw [← hV1]; simp
  have fV1 : From X3 V1 := by rw [← hV1]; exact From.alloc (Below.refl _ _) _
  have IV1 := ints_step X3 #[.int .i64 0, .int .i64 1] 3 [0, 1] rfl
  replace IV1 : Ints V1 V1.heap.size (some ⟨X3.heap.size, 0, none⟩) [0, 1] := by rw [hV1] at IV1; rw [sV1]; exact IV1
  replace HP := bx (PM.from HP.out fV1)
  replace HL := bx (From.lists fV1 HL.out)
  replace HG := bx (GAt.from HG.out fV1)
  replace HUm := bx (US.from HUm.out fV1)
  replace Hm := bx (MCell.from Hm.out fV1)
  replace HF := From.trans HF fV1
  replace IV1 := bx IV1
  go_wp2_with fail
  clear hV1 fV1
  refine (react_calls 0 1 (.slice Am 2 cm) [(0, 2), (0, 2)] 2 (some ⟨w.heap.size + 1 + 1, 0, none⟩) 2 gL (some ⟨X3.heap.size, 0, none⟩) 2 [0, 1] none 0 [] V1 HUm.out (by decide) (by decide) (by decide) (by unfold GoodU; decide) HL.out (by decide) IV1.out (by decide) Ints.nil (by decide) ⟨1, 0, [(0, 2), (1, 2)], [1]⟩ (by kernel_rfl)).mono ?_
  rintro e X4 ⟨Aa, ca, La, la, he, hu, hi, k⟩
  obtain rfl : e = .returned (.tuple #[.agg #[.int .i64 1, .int .i64 0, .slice Aa 2 ca], .slice La 1 la]) := he
  clear m0 m1 m2 g0 g1
  replace HP := bx (PM.from HP.out k)
  replace HL := bx (From.lists k HL.out)
  replace HG := bx (GAt.from HG.out k)
  replace HUm := bx (US.from HUm.out k)
  replace Hm := bx (MCell.from Hm.out k)
  replace HF := From.trans HF k
  clear k IV1
  have HUa := bx (show US X4 X4.heap.size (.slice Aa 2 ca) [(0, 2), (1, 2)] from us_of_own hu)
  have HIa := bx (show Ints X4 X4.heap.size La [1] from ints_of_own hi)
  clear hu hi
  obtain ⟨Y2, hY2⟩ : ∃ V, X4.alloc (.cells #[.int .i64 1, .int .i64 0, .slice Aa 2 ca] 24) = V := ⟨_, rfl⟩
  have sY2 : Y2.heap.size = X4.heap.size + 1 := by rw [← hY2]; simp
  have fY2 : From X4 Y2 := by rw [← hY2]; exact From.alloc (Below.refl _ _) _
  replace HP := bx (PM.from HP.out fY2)
  replace HL := bx (From.lists fY2 HL.out)
  replace HG := bx (GAt.from HG.out fY2)
  replace HUm := bx (US.from HUm.out fY2)
  replace Hm := bx (MCell.from Hm.out fY2)
  replace HUa := bx (US.from HUa.out fY2)
  replace HIa := bx (From.ints fY2 HIa.out)
  replace HF := From.trans HF fY2
  have Ha := bx (show MCell Y2 X4.heap.size 1 0 Aa 2 ca by rw [← hY2]; exact mcell_new X4 1 0 Aa 2 ca)
  obtain ⟨m0, m1, m2⟩ := Hm.out.facts
  obtain ⟨g0, g1⟩ := HG.out
  obtain ⟨V2, hV2⟩ : ∃ V, Y2.alloc (.cells #[.int .i64 0] 3) = V := ⟨_, rfl⟩
  have sV2 : V2.heap.size = X4.heap.size + 1 + 1 := by rw [← hV2]; simp [sY2]
  have fV2 : From Y2 V2 := by rw [← hV2]; exact From.alloc (Below.refl _ _) _
  have IV2 := ints_step Y2 #[.int .i64 0] 3 [0] rfl
  replace IV2 : Ints V2 V2.heap.size (some ⟨X4.heap.size + 1, 0, none⟩) [0] := by rw [hV2, sY2] at IV2; rw [sV2]; exact IV2
  replace HP := bx (PM.from HP.out fV2)
  replace HL := bx (From.lists fV2 HL.out)
  replace HG := bx (GAt.from HG.out fV2)
  replace HUm := bx (US.from HUm.out fV2)
  replace Hm := bx (MCell.from Hm.out fV2)
  replace HUa := bx (US.from HUa.out fV2)
  replace HIa := bx (From.ints fV2 HIa.out)
  replace Ha := bx (MCell.from Ha.out fV2)
  replace HF := From.trans HF fV2
  replace IV2 := bx IV2
  obtain ⟨V3, hV3⟩ : ∃ V, V2.alloc (.cells #[.int .i64 1] 3) = V := ⟨_, rfl⟩
  have sV3 : V3.heap.size = X4.heap.size + 1 + 1 + 1 := by rw [← hV3]; simp [sV2]
  have fV3 : From V2 V3 := by rw [← hV3]; exact From.alloc (Below.refl _ _) _
  have IV3 := ints_step V2 #[.int .i64 1] 3 [1] rfl
  replace IV3 : Ints V3 V3.heap.size (some ⟨X4.heap.size + 1 + 1, 0, none⟩) [1] := by rw [hV3, sV2] at IV3; rw [sV3]; exact IV3
  replace HP := bx (PM.from HP.out fV3)
  replace HL := bx (From.lists fV3 HL.out)
  replace HG := bx (GAt.from HG.out fV3)
  replace HUm := bx (US.from HUm.out fV3)
  replace Hm := bx (MCell.from Hm.out fV3)
  replace HUa := bx (US.from HUa.out fV3)
  replace HIa := bx (From.ints fV3 HIa.out)
  replace Ha := bx (MCell.from Ha.out fV3)
  replace IV2 := bx (From.ints fV3 IV2.out)
  replace HF := From.trans HF fV3
  replace IV3 := bx IV3
  go_wp2_with fail
  clear hV2 fV2 hV3 fV3
  refine (react_calls 0 1 (.slice Am 2 cm) [(0, 2), (0, 2)] 2 (some ⟨w.heap.size + 1 + 1, 0, none⟩) 2 gL (some ⟨X4.heap.size + 1, 0, none⟩) 1 [0] (some ⟨X4.heap.size + 1 + 1, 0, none⟩) 1 [1] V3 HUm.out (by decide) (by decide) (by decide) (by unfold GoodU; decide) HL.out (by decide) IV2.out (by decide) IV3.out (by decide) ⟨1, 0, [(1, 2), (0, 2)], [0]⟩ (by kernel_rfl)).mono ?_
  rintro e X5 ⟨Ab, cb, Lb, lb, he, hu, hi, k⟩
  obtain rfl : e = .returned (.tuple #[.agg #[.int .i64 1, .int .i64 0, .slice Ab 2 cb], .slice Lb 1 lb]) := he
  clear m0 m1 m2 g0 g1
  replace HP := bx (PM.from HP.out k)
  replace HL := bx (From.lists k HL.out)
  replace HG := bx (GAt.from HG.out k)
  replace HUm := bx (US.from HUm.out k)
  replace Hm := bx (MCell.from Hm.out k)
  replace HUa := bx (US.from HUa.out k)
  replace HIa := bx (From.ints k HIa.out)
  replace Ha := bx (MCell.from Ha.out k)
  replace HF := From.trans HF k
  clear k IV2 IV3
  clear hY2 fY2
  have HUb := bx (show US X5 X5.heap.size (.slice Ab 2 cb) [(1, 2), (0, 2)] from us_of_own hu)
  have HIb := bx (show Ints X5 X5.heap.size Lb [0] from ints_of_own hi)
  clear hu hi
  obtain ⟨Y3, hY3⟩ : ∃ V, X5.alloc (.cells #[.int .i64 1, .int .i64 0, .slice Ab 2 cb] 24) = V := ⟨_, rfl⟩
  have sY3 : Y3.heap.size = X5.heap.size + 1 := by rw [← hY3]; simp
  have fY3 : From X5 Y3 := by rw [← hY3]; exact From.alloc (Below.refl _ _) _
  replace HP := bx (PM.from HP.out fY3)
  replace HL := bx (From.lists fY3 HL.out)
  replace HG := bx (GAt.from HG.out fY3)
  replace HUm := bx (US.from HUm.out fY3)
  replace Hm := bx (MCell.from Hm.out fY3)
  replace HUa := bx (US.from HUa.out fY3)
  replace HIa := bx (From.ints fY3 HIa.out)
  replace Ha := bx (MCell.from Ha.out fY3)
  replace HUb := bx (US.from HUb.out fY3)
  replace HIb := bx (From.ints fY3 HIb.out)
  replace HF := From.trans HF fY3
  have Hb := bx (show MCell Y3 X5.heap.size 1 0 Ab 2 cb by rw [← hY3]; exact mcell_new X5 1 0 Ab 2 cb)
  obtain ⟨b0, b1, b2⟩ := Hb.out.facts
  obtain ⟨g0, g1⟩ := HG.out
  obtain ⟨V4, hV4⟩ : ∃ V, Y3.alloc (.cells #[.int .i64 0] 3) = V := ⟨_, rfl⟩
  have sV4 : V4.heap.size = X5.heap.size + 1 + 1 := by rw [← hV4]; simp [sY3]
  have fV4 : From Y3 V4 := by rw [← hV4]; exact From.alloc (Below.refl _ _) _
  have IV4 := ints_step Y3 #[.int .i64 0] 3 [0] rfl
  replace IV4 : Ints V4 V4.heap.size (some ⟨X5.heap.size + 1, 0, none⟩) [0] := by rw [hV4, sY3] at IV4; rw [sV4]; exact IV4
  replace HP := bx (PM.from HP.out fV4)
  replace HL := bx (From.lists fV4 HL.out)
  replace HG := bx (GAt.from HG.out fV4)
  replace HUm := bx (US.from HUm.out fV4)
  replace Hm := bx (MCell.from Hm.out fV4)
  replace HUa := bx (US.from HUa.out fV4)
  replace HIa := bx (From.ints fV4 HIa.out)
  replace Ha := bx (MCell.from Ha.out fV4)
  replace HUb := bx (US.from HUb.out fV4)
  replace HIb := bx (From.ints fV4 HIb.out)
  replace Hb := bx (MCell.from Hb.out fV4)
  replace HF := From.trans HF fV4
  replace IV4 := bx IV4
  obtain ⟨V5, hV5⟩ : ∃ V, V4.alloc (.cells #[.int .i64 1] 3) = V := ⟨_, rfl⟩
  have sV5 : V5.heap.size = X5.heap.size + 1 + 1 + 1 := by rw [← hV5]; simp [sV4]
  have fV5 : From V4 V5 := by rw [← hV5]; exact From.alloc (Below.refl _ _) _
  have IV5 := ints_step V4 #[.int .i64 1] 3 [1] rfl
  replace IV5 : Ints V5 V5.heap.size (some ⟨X5.heap.size + 1 + 1, 0, none⟩) [1] := by rw [hV5, sV4] at IV5; rw [sV5]; exact IV5
  replace HP := bx (PM.from HP.out fV5)
  replace HL := bx (From.lists fV5 HL.out)
  replace HG := bx (GAt.from HG.out fV5)
  replace HUm := bx (US.from HUm.out fV5)
  replace Hm := bx (MCell.from Hm.out fV5)
  replace HUa := bx (US.from HUa.out fV5)
  replace HIa := bx (From.ints fV5 HIa.out)
  replace Ha := bx (MCell.from Ha.out fV5)
  replace HUb := bx (US.from HUb.out fV5)
  replace HIb := bx (From.ints fV5 HIb.out)
  replace Hb := bx (MCell.from Hb.out fV5)
  replace IV4 := bx (From.ints fV5 IV4.out)
  replace HF := From.trans HF fV5
  replace IV5 := bx IV5
  go_wp2_with fail
  clear hV4 fV4 hV5 fV5
  refine (react_calls 1 0 (.slice Ab 2 cb) [(1, 2), (0, 2)] 2 (some ⟨w.heap.size + 1 + 1, 0, none⟩) 2 gL (some ⟨X5.heap.size + 1, 0, none⟩) 1 [0] (some ⟨X5.heap.size + 1 + 1, 0, none⟩) 1 [1] V5 HUb.out (by decide) (by decide) (by decide) (by unfold GoodU; decide) HL.out (by decide) IV4.out (by decide) IV5.out (by decide) ⟨2, 0, [(1, 2), (0, 2)], []⟩ (by kernel_rfl)).mono ?_
  rintro e X6 ⟨Ac, cc, Lc, lc, he, hu, hi, k⟩
  obtain rfl : e = .returned (.tuple #[.agg #[.int .i64 2, .int .i64 0, .slice Ac 2 cc], .slice Lc 0 lc]) := he
  clear b0 b1 b2 g0 g1
  replace HP := bx (PM.from HP.out k)
  replace HL := bx (From.lists k HL.out)
  replace HG := bx (GAt.from HG.out k)
  replace HUm := bx (US.from HUm.out k)
  replace Hm := bx (MCell.from Hm.out k)
  replace HUa := bx (US.from HUa.out k)
  replace HIa := bx (From.ints k HIa.out)
  replace Ha := bx (MCell.from Ha.out k)
  replace HUb := bx (US.from HUb.out k)
  replace HIb := bx (From.ints k HIb.out)
  replace Hb := bx (MCell.from Hb.out k)
  replace HF := From.trans HF k
  clear k IV4 IV5
  clear hY3 fY3
  have HUc := bx hu
  clear hu hi
  obtain ⟨Y4, hY4⟩ : ∃ V, X6.alloc (.cells #[.int .i64 2, .int .i64 0, .slice Ac 2 cc] 24) = V := ⟨_, rfl⟩
  have sY4 : Y4.heap.size = X6.heap.size + 1 := by rw [← hY4]; simp
  have fY4 : From X6 Y4 := by rw [← hY4]; exact From.alloc (Below.refl _ _) _
  replace HP := bx (PM.from HP.out fY4)
  replace HL := bx (From.lists fY4 HL.out)
  replace HG := bx (GAt.from HG.out fY4)
  replace HUm := bx (US.from HUm.out fY4)
  replace Hm := bx (MCell.from Hm.out fY4)
  replace HUa := bx (US.from HUa.out fY4)
  replace HIa := bx (From.ints fY4 HIa.out)
  replace Ha := bx (MCell.from Ha.out fY4)
  replace HUb := bx (US.from HUb.out fY4)
  replace HIb := bx (From.ints fY4 HIb.out)
  replace Hb := bx (MCell.from Hb.out fY4)
  replace HF := From.trans HF fY4
  have Hc := bx (show MCell Y4 X6.heap.size 2 0 Ac 2 cc by rw [← hY4]; exact mcell_new X6 2 0 Ac 2 cc)
  obtain ⟨a0, a1, a2⟩ := Ha.out.facts
  obtain ⟨T1, hT1⟩ : ∃ V, Y4.alloc (.cells #[.int .i64 0, .int .i64 2, .int .i64 1, .int .i64 2] 44) = V := ⟨_, rfl⟩
  have sT1 : T1.heap.size = X6.heap.size + 1 + 1 := by rw [← hT1]; simp [sY4]
  have fT1 : From Y4 T1 := by rw [← hT1]; exact From.alloc (Below.refl _ _) _
  have UT1 : US T1 T1.heap.size (.slice (some ⟨X6.heap.size + 1, 0, none⟩) 2 2) [(0, 2), (1, 2)] := by have := us_lit Y4 [(0, 2), (1, 2)] 2 rfl; rw [sT1]; rw [sY4] at this; rw [← hT1]; exact this
  replace HP := bx (PM.from HP.out fT1)
  replace HL := bx (From.lists fT1 HL.out)
  replace HG := bx (GAt.from HG.out fT1)
  replace HUm := bx (US.from HUm.out fT1)
  replace Hm := bx (MCell.from Hm.out fT1)
  replace HUa := bx (US.from HUa.out fT1)
  replace HIa := bx (From.ints fT1 HIa.out)
  replace Ha := bx (MCell.from Ha.out fT1)
  replace HUb := bx (US.from HUb.out fT1)
  replace HIb := bx (From.ints fT1 HIb.out)
  replace Hb := bx (MCell.from Hb.out fT1)
  replace Hc := bx (MCell.from Hc.out fT1)
  replace HF := From.trans HF fT1
  go_wp2_with fail
  clear hT1 fT1
  refine (same_callsM 1 0 (.slice Aa 2 ca) [(0, 2), (1, 2)] 1 0 (.slice (some ⟨X6.heap.size + 1, 0, none⟩) 2 2) [(0, 2), (1, 2)] T1 HUa.out UT1 (by decide) true (by decide)).mono ?_
  rintro e X7 ⟨rfl, k⟩
  clear a0 a1 a2
  replace HP := bx (PM.from HP.out k)
  replace HL := bx (From.lists k HL.out)
  replace HG := bx (GAt.from HG.out k)
  replace HUm := bx (US.from HUm.out k)
  replace Hm := bx (MCell.from Hm.out k)
  replace HUa := bx (US.from HUa.out k)
  replace HIa := bx (From.ints k HIa.out)
  replace Ha := bx (MCell.from Ha.out k)
  replace HUb := bx (US.from HUb.out k)
  replace HIb := bx (From.ints k HIb.out)
  replace Hb := bx (MCell.from Hb.out k)
  replace Hc := bx (MCell.from Hc.out k)
  replace HF := From.trans HF k
  clear k UT1
  clear hY4 fY4
  obtain ⟨T2, hT2⟩ : ∃ V, X7.alloc (.cells #[.int .i64 1] 3) = V := ⟨_, rfl⟩
  have sT2 : T2.heap.size = X7.heap.size + 1 := by rw [← hT2]; simp
  have fT2 : From X7 T2 := by rw [← hT2]; exact From.alloc (Below.refl _ _) _
  have IT2 := ints_step X7 #[.int .i64 1] 3 [1] rfl
  replace IT2 : Ints T2 T2.heap.size (some ⟨X7.heap.size, 0, none⟩) [1] := by rw [hT2] at IT2; rw [sT2]; exact IT2
  replace HP := bx (PM.from HP.out fT2)
  replace HL := bx (From.lists fT2 HL.out)
  replace HG := bx (GAt.from HG.out fT2)
  replace HUm := bx (US.from HUm.out fT2)
  replace Hm := bx (MCell.from Hm.out fT2)
  replace HUa := bx (US.from HUa.out fT2)
  replace HIa := bx (From.ints fT2 HIa.out)
  replace Ha := bx (MCell.from Ha.out fT2)
  replace HUb := bx (US.from HUb.out fT2)
  replace HIb := bx (From.ints fT2 HIb.out)
  replace Hb := bx (MCell.from Hb.out fT2)
  replace Hc := bx (MCell.from Hc.out fT2)
  replace HF := From.trans HF fT2
  replace IT2 := bx IT2
  go_wp2_with fail
  clear hT2 fT2
  refine (sameI_val La (some ⟨X7.heap.size, 0, none⟩) la 1 [1] [1] T2 HIa.out IT2.out (by decide) true (by simp)).mono ?_
  rintro e X8 ⟨rfl, k⟩
  replace HP := bx (PM.from HP.out k)
  replace HL := bx (From.lists k HL.out)
  replace HG := bx (GAt.from HG.out k)
  replace HUm := bx (US.from HUm.out k)
  replace Hm := bx (MCell.from Hm.out k)
  replace HUa := bx (US.from HUa.out k)
  replace HIa := bx (From.ints k HIa.out)
  replace Ha := bx (MCell.from Ha.out k)
  replace HUb := bx (US.from HUb.out k)
  replace HIb := bx (From.ints k HIb.out)
  replace Hb := bx (MCell.from Hb.out k)
  replace Hc := bx (MCell.from Hc.out k)
  replace HF := From.trans HF k
  clear k IT2
  obtain ⟨b0, b1, b2⟩ := Hb.out.facts
  obtain ⟨T3, hT3⟩ : ∃ V, X8.alloc (.cells #[.int .i64 1, .int .i64 2, .int .i64 0, .int .i64 2] 44) = V := ⟨_, rfl⟩
  have sT3 : T3.heap.size = X8.heap.size + 1 := by rw [← hT3]; simp
  have fT3 : From X8 T3 := by rw [← hT3]; exact From.alloc (Below.refl _ _) _
  have UT3 : US T3 T3.heap.size (.slice (some ⟨X8.heap.size, 0, none⟩) 2 2) [(1, 2), (0, 2)] := by have := us_lit X8 [(1, 2), (0, 2)] 2 rfl; rw [sT3]; rw [← hT3]; exact this
  replace HP := bx (PM.from HP.out fT3)
  replace HL := bx (From.lists fT3 HL.out)
  replace HG := bx (GAt.from HG.out fT3)
  replace HUm := bx (US.from HUm.out fT3)
  replace Hm := bx (MCell.from Hm.out fT3)
  replace HUa := bx (US.from HUa.out fT3)
  replace HIa := bx (From.ints fT3 HIa.out)
  replace Ha := bx (MCell.from Ha.out fT3)
  replace HUb := bx (US.from HUb.out fT3)
  replace HIb := bx (From.ints fT3 HIb.out)
  replace Hb := bx (MCell.from Hb.out fT3)
  replace Hc := bx (MCell.from Hc.out fT3)
  replace HF := From.trans HF fT3
  go_wp2_with fail
  clear hT3 fT3
  refine (same_callsM 1 0 (.slice Ab 2 cb) [(1, 2), (0, 2)] 1 0 (.slice (some ⟨X8.heap.size, 0, none⟩) 2 2) [(1, 2), (0, 2)] T3 HUb.out UT3 (by decide) true (by decide)).mono ?_
  rintro e X9 ⟨rfl, k⟩
  clear b0 b1 b2
  replace HP := bx (PM.from HP.out k)
  replace HL := bx (From.lists k HL.out)
  replace HG := bx (GAt.from HG.out k)
  replace HUm := bx (US.from HUm.out k)
  replace Hm := bx (MCell.from Hm.out k)
  replace HUa := bx (US.from HUa.out k)
  replace HIa := bx (From.ints k HIa.out)
  replace Ha := bx (MCell.from Ha.out k)
  replace HUb := bx (US.from HUb.out k)
  replace HIb := bx (From.ints k HIb.out)
  replace Hb := bx (MCell.from Hb.out k)
  replace Hc := bx (MCell.from Hc.out k)
  replace HF := From.trans HF k
  clear k UT3
  obtain ⟨T4, hT4⟩ : ∃ V, X9.alloc (.cells #[.int .i64 0] 3) = V := ⟨_, rfl⟩
  have sT4 : T4.heap.size = X9.heap.size + 1 := by rw [← hT4]; simp
  have fT4 : From X9 T4 := by rw [← hT4]; exact From.alloc (Below.refl _ _) _
  have IT4 := ints_step X9 #[.int .i64 0] 3 [0] rfl
  replace IT4 : Ints T4 T4.heap.size (some ⟨X9.heap.size, 0, none⟩) [0] := by rw [hT4] at IT4; rw [sT4]; exact IT4
  replace HP := bx (PM.from HP.out fT4)
  replace HL := bx (From.lists fT4 HL.out)
  replace HG := bx (GAt.from HG.out fT4)
  replace HUm := bx (US.from HUm.out fT4)
  replace Hm := bx (MCell.from Hm.out fT4)
  replace HUa := bx (US.from HUa.out fT4)
  replace HIa := bx (From.ints fT4 HIa.out)
  replace Ha := bx (MCell.from Ha.out fT4)
  replace HUb := bx (US.from HUb.out fT4)
  replace HIb := bx (From.ints fT4 HIb.out)
  replace Hb := bx (MCell.from Hb.out fT4)
  replace Hc := bx (MCell.from Hc.out fT4)
  replace HF := From.trans HF fT4
  replace IT4 := bx IT4
  go_wp2_with fail
  clear hT4 fT4
  refine (sameI_val Lb (some ⟨X9.heap.size, 0, none⟩) lb 1 [0] [0] T4 HIb.out IT4.out (by decide) true (by simp)).mono ?_
  rintro e X10 ⟨rfl, k⟩
  replace HP := bx (PM.from HP.out k)
  replace HL := bx (From.lists k HL.out)
  replace HG := bx (GAt.from HG.out k)
  replace HUm := bx (US.from HUm.out k)
  replace Hm := bx (MCell.from Hm.out k)
  replace HUa := bx (US.from HUa.out k)
  replace HIa := bx (From.ints k HIa.out)
  replace Ha := bx (MCell.from Ha.out k)
  replace HUb := bx (US.from HUb.out k)
  replace HIb := bx (From.ints k HIb.out)
  replace Hb := bx (MCell.from Hb.out k)
  replace Hc := bx (MCell.from Hc.out k)
  replace HF := From.trans HF k
  clear k IT4
  obtain ⟨c0, c1, c2⟩ := Hc.out.facts
  go_wp2
  go_ret
  exact ⟨rfl, HF⟩
end Go.Proofs.YtgfmnolghbiedaaDoor
