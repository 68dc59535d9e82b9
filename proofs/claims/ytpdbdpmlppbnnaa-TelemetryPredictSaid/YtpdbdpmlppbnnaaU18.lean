/-
  Walk of layer 28's examples.
-/
import Derived.Test.YtpdbdpmlppbnnaaU17
namespace Go.Proofs.Ytpdbdpmlppbnnaa
open Go.RowKit Go.Shelf

theorem lv_e1 : encP 1 [5, 7, 9] 3 [7, 7, 6] [0, 1, 2] 6 = ([1, 3, 1, 1, 2, 5], 0) := by
  simp [encP, pkB, encGo, predP, encU_lt, zig, entB, show min (7 : Int) 2147483647 = 7 from by decide]
theorem lv_e2 : encP 1 [5, 7, 9] 3 [7, 7, 6] [0, 1, 2] 5 = ([1, 3, 0, 0], 0) := by
  simp [encP, pkB, encGo, predP, encU_lt, zig, entB, show min (7 : Int) 2147483647 = 7 from by decide]
theorem lv_d1 : decP (hasB 1 [5, 7, 9]) [1, 3, 1, 1, 2, 5] = .ok 3 [7, 7, 6] [true, true, true] true := by rfl
theorem lv_d2 : decP (hasB 1 [5, 7, 9]) [1, 3, 0, 0] = .ok 3 [0, 0, 0] [false, false, false] false := by rfl
theorem lv_o : nl (insOut (ltN [3, 9, 3]) 0 3 1 (List.range 3)) = [1, 0, 2] := by
  rw [insOut_go (by decide), insOut_go (by decide), insOut_stop (by decide)]
  rfl
theorem sl_lit (w : World) (cs : List Value) (t : TypeId) : Sl (w.alloc (.cells cs.toArray t)) (w.alloc (.cells cs.toArray t)).heap.size (.slice (some ⟨w.heap.size, 0, none⟩) cs.length cs.length) cs.length cs := by
  have := sl_new w cs t cs.length cs.length
  rwa [show w.heap.size + 1 = (w.alloc (.cells cs.toArray t)).heap.size by simp] at this
theorem perm3 : Perm 3 [0, 1, 2] := ⟨rfl, by decide, by decide⟩
theorem ints_lit (w : World) (l : List Int) : Ints (w.alloc (.cells (ic l).toArray 3)) (.slice (some ⟨w.heap.size, 0, none⟩) l.length l.length) l := by
  have := sl_lit w (ic l) 3
  rwa [ic_len] at this
theorem byts_lit (w : World) (l : List Int) : Byts (w.alloc (.cells (yc l).toArray 5)) (.slice (some ⟨w.heap.size, 0, none⟩) l.length l.length) l := by
  have := sl_lit w (yc l) 5
  rwa [yc_len] at this
theorem bools_lit (w : World) (l : List Bool) : Bools (w.alloc (.cells (bc l).toArray 4)) (.slice (some ⟨w.heap.size, 0, none⟩) l.length l.length) l := by
  have := sl_lit w (bc l) 4
  rwa [bc_len] at this
theorem sameB_true (v u : Value) (a : List Int) (w : World) (h1 : Byts w v a) (h2 : Byts w u a) (ha : bytes a) :
    Calls Try.prog 27 #[v, u] w fun e w' => e = .returned (.bool true) ∧ w' = w := by
  have := sameB_calls v u a a w h1 h2 ha ha
  rwa [decide_eq_true rfl] at this
theorem sameL_true (v u : Value) (a : List Bool) (w : World) (h1 : Bools w v a) (h2 : Bools w u a) (hm : a.length ≤ 9223372036854775807) :
    Calls Try.prog 21 #[v, u] w fun e w' => e = .returned (.bool true) ∧ From w w' := by
  have := sameL_val v u a a w h1 h2 hm
  rwa [decide_eq_true rfl] at this
theorem sameI_true (v u : Value) (a : List Int) (w : World) (h1 : Ints w v a) (h2 : Ints w u a) (hm : a.length ≤ 9223372036854775807) :
    Calls Try.prog 11 #[v, u] w fun e w' => e = .returned (.bool true) ∧ From w w' := by
  have := sameI_val v u a a w h1 h2 hm
  rwa [decide_eq_true rfl] at this
theorem sameS_true (q : Int) (v u : Value) (a : List Int) (w : World) (h1 : Ints w v a) (h2 : Ints w u a) (hm : a.length ≤ 9223372036854775807) :
    Calls Try.prog 20 #[snv q v, snv q u] w fun e w' => e = .returned (.bool true) ∧ From w w' := by
  have := sameS_calls q q v u a a w h1 h2 hm
  rwa [decide_eq_true rfl, decide_eq_true rfl] at this
set_option maxHeartbeats 2000000 in
set_option maxRecDepth 10000 in
theorem lives_calls (w : World) : Calls Try.prog 15 #[] w fun e w' => e = .returned (.bool true) ∧ From w w' := by
  obtain ⟨W1, hW1⟩ : ∃ W, w.alloc (.cells #[.int .i64 5, .int .i64 7, .int .i64 9] 3) = W := ⟨_, rfl⟩
  have z1 : W1.heap.size = w.heap.size + 1 := by rw [← hW1]; simp
  have i1 : Ints W1 (.slice (some ⟨w.heap.size, 0, none⟩) 3 3) [5, 7, 9] := by rw [← hW1]; exact ints_lit w [5, 7, 9]
  have k1 : From w W1 := by rw [← hW1]; exact (From.refl _).alloc _
  obtain ⟨W2, hW2⟩ : ∃ W, W1.alloc (.cells #[.int .i64 1, .slice (some ⟨w.heap.size, 0, none⟩) 3 3] 24) = W := ⟨_, rfl⟩
  have z2 : W2.heap.size = w.heap.size + 1 + 1 := by rw [← hW2]; simp [z1]
  have b2 : W2.heap[w.heap.size + 1]? = some (.cells #[.int .i64 1, .slice (some ⟨w.heap.size, 0, none⟩) 3 3] 24 (0, 0)) := by rw [← hW2, ← z1]; exact heap_alloc_new _ _
  have k2 : From W1 W2 := by rw [← hW2]; exact (From.refl _).alloc _
  obtain ⟨W3, hW3⟩ : ∃ W, W2.alloc (.cells #[.int .i64 7, .int .i64 7, .int .i64 6] 3) = W := ⟨_, rfl⟩
  have z3 : W3.heap.size = w.heap.size + 1 + 1 + 1 := by rw [← hW3]; simp [z2]
  have i3 : Ints W3 (.slice (some ⟨w.heap.size + 1 + 1, 0, none⟩) 3 3) [7, 7, 6] := by rw [← hW3, ← z2]; exact ints_lit W2 [7, 7, 6]
  have k3 : From W2 W3 := by rw [← hW3]; exact (From.refl _).alloc _
  obtain ⟨W4, hW4⟩ : ∃ W, W3.alloc (.cells #[.int .i64 3, .slice (some ⟨w.heap.size + 1 + 1, 0, none⟩) 3 3] 24) = W := ⟨_, rfl⟩
  have z4 : W4.heap.size = w.heap.size + 1 + 1 + 1 + 1 := by rw [← hW4]; simp [z3]
  have b4 : W4.heap[w.heap.size + 1 + 1 + 1]? = some (.cells #[.int .i64 3, .slice (some ⟨w.heap.size + 1 + 1, 0, none⟩) 3 3] 24 (0, 0)) := by rw [← hW4, ← z3]; exact heap_alloc_new _ _
  have k4 : From W3 W4 := by rw [← hW4]; exact (From.refl _).alloc _
  have kw4 : From w W4 := ((k1.trans k2).trans k3).trans k4
  have HB1 := bx (fun (V : World) (k : From W4 V) => box2 (((k3.trans k4).trans k).heap b2))
  have HB2 := bx (fun (V : World) (k : From W4 V) => box2 (k.heap b4))
  have HI1 := bx (fun (V : World) (k : From W4 V) => (show Ints V (.slice (some ⟨w.heap.size, 0, none⟩) 3 3) [5, 7, 9] from i1.from (((k2.trans k3).trans k4).trans k)))
  have HI2 := bx (fun (V : World) (k : From W4 V) => (show Ints V (.slice (some ⟨w.heap.size + 1 + 1, 0, none⟩) 3 3) [7, 7, 6] from i3.from (k4.trans k)))
  have HK := bx kw4
  have HENC := bx (fun (V : World) (k : From W4 V) (g : Nat) (room : Int) (hg : Ints V (.slice (some ⟨g, 0, none⟩) 3 3) [0, 1, 2]) (x : List Int × Int) (hx : encP 1 [5, 7, 9] 3 [7, 7, 6] [0, 1, 2] room = x) =>
    encode_calls 3 1 (.slice (some ⟨w.heap.size, 0, none⟩) 3 3) [5, 7, 9] 3 (.slice (some ⟨w.heap.size + 1 + 1, 0, none⟩) 3 3) [7, 7, 6] (.slice (some ⟨g, 0, none⟩) 3 3) [0, 1, 2] room V
      ⟨HI1.out V k, HI2.out V k, hg, rfl, rfl, perm3, by decide, by decide, by decide, by decide⟩ x hx)
  have HBI := bx (fun (V : World) (k : From W4 V) => BaseIn.mk (HI1.out V k) (by decide) (by decide) (by decide : 1 ≤ 1000000))
  clear k1 k2 k3 k4 b2 b4 i1 i3 kw4
  obtain ⟨q0, q1, _, _, _⟩ := HB1.out W4 (From.refl _)
  obtain ⟨r0, r1, _, _, _⟩ := HB2.out W4 (From.refl _)
  go_enter Try.func15, Try.ntmps15
  go_wp2_with fail
  clear hW1 hW2 hW3 hW4
  clear q0 q1 r0 r1
  refine (HENC.out _ ((From.refl _).alloc _) _ 6 (by rw [← z4]; exact ints_lit W4 [0, 1, 2]) _ lv_e1).mono ?_
  rintro e V1 ⟨A1, c1, rfl, o1, k1⟩
  replace k1 := (From.alloc (From.refl W4) _).trans k1
  have HY1 := bx (show Byts V1 (.slice A1 6 c1) [1, 3, 1, 1, 2, 5] from sl_of_own o1)
  clear o1 z1 z2 z3 z4
  obtain ⟨q0, q1, _, _, _⟩ := HB1.out V1 k1
  obtain ⟨r0, r1, _, _, _⟩ := HB2.out V1 k1
  go_wp2_with fail
  clear q0 q1 r0 r1
  refine (HENC.out _ (k1.alloc _) _ 5 (ints_lit V1 [0, 1, 2]) _ lv_e2).mono ?_
  rintro e V2 ⟨A2, c2, rfl, o2, k2⟩
  replace k2 := (From.alloc (From.refl V1) _).trans k2
  have HY2 := bx (show Byts V2 (.slice A2 4 c2) [1, 3, 0, 0] from sl_of_own o2)
  have k02 := k1.trans k2
  clear o2
  obtain ⟨q0, q1, _, _, _⟩ := HB1.out V2 k02
  go_wp2_with fail
  clear q0 q1
  refine (decodeT_calls 1 _ [5, 7, 9] (.slice A1 6 c1) [1, 3, 1, 1, 2, 5] V2 (HBI.out V2 k02) (HY1.out.from k2) (by decide) (by decide) _ lv_d1).mono ?_
  rintro e V3 ⟨gv, cv, gk, rfl, _, o3, o3b, k3⟩
  have k03 := k02.trans k3
  have HX := bx (show Ints V3 (.slice (some ⟨gv, 0, none⟩) 3 cv) [7, 7, 6] from sl_of_own o3)
  have HXK := bx (show Bools V3 (.slice (some ⟨gk, 0, none⟩) 3 3) [true, true, true] from sl_of_own o3b)
  clear o3 o3b
  obtain ⟨X3, hX3⟩ : ∃ W, V3.alloc (.cells #[.int .i64 3, .slice (some ⟨gv, 0, none⟩) 3 cv] 24) = W := ⟨_, rfl⟩
  have kx3 : From V3 X3 := by rw [← hX3]; exact (From.refl _).alloc _
  have bx3 : X3.heap[V3.heap.size]? = some (.cells #[.int .i64 3, .slice (some ⟨gv, 0, none⟩) 3 cv] 24 (0, 0)) := by rw [← hX3]; exact heap_alloc_new _ _
  have HBX := bx (fun (V : World) (k : From X3 V) => box2 (k.heap bx3))
  have k0x := k03.trans kx3
  obtain ⟨q0, q1, _, _, _⟩ := HB1.out X3 k0x
  go_wp2_with fail
  clear q0 q1 hX3 bx3
  refine (decodeT_calls 1 _ [5, 7, 9] (.slice A2 4 c2) [1, 3, 0, 0] X3 (HBI.out X3 k0x) (HY2.out.from (k3.trans kx3)) (by decide) (by decide) _ lv_d2).mono ?_
  rintro e V4 ⟨gv2, cv2, gk2, rfl, _, _, o4b, k4⟩
  have HYK := bx (show Bools V4 (.slice (some ⟨gk2, 0, none⟩) 3 3) [false, false, false] from sl_of_own o4b)
  clear o4b
  obtain ⟨X4, hX4⟩ : ∃ W, V4.alloc (.cells #[.int .i64 3, .slice (some ⟨gv2, 0, none⟩) 3 cv2] 24) = W := ⟨_, rfl⟩
  have kx4 : From V4 X4 := by rw [← hX4]; exact (From.refl _).alloc _
  have bx4 : X4.heap[V4.heap.size]? = some (.cells #[.int .i64 3, .slice (some ⟨gv2, 0, none⟩) 3 cv2] 24 (0, 0)) := by rw [← hX4]; exact heap_alloc_new _ _
  have HBY := bx (fun (V : World) (k : From X4 V) => box2 (k.heap bx4))
  have kxx := k4.trans kx4
  have k0y := k0x.trans kxx
  go_wp2_with fail
  clear hX4 bx4
  obtain ⟨X5, hX5⟩ : ∃ W, X4.alloc (.cells #[.int .u8 1, .int .u8 3, .int .u8 1, .int .u8 1, .int .u8 2, .int .u8 5] 5) = W := ⟨_, rfl⟩
  have k5 : From X4 X5 := by rw [← hX5]; exact (From.refl _).alloc _
  have i5 : Byts X5 (.slice (some ⟨X4.heap.size, 0, none⟩) 6 6) [1, 3, 1, 1, 2, 5] := by rw [← hX5]; exact byts_lit X4 [1, 3, 1, 1, 2, 5]
  have hy1 := HY1.out.from ((((k2.trans k3).trans kx3).trans kxx).trans k5)
  rw [hX5]
  clear hX5
  refine (sameB_true _ _ _ X5 hy1 i5 (by decide)).mono ?_
  rintro e w' ⟨rfl, hw⟩
  rw [hw]
  clear hw w'
  go_wp2_with fail
  obtain ⟨X6, hX6⟩ : ∃ W, X5.alloc (.cells #[.int .u8 1, .int .u8 3, .int .u8 0, .int .u8 0] 5) = W := ⟨_, rfl⟩
  have k6 : From X5 X6 := by rw [← hX6]; exact (From.refl _).alloc _
  have i6 : Byts X6 (.slice (some ⟨X5.heap.size, 0, none⟩) 4 4) [1, 3, 0, 0] := by rw [← hX6]; exact byts_lit X5 [1, 3, 0, 0]
  have hy2 := HY2.out.from (((((k3.trans kx3).trans kxx).trans k5)).trans k6)
  rw [hX6]
  clear hX6
  refine (sameB_true _ _ _ X6 hy2 i6 (by decide)).mono ?_
  rintro e w' ⟨rfl, hw⟩
  rw [hw]
  clear hw w'
  have k46 := k5.trans k6
  obtain ⟨q0, q1, _, _, _⟩ := HBX.out X6 (kxx.trans k46)
  obtain ⟨r0, r1, _, _, _⟩ := HB2.out X6 (k0y.trans k46)
  clear hy1 hy2 i5 i6
  go_wp2_with fail
  clear q0 q1 r0 r1
  refine (sameS_true 3 _ _ _ X6 (HX.out.from (kx3.trans (kxx.trans k46))) (HI2.out X6 (k0y.trans k46)) (by decide)).mono ?_
  rintro e X7 ⟨rfl, k7⟩
  go_wp2_with fail
  obtain ⟨X8, hX8⟩ : ∃ W, X7.alloc (.cells #[.bool true, .bool true, .bool true] 4) = W := ⟨_, rfl⟩
  have k8 : From X7 X8 := by rw [← hX8]; exact (From.refl _).alloc _
  have i8 : Bools X8 (.slice (some ⟨X7.heap.size, 0, none⟩) 3 3) [true, true, true] := by rw [← hX8]; exact bools_lit X7 [true, true, true]
  have k48 := k46.trans (k7.trans k8)
  rw [hX8]
  clear hX8
  refine (sameL_true _ _ _ X8 (HXK.out.from (kx3.trans (kxx.trans k48))) i8 (by decide)).mono ?_
  rintro e X9 ⟨rfl, k9⟩
  have k49 := k48.trans k9
  obtain ⟨q0, q1, _, _, _⟩ := HBY.out X9 k49
  go_wp2_with fail
  clear q0 q1
  obtain ⟨Y1, hY1⟩ : ∃ W, X9.alloc (.cells #[.bool false, .bool false, .bool false] 4) = W := ⟨_, rfl⟩
  have l1 : From X9 Y1 := by rw [← hY1]; exact (From.refl _).alloc _
  have j1 : Bools Y1 (.slice (some ⟨X9.heap.size, 0, none⟩) 3 3) [false, false, false] := by rw [← hY1]; exact bools_lit X9 [false, false, false]
  rw [hY1]
  clear hY1
  refine (sameL_true _ _ _ Y1 (HYK.out.from (kx4.trans (k49.trans l1))) j1 (by decide)).mono ?_
  rintro e Y2 ⟨rfl, l2⟩
  go_wp2_with fail
  obtain ⟨Y3, hY3⟩ : ∃ W, Y2.alloc (.cells #[.int .i64 3, .int .i64 9, .int .i64 3] 3) = W := ⟨_, rfl⟩
  have l3 : From Y2 Y3 := by rw [← hY3]; exact (From.refl _).alloc _
  have j3 : Ints Y3 (.slice (some ⟨Y2.heap.size, 0, none⟩) 3 3) [3, 9, 3] := by rw [← hY3]; exact ints_lit Y2 [3, 9, 3]
  rw [hY3]
  clear hY3
  refine (order0_calls _ 3 [3, 9, 3] Y3 j3 (by decide) (by decide)).mono ?_
  rintro e Y4 ⟨AO, cO, rfl, oO, l4⟩
  have hO := sl_of_own oO
  rw [show nl (insOut (ltN [3, 9, 3]) 0 ([3, 9, 3] : List Int).length 1 (List.range ([3, 9, 3] : List Int).length)) = [1, 0, 2] from lv_o] at hO ⊢
  have HO := bx (show Ints Y4 (.slice AO 3 cO) [1, 0, 2] from hO)
  clear hO oO
  go_wp2_with fail
  obtain ⟨Y5, hY5⟩ : ∃ W, Y4.alloc (.cells #[.int .i64 1, .int .i64 0, .int .i64 2] 3) = W := ⟨_, rfl⟩
  have l5 : From Y4 Y5 := by rw [← hY5]; exact (From.refl _).alloc _
  have j5 : Ints Y5 (.slice (some ⟨Y4.heap.size, 0, none⟩) 3 3) [1, 0, 2] := by rw [← hY5]; exact ints_lit Y4 [1, 0, 2]
  rw [hY5]
  clear hY5
  refine (sameI_true _ _ _ Y5 (HO.out.from l5) j5 (by decide)).mono ?_
  rintro e Y6 ⟨rfl, l6⟩
  go_wp2
  go_ret
  exact ⟨rfl, ((((((((HK.out.trans k0y).trans k49).trans l1).trans l2).trans l3).trans l4).trans l5).trans l6)⟩
end Go.Proofs.Ytpdbdpmlppbnnaa
