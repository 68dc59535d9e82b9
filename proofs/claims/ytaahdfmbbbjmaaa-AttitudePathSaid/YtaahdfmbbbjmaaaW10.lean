/-
  Walks of layer 12: Turn.
-/
import Derived.Test.YtaahdfmbbbjmaaaW9
namespace Go.Proofs.Ytaahdfmbbbjmaaa
open Go.RowKit Go.Shelf

theorem min1 (A : Option Addr) (c : Nat) (x : Int) (w : World) (h : Ints w w.heap.size A [x]) :
    Calls Try.prog 39 #[.slice A 1 c, .func (.func 40) #[] #[]] w fun e w' => e = .returned (.int .i64 x) ∧ w = w' := by
  obtain ⟨b, off, rfl, hb, c0⟩ := h.at_ 0 (by simp)
  have c0' : w.cell? ⟨b, off, none⟩ = some (.int .i64 x) := c0
  clear c0
  go_enter Try.func39, Try.ntmps39
  go_wp2_with fail
  refine wp_loop_rounds 1 ?_
  rw [rounds_succ]
  go_wp2
  go_ret
  exact ⟨rfl, rfl⟩
theorem min2 (A : Option Addr) (c : Nat) (x y : Int) (w : World) (h : Ints w w.heap.size A [x, y]) (hx : -360 ≤ x ∧ x ≤ 360) (hy : -360 ≤ y ∧ y ≤ 360) :
    Calls Try.prog 39 #[.slice A 2 c, .func (.func 40) #[] #[]] w fun e w' => e = .returned (.int .i64 (if y.natAbs < x.natAbs then y else x)) ∧ w = w' := by
  obtain ⟨b, off, rfl, hb, c0⟩ := h.at_ 0 (by simp)
  obtain ⟨b', off', e, hb', c1⟩ := h.at_ 1 (by simp)
  cases e
  have c0' : w.cell? ⟨b, off, none⟩ = some (.int .i64 x) := c0
  have c1' : w.cell? ⟨b, off + 1, none⟩ = some (.int .i64 y) := c1
  clear c0 c1
  by_cases hlt : y.natAbs < x.natAbs
  all_goals
    have HL := bx hlt
    have e2 : IntKind.i64.wrap ((y.natAbs : Int) - x.natAbs) = (y.natAbs : Int) - x.natAbs := IntWalk.i64_in _ (by omega)
    go_enter Try.func39, Try.ntmps39
    go_wp2_with fail
    refine wp_loop_rounds 2 ?_
    rw [rounds_succ]
    go_wp2_with fail
    refine (turn3 y x w hy hx).mono ?_
    rintro e w2 ⟨rfl, rfl⟩
    go_wp2
    rw [rounds_succ]
    go_wp2
    go_ret
    exact ⟨ret_int (by first | rfl | rw [if_pos HL.out] | rw [if_neg (by have := HL.out; omega)]), rfl⟩
theorem min_turn {u : Int} (h1 : 0 ≤ u) (h2 : u ≤ 359) : (if (u - 360).natAbs < u.natAbs then u - 360 else u) =
    (if (true && (!true || decide (u ≤ 360 - u))) = true then (u, (0 : Int)) else if true = true then (u - 360, 0) else (0, 1)).1 := by
  by_cases h : u ≤ 360 - u
  · rw [if_neg (by omega)]; simp [h]
  · rw [if_pos (by omega)]; simp [h]
theorem min_turn2 {u : Int} : 0 = (if (true && (!true || decide (u ≤ 360 - u))) = true then (u, (0 : Int)) else if true = true then (u - 360, 0) else (0, 1)).2 := by
  by_cases h : u ≤ 360 - u <;> simp [h]
theorem att_turn (A : Option Addr) (c : Nat) (l : ArcL) (a b : Int) (w : World) (h : Arcs w w.heap.size A l) (hm : l.length ≤ 100) (ho : OkArcs l) :
    Calls Try.prog 19 #[.int .i64 a, .int .i64 b, .slice A l.length c] w fun e w' => e = .returned (.tuple #[.int .i64 (turn l a b).1, .int .i64 (turn l a b).2]) ∧ Below w.heap.size w w' := by
  have q1 : 0 ≤ a % 360 := by omega
  have q2 : a % 360 ≤ 359 := by omega
  have q3 : 0 ≤ b % 360 := by omega
  have q4 : b % 360 ≤ 359 := by omega
  have u1 : 0 ≤ (b - a) % 360 := by omega
  have u2 : (b - a) % 360 ≤ 359 := by omega
  have hz := zero48
  go_enter Try.func19, Try.ntmps19
  go_wp2_with fail
  obtain ⟨W0, hW0⟩ : ∃ W0, w.alloc (.cells #[.int .i64 a] 3) = W0 := ⟨_, rfl⟩
  rw [hW0]
  have hB0 : Below w.heap.size w W0 := by rw [← hW0]; exact (Below.refl _ _).alloc (Nat.le_refl _) _
  have r0 : Boxed W0 w.heap.size 3 (.int .i64 a) := by rw [← hW0]; exact Boxed.new w 3 _
  have s0 : w.heap.size < W0.heap.size := by rw [← hW0]; simp
  clear hW0
  refine (marks_calls A c l W0 ((h.below hB0).more (by omega)) hm ho).mono ?_
  rintro e w1 ⟨cs, rfl, hcs, hb1⟩
  have HM := bx hcs
  have h1c := bx hcs.one
  have hsz := bx hcs.size
  have ht : (w1.alloc (.cells zArr 48)).there w1.heap.size 0 cs.size := by
    rw [hcs.size, ← zArr_size]
    exact there_of_heap (heap_alloc_new w1 _)
  clear hcs
  have hS1 := hb1.size
  go_wp2_with (refine wpList_store_mid rfl 48 _ _ rfl w1.heap.size 0 cs rfl rfl ht (by rw [hsz.out]; exact Try.size48) h1c.out ?_)
  obtain ⟨W2, hW2⟩ : ∃ W2, (w1.alloc (.cells zArr 48)).setCells w1.heap.size 0 cs.toList = W2 := ⟨_, rfl⟩
  rw [hW2]
  have hB2 : Below w1.heap.size w1 W2 := by
    rw [← hW2]
    exact ((Below.refl _ w1).alloc (Nat.le_refl _) _).trans (below_setCells _ (Nat.le_refl _) _ _ _)
  have s2 : w1.heap.size < W2.heap.size := by
    rw [← hW2]
    have := (below_setCells (B := w1.heap.size) w1.heap.size (Nat.le_refl _) cs.toList 0 (w1.alloc (.cells zArr 48))).size
    simp at this; omega
  have hM2 : Marked W2 w1.heap.size l := by
    intro i i0 i1
    have := World.rangeAt_setCells_same (w1.alloc (.cells zArr 48)) w1.heap.size 0 cs.toList (by simpa using ht) i.toNat (.bool (av l i)) (by
      rw [Array.getElem?_toList, HM.out.at_ _ (by omega), show ((i.toNat : Nat) : Int) = i by omega])
    rw [← hW2]
    rwa [Nat.zero_add] at this
  have hc2 : W2.cell? ⟨w.heap.size, 0, none⟩ = some (.int .i64 a) := (hB2.cell (p := ⟨w.heap.size, 0, none⟩) (by simp only; omega)).trans ((hb1.cell (p := ⟨w.heap.size, 0, none⟩) s0).trans r0.cell)
  clear hW2 ht
  obtain ⟨W3, hW3⟩ : ∃ W3, W2.alloc (.cells #[.func (.func 35) #[] #[.pointer (some ⟨w.heap.size, 0, none⟩), .pointer (some ⟨w1.heap.size, 0, none⟩)]] 45) = W3 := ⟨_, rfl⟩
  rw [hW3]
  have hB3 : Below W2.heap.size W2 W3 := by rw [← hW3]; exact (Below.refl _ _).alloc (Nat.le_refl _) _
  have s3 : W2.heap.size < W3.heap.size := by rw [← hW3]; simp
  have r3 : Boxed W3 W2.heap.size 45 (.func (.func 35) #[] #[.pointer (some ⟨w.heap.size, 0, none⟩), .pointer (some ⟨w1.heap.size, 0, none⟩)]) := by rw [← hW3]; exact Boxed.new W2 45 _
  clear hW3
  have hc3 : W3.cell? ⟨w.heap.size, 0, none⟩ = some (.int .i64 a) := (hB3.cell (p := ⟨w.heap.size, 0, none⟩) (by simp only; omega)).trans hc2
  have hE3 : TurnEnv W3 W3.heap.size l a W2.heap.size w.heap.size w1.heap.size := ⟨r3.cell, hc3, fun i i0 i1 => (hB3.cell (p := ⟨w1.heap.size, i.toNat, none⟩) s2).trans (hM2 i i0 i1), s3, by omega, by omega⟩
  have hbb : Below w.heap.size w W3 := ((hB0.trans (hb1.mono (by omega))).trans (hB2.mono (by omega))).trans (hB3.mono (by omega))
  have HE3 := bx hE3
  clear hM2 hc2 hB2 hB3 hb1 hB0 r3 r0 hE3
  go_quiet ((go_at_call 15; exact Calls.quiet_of_same ((attNormal _ _).mono fun e w' ⟨x, y⟩ => ⟨x, y.symm⟩)))
  obtain ⟨W4, hW4⟩ : ∃ W4, W3.drewN nq = W4 := ⟨_, rfl⟩
  rw [hW4]
  have hE4 : Bx (TurnEnv W4 W4.heap.size l a W2.heap.size w.heap.size w1.heap.size) := by rw [← hW4]; exact ⟨⟨HE3.out.c9, HE3.out.cf, HE3.out.mm, HE3.out.b9, HE3.out.bf, HE3.out.bb⟩⟩
  have hb4 : Below w.heap.size w W4 := by rw [← hW4]; exact below_drewN hbb _
  have s4 : W3.heap.size ≤ W4.heap.size := by rw [← hW4]; simp
  clear hW4 hc3 HE3 hbb
  have hG : Bx ((W4.alloc (.cells #[.int .i64 ((b - a) % 360), .int .i64 ((b - a) % 360 - 360)] 3)).heap[W4.heap.size]? = some (.cells #[.int .i64 ((b - a) % 360), .int .i64 ((b - a) % 360 - 360)] 3 (0, 0))) := ⟨heap_alloc_new W4 _⟩
  have hbA : Below w.heap.size w (W4.alloc (.cells #[.int .i64 ((b - a) % 360), .int .i64 ((b - a) % 360 - 360)] 3)) := hb4.alloc hb4.size _
  have hEA : Bx (TurnEnv (W4.alloc (.cells #[.int .i64 ((b - a) % 360), .int .i64 ((b - a) % 360 - 360)] 3)) (W4.alloc (.cells #[.int .i64 ((b - a) % 360), .int .i64 ((b - a) % 360 - 360)] 3)).heap.size l a W2.heap.size w.heap.size w1.heap.size) :=
    ⟨(hE4.out.below ((Below.refl _ _).alloc (Nat.le_refl _) _)).more (by simp)⟩
  have hL := hb4.size
  by_cases h0 : (b - a) % 360 = 0
  · have H0 := bx h0
    have hz0 : ((b - a) % 360 == 0) = true := by simp [h0]
    clear h0
    cases hf : fr l a ((b - a) % 360)
    all_goals
      have Hf := bx hf
      clear hf
      have T := bx (show turn l a b = if fr l a ((b - a) % 360) then (0, 0) else (0, 1) by unfold turn; rw [up_eq, if_pos H0.out, H0.out])
      go_wp2_with fail
    · refine (del_f l a ((b - a) % 360) ((b - a) % 360 - 360) W2.heap.size w.heap.size w1.heap.size W4.heap.size _ hG.out (by omega) hEA.out Hf.out).mono ?_
      rintro e w5 ⟨rfl, hi5, hg5⟩
      go_wp2
      go_ret2
      exact ⟨ret_tup2 (by rw [T.out, Hf.out]; rfl) (by rw [T.out, Hf.out]; rfl), hbA.grown hg5 hbA.size (fun k e => by cases e; omega)⟩
    · refine (del_t l a ((b - a) % 360) ((b - a) % 360 - 360) W2.heap.size w.heap.size w1.heap.size W4.heap.size _ hG.out (by omega) hEA.out Hf.out).mono ?_
      rintro e w5 ⟨rfl, hi5, hg5⟩
      go_wp2_with fail
      refine (min1 _ _ _ w5 hi5).mono ?_
      rintro e w6 ⟨rfl, rfl⟩
      go_wp2
      go_ret2
      exact ⟨ret_tup2 (by rw [T.out, Hf.out]; exact H0.out) (by rw [T.out, Hf.out]; rfl), hbA.grown hg5 hbA.size (fun k e => by cases e; omega)⟩
  · have H0 := bx h0
    have hz0 : ((b - a) % 360 == 0) = false := by simp [h0]
    clear h0
    have T := bx (show turn l a b = if fr l a ((b - a) % 360) && (!fr l a ((b - a) % 360 - 360) || decide ((b - a) % 360 ≤ 360 - (b - a) % 360)) then ((b - a) % 360, 0)
          else if fr l a ((b - a) % 360 - 360) then ((b - a) % 360 - 360, 0) else (0, 1) by
        unfold turn
        rw [up_eq, if_neg H0.out])
    cases hf : fr l a ((b - a) % 360) <;> cases hg : fr l a ((b - a) % 360 - 360)
    all_goals
      have Hf := bx hf
      have Hg := bx hg
      clear hf hg
      go_wp2_with fail
    · refine (del_ff l a ((b - a) % 360) ((b - a) % 360 - 360) W2.heap.size w.heap.size w1.heap.size W4.heap.size _ hG.out (by omega) (by omega) hEA.out Hf.out Hg.out).mono ?_
      rintro e w5 ⟨rfl, hi5, hg5⟩
      go_wp2
      go_ret2
      exact ⟨ret_tup2 (by rw [T.out, Hf.out, Hg.out]; rfl) (by rw [T.out, Hf.out, Hg.out]; rfl), hbA.grown hg5 hbA.size (fun k e => by cases e; omega)⟩
    · refine (del_ft l a ((b - a) % 360) ((b - a) % 360 - 360) W2.heap.size w.heap.size w1.heap.size W4.heap.size _ hG.out (by omega) (by omega) hEA.out Hf.out Hg.out).mono ?_
      rintro e w5 ⟨rfl, hi5, hg5⟩
      go_wp2_with fail
      refine (min1 _ _ _ w5 hi5).mono ?_
      rintro e w6 ⟨rfl, rfl⟩
      go_wp2
      go_ret2
      exact ⟨ret_tup2 (by rw [T.out, Hf.out, Hg.out]; rfl) (by rw [T.out, Hf.out, Hg.out]; rfl), hbA.grown hg5 hbA.size (fun k e => by cases e; omega)⟩
    · refine (del_tf l a ((b - a) % 360) ((b - a) % 360 - 360) W2.heap.size w.heap.size w1.heap.size W4.heap.size _ hG.out (by omega) (by omega) hEA.out Hf.out Hg.out).mono ?_
      rintro e w5 ⟨rfl, hi5, hg5⟩
      go_wp2_with fail
      refine (min1 _ _ _ w5 hi5).mono ?_
      rintro e w6 ⟨rfl, rfl⟩
      go_wp2
      go_ret2
      exact ⟨ret_tup2 (by rw [T.out, Hf.out, Hg.out]; rfl) (by rw [T.out, Hf.out, Hg.out]; rfl), hbA.grown hg5 hbA.size (fun k e => by cases e; omega)⟩
    · refine (del_tt l a ((b - a) % 360) ((b - a) % 360 - 360) W2.heap.size w.heap.size w1.heap.size W4.heap.size _ hG.out (by omega) (by omega) hEA.out Hf.out Hg.out).mono ?_
      rintro e w5 ⟨rfl, hi5, hg5⟩
      go_wp2_with fail
      obtain ⟨v, hv⟩ : ∃ v, v = (if ((b - a) % 360 - 360).natAbs < ((b - a) % 360).natAbs then (b - a) % 360 - 360 else (b - a) % 360) := ⟨_, rfl⟩
      have HV := bx hv
      clear hv
      refine (min2 _ _ _ _ w5 hi5 (by omega) (by omega)).mono ?_
      rintro e w6 ⟨rfl, rfl⟩
      rw [← HV.out]
      go_wp2
      go_ret2
      exact ⟨ret_tup2 (by rw [T.out, Hf.out, Hg.out]; exact HV.out.trans (min_turn u1 u2)) (by rw [T.out, Hf.out, Hg.out]; exact min_turn2), hbA.grown hg5 hbA.size (fun k e => by cases e; omega)⟩
end Go.Proofs.Ytaahdfmbbbjmaaa
