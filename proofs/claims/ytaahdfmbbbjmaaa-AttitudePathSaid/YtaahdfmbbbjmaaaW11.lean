/-
  Walks of layer 12: Worst.
-/
import Derived.Test.YtaahdfmbbbjmaaaW10
namespace Go.Proofs.Ytaahdfmbbbjmaaa
open Go.RowKit Go.Shelf
attribute [local go_sem] Oper.semAt_some

/-- what holds between two rounds of Worst's loop -/
def WorstI (l : ArcL) (W2 : World) (pre : List Dir) (W : World) : Prop :=
  ∃ r m : Nat, (r, m) = scan (pre.map fun x => av l x.1) (0, 0) ∧ r ≤ pre.length ∧ m ≤ pre.length ∧ Boxed W W2.heap.size 3 (.int .i64 r) ∧ Boxed W (W2.heap.size + 1) 3 (.int .i64 m) ∧ Below W2.heap.size W2 W
theorem KeepB.set {b1 b2 : Nat} (W : World) (p : Addr) (v : Value) (h1 : b1 ≠ p.block) (h2 : b2 ≠ p.block) : KeepB b1 b2 W (W.setCell p v) := ⟨by simp [World.setCell], Below.heap_setCell _ _ _ _ h1, Below.heap_setCell _ _ _ _ h2⟩
theorem boxed_far {W : World} {B : Nat} {t : TypeId} {v : Value} (h : Boxed W B t v) (p : Addr) (u : Value) (hp : B ≠ p.block) : Boxed (W.setCell p u) B t v := (Below.heap_setCell _ _ _ _ hp).trans h
theorem boxed_of {W : World} {B : Nat} {t : TypeId} {k : IntKind} {a b : Int} (e : a = b) (h : Boxed W B t (.int k a)) : Boxed W B t (.int k b) := by rw [← e]; exact h
theorem scan_way {l : ArcL} {s : Int} : scan ((wayList s 359 360).map fun x => av l x.1) (0, 0) = scan ((List.range 360).map fun d : Nat => av l (s + d)) (0, 0) := by
  congr 1
  unfold wayList
  rw [List.map_map]
  apply List.map_congr_left
  intro k _
  simp only [Function.comp, wayDir, stepTo]
  rw [av_mod, if_neg (by omega)]
set_option maxRecDepth 10000 in
theorem index_true (B c : Nat) (l : ArcL) (w : World) (h : Marked w B l) :
    Calls Try.prog 42 #[.slice (some ⟨B, 0, none⟩) 360 c, .bool true] w fun e w' => (∃ i : Int, e = .returned (.int .i64 i) ∧ -1 ≤ i ∧ i < 360 ∧ (i < 0 → ∀ s : Int, 0 ≤ s → s < 360 → av l s = false) ∧ (0 ≤ i → av l i = true)) ∧ w = w' := by
  obtain ⟨N, hN⟩ : ∃ N : Nat, N = 360 := ⟨_, rfl⟩
  have n1 : (N : Int) ≤ 360 := by omega
  have n2 : 360 ≤ (N : Int) := by omega
  clear hN
  go_enter Try.func42, Try.ntmps42
  go_wp2
  go_loop [8] (fun i => ∃ k : Nat, k ≤ N ∧ i = .int .i64 k ∧ ∀ s : Int, 0 ≤ s → s < k → av l s = false) (fun i => N - (intOf i).toNat)
  case atStart => exact ⟨0, Nat.zero_le _, rfl, fun s h1 h2 => by omega⟩
  case round =>
    obtain ⟨k, hk, rfl, hno⟩ := hrel
    have Hno := bx hno
    clear hno
    by_cases hlt : k < N
    · have hc : w.cell? ⟨B, k, none⟩ = some (.bool (av l k)) := h k (by omega) (by omega)
      cases hi : av l (k : Int)
      · have Hi := bx hi
        rw [hi] at hc
        clear hi
        go_wp2
        go_round
        case rel => exact ⟨k + 1, by omega, by go_num, fun s h1 h2 => by
          by_cases hs : s = k
          · rw [hs]; exact Hi.out
          · exact Hno.out s h1 (by omega)⟩
        case measure => simp [intOf]; omega
      · have Hi := bx hi
        rw [hi] at hc
        clear hi
        go_wp2
        go_ret
        exact ⟨⟨k, rfl, by omega, by omega, fun hh => by omega, fun _ => Hi.out⟩, rfl⟩
    · go_wp2
      go_ret
      exact ⟨⟨-1, rfl, by omega, by omega, fun _ s h1 h2 => Hno.out s h1 (by omega), fun hh => by omega⟩, rfl⟩
theorem att_worst (A : Option Addr) (c : Nat) (l : ArcL) (w : World) (h : Arcs w w.heap.size A l) (hm : l.length ≤ 100) (ho : OkArcs l) :
    Calls Try.prog 25 #[.slice A l.length c] w fun e w' => e = .returned (.int .i64 (worstOf l)) ∧ Below w.heap.size w w' := by
  refine (callsIn_wide (n := 3)).1 ?_
  refine callsIn_of_wp_marks Try.func25 rfl trivial (wpIn_wide.2 ?_) rfl
  simp only [Try.ntmps25, List.size_toArray, List.length_cons, List.length_nil, Nat.reduceAdd, Nat.reduceSub, Array.replicate_succ, Array.replicate_zero, List.push_toArray, List.append_toArray, List.nil_append, List.cons_append]
  have hz := zero48
  go_wp2_with fail
  refine (marks_calls A c l w h hm ho).mono ?_
  rintro e w1 ⟨cs, rfl, hcs, hb1⟩
  have HM := bx hcs
  have h1c := bx hcs.one
  have hsz := bx hcs.size
  have ht : (w1.alloc (.cells zArr 48)).there w1.heap.size 0 cs.size := by
    rw [hcs.size, ← zArr_size]
    exact there_of_heap (heap_alloc_new w1 _)
  clear hcs
  have hS1 := hb1.size
  go_wp2_with (refine wpList_store_mid rfl 48 _ _ rfl w1.heap.size 0 cs rfl rfl ht (by rw [hsz.out]; exact Try.size48) h1c.out ?_)
  obtain ⟨W2, hW2⟩ : ∃ W2, (w1.alloc (.cells zArr 48)).setCells w1.heap.size 0 cs.toList = W2 := ⟨_, rfl⟩
  rw [hW2]
  have hB2 : Below w1.heap.size w1 W2 := by
    rw [← hW2]
    exact ((Below.refl _ w1).alloc (Nat.le_refl _) _).trans (below_setCells _ (Nat.le_refl _) _ _ _)
  have s2 : w1.heap.size < W2.heap.size := by
    rw [← hW2]
    have := (below_setCells (B := w1.heap.size) w1.heap.size (Nat.le_refl _) cs.toList 0 (w1.alloc (.cells zArr 48))).size
    simp at this; omega
  have hM2 : Marked W2 w1.heap.size l := by
    intro i i0 i1
    have := World.rangeAt_setCells_same (w1.alloc (.cells zArr 48)) w1.heap.size 0 cs.toList (by simpa using ht) i.toNat (.bool (av l i)) (by
      rw [Array.getElem?_toList, HM.out.at_ _ (by omega), show ((i.toNat : Nat) : Int) = i by omega])
    rw [← hW2]
    rwa [Nat.zero_add] at this
  have hbb : Below w.heap.size w W2 := hb1.trans (hB2.mono hS1)
  clear hW2 ht
  refine (index_true _ _ l _ hM2).mono ?_
  rintro e w' ⟨⟨i, rfl, i1, i2, hneg, hpos⟩, rfl⟩
  by_cases hi : i < 0
  · have E := bx (worst_none (hneg hi))
    clear hneg hpos
    go_wp2
    exact ⟨.int .i64 180, results_tmp (t := 2) rfl _ _ _, ret_int E.out.symm, hbb⟩
  · have HP := bx (hpos (by omega))
    clear hneg hpos
    go_wp2_with (go_at_call 36; refine (way_calls _ _ _).mono ?_; rintro e w' ⟨rfl, rfl⟩)
    obtain ⟨W3, hW3⟩ : ∃ W3, (((W2.alloc (.cells #[.int .i64 0] 3)).alloc (.cells #[.int .i64 0] 3)).alloc (.cells #[.int .i64 i] 3)).alloc (.cells #[.int .i64 359] 3) = W3 := ⟨_, rfl⟩
    rw [hW3]
    have s3 : W3.heap.size = W2.heap.size + 4 := by rw [← hW3]; simp
    have hB3 : Below W2.heap.size W2 W3 := by rw [← hW3]; exact ((((Below.refl _ _).alloc (Nat.le_refl _) _).alloc (by simp) _).alloc (by simp; omega) _).alloc (by simp; omega) _
    have x0 : Boxed W3 W2.heap.size 3 (.int .i64 0) := by rw [← hW3]; exact (((Boxed.new W2 3 _).alloc _).alloc _).alloc _
    have x1 : Boxed W3 (W2.heap.size + 1) 3 (.int .i64 0) := by
      rw [← hW3]; have := Boxed.new (W2.alloc (.cells #[.int .i64 0] 3)) 3 (.int .i64 0); rw [World.size_alloc] at this; exact (this.alloc _).alloc _
    have x2 : Boxed W3 (W2.heap.size + 2) 3 (.int .i64 i) := by
      rw [← hW3]; have := Boxed.new ((W2.alloc (.cells #[.int .i64 0] 3)).alloc (.cells #[.int .i64 0] 3)) 3 (.int .i64 i); rw [World.size_alloc, World.size_alloc] at this; exact this.alloc _
    have x3 : Boxed W3 (W2.heap.size + 3) 3 (.int .i64 359) := by
      rw [← hW3]; have := Boxed.new (((W2.alloc (.cells #[.int .i64 0] 3)).alloc (.cells #[.int .i64 0] 3)).alloc (.cells #[.int .i64 i] 3)) 3 (.int .i64 359); rw [World.size_alloc, World.size_alloc, World.size_alloc] at this; exact this
    have hb3 : Below w.heap.size w W3 := hbb.trans (hB3.mono (by omega))
    have hmk : ∀ W, Below W2.heap.size W2 W → Marked W w1.heap.size l := fun W hb j j0 j1 => (hb.cell (p := ⟨w1.heap.size, j.toNat, none⟩) s2).trans (hM2 j j0 j1)
    clear hW3 hM2
    refine wpIn_wide.1 (wpIn_rangeFunc_ownG (n := 3) rfl (by omega) (gf := 44) (lb := #[.pointer (some ⟨W2.heap.size + 3, 0, none⟩), .pointer (some ⟨W2.heap.size + 2, 0, none⟩)]) (by simp [Act.eval]) trivial (enters_of Try.func44 (by kernel_rfl) rfl)
      (way_stops _ (W2.heap.size + 3) (W2.heap.size + 2) i 359 W3 (by omega) (by omega) (by omega) (by omega) x3.cell x2.cell) KeepB.t (KeepB.b (by omega) (by omega)) (Below.refl _ _) (fun _ => rfl)
      (WorstI l W2)
      (fun _ _ _ => False)
      (fun s X Y row ⟨r, m, h1, h2, h3, h4, h5, h6⟩ hg hr => ⟨r, m, h1, h2, h3, heap_kept h4 hg (fun r e => (hr r e).2), heap_kept h5 hg (fun r e => (hr r e).2), h6.grown hg h6.size (fun r e => by have := (hr r e).1; omega)⟩)
      (fun _ _ _ _ _ h _ _ => h)
      ⟨0, 0, rfl, Nat.le_refl _, Nat.le_refl _, x0, x1, hB3⟩
      (fun x => { tmps := #[.slice A l.length c, undef, .int .i64 0, .pointer (some ⟨w1.heap.size, 0, none⟩), .int .i64 i, .pointer (some ⟨W2.heap.size, 0, none⟩), .pointer (some ⟨W2.heap.size + 1, 0, none⟩), .int .i64 x.1, .slice A l.length c, .agg cs, .slice (some ⟨w1.heap.size, 0, none⟩) 360 360, .int .i64 i, .int .i64 i, .bool (decide (i < 0)), .int .i64 i, .func (.func 44) #[] #[.pointer (some ⟨W2.heap.size + 3, 0, none⟩), .pointer (some ⟨W2.heap.size + 2, 0, none⟩)], .int .i64 x.1, undef, undef, undef, undef, undef, undef, undef, undef, undef, undef, undef], defers := [] }) ?assign ?body ?done ?stop)
    case assign =>
      intro lp x W K hK
      simp only [encDir]
      gi_wp2
      exact hK
    case body =>
      rintro lp pre x W ⟨r, m, h1, h2, h3, h4, h5, h6⟩ hlen
      have hx1 := x.2.1
      have hx2 := x.2.2
      have hc := hmk W h6 x.1 hx1 hx2
      have hlen' : pre.length < 360 := hlen
      have H1 := bx h1
      have H4 := bx h4
      have H5 := bx h5
      have k4 := h4.cell
      have f4 := h4.frozen
      have k5 := h5.cell
      have f5 := h5.frozen
      clear h1 h4 h5 hlen
      cases hv : av l x.1
      · have Hv := bx hv
        rw [hv] at hc
        clear hv
        have HS := bx (show (r + 1, max m (r + 1)) = scan ((pre ++ [x]).map fun x => av l x.1) (0, 0) by rw [List.map_append, List.map_singleton, scan_snoc, ← H1.out, Hv.out]; rfl)
        gi_wp2
        all_goals
          refine ⟨((KeepsOthers.setCell _ _ _).trans (KeepsOthers.setCell _ _ _)).from _, (KeepB.set _ _ _ (by simp) (by simp)).t (KeepB.set _ _ _ (by simp) (by simp)), r + 1, max m (r + 1), HS.out, by simp; omega, by simp; omega,
            boxed_far (Boxed.set (.int .i64 ((r : Int) + 1)) H4.out) _ _ (by simp), boxed_of ?_ (Boxed.set _ (boxed_far H5.out ⟨W2.heap.size, 0, none⟩ (.int .i64 ((r : Int) + 1)) (by simp))), (h6.setCell (Nat.le_refl _) _).setCell (by simp) _⟩
          omega
      · have Hv := bx hv
        rw [hv] at hc
        clear hv
        have HS := bx (show (0, m) = scan ((pre ++ [x]).map fun x => av l x.1) (0, 0) by rw [List.map_append, List.map_singleton, scan_snoc, ← H1.out, Hv.out]; simp)
        gi_wp2
        exact ⟨(((KeepsOthers.setCell _ _ _).trans (KeepsOthers.setCell _ _ _)).trans (KeepsOthers.setCell _ _ _)).from _, ((KeepB.set _ _ _ (by simp) (by simp)).t (KeepB.set _ _ _ (by simp) (by simp))).t (KeepB.set _ _ _ (by simp) (by simp)), 0, m, HS.out, by omega, by simp; omega,
            boxed_far (Boxed.set (.int .i64 0) (Boxed.set (.int .i64 ((r : Int) + 1)) H4.out)) _ _ (by simp), Boxed.set _ (boxed_far (boxed_far H5.out ⟨W2.heap.size, 0, none⟩ (.int .i64 ((r : Int) + 1)) (by simp)) ⟨W2.heap.size, 0, none⟩ (.int .i64 0) (by simp)), ((h6.setCell (Nat.le_refl _) _).setCell (Nat.le_refl _) _).setCell (by simp) _⟩
    case done =>
      rintro D xs W hD rfl ⟨r, m, h1, h2, h3, h4, h5, h6⟩ hK
      have HW := bx (show max ((m : Nat) - 1 : Int) 0 = worstOf l by
        rw [← worst_win HP.out]
        have : m = bestOf 360 fun d => av l (i + d) := by
          unfold bestOf
          rw [← scan_way, show (wayList i 359 360) = wayList i 359 ((359 : Int).natAbs + 1) from rfl, ← h1]
        rw [← this])
      have k5 := h5.cell
      have hlen : m ≤ 360 := by rw [wayList_len] at h3; exact h3
      clear h1 h2 h3
      go_wp2
      all_goals
        refine ⟨by simp, .inl ⟨_, _, rfl, run_takeDeferred hK, ?_⟩⟩
        have hbD := belowK_b (n₀ := W2.heap.size) (w := W3) (by omega) W D _ (.deferred none) hD hK rfl rfl
        refine ⟨_, results_tmp (t := 2) rfl _ _ _, ret_int ?_, hbb.trans ((h6.trans hbD).mono (by omega))⟩
        rw [← HW.out]
        omega
    case stop =>
      rintro D c pre W _ _ h _
      exact h.elim
end Go.Proofs.Ytaahdfmbbbjmaaa
