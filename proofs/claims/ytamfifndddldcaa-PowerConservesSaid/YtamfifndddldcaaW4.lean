/-
  Walk of layer 10: slices.Backward of stretches, its iterator.
-/
import Derived.Test.YtamfifndddldcaaW3
namespace Go.Proofs.Ytamfifndddldcaa
open Go.RowKit Go.Shelf
attribute [local go_sem] Oper.semAt_some

/-- a stretch's cells: ticks and surplus -/
def scs (x : Int × Int) : List Value := [.int .i64 x.1, .int .i64 x.2]
theorem scs_len (x : Int × Int) : (scs x).length = 2 := rfl
theorem scs_one (x : Int × Int) : ∀ u ∈ scs x, u.oneCell' = true := by simp [scs, Value.oneCell']
/-- what Backward hands out: an index, a stretch -/
abbrev BEl := { x : Int × (Int × Int) // 0 ≤ x.2.1 ∧ x.2.1 ≤ 10000000 ∧ -10000000 ≤ x.2.2 ∧ x.2.2 ≤ 10000000 }
def encB (x : BEl) : Array Value := #[.int .i64 x.1.1, .agg #[.int .i64 x.1.2.1, .int .i64 x.1.2.2]]
/-- what a round keeps: all cells but the block b -/
structure KeepX (b : Nat) (W W' : World) : Prop where
  size : W.heap.size ≤ W'.heap.size
  out : ∀ (i : Nat) (cs : Array Value) (t : TypeId) (fz : Nat × Nat), i ≠ b → W.heap[i]? = some (Obj.cells cs t fz) → W'.heap[i]? = some (Obj.cells cs t fz)
theorem KeepX.refl (b : Nat) (W : World) : KeepX b W W := ⟨Nat.le_refl _, fun _ _ _ _ _ h => h⟩
theorem KeepX.t {b : Nat} {A B C : World} (h : KeepX b A B) (k : KeepX b B C) : KeepX b A C := ⟨Nat.le_trans h.size k.size, fun i cs t fz hi hh => k.out i cs t fz hi (h.out i cs t fz hi hh)⟩
theorem KeepX.b {b : Nat} {w : World} (W : World) (l : Nat) (o o' : Obj) (_ : w.heap.size ≤ l) (ho : W.heap[l]? = some o) (hc : o.isCells = false) (_ : o.isWalk = false) : KeepX b W (W.putObj l o') :=
  ⟨(grownBy_putObj' W l o').size, fun i cs t fz _ hh => by
    have hne : i ≠ l := by
      rintro rfl
      rw [hh] at ho
      cases ho
      cases hc
    exact (World.putObj_heap_other hne).trans hh⟩
theorem KeepX.of_grown {b : Nat} {W W' : World} (h : W.grownBy W' none) : KeepX b W W' := ⟨h.size, fun i cs t fz _ hh => (h.block i (Array.getElem?_eq_some_iff.1 hh).1 (by simp)).trans hh⟩
theorem KeepX.of_below {b : Nat} {W W' : World} (h : Below W.heap.size W W') : KeepX b W W' := ⟨h.size, fun i _ _ _ _ hh => (h.block i (Array.getElem?_eq_some_iff.1 hh).1).trans hh⟩
theorem KeepX.set {b : Nat} {W W' : World} (h : KeepX b W W') (j : Nat) (u : Value) : KeepX b W (W'.setCell ⟨b, j, none⟩ u) :=
  ⟨by simpa using h.size, fun i cs t fz hi hh => (heap_set_off W' (Ne.symm hi) j u).trans (h.out i cs t fz hi hh)⟩
theorem KeepX.alloc {b : Nat} {W W' : World} (h : KeepX b W W') (o : Obj) : KeepX b W (W'.alloc o) := h.t (KeepX.of_grown (World.grownBy_alloc W' o none))
/-- the row that is read: it lies in a block of its own, but b -/
structure RowX (W : World) (b : Nat) (v : Value) (l : List (Int × Int)) : Prop where
  out : v = .slice none 0 0 ∧ l = [] ∨ ∃ (g cap : Nat) (cs : Array Value) (t : TypeId) (fz : Nat × Nat), v = .slice (some ⟨g, 0, none⟩) l.length cap ∧ g ≠ b ∧ W.heap[g]? = some (Obj.cells cs t fz) ∧ ∀ (j : Nat) (u : Value), (l.flatMap scs)[j]? = some u → cs[j]? = some u
theorem RowX.keep {W W' : World} {b : Nat} {v : Value} {l : List (Int × Int)} (h : RowX W b v l) (k : KeepX b W W') : RowX W' b v l := by
  rcases h.out with h | ⟨g, cap, cs, t, fz, h1, h2, h3, h4⟩
  · exact ⟨.inl h⟩
  · exact ⟨.inr ⟨g, cap, cs, t, fz, h1, h2, k.out g cs t fz h2 h3, h4⟩⟩
theorem RowX.at_ {W : World} {b : Nat} {A : Option Addr} {n c : Nat} {l : List (Int × Int)} (h : RowX W b (.slice A n c) l) {k : Nat} (hk : k < l.length) : ∃ g, A = some ⟨g, 0, none⟩ ∧ W.cell? ⟨g, k * 2, none⟩ = some (.int .i64 l[k].1) ∧ W.cell? ⟨g, k * 2 + 1, none⟩ = some (.int .i64 l[k].2) := by
  rcases h.out with ⟨_, rfl⟩ | ⟨g, cap, cs, t, fz, h1, h2, h3, h4⟩
  · simp at hk
  · injection h1 with e1 _ _
    refine ⟨g, e1, ?_, ?_⟩
    · rw [cell_of_row _ _ _ _ _ _ h3]
      exact h4 _ _ ((flat_at scs_len l k hk 0 (by omega)).trans rfl)
    · rw [cell_of_row _ _ _ _ _ _ h3]
      exact h4 _ _ ((flat_at scs_len l k hk 1 (by omega)).trans rfl)
theorem RowX.form {W : World} {b : Nat} {v : Value} {l : List (Int × Int)} (h : RowX W b v l) : ∃ A c, v = .slice A l.length c := by
  rcases h.out with ⟨rfl, rfl⟩ | ⟨g, cap, cs, t, fz, rfl, _⟩
  · exact ⟨_, _, rfl⟩
  · exact ⟨_, _, rfl⟩
theorem backward_calls (A : Option Addr) (n cap : Nat) (w : World) :
    Calls Try.prog 40 #[.slice A n cap] w fun e w' => e = .returned (.func (.func 51) #[] #[.pointer (some ⟨w.heap.size, 0, none⟩)]) ∧
      w' = w.alloc (.cells #[.slice A n cap] 69) := by
  go_enter Try.func40, Try.ntmps40
  go_wp2
  go_ret
  exact ⟨rfl, rfl⟩
theorem drop_rev {l : List (Int × Int)} {k : Nat} (hk : k < l.length) : l.reverse.take (l.length - (k + 1)) ++ [l[k]] = l.reverse.take (l.length - k) := by
  rw [show l.length - k = l.length - (k + 1) + 1 by omega, List.take_succ_eq_append_getElem (by simp; omega), List.getElem_reverse]
  congr 3
  omega
set_option maxRecDepth 10000 in
theorem back_in (n l b bq : Nat) (A : Option Addr) (cap : Nat) (m : List (Int × Int)) (hm : m.length ≤ 1000000) (hw : ∀ x ∈ m, 0 ≤ x.1 ∧ x.1 ≤ 10000000 ∧ -10000000 ≤ x.2 ∧ x.2 ≤ 10000000) (J Jx : List BEl → World → Prop)
    (hY : ∀ pre x W, J pre W → pre.length < m.length → YieldAt Fence.wide (n - 1) Try.prog l (encB x) W fun e W' =>
      (e = .returned (.bool true) ∧ J (pre ++ [x]) W' ∧ KeepX b W W') ∨ (e = .returned (.bool false) ∧ Jx (pre ++ [x]) W'))
    (W0 : World) (hR : RowX W0 b (.slice A m.length cap) m) (hB : Boxed W0 bq 69 (.slice A m.length cap)) (hne : bq ≠ b) (h0 : J [] W0) :
    CallsIn Fence.wide n Try.prog 51 #[.func (.yield l) #[] #[], .pointer (some ⟨bq, 0, none⟩)] W0 fun e W' => (∃ v, e = .returned v) ∧
      ((∃ xs : List BEl, xs.map (·.1.2) = m.reverse ∧ J xs W') ∨ (∃ pre : List BEl, True ∧ Jx pre W')) := by
  have c0 := hB.cell
  have HR := bx hR
  have HB := bx hB
  have HW := bx hw
  clear hR hB hw
  refine callsIn_of_wp Try.func51 rfl trivial ?_ rfl
  simp only [Try.ntmps51, List.size_toArray, List.length_cons, List.length_nil, Nat.reduceAdd, Nat.reduceSub, Array.replicate_succ, Array.replicate_zero, List.push_toArray, List.append_toArray, List.nil_append, List.cons_append]
  gi_wp2
  gi_loopw [3] (fun v3 wr => ∃ (k : Nat) (pre : List BEl), k ≤ m.length ∧ v3 = .int .i64 ((k : Int) - 1) ∧ J pre wr ∧ KeepX b W0 wr ∧ pre.map (·.1.2) = m.reverse.take (m.length - k)) (fun v3 _ => (intOf v3 + 1).toNat)
  case atStart => exact ⟨m.length, [], Nat.le_refl _, rfl, h0, KeepX.refl _ _, by simp⟩
  case round =>
    obtain ⟨k, pre, hk, rfl, hJk, hK, hP⟩ := hrel
    clear c0 h0
    have c0 := Boxed.cell (show Boxed wr bq 69 (.slice A m.length cap) from hK.out _ _ _ _ hne HB.out)
    have HK := bx hK
    have HP := bx hP
    clear hK hP
    by_cases hlt : 0 < k
    · obtain ⟨k, rfl⟩ : ∃ j, k = j + 1 := ⟨k - 1, by omega⟩
      have hkl : k < m.length := by omega
      obtain ⟨g, rfl, c1, c2⟩ := (HR.out.keep HK.out).at_ hkl
      have hwk := HW.out m[k] (List.getElem_mem hkl)
      have hd := drop_rev hkl
      obtain ⟨Y, hY0⟩ : ∃ Y, m[k] = Y := ⟨_, rfl⟩
      rw [hY0] at c1 c2 hwk hd
      clear hY0
      have hP2 := HP.out
      have hlen : pre.length < m.length := by
        have := congrArg List.length hP2
        simp at this
        omega
      have hnx : (pre ++ [(⟨((k : Int), Y), hwk⟩ : BEl)]).map (·.1.2) = m.reverse.take (m.length - k) := by
        rw [List.map_append, hP2, ← hd]; rfl
      have HN := bx hnx
      obtain ⟨fn, tmps, assign, body, hy, hR⟩ := hY pre ⟨((k : Int), Y), hwk⟩ _ hJk hlen
      simp only [encB] at hy
      clear hnx hP2 hd hlen
      obtain ⟨y1, y2⟩ := Y
      simp only at c1 c2 hy
      gi_wp2
      refine ⟨wide_n, hR.mono ?_⟩
      rintro e W3 (⟨rfl, hJ3, hk3⟩ | ⟨rfl, hJx3⟩)
      · have HK3 := bx (HK.out.t hk3)
        gi_wp2
        go_roundw
        case rel => exact ⟨k, _, by omega, by first | rfl | (congr 1; omega), hJ3, HK3.out, HN.out⟩
        case measure => simp [intOf]
      · gi_wp2
        refine bodyPost_ret (results_none rfl _ _ _) rfl ?_
        exact ⟨⟨_, rfl⟩, .inr ⟨_, trivial, hJx3⟩⟩
    · obtain rfl : k = 0 := by omega
      have hP2 := HP.out
      rw [Nat.sub_zero, List.take_of_length_le (by simp)] at hP2
      have HP2 := bx hP2
      clear hP2
      gi_wp2
      go_end0
      exact ⟨⟨_, rfl⟩, .inl ⟨_, HP2.out, hJk⟩⟩
/-- the iterator of Backward, as its callers use it -/
theorem back_stops (n b bq : Nat) (A : Option Addr) (cap : Nat) (m : List (Int × Int)) (hm : m.length ≤ 1000000) (hw : ∀ x ∈ m, 0 ≤ x.1 ∧ x.1 ≤ 10000000 ∧ -10000000 ≤ x.2 ∧ x.2 ≤ 10000000) (w : World)
    (hR : RowX w b (.slice A m.length cap) m) (hB : Boxed w bq 69 (.slice A m.length cap)) (hne : bq ≠ b) :
    SeqStopsK Fence.wide n Try.prog 51 #[.pointer (some ⟨bq, 0, none⟩)] encB (KeepX b) (fun xs => xs.map (·.1.2) = m.reverse) (fun _ => True) m.length w :=
  fun l J Jx W hW _ _ hY h0 => by
    have hk := KeepX.of_below (b := b) hW
    exact back_in n l b bq A cap m hm hw J Jx hY W (hR.keep hk) (hk.out _ _ _ _ hne hB) hne h0
end Go.Proofs.Ytamfifndddldcaa
