/-
  Walks of layer 30: perigeeref30.Made.
-/
import Derived.Test.YtgfmnolghbiedaaDoorK16
import Derived.IntWalk
namespace Go.Proofs.YtgfmnolghbiedaaDoor
open Go.RowKit

/-- the slice at A holds the bytes xs, below block B -/
structure Byts (w : World) (B : Nat) (A : Option Addr) (xs : List Int) : Prop where
  at_ : ∀ k (hk : k < xs.length), ∃ b off, A = some ⟨b, off, none⟩ ∧ b < B ∧ w.cell? ⟨b, off + k, none⟩ = some (.int .u8 xs[k]) ∧ 0 ≤ xs[k] ∧ xs[k] ≤ 255
theorem Byts.below {w w' : World} {B : Nat} {A : Option Addr} {xs : List Int} (h : Byts w B A xs) (hb : Below B w w') : Byts w' B A xs :=
  ⟨fun k hk => by
    obtain ⟨b, off, e, hlt, c, r⟩ := h.at_ k hk
    exact ⟨b, off, e, hlt, (hb.cell (p := ⟨b, off + k, none⟩) hlt).trans c, r⟩⟩
theorem Byts.more {w : World} {B B' : Nat} {A : Option Addr} {xs : List Int} (h : Byts w B A xs) (hB : B ≤ B') : Byts w B' A xs :=
  ⟨fun k hk => by
    obtain ⟨b, off, e, hlt, c⟩ := h.at_ k hk
    exact ⟨b, off, e, by omega, c⟩⟩
theorem frozen_alloc_lt {w : World} {a : Addr} (o : Obj) (h : a.block < w.heap.size) : (w.alloc o).frozen? a = w.frozen? a := ((Below.refl w.heap.size w).alloc (Nat.le_refl _) o).frozen h
theorem cell_alloc_lt {w : World} {a : Addr} (o : Obj) (h : a.block < w.heap.size) : (w.alloc o).cell? a = w.cell? a := ((Below.refl w.heap.size w).alloc (Nat.le_refl _) o).cell h
/-- the lists of a made graph -/
def madeL (l : List Int) (n : Nat) : List (List Int) := l.map fun x => bitsN x n
/-- what Made answers -/
def GraphPost (w : World) (n : Nat) (sh : List (List Int)) (e : Ending) (Y : World) : Prop :=
  ∃ (A : Option Addr) (c : Nat), e = .returned (.agg #[.int .i64 n, .slice A sh.length c]) ∧ Lists Y Y.heap.size A sh ∧ Below w.heap.size w Y
/-- what holds at the head of each round of Made -/
def MadeAt (l : List Int) (n most : Nat) (w : World) (i : Value) (wr : World) : Prop :=
  ∃ (k : Nat) (ys : List Slc) (v : Value), i = .int .i64 k ∧ k ≤ l.length ∧ k ≤ most ∧ ys.map (·.s) = madeL (l.take k) n ∧ wr.heap[w.heap.size + 1]? = some (.cells #[.int .i64 n, v] 35 (0, 0)) ∧
    wr.heap[w.heap.size]? = some (.cells #[.int .i64 0, .slice none 0 0] 35 (0, 0)) ∧ wr.ownsRow (w.heap.size + 2) 32 1 v ys.length (ys.map Slc.v) ∧ (∀ y ∈ ys, wr.ownsRow (w.heap.size + 2) 3 1 y.v y.s.length (ic y.s)) ∧ Below w.heap.size w wr ∧ w.heap.size + 2 ≤ wr.heap.size
theorem madeL_len (l : List Int) (n : Nat) : (madeL l n).length = l.length := by simp [madeL]
theorem madeL_succ {l : List Int} {k : Nat} (n : Nat) (hk : k < l.length) : madeL (l.take (k + 1)) n = madeL (l.take k) n ++ [bitsN l[k] n] := by
  rw [List.take_succ_eq_append_getElem hk, madeL, madeL, List.map_append]; rfl
theorem own_setCell {w : World} {base size n : Nat} {e : TypeId} {v : Value} {xs : List Value} (h : w.ownsRow base e size v n xs) {a : Addr} (ha : a.block < base) (u : Value) : (w.setCell a u).ownsRow base e size v n xs := ownsRow_setCell_below h ha u
theorem own_apart {W w1 : World} {B n size B' n' size' : Nat} {e e' : TypeId} {v v' : Value} {xs xs' : List Value} (h : W.ownsRow B e size v n xs) (h' : W.ownsRow B' e' size' v' n' xs') (hne : e ≠ e') (hg : W.grownBy w1 v'.ownBlock) : w1.ownsRow B e size v n xs := by
  refine h.kept hg ?_
  rcases h.2 with ⟨rfl, _⟩ | ⟨g, cap, cur, rfl, _, hh, _⟩
  · exact .inl rfl
  · refine .inr fun e0 => ?_
    rcases h'.2 with ⟨rfl, _⟩ | ⟨g', cap', cur', rfl, _, hh', _⟩
    · simp [Value.ownBlock] at e0
    · have : g = g' := by simpa [Value.ownBlock] using e0
      subst this
      rw [hh] at hh'
      injection hh' with hh'
      injection hh' with _ h2 _
      exact hne h2
theorem size_drew' (w : World) : w.drew.heap.size = w.heap.size := rfl
theorem own_call {W W' : World} {B n size : Nat} {e : TypeId} {v : Value} {xs : List Value} (h : W.ownsRow B e size v n xs) (hb : Below W.heap.size W W') : W'.ownsRow B e size v n xs := h.kept (grown_of_below hb none) (by cases v.ownBlock <;> simp)
/-- one round of Made -/
theorem made_next {l : List Int} {n most k : Nat} {w wr w5 w7 : World} {ys : List Slc} {v : Value} {x : Int} {A2 : Option Addr} {c2 g cap : Nat}
    (hkl : k < l.length) (hkm : k < most) (hys : ys.map (·.s) = madeL (l.take k) n) (Hms : madeL (l.take (k + 1)) n = madeL (l.take k) n ++ [bitsN x n])
    (g1 : wr.heap[w.heap.size + 1]? = some (.cells #[.int .i64 n, v] 35 (0, 0))) (g0 : wr.heap[w.heap.size]? = some (.cells #[.int .i64 0, .slice none 0 0] 35 (0, 0)))
    (hrow : wr.ownsRow (w.heap.size + 2) 32 1 v ys.length (ys.map Slc.v)) (hown : ∀ y ∈ ys, wr.ownsRow (w.heap.size + 2) 3 1 y.v y.s.length (ic y.s)) (hbw : Below w.heap.size w wr) (hsz : w.heap.size + 2 ≤ wr.heap.size)
    (o2 : w5.ownsRow wr.drew.heap.size 3 1 (.slice A2 (bitsN x n).length c2) (bitsN x n).length (ic (bitsN x n))) (hb5 : Below wr.drew.heap.size wr.drew w5)
    (o7 : w7.ownsRow (w.heap.size + 2) 32 1 (.slice (some ⟨g, 0, none⟩) (ys.length + 1) cap) (ys.length + 1) (ys.map Slc.v ++ [.slice A2 (bitsN x n).length c2]))
    (g7 : (w5.alloc (.cells #[.slice A2 (bitsN x n).length c2] 32)).grownBy w7 v.ownBlock) :
    MadeAt l n most w (.int .i64 (k + 1 : Nat)) (w7.setCell ⟨w.heap.size + 1, 1, none⟩ (.slice (some ⟨g, 0, none⟩) (ys.length + 1) cap)) := by
  have hs5 := hb5.size
  simp only [size_drew'] at hs5
  have hs7 := g7.size
  rw [World.size_alloc] at hs7
  have hvb : ∀ r, v.ownBlock = some r → w.heap.size + 2 ≤ r := fun r e => (own_lt hrow e).1
  have blk : ∀ b, b < w.heap.size + 2 → w7.heap[b]? = wr.heap[b]? := fun b hb =>
    (g7.block b (by rw [World.size_alloc]; omega) (fun e => by have := hvb b e.symm; omega)).trans ((Below.heap_alloc _ _ _ (by omega)).trans (hb5.block b (by simp only [size_drew']; omega)))
  have hb7 : Below (w.heap.size + 2) wr w7 := (((Below.refl _ wr).drew.trans (hb5.mono (by simp only [size_drew']; omega))).alloc (by omega) _).grown g7 (by rw [World.size_alloc]; omega) hvb
  have hbd : Below wr.heap.size wr w5 := (Below.refl _ wr).drew.trans hb5
  have hr5 := (own_call hrow hbd).alloc (.cells #[.slice A2 (bitsN x n).length c2] 32)
  have oy : ∀ y ∈ ys, w7.ownsRow (w.heap.size + 2) 3 1 y.v y.s.length (ic y.s) := by
    intro y hy
    exact own_apart (own_call (hown y hy) hbd |>.alloc _) hr5 (by decide) g7
  refine ⟨k + 1, ys ++ [⟨A2, c2, bitsN x n⟩], .slice (some ⟨g, 0, none⟩) (ys.length + 1) cap, rfl, by omega, by omega, by rw [List.map_append, hys, Hms]; rfl, ?_, ?_, ?_, ?_, ?_, by rw [World.size_setCell]; omega⟩
  · rw [heap_setCell_same _ _ _ _ _ _ ((blk _ (by omega)).trans g1)]; rfl
  · rw [heap_setCell_other _ _ _ _ (by simp)]; exact (blk _ (by omega)).trans g0
  · rw [List.length_append, List.map_append]; exact own_setCell o7 (by simp) _
  · intro y hy
    refine own_setCell ?_ (by simp) _
    rcases List.mem_append.1 hy with hy | hy
    · exact oy y hy
    · obtain rfl := List.mem_singleton.1 hy
      exact own_apart ((own_base o2 (by simp only [size_drew']; omega)).alloc _) hr5 (by decide) g7
  · exact (hbw.trans (hb7.mono (by omega))).setCell (by simp) _
set_option maxRecDepth 10000 in
set_option maxHeartbeats 1600000 in
theorem madeG_calls (q : Int) (A : Option Addr) (c : Nat) (l : List Int) (most : Nat) (w : World) (h : Byts w w.heap.size A l) (hm : l.length ≤ 9223372036854775807) (hq0 : 0 ≤ q) (hq1 : q ≤ 255) (hmost : most ≤ 100) :
    Calls Tryd.prog 17 #[.int .u8 q, .slice A l.length c, .int .i64 most] w (GraphPost w (q % 9).toNat (madeL (l.take most) (q % 9).toNat)) := by
  obtain ⟨i0, hi, hz0, hz1, hz2⟩ := info_parts Tryd.infoInts
  go_enter Tryd.func17, Tryd.ntmps17
  go_wp2
  obtain ⟨W0, hW0⟩ : ∃ W0, (w.alloc (.cells #[.int .i64 0, .slice none 0 0] 35)).alloc (.cells #[.int .i64 (q % 9), .slice none 0 0] 35) = W0 := ⟨_, rfl⟩
  have s0 : W0.heap.size = w.heap.size + 2 := by rw [← hW0]; simp
  have hB0 : Below w.heap.size w W0 := by rw [← hW0]; exact ((Below.refl _ w).alloc (Nat.le_refl _) _).alloc (by simp) _
  have hn : ((q % 9).toNat : Int) = q % 9 := by omega
  have e0 : W0.heap[w.heap.size]? = some (.cells #[.int .i64 0, .slice none 0 0] 35 (0, 0)) := by rw [← hW0]; exact (Below.heap_alloc _ _ _ (by simp)).trans (heap_alloc_new w _)
  have e1 : W0.heap[w.heap.size + 1]? = some (.cells #[.int .i64 (q % 9), .slice none 0 0] 35 (0, 0)) := by rw [← hW0]; have := heap_alloc_new (w.alloc (.cells #[.int .i64 0, .slice none 0 0] 35)) (.cells #[.int .i64 (q % 9), .slice none 0 0] 35); rwa [World.size_alloc] at this
  rw [hW0]
  clear hW0
  go_loopw [8] (fun i wr => MadeAt l (q % 9).toNat most w i wr) (fun i _ => l.length - (intOf i).toNat)
  case atStart => exact ⟨0, [], .slice none 0 0, rfl, by omega, by omega, by simp [madeL], by rw [hn]; exact e1, e0, World.ownsRow_nil _ _ _ _, by simp, hB0, by omega⟩
  case round =>
    obtain ⟨k, ys, v, rfl, hk1, hk2, hys, g1, g0, hrow, hown, hbw, hsz⟩ := hrel
    have q0 : wr.cell? ⟨w.heap.size + 1, 0, none⟩ = some (.int .i64 (q % 9).toNat) := by rw [cell_of_row _ _ _ _ _ _ g1]; rfl
    have q1 : wr.cell? ⟨w.heap.size + 1, 1, none⟩ = some v := by rw [cell_of_row _ _ _ _ _ _ g1]; rfl
    have q2 : wr.frozen? ⟨w.heap.size + 1, 1, none⟩ = false := by simp [World.frozen?, g1]
    by_cases hlt : k < l.length ∧ k < most
    · obtain ⟨b, off, rfl, hb, cb, x0, x1⟩ := (h.below hbw).at_ k hlt.1
      have t1 : (k : Int) < (l.length : Int) := by omega
      have t2 : (k : Int) < (most : Int) := by omega
      have t3 : (0 : Int) ≤ (k : Int) := by omega
      have Hms := bx (madeL_succ (q % 9).toNat hlt.1)
      generalize l[k]'(hlt.1) = x at *
      have hn9 : (q % 9).toNat ≤ 8 := by omega
      have HN := bx hn
      clear hn
      generalize (q % 9).toNat = n at *
      have hwx : IntKind.i64.wrap x = x := IntWalk.i64_in _ (by omega)
      have hyl : ys.length ≤ most := by have := congrArg List.length hys; rw [madeL_len, List.length_map, List.length_take] at this; omega
      have hv1 : v.ownBlock ≠ some (w.heap.size + 1) := fun e => by have := (own_lt hrow e).1; omega
      have hv2 : v.ownBlock ≠ some b := fun e => by have := (own_lt hrow e).1; omega
      go_wp2_with fail
      go_region_law (first | (refine step_append_lies _ (by rfl) _ _ _ (by rfl) (w.heap.size + 2) 32 i0 (.slice none 0 0) 1 24 Tryd.underlying33 hi hz0 hz1 hz2 rfl (by decide) v ys.length (ys.map Slc.v) (by rfl) (((hrow.kept (grown_of_below ((Below.refl _ _).drew) none) (by cases v.ownBlock <;> simp)).kept (grown_of_below hb5 none) (by cases v.ownBlock <;> simp)).alloc _) ⟨w5.heap.size, 0, none⟩ 1 1 [.slice A2 (bitsN x n).length c2] (by rfl) (by rfl) (cell_one_new _ _ _) (by simp [Value.oneCell']) (by omega) (by unfold maxLen; omega) (by omega) (by have := hb5.size; simp at this; simp; omega) (w5.heap.size + 1) (by simp) ?_; intro g cap w7 o7 g7 hat hlt7; have hs5 := hb5.size; have c7 : w7.cell? ⟨w.heap.size + 1, 1, none⟩ = some v := (g7.cell_far _ (by simp at hs5; simp; omega) (Ne.symm hv1)).trans ((cell_alloc_lt _ (by simp at hs5; simp; omega)).trans ((hb5.cell (by simp; omega)).trans q1)); have f7 : w7.frozen? ⟨w.heap.size + 1, 1, none⟩ = false := (g7.frozen_far _ (by simp at hs5; simp; omega) (Ne.symm hv1)).trans ((frozen_alloc_lt _ (by simp at hs5; simp; omega)).trans ((hb5.frozen (by simp; omega)).trans q2))) | (go_simp; go_at_call 38; refine (bits_calls x n _ x0 (by omega) (by omega)).mono ?_; rintro e w5 ⟨A2, c2, rfl, o2, hb5⟩; have c5 : w5.cell? ⟨w.heap.size + 1, 1, none⟩ = some v := (hb5.cell (by simp; omega)).trans q1; have n5 : ∀ o, (w5.alloc o).cell? ⟨w.heap.size + 1, 1, none⟩ = some v := fun o => (cell_alloc_lt o (by have := hb5.size; simp at this; simp; omega)).trans c5))
      all_goals
        have HN2 := made_next hlt.1 hlt.2 hys Hms.out g1 g0 hrow hown hbw hsz o2 hb5 o7 g7
        clear g1 g0 hrow hown hbw hsz o2 hb5 o7 g7 hys
        go_wp2
        exact ⟨HN2, by simp [intOf]; omega⟩
    · obtain ⟨A', c', rfl⟩ := slice_form hrow
      have Htk := bx (show madeL (l.take k) (q % 9).toNat = madeL (l.take most) (q % 9).toNat by
        congr 1
        by_cases h0 : k = most
        · rw [h0]
        · rw [List.take_of_length_le (by omega), List.take_of_length_le (by omega)])
      have p0 : wr.cell? ⟨w.heap.size, 0, none⟩ = some (.int .i64 0) := by rw [cell_of_row _ _ _ _ _ _ g0]; rfl
      have p1 : wr.cell? ⟨w.heap.size, 1, none⟩ = some (.slice none 0 0) := by rw [cell_of_row _ _ _ _ _ _ g0]; rfl
      have p2 : wr.frozen? ⟨w.heap.size, 1, none⟩ = false := by simp [World.frozen?, g0]
      have p3 : wr.frozen? ⟨w.heap.size, 0, none⟩ = false := by simp [World.frozen?, g0]
      have HYS := bx hys
      have HN := bx hn
      clear g0 g1 hys hn
      generalize (q % 9).toNat = n at *
      have HLn := bx (show ys.length = (madeL (l.take most) n).length by rw [← Htk.out, ← HYS.out, List.length_map])
      by_cases h0 : k < l.length
      · have t1 : (k : Int) < (l.length : Int) := by omega
        have t2 : ¬ (k : Int) < (most : Int) := by omega
        clear hlt
        go_wp2
        refine bodyPost_ret (v := .agg #[.int .i64 n, .slice A' ys.length c']) (by simp [results, Tryd.results17, go_sem, p0, p1]) rfl ⟨A', c', by rw [← HLn.out], ?_, ?_⟩
        · exact by rw [← Htk.out, ← HYS.out]; exact lists_of_own (own_setCell (own_setCell hrow (by simp) _) (by simp) _) (fun y hy => own_setCell (own_setCell (hown y hy) (by simp) _) (by simp) _)
        · exact (hbw.setCell (p := ⟨w.heap.size, 0, none⟩) (by simp) _).setCell (p := ⟨w.heap.size, 1, none⟩) (by simp) _
      · have t1 : ¬ (k : Int) < (l.length : Int) := by omega
        clear hlt
        go_wp2
        refine bodyPost_ret (v := .agg #[.int .i64 n, .slice A' ys.length c']) (by simp [results, Tryd.results17, go_sem, p0, p1]) rfl ⟨A', c', by rw [← HLn.out], ?_, ?_⟩
        · exact by rw [← Htk.out, ← HYS.out]; exact lists_of_own (own_setCell (own_setCell hrow (by simp) _) (by simp) _) (fun y hy => own_setCell (own_setCell (hown y hy) (by simp) _) (by simp) _)
        · exact (hbw.setCell (p := ⟨w.heap.size, 0, none⟩) (by simp) _).setCell (p := ⟨w.heap.size, 1, none⟩) (by simp) _
end Go.Proofs.YtgfmnolghbiedaaDoor
