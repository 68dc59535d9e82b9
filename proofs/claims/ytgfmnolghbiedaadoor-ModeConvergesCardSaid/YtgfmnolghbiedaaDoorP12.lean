/-
  Walks of layer 31: Around, Pick; the specification's Make.
-/
import Derived.Test.YtgfmnolghbiedaaDoorP9
namespace Go.Proofs.YtgfmnolghbiedaaDoor
open Go.RowKit Go.Shelf

def around (n m : Int) : Int := (if n < 0 then -(n + 1) else n) % m
theorem around_bd (n m : Int) (hm : 0 < m) : 0 ≤ around n m ∧ around n m < m := ⟨Int.emod_nonneg _ (by omega), Int.emod_lt_of_pos _ hm⟩
theorem around_calls (n m : Int) (w : World) (h0 : -9223372036854775808 ≤ n) (h1 : n ≤ 9223372036854775807) (hm0 : 0 < m) (hm1 : m ≤ 9223372036854775807) :
    Calls Tryd.prog 43 #[.int .i64 n, .int .i64 m] w fun e w' => e = .returned (.int .i64 (around n m)) ∧ w' = w := by
  have hz : ¬ m = 0 := by omega
  by_cases hn : n < 0
  · have e1 : IntKind.i64.wrap (n + 1) = n + 1 := IntWalk.i64_in _ (by omega)
    have e2 : IntKind.i64.wrap (-(n + 1)) = -(n + 1) := IntWalk.i64_in _ (by omega)
    have HX := bx (show (-(n + 1)).tmod m = around n m by rw [around, if_pos hn, Int.tmod_eq_emod_of_nonneg (by omega)])
    have hb := around_bd n m hm0
    rw [← HX.out] at hb
    go_enter Tryd.func43, Tryd.ntmps43
    go_wp2
    go_ret
    exact ⟨ret_int (by first | exact HX.out | (rw [← HX.out, Int.neg_tmod])), rfl⟩
  · have HX := bx (show n % m = around n m by rw [around, if_neg hn])
    have hb := around_bd n m hm0
    rw [← HX.out] at hb
    go_enter Tryd.func43, Tryd.ntmps43
    go_wp2
    go_ret
    exact ⟨ret_int HX.out, rfl⟩
def pickI (l : List Int) (i m : Int) : Int := if 0 ≤ i ∧ i < l.length then around (l.getD i.toNat 0) m else 0
theorem pick_bd (l : List Int) (i m : Int) (hm : 0 < m) : 0 ≤ pickI l i m ∧ pickI l i m < m := by
  unfold pickI
  split
  · exact around_bd _ _ hm
  · omega
theorem pick_calls (A : Option Addr) (c : Nat) (l : List Int) (i m : Int) (w : World) (h : Ints w w.heap.size A l) (_ : l.length ≤ 9223372036854775807) (hx : ∀ x ∈ l, -9223372036854775808 ≤ x ∧ x ≤ 9223372036854775807) (hm0 : 0 < m) (hm1 : m ≤ 9223372036854775807) (y : Int) (hy : pickI l i m = y) :
    Calls Tryd.prog 44 #[.slice A l.length c, .int .i64 i, .int .i64 m] w fun e w' => e = .returned (.int .i64 y) ∧ w' = w := by
  by_cases h0 : i < 0
  · have HY := bx (show (0 : Int) = y by rw [← hy, pickI, if_neg (by omega)])
    clear hy hx
    go_enter Tryd.func44, Tryd.ntmps44
    go_wp2
    go_ret
    exact ⟨ret_int HY.out, rfl⟩
  by_cases h1 : (l.length : Int) ≤ i
  · have HY := bx (show (0 : Int) = y by rw [← hy, pickI, if_neg (by omega)])
    clear hy hx
    go_enter Tryd.func44, Tryd.ntmps44
    go_wp2
    go_ret
    exact ⟨ret_int HY.out, rfl⟩
  · obtain ⟨k, rfl⟩ : ∃ k : Nat, i = k := ⟨i.toNat, by omega⟩
    have hk : k < l.length := by omega
    obtain ⟨b, off, rfl, hb, c1⟩ := h.at_ k hk
    obtain ⟨x0, x1⟩ := hx l[k] (List.getElem_mem hk)
    have HY := bx (show around l[k] m = y by rw [← hy, pickI, if_pos (by omega)]; simp [List.getD_eq_getElem?_getD, List.getElem?_eq_getElem hk])
    generalize l[k] = u at *
    have z1 : (k : Int) < (l.length : Int) := by omega
    have z2 : (0 : Int) ≤ (k : Int) := by omega
    clear hy hx
    go_enter Tryd.func44, Tryd.ntmps44
    go_wp2_with fail
    refine (around_calls u m w x0 x1 hm0 hm1).mono ?_
    rintro e w1 ⟨rfl, rfl⟩
    go_wp2
    go_ret
    exact ⟨ret_int HY.out, rfl⟩
/-- the units that Make makes -/
def makeU (l : List Int) (k : Nat) : UL := (List.range k).map fun (i : Nat) => (pickI l (2 * (i : Int) + 1) (1 + pickI l (2 * (i : Int)) 4), 1 + pickI l (2 * (i : Int)) 4)
theorem makeU_len (l : List Int) (k : Nat) : (makeU l k).length = k := by simp [makeU]
theorem makeU_succ (l : List Int) (k : Nat) : makeU l (k + 1) = makeU l k ++ [(pickI l (2 * (k : Int) + 1) (1 + pickI l (2 * (k : Int)) 4), 1 + pickI l (2 * (k : Int)) 4)] := by simp [makeU, List.range_succ]
theorem cells_new2 (w : World) (cs : List Value) (e : TypeId) : ∀ j u, cs[j]? = some u → (w.alloc (.cells cs.toArray e)).cell? ((⟨w.heap.size, 0, none⟩ : Addr).add j) = some u := by
  intro j u hj
  have hh := heap_alloc_new w (.cells cs.toArray e)
  unfold Addr.add
  split
  · rename_i h0; subst h0
    rw [cell_of_row _ _ _ _ _ _ hh]; simpa using hj
  · rw [cell_of_row _ _ _ _ _ _ hh]; simpa using hj
def MkAt (l : List Int) (w : World) (lev bud : Int) (N : Nat) (i : Value) (wr : World) : Prop :=
  ∃ (k : Nat) (v : Value), i = .int .i64 k ∧ k ≤ N ∧ wr.heap[w.heap.size + 1]? = some (.cells #[.int .i64 lev, .int .i64 bud, v] 24 (0, 0)) ∧ RCell wr w.heap.size ∧ wr.ownsRow (w.heap.size + 2) 44 2 v k (uc (makeU l k)) ∧ From w wr ∧ w.heap.size + 2 ≤ wr.heap.size
set_option maxHeartbeats 3200000 in
theorem make_calls (lev bud units : Int) (A : Option Addr) (c : Nat) (l : List Int) (w : World) (h : Ints w w.heap.size A l) (hl : l.length ≤ 9223372036854775807) (hx : ∀ x ∈ l, -9223372036854775808 ≤ x ∧ x ≤ 9223372036854775807)
    (l0 : -9223372036854775808 ≤ lev) (l1 : lev ≤ 9223372036854775807) (b0 : -9223372036854775808 ≤ bud) (b1 : bud ≤ 9223372036854775807) (u0 : -9223372036854775808 ≤ units) (u1 : units ≤ 9223372036854775807)
    (lv bd : Int) (N : Nat) (hlv : around lev 3 = lv) (hbd : around bud 12 = bd) (hN : around units 17 = N) :
    Calls Tryd.prog 21 #[.int .i64 lev, .int .i64 bud, .int .i64 units, .slice A l.length c] w (ModePost w lv bd (makeU l N)) := by
  obtain ⟨i0, hi, hz0, hz1, hz2⟩ := unit_info
  have HX := bx hx
  have HLV := bx hlv
  have HBD := bx hbd
  have HN := bx hN
  have hN16 : N < 17 := by have := around_bd units 17 (by decide); omega
  clear hx hlv hbd hN
  obtain ⟨W0, hW0⟩ : ∃ W0, w.alloc (.cells #[.int .i64 0, .int .i64 0, .slice none 0 0] 24) = W0 := ⟨_, rfl⟩
  have hF0 : From w W0 := by rw [← hW0]; exact From.alloc (Below.refl _ _) _
  have s0 : W0.heap.size = w.heap.size + 1 := by rw [← hW0]; simp
  have HR := bx (show RCell W0 w.heap.size by rw [← hW0]; exact rcell_new w)
  go_enter Tryd.func21, Tryd.ntmps21
  go_wp2_with fail
  refine (around_calls lev 3 W0 l0 l1 (by decide) (by decide)).mono ?_
  rintro e w1 ⟨rfl, rfl⟩
  rw [HLV.out]
  go_wp2_with fail
  refine (around_calls bud 12 _ b0 b1 (by decide) (by decide)).mono ?_
  rintro e w2 ⟨rfl, rfl⟩
  rw [HBD.out]
  go_wp2
  obtain ⟨Z, hZ⟩ : ∃ Z, w2.alloc (.cells #[.int .i64 lv, .int .i64 bd, .slice none 0 0] 24) = Z := ⟨_, rfl⟩
  have fZ : From w2 Z := by rw [← hZ]; exact From.alloc (Below.refl _ _) _
  have eZ : Z.heap[w.heap.size + 1]? = some (.cells #[.int .i64 lv, .int .i64 bd, .slice none 0 0] 24 (0, 0)) := by rw [← hZ, ← s0]; exact heap_alloc_new w2 _
  have sZ : Z.heap.size = w.heap.size + 2 := by rw [← hZ]; simp; omega
  rw [hZ]
  have HB := bx (show MkAt l w lv bd N (.int .i64 0) Z from ⟨0, .slice none 0 0, rfl, Nat.zero_le _, eZ, HR.out.from fZ, World.ownsRow_nil _ _ _ _, hF0.trans fZ, by omega⟩)
  clear hZ fZ eZ sZ hW0 s0 hF0 HR
  go_loopw [10, 11] (fun i _ wr => MkAt l w lv bd N i wr) (fun i _ _ => N - (intOf i).toNat)
  case atStart => exact HB.out
  case round =>
    clear HB
    obtain ⟨k, v, rfl, hk, hM, hR, hown, hbw, hsz⟩ := hrel
    have q2 : wr.cell? ⟨w.heap.size + 1, 2, none⟩ = some v := by rw [cell_of_row _ _ _ _ _ _ hM]; rfl
    have q3 : wr.frozen? ⟨w.heap.size + 1, 2, none⟩ = false := by simp [World.frozen?, hM]
    have HIN := bx (hbw.ints h)
    by_cases hlt : k < N
    · have z1 : (k : Int) < (N : Int) := by omega
      have hms := makeU_succ l k
      have hp := pick_bd l (2 * (k : Int)) 4 (by decide)
      obtain ⟨a0, ha0⟩ : ∃ a0, pickI l (2 * (k : Int)) 4 = a0 := ⟨_, rfl⟩
      rw [ha0] at hms hp
      have hp2 := pick_bd l (2 * (k : Int) + 1) (1 + a0) (by omega)
      obtain ⟨b0, hb0⟩ : ∃ b0, pickI l (2 * (k : Int) + 1) (1 + a0) = b0 := ⟨_, rfl⟩
      rw [hb0] at hms hp2
      have HA0 := bx ha0
      have HB0 := bx hb0
      have e1 : IntKind.i64.wrap (2 * (k : Int)) = 2 * (k : Int) := IntWalk.i64_in _ (by omega)
      have e2 : IntKind.i64.wrap (2 * (k : Int) + 1) = 2 * (k : Int) + 1 := IntWalk.i64_in _ (by omega)
      have HMS := bx hms
      have HM := bx hM
      have HR := bx hR
      have HO := bx hown
      have hv2 : v.ownBlock ≠ some (w.heap.size + 1) := fun e => by have := (hown.lt _ e).1; omega
      have HP := bx (fun (W : World) (kW : From wr W) => pick_calls A c l (2 * (k : Int) + 1) (1 + a0) W (kW.ints HIN.out) hl HX.out (by omega) (by omega) b0 HB0.out)
      clear ha0 hb0 hms hM hR hown
      go_wp2_with fail
      refine (around_calls units 17 _ u0 u1 (by decide) (by decide)).mono ?_
      rintro e w1 ⟨rfl, rfl⟩
      rw [HN.out]
      go_wp2_with fail
      refine (pick_calls A c l (2 * (k : Int)) 4 _ HIN.out hl HX.out (by decide) (by decide) a0 HA0.out).mono ?_
      rintro e w1 ⟨rfl, rfl⟩
      go_wp2_with fail
      have hFd : From w1 w1.drew := From.drew (Below.refl _ _)
      have n5 : ∀ o, (w1.alloc o).cell? ⟨w.heap.size + 1, 2, none⟩ = some v := fun o => (cell_alloc_lt o (by simp; omega)).trans q2
      go_region_law (first | (refine step_append_lies _ (by rfl) _ _ _ (by rfl) (w.heap.size + 2) 44 i0 (.agg #[.int .i64 0, .int .i64 0]) 2 16 Tryd.underlying22 hi hz0 hz1 hz2 rfl (by decide) v k (uc (makeU l k)) (by rfl) (HO.out.drew.alloc _) ⟨w1.heap.size, 0, none⟩ 1 1 [.int .i64 b0, .int .i64 (1 + a0)] (by rfl) (by rfl) (cells_new2 _ _ _) (by simp [Value.oneCell']) (by omega) (by unfold maxLen; omega) (by omega) (by simp; omega) (w1.heap.size + 1) (by simp) ?_; intro g cap w7 o7 g7 hat hlt7; have c7 : w7.cell? ⟨w.heap.size + 1, 2, none⟩ = some v := (g7.cell_far _ (by simp; omega) (Ne.symm hv2)).trans ((cell_alloc_lt _ (by simp; omega)).trans q2); have f7 : w7.frozen? ⟨w.heap.size + 1, 2, none⟩ = false := (g7.frozen_far _ (by simp; omega) (Ne.symm hv2)).trans ((frozen_alloc_lt _ (by simp; omega)).trans q3)) | (go_simp; go_at_call 44; with_reducible refine (HP.out _ hFd).mono ?_; rintro e w5 ⟨rfl, rfl⟩))
      all_goals
        have hne : ∀ b, b < w.heap.size + 2 → some b ≠ v.ownBlock := fun b hb e => by have := (HO.out.lt b e.symm).1; omega
        have G1 : w7.heap[w.heap.size + 1]? = some (.cells #[.int .i64 lv, .int .i64 bd, v] 24 (0, 0)) := (g7.block _ (by simp; omega) (hne _ (by omega))).trans ((Below.heap_alloc w1 _ _ (by omega)).trans HM.out)
        have G2 : w7.heap[w.heap.size]? = some (.cells #[.int .i64 0, .int .i64 0, .slice none 0 0] 24 (0, 0)) := (g7.block _ (by simp; omega) (hne _ (by omega))).trans ((Below.heap_alloc w1 _ _ (by omega)).trans HR.out.out)
        have hs7 : w1.heap.size + 1 ≤ w7.heap.size := by have := g7.size; simp at this; omega
        have G3 : From w w7 := Below.grown (From.alloc (From.drew hbw) _) g7 (by simp; omega) (fun b e => by have := (HO.out.lt b e).1; omega)
        have MK := bx (show MkAt l w lv bd N (.int .i64 (k + 1 : Nat)) (w7.setCell ⟨w.heap.size + 1, 2, none⟩ (.slice (some ⟨g, 0, none⟩) (k + 1) cap)) from
          ⟨k + 1, .slice (some ⟨g, 0, none⟩) (k + 1) cap, rfl, by omega, heap_set_at G1 2 _, ⟨(Below.heap_setCell _ _ _ _ (by show w.heap.size ≠ w.heap.size + 1; omega)).trans G2⟩, by rw [HMS.out, uc_append]; exact own_setCell o7 (by show w.heap.size + 1 < _; omega) _, Below.setCell G3 (p := ⟨w.heap.size + 1, 2, none⟩) (by show w.heap.size ≤ w.heap.size + 1; omega) _, by simp [World.setCell]; omega⟩)
        clear G1 G2 G3 o7 g7 hat c7 f7 hne
        go_wp2
        go_roundw
        case rel => exact MK.out
        case measure => simp [intOf]; omega
    · obtain rfl : k = N := by omega
      obtain ⟨A3, c3, rfl⟩ := slice_form hown
      have z1 : ¬ (k : Int) < (k : Int) := by omega
      obtain ⟨r0, r1, r2, t0, t1, t2⟩ := hR.facts
      obtain ⟨p0, p1, p2⟩ := (show MCell wr (w.heap.size + 1) lv bd A3 k c3 from ⟨hM⟩).facts
      have HO := bx hown
      clear hM hR hown q2 q3
      go_wp2_with fail
      refine (around_calls units 17 _ u0 u1 (by decide) (by decide)).mono ?_
      rintro e w1 ⟨rfl, rfl⟩
      rw [HN.out]
      go_wp2
      refine bodyPost_ret (v := .agg #[.int .i64 lv, .int .i64 bd, .slice A3 k c3]) (by simp [results, Tryd.results21, go_sem, r0, r1, r2]) rfl ⟨A3, c3, by rw [makeU_len], ?_, set3_from hbw (Nat.le_refl _) _ _ _⟩
      rw [makeU_len]
      exact own_base (set3_own HO.out (by omega) _ _ _) (by omega)
end Go.Proofs.YtgfmnolghbiedaaDoor
