/-
  Walks of layer 31: loads in memory; mode.filter of loads, mode.Loads.
-/
import Derived.Test.YtgfmnolghbiedaaDoorP9
namespace Go.Proofs.YtgfmnolghbiedaaDoor
open Go.RowKit Go.Shelf

/-- loads: id, power, priority, essential -/
abbrev LD := Int × Int × Int × Bool
abbrev LL := List LD
def lc1 (a : LD) : List Value := [.int .i64 a.1, .int .i64 a.2.1, .int .i64 a.2.2.1, .bool a.2.2.2]
def lc (l : LL) : List Value := l.flatMap lc1
theorem lc_len (l : LL) : (lc l).length = l.length * 4 := by
  induction l with
  | nil => rfl
  | cons a t ih => simp only [lc, lc1, List.flatMap_cons, List.length_append, List.length_cons, List.length_nil] at *; omega
theorem lc_append (l m : LL) : lc (l ++ m) = lc l ++ lc m := by simp [lc]
theorem lc_at (l : LL) : ∀ k (hk : k < l.length), (lc l)[k * 4]? = some (.int .i64 l[k].1) ∧ (lc l)[k * 4 + 1]? = some (.int .i64 l[k].2.1) ∧ (lc l)[k * 4 + 2]? = some (.int .i64 l[k].2.2.1) ∧ (lc l)[k * 4 + 3]? = some (.bool l[k].2.2.2) := by
  induction l with
  | nil => intro k hk; simp at hk
  | cons a t ih =>
    intro k hk
    cases k with
    | zero => simp [lc, lc1]
    | succ k =>
      have := ih k (by simpa using hk)
      simp only [lc, lc1, List.flatMap_cons] at *
      rw [show (k + 1) * 4 = (k * 4) + 1 + 1 + 1 + 1 by omega]
      simpa using this
theorem one_lc1 (a : LD) : ∀ q ∈ lc1 a, q.oneCell' = true := by
  intro q hq
  simp only [lc1, List.mem_cons, List.mem_nil_iff, or_false] at hq
  obtain rfl | rfl | rfl | rfl := hq <;> rfl
/-- the slice v holds the loads l, below block B -/
structure LS (w : World) (B : Nat) (v : Value) (l : LL) : Prop where
  out : ∃ A c, v = .slice A l.length c ∧ ∀ k (hk : k < l.length), ∃ b off, A = some ⟨b, off, none⟩ ∧ b < B ∧ w.cell? ⟨b, off + k * 4, none⟩ = some (.int .i64 l[k].1) ∧ w.cell? ⟨b, off + k * 4 + 1, none⟩ = some (.int .i64 l[k].2.1) ∧ w.cell? ⟨b, off + k * 4 + 2, none⟩ = some (.int .i64 l[k].2.2.1) ∧ w.cell? ⟨b, off + k * 4 + 3, none⟩ = some (.bool l[k].2.2.2)
theorem LS.from {w w' : World} {v : Value} {l : LL} (h : LS w w.heap.size v l) (hb : From w w') : LS w' w'.heap.size v l := by
  obtain ⟨A, c, e, h⟩ := h.out
  refine ⟨A, c, e, fun k hk => ?_⟩
  obtain ⟨b, off, e1, e2, c1, c2, c3, c4⟩ := h k hk
  exact ⟨b, off, e1, Nat.lt_of_lt_of_le e2 (Below.size hb), (hb.cell (p := ⟨b, _, none⟩) e2).trans c1, (hb.cell (p := ⟨b, _, none⟩) e2).trans c2, (hb.cell (p := ⟨b, _, none⟩) e2).trans c3, (hb.cell (p := ⟨b, _, none⟩) e2).trans c4⟩
theorem ls_of_own {w : World} {base n : Nat} {v : Value} {l : LL} (h : w.ownsRow base 75 4 v n (lc l)) : LS w w.heap.size v l := by
  have hn : l.length = n := by have := h.1; rw [lc_len] at this; omega
  subst hn
  rcases h.2 with ⟨rfl, h0⟩ | ⟨g, cap, cur, rfl, hg, hh, _⟩
  · exact ⟨none, 0, by rw [h0], fun k hk => by omega⟩
  · have ad : ∀ j, (⟨g, 0, none⟩ : Addr).add j = ⟨g, 0 + j, none⟩ := fun j => Addr.add_mid g 0 j
    refine ⟨some ⟨g, 0, none⟩, cap, rfl, fun k hk => ⟨g, 0, rfl, (Array.getElem?_eq_some_iff.1 hh).1, ?_, ?_, ?_, ?_⟩⟩
    · have c1 := h.cells (g := g) rfl _ _ (lc_at l k hk).1
      rw [ad] at c1; exact c1
    · have c1 := h.cells (g := g) rfl _ _ (lc_at l k hk).2.1
      rw [ad] at c1; rw [← c1]; rfl
    · have c1 := h.cells (g := g) rfl _ _ (lc_at l k hk).2.2.1
      rw [ad] at c1; rw [← c1]; rfl
    · have c1 := h.cells (g := g) rfl _ _ (lc_at l k hk).2.2.2
      rw [ad] at c1; rw [← c1]; rfl
theorem load_info : ∃ i0 : TypeInfo, Tryd.prog.info? 75 = some i0 ∧ i0.zero = some (.agg #[.int .i64 0, .int .i64 0, .int .i64 0, .bool false]) ∧ i0.size = 4 ∧ i0.bytes = 32 := ⟨_, rfl, by kernel_rfl, by kernel_rfl, by kernel_rfl⟩
def on (lev : Int) (x : LD) : Bool := x.2.2.2 || (lev != 2)
def loadsM (lev : Int) (l : LL) : LL := l.filter (on lev)
def LoadsPost (w : World) (r : LL) (e : Ending) (w' : World) : Prop := ∃ A c, e = .returned (.slice A r.length c) ∧ w'.ownsRow w.heap.size 75 4 (.slice A r.length c) r.length (lc r) ∧ From w w'
theorem loads1 (x : LD) (B : Nat) (lev : Int) (w : World) (h : w.cell? ⟨B, 0, none⟩ = some (.int .i64 lev)) : Calls Tryd.prog 47 #[.agg #[.int .i64 x.1, .int .i64 x.2.1, .int .i64 x.2.2.1, .bool x.2.2.2], .pointer (some ⟨B, 0, none⟩)] w fun e w' => e = .returned (.bool (on lev x)) ∧ From w w' := by
  obtain ⟨a, b, c, d⟩ := x
  have hb : From w (w.alloc (.cells #[.int .i64 a, .int .i64 b, .int .i64 c, .bool d] 75)) := From.alloc (Below.refl _ _) _
  have n0 : ∀ o, (w.alloc o).cell? ⟨B, 0, none⟩ = some (.int .i64 lev) := fun o => (cell_alloc_lt o (World.block_lt_of_cell? w _ h)).trans h
  have HX := bx (show (d || (lev != 2)) = on lev (a, b, c, d) from rfl)
  simp only
  cases d
  · go_enter Tryd.func47, Tryd.ntmps47
    go_wp2
    go_ret
    exact ⟨ret_bool (by rw [← HX.out]; simp), hb⟩
  · go_enter Tryd.func47, Tryd.ntmps47
    go_wp2
    go_ret
    exact ⟨ret_bool (by rw [← HX.out]; simp), hb⟩
theorem cells_newL (w : World) (cs : List Value) (e : TypeId) : ∀ j u, cs[j]? = some u → (w.alloc (.cells cs.toArray e)).cell? ((⟨w.heap.size, 0, none⟩ : Addr).add j) = some u := by
  intro j u hj
  have hh := heap_alloc_new w (.cells cs.toArray e)
  unfold Addr.add
  split
  · rename_i h0; subst h0
    rw [cell_of_row _ _ _ _ _ _ hh]; simpa using hj
  · rw [cell_of_row _ _ _ _ _ _ hh]; simpa using hj
theorem loadsM_succ (lev : Int) (l : LL) (k : Nat) (hk : k < l.length) : loadsM lev (l.take (k + 1)) = if on lev l[k] then loadsM lev (l.take k) ++ [l[k]] else loadsM lev (l.take k) := by
  rw [List.take_succ_eq_append_getElem hk, loadsM, List.filter_append]
  by_cases h : on lev l[k] = true
  · rw [if_pos h, List.filter_cons_of_pos h]; rfl
  · rw [if_neg h, List.filter_cons_of_neg h, List.filter_nil, List.append_nil]; rfl
theorem loadsM_le (lev : Int) (l : LL) : (loadsM lev l).length ≤ l.length := List.length_filter_le _ _
set_option maxHeartbeats 1600000 in
theorem filterL_calls (B : Nat) (lev : Int) (AL : Option Addr) (cL : Nat) (l : LL) (w : World) (h : LS w w.heap.size (.slice AL l.length cL) l) (h4 : w.cell? ⟨B, 0, none⟩ = some (.int .i64 lev)) (hm : l.length ≤ 4398046511104) :
    Calls Tryd.prog 46 #[.slice AL l.length cL, .func (.func 47) #[] #[.pointer (some ⟨B, 0, none⟩)]] w (LoadsPost w (loadsM lev l)) := by
  obtain ⟨i0, hi, hz0, hz1, hz2⟩ := load_info
  have H := bx h
  clear h
  go_enter Tryd.func46, Tryd.ntmps46
  go_wp2
  go_loopw [5, 7, 10] (fun v _ i wr => ∃ k : Nat, k ≤ l.length ∧ i = .int .i64 k ∧ wr.ownsRow w.heap.size 75 4 v (loadsM lev (l.take k)).length (lc (loadsM lev (l.take k))) ∧ From w wr) (fun _ _ i _ => l.length - (intOf i).toNat)
  case atStart => exact ⟨0, Nat.zero_le _, rfl, World.ownsRow_nil _ _ _ _, Below.refl _ _⟩
  case round =>
    obtain ⟨k, hk, rfl, hown, hbw⟩ := hrel
    have hsz := Below.size hbw
    by_cases hlt : k < l.length
    · obtain ⟨A', c', e, hc⟩ := (H.out.from hbw).out
      obtain ⟨b, off, e1, hb, g1, g2, g3, g4⟩ := hc k hlt
      obtain rfl : AL = some ⟨b, off, none⟩ := by injection e with e2 _ _; rw [e2, e1]
      have Hs := bx (loadsM_succ lev l k hlt)
      have hle := loadsM_le lev (l.take k)
      rw [List.length_take] at hle
      have h4r := (hbw.cell (World.block_lt_of_cell? w _ h4)).trans h4
      have n0 : ∀ o, (wr.alloc o).cell? ⟨B, 0, none⟩ = some (.int .i64 lev) := fun o => (cell_alloc_lt o (World.block_lt_of_cell? wr _ h4r)).trans h4r
      generalize l[k] = x at *
      clear hc e
      have HL1 := bx (fun (W : World) (hW : W.cell? ⟨B, 0, none⟩ = some (.int .i64 lev)) => loads1 x B lev W hW)
      obtain ⟨xa, xb, xc, xd⟩ := x
      simp only at *
      have z1 : (k : Int) < (l.length : Int) := by omega
      have z2 : (0 : Int) ≤ (k : Int) := by omega
      have HB := bx (show ∀ W, From (wr.alloc (.cells #[.int .i64 xa, .int .i64 xb, .int .i64 xc, .bool xd] 75)) W → W.cell? ⟨wr.heap.size, 0, none⟩ = some (.int .i64 xa) ∧ W.cell? ⟨wr.heap.size, 1, none⟩ = some (.int .i64 xb) ∧ W.cell? ⟨wr.heap.size, 2, none⟩ = some (.int .i64 xc) ∧ W.cell? ⟨wr.heap.size, 3, none⟩ = some (.bool xd) from fun W hW =>
        ⟨(hW.cell (p := ⟨wr.heap.size, 0, none⟩) (by simp)).trans (by rw [World.cell?_alloc_new]; rfl), (hW.cell (p := ⟨wr.heap.size, 1, none⟩) (by simp)).trans (by rw [World.cell?_alloc_new]; rfl), (hW.cell (p := ⟨wr.heap.size, 2, none⟩) (by simp)).trans (by rw [World.cell?_alloc_new]; rfl), (hW.cell (p := ⟨wr.heap.size, 3, none⟩) (by simp)).trans (by rw [World.cell?_alloc_new]; rfl)⟩)
      have hba : From w (wr.alloc (.cells #[.int .i64 xa, .int .i64 xb, .int .i64 xc, .bool xd] 75)) := From.alloc hbw _
      have hoa := hown.alloc (.cells #[.int .i64 xa, .int .i64 xb, .int .i64 xc, .bool xd] 75)
      go_wp2_with fail
      refine (HL1.out _ (n0 _)).mono ?_
      rintro e w3 ⟨rfl, k3⟩
      obtain ⟨q0, q1, q2, q3⟩ := HB.out w3 k3
      have hb3 := From.trans hba k3
      have ho3 := own_from hoa k3
      have hs3 := Below.size hb3
      by_cases hon : on lev (xa, xb, xc, xd) = true
      · have Hs2 := bx (show loadsM lev (l.take (k + 1)) = loadsM lev (l.take k) ++ [(xa, xb, xc, xd)] by rw [Hs.out, if_pos hon])
        rw [hon]
        go_wp2_with (at_builtin; refine wpList_append_own _ rfl _ _ 50 rfl w.heap.size 75 i0 _ 4 32 Tryd.underlying50 hi hz0 hz1 hz2 rfl (by decide) _ _ _ rfl (ho3.alloc _) ⟨w3.heap.size, 0, none⟩ 1 1 (lc1 (xa, xb, xc, xd)) rfl rfl (cells_newL w3 _ _) (one_lc1 _) (by unfold maxLen; omega) (by omega) (by simp; omega) ?_; intro v' w5 o5 g5 _)
        have hb5 : From w w5 := Below.grown (From.alloc hb3 _) g5 (by simp; omega) (fun g hg => (ho3.lt g hg).1)
        go_roundw
        case rel => exact ⟨k + 1, by omega, by go_num, by rw [Hs2.out, lc_append, List.length_append]; exact o5, hb5⟩
        case measure => simp [intOf]; omega
      · have hon' : on lev (xa, xb, xc, xd) = false := by simpa using hon
        have Hs2 := bx (show loadsM lev (l.take (k + 1)) = loadsM lev (l.take k) by rw [Hs.out, if_neg hon])
        rw [hon']
        go_wp2
        go_roundw
        case rel => exact ⟨k + 1, by omega, by go_num, by rw [Hs2.out]; exact ho3, hb3⟩
        case measure => simp [intOf]; omega
    · obtain rfl : k = l.length := by omega
      rw [List.take_of_length_le (Nat.le_refl _)] at hown
      obtain ⟨A', c', rfl⟩ := slice_form hown
      go_wp2
      go_ret
      exact ⟨A', c', rfl, hown, hbw⟩
theorem loads_calls (lev bud : Int) (A : Option Addr) (n c : Nat) (AL : Option Addr) (cL : Nat) (l : LL) (w : World) (h : LS w w.heap.size (.slice AL l.length cL) l) (hm : l.length ≤ 4398046511104) (r : LL) (hr : loadsM lev l = r) :
    Calls Tryd.prog 27 #[.agg #[.int .i64 lev, .int .i64 bud, .slice A n c], .slice AL l.length cL] w (LoadsPost w r) := by
  subst hr
  obtain ⟨W0, hW0⟩ : ∃ W0, w.alloc (.cells #[.int .i64 lev, .int .i64 bud, .slice A n c] 24) = W0 := ⟨_, rfl⟩
  have hF0 : From w W0 := by rw [← hW0]; exact From.alloc (Below.refl _ _) _
  have HM := (show MCell W0 w.heap.size lev bud A n c by rw [← hW0]; exact mcell_new w lev bud A n c)
  have H := bx (h.from hF0)
  have z := Below.size hF0
  go_enter Tryd.func27, Tryd.ntmps27
  go_wp2_with fail
  refine (filterL_calls w.heap.size lev AL cL l W0 H.out HM.facts.1 hm).mono ?_
  rintro e w3 ⟨A3, c3, rfl, o3, k3⟩
  go_wp2
  go_ret
  exact ⟨A3, c3, rfl, own_base o3 z, hF0.trans k3⟩
end Go.Proofs.YtgfmnolghbiedaaDoor
