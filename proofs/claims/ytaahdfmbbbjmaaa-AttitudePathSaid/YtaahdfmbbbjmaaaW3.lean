/-
  Walks of layer 12: the specification's makers of arcs.
-/
import Derived.Test.YtaahdfmbbbjmaaaW2
import Derived.Deep.AppendLies
import Derived.StillTailTactics
namespace Go.Proofs.Ytaahdfmbbbjmaaa
open Go.RowKit

def arcCells (l : ArcL) : List Value := l.flatMap fun a => [.int .i64 a.1, .int .i64 a.2]
theorem arcCells_len (l : ArcL) : (arcCells l).length = l.length * 2 := by
  induction l with
  | nil => rfl
  | cons a t ih => simp only [arcCells, List.flatMap_cons, List.length_append, List.length_cons, List.length_nil] at *; omega
theorem arcCells_snoc (l : ArcL) (a : Int × Int) : arcCells (l ++ [a]) = arcCells l ++ [.int .i64 a.1, .int .i64 a.2] := by simp [arcCells]
theorem arcCells_append (l m : ArcL) : arcCells (l ++ m) = arcCells l ++ arcCells m := by simp [arcCells]
theorem arcCells_at (l : ArcL) : ∀ k (hk : k < l.length), (arcCells l)[k * 2]? = some (.int .i64 l[k].1) ∧ (arcCells l)[k * 2 + 1]? = some (.int .i64 l[k].2) := by
  induction l with
  | nil => intro k hk; simp at hk
  | cons a t ih =>
    intro k hk
    cases k with
    | zero => simp [arcCells]
    | succ k =>
      have := ih k (by simpa using hk)
      simp only [arcCells, List.flatMap_cons] at *
      rw [show (k + 1) * 2 = (k * 2) + 1 + 1 by omega]
      simpa using this
theorem arcs_of_own {w : World} {base : Nat} {A : Option Addr} {n c : Nat} {l : ArcL} (h : w.ownsRow base 44 2 (.slice A n c) n (arcCells l)) : Arcs w w.heap.size A l := by
  have hn : l.length = n := by have := h.1; rw [arcCells_len] at this; omega
  refine ⟨fun k hk => ?_⟩
  obtain ⟨g, cap, hv, _, hlt⟩ := h.form (by omega)
  have hA : A = some ⟨g, 0, none⟩ := by injection hv
  subst hA
  obtain ⟨e1, e2⟩ := arcCells_at l k hk
  have c1 := h.cells (g := g) rfl _ _ e1
  have c2 := h.cells (g := g) rfl _ _ e2
  refine ⟨g, 0, rfl, hlt, ?_, ?_⟩
  · rw [← c1]
    unfold Addr.add
    split
    · rename_i h0; rw [h0]
    · rfl
  · rw [← c2]
    unfold Addr.add
    split
    · rename_i h0; omega
    · simp
theorem cells_new (w : World) (cs : List Value) (e : TypeId) : ∀ j u, cs[j]? = some u → (w.alloc (.cells cs.toArray e)).cell? ((⟨w.heap.size, 0, none⟩ : Addr).add j) = some u := by
  intro j u hj
  have hh := heap_alloc_new w (.cells cs.toArray e)
  unfold Addr.add
  split
  · rename_i h0; subst h0
    rw [cell_of_row _ _ _ _ _ _ hh]; simpa using hj
  · rw [cell_of_row _ _ _ _ _ _ hh]; simpa using hj
theorem one_two (a b : Int) : ∀ u ∈ [Value.int .i64 a, .int .i64 b], u.oneCell' = true := by simp [Value.oneCell']
theorem Try.info44 : (Try.prog.info? 44).map (fun i => (i.zero, i.size, i.bytes)) = some (some (.agg #[.int .i64 0, .int .i64 0]), 2, 16) := by kernel_rfl
theorem ret_slice {A : Option Addr} {n m c : Nat} (h : n = m) : Ending.returned (.slice A n c) = Ending.returned (.slice A m c) := by rw [h]
theorem slice_form {w : World} {base size n : Nat} {e : TypeId} {v : Value} {xs : List Value} (h : w.ownsRow base e size v n xs) : ∃ A c, v = .slice A n c := by
  rcases h.2 with ⟨rfl, rfl⟩ | ⟨g, cap, _, rfl, _⟩
  · exact ⟨_, _, rfl⟩
  · exact ⟨_, _, rfl⟩
theorem made_take_succ {l : ArcL} {k : Nat} (hk : k < l.length) : (l.take (k + 1)).map madeArc = (l.take k).map madeArc ++ [madeArc l[k]] := by
  rw [List.take_succ_eq_append_getElem hk, List.map_append]; rfl
/-- what Made answers: a row of the call's own -/
def MadePost (w : World) (l : ArcL) (e : Ending) (w' : World) : Prop :=
  ∃ A' c', e = .returned (.slice A' (made l).length c') ∧ w'.ownsRow w.heap.size 44 2 (.slice A' (made l).length c') (made l).length (arcCells (made l)) ∧ Below w.heap.size w w'
theorem ref_made_own (A : Option Addr) (c : Nat) (l : ArcL) (w : World) (h : Arcs w w.heap.size A l) (hm : l.length ≤ 9223372036854775807) :
    Calls Try.prog 27 #[.slice A l.length c] w (MadePost w l) := by
  obtain ⟨i0, hi, hz0, hz1, hz2⟩ := info_parts Try.info44
  go_enter Try.func27, Try.ntmps27
  go_wp2
  go_loopw [3, 4, 5] (fun v i _ wr => ∃ k : Nat, k ≤ l.length ∧ k ≤ 4 ∧ i = .int .i64 k ∧ wr.ownsRow w.heap.size 44 2 v k (arcCells ((l.take k).map madeArc)) ∧ Below w.heap.size w wr) (fun _ i _ _ => 4 - (intOf i).toNat)
  case atStart => exact ⟨0, Nat.zero_le _, Nat.zero_le _, rfl, World.ownsRow_nil _ _ _ _, Below.refl _ _⟩
  case round =>
    obtain ⟨k, hk, hk4, rfl, hown, hbw⟩ := hrel
    have hw := h.below hbw
    by_cases hlt : k < l.length
    · by_cases h4 : k < 4
      · obtain ⟨b, off, rfl, hb, c1, c2⟩ := hw.at_ k hlt
        have Hs := bx (@made_take_succ l k hlt)
        have Hd := bx (show madeArc l[k] = (l[k].1 % 360, (l[k].1 + l[k].2 % 360 % 100) % 360) from rfl)
        generalize l[k].1 = f at *
        generalize l[k].2 = t at *
        go_wp2_with (first
          | (go_at_call 16; refine (refNormal _ _).mono ?_; rintro e w' ⟨rfl, rfl⟩)
          | (at_builtin; refine wpList_append_own _ rfl (.tmp 22) (.tmp 35) 22 rfl w.heap.size 44 i0 _ 2 16 Try.underlying22 hi hz0 hz1 hz2 rfl (by decide) _ k _ rfl (hown.alloc _) ⟨wr.heap.size, 0, none⟩ 1 1 [.int .i64 (f % 360), .int .i64 ((f + t % 360 % 100) % 360)] rfl rfl (cells_new _ _ _) (one_two _ _) (by unfold maxLen; omega) (by omega) (by have := hbw.size; simp; omega) ?_; intro v' w1 hown' hgrow _))
        have hb1 : Below w.heap.size w w1 := hbw.trans (((Below.refl _ wr).alloc hbw.size _).grown hgrow (by have := hbw.size; simp; omega) (fun g hg => (hown.lt g hg).1))
        rw [← arcCells_snoc ((l.take k).map madeArc) (f % 360, (f + t % 360 % 100) % 360), ← Hd.out, ← Hs.out] at hown'
        go_roundw
        case rel => exact ⟨k + 1, by omega, by omega, by go_num, hown', hb1⟩
        case measure => simp [intOf]; omega
      · obtain rfl : k = 4 := by omega
        have Hm := bx (show (l.take 4).map madeArc = made l from rfl)
        obtain ⟨A', c', rfl⟩ := slice_form hown
        rw [Hm.out] at hown
        have hl : (made l).length = 4 := by have := hown.1; rw [arcCells_len] at this; omega
        have HL := bx hl
        clear hl
        go_wp2
        go_ret
        exact ⟨A', c', ret_slice HL.out.symm, by rw [HL.out]; exact hown, hbw⟩
    · obtain rfl : k = l.length := by omega
      have Hm := bx (show (l.take l.length).map madeArc = made l by unfold made; rw [List.take_of_length_le (Nat.le_refl _), List.take_of_length_le (by omega)])
      obtain ⟨A', c', rfl⟩ := slice_form hown
      rw [Hm.out] at hown
      have hl : (made l).length = l.length := by have := hown.1; rw [arcCells_len] at this; omega
      have HL := bx hl
      clear hl
      go_wp2
      go_ret
      exact ⟨A', c', ret_slice HL.out.symm, by rw [HL.out]; exact hown, hbw⟩
theorem ref_made (A : Option Addr) (c : Nat) (l : ArcL) (w : World) (h : Arcs w w.heap.size A l) (hm : l.length ≤ 9223372036854775807) :
    Calls Try.prog 27 #[.slice A l.length c] w fun e w' => ∃ A' c', e = .returned (.slice A' (made l).length c') ∧ Arcs w' w'.heap.size A' (made l) ∧ Below w.heap.size w w' :=
  (ref_made_own A c l w h hm).mono fun _ _ ⟨A', c', he, ho, hb⟩ => ⟨A', c', he, arcs_of_own ho, hb⟩
theorem refNormal' (a : Int) (w : World) : Calls Try.prog 16 #[.int .i64 a] w fun e w' => e = .returned (.int .i64 (a % 360)) ∧ w' = w :=
  (refNormal a w).mono fun _ _ ⟨x, y⟩ => ⟨x, y.symm⟩
theorem rot_take_succ {l : ArcL} {k : Nat} (n : Int) (hk : k < l.length) : rot (l.take (k + 1)) n = rot (l.take k) n ++ [((l[k].1 + n) % 360, (l[k].2 + n) % 360)] := by
  rw [List.take_succ_eq_append_getElem hk, rot, rot, List.map_append]; rfl
theorem ref_rotated (A : Option Addr) (c : Nat) (l : ArcL) (n : Int) (w : World) (h : Arcs w w.heap.size A l) (hm : l.length ≤ 100) (ho : OkArcs l) (hn1 : 0 ≤ n) (hn2 : n ≤ 65535) :
    Calls Try.prog 28 #[.slice A l.length c, .int .i64 n] w fun e w' => ∃ A' c', e = .returned (.slice A' (rot l n).length c') ∧ Arcs w' w'.heap.size A' (rot l n) ∧ Below w.heap.size w w' := by
  obtain ⟨i0, hi, hz0, hz1, hz2⟩ := info_parts Try.info44
  go_enter Try.func28, Try.ntmps28
  go_wp2
  go_loopw [5, 6] (fun v i wr => ∃ k : Nat, k ≤ l.length ∧ i = .int .i64 k ∧ wr.ownsRow w.heap.size 44 2 v k (arcCells (rot (l.take k) n)) ∧ Below w.heap.size w wr) (fun _ i _ => l.length - (intOf i).toNat)
  case atStart => exact ⟨0, Nat.zero_le _, rfl, World.ownsRow_nil _ _ _ _, Below.refl _ _⟩
  case round =>
    obtain ⟨k, hk, rfl, hown, hbw⟩ := hrel
    have hw := h.below hbw
    by_cases hlt : k < l.length
    · obtain ⟨b, off, rfl, hb, c1, c2⟩ := hw.at_ k hlt
      obtain ⟨f1, f2, t1, t2⟩ := ho _ (List.getElem_mem hlt)
      have Hs := bx (@rot_take_succ l k n hlt)
      generalize l[k].1 = f at *
      generalize l[k].2 = t at *
      have e1 : IntKind.i64.wrap (f + n) = f + n := IntWalk.i64_in _ (by omega)
      have e2 : IntKind.i64.wrap (t + n) = t + n := IntWalk.i64_in _ (by omega)
      have n1 := World.new_ne wr _ c1
      have n2 := World.new_ne wr _ c2
      have z1 : (0 : Int) ≤ (k : Int) := by omega
      have z2 : (k : Int) < (l.length : Int) := by omega
      have hsz := hbw.size
      have hne : some b ≠ u5.ownBlock := fun e => by have := (hown.lt _ e.symm).1; omega
      go_wp2_with fail
      go_region_held3 (fun w' => w'.cell? ⟨b, off + k * 2, none⟩ = some (.int .i64 f) ∧ w'.cell? ⟨b, off + k * 2 + 1, none⟩ = some (.int .i64 t))
        (first | go_keep | (go_split_ands; refine ⟨(hgrow.cell_far _ (by simp; omega) hne).trans (by go_keep), (hgrow.cell_far _ (by simp; omega) hne).trans (by go_keep)⟩))
        (first | (go_at_call 16; refine (refNormal _ _).mono ?_; rintro e w' ⟨rfl, rfl⟩) | (refine step_append_lies _ (by rfl) _ _ _ (by rfl) w.heap.size 44 i0 _ 2 16 Try.underlying22 hi hz0 hz1 hz2 rfl (by omega) u5 k _ (by rfl) ((hown.alloc _).drew) ⟨wr.heap.size, 0, none⟩ 1 1 [.int .i64 ((f + n) % 360), .int .i64 ((t + n) % 360)] (by rfl) (by rfl) (cells_new wr _ _) (one_two _ _) (by omega) (by unfold maxLen; omega) (by omega) (by simp; omega) (wr.heap.size + 1) (by simp) ?_; intro gg cap w1 hown' hgrow hat hlt'))
      have hb1 : Below w.heap.size w w1 := hbw.trans ((((Below.refl _ wr).alloc hbw.size _).drew).grown hgrow (by simp; omega) (fun g hg => (hown.lt g hg).1))
      rw [← arcCells_snoc (rot (l.take k) n) ((f + n) % 360, (t + n) % 360), ← Hs.out] at hown'
      go_wp2
      go_roundw
      case rel => exact ⟨k + 1, by omega, by go_num, hown', hb1⟩
      case measure => simp [intOf]; omega
    · obtain rfl : k = l.length := by omega
      have Hm := bx (show rot (l.take l.length) n = rot l n by rw [List.take_of_length_le (Nat.le_refl _)])
      obtain ⟨A', c', rfl⟩ := slice_form hown
      rw [Hm.out] at hown
      have HL := bx (show (rot l n).length = l.length by simp [rot])
      go_wp2
      go_ret
      exact ⟨A', c', ret_slice HL.out.symm, arcs_of_own hown, hbw⟩
end Go.Proofs.Ytaahdfmbbbjmaaa
