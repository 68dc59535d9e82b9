/-
  Walks of layer 12: the package's small functions.
-/
import Derived.Test.YtaahdfmbbbjmaaaW6
import Derived.Laws.EntriesVeiled
namespace Go.Proofs.Ytaahdfmbbbjmaaa
open Go.RowKit Go.Shelf

theorem att_ticks (d r : Int) (w : World) (h1 : -360 ≤ d) (h2 : d ≤ 360) (h3 : 1 ≤ r) (h4 : r ≤ 360) :
    Calls Try.prog 23 #[.int .i64 d, .int .i64 r] w fun e w' => e = .returned (.int .i64 (ticks d r)) ∧ w = w' := by
  go_enter Try.func23, Try.ntmps23
  go_wp2_with (go_at_call 41; refine (attAbs _ _ (by omega) (by omega)).mono ?_; rintro e w' ⟨rfl, rfl⟩)
  go_ret
  exact ⟨rfl, rfl⟩
theorem att_step (a d r : Int) (w : World) (h1 : -360 ≤ d) (h2 : d ≤ 360) (h3 : 1 ≤ r) (h4 : r ≤ 360) :
    Calls Try.prog 21 #[.int .i64 a, .int .i64 d, .int .i64 r] w fun e w' => e = .returned (.tuple #[.int .i64 ((a + stepD d r) % 360), .int .i64 (d - stepD d r)]) ∧ w = w' := by
  have q1 : 0 ≤ a % 360 := by omega
  have q2 : a % 360 ≤ 359 := by omega
  have H : Bx (stepD d r = min (max d (0 - r)) r) := ⟨rfl⟩
  by_cases c1 : d < -r
  · have e1 := bx (show stepD d r = -r by have := H.out; omega)
    go_enter Try.func21, Try.ntmps21
    go_wp2_with (go_at_call 15; refine (attNormal _ _).mono ?_; rintro e w' ⟨rfl, rfl⟩)
    all_goals (first | (exfalso; omega) | (go_ret2; exact ⟨ret_tup2 (by rw [e1.out]) (by rw [e1.out]; try omega), rfl⟩))
  by_cases c2 : r < d
  · have e1 := bx (show stepD d r = r by have := H.out; omega)
    go_enter Try.func21, Try.ntmps21
    go_wp2_with (go_at_call 15; refine (attNormal _ _).mono ?_; rintro e w' ⟨rfl, rfl⟩)
    all_goals (first | (exfalso; omega) | (go_ret2; exact ⟨ret_tup2 (by rw [e1.out]) (by rw [e1.out]; try omega), rfl⟩))
  have e1 := bx (show stepD d r = d by have := H.out; omega)
  go_enter Try.func21, Try.ntmps21
  go_wp2_with (go_at_call 15; refine (attNormal _ _).mono ?_; rintro e w' ⟨rfl, rfl⟩)
  all_goals (first | (exfalso; omega) | (go_ret2; exact ⟨ret_tup2 (by rw [e1.out]) (by rw [e1.out]; try omega), rfl⟩))
theorem index_marks {cs : Array Value} {l : ArcL} (h : MarkArr cs (av l)) (a : Int) (w : World) : (Instr.index 48 (.agg cs) (.int .i64 (a % 360))).run Try.prog w = .ok (.bool (av l a)) w := by
  have hi : cs[(a % 360).toNat]? = some (.bool (av l a)) := by
    rw [h.at_ _ (by omega), show (((a % 360).toNat : Nat) : Int) = a % 360 by omega, av_mod]
  have h1 : 0 ≤ a % 360 ∧ a % 360 < 360 := by omega
  simp [Instr.index, asIntOf, run_underlying Try.underlying48, h1, go_sem]
  rw [hi]; rfl
theorem att_avoided (A : Option Addr) (c : Nat) (l : ArcL) (d : Int) (w : World) (h : Arcs w w.heap.size A l) (hm : l.length ≤ 100) (ho : OkArcs l) :
    Calls Try.prog 17 #[.slice A l.length c, .int .i64 d] w fun e w' => e = .returned (.bool (av l d)) ∧ Below w.heap.size w w' := by
  go_enter Try.func17, Try.ntmps17
  go_wp2_with fail
  refine (marks_calls A c l w h hm ho).mono ?_
  rintro e w1 ⟨cs, rfl, hcs, hb⟩
  have hi := fun w => index_marks hcs d w
  go_wp2_with (go_at_call 15; refine (attNormal _ _).mono ?_; rintro e w' ⟨rfl, rfl⟩)
  go_ret
  exact ⟨rfl, hb⟩
/-- Check's two closures -/
theorem check1 (d : Int) (w : World) : Calls Try.prog 30 #[.int .i64 d] w fun e w' => e = .returned (.bool (decide (0 ≤ d) && decide (d < 360))) ∧ w = w' := by
  by_cases h1 : 0 ≤ d
  · have e1 := bx (show (decide (0 ≤ d) && decide (d < 360)) = decide (d < 360) by simp [h1])
    go_enter Try.func30, Try.ntmps30
    go_wp2
    go_ret
    exact ⟨ret_bool e1.out.symm, rfl⟩
  · have e1 := bx (show (decide (0 ≤ d) && decide (d < 360)) = false by simp [h1])
    go_enter Try.func30, Try.ntmps30
    go_wp2
    go_ret
    exact ⟨ret_bool e1.out.symm, rfl⟩
theorem check1' (d : Int) (w : World) (x : Bool) (hx : (decide (0 ≤ d) && decide (d < 360)) = x) : Calls Try.prog 30 #[.int .i64 d] w fun e w' => e = .returned (.bool x) ∧ w = w' := by
  subst hx; exact check1 d w
theorem check2 (f t : Int) (B : Nat) (w : World) (hc : w.cell? ⟨B, 0, none⟩ = some (.func (.func 30) #[] #[])) :
    Calls Try.prog 32 #[.agg #[.int .i64 f, .int .i64 t], .pointer (some ⟨B, 0, none⟩)] w fun e w' => e = .returned (.bool (badArc (f, t))) ∧ Below w.heap.size w w' := by
  have hc' : (w.alloc (.cells #[.int .i64 f, .int .i64 t] 44)).cell? ⟨B, 0, none⟩ = some (.func (.func 30) #[] #[]) := (World.cell?_alloc_lt w _ ⟨B, 0, none⟩ (World.block_lt_of_cell? w _ hc)).trans hc
  cases h1 : (decide (0 ≤ f) && decide (f < 360)) <;> cases h2 : (decide (0 ≤ t) && decide (t < 360))
  all_goals
    have H1 := bx h1
    have H2 := bx h2
    have hE := bx (show badArc (f, t) = !((decide (0 ≤ f) && decide (f < 360)) && (decide (0 ≤ t) && decide (t < 360))) by
      apply bool_ext; simp only [badArc, Bool.not_eq_true', Bool.and_eq_false_iff, decide_eq_true_eq, decide_eq_false_iff_not]; omega)
    clear h1 h2
    go_enter Try.func32, Try.ntmps32
    go_wp2_with (go_at_call 30; refine (check1 _ _).mono ?_; rintro e w' ⟨rfl, rfl⟩; first | rw [H1.out] | rw [H2.out])
    go_ret
    exact ⟨ret_bool (by rw [hE.out, H1.out, H2.out]; rfl), (Below.refl _ _).alloc (Nat.le_refl _) _⟩
theorem indexFunc_check (A : Option Addr) (c : Nat) (l : ArcL) (B : Nat) (w : World) (h : Arcs w w.heap.size A l) (hm : l.length ≤ 100) (hB : w.cell? ⟨B, 0, none⟩ = some (.func (.func 30) #[] #[])) :
    Calls Try.prog 43 #[.slice A l.length c, .func (.func 32) #[] #[.pointer (some ⟨B, 0, none⟩)]] w fun e w' => (∃ i : Int, e = .returned (.int .i64 i) ∧ decide (0 ≤ i) = l.any badArc) ∧ Below w.heap.size w w' := by
  have hBl := World.block_lt_of_cell? w _ hB
  go_enter Try.func43, Try.ntmps43
  go_wp2
  go_loopw [8] (fun i wr => ∃ k : Nat, k ≤ l.length ∧ i = .int .i64 k ∧ (l.take k).any badArc = false ∧ Below w.heap.size w wr) (fun i _ => l.length - (intOf i).toNat)
  case atStart => exact ⟨0, Nat.zero_le _, rfl, rfl, Below.refl _ _⟩
  case round =>
    obtain ⟨k, hk, rfl, hno, hbw⟩ := hrel
    have Hno := bx hno
    clear hno
    have hw := h.below hbw
    have hcw := (hbw.cell (p := ⟨B, 0, none⟩) hBl).trans hB
    by_cases hlt : k < l.length
    · obtain ⟨b, off, rfl, hb, c1, c2⟩ := hw.at_ k hlt
      have Hs := bx (show (l.take (k + 1)).any badArc = ((l.take k).any badArc || badArc (l[k].1, l[k].2)) by
        rw [List.take_succ_eq_append_getElem hlt, List.any_append]; simp)
      have Hm := bx (fun hb : badArc (l[k].1, l[k].2) = true => show l.any badArc = true from List.any_eq_true.2 ⟨_, List.getElem_mem hlt, hb⟩)
      generalize l[k].1 = f at *
      generalize l[k].2 = t at *
      cases hi : badArc (f, t)
      · have Hi := bx hi
        clear hi
        go_wp2_with (go_at_call 32; go_loud (refine (check2 _ _ _ _ hcw).mono ?_); rintro e w' ⟨rfl, hb'⟩; go_loud (rw [Hi.out]))
        go_roundw
        case rel => exact ⟨k + 1, by omega, by go_num, by rw [Hs.out, Hno.out, Hi.out]; rfl, hbw.trans (hb'.mono hbw.size)⟩
        case measure => simp [intOf]; omega
      · have Hi := bx hi
        clear hi
        go_wp2_with (go_at_call 32; go_loud (refine (check2 _ _ _ _ hcw).mono ?_); rintro e w' ⟨rfl, hb'⟩; go_loud (rw [Hi.out]))
        go_ret
        exact ⟨⟨k, rfl, by rw [Hm.out Hi.out]; simp⟩, hbw.trans (hb'.mono hbw.size)⟩
    · have Hc := bx (show l.any badArc = false by
        have := Hno.out
        rwa [List.take_of_length_le (by omega)] at this)
      go_wp2
      go_ret
      exact ⟨⟨-1, rfl, by rw [Hc.out]; rfl⟩, hbw⟩
theorem containsFunc_check (A : Option Addr) (c : Nat) (l : ArcL) (B : Nat) (w : World) (h : Arcs w w.heap.size A l) (hm : l.length ≤ 100) (hB : w.cell? ⟨B, 0, none⟩ = some (.func (.func 30) #[] #[])) :
    Calls Try.prog 31 #[.slice A l.length c, .func (.func 32) #[] #[.pointer (some ⟨B, 0, none⟩)]] w fun e w' => e = .returned (.bool (l.any badArc)) ∧ Below w.heap.size w w' := by
  go_enter Try.func31, Try.ntmps31
  go_wp2_with fail
  refine (indexFunc_check A c l B w h hm hB).mono ?_
  rintro e w1 ⟨⟨i, rfl, hi⟩, hb⟩
  have Hi := bx hi
  clear hi
  go_wp2
  go_ret
  exact ⟨ret_bool Hi.out, hb⟩
theorem att_check (A : Option Addr) (c : Nat) (l : ArcL) (w : World) (h : Arcs w w.heap.size A l) (hm : l.length ≤ 9223372036854775807) :
    Calls Try.prog 14 #[.slice A l.length c] w fun e w' => e = .returned (.int .i64 (checkN l)) ∧ Below w.heap.size w w' := by
  by_cases hl : 16 < l.length
  · have E := bx (show checkN l = 2 by unfold checkN; rw [if_pos hl])
    go_enter Try.func14, Try.ntmps14
    go_wp2
    go_ret
    exact ⟨ret_int E.out.symm, Below.refl _ _⟩
  · cases hb : l.any badArc
    all_goals
      have Hb := bx hb
      clear hb
      have E := bx (show checkN l = if l.any badArc then 5 else 0 by unfold checkN; rw [if_neg hl])
      go_enter Try.func14, Try.ntmps14
      have hB0 : (w.alloc (.cells #[.func (.func 30) #[] #[]] 45)).cell? ⟨w.heap.size, 0, none⟩ = some (.func (.func 30) #[] #[]) := (Boxed.new w 45 _).cell
      go_wp2_with fail
      refine (containsFunc_check A c l w.heap.size _ ((h.below ((Below.refl _ _).alloc (Nat.le_refl _) _)).more (by simp)) (by omega) hB0).mono ?_
      rintro e w1 ⟨rfl, hbw⟩
      rw [Hb.out]
      go_wp2
      go_ret
      exact ⟨ret_int (by rw [E.out, Hb.out]; rfl), ((Below.refl _ w).alloc (Nat.le_refl _) _).trans (hbw.mono (by simp))⟩
end Go.Proofs.Ytaahdfmbbbjmaaa
