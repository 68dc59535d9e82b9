/-
  Walks of layer 10: tables made of numbers; batteries made of arbitrary ones.
-/
import Derived.Test.YtamfifndddldcaaM2
namespace Go.Proofs.Ytamfifndddldcaa
open Go.RowKit Go.Shelf

theorem Try.elWin : ElT Try.prog 45 68 (.agg #[.int .i64 0, .int .i64 0, .int .i64 0, .int .i64 0, .int .i64 0, .int .i64 0]) 6 48 := ⟨Try.underlying45, info_parts (by kernel_rfl), rfl, by decide⟩
/-- the cells of 16-bit numbers -/
def hc (l : List Int) : List Value := l.map fun x => .int .u16 x
theorem hc_len (l : List Int) : (hc l).length = l.length := by simp [hc]
abbrev Halfs (w : World) (v : Value) (l : List Int) : Prop := Sl w w.heap.size v l.length (hc l)
theorem halfs_at {w : World} {B m n c : Nat} {A : Option Addr} {l : List Int} (h : Sl w B (.slice A m c) n (hc l)) {k : Nat} (hk : k < l.length) : ∃ b off, A = some ⟨b, off, none⟩ ∧ b < B ∧ w.cell? ⟨b, off + k, none⟩ = some (.int .u16 l[k]) :=
  h.at_ (by simp [hc, hk])
/-- a new table of one's own -/
def WinPost (w : World) (t : List Wn) (e : Ending) (w' : World) : Prop :=
  ∃ A c, e = .returned (.slice A t.length c) ∧ w'.ownsRow w.heap.size 68 6 (.slice A t.length c) t.length (t.flatMap wcs) ∧ From w w'
theorem wins_of_own {w : World} {base c : Nat} {A : Option Addr} {t : List Wn} (h : w.ownsRow base 68 6 (.slice A t.length c) t.length (t.flatMap wcs)) : Wins w (.slice A t.length c) t := sl_of_own h
theorem tdiv_nn {n : Int} (h : 0 ≤ n) (k : Int) : n.tdiv k = n / k := Int.tdiv_eq_ediv_of_nonneg h
theorem tmod_nn {n : Int} (h : 0 ≤ n) (k : Int) : n.tmod k = n % k := Int.tmod_eq_emod_of_nonneg h
/-- where the table's loop stands -/
structure TAt (w : World) (l : List Int) (i : Nat) (v : Value) (s : TS) (wr : World) : Prop where
  ok : TOk s
  own : wr.ownsRow (w.heap.size + 1) 68 6 v s.out.length (s.out.flatMap wcs)
  box : wr.heap[w.heap.size]? = some (.cells #[.int .i64 s.e0, .int .i64 s.e1] 66 (0, 0))
  fr : From w wr
  sz : w.heap.size + 1 ≤ wr.heap.size
  len : s.out.length ≤ i
  res : runT ((l.drop i).take (30 - i)) s = tableL l
theorem heap_not_row {W w1 : World} {base n : Nat} {e : TypeId} {size : Nat} {v : Value} {xs : List Value} (h : W.ownsRow base e size v n xs) (g : W.grownBy w1 v.ownBlock) {b : Nat} {o : Obj} (hb : b < base) (ho : W.heap[b]? = some o) : w1.heap[b]? = some o :=
  (g.block b (Array.getElem?_eq_some_iff.1 ho).1 (fun e => by have := (h.lt b e.symm).1; omega)).trans ho
theorem own_step {w1 : World} {base n : Nat} {e : TypeId} {size : Nat} {v : Value} {xs : List Value} (h : w1.ownsRow base e size v n xs) {b : Nat} (hb : b < base) (j : Nat) (u : Value) : (w1.setCell ⟨b, j, none⟩ u).ownsRow base e size v n xs := own_setCell h (a := ⟨b, j, none⟩) hb u

set_option maxHeartbeats 4000000 in
set_option maxRecDepth 10000 in
theorem table_calls (A : Option Addr) (cap : Nat) (l : List Int) (w : World) (h : Halfs w (.slice A l.length cap) l) (hm : l.length ≤ 9223372036854775807) (hl : ∀ n ∈ l, 0 ≤ n ∧ n ≤ 65535) :
    Calls Try.prog 23 #[.slice A l.length cap] w (WinPost w (tableL l)) := by
  have H := bx h
  have HL := bx hl
  clear h hl
  have hbx : (w.alloc (.cells #[.int .i64 0, .int .i64 0] 66)).heap[w.heap.size]? = some (.cells #[.int .i64 0, .int .i64 0] 66 (0, 0)) := heap_alloc_new _ _
  have HS := bx (show TAt w l 0 (.slice none 0 0) ⟨[], 0, 0, 0, -1⟩ (w.alloc (.cells #[.int .i64 0, .int .i64 0] 66)) from ⟨TOk.start, own_nil _ _ _ _, hbx, (From.refl _).alloc _, by simp, Nat.le_refl _, by simp [tableL]⟩)
  go_enter Try.func23, Try.ntmps23
  go_wp2
  go_loopw [3, 5, 6, 7, 8, 9, 10, 11] (fun v3 v5 v6 v7 _ _ _ _ wr => ∃ (i : Nat) (A2 : Option Addr) (c2 : Nat) (s : TS), i ≤ l.length ∧ i ≤ 30 ∧ v7 = .int .i64 i ∧ v3 = .slice A2 s.out.length c2 ∧ v5 = .int .i64 s.at_ ∧ v6 = .int .i64 s.la ∧ TAt w l i (.slice A2 s.out.length c2) s wr) (fun _ _ _ v7 _ _ _ _ _ => 30 - (intOf v7).toNat)
  case atStart => exact ⟨0, none, 0, ⟨[], 0, 0, 0, -1⟩, by omega, by omega, rfl, rfl, rfl, rfl, HS.out⟩
  case round =>
    obtain ⟨i, A2, c2, s, hi, hi30, rfl, rfl, rfl, rfl, hT⟩ := hrel
    by_cases hlt : i < l.length
    case neg =>
      obtain rfl : i = l.length := by omega
      have hres := hT.res
      rw [runT_stop l _ (.inl (Nat.le_refl _))] at hres
      have HT := bx hT
      have HR := bx hres
      clear hres hT
      have d1 : decide (((l.length : Nat) : Int) < (l.length : Int)) = false := decide_eq_false (by omega)
      go_wp2
      go_ret
      rw [← HR.out]
      exact ⟨A2, c2, rfl, own_base HT.out.own (by omega), HT.out.fr⟩
    by_cases h30 : i < 30
    case neg =>
      obtain rfl : i = 30 := by omega
      have hres := hT.res
      rw [runT_stop l _ (.inr (Nat.le_refl _))] at hres
      have HT := bx hT
      have HR := bx hres
      clear hres hT
      have d1 : decide (((30 : Nat) : Int) < (l.length : Int)) = true := decide_eq_true (by omega)
      go_wp2
      go_ret
      rw [← HR.out]
      exact ⟨A2, c2, rfl, own_base HT.out.own (by omega), HT.out.fr⟩
    obtain ⟨b, off, rfl, hb, c0⟩ := halfs_at (H.out.from hT.fr) hlt
    have hn := HL.out l[i] (List.getElem_mem hlt)
    have hres := hT.res
    rw [runT_step l i hlt h30] at hres
    obtain ⟨n, hN⟩ : ∃ n, l[i] = n := ⟨_, rfl⟩
    rw [hN] at c0 hn hres
    have hok := hT.ok
    have hstep := @TOk.step s hok n hn.1
    have d1 : decide ((i : Int) < (l.length : Int)) = true := decide_eq_true (by omega)
    have d2 : decide ((i : Int) < 30) = true := decide_eq_true (by omega)
    have hbx := hT.box
    have hlen := hT.len
    obtain ⟨_, _, b0, b1, ba⟩ := hok
    obtain ⟨so, s0, s1, sa, sl⟩ := s
    simp only at b0 b1 ba hbx hlen hT
    have x0 : wr.cell? ⟨w.heap.size, 0, none⟩ = some (.int .i64 s0) := by rw [cell_of_row _ _ _ _ _ _ hbx]; rfl
    have x1 : wr.cell? ⟨w.heap.size, 1, none⟩ = some (.int .i64 s1) := by rw [cell_of_row _ _ _ _ _ _ hbx]; rfl
    obtain ⟨q1, hq1⟩ : ∃ q, n / 256 = q := ⟨_, rfl⟩
    obtain ⟨r8, hr8⟩ : ∃ r, n % 8 = r := ⟨_, rfl⟩
    obtain ⟨q8, hq8⟩ : ∃ q, n / 8 = q := ⟨_, rfl⟩
    obtain ⟨r3, hr3⟩ : ∃ r, q8 % 32 = r := ⟨_, rfl⟩
    obtain ⟨c, hc⟩ : ∃ c, q1 % 2 = c := ⟨_, rfl⟩
    have f1 : n.tdiv 256 = q1 := by rw [tdiv_nn hn.1, hq1]
    have f2 : q1.tmod 2 = c := by rw [tmod_nn (by omega), hc]
    have f3 : n.tmod 8 = r8 := by rw [tmod_nn hn.1, hr8]
    have f4 : n.tdiv 8 = q8 := by rw [tdiv_nn hn.1, hq8]
    have f5 : q8.tmod 32 = r3 := by rw [tmod_nn (by omega), hr3]
    have g1 : 0 ≤ r8 ∧ r8 ≤ 7 := by omega
    have g2 : 0 ≤ r3 ∧ r3 ≤ 31 := by omega
    have g3 : c = 0 ∨ c = 1 := by omega
    have g4 : 0 ≤ q1 ∧ q1 ≤ 255 := by omega
    have g5 : 0 ≤ q8 ∧ q8 ≤ 8191 := by omega
    have hcr : craftT n = c := by unfold craftT; rw [hq1, hc]
    have hfr : fromT ⟨so, s0, s1, sa, sl⟩ n = if max (sa + r8) (if c = 0 then s0 else s1) = sa ∧ c ≤ sl then max (sa + r8) (if c = 0 then s0 else s1) + 1 else max (sa + r8) (if c = 0 then s0 else s1) := by
      unfold fromT; simp only [hcr, hr8]
    have hun : untilT ⟨so, s0, s1, sa, sl⟩ n = fromT ⟨so, s0, s1, sa, sl⟩ n + 1 + r3 := by unfold untilT; rw [hq8, hr3]
    have HLB := bx (show so.length ≤ 29 by omega)
    have HT := bx hT
    clear hT hq1 hq8 hr3 hc hbx hN
    have hsp : stepT ⟨so, s0, s1, sa, sl⟩ n = ⟨so ++ [⟨3, c, 0, fromT ⟨so, s0, s1, sa, sl⟩ n, untilT ⟨so, s0, s1, sa, sl⟩ n, 0⟩], if c = 0 then untilT ⟨so, s0, s1, sa, sl⟩ n else s0, if c = 0 then s1 else untilT ⟨so, s0, s1, sa, sl⟩ n, fromT ⟨so, s0, s1, sa, sl⟩ n, c⟩ := by unfold stepT; rw [hcr]
    rw [hsp] at hres hstep
    clear hsp hcr hr8
    rcases g3 with rfl | rfl
    · have hif : (if (0 : Int) = 0 then s0 else s1) = s0 := by simp
      rw [hif] at hfr
      clear hif
      have hj0 : ∀ u : Int, (if (0 : Int) = 0 then u else s0) = u := fun u => by simp
      have hj1 : ∀ u : Int, (if (0 : Int) = 0 then s1 else u) = s1 := fun u => by simp
      simp only at hres hstep
      clear hj0 hj1
      by_cases hmx : sa + r8 < s0
      case pos =>
        rw [show max (sa + r8) s0 = s0 by omega] at hfr
        by_cases ht1 : s0 = sa
        case pos =>
          exfalso; omega
        case neg =>
          have e1 : (s0 == sa) = false := by simpa using ht1
          rw [if_neg (by omega)] at hfr
          rw [hfr] at hun hres hstep
          rw [hun] at hres hstep
          by_cases hu : 1000 < s0 + 1 + r3
          · rw [if_pos hu] at hres
            have d3 : decide (1000 < s0 + 1 + r3) = true := decide_eq_true hu
            have HR := bx hres
            clear hres hstep hfr hun
            go_wp2
            go_ret
            rw [← HR.out]
            exact ⟨A2, c2, rfl, own_base HT.out.own (by omega), HT.out.fr⟩
          · rw [if_neg hu] at hres
            have d3 : decide (1000 < s0 + 1 + r3) = false := decide_eq_false hu
            have HR := bx hres
            have HSt := bx (hstep hu)
            clear hres hstep hfr hun
            go_wp2_with (at_builtin; refine app_sl rfl _ _ 45 rfl Try.elWin rfl (HT.out.own.alloc _) 1 (wcs ⟨3, 0, 0, s0, s0 + 1 + r3, 0⟩) rfl (sl_new wr (wcs ⟨3, 0, 0, s0, s0 + 1 + r3, 0⟩) 68 1 1) rfl (wcs_one _) (Nat.le_trans (Nat.mul_le_mul_right 48 (Nat.succ_le_succ HLB.out)) (by decide)) (Nat.le_trans (Nat.succ_le_succ HLB.out) (by decide)) (by have := HT.out.sz; simp; omega) ?_; intro A3 c3 w3 o3 g3 _; have bx3 := heap_not_row (HT.out.own.alloc _) g3 (Nat.lt_succ_self _) (((From.refl wr).alloc _).heap HT.out.box); have m0 : w3.cell? ⟨w.heap.size, 0, none⟩ = some (.int .i64 s0) := (by rw [cell_of_row _ _ _ _ _ _ bx3]; rfl); have m1 : w3.frozen? ⟨w.heap.size, 0, none⟩ = false := (by simp [World.frozen?, bx3]))
            go_roundw
            case rel =>
              refine ⟨i + 1, A3, c3, ⟨so ++ [⟨3, 0, 0, s0, s0 + 1 + r3, 0⟩], (s0 + 1 + r3), s1, s0, 0⟩, by omega, by omega, by go_num, by simp, rfl, rfl, HSt.out, ?_, heap_set_at bx3 0 _, ?_, ?_, ?_, HR.out⟩
              · have := own_step o3 (Nat.lt_succ_self w.heap.size) 0 (.int .i64 (s0 + 1 + r3))
                simpa [List.length_append, List.flatMap_append] using this
              · exact ((From.app (HT.out.fr.alloc _) (own_base (HT.out.own.alloc _) (Nat.le_succ _)) (Nat.le_refl _) g3)).setCell (p := ⟨w.heap.size, 0, none⟩) (Nat.le_refl _) _
              · have h1 := HT.out.sz
                have h2 := g3.size
                simp at h2 ⊢
                omega
              · simp
                have := HT.out.len
                simp only at this
                omega
            case measure => simp [intOf]; omega
      case neg =>
        rw [show max (sa + r8) s0 = sa + r8 by omega] at hfr
        by_cases ht1 : sa + r8 = sa
        case pos =>
          obtain rfl : r8 = 0 := by omega
          rw [Int.add_zero] at *
          by_cases ht2 : 0 ≤ sl
          case pos =>
            have e2 : decide (0 ≤ sl) = true := decide_eq_true ht2
            rw [if_pos (by omega)] at hfr
            rw [hfr] at hun hres hstep
            rw [hun] at hres hstep
            by_cases hu : 1000 < sa + 1 + 1 + r3
            · rw [if_pos hu] at hres
              have d3 : decide (1000 < sa + 1 + 1 + r3) = true := decide_eq_true hu
              have HR := bx hres
              clear hres hstep hfr hun
              go_wp2
              go_ret
              rw [← HR.out]
              exact ⟨A2, c2, rfl, own_base HT.out.own (by omega), HT.out.fr⟩
            · rw [if_neg hu] at hres
              have d3 : decide (1000 < sa + 1 + 1 + r3) = false := decide_eq_false hu
              have HR := bx hres
              have HSt := bx (hstep hu)
              clear hres hstep hfr hun
              go_wp2_with (at_builtin; refine app_sl rfl _ _ 45 rfl Try.elWin rfl (HT.out.own.alloc _) 1 (wcs ⟨3, 0, 0, sa + 1, sa + 1 + 1 + r3, 0⟩) rfl (sl_new wr (wcs ⟨3, 0, 0, sa + 1, sa + 1 + 1 + r3, 0⟩) 68 1 1) rfl (wcs_one _) (Nat.le_trans (Nat.mul_le_mul_right 48 (Nat.succ_le_succ HLB.out)) (by decide)) (Nat.le_trans (Nat.succ_le_succ HLB.out) (by decide)) (by have := HT.out.sz; simp; omega) ?_; intro A3 c3 w3 o3 g3 _; have bx3 := heap_not_row (HT.out.own.alloc _) g3 (Nat.lt_succ_self _) (((From.refl wr).alloc _).heap HT.out.box); have m0 : w3.cell? ⟨w.heap.size, 0, none⟩ = some (.int .i64 s0) := (by rw [cell_of_row _ _ _ _ _ _ bx3]; rfl); have m1 : w3.frozen? ⟨w.heap.size, 0, none⟩ = false := (by simp [World.frozen?, bx3]))
              go_roundw
              case rel =>
                refine ⟨i + 1, A3, c3, ⟨so ++ [⟨3, 0, 0, sa + 1, sa + 1 + 1 + r3, 0⟩], (sa + 1 + 1 + r3), s1, sa + 1, 0⟩, by omega, by omega, by go_num, by simp, rfl, rfl, HSt.out, ?_, heap_set_at bx3 0 _, ?_, ?_, ?_, HR.out⟩
                · have := own_step o3 (Nat.lt_succ_self w.heap.size) 0 (.int .i64 (sa + 1 + 1 + r3))
                  simpa [List.length_append, List.flatMap_append] using this
                · exact ((From.app (HT.out.fr.alloc _) (own_base (HT.out.own.alloc _) (Nat.le_succ _)) (Nat.le_refl _) g3)).setCell (p := ⟨w.heap.size, 0, none⟩) (Nat.le_refl _) _
                · have h1 := HT.out.sz
                  have h2 := g3.size
                  simp at h2 ⊢
                  omega
                · simp
                  have := HT.out.len
                  simp only at this
                  omega
              case measure => simp [intOf]; omega
          case neg =>
            have e2 : decide (0 ≤ sl) = false := decide_eq_false ht2
            rw [if_neg (by omega)] at hfr
            rw [hfr] at hun hres hstep
            rw [hun] at hres hstep
            by_cases hu : 1000 < sa + 1 + r3
            · rw [if_pos hu] at hres
              have d3 : decide (1000 < sa + 1 + r3) = true := decide_eq_true hu
              have HR := bx hres
              clear hres hstep hfr hun
              go_wp2
              go_ret
              rw [← HR.out]
              exact ⟨A2, c2, rfl, own_base HT.out.own (by omega), HT.out.fr⟩
            · rw [if_neg hu] at hres
              have d3 : decide (1000 < sa + 1 + r3) = false := decide_eq_false hu
              have HR := bx hres
              have HSt := bx (hstep hu)
              clear hres hstep hfr hun
              go_wp2_with (at_builtin; refine app_sl rfl _ _ 45 rfl Try.elWin rfl (HT.out.own.alloc _) 1 (wcs ⟨3, 0, 0, sa, sa + 1 + r3, 0⟩) rfl (sl_new wr (wcs ⟨3, 0, 0, sa, sa + 1 + r3, 0⟩) 68 1 1) rfl (wcs_one _) (Nat.le_trans (Nat.mul_le_mul_right 48 (Nat.succ_le_succ HLB.out)) (by decide)) (Nat.le_trans (Nat.succ_le_succ HLB.out) (by decide)) (by have := HT.out.sz; simp; omega) ?_; intro A3 c3 w3 o3 g3 _; have bx3 := heap_not_row (HT.out.own.alloc _) g3 (Nat.lt_succ_self _) (((From.refl wr).alloc _).heap HT.out.box); have m0 : w3.cell? ⟨w.heap.size, 0, none⟩ = some (.int .i64 s0) := (by rw [cell_of_row _ _ _ _ _ _ bx3]; rfl); have m1 : w3.frozen? ⟨w.heap.size, 0, none⟩ = false := (by simp [World.frozen?, bx3]))
              go_roundw
              case rel =>
                refine ⟨i + 1, A3, c3, ⟨so ++ [⟨3, 0, 0, sa, sa + 1 + r3, 0⟩], (sa + 1 + r3), s1, sa, 0⟩, by omega, by omega, by go_num, by simp, rfl, rfl, HSt.out, ?_, heap_set_at bx3 0 _, ?_, ?_, ?_, HR.out⟩
                · have := own_step o3 (Nat.lt_succ_self w.heap.size) 0 (.int .i64 (sa + 1 + r3))
                  simpa [List.length_append, List.flatMap_append] using this
                · exact ((From.app (HT.out.fr.alloc _) (own_base (HT.out.own.alloc _) (Nat.le_succ _)) (Nat.le_refl _) g3)).setCell (p := ⟨w.heap.size, 0, none⟩) (Nat.le_refl _) _
                · have h1 := HT.out.sz
                  have h2 := g3.size
                  simp at h2 ⊢
                  omega
                · simp
                  have := HT.out.len
                  simp only at this
                  omega
              case measure => simp [intOf]; omega
        case neg =>
          have e1 : (sa + r8 == sa) = false := by simpa using ht1
          rw [if_neg (by omega)] at hfr
          rw [hfr] at hun hres hstep
          rw [hun] at hres hstep
          by_cases hu : 1000 < sa + r8 + 1 + r3
          · rw [if_pos hu] at hres
            have d3 : decide (1000 < sa + r8 + 1 + r3) = true := decide_eq_true hu
            have HR := bx hres
            clear hres hstep hfr hun
            go_wp2
            go_ret
            rw [← HR.out]
            exact ⟨A2, c2, rfl, own_base HT.out.own (by omega), HT.out.fr⟩
          · rw [if_neg hu] at hres
            have d3 : decide (1000 < sa + r8 + 1 + r3) = false := decide_eq_false hu
            have HR := bx hres
            have HSt := bx (hstep hu)
            clear hres hstep hfr hun
            go_wp2_with (at_builtin; refine app_sl rfl _ _ 45 rfl Try.elWin rfl (HT.out.own.alloc _) 1 (wcs ⟨3, 0, 0, sa + r8, sa + r8 + 1 + r3, 0⟩) rfl (sl_new wr (wcs ⟨3, 0, 0, sa + r8, sa + r8 + 1 + r3, 0⟩) 68 1 1) rfl (wcs_one _) (Nat.le_trans (Nat.mul_le_mul_right 48 (Nat.succ_le_succ HLB.out)) (by decide)) (Nat.le_trans (Nat.succ_le_succ HLB.out) (by decide)) (by have := HT.out.sz; simp; omega) ?_; intro A3 c3 w3 o3 g3 _; have bx3 := heap_not_row (HT.out.own.alloc _) g3 (Nat.lt_succ_self _) (((From.refl wr).alloc _).heap HT.out.box); have m0 : w3.cell? ⟨w.heap.size, 0, none⟩ = some (.int .i64 s0) := (by rw [cell_of_row _ _ _ _ _ _ bx3]; rfl); have m1 : w3.frozen? ⟨w.heap.size, 0, none⟩ = false := (by simp [World.frozen?, bx3]))
            go_roundw
            case rel =>
              refine ⟨i + 1, A3, c3, ⟨so ++ [⟨3, 0, 0, sa + r8, sa + r8 + 1 + r3, 0⟩], (sa + r8 + 1 + r3), s1, sa + r8, 0⟩, by omega, by omega, by go_num, by simp, rfl, rfl, HSt.out, ?_, heap_set_at bx3 0 _, ?_, ?_, ?_, HR.out⟩
              · have := own_step o3 (Nat.lt_succ_self w.heap.size) 0 (.int .i64 (sa + r8 + 1 + r3))
                simpa [List.length_append, List.flatMap_append] using this
              · exact ((From.app (HT.out.fr.alloc _) (own_base (HT.out.own.alloc _) (Nat.le_succ _)) (Nat.le_refl _) g3)).setCell (p := ⟨w.heap.size, 0, none⟩) (Nat.le_refl _) _
              · have h1 := HT.out.sz
                have h2 := g3.size
                simp at h2 ⊢
                omega
              · simp
                have := HT.out.len
                simp only at this
                omega
            case measure => simp [intOf]; omega
    · have hif : (if (1 : Int) = 0 then s0 else s1) = s1 := by simp
      rw [hif] at hfr
      clear hif
      have hj0 : ∀ u : Int, (if (1 : Int) = 0 then u else s0) = s0 := fun u => by simp
      have hj1 : ∀ u : Int, (if (1 : Int) = 0 then s1 else u) = u := fun u => by simp
      simp only [hj0, hj1] at hres hstep
      clear hj0 hj1
      by_cases hmx : sa + r8 < s1
      case pos =>
        rw [show max (sa + r8) s1 = s1 by omega] at hfr
        by_cases ht1 : s1 = sa
        case pos =>
          exfalso; omega
        case neg =>
          have e1 : (s1 == sa) = false := by simpa using ht1
          rw [if_neg (by omega)] at hfr
          rw [hfr] at hun hres hstep
          rw [hun] at hres hstep
          by_cases hu : 1000 < s1 + 1 + r3
          · rw [if_pos hu] at hres
            have d3 : decide (1000 < s1 + 1 + r3) = true := decide_eq_true hu
            have HR := bx hres
            clear hres hstep hfr hun
            go_wp2
            go_ret
            rw [← HR.out]
            exact ⟨A2, c2, rfl, own_base HT.out.own (by omega), HT.out.fr⟩
          · rw [if_neg hu] at hres
            have d3 : decide (1000 < s1 + 1 + r3) = false := decide_eq_false hu
            have HR := bx hres
            have HSt := bx (hstep hu)
            clear hres hstep hfr hun
            go_wp2_with (at_builtin; refine app_sl rfl _ _ 45 rfl Try.elWin rfl (HT.out.own.alloc _) 1 (wcs ⟨3, 1, 0, s1, s1 + 1 + r3, 0⟩) rfl (sl_new wr (wcs ⟨3, 1, 0, s1, s1 + 1 + r3, 0⟩) 68 1 1) rfl (wcs_one _) (Nat.le_trans (Nat.mul_le_mul_right 48 (Nat.succ_le_succ HLB.out)) (by decide)) (Nat.le_trans (Nat.succ_le_succ HLB.out) (by decide)) (by have := HT.out.sz; simp; omega) ?_; intro A3 c3 w3 o3 g3 _; have bx3 := heap_not_row (HT.out.own.alloc _) g3 (Nat.lt_succ_self _) (((From.refl wr).alloc _).heap HT.out.box); have m0 : w3.cell? ⟨w.heap.size, 1, none⟩ = some (.int .i64 s1) := (by rw [cell_of_row _ _ _ _ _ _ bx3]; rfl); have m1 : w3.frozen? ⟨w.heap.size, 1, none⟩ = false := (by simp [World.frozen?, bx3]))
            go_roundw
            case rel =>
              refine ⟨i + 1, A3, c3, ⟨so ++ [⟨3, 1, 0, s1, s1 + 1 + r3, 0⟩], s0, (s1 + 1 + r3), s1, 1⟩, by omega, by omega, by go_num, by simp, rfl, rfl, HSt.out, ?_, heap_set_at bx3 1 _, ?_, ?_, ?_, HR.out⟩
              · have := own_step o3 (Nat.lt_succ_self w.heap.size) 1 (.int .i64 (s1 + 1 + r3))
                simpa [List.length_append, List.flatMap_append] using this
              · exact ((From.app (HT.out.fr.alloc _) (own_base (HT.out.own.alloc _) (Nat.le_succ _)) (Nat.le_refl _) g3)).setCell (p := ⟨w.heap.size, 1, none⟩) (Nat.le_refl _) _
              · have h1 := HT.out.sz
                have h2 := g3.size
                simp at h2 ⊢
                omega
              · simp
                have := HT.out.len
                simp only at this
                omega
            case measure => simp [intOf]; omega
      case neg =>
        rw [show max (sa + r8) s1 = sa + r8 by omega] at hfr
        by_cases ht1 : sa + r8 = sa
        case pos =>
          obtain rfl : r8 = 0 := by omega
          rw [Int.add_zero] at *
          by_cases ht2 : 1 ≤ sl
          case pos =>
            have e2 : decide (1 ≤ sl) = true := decide_eq_true ht2
            rw [if_pos (by omega)] at hfr
            rw [hfr] at hun hres hstep
            rw [hun] at hres hstep
            by_cases hu : 1000 < sa + 1 + 1 + r3
            · rw [if_pos hu] at hres
              have d3 : decide (1000 < sa + 1 + 1 + r3) = true := decide_eq_true hu
              have HR := bx hres
              clear hres hstep hfr hun
              go_wp2
              go_ret
              rw [← HR.out]
              exact ⟨A2, c2, rfl, own_base HT.out.own (by omega), HT.out.fr⟩
            · rw [if_neg hu] at hres
              have d3 : decide (1000 < sa + 1 + 1 + r3) = false := decide_eq_false hu
              have HR := bx hres
              have HSt := bx (hstep hu)
              clear hres hstep hfr hun
              go_wp2_with (at_builtin; refine app_sl rfl _ _ 45 rfl Try.elWin rfl (HT.out.own.alloc _) 1 (wcs ⟨3, 1, 0, sa + 1, sa + 1 + 1 + r3, 0⟩) rfl (sl_new wr (wcs ⟨3, 1, 0, sa + 1, sa + 1 + 1 + r3, 0⟩) 68 1 1) rfl (wcs_one _) (Nat.le_trans (Nat.mul_le_mul_right 48 (Nat.succ_le_succ HLB.out)) (by decide)) (Nat.le_trans (Nat.succ_le_succ HLB.out) (by decide)) (by have := HT.out.sz; simp; omega) ?_; intro A3 c3 w3 o3 g3 _; have bx3 := heap_not_row (HT.out.own.alloc _) g3 (Nat.lt_succ_self _) (((From.refl wr).alloc _).heap HT.out.box); have m0 : w3.cell? ⟨w.heap.size, 1, none⟩ = some (.int .i64 s1) := (by rw [cell_of_row _ _ _ _ _ _ bx3]; rfl); have m1 : w3.frozen? ⟨w.heap.size, 1, none⟩ = false := (by simp [World.frozen?, bx3]))
              go_roundw
              case rel =>
                refine ⟨i + 1, A3, c3, ⟨so ++ [⟨3, 1, 0, sa + 1, sa + 1 + 1 + r3, 0⟩], s0, (sa + 1 + 1 + r3), sa + 1, 1⟩, by omega, by omega, by go_num, by simp, rfl, rfl, HSt.out, ?_, heap_set_at bx3 1 _, ?_, ?_, ?_, HR.out⟩
                · have := own_step o3 (Nat.lt_succ_self w.heap.size) 1 (.int .i64 (sa + 1 + 1 + r3))
                  simpa [List.length_append, List.flatMap_append] using this
                · exact ((From.app (HT.out.fr.alloc _) (own_base (HT.out.own.alloc _) (Nat.le_succ _)) (Nat.le_refl _) g3)).setCell (p := ⟨w.heap.size, 1, none⟩) (Nat.le_refl _) _
                · have h1 := HT.out.sz
                  have h2 := g3.size
                  simp at h2 ⊢
                  omega
                · simp
                  have := HT.out.len
                  simp only at this
                  omega
              case measure => simp [intOf]; omega
          case neg =>
            have e2 : decide (1 ≤ sl) = false := decide_eq_false ht2
            rw [if_neg (by omega)] at hfr
            rw [hfr] at hun hres hstep
            rw [hun] at hres hstep
            by_cases hu : 1000 < sa + 1 + r3
            · rw [if_pos hu] at hres
              have d3 : decide (1000 < sa + 1 + r3) = true := decide_eq_true hu
              have HR := bx hres
              clear hres hstep hfr hun
              go_wp2
              go_ret
              rw [← HR.out]
              exact ⟨A2, c2, rfl, own_base HT.out.own (by omega), HT.out.fr⟩
            · rw [if_neg hu] at hres
              have d3 : decide (1000 < sa + 1 + r3) = false := decide_eq_false hu
              have HR := bx hres
              have HSt := bx (hstep hu)
              clear hres hstep hfr hun
              go_wp2_with (at_builtin; refine app_sl rfl _ _ 45 rfl Try.elWin rfl (HT.out.own.alloc _) 1 (wcs ⟨3, 1, 0, sa, sa + 1 + r3, 0⟩) rfl (sl_new wr (wcs ⟨3, 1, 0, sa, sa + 1 + r3, 0⟩) 68 1 1) rfl (wcs_one _) (Nat.le_trans (Nat.mul_le_mul_right 48 (Nat.succ_le_succ HLB.out)) (by decide)) (Nat.le_trans (Nat.succ_le_succ HLB.out) (by decide)) (by have := HT.out.sz; simp; omega) ?_; intro A3 c3 w3 o3 g3 _; have bx3 := heap_not_row (HT.out.own.alloc _) g3 (Nat.lt_succ_self _) (((From.refl wr).alloc _).heap HT.out.box); have m0 : w3.cell? ⟨w.heap.size, 1, none⟩ = some (.int .i64 s1) := (by rw [cell_of_row _ _ _ _ _ _ bx3]; rfl); have m1 : w3.frozen? ⟨w.heap.size, 1, none⟩ = false := (by simp [World.frozen?, bx3]))
              go_roundw
              case rel =>
                refine ⟨i + 1, A3, c3, ⟨so ++ [⟨3, 1, 0, sa, sa + 1 + r3, 0⟩], s0, (sa + 1 + r3), sa, 1⟩, by omega, by omega, by go_num, by simp, rfl, rfl, HSt.out, ?_, heap_set_at bx3 1 _, ?_, ?_, ?_, HR.out⟩
                · have := own_step o3 (Nat.lt_succ_self w.heap.size) 1 (.int .i64 (sa + 1 + r3))
                  simpa [List.length_append, List.flatMap_append] using this
                · exact ((From.app (HT.out.fr.alloc _) (own_base (HT.out.own.alloc _) (Nat.le_succ _)) (Nat.le_refl _) g3)).setCell (p := ⟨w.heap.size, 1, none⟩) (Nat.le_refl _) _
                · have h1 := HT.out.sz
                  have h2 := g3.size
                  simp at h2 ⊢
                  omega
                · simp
                  have := HT.out.len
                  simp only at this
                  omega
              case measure => simp [intOf]; omega
        case neg =>
          have e1 : (sa + r8 == sa) = false := by simpa using ht1
          rw [if_neg (by omega)] at hfr
          rw [hfr] at hun hres hstep
          rw [hun] at hres hstep
          by_cases hu : 1000 < sa + r8 + 1 + r3
          · rw [if_pos hu] at hres
            have d3 : decide (1000 < sa + r8 + 1 + r3) = true := decide_eq_true hu
            have HR := bx hres
            clear hres hstep hfr hun
            go_wp2
            go_ret
            rw [← HR.out]
            exact ⟨A2, c2, rfl, own_base HT.out.own (by omega), HT.out.fr⟩
          · rw [if_neg hu] at hres
            have d3 : decide (1000 < sa + r8 + 1 + r3) = false := decide_eq_false hu
            have HR := bx hres
            have HSt := bx (hstep hu)
            clear hres hstep hfr hun
            go_wp2_with (at_builtin; refine app_sl rfl _ _ 45 rfl Try.elWin rfl (HT.out.own.alloc _) 1 (wcs ⟨3, 1, 0, sa + r8, sa + r8 + 1 + r3, 0⟩) rfl (sl_new wr (wcs ⟨3, 1, 0, sa + r8, sa + r8 + 1 + r3, 0⟩) 68 1 1) rfl (wcs_one _) (Nat.le_trans (Nat.mul_le_mul_right 48 (Nat.succ_le_succ HLB.out)) (by decide)) (Nat.le_trans (Nat.succ_le_succ HLB.out) (by decide)) (by have := HT.out.sz; simp; omega) ?_; intro A3 c3 w3 o3 g3 _; have bx3 := heap_not_row (HT.out.own.alloc _) g3 (Nat.lt_succ_self _) (((From.refl wr).alloc _).heap HT.out.box); have m0 : w3.cell? ⟨w.heap.size, 1, none⟩ = some (.int .i64 s1) := (by rw [cell_of_row _ _ _ _ _ _ bx3]; rfl); have m1 : w3.frozen? ⟨w.heap.size, 1, none⟩ = false := (by simp [World.frozen?, bx3]))
            go_roundw
            case rel =>
              refine ⟨i + 1, A3, c3, ⟨so ++ [⟨3, 1, 0, sa + r8, sa + r8 + 1 + r3, 0⟩], s0, (sa + r8 + 1 + r3), sa + r8, 1⟩, by omega, by omega, by go_num, by simp, rfl, rfl, HSt.out, ?_, heap_set_at bx3 1 _, ?_, ?_, ?_, HR.out⟩
              · have := own_step o3 (Nat.lt_succ_self w.heap.size) 1 (.int .i64 (sa + r8 + 1 + r3))
                simpa [List.length_append, List.flatMap_append] using this
              · exact ((From.app (HT.out.fr.alloc _) (own_base (HT.out.own.alloc _) (Nat.le_succ _)) (Nat.le_refl _) g3)).setCell (p := ⟨w.heap.size, 1, none⟩) (Nat.le_refl _) _
              · have h1 := HT.out.sz
                have h2 := g3.size
                simp at h2 ⊢
                omega
              · simp
                have := HT.out.len
                simp only at this
                omega
            case measure => simp [intOf]; omega
end Go.Proofs.Ytamfifndddldcaa
