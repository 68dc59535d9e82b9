/-
  Walks of layer 10's specification: before, Same; the law's sameSupply.
-/
import Derived.Test.YtamfifndddldcaaM7
namespace Go.Proofs.Ytamfifndddldcaa
open Go.RowKit Go.Shelf

theorem before_calls (x y : Lo) (w : World) : Calls Try.prog 49 #[lag x, lag y] w fun e w' => e = .returned (.bool (bef x y)) ∧ From w w' := by
  obtain ⟨x0, x1, x2, x3⟩ := x
  obtain ⟨y0, y1, y2, y3⟩ := y
  obtain ⟨W1, hW1⟩ : ∃ V, w.alloc (.cells #[.int .i64 x0, .int .i64 x1, .int .i64 x2, .bool x3] 41) = V := ⟨_, rfl⟩
  obtain ⟨W2, hW2⟩ : ∃ V, W1.alloc (.cells #[.int .i64 y0, .int .i64 y1, .int .i64 y2, .bool y3] 41) = V := ⟨_, rfl⟩
  have z1 : W1.heap.size = w.heap.size + 1 := by rw [← hW1]; simp
  have k2 : From w W2 := by rw [← hW2, ← hW1]; exact ((From.refl _).alloc _).alloc _
  have h1 : W2.heap[w.heap.size]? = some (.cells #[.int .i64 x0, .int .i64 x1, .int .i64 x2, .bool x3] 41 (0, 0)) := by rw [← hW2]; exact ((From.refl W1).alloc _).heap (by rw [← hW1]; exact heap_alloc_new _ _)
  have h2 : W2.heap[w.heap.size + 1]? = some (.cells #[.int .i64 y0, .int .i64 y1, .int .i64 y2, .bool y3] 41 (0, 0)) := by rw [← hW2, ← z1]; exact heap_alloc_new _ _
  have a0 : W2.cell? ⟨w.heap.size, 0, none⟩ = some (.int .i64 x0) := by rw [cell_of_row _ _ _ _ _ _ h1]; rfl
  have a2 : W2.cell? ⟨w.heap.size, 2, none⟩ = some (.int .i64 x2) := by rw [cell_of_row _ _ _ _ _ _ h1]; rfl
  have a3 : W2.cell? ⟨w.heap.size, 3, none⟩ = some (.bool x3) := by rw [cell_of_row _ _ _ _ _ _ h1]; rfl
  have b0 : W2.cell? ⟨w.heap.size + 1, 0, none⟩ = some (.int .i64 y0) := by rw [cell_of_row _ _ _ _ _ _ h2]; rfl
  have b2 : W2.cell? ⟨w.heap.size + 1, 2, none⟩ = some (.int .i64 y2) := by rw [cell_of_row _ _ _ _ _ _ h2]; rfl
  have b3 : W2.cell? ⟨w.heap.size + 1, 3, none⟩ = some (.bool y3) := by rw [cell_of_row _ _ _ _ _ _ h2]; rfl
  have HK := bx k2
  have hb : ∀ b : Bool, (b = true ↔ rk ⟨x0, x1, x2, x3⟩ < rk ⟨y0, y1, y2, y3⟩ ∨ (rk ⟨x0, x1, x2, x3⟩ = rk ⟨y0, y1, y2, y3⟩ ∧ (kp ⟨y0, y1, y2, y3⟩ < kp ⟨x0, x1, x2, x3⟩ ∨ (kp ⟨x0, x1, x2, x3⟩ = kp ⟨y0, y1, y2, y3⟩ ∧ x0 < y0)))) → b = bef ⟨x0, x1, x2, x3⟩ ⟨y0, y1, y2, y3⟩ := fun b h => by
    rw [Bool.eq_iff_iff, bef_iff]; exact h
  have HBF := bx hb
  clear hb k2 h1 h2
  simp only [lag]
  cases x3 <;> cases y3
  all_goals
    go_enter Try.func49, Try.ntmps49
    go_wp2
    all_goals
      go_ret
      refine ⟨ret_bool (HBF.out _ ?_), HK.out⟩
      simp [rk, kp]
      all_goals first | omega | (rename_i hq; simp only [bne_iff_ne, ne_eq, bne_eq_false_iff_eq] at hq; omega)
theorem same_int_calls (A : Option Addr) (c : Nat) (B : Option Addr) (d : Nat) (l m : List Int) (w : World) (h1 : Ints w (.slice A l.length c) l) (h2 : Ints w (.slice B m.length d) m) (hm : l.length ≤ 1000000) (hm2 : m.length ≤ 1000000) (b : Bool) (hb : decide (l = m) = b) :
    Calls Try.prog 22 #[.slice A l.length c, .slice B m.length d] w fun e w' => e = .returned (.bool b) ∧ From w w' := by
  have H1 := bx h1
  have H2 := bx h2
  have HB := bx hb
  clear h1 h2 hb
  by_cases hl : l.length = m.length
  case neg =>
    have d1 : ((l.length : Int) != (m.length : Int)) = true := by simp; omega
    have hf : b = false := by rw [← HB.out]; exact decide_eq_false (fun e => hl (by rw [e]))
    subst hf
    go_enter Try.func22, Try.ntmps22
    go_wp2
    go_ret
    exact ⟨rfl, From.refl _⟩
  have d1 : ((l.length : Int) != (m.length : Int)) = false := by simp; omega
  go_enter Try.func22, Try.ntmps22
  go_wp2
  clear d1
  go_loopw [5] (fun v5 wr => ∃ k : Nat, k ≤ l.length ∧ v5 = .int .i64 k ∧ l.take k = m.take k ∧ From w wr) (fun v5 _ => l.length - (intOf v5).toNat)
  case atStart => exact ⟨0, by omega, rfl, by simp, From.refl _⟩
  case round =>
    obtain ⟨k, hk, rfl, hpre, hf⟩ := hrel
    by_cases hlt : k < l.length
    · have d2 : decide ((k : Int) < (l.length : Int)) = true := decide_eq_true (by omega)
      obtain ⟨b1, o1, rfl, _, c1⟩ := ints_at (H1.out.from hf) hlt
      obtain ⟨b2, o2, rfl, _, c2⟩ := ints_at (H2.out.from hf) (show k < m.length by omega)
      have hst : l[k] = m[k]'(by omega) → l.take (k + 1) = m.take (k + 1) := fun e => by
        rw [List.take_succ_eq_append_getElem hlt, List.take_succ_eq_append_getElem (show k < m.length by omega), hpre, e]
      have hne : l[k] ≠ m[k]'(by omega) → l ≠ m := fun e e2 => by subst e2; exact e rfl
      obtain ⟨x, hx⟩ : ∃ x, l[k] = x := ⟨_, rfl⟩
      obtain ⟨y, hy⟩ : ∃ y, m[k]'(by omega) = y := ⟨_, rfl⟩
      rw [hx] at c1 hst hne
      rw [hy] at c2 hst hne
      have HF := bx hf
      have HST := bx hst
      have HNE := bx hne
      clear hx hy hst hne hf hpre
      by_cases hxy : x = y
      · have HS := bx (HST.out hxy)
        subst hxy
        clear HST HNE
        go_wp2_with fail
        go_quiet (fail)
        go_wp2
        go_roundw
        case rel => exact ⟨k + 1, by omega, by go_num, HS.out, HF.out.drewN _⟩
        case measure => simp [intOf]; omega
      · have d3 : (x != y) = true := by simpa using hxy
        have hbf : b = false := by rw [← HB.out]; exact decide_eq_false (HNE.out hxy)
        subst hbf
        go_wp2_with fail
        go_quiet (fail)
        go_wp2
        go_ret
        exact ⟨rfl, HF.out.drewN _⟩
    · obtain rfl : k = l.length := by omega
      have d2 : decide (((l.length : Nat) : Int) < (l.length : Int)) = false := decide_eq_false (by omega)
      have hbt : b = true := by
        rw [← HB.out]
        refine decide_eq_true ?_
        rw [List.take_length] at hpre
        rw [hpre, List.take_of_length_le (by omega)]
      subst hbt
      clear hpre
      go_wp2
      go_ret
      exact ⟨rfl, hf⟩
/-- two supplies of the same content -/
theorem sameSupply_calls (g u sp : Int) (A : Option Addr) (c : Nat) (B : Option Addr) (d : Nat) (l : List Int) (br : Bool) (w : World) (h1 : Ints w (.slice A l.length c) l) (h2 : Ints w (.slice B l.length d) l) (hm : l.length ≤ 1000000) :
    Calls Try.prog 20 #[.agg #[.int .i64 g, .int .i64 u, .int .i64 sp, .slice A l.length c, .bool br], .agg #[.int .i64 g, .int .i64 u, .int .i64 sp, .slice B l.length d, .bool br]] w fun e w' => e = .returned (.bool true) ∧ From w w' := by
  obtain ⟨W1, hW1⟩ : ∃ V, w.alloc (.cells (pcs g u sp (.slice A l.length c) br) 33) = V := ⟨_, rfl⟩
  obtain ⟨W2, hW2⟩ : ∃ V, W1.alloc (.cells (pcs g u sp (.slice B l.length d) br) 33) = V := ⟨_, rfl⟩
  have z1 : W1.heap.size = w.heap.size + 1 := by rw [← hW1]; simp
  have k2 : From w W2 := by rw [← hW2, ← hW1]; exact ((From.refl _).alloc _).alloc _
  have s1 : SupC W2 w.heap.size g u sp (.slice A l.length c) br := ⟨by rw [← hW2]; exact ((From.refl W1).alloc _).heap (by rw [← hW1]; exact heap_alloc_new _ _)⟩
  have s2 : SupC W2 (w.heap.size + 1) g u sp (.slice B l.length d) br := ⟨by rw [← hW2, ← z1]; exact heap_alloc_new _ _⟩
  obtain ⟨a0, a1, a2, a3, a4, _, _, _, _, _⟩ := s1.facts
  obtain ⟨b0, b1, b2, b3, b4, _, _, _, _, _⟩ := s2.facts
  have HS := bx (same_int_calls A c B d l l W2 (h1.from k2) (h2.from k2) hm hm true (by simp))
  have HK := bx k2
  clear k2 s1 s2 h1 h2
  cases br
  all_goals
    go_enter Try.func20, Try.ntmps20
    go_wp2_with fail
    refine HS.out.mono ?_
    rintro e w3 ⟨rfl, k3⟩
    go_wp2
    go_ret
    exact ⟨rfl, HK.out.trans k3⟩
end Go.Proofs.Ytamfifndddldcaa
