/-
  Walks of layer 30: perigeeref30.caused.
-/
import Derived.Test.YtgfmnolghbiedaaDoorK12
namespace Go.Proofs.YtgfmnolghbiedaaDoor
open Go.RowKit

theorem has_val (A : Option Addr) (c : Nat) (xs : List Int) (v : Int) (w : World) (h : Ints w w.heap.size A xs) (hm : xs.length ≤ 9223372036854775807) (t : Bool) (ht : xs.contains v = t) :
    Calls Tryd.prog 23 #[.slice A xs.length c, .int .i64 v] w fun e w' => e = .returned (.bool t) ∧ w' = w := by
  have := has_calls A c xs v w h hm
  rwa [ht] at this
theorem refCaused_calls (n : Int) (AG : Option Addr) (cG : Nat) (sh : List (List Int)) (A : Option Addr) (c : Nat) (us : List Int) (s : Int) (w : World) (hl : Lists w w.heap.size AG sh) (hn : sh.length ≤ 9223372036854775807)
    (h : Ints w w.heap.size A us) (hm : us.length ≤ 9223372036854775807) :
    Calls Tryd.prog 45 #[.agg #[.int .i64 n, .slice AG sh.length cG], .slice A us.length c, .int .i64 s] w fun e w' => e = .returned (.bool (cau sh us s)) ∧ Below w.heap.size w w' := by
  obtain ⟨W1, hW1⟩ : ∃ W1, w.alloc (.cells #[.int .i64 n, .slice AG sh.length cG] 35) = W1 := ⟨_, rfl⟩
  have s1 : W1.heap.size = w.heap.size + 1 := by rw [← hW1]; simp
  have hb1 : Below w.heap.size w W1 := by rw [← hW1]; exact (Below.refl _ _).alloc (Nat.le_refl _) _
  have hG1 : GBox W1 W1.heap.size w.heap.size n sh := by rw [s1, ← hW1]; exact gbox_new w n AG cG sh hl hn
  have hI1 := (h.below hb1).more hb1.size
  go_enter Tryd.func45, Tryd.ntmps45
  go_wp2
  clear hW1
  go_loopw [7, 8] (fun i _ wr => ∃ k : Nat, k ≤ us.length ∧ i = .int .i64 k ∧ (us.take k).any (cau1 sh s) = false ∧ wr = W1) (fun i _ _ => us.length - (intOf i).toNat)
  case atStart => exact ⟨0, Nat.zero_le _, rfl, rfl, rfl⟩
  case round =>
    obtain ⟨k, hk, rfl, hno, rfl⟩ := hrel
    have Hno := bx hno
    clear hno
    obtain ⟨_, l1, g0, AG', cG', gg1, hlX⟩ := hG1
    by_cases hlt : k < us.length
    · obtain ⟨b, off, rfl, hb, g1⟩ := hI1.at_ k hlt
      have Hs := bx (show (us.take (k + 1)).any (cau1 sh s) = ((us.take k).any (cau1 sh s) || cau1 sh s us[k]) by
        rw [List.take_succ_eq_append_getElem hlt, List.any_append]; simp)
      have Hm := bx (fun hb : cau1 sh s us[k] = true => show cau sh us s = true from List.any_eq_true.2 ⟨_, List.getElem_mem hlt, hb⟩)
      generalize us[k] = u at *
      by_cases h0 : 0 ≤ u
      · by_cases h1 : u < sh.length
        · obtain ⟨j, rfl⟩ : ∃ j : Nat, u = j := ⟨u.toNat, by omega⟩
          obtain ⟨b', off', A', c', rfl, hb', q1, q2, q3⟩ := hlX.at_ j (by omega)
          have He := bx (show (sh[j]'(by omega)).contains s = cau1 sh s j by
            unfold cau1
            rw [show decide ((0 : Int) ≤ j) = true by simp, show decide ((j : Int) < sh.length) = true by simpa using h1]
            simp only [Bool.true_and, Int.toNat_natCast]
            rw [List.getD_eq_getElem?_getD, List.getElem?_eq_getElem (by omega)]; rfl)
          have hj : j < sh.length := by omega
          generalize sh[j] = l at *
          cases hc : l.contains s
          · have HC := bx hc
            have HE := bx (He.out.symm.trans hc)
            clear hc
            go_wp2_with (go_at_call 23; refine (has_val _ _ l _ _ q2 q3 false HC.out).mono ?_; rintro e w' ⟨rfl, rfl⟩)
            go_roundw
            case rel => exact ⟨k + 1, by omega, by go_num, by rw [Hs.out, Hno.out, HE.out]; rfl, trivial⟩
            case measure => simp [intOf]; omega
          · have HC := bx hc
            have HT := bx (Hm.out (He.out.symm.trans hc))
            clear hc
            go_wp2_with (go_at_call 23; refine (has_val _ _ l _ _ q2 q3 true HC.out).mono ?_; rintro e w' ⟨rfl, rfl⟩)
            go_ret
            exact ⟨ret_bool HT.out.symm, hb1⟩
        · have HE := bx (show cau1 sh s u = false by unfold cau1; rw [show decide (u < sh.length) = false by simpa using h1]; simp)
          have hd : decide (u < (sh.length : Int)) = false := by simpa using h1
          go_wp2
          go_roundw
          case rel => exact ⟨k + 1, by omega, by go_num, by rw [Hs.out, Hno.out, HE.out]; rfl, trivial⟩
          case measure => simp [intOf]; omega
      · have HE := bx (show cau1 sh s u = false by unfold cau1; rw [show decide (0 ≤ u) = false by simpa using h0]; simp)
        have hd : decide ((0 : Int) ≤ u) = false := by simpa using h0
        go_wp2
        go_roundw
        case rel => exact ⟨k + 1, by omega, by go_num, by rw [Hs.out, Hno.out, HE.out]; rfl, trivial⟩
        case measure => simp [intOf]; omega
    · obtain rfl : k = us.length := by omega
      have Hc := bx (show cau sh us s = false by have := Hno.out; rwa [List.take_of_length_le (Nat.le_refl _)] at this)
      go_wp2
      go_ret
      exact ⟨ret_bool Hc.out.symm, hb1⟩
end Go.Proofs.YtgfmnolghbiedaaDoor
