/-
  Walks of layer 30: perigeeref30.Shown.
-/
import Derived.Test.YtgfmnolghbiedaaDoorK15
namespace Go.Proofs.YtgfmnolghbiedaaDoor
open Go.RowKit

/-- the symptoms that units cause -/
def shown (sh : List (List Int)) (us : List Int) (n : Nat) : List Int := (units n).filter fun s => cau sh us s
theorem shown_succ (sh : List (List Int)) (us : List Int) (k : Nat) : shown sh us (k + 1) = if cau sh us k then shown sh us k ++ [(k : Int)] else shown sh us k := by
  rw [shown, units_succ, List.filter_append]
  by_cases h : cau sh us k = true
  · rw [if_pos h]; simp [shown, h]
  · rw [if_neg h]; simp [shown, h]
theorem shown_le (sh : List (List Int)) (us : List Int) (k : Nat) : (shown sh us k).length ≤ k := by
  have := List.length_filter_le (fun s => cau sh us s) (units k)
  simpa [shown, units] using this
set_option maxRecDepth 10000 in
theorem shown_calls (n : Nat) (AG : Option Addr) (cG : Nat) (sh : List (List Int)) (A : Option Addr) (c : Nat) (us : List Int) (w : World)
    (hl : Lists w w.heap.size AG sh) (hn : sh.length ≤ 9223372036854775807) (h : Ints w w.heap.size A us) (hm : us.length ≤ 9223372036854775807) (hn' : n ≤ 1000) :
    Calls Tryd.prog 26 #[.agg #[.int .i64 n, .slice AG sh.length cG], .slice A us.length c] w (RowPost w (shown sh us n)) := by
  obtain ⟨i0, hi, hz0, hz1, hz2⟩ := info_parts Tryd.infoInt
  obtain ⟨W1, hW1⟩ : ∃ W1, w.alloc (.cells #[.int .i64 n, .slice AG sh.length cG] 35) = W1 := ⟨_, rfl⟩
  have s1 : W1.heap.size = w.heap.size + 1 := by rw [← hW1]; simp
  have hb1 : Below w.heap.size w W1 := by rw [← hW1]; exact (Below.refl _ _).alloc (Nat.le_refl _) _
  have hG1 : GBox W1 W1.heap.size w.heap.size n sh := by rw [s1, ← hW1]; exact gbox_new w n AG cG sh hl hn
  have hI1 := (h.below hb1).more hb1.size
  go_enter Tryd.func26, Tryd.ntmps26
  go_wp2
  clear hW1 hl h
  go_loopw [5, 6] (fun v i wr => ∃ k : Nat, k ≤ n ∧ i = .int .i64 k ∧ wr.ownsRow W1.heap.size 3 1 v (shown sh us k).length (ic (shown sh us k)) ∧ Below W1.heap.size W1 wr) (fun _ i _ => n - (intOf i).toNat)
  case atStart => exact ⟨0, Nat.zero_le _, rfl, World.ownsRow_nil _ _ _ _, Below.refl _ _⟩
  case round =>
    obtain ⟨k, hk, rfl, hown, hbw⟩ := hrel
    have hsz := hbw.size
    obtain ⟨hq, l1, g0, AG', cG', gg1, hlX⟩ := (hG1.below hbw).more hsz
    have HI := bx ((hI1.below hbw).more hsz)
    have HLX := bx hlX
    clear hlX
    have hLe := shown_le sh us k
    have hB := shown_succ sh us k
    by_cases hlt : k < n
    · cases hc : cau sh us k
      · rw [hc] at hB
        have HC := bx hc
        have HB := bx (show shown sh us (k + 1) = shown sh us k from hB)
        clear hc hB
        go_wp2_with fail
        refine (refCaused_val n AG' cG' sh A c us k wr HLX.out l1 HI.out hm false HC.out).mono ?_
        rintro e w3 ⟨rfl, hb3⟩
        have ho3 := hown.kept (grown_of_below hb3 none) (by cases u5.ownBlock <;> simp)
        go_wp2
        go_roundw
        case rel => exact ⟨k + 1, by omega, by go_num, by rw [HB.out]; exact ho3, hbw.trans (hb3.mono hsz)⟩
        case measure => simp [intOf]; omega
      · rw [hc] at hB
        have HC := bx hc
        have HB := bx (show shown sh us (k + 1) = shown sh us k ++ [(k : Int)] from hB)
        clear hc hB
        go_wp2_with fail
        refine (refCaused_val n AG' cG' sh A c us k wr HLX.out l1 HI.out hm true HC.out).mono ?_
        rintro e w3 ⟨rfl, hb3⟩
        have ho3 := hown.kept (grown_of_below hb3 none) (by cases u5.ownBlock <;> simp)
        have hb13 := hbw.trans (hb3.mono hsz)
        have hs13 := hb13.size
        go_wp2_with (at_builtin; refine wpList_append_own _ rfl _ _ 32 rfl W1.heap.size 3 i0 (.int .i64 0) 1 8 Tryd.underlying32 hi hz0 hz1 hz2 rfl (by decide) _ _ _ rfl (ho3.alloc _) ⟨w3.heap.size, 0, none⟩ 1 1 [.int .i64 k] rfl rfl (cell_one_new _ _ _) (by simp [Value.oneCell']) (by unfold maxLen; omega) (by omega) (by simp; omega) ?_; intro v' w5 o5 g5 _)
        have hb15 : Below W1.heap.size W1 w5 := (hb13.alloc hs13 _).grown g5 (by simp; omega) (fun g hg => (hown.lt g hg).1)
        go_roundw
        case rel => exact ⟨k + 1, by omega, by go_num, by rw [HB.out, ic_append, List.length_append]; exact o5, hb15⟩
        case measure => simp [intOf]; omega
    · obtain rfl : k = n := by omega
      obtain ⟨A', c', rfl⟩ := slice_form hown
      go_wp2
      go_ret
      exact ⟨A', c', rfl, own_base hown hb1.size, hb1.trans (hbw.mono hb1.size)⟩
end Go.Proofs.YtgfmnolghbiedaaDoor
