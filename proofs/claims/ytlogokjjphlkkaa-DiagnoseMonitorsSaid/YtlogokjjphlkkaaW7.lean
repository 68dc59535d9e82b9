/-
  Walks: cmp.Compare, slices.insertionSortCmpFunc and slices.SortFunc of few numbers.
-/
import Derived.Test.YtlogokjjphlkkaaW6
import Derived.Sort.LotA
import Derived.Sort.Row
import Derived.BigGuard
import Derived.BigCall
import Derived.CellFam
import Derived.Deep.Draws
namespace Go.Proofs.Ytlogokjjphlkkaa
open Go.RowKit Go.Shelf

def cmpI (x y : Int) : Int := if x < y then -1 else if y < x then 1 else 0
theorem cmpI_lt (x y : Int) : cmpI x y < 0 ↔ x < y := by
  unfold cmpI
  split
  · simp [*]
  · split <;> simp [*]
theorem compare_calls (x y : Int) (w : World) : Calls Try.prog 85 #[.int .i64 x, .int .i64 y] w fun e w' => e = .returned (.int .i64 (cmpI x y)) ∧ w' = w := by
  obtain ⟨z, hz⟩ : ∃ z, cmpI x y = z := ⟨_, rfl⟩
  rw [hz]
  rw [cmpI] at hz
  have HZ := bx hz
  clear hz
  go_enter Try.func85, Try.ntmps85
  go_wp2
  all_goals
    go_ret
    refine ⟨ret_int ?_, rfl⟩
    rw [← HZ.out]
    split
    · first | rfl | (exfalso; omega)
    · first | rfl | (exfalso; omega) | (split <;> first | rfl | (exfalso; omega))
theorem insInner_go (a j : Nat) (d : Array Int) (hj : a < j) (hl : Sort.ltInt d[j]! d[j - 1]! = true) : Sort.insInner Sort.ltInt a j d = Sort.insInner Sort.ltInt a (j - 1) (Sort.swp d j (j - 1)) := by
  obtain ⟨k, rfl⟩ : ∃ k, j = k + 1 := ⟨j - 1, by omega⟩
  rw [Sort.insInner]
  simp only [Nat.add_sub_cancel] at hl ⊢
  simp [hj, hl]
theorem insInner_stop (a j : Nat) (d : Array Int) (h : j ≤ a ∨ Sort.ltInt d[j]! d[j - 1]! = false) : Sort.insInner Sort.ltInt a j d = d := by
  cases j with
  | zero => rw [Sort.insInner]
  | succ k =>
    rw [Sort.insInner]
    simp only [Nat.add_sub_cancel] at h
    rcases h with h | h
    · simp [show ¬ k + 1 > a by omega]
    · simp [h]
theorem putRow_drewN (enc : Int → Value) (w : World) (m q blk off : Nat) (d : Array Int) : (Sort.putRow enc (Sort.ahead w m) blk off d).drewN q = Sort.putRow enc (Sort.ahead w (m + q)) blk off d := by
  show Sort.ahead (Sort.putRow enc (Sort.ahead w m) blk off d) q = _
  rw [Sort.putRow_ahead enc w m, Sort.ahead_ahead, ← Sort.putRow_ahead]
theorem swap_worldA (enc : Int → Value) (w : World) (m q blk off : Nat) (d : Array Int) (j k : Nat) (hj : j < d.size) (hk : k < d.size) :
    (((Sort.putRow enc (Sort.ahead w m) blk off d).drewN q).setCell ⟨blk, off + j, none⟩ (enc d[k]!)).setCell ⟨blk, off + k, none⟩ (enc d[j]!) = Sort.putRow enc (Sort.ahead w (m + q)) blk off (Sort.swp d j k) := by
  rw [putRow_drewN]
  exact Sort.putRow_swp enc _ blk off d j k hj hk
theorem insOuter_go (a b i : Nat) (d : Array Int) (h : i < b) : Sort.insOuter Sort.ltInt a b i d = Sort.insOuter Sort.ltInt a b (i + 1) (Sort.insInner Sort.ltInt a i d) := by rw [Sort.insOuter, if_pos h]
theorem insOuter_stop (a b i : Nat) (d : Array Int) (h : ¬ i < b) : Sort.insOuter Sort.ltInt a b i d = d := by rw [Sort.insOuter, if_neg h]

theorem insSort_calls (blk off cap a b : Nat) (d : Array Int) (w : World) (hH : Sort.Holds (Value.int .i64) w blk off d) (hab : a ≤ b) (hb : b ≤ d.size) (hsz : d.size < 4611686018427387904) :
    Calls Try.prog 158 #[.slice (some ⟨blk, off, none⟩) d.size cap, .int .i64 a, .int .i64 b, .func (.func 85) #[] #[]] w fun e w' =>
      e = .returned (.tuple #[]) ∧ ∃ n, w' = Sort.putRow (Value.int .i64) (Sort.ahead w n) blk off (Sort.insertionSort Sort.ltInt d a b) := by
  go_enter Try.func158, Try.ntmps158
  go_wp2
  go_loopw [8, 9] (fun vi _ wr => ∃ (i n : Nat) (dk : Array Int), vi = .int .i64 i ∧ a < i ∧ i ≤ b + 1 ∧ dk.size = d.size ∧ wr = Sort.putRow (Value.int .i64) (Sort.ahead w n) blk off dk ∧
      Sort.insOuter Sort.ltInt a b i dk = Sort.insOuter Sort.ltInt a b (a + 1) d) (fun vi _ _ => b + 1 - (intOf vi).toNat)
  case atStart => exact ⟨a + 1, 0, d, by go_num, by omega, by omega, rfl, (Sort.putRow_self _ _ _ _ _ hH).symm, rfl⟩
  case round =>
    obtain ⟨i, n, dk, rfl, hai, hib, hsk, hwr, hO⟩ := hrel
    have HO := bx hO
    clear hO
    by_cases hlt : i < b
    · go_wp2
      go_loopw [9] (fun vj wr2 => ∃ (j m : Nat) (dj : Array Int), vj = .int .i64 j ∧ a ≤ j ∧ j ≤ i ∧ dj.size = d.size ∧ wr2 = Sort.putRow (Value.int .i64) (Sort.ahead w m) blk off dj ∧
          Sort.insInner Sort.ltInt a j dj = Sort.insInner Sort.ltInt a i dk) (fun vj _ => (intOf vj).toNat)
      case atStart => exact ⟨i, n, dk, rfl, by omega, Nat.le_refl _, hsk, by first | exact hwr | rfl, rfl⟩
      case round =>
        obtain ⟨j, m, dj, rfl, haj, hji, hsj, hw2, hI⟩ := hrel
        obtain ⟨G, hG⟩ : ∃ G : Nat → Int, ∀ t, G t = dj[t]! := ⟨fun t => dj[t]!, fun _ => rfl⟩
        have hcw : ∀ t, t < d.size → wr.cell? ⟨blk, off + t, none⟩ = some (.int .i64 (G t)) := fun t ht => by
          rw [hw2, hG]; exact Sort.cell?_putRow _ _ _ _ d dj (Sort.holds_ahead _ _ _ _ _ _ hH) hsj t (by omega)
        have hfw : ∀ t, t < d.size → wr.frozen? ⟨blk, off + t, none⟩ = false := fun t ht => by
          rw [hw2, Sort.frozen?_putRow]; exact ((Sort.holds_ahead _ _ m _ _ _ hH) t ht).2
        have HW := bx hw2
        have HG := bx hG
        have HI := bx hI
        have HH := bx hH
        clear hw2 hG hI hH hwr
        have out : (j ≤ a ∨ Sort.ltInt dj[j]! dj[j - 1]! = false) → ∀ q, ∃ i' n' dk', Value.int .i64 ((i : Int) + 1) = .int .i64 (i' : Nat) ∧ a < i' ∧ i' ≤ b + 1 ∧ dk'.size = d.size ∧
            wr.drewN q = Sort.putRow (Value.int .i64) (Sort.ahead w n') blk off dk' ∧ Sort.insOuter Sort.ltInt a b i' dk' = Sort.insOuter Sort.ltInt a b (a + 1) d := fun hs q =>
          ⟨i + 1, m + q, dj, by go_num, by omega, by omega, hsj, by rw [HW.out]; exact putRow_drewN _ _ _ _ _ _ _,
            by rw [← HO.out, insOuter_go _ _ _ _ hlt, ← HI.out, insInner_stop _ _ _ hs]⟩
        have OUT := bx out
        clear out
        go_wp2
        by_cases hja : a < j
        · go_quiet (first | (go_at_call 85; refine Calls.quiet_of_same (compare_calls _ _ _)))
          go_wp2
          · have hl : Sort.ltInt (G j) (G (j - 1)) = true := decide_eq_true ((cmpI_lt _ _).1 (by assumption))
            go_region
            all_goals go_wp2
            go_roundw
            case rel =>
              refine ⟨j - 1, m + (nq + 1), Sort.swp dj j (j - 1), by congr 1; omega, by omega, by omega, by rw [Sort.size_swp]; exact hsj, ?_, ?_⟩
              · rw [HW.out, HG.out, HG.out]
                exact swap_worldA _ w m (nq + 1) blk off dj j (j - 1) (by omega) (by omega)
              · rw [← HI.out, insInner_go a j dj hja (by rw [← HG.out, ← HG.out]; exact hl)]
            case measure => simp [intOf]; omega
          · have hl : Sort.ltInt (G j) (G (j - 1)) = false := decide_eq_false (fun hh => absurd ((cmpI_lt _ _).2 hh) (by omega))
            go_roundw
            case rel => exact OUT.out (Or.inr (by rw [← HG.out, ← HG.out]; exact hl)) nq
            case measure => simp [intOf]; omega
        · go_quiet (first | (go_at_call 85; refine Calls.quiet_of_same (compare_calls _ _ _)))
          go_wp2
          go_roundw
          case rel => exact OUT.out (Or.inl (by omega)) nq
          case measure => simp [intOf]; omega
    · go_wp2
      go_end0
      exact ⟨rfl, n, by unfold Sort.insertionSort; rw [← HO.out, insOuter_stop _ _ _ _ hlt]⟩
end Go.Proofs.Ytlogokjjphlkkaa
