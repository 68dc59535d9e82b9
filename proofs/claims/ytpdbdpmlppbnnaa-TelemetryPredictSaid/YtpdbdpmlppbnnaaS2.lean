/-
  Walks: insertion sort of a row of one's own by priorities; Order of fewer than twenty.
-/
import Derived.Test.YtpdbdpmlppbnnaaS1
namespace Go.Proofs.Ytpdbdpmlppbnnaa
open Go.RowKit Go.Shelf

def ltN (P : List Int) (x y : Nat) : Bool := decide (P.getD y 0 < P.getD x 0)
theorem ltN_cmp (P : List Int) (x y : Nat) : cmpI (P.getD y 0) (P.getD x 0) < 0 ↔ ltN P x y = true := by rw [cmpI_lt, ltN, decide_eq_true_eq]
def swpL (d : List Nat) (j : Nat) : List Nat := (d.set j (d.getD (j - 1) 0)).set (j - 1) (d.getD j 0)
def insIn (lt : Nat → Nat → Bool) (a : Nat) : Nat → List Nat → List Nat
  | 0, d => d
  | j + 1, d => if a < j + 1 ∧ lt (d.getD (j + 1) 0) (d.getD j 0) = true then insIn lt a j (swpL d (j + 1)) else d
def insOut (lt : Nat → Nat → Bool) (a b i : Nat) (d : List Nat) : List Nat := if i < b then insOut lt a b (i + 1) (insIn lt a i d) else d
termination_by b - i
theorem insOut_go {lt : Nat → Nat → Bool} {a b i : Nat} {d : List Nat} (h : i < b) : insOut lt a b i d = insOut lt a b (i + 1) (insIn lt a i d) := by rw [insOut, if_pos h]
theorem insOut_stop {lt : Nat → Nat → Bool} {a b i : Nat} {d : List Nat} (h : ¬ i < b) : insOut lt a b i d = d := by rw [insOut, if_neg h]
theorem insIn_go {lt : Nat → Nat → Bool} {a j : Nat} {d : List Nat} (hj : a < j) (hl : lt (d.getD j 0) (d.getD (j - 1) 0) = true) : insIn lt a j d = insIn lt a (j - 1) (swpL d j) := by
  obtain ⟨k, rfl⟩ : ∃ k, j = k + 1 := ⟨j - 1, by omega⟩
  rw [insIn]
  simp only [Nat.add_sub_cancel] at hl ⊢
  rw [if_pos ⟨hj, hl⟩]
theorem insIn_stop {lt : Nat → Nat → Bool} {a j : Nat} {d : List Nat} (h : j ≤ a ∨ lt (d.getD j 0) (d.getD (j - 1) 0) = false) : insIn lt a j d = d := by
  cases j with
  | zero => rw [insIn]
  | succ k =>
    rw [insIn]
    simp only [Nat.add_sub_cancel] at h
    rw [if_neg]
    rintro ⟨h1, h2⟩
    rcases h with h | h
    · omega
    · rw [h] at h2; cases h2
theorem swpL_len (d : List Nat) (j : Nat) : (swpL d j).length = d.length := by simp [swpL]
theorem swpL_mem {d : List Nat} {j m : Nat} (h : ∀ x ∈ d, x < m) (hm : 0 < m) (x : Nat) (hx : x ∈ swpL d j) : x < m := by
  have hg : ∀ i, d.getD i 0 < m := fun i => by
    rw [List.getD_eq_getElem?_getD]
    by_cases hi : i < d.length
    · rw [List.getElem?_eq_getElem hi]; exact h _ (List.getElem_mem hi)
    · rw [List.getElem?_eq_none (by omega)]; exact hm
  rcases List.mem_or_eq_of_mem_set hx with hx | rfl
  · rcases List.mem_or_eq_of_mem_set hx with hx | rfl
    · exact h x hx
    · exact hg _
  · exact hg _
/-- a row of indices that is being sorted -/
structure SR (lo : Nat) (w : World) (g c n pb : Nat) (P : List Int) (d : List Nat) : Prop where
  own : w.ownsRow lo 3 1 (.slice (some ⟨g, 0, none⟩) n c) n (ic (nl d))
  len : d.length = n
  prio : PrioIn w lo pb P
  lt : ∀ x ∈ d, x < P.length
  lo_ : lo ≤ w.heap.size
theorem SR.cell {lo g c n pb : Nat} {w : World} {P : List Int} {d : List Nat} (h : SR lo w g c n pb P d) {j : Nat} (hj : j < n) : w.cell? ⟨g, j, none⟩ = some (.int .i64 (d.getD j 0 : Nat)) ∧ w.frozen? ⟨g, j, none⟩ = false := by
  have hj2 : j < d.length := by rw [h.len]; exact hj
  refine own_cell h.own ?_
  simp only [ic, nl, List.getElem?_map, List.getElem?_eq_getElem hj2, List.getD_eq_getElem?_getD, Option.map_some, Option.getD_some]
theorem SR.grow {lo g c n pb : Nat} {w w' : World} {P : List Int} {d d' : List Nat} (h : SR lo w g c n pb P d) (k : w.grownBy w' (some g)) (ho : w'.ownsRow lo 3 1 (.slice (some ⟨g, 0, none⟩) n c) n (ic (nl d'))) (hl : d'.length = n) (hlt : ∀ x ∈ d', x < P.length) : SR lo w' g c n pb P d' := by
  obtain ⟨hg, cs, hh⟩ := own_block h.own
  exact ⟨ho, hl, h.prio.grown k hh hg h.lo_, hlt, Nat.le_trans h.lo_ k.size⟩
theorem SR.drewN {lo g c n pb : Nat} {w : World} {P : List Int} {d : List Nat} (h : SR lo w g c n pb P d) (q : Nat) : SR lo (w.drewN q) g c n pb P d :=
  h.grow (grown_drewN (grown_refl _ _) q) (own_drewN h.own q) h.len h.lt
theorem SR.swap {lo g c n pb : Nat} {w : World} {P : List Int} {d : List Nat} (h : SR lo w g c n pb P d) (j : Nat) (hj : 0 < P.length) :
    SR lo ((w.setCell ⟨g, j, none⟩ (.int .i64 (d.getD (j - 1) 0 : Nat))).setCell ⟨g, j - 1, none⟩ (.int .i64 (d.getD j 0 : Nat))) g c n pb P (swpL d j) := by
  refine h.grow (grown_set (grown_set (grown_refl _ _) _ _) _ _) ?_ (by rw [swpL_len]; exact h.len) (swpL_mem h.lt hj)
  have := own_put (own_put h.own j (.int .i64 (d.getD (j - 1) 0 : Nat))) (j - 1) (.int .i64 (d.getD j 0 : Nat))
  rwa [show ((ic (nl d)).set j (.int .i64 (d.getD (j - 1) 0 : Nat))).set (j - 1) (.int .i64 (d.getD j 0 : Nat)) = ic (nl (swpL d j)) by simp [ic, nl, swpL]] at this
set_option maxHeartbeats 1000000 in
theorem insS_calls (lo g c n pb a b : Nat) (P : List Int) (d : List Nat) (w : World) (h : SR lo w g c n pb P d) (hab : a ≤ b) (hb : b ≤ n) (hn : n < 4611686018427387904) :
    Calls Try.prog 101 #[.slice (some ⟨g, 0, none⟩) n c, .int .i64 a, .int .i64 b, .func (.func 49) #[] #[.pointer (some ⟨pb, 0, none⟩)]] w fun e w' =>
      e = .returned (.tuple #[]) ∧ SR lo w' g c n pb P (insOut (ltN P) a b (a + 1) d) ∧ w.grownBy w' (some g) := by
  have HH := bx h
  clear h
  go_enter Try.func101, Try.ntmps101
  go_wp2
  go_loopw [8, 9] (fun vi _ wr => ∃ (i : Nat) (dk : List Nat), vi = .int .i64 i ∧ a < i ∧ i ≤ b + 1 ∧ SR lo wr g c n pb P dk ∧ w.grownBy wr (some g) ∧ insOut (ltN P) a b i dk = insOut (ltN P) a b (a + 1) d) (fun vi _ _ => b + 1 - (intOf vi).toNat)
  case atStart => exact ⟨a + 1, d, by go_num, by omega, by omega, HH.out, grown_refl _ _, rfl⟩
  case round =>
    obtain ⟨i, dk, rfl, hai, hib, hS, hG, hO⟩ := hrel
    have HO := bx hO
    have HS := bx hS
    have HG := bx hG
    clear hO hS hG
    by_cases hlt : i < b
    · go_wp2
      go_loopw [9] (fun vj wr2 => ∃ (j : Nat) (dj : List Nat), vj = .int .i64 j ∧ a ≤ j ∧ j ≤ i ∧ SR lo wr2 g c n pb P dj ∧ w.grownBy wr2 (some g) ∧ insIn (ltN P) a j dj = insIn (ltN P) a i dk) (fun vj _ => (intOf vj).toNat)
      case atStart => exact ⟨i, dk, rfl, by omega, Nat.le_refl _, HS.out, HG.out, rfl⟩
      case round =>
        obtain ⟨j, dj, rfl, haj, hji, hS2, hG2, hI⟩ := hrel
        have HS2 := bx hS2
        have HG2 := bx hG2
        have HI := bx hI
        have out : (j ≤ a ∨ ltN P (dj.getD j 0) (dj.getD (j - 1) 0) = false) → ∀ q, ∃ (i' : Nat) (dk' : List Nat), Value.int .i64 ((i : Int) + 1) = .int .i64 i' ∧ a < i' ∧ i' ≤ b + 1 ∧ SR lo (wr.drewN q) g c n pb P dk' ∧ w.grownBy (wr.drewN q) (some g) ∧ insOut (ltN P) a b i' dk' = insOut (ltN P) a b (a + 1) d := fun hs q =>
          ⟨i + 1, dj, by go_num, by omega, by omega, HS2.out.drewN q, grown_drewN HG2.out q, by rw [← HO.out, insOut_go hlt, ← HI.out, insIn_stop hs]⟩
        have OUT := bx out
        clear out hS2 hG2 hI
        go_wp2
        by_cases hja : a < j
        · obtain ⟨c1, f1⟩ := HS2.out.cell (j := j) (by omega)
          obtain ⟨c2, f2⟩ := HS2.out.cell (j := j - 1) (by omega)
          have hm : ∀ t, t < n → dj.getD t 0 < P.length := fun t ht => by
            have ht2 : t < dj.length := by rw [HS2.out.len]; exact ht
            rw [List.getD_eq_getElem?_getD, List.getElem?_eq_getElem ht2]
            exact HS2.out.lt _ (List.getElem_mem ht2)
          have m1 := hm j (by omega)
          have m2 := hm (j - 1) (by omega)
          have HGO := bx (fun hl : ltN P (dj.getD j 0) (dj.getD (j - 1) 0) = true => insIn_go (a := a) hja hl)
          have HSW := bx (fun q => (HS2.out.drewN q).swap j (by omega))
          have HLN := bx (ltN_cmp P (dj.getD j 0) (dj.getD (j - 1) 0))
          have HOC := bx (fun W (hp : PrioIn W lo pb P) => ord1_calls pb lo P (dj.getD j 0) (dj.getD (j - 1) 0) W hp m1 m2)
          generalize dj.getD j 0 = x1 at *
          generalize dj.getD (j - 1) 0 = x2 at *
          obtain ⟨z, hz⟩ : ∃ z, cmpI (P.getD x2 0) (P.getD x1 0) = z := ⟨_, rfl⟩
          rw [hz] at HLN HOC
          clear hm hz
          go_quiet (first | (go_at_call 49; exact Calls.quiet_of (HOC.out _ (HS2.out.drewN _).prio)))
          go_wp2
          · have hl := HLN.out.1 (by assumption)
            have HNX := bx (HGO.out hl)
            clear hl
            go_region
            all_goals go_wp2
            go_roundw
            case rel => exact ⟨j - 1, swpL dj j, by congr 1; omega, by omega, by omega, HSW.out _, grown_set (grown_set (grown_drewN HG2.out _) _ _) _ _, by rw [← HNX.out]; exact HI.out⟩
            case measure => simp [intOf]; omega
          · have hl : ltN P x1 x2 = false := by
              cases h : ltN P x1 x2
              · rfl
              · exact absurd (HLN.out.2 h) (by omega)
            go_roundw
            case rel => exact OUT.out (Or.inr hl) nq
            case measure => simp [intOf]; omega
        · go_quiet (fail)
          go_wp2
          go_roundw
          case rel => exact OUT.out (Or.inl (by omega)) nq
          case measure => simp [intOf]; omega
    · go_wp2
      go_end0
      exact ⟨rfl, by rw [← HO.out, insOut_stop hlt]; exact HS.out, HG.out⟩
end Go.Proofs.Ytpdbdpmlppbnnaa
