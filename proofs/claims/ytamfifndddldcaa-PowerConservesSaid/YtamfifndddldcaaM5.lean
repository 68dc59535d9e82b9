/-
  Plain law of layer 10: the gain by the windows of a craft; the eclipsed ticks of a period. No program in sight.
-/
import Derived.Test.YtamfifndddldcaaM4
import Derived.Test.YtamfifndddldcaaW17
namespace Go.Proofs.Ytamfifndddldcaa

theorem isW_iff {k a b : Int} {x : Wn} : isW k a b x = true ↔ x.k = k ∧ x.a = a ∧ x.b = b := by simp [isW]
theorem gain_eq (t : List Wn) (h : Tab0 t) (c s k : Int) : gainA t c s k = gainT t c s k := by
  have key : ∀ l : List Wn, (∀ x ∈ l, x.k = 3 ∧ x.b = 0) → (∀ x ∈ l, x.f < x.u) → l.Pairwise (fun x y => x.a = y.a → x.u ≤ y.f) → (atF k (ofL 3 c 0 l)).isSome = l.any (hits c k) := by
    intro l
    induction l with
    | nil => intro _ _ _; rfl
    | cons x l ih =>
      intro hk hf hp
      rw [List.pairwise_cons] at hp
      have h1 := ih (fun y hy => hk y (List.mem_cons_of_mem _ hy)) (fun y hy => hf y (List.mem_cons_of_mem _ hy)) hp.2
      obtain ⟨k3, kb⟩ := hk x List.mem_cons_self
      have hfx := hf x List.mem_cons_self
      rw [List.any_cons, ← h1]
      unfold ofL at *
      rw [List.filter_cons]
      by_cases hc : x.a = c
      · rw [if_pos (isW_iff.2 ⟨k3, hc, kb⟩)]
        rw [h1]
        unfold atF nextF
        rw [List.find?_cons]
        by_cases hu : k < x.u
        · simp only [hu, decide_true]
          by_cases hx : x.f ≤ k
          · rw [hits_iff.2 ⟨k3, hc, hx, hu⟩]
            simp [Option.filter, hx]
          · have hn : hits c k x = false := by rw [Bool.eq_false_iff]; intro hh; rw [hits_iff] at hh; omega
            rw [hn, Bool.false_or]
            have h2 : l.any (hits c k) = false := by
              rw [Bool.eq_false_iff]
              intro hh
              obtain ⟨y, hy, hyh⟩ := List.any_eq_true.1 hh
              rw [hits_iff] at hyh
              have := hp.1 y hy (by omega)
              omega
            rw [h2]
            simp [Option.filter, hx]
        · have hn : hits c k x = false := by rw [Bool.eq_false_iff]; intro hh; rw [hits_iff] at hh; omega
          simp only [hu, decide_false]
          rw [hn, Bool.false_or, ← h1]
          rfl
      · rw [if_neg (by rw [isW_iff]; omega)]
        have hn : hits c k x = false := by rw [Bool.eq_false_iff]; intro hh; rw [hits_iff] at hh; omega
        rw [hn, Bool.false_or]
  unfold gainA gainT
  rw [key t (fun x hx => ⟨(h.kind x hx).1, (h.kind x hx).2.2⟩) (fun x hx => (h.bd x hx).2.1) (h.srt.imp fun h => h.2)]
end Go.Proofs.Ytamfifndddldcaa
