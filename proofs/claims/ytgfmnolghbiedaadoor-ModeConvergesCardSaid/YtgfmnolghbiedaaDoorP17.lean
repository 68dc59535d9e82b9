/-
  Plain law of layer 31 (no program): a call of React with symptoms that does not lead to safe mode spends budget.
-/
import Derived.Test.YtgfmnolghbiedaaDoorP13
import Derived.Test.YtgfmnolghbiedaaDoorP14
namespace Go.Proofs.YtgfmnolghbiedaaDoor

theorem react_less {lev bud : Int} {us : UL} {sh : List (List Int)} {seen clear : List Int} {r : RS} (hr : reactM lev bud us sh seen clear = r) (hs : seen ≠ []) (hl : ¬ r.lev = 2) : r.bud < bud := by
  unfold reactM at hr
  rw [if_neg hs] at hr
  cases ht : leastOf sh seen clear with
  | none => rw [ht] at hr; subst hr; exact absurd rfl hl
  | some t =>
    rw [ht] at hr
    simp only at hr
    obtain ⟨_, e2, _⟩ := runR_tot ⟨max lev 1, bud, us, []⟩ t
    have e3 := runR_lev ⟨max lev 1, bud, us, []⟩ t
    rw [hr] at e2 e3
    simp only [List.length_nil, Nat.zero_add] at e2 e3
    have hlt : ¬ r.sw.length < t.length := fun h => hl (by rw [e3, if_pos h])
    have hne : t ≠ [] := by
      rintro rfl
      obtain ⟨x, hx⟩ := List.exists_mem_of_ne_nil seen hs
      have := ((expl_iff _ _ _ _).1 (least_ex ht).1).1 x hx
      simp [cau] at this
    have : 0 < t.length := List.length_pos_iff.2 hne
    omega
end Go.Proofs.YtgfmnolghbiedaaDoor
