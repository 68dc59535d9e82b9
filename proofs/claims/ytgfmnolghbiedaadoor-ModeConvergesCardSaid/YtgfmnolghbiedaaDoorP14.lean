/-
  Walks of layer 31: Total; what React keeps (no program).
-/
import Derived.Test.YtgfmnolghbiedaaDoorP10
namespace Go.Proofs.YtgfmnolghbiedaaDoor
open Go.RowKit Go.Shelf

def sumA (l : UL) : Int := (l.map (·.1)).sum
theorem sumA_set (l : UL) (k : Nat) (hk : k < l.length) : sumA (l.set k (l[k].1 + 1, l[k].2)) = sumA l + 1 := by
  induction l generalizing k with
  | nil => simp at hk
  | cons a t ih =>
    cases k with
    | zero => simp [sumA]; omega
    | succ k =>
      have := ih k (by simpa using hk)
      simp only [sumA, List.set_cons_succ, List.map_cons, List.sum_cons, List.getElem_cons_succ] at *
      omega
theorem stepR_cases (s : RS) (u : Int) : (stops s u ∧ stepR s u = { s with lev := 2 }) ∨ (¬ stops s u ∧ ∃ hk : u.toNat < s.us.length, stepR s u = { s with bud := s.bud - 1, us := s.us.set u.toNat (s.us[u.toNat].1 + 1, s.us[u.toNat].2), sw := s.sw ++ [u] }) := by
  by_cases h : stops s u
  · exact .inl ⟨h, by rw [stepR, if_pos h]⟩
  · have hk : u.toNat < s.us.length := by
      by_cases hk : u.toNat < s.us.length
      · exact hk
      · exact absurd (.inl (by omega)) h
    have hd : s.us.getD u.toNat (0, 0) = s.us[u.toNat] := by simp [List.getD_eq_getElem?_getD, List.getElem?_eq_getElem hk]
    exact .inr ⟨h, hk, by rw [stepR, if_neg h, hd]⟩
theorem runR_tot (s : RS) (l : List Int) : (runR s l).bud + sumA (runR s l).us = s.bud + sumA s.us ∧ (runR s l).bud + (runR s l).sw.length = s.bud + s.sw.length ∧ s.lev ≤ max (runR s l).lev s.lev := by
  induction l generalizing s with
  | nil => exact ⟨rfl, rfl, by show s.lev ≤ max s.lev s.lev; omega⟩
  | cons u t ih =>
    obtain ⟨h1, h2, _⟩ := ih (stepR s u)
    refine ⟨h1.trans ?_, h2.trans ?_, by omega⟩
    · rcases stepR_cases s u with ⟨_, e⟩ | ⟨_, hk, e⟩
      · rw [e]
      · rw [e]
        show s.bud - 1 + sumA _ = _
        rw [sumA_set _ _ hk]; omega
    · rcases stepR_cases s u with ⟨_, e⟩ | ⟨_, hk, e⟩
      · rw [e]
      · rw [e]
        show s.bud - 1 + ((s.sw ++ [u]).length : Int) = _
        rw [List.length_append]; simp only [List.length_cons, List.length_nil]; omega
/-- each unit is as it was, or it has been switched -/
def Switched (us0 : UL) (s : RS) : Prop := s.us.length = us0.length ∧ ∀ i (hi : i < us0.length) (hi' : i < s.us.length), s.us[i] = if s.sw.contains (i : Int) then (us0[i].1 + 1, us0[i].2) else us0[i]
theorem stepR_switched {us0 : UL} {s : RS} {u : Int} (h : Switched us0 s) (hu : 0 ≤ u) (hn : s.sw.contains u = false) : Switched us0 (stepR s u) := by
  rcases stepR_cases s u with ⟨_, e⟩ | ⟨_, hk, e⟩
  · rw [e]; exact h
  · rw [e]
    refine ⟨by show (s.us.set _ _).length = _; rw [List.length_set]; exact h.1, fun i hi hi' => ?_⟩
    have hi2 : i < s.us.length := by rw [h.1]; exact hi
    have h0 := h.2 i hi hi2
    show (s.us.set u.toNat _)[i] = if (s.sw ++ [u]).contains (i : Int) then _ else _
    rw [List.getElem_set]
    by_cases hiu : u.toNat = i
    · have huc : u = (i : Int) := by omega
      subst hiu
      rw [← huc] at h0 ⊢
      rw [hn] at h0
      simp only [Bool.false_eq_true, if_false] at h0
      rw [if_pos rfl, h0]
      simp
    · have hne : ¬ (i : Int) = u := by omega
      rw [if_neg hiu, h0]
      simp [hne]
theorem stepR_sw_mem {s : RS} {u x : Int} (h : (stepR s u).sw.contains x = true) : s.sw.contains x = true ∨ x = u := by
  rcases stepR_cases s u with ⟨_, e⟩ | ⟨_, _, e⟩
  · rw [e] at h; exact .inl h
  · rw [e] at h
    simp only [List.contains_append, Bool.or_eq_true, List.contains_cons, List.contains_nil, Bool.or_false, beq_iff_eq] at h
    exact h
theorem runR_switched {us0 : UL} (l : List Int) : ∀ {s : RS}, Switched us0 s → l.Nodup → (∀ x ∈ l, 0 ≤ x) → (∀ x ∈ l, s.sw.contains x = false) → Switched us0 (runR s l) := by
  induction l with
  | nil => intro s h _ _ _; exact h
  | cons u t ih =>
    intro s h hnd h0 hd
    obtain ⟨hu, hnt⟩ := List.nodup_cons.1 hnd
    refine ih (stepR_switched h (h0 u (by simp)) (hd u (by simp))) hnt (fun x hx => h0 x (by simp [hx])) (fun x hx => ?_)
    cases hc : (stepR s u).sw.contains x
    · rfl
    · rcases stepR_sw_mem hc with h1 | h1
      · have := hd x (by simp [hx])
        rw [this] at h1; cases h1
      · subst h1; exact absurd hx hu
theorem runR_lev2 (s : RS) (l : List Int) : (runR s l).lev = 2 ∨ (runR s l).lev = s.lev := by
  induction l generalizing s with
  | nil => exact .inr rfl
  | cons u t ih =>
    rcases ih (stepR s u) with h | h
    · exact .inl h
    · rcases stepR_cases s u with ⟨_, e⟩ | ⟨_, _, e⟩
      · exact .inl (h.trans (by rw [e]))
      · exact .inr (h.trans (by rw [e]))
/-- what React keeps -/
theorem reactM_keeps {lev bud : Int} {us : UL} {sh : List (List Int)} {seen clear : List Int} {r : RS} (hr : reactM lev bud us sh seen clear = r) (hg : GoodU us) (hb : 0 ≤ bud) (h0 : 0 ≤ lev) (h2 : lev ≤ 2) :
    GoodU r.us ∧ 0 ≤ r.bud ∧ r.bud ≤ bud ∧ lev ≤ r.lev ∧ r.lev ≤ 2 ∧ r.bud + sumA r.us = bud + sumA us ∧ r.bud + r.sw.length = bud ∧ Switched us r := by
  have triv : ∀ lv, Switched us ⟨lv, bud, us, []⟩ := fun lv => ⟨rfl, fun i hi hi' => by simp⟩
  unfold reactM at hr
  split at hr
  · subst hr; exact ⟨hg, hb, Int.le_refl _, Int.le_refl _, h2, rfl, by simp, triv _⟩
  · split at hr
    · subst hr; exact ⟨hg, hb, Int.le_refl _, h2, Int.le_refl _, rfl, by simp, triv _⟩
    · rename_i t ht
      have hpair : t.Pairwise (· < ·) := by
        rcases least_cases sh seen clear with ⟨h1, _⟩ | ⟨a, r', h1, _, _, h4⟩
        · rw [ht] at h1; cases h1
        · rw [ht] at h1; cases h1
          exact (h4 t (by simp)).pair
      have hnd : t.Nodup := hpair.imp (fun h => by omega)
      have hrl := runR_lev2 ⟨max lev 1, bud, us, []⟩ t
      obtain ⟨e1, e2, _⟩ := runR_tot ⟨max lev 1, bud, us, []⟩ t
      obtain ⟨e3, e4⟩ := runR_bud (s := ⟨max lev 1, bud, us, []⟩) t hb
      rw [hr] at hrl e1 e2 e3 e4
      simp only at hrl e1 e2 e3 e4
      refine ⟨?_, e3, e4, by omega, by omega, e1, by simpa using e2, ?_⟩
      · rw [← hr]; exact runR_good (s := ⟨max lev 1, bud, us, []⟩) t hg
      · rw [← hr]; exact runR_switched t (triv _) hnd (fun x hx => ((least_mem ht).2 x hx).1) (fun x _ => rfl)
theorem sumA_take (l : UL) (k : Nat) (hk : k < l.length) : sumA (l.take (k + 1)) = sumA (l.take k) + l[k].1 := by
  rw [List.take_succ_eq_append_getElem hk]
  simp only [sumA, List.map_append, List.sum_append, List.map_cons, List.map_nil, List.sum_cons, List.sum_nil]
  omega
theorem sumA_bd {l : UL} (h : GoodU l) (k : Nat) (hk : k ≤ l.length) : 0 ≤ sumA (l.take k) ∧ sumA (l.take k) ≤ 9 * k := by
  induction k with
  | zero => simp [sumA]
  | succ k ih =>
    have := ih (by omega)
    obtain ⟨h1, h2, h3⟩ := h l[k] (List.getElem_mem (by omega))
    rw [sumA_take l k (by omega)]
    omega
theorem total_calls (lev bud : Int) (v : Value) (l : UL) (w : World) (h : US w w.heap.size v l) (hg : GoodU l) (hm : l.length ≤ 16) (hb0 : 0 ≤ bud) (hb1 : bud ≤ 2147483647) (x : Int) (hx : bud + sumA l = x) :
    Calls Tryd.prog 22 #[.agg #[.int .i64 lev, .int .i64 bud, v]] w fun e w' => e = .returned (.int .i64 x) ∧ From w w' := by
  obtain ⟨A, c, rfl⟩ := h.form
  have H := bx h
  have HG := bx hg
  have HX := bx hx
  clear h hg hx
  obtain ⟨W0, hW0⟩ : ∃ W0, w.alloc (.cells #[.int .i64 lev, .int .i64 bud, .slice A l.length c] 24) = W0 := ⟨_, rfl⟩
  have hF0 : From w W0 := by rw [← hW0]; exact From.alloc (Below.refl _ _) _
  have HM := bx (show MCell W0 w.heap.size lev bud A l.length c by rw [← hW0]; exact mcell_new w lev bud A l.length c)
  have HU := bx (H.out.from hF0)
  obtain ⟨q0, q1, q2⟩ := HM.out.facts
  go_enter Tryd.func22, Tryd.ntmps22
  go_wp2
  clear hW0
  go_loopw [3, 4] (fun n i wr => ∃ k : Nat, k ≤ l.length ∧ i = .int .i64 k ∧ n = .int .i64 (bud + sumA (l.take k)) ∧ wr = W0) (fun _ i _ => l.length - (intOf i).toNat)
  case atStart => exact ⟨0, Nat.zero_le _, rfl, by simp [sumA], rfl⟩
  case round =>
    obtain ⟨k, hk, rfl, rfl, rfl⟩ := hrel
    have hbd := sumA_bd HG.out k hk
    by_cases hlt : k < l.length
    · obtain ⟨b, off, rfl, hb, c1, c2⟩ := HU.out.at_ hlt
      obtain ⟨g1, g2, g3⟩ := HG.out l[k] (List.getElem_mem hlt)
      have Hs := bx (sumA_take l k hlt)
      generalize l[k] = u at *
      obtain ⟨ua, ub⟩ := u
      simp only at *
      generalize sumA (l.take k) = y at *
      have ew : IntKind.i64.wrap (bud + y + ua) = bud + y + ua := IntWalk.i64_in _ (by omega)
      go_wp2
      go_roundw
      case rel => exact ⟨k + 1, by omega, by go_num, by rw [Hs.out]; congr 1; omega, trivial⟩
      case measure => simp [intOf]; omega
    · obtain rfl : k = l.length := by omega
      go_wp2
      go_ret
      exact ⟨ret_int (by rw [← HX.out, List.take_of_length_le (Nat.le_refl _)]), hF0⟩
end Go.Proofs.YtgfmnolghbiedaaDoor
