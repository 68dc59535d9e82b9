/-
  Plain law of layer 10: the order of service. No program in sight.
-/
import Derived.Test.YtamfifndddldcaaW9
namespace Go.Proofs.Ytamfifndddldcaa
open Go.Sort

instance loInh : Inhabited Lo := ⟨⟨0, 0, 0, false⟩⟩
/-- the priority that counts -/
def kp (x : Lo) : Int := if x.es then 0 else x.pr
theorem cmpI_neg (x y : Int) : cmpI x y < 0 ↔ x < y := by unfold cmpI; split <;> (try split) <;> omega
theorem cmpI_zero (x y : Int) : cmpI x y = 0 ↔ x = y := by unfold cmpI; split <;> (try split) <;> omega
theorem ordC_neg (x y : Lo) : ordC x y < 0 ↔ rk x < rk y ∨ (rk x = rk y ∧ (kp y < kp x ∨ (kp x = kp y ∧ x.id < y.id))) := by
  have h1 := cmpI_neg (rk x) (rk y)
  have h2 := cmpI_zero (rk x) (rk y)
  have h3 := cmpI_neg y.pr x.pr
  have h4 := cmpI_zero y.pr x.pr
  have h5 := cmpI_neg x.id y.id
  obtain ⟨x0, x1, x2, x3⟩ := x
  obtain ⟨y0, y1, y2, y3⟩ := y
  unfold ordC
  simp only [rk, kp] at *
  generalize cmpI x0 y0 = c3 at *
  generalize cmpI y2 x2 = c2 at *
  cases x3 <;> cases y3 <;> simp at * <;> (first | decide | (by_cases hc : c2 = 0 <;> simp [hc] at * <;> omega) | omega)
/-- x is served before y -/
def bef (x y : Lo) : Bool := decide (ordC x y < 0)
theorem bef_iff {x y : Lo} : bef x y = true ↔ rk x < rk y ∨ (rk x = rk y ∧ (kp y < kp x ∨ (kp x = kp y ∧ x.id < y.id))) := by unfold bef; rw [decide_eq_true_iff, ordC_neg]
theorem bef_false {x y : Lo} : bef x y = false ↔ ¬ (rk x < rk y ∨ (rk x = rk y ∧ (kp y < kp x ∨ (kp x = kp y ∧ x.id < y.id)))) := by rw [← bef_iff, Bool.not_eq_true]
theorem bef_swo : SWO (ltOf ordC) where
  irrefl x := by show bef x x = false; rw [bef_false]; omega
  trans x y z h1 h2 := by
    show bef x z = true
    have h1 : bef x y = true := h1
    have h2 : bef y z = true := h2
    rw [bef_iff] at *
    omega
  ntrans x y z h1 h2 := by
    show bef x z = false
    have h1 : bef x y = false := h1
    have h2 : bef y z = false := h2
    rw [bef_false] at *
    omega
theorem bef_total {x y : Lo} (h : x.id ≠ y.id) : bef x y = true ∨ bef y x = true := by
  rw [bef_iff, bef_iff]; omega
theorem bef_asymm {x y : Lo} (h : bef x y = true) : bef y x = false := by
  rw [bef_iff] at h; rw [bef_false]; omega
theorem bef_trans {x y z : Lo} (h : bef x y = true) (k : bef y z = true) : bef x z = true := bef_swo.trans x y z h k
/-- put x into the loads in order, from the last one on (the list backwards) -/
def insRev (x : Lo) : List Lo → List Lo
  | [] => [x]
  | y :: r => if bef x y then y :: insRev x r else x :: y :: r
def ordRev (l : List Lo) : List Lo := l.foldl (fun acc x => insRev x acc) []
def ordL (l : List Lo) : List Lo := (ordRev l).reverse
def Ids (l : List Lo) : Prop := (l.map (·.id)).Nodup
theorem insRev_perm (x : Lo) (l : List Lo) : (insRev x l).Perm (x :: l) := by
  induction l with
  | nil => exact .refl _
  | cons y r ih =>
    unfold insRev
    split
    · exact (List.Perm.cons y ih).trans (.swap x y r)
    · exact .refl _
theorem ordRev_perm_aux (l : List Lo) : ∀ acc, (l.foldl (fun acc x => insRev x acc) acc).Perm (l ++ acc) := by
  induction l with
  | nil => intro acc; exact .refl _
  | cons x l ih =>
    intro acc
    refine (ih _).trans ?_
    refine (List.Perm.append_left l (insRev_perm x acc)).trans ?_
    exact List.perm_middle
theorem ordL_perm (l : List Lo) : (ordL l).Perm l := by
  have := ordRev_perm_aux l []
  rw [List.append_nil] at this
  exact (List.reverse_perm _).trans this
theorem insRev_sorted (x : Lo) (l : List Lo) (h : l.Pairwise (fun a b => bef b a = true)) (hx : ∀ y ∈ l, y.id ≠ x.id) : (insRev x l).Pairwise (fun a b => bef b a = true) := by
  induction l with
  | nil => exact List.pairwise_singleton _ _
  | cons y r ih =>
    rw [List.pairwise_cons] at h
    unfold insRev
    split
    · rename_i hb
      rw [List.pairwise_cons]
      refine ⟨fun z hz => ?_, ih h.2 (fun z hz => hx z (List.mem_cons_of_mem _ hz))⟩
      rcases List.mem_cons.1 ((insRev_perm x r).mem_iff.1 hz) with rfl | hz
      · exact hb
      · exact h.1 z hz
    · rename_i hb
      have hyx : bef y x = true := (bef_total (hx y List.mem_cons_self)).resolve_right hb
      rw [List.pairwise_cons]
      refine ⟨fun z hz => ?_, List.pairwise_cons.2 h⟩
      rcases List.mem_cons.1 hz with rfl | hz
      · exact hyx
      · exact bef_trans (h.1 z hz) hyx
theorem ordRev_sorted_aux (l : List Lo) : ∀ acc, acc.Pairwise (fun a b => bef b a = true) → Ids (l ++ acc) → (l.foldl (fun acc x => insRev x acc) acc).Pairwise (fun a b => bef b a = true) := by
  induction l with
  | nil => intro acc h _; exact h
  | cons x l ih =>
    intro acc h hi
    have hi' : (x.id :: (l ++ acc).map (·.id)).Nodup := hi
    rw [List.nodup_cons] at hi'
    refine ih _ (insRev_sorted x acc h fun y hy e => ?_) ?_
    · exact hi'.1 (e ▸ List.mem_map_of_mem (List.mem_append_right _ hy))
    · have hp : ((l ++ insRev x acc).map (·.id)).Perm ((x :: (l ++ acc)).map (·.id)) := ((List.Perm.append_left l (insRev_perm x acc)).trans List.perm_middle).map _
      exact hp.nodup_iff.2 hi
theorem ordL_sorted (l : List Lo) (h : Ids l) : (ordL l).Pairwise (fun a b => bef a b = true) := by
  have := ordRev_sorted_aux l [] .nil (by rw [List.append_nil]; exact h)
  unfold ordL
  rw [List.pairwise_reverse]
  exact this
theorem sorted_unique : ∀ (l m : List Lo), l.Perm m → l.Pairwise (fun a b => bef a b = true) → m.Pairwise (fun a b => bef a b = true) → l = m := by
  intro l
  induction l with
  | nil => intro m h _ _; exact (List.Perm.nil_eq h)
  | cons x l ih =>
    intro m h hl hm
    cases m with
    | nil => exact absurd h.length_eq (by simp)
    | cons y m =>
      rw [List.pairwise_cons] at hl hm
      have hxy : x = y := by
        rcases List.mem_cons.1 (h.mem_iff.1 List.mem_cons_self) with e | hx
        · exact e
        rcases List.mem_cons.1 (h.mem_iff.2 (List.mem_cons_self (a := y))) with e | hy
        · exact e.symm
        have h1 := hm.1 x hx
        have h2 := hl.1 y hy
        rw [bef_asymm h1] at h2
        cases h2
      subst hxy
      rw [ih m ((List.perm_cons x).1 h) hl.2 hm.2]
/-- what a sort of distinct loads leaves -/
theorem ord_unique (l : List Lo) (h : Ids l) (d : Array Lo) (hp : d.toList.Perm l) (hs : ∀ i j, i < j → j < d.size → bef d[j]! d[i]! = false) : d.toList = ordL l := by
  refine sorted_unique _ _ (hp.trans (ordL_perm l).symm) ?_ (ordL_sorted l h)
  rw [List.pairwise_iff_getElem]
  intro i j hi hj hij
  have hj' : j < d.size := by simpa using hj
  have hi' : i < d.size := by omega
  have h1 := hs i j hij hj'
  rw [getElem!_pos d j hj', getElem!_pos d i hi'] at h1
  have hd : (d.toList.map (·.id)).Nodup := (hp.map _).nodup_iff.2 h
  have hne : d[i].id ≠ d[j].id := by
    intro e
    have := (List.pairwise_iff_getElem.1 hd) i j (by simpa using hi') (by simpa using hj') hij
    simp at this
    exact this e
  simp only [Array.getElem_toList]
  exact (bef_total hne).resolve_right (by rw [h1]; simp)
end Go.Proofs.Ytamfifndddldcaa
