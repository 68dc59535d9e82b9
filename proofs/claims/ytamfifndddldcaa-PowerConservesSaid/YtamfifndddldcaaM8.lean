/-
  Plain law of layer 10: what a Step serves; without the loads that are not essential the same essential ones are served.
-/
import Derived.Test.YtamfifndddldcaaW20
namespace Go.Proofs.Ytamfifndddldcaa

/-- the loads that are served -/
def srvL (re : Int) : List Lo → Int → List Lo
  | [], _ => []
  | x :: l, c => if c - x.pw < (if x.es then 0 else re) then srvL re l c else x :: srvL re l (c - x.pw)
def sumP (l : List Lo) : Int := l.foldr (fun x n => x.pw + n) 0
theorem srvL_sub (re : Int) : ∀ (l : List Lo) (c : Int), (srvL re l c).Sublist l := by
  intro l
  induction l with
  | nil => intro c; exact .slnil
  | cons x l ih =>
    intro c
    unfold srvL
    generalize (if x.es = true then (0 : Int) else re) = L
    split
    · exact (ih c).cons x
    · exact (ih _).cons_cons x
theorem any_congr' {l : List Lo} {p q : Lo → Bool} (h : ∀ x ∈ l, p x = q x) : l.any p = l.any q := by
  induction l with
  | nil => rfl
  | cons x l ih => rw [List.any_cons, List.any_cons, h x List.mem_cons_self, ih fun y hy => h y (List.mem_cons_of_mem _ hy)]
theorem hasId_iff {y : Int} {l : List Lo} : hasId y l = true ↔ y ∈ l.map (·.id) := by
  unfold hasId
  rw [List.any_eq_true, List.mem_map]
  constructor
  · rintro ⟨x, hx, he⟩; exact ⟨x, hx, of_decide_eq_true he⟩
  · rintro ⟨x, hx, he⟩; exact ⟨x, hx, decide_eq_true he⟩
theorem hasId_not {y : Int} {l : List Lo} (h : y ∉ l.map (·.id)) : hasId y l = false := by
  rw [Bool.eq_false_iff, ne_eq, hasId_iff]; exact h
theorem hasId_cons (y : Int) (x : Lo) (l : List Lo) : hasId y (x :: l) = (decide (x.id = y) || hasId y l) := rfl
theorem ids_cons {x : Lo} {l : List Lo} (h : Ids (x :: l)) : x.id ∉ l.map (·.id) ∧ Ids l := by
  unfold Ids at h
  rw [List.map_cons, List.nodup_cons] at h
  exact h
/-- what is served is added; who is not served and essential is a brownout -/
theorem run_srv (re : Int) : ∀ (l : List Lo) (s : SS), Ids l → (runL re l s).sv = s.sv ++ (srvL re l s.c).map (·.id) ∧ (runL re l s).us = s.us + sumP (srvL re l s.c) ∧ (runL re l s).c = s.c - sumP (srvL re l s.c) ∧
    (runL re l s).br = (s.br || l.any fun x => x.es && !hasId x.id (srvL re l s.c)) := by
  intro l
  induction l with
  | nil => intro s _; simp [runL, srvL, sumP]
  | cons x l ih =>
    intro s hi
    obtain ⟨hx, hi'⟩ := ids_cons hi
    rw [runL_cons]
    unfold srvL stepL
    obtain ⟨L, hL⟩ : ∃ L, (if x.es = true then (0 : Int) else re) = L := ⟨_, rfl⟩
    rw [hL]
    by_cases hb : s.c - x.pw < L
    · simp only [if_pos hb]
      obtain ⟨h1, h2, h3, h4⟩ := ih ⟨s.c, s.us, s.sv, s.br || x.es⟩ hi'
      refine ⟨h1, h2, h3, ?_⟩
      rw [h4, List.any_cons]
      have hn : hasId x.id (srvL re l s.c) = false := hasId_not fun hm => hx ((List.Sublist.map _ (srvL_sub re l s.c)).subset hm)
      rw [hn]
      simp [Bool.or_assoc]
    · simp only [if_neg hb]
      obtain ⟨h1, h2, h3, h4⟩ := ih ⟨s.c - x.pw, s.us + x.pw, s.sv ++ [x.id], s.br⟩ hi'
      refine ⟨?_, ?_, ?_, ?_⟩
      · rw [h1]; simp
      · rw [h2]; simp only [sumP, List.foldr_cons]; omega
      · rw [h3]; simp only [sumP, List.foldr_cons]; omega
      · rw [h4, List.any_cons, hasId_cons]
        simp only [decide_true, Bool.true_or, Bool.not_true, Bool.and_false, Bool.false_or]
        congr 1
        refine any_congr' fun y hy => ?_
        rw [hasId_cons]
        have : decide (x.id = y.id) = false := decide_eq_false fun e => hx (e ▸ List.mem_map_of_mem hy)
        rw [this, Bool.false_or]
/-- the sum of what is served, whatever the order -/
def usedF (ss : List Int) (l : List Lo) : Int := l.foldr (fun x n => (if ss.contains x.id then x.pw else 0) + n) 0
def moreF (ss : List Int) (l : List Lo) : Bool := l.any fun x => ss.contains x.id && !x.es
def brownF (ss : List Int) (l : List Lo) : Bool := l.any fun x => x.es && !ss.contains x.id
theorem usedF_perm (ss : List Int) {l m : List Lo} (h : l.Perm m) : usedF ss l = usedF ss m := by
  induction h with
  | nil => rfl
  | cons x _ ih => show _ + usedF ss _ = _ + usedF ss _; rw [ih]
  | swap x y l => show _ + (_ + usedF ss l) = _ + (_ + usedF ss l); omega
  | trans _ _ h1 h2 => exact h1.trans h2
theorem any_perm {p : Lo → Bool} {l m : List Lo} (h : l.Perm m) : l.any p = m.any p := by
  rw [Bool.eq_iff_iff, List.any_eq_true, List.any_eq_true]
  exact ⟨fun ⟨x, hx, hp⟩ => ⟨x, h.mem_iff.1 hx, hp⟩, fun ⟨x, hx, hp⟩ => ⟨x, h.mem_iff.2 hx, hp⟩⟩
theorem contains_ids (S : List Lo) (y : Int) : (S.map (·.id)).contains y = hasId y S := by
  rw [Bool.eq_iff_iff, hasId_iff, List.contains_iff_mem]
theorem usedF_sub : ∀ {S l : List Lo}, S.Sublist l → Ids l → usedF (S.map (·.id)) l = sumP S := by
  intro S l h
  induction h with
  | slnil => intro _; rfl
  | cons x hs ih =>
    rename_i l1 l2
    intro hi
    obtain ⟨hx, hi'⟩ := ids_cons hi
    show (if (l1.map (·.id)).contains x.id then x.pw else 0) + usedF (l1.map (·.id)) l2 = sumP l1
    rw [ih hi', contains_ids, hasId_not fun hm => hx ((List.Sublist.map _ hs).subset hm), if_neg (by simp)]
    omega
  | cons_cons x hs ih =>
    rename_i l1 l2
    intro hi
    obtain ⟨hx, hi'⟩ := ids_cons hi
    have h2 : ∀ l3 : List Lo, (∀ y ∈ l3, y.id ≠ x.id) → usedF ((x :: l1).map (·.id)) l3 = usedF (l1.map (·.id)) l3 := by
      intro l3
      induction l3 with
      | nil => intro _; rfl
      | cons z l3 ih3 =>
        intro hz
        show (if ((x :: l1).map (·.id)).contains z.id then z.pw else 0) + usedF ((x :: l1).map (·.id)) l3 = (if (l1.map (·.id)).contains z.id then z.pw else 0) + usedF (l1.map (·.id)) l3
        rw [ih3 fun y hy => hz y (List.mem_cons_of_mem _ hy), contains_ids, contains_ids, hasId_cons]
        have : decide (x.id = z.id) = false := decide_eq_false fun e => hz z List.mem_cons_self e.symm
        rw [this, Bool.false_or]
    show (if ((x :: l1).map (·.id)).contains x.id then x.pw else 0) + usedF ((x :: l1).map (·.id)) l2 = x.pw + sumP l1
    rw [contains_ids, hasId_cons, h2 l2 (fun y hy e => hx (e ▸ List.mem_map_of_mem hy)), ih hi']
    simp
/-- essential loads first, in a row of such an order -/
theorem split_ess : ∀ (l : List Lo), l.Pairwise (fun a b => a.es = false → b.es = false) → l = l.filter (·.es) ++ l.filter (fun x => !x.es) := by
  intro l
  induction l with
  | nil => intro _; rfl
  | cons x l ih =>
    intro h
    rw [List.pairwise_cons] at h
    cases he : x.es with
    | true =>
      rw [List.filter_cons_of_pos (by simpa using he), List.filter_cons_of_neg (by simp [he]), List.cons_append, ← ih h.2]
    | false =>
      have h0 : ∀ y ∈ l, y.es = false := fun y hy => h.1 y hy he
      rw [List.filter_cons_of_neg (by simp [he]), List.filter_cons_of_pos (by simp [he])]
      have e1 : l.filter (·.es) = [] := List.filter_eq_nil_iff.2 fun y hy => by simp [h0 y hy]
      have e2 : l.filter (fun x => !x.es) = l := List.filter_eq_self.2 fun y hy => by simp [h0 y hy]
      rw [e1, e2, List.nil_append]
theorem ids_perm {l m : List Lo} (h : l.Perm m) (hi : Ids l) : Ids m := (h.map _).nodup_iff.1 hi
theorem ordL_filter (l : List Lo) (h : Ids l) : ordL (l.filter (·.es)) = (ordL l).filter (·.es) := by
  have hf : Ids (l.filter (·.es)) := (List.Sublist.map _ List.filter_sublist).nodup h
  refine sorted_unique _ _ ((ordL_perm _).trans ((ordL_perm l).symm.filter _)) (ordL_sorted _ hf) ?_
  exact (ordL_sorted l h).sublist List.filter_sublist
theorem runL_append (re : Int) (l m : List Lo) (s : SS) : runL re (l ++ m) s = runL re m (runL re l s) := by
  unfold runL
  rw [List.foldl_append]
/-- loads that are not essential: no brownout, and the charge stays above the reserve -/
theorem run_non (re : Int) : ∀ (l : List Lo) (s : SS), (∀ x ∈ l, x.es = false) → (∀ x ∈ l, 0 ≤ x.pw) → (runL re l s).br = s.br ∧ (srvL re l s.c ≠ [] → re ≤ (runL re l s).c) ∧ (re ≤ s.c → re ≤ (runL re l s).c) ∧ ∃ r, (runL re l s).sv = s.sv ++ r := by
  intro l
  induction l with
  | nil => intro s _ _; exact ⟨rfl, fun h => absurd rfl h, fun h => h, [], by simp [runL]⟩
  | cons x l ih =>
    intro s he hp
    have hx := he x List.mem_cons_self
    rw [runL_cons]
    unfold srvL stepL
    rw [hx]
    simp only [Bool.false_eq_true, if_false, Bool.or_false]
    by_cases hb : s.c - x.pw < re
    · simp only [if_pos hb]
      obtain ⟨h1, h2, h3, h4⟩ := ih ⟨s.c, s.us, s.sv, s.br⟩ (fun y hy => he y (List.mem_cons_of_mem _ hy)) (fun y hy => hp y (List.mem_cons_of_mem _ hy))
      exact ⟨h1, h2, h3, h4⟩
    · simp only [if_neg hb]
      obtain ⟨h1, h2, h3, r, h4⟩ := ih ⟨s.c - x.pw, s.us + x.pw, s.sv ++ [x.id], s.br⟩ (fun y hy => he y (List.mem_cons_of_mem _ hy)) (fun y hy => hp y (List.mem_cons_of_mem _ hy))
      refine ⟨h1, fun _ => h3 (by simp only; omega), fun _ => h3 (by simp only; omega), [x.id] ++ r, by rw [h4]; simp⟩
theorem ids_inj : ∀ {l : List Lo}, Ids l → ∀ x ∈ l, ∀ y ∈ l, x.id = y.id → x = y := by
  intro l
  induction l with
  | nil => intro _ x hx; simp at hx
  | cons z l ih =>
    intro h x hx y hy e
    obtain ⟨hz, hi⟩ := ids_cons h
    rcases List.mem_cons.1 hx with e1 | h1 <;> rcases List.mem_cons.1 hy with e2 | h2
    · rw [e1, e2]
    · exact absurd (by rw [← e1, e]; exact List.mem_map_of_mem h2) hz
    · exact absurd (by rw [← e2, ← e]; exact List.mem_map_of_mem h1) hz
    · exact ih hi x h1 y h2 e
theorem run_nn (re : Int) (hr : 0 ≤ re) : ∀ (l : List Lo) (s : SS), (∀ x ∈ l, 0 ≤ x.pw) → 0 ≤ s.c → 0 ≤ (runL re l s).c ∧ (runL re l s).c ≤ s.c := by
  intro l
  induction l with
  | nil => intro s _ h; exact ⟨h, Int.le_refl _⟩
  | cons x l ih =>
    intro s hp h
    have hx := hp x List.mem_cons_self
    have hp' : ∀ y ∈ l, 0 ≤ y.pw := fun y hy => hp y (List.mem_cons_of_mem _ hy)
    rw [runL_cons]
    unfold stepL
    obtain ⟨L, hL⟩ : ∃ L, (if x.es = true then (0 : Int) else re) = L := ⟨_, rfl⟩
    have hL0 : 0 ≤ L := by rw [← hL]; split <;> omega
    rw [hL]
    by_cases hb : s.c - x.pw < L
    · simp only [if_pos hb]
      exact ih ⟨s.c, s.us, s.sv, s.br || x.es⟩ hp' h
    · simp only [if_neg hb]
      obtain ⟨h1, h2⟩ := ih ⟨s.c - x.pw, s.us + x.pw, s.sv ++ [x.id], s.br⟩ hp' (by simp only; omega)
      exact ⟨h1, by simp only at h2; omega⟩
/-- P10.6, P10.7 -/
structure Conserve (C ch re gd : Int) (m : List Lo) (s u : SS) : Prop where
  used : usedF s.sv m = s.us
  brown : brownF s.sv m = s.br
  more : moreF s.sv m = true → re ≤ s.c
  eq : s.c = ch + gd - s.us
  nn : 0 ≤ s.c
  le : s.c ≤ C
  len : u.sv.length ≤ s.sv.length
  pre : s.sv.take u.sv.length = u.sv
  br : u.br = s.br
theorem conserve (C ch re g : Int) (m : List Lo) (hi : Ids m) (hp : ∀ x ∈ m, 0 ≤ x.pw) (hch : 0 ≤ ch ∧ ch ≤ C) (hre : 0 ≤ re) (hg : 0 ≤ g) (s u : SS) (hs : stepB C ch re g m = s) (hu : stepB C ch re g (m.filter (·.es)) = u) :
    Conserve C ch re (gainB C ch g) m s u := by
  have hgd : 0 ≤ ch + gainB C ch g ∧ ch + gainB C ch g ≤ C := by unfold gainB; omega
  unfold stepB at hs hu
  obtain ⟨c0, hc0⟩ : ∃ c, ch + gainB C ch g = c := ⟨_, rfl⟩
  rw [hc0] at hs hu hgd
  have hperm := ordL_perm m
  have hiL := ids_perm hperm.symm hi
  have hpL : ∀ x ∈ ordL m, 0 ≤ x.pw := fun x hx => hp x (hperm.mem_iff.1 hx)
  obtain ⟨r1, r2, r3, r4⟩ := run_srv re (ordL m) ⟨c0, 0, [], false⟩ hiL
  obtain ⟨n1, n2⟩ := run_nn re hre (ordL m) ⟨c0, 0, [], false⟩ hpL hgd.1
  rw [hs] at r1 r2 r3 r4 n1 n2
  simp only [List.nil_append, Bool.false_or] at r1 r2 r3 r4 n2
  rw [ordL_filter m hi] at hu
  have hsp := split_ess (ordL m) (ordL_ess m hi)
  obtain ⟨E, hE⟩ : ∃ E, (ordL m).filter (·.es) = E := ⟨_, rfl⟩
  obtain ⟨N, hN⟩ : ∃ N, (ordL m).filter (fun x => !x.es) = N := ⟨_, rfl⟩
  rw [hE] at hu hsp
  rw [hN] at hsp
  have hNe : ∀ x ∈ N, x.es = false := fun x hx => by rw [← hN] at hx; simpa using (List.mem_filter.1 hx).2
  have hNm : ∀ x ∈ N, x ∈ m := fun x hx => by rw [← hN] at hx; exact hperm.mem_iff.1 (List.mem_filter.1 hx).1
  have hEe : ∀ x ∈ E, x.es = true ∧ x ∈ m := fun x hx => by rw [← hE] at hx; exact ⟨by simpa using (List.mem_filter.1 hx).2, hperm.mem_iff.1 (List.mem_filter.1 hx).1⟩
  have hiE : Ids E := by rw [← hE]; exact (List.Sublist.map _ List.filter_sublist).nodup hiL
  have hiN : Ids N := by rw [← hN]; exact (List.Sublist.map _ List.filter_sublist).nodup hiL
  have hrun : runL re N u = s := by rw [← hu, ← runL_append, ← hsp]; exact hs
  obtain ⟨q1, q2, q3, r, q4⟩ := run_non re N u hNe (fun x hx => hp x (hNm x hx))
  rw [hrun] at q1 q2 q3 q4
  obtain ⟨e1, _, _, _⟩ := run_srv re E ⟨c0, 0, [], false⟩ hiE
  rw [hu] at e1
  simp only [List.nil_append] at e1
  obtain ⟨f1, _, _, _⟩ := run_srv re N u hiN
  rw [hrun] at f1
  refine ⟨?_, ?_, ?_, ?_, n1, by omega, ?_, ?_, q1.symm⟩
  · rw [r1, usedF_perm _ hperm.symm, usedF_sub (srvL_sub re _ _) hiL, r2]; omega
  · rw [r1, r4]
    unfold brownF
    rw [any_perm hperm.symm]
    exact any_congr' fun x _ => by rw [contains_ids]
  · intro hm
    obtain ⟨x, hx, hxx⟩ := List.any_eq_true.1 hm
    rw [Bool.and_eq_true] at hxx
    obtain ⟨h1, h2⟩ := hxx
    have h2 : x.es = false := by simpa using h2
    refine q2 fun hnil => ?_
    rw [f1, hnil, List.map_nil, List.append_nil, e1, contains_ids, hasId_iff, List.mem_map] at h1
    obtain ⟨y, hy, hye⟩ := h1
    obtain ⟨h3, h4⟩ := hEe y ((srvL_sub re E _).subset hy)
    have := ids_inj hi y h4 x hx hye
    subst this
    rw [h2] at h3
    cases h3
  · rw [hc0]; omega
  · rw [q4, List.length_append]; omega
  · rw [q4, List.take_append_of_le_length (Nat.le_refl _), List.take_length]
end Go.Proofs.Ytamfifndddldcaa
