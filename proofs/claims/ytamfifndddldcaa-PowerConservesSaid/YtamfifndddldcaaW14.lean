/-
  Walks of layer 10's specification: Essential, Valid, Check, Made.
-/
import Derived.Test.YtamfifndddldcaaW18
namespace Go.Proofs.Ytamfifndddldcaa
open Go.RowKit Go.Shelf

theorem refEssential_calls (A0 : Option Addr) (c0 : Nat) (l : List Lo) (w : World) (h : Loads w (.slice A0 l.length c0) l) (hm : l.length ≤ 100) (hp : ∀ x ∈ l, 0 ≤ x.pw ∧ x.pw ≤ 4000000000) (n : Int) (hn : essL l = n) :
    Calls Try.prog 17 #[.slice A0 l.length c0] w fun e w' => e = .returned (.int .i64 n) ∧ w' = w := by
  have H := bx h
  have HN := bx hn
  have HB := bx (essL_bd l 4000000000 (by omega) hp)
  have HP := bx hp
  clear h hn hp
  go_enter Try.func17, Try.ntmps17
  go_wp2
  go_loopw [3, 4] (fun v3 v4 wr => ∃ k : Nat, k ≤ l.length ∧ v4 = .int .i64 k ∧ v3 = .int .i64 (essL (l.take k)) ∧ wr = w) (fun _ v4 _ => l.length - (intOf v4).toNat)
  case atStart => exact ⟨0, by omega, rfl, by simp [essL], rfl⟩
  case round =>
    obtain ⟨k, hk, rfl, rfl, rfl⟩ := hrel
    by_cases hlt : k < l.length
    · obtain ⟨b, off, rfl, hb, c0, c1, c2, c3⟩ := loads_at H.out hlt
      have he := essL_take l k hlt
      have hbd := HB.out k hk
      have hpw := HP.out l[k] (List.getElem_mem hlt)
      have d1 : decide ((k : Int) < (l.length : Int)) = true := decide_eq_true (by omega)
      obtain ⟨z, hz⟩ : ∃ z, essL (l.take k) = z := ⟨_, rfl⟩
      rw [hz] at he hbd ⊢
      obtain ⟨Y, hY⟩ : ∃ Y, l[k] = Y := ⟨_, rfl⟩
      rw [hY] at c0 c1 c2 c3 he hpw
      obtain ⟨y0, y1, y2, y3⟩ := Y
      simp only at c0 c1 c2 c3 he hpw
      have HE := bx he
      clear hY hz he
      cases y3
      all_goals
        go_wp2
        go_roundw
        case rel => exact ⟨k + 1, by omega, by go_num, by rw [HE.out]; rfl, trivial⟩
        case measure => simp [intOf]; omega
    · obtain rfl : k = l.length := by omega
      rw [List.take_length, HN.out] at *
      go_wp2
      go_ret
      exact ⟨rfl, rfl⟩
/-- is a battery valid? -/
theorem valid_calls (C ch re : Int) (w : World) : Calls Try.prog 35 #[.agg (bcs C ch re)] w fun e w' => e = .returned (.bool (decide (¬ badB C ch re))) ∧ From w w' := by
  obtain ⟨W1, hW1⟩ : ∃ V, w.alloc (.cells (bcs C ch re) 23) = V := ⟨_, rfl⟩
  have k1 : From w W1 := by rw [← hW1]; exact (From.refl _).alloc _
  obtain ⟨a0, a1, a2, _, _, _⟩ := bat_soft (show W1.heap[w.heap.size]? = some (.cells (bcs C ch re) 23 (0, 0)) by rw [← hW1]; exact heap_alloc_new _ _)
  have HK := bx k1
  clear k1
  go_enter Try.func35, Try.ntmps35
  go_wp2
  all_goals
    go_ret
    refine ⟨ret_bool ?_, HK.out⟩
    by_cases hb : badB C ch re
    · simp only [hb, not_true, decide_false, decide_true, Bool.not_true]
      try (unfold badB at hb; first | rfl | (exfalso; omega) | (apply decide_eq_false; omega))
    · simp only [hb, not_false_iff, decide_true, decide_false, Bool.not_false]
      try (unfold badB at hb; first | rfl | (exfalso; omega) | (apply decide_eq_true; omega))
/-- a load made of an arbitrary one -/
def mkLo (x : Lo) : Lo := ⟨x.id, (IntKind.u64.wrap x.pw).tmod 1001, x.pr, x.es⟩
def madeF : List Lo → List Lo → List Lo
  | acc, [] => acc
  | acc, x :: r => madeF (if hasId x.id acc then acc else acc ++ [mkLo x]) r
def madeL (l : List Lo) : List Lo := madeF [] (l.take 10)
/-- loads made of arbitrary ones -/
structure LOk (M : Int) (l : List Lo) : Prop where
  ids : Ids l
  pw : ∀ x ∈ l, 0 ≤ x.pw ∧ x.pw ≤ M
theorem mkLo_pw (x : Lo) : 0 ≤ (mkLo x).pw ∧ (mkLo x).pw ≤ 1000 := tmod_bd (m := 1000) (u64_bd x.pw) (by omega)
theorem hasId_false {y : Int} {l : List Lo} (h : hasId y l = false) : ∀ x ∈ l, x.id ≠ y := by
  intro x hx e
  have : hasId y l = true := List.any_eq_true.2 ⟨x, hx, decide_eq_true e⟩
  rw [h] at this
  cases this
theorem LOk.push {l : List Lo} (h : LOk 1000 l) (x : Lo) (hx : hasId x.id l = false) : LOk 1000 (l ++ [mkLo x]) := by
  refine ⟨?_, fun y hy => ?_⟩
  · unfold Ids
    rw [List.map_append, List.nodup_append]
    refine ⟨h.ids, by simp, fun a ha b hb => ?_⟩
    obtain ⟨z, hz, rfl⟩ := List.mem_map.1 ha
    simp only [List.map_cons, List.map_nil, List.mem_singleton] at hb
    subst hb
    exact hasId_false hx z hz
  · rcases List.mem_append.1 hy with hy | hy
    · exact h.pw y hy
    · obtain rfl := List.mem_singleton.1 hy
      exact mkLo_pw x
theorem madeF_ok : ∀ (r acc : List Lo), LOk 1000 acc → LOk 1000 (madeF acc r) ∧ (madeF acc r).length ≤ acc.length + r.length := by
  intro r
  induction r with
  | nil => intro acc h; exact ⟨h, by simp [madeF]⟩
  | cons x r ih =>
    intro acc h
    unfold madeF
    cases hx : hasId x.id acc with
    | true =>
      rw [if_pos rfl]
      obtain ⟨h1, h2⟩ := ih acc h
      exact ⟨h1, by simp only [List.length_cons]; omega⟩
    | false =>
      rw [if_neg (by simp)]
      obtain ⟨h1, h2⟩ := ih _ (h.push x hx)
      simp only [List.length_append, List.length_cons, List.length_nil] at h2
      exact ⟨h1, by simp only [List.length_cons]; omega⟩
theorem madeL_ok (l : List Lo) : LOk 1000 (madeL l) := (madeF_ok _ [] ⟨List.nodup_nil, by simp⟩).1
theorem madeL_len (l : List Lo) : (madeL l).length ≤ 10 := by
  have := (madeF_ok (l.take 10) [] ⟨List.nodup_nil, by simp⟩).2
  unfold madeL
  simp only [List.length_nil, List.length_take] at this
  omega
theorem madeF_step (l : List Lo) (i : Nat) (hi : i < l.length) (h10 : i < 10) (acc : List Lo) : madeF acc ((l.drop i).take (10 - i)) = madeF (if hasId l[i].id acc then acc else acc ++ [mkLo l[i]]) ((l.drop (i + 1)).take (10 - (i + 1))) := by
  rw [List.drop_eq_getElem_cons hi, show 10 - i = (10 - (i + 1)) + 1 by omega, List.take_succ_cons]
  rfl
theorem madeF_stop (l : List Lo) (i : Nat) (hi : l.length ≤ i ∨ 10 ≤ i) (acc : List Lo) : madeF acc ((l.drop i).take (10 - i)) = acc := by
  have : (l.drop i).take (10 - i) = [] := by
    rcases hi with hi | hi
    · rw [List.drop_of_length_le hi]; simp
    · rw [show 10 - i = 0 by omega]; simp
  rw [this]
  rfl
set_option maxHeartbeats 2000000 in
theorem refCheck_calls (C ch re : Int) (A0 : Option Addr) (c0 : Nat) (l : List Lo) (w : World) (h : Loads w (.slice A0 l.length c0) l) (hm : l.length ≤ 9223372036854775807) (x : Int) (hx : chkP C ch re l = x) :
    Calls Try.prog 15 #[.agg (bcs C ch re), .slice A0 l.length c0] w fun e w' => e = .returned (.int .i64 x) ∧ From w w' := by
  obtain ⟨W1, hW1⟩ : ∃ V, w.alloc (.cells (bcs C ch re) 23) = V := ⟨_, rfl⟩
  have k1 : From w W1 := by rw [← hW1]; exact (From.refl _).alloc _
  obtain ⟨a0, a1, a2, _, _, _⟩ := bat_soft (show W1.heap[w.heap.size]? = some (.cells (bcs C ch re) 23 (0, 0)) by rw [← hW1]; exact heap_alloc_new _ _)
  have H := bx (h.from k1)
  have HK := bx k1
  have HX := bx hx
  clear h k1 hx
  go_enter Try.func15, Try.ntmps15
  go_wp2_with fail
  refine (valid_calls C ch re W1).mono ?_
  rintro e w2 ⟨rfl, k2⟩
  clear a0 a1 a2
  have hx := HX.out
  unfold chkP at hx
  by_cases hb : badB C ch re
  · rw [if_pos hb] at hx
    subst hx
    have e1 : decide (¬ badB C ch re) = false := by simp [hb]
    rw [e1]
    clear e1 hb
    go_wp2
    go_ret
    exact ⟨rfl, HK.out.trans k2⟩
  rw [if_neg hb] at hx
  have e1 : decide (¬ badB C ch re) = true := by simp [hb]
  rw [e1]
  clear e1 hb
  by_cases h64 : 64 < l.length
  · rw [if_pos h64] at hx
    subst hx
    have d6 : decide ((64 : Int) < (l.length : Int)) = true := decide_eq_true (by omega)
    go_wp2
    go_ret
    exact ⟨rfl, HK.out.trans k2⟩
  rw [if_neg h64] at hx
  have d6 : decide ((64 : Int) < (l.length : Int)) = false := decide_eq_false (by omega)
  have HX := bx hx
  have K2 := bx k2
  clear hx k2
  go_wp2
  clear d6
  go_loopw [6, 7] (fun v6 _ wr => ∃ k : Nat, k ≤ l.length ∧ v6 = .int .i64 k ∧ chkF (l.take k) (l.drop k) = x ∧ From w2 wr) (fun v6 _ _ => l.length - (intOf v6).toNat)
  case atStart => exact ⟨0, by omega, rfl, HX.out, From.refl _⟩
  case round =>
    obtain ⟨k, hk, rfl, hc, hf⟩ := hrel
    by_cases hlt : k < l.length
    · obtain ⟨b', off, rfl, hb, c0', c1', c2', c3'⟩ := loads_at (H.out.from (K2.out.trans hf)) hlt
      rw [chkF_drop l k hlt] at hc
      have d1 : decide ((k : Int) < (l.length : Int)) = true := decide_eq_true (by omega)
      obtain ⟨Y, hY⟩ : ∃ Y, l[k] = Y := ⟨_, rfl⟩
      rw [hY] at c0' c1' c2' c3' hc
      obtain ⟨y0, y1, y2, y3⟩ := Y
      simp only at c0' c1' c2' c3' hc
      have HC := bx hc
      clear hY hc
      by_cases u1 : y1 < 0
      · have hc := HC.out
        rw [if_pos (.inl u1)] at hc
        subst hc
        have d2 : decide (y1 < 0) = true := decide_eq_true u1
        go_wp2
        go_ret
        exact ⟨rfl, HK.out.trans (K2.out.trans hf)⟩
      have d2 : decide (y1 < 0) = false := decide_eq_false u1
      by_cases u2 : 2147483647 < y1
      · have hc := HC.out
        rw [if_pos (.inr u2)] at hc
        subst hc
        have d3 : decide (2147483647 < y1) = true := decide_eq_true u2
        go_wp2
        go_ret
        exact ⟨rfl, HK.out.trans (K2.out.trans hf)⟩
      have d3 : decide (2147483647 < y1) = false := decide_eq_false u2
      have hc := HC.out
      rw [if_neg (by omega)] at hc
      have HC2 := bx hc
      clear hc HC
      go_wp2_with fail
      go_loopw [7] (fun v7 wq => ∃ j : Nat, j ≤ k ∧ v7 = .int .i64 j ∧ hasId y0 (l.take j) = false ∧ From wr wq) (fun v7 _ => k - (intOf v7).toNat)
      case atStart => exact ⟨0, by omega, rfl, by simp [hasId], From.refl _⟩
      case round =>
        obtain ⟨j, hj, rfl, hno, hq⟩ := hrel
        by_cases hjk : j < k
        · have d4 : decide ((j : Int) < (k : Int)) = true := decide_eq_true (by omega)
          have hjl : j < l.length := by omega
          obtain ⟨b2, off2, e2, _, c4, _, _, _⟩ := loads_at (H.out.from (K2.out.trans (hf.trans hq))) hjl
          simp only [Option.some.injEq, Addr.mk.injEq, and_true] at e2
          obtain ⟨rfl, rfl⟩ := e2
          have c5 := hq.cell c0'
          have he := hasId_take y0 l j hjl
          rw [hno, Bool.false_or] at he
          have hin : l[j] ∈ l.take k := by
            rw [List.mem_take_iff_getElem]
            exact ⟨j, by omega, rfl⟩
          obtain ⟨z, hz⟩ : ∃ z, l[j].id = z := ⟨_, rfl⟩
          rw [hz] at c4 he
          have hall : z = y0 → hasId y0 (l.take k) = true := fun e => List.any_eq_true.2 ⟨_, hin, by rw [hz, e]; simp⟩
          have HA := bx hall
          have HE := bx he
          have HQ := bx hq
          clear hall he hz hin hno hq c0' c1' c2' c3'
          by_cases hzy : z = y0
          · subst hzy
            have hc := HC2.out
            rw [HA.out rfl, if_pos rfl] at hc
            subst hc
            go_wp2_with fail
            go_quiet (fail)
            go_wp2
            go_ret
            exact ⟨rfl, HK.out.trans (K2.out.trans (hf.trans (HQ.out.drewN _)))⟩
          · have d5 : (z == y0) = false := by simpa using hzy
            have HE2 := bx (show hasId y0 (l.take (j + 1)) = false by rw [HE.out]; simpa using hzy)
            go_wp2_with fail
            go_quiet (fail)
            go_wp2
            go_roundw
            case rel => exact ⟨j + 1, by omega, by go_num, HE2.out, HQ.out.drewN _⟩
            case measure => simp [intOf]; omega
        · obtain rfl : j = k := by omega
          have d4 : decide ((j : Int) < (j : Int)) = false := decide_eq_false (by omega)
          have hc := HC2.out
          rw [hno, if_neg (by simp)] at hc
          have HC3 := bx hc
          clear hc hno
          go_wp2
          go_roundw
          case rel => exact ⟨j + 1, by omega, by go_num, HC3.out, hf.trans hq⟩
          case measure => simp [intOf]; omega
    · obtain rfl : k = l.length := by omega
      rw [List.drop_length] at hc
      have hc : (0 : Int) = x := hc
      subst hc
      go_wp2
      go_ret
      exact ⟨rfl, HK.out.trans (K2.out.trans hf)⟩
end Go.Proofs.Ytamfifndddldcaa
