/-
  Walks of layer 10: power.Essential, power.Check.
-/
import Derived.Test.YtamfifndddldcaaW11
namespace Go.Proofs.Ytamfifndddldcaa
open Go.RowKit Go.Shelf

def essL (l : List Lo) : Int := l.foldl (fun n x => if x.es then n + x.pw else n) 0
theorem essL_take (l : List Lo) (k : Nat) (hk : k < l.length) : essL (l.take (k + 1)) = if l[k].es then essL (l.take k) + l[k].pw else essL (l.take k) := by
  unfold essL
  rw [List.take_succ_eq_append_getElem hk, List.foldl_append]
  rfl
theorem essL_bd (l : List Lo) (M : Int) (hM : 0 ≤ M) (hp : ∀ x ∈ l, 0 ≤ x.pw ∧ x.pw ≤ M) : ∀ k, k ≤ l.length → 0 ≤ essL (l.take k) ∧ essL (l.take k) ≤ k * M := by
  intro k
  induction k with
  | zero => intro _; simp [essL]
  | succ k ih =>
    intro hk
    have h1 := ih (by omega)
    have h2 := hp l[k] (List.getElem_mem (by omega))
    rw [essL_take l k (by omega), show ((k + 1 : Nat) : Int) * M = k * M + M by rw [Int.natCast_add, Int.add_mul]; simp]
    generalize (k : Int) * M = p at *
    split <;> omega
theorem essential_calls (A0 : Option Addr) (c0 : Nat) (l : List Lo) (w : World) (h : Loads w (.slice A0 l.length c0) l) (hm : l.length ≤ 100) (hp : ∀ x ∈ l, 0 ≤ x.pw ∧ x.pw ≤ 4000000000) (n : Int) (hn : essL l = n) :
    Calls Try.prog 16 #[.slice A0 l.length c0] w fun e w' => e = .returned (.int .i64 n) ∧ From w w' := by
  have H := bx h
  have HN := bx hn
  have HB := bx (essL_bd l 4000000000 (by omega) hp)
  have HP := bx hp
  clear h hn hp
  go_enter Try.func16, Try.ntmps16
  go_wp2
  go_loopw [3, 5, 8] (fun v3 _ v8 wr => ∃ k : Nat, k ≤ l.length ∧ v8 = .int .i64 k ∧ v3 = .int .i64 (essL (l.take k)) ∧ From w wr) (fun _ _ v8 _ => l.length - (intOf v8).toNat)
  case atStart => exact ⟨0, by omega, rfl, by simp [essL], From.refl _⟩
  case round =>
    obtain ⟨k, hk, rfl, rfl, hf⟩ := hrel
    by_cases hlt : k < l.length
    · obtain ⟨b, off, rfl, hb, c0, c1, c2, c3⟩ := loads_at (H.out.from hf) hlt
      have he := essL_take l k hlt
      have hbd := HB.out k hk
      have hpw := HP.out l[k] (List.getElem_mem hlt)
      have d1 : decide ((k : Int) < (l.length : Int)) = true := decide_eq_true (by omega)
      obtain ⟨z, hz⟩ : ∃ z, essL (l.take k) = z := ⟨_, rfl⟩
      rw [hz] at he hbd ⊢
      obtain ⟨Y, hY⟩ : ∃ Y, l[k] = Y := ⟨_, rfl⟩
      rw [hY] at c0 c1 c2 c3 he hpw
      obtain ⟨y0, y1, y2, y3⟩ := Y
      simp only at c0 c1 c2 c3 he hpw
      have HE := bx he
      clear hY hz he
      cases y3
      all_goals
        go_wp2
        go_roundw
        case rel => exact ⟨k + 1, by omega, by go_num, by rw [HE.out]; rfl, hf.alloc _⟩
        case measure => simp [intOf]; omega
    · obtain rfl : k = l.length := by omega
      rw [List.take_length, HN.out] at *
      go_wp2
      go_ret
      exact ⟨rfl, hf⟩
/-- is there a load of this number? -/
def hasId (y : Int) (l : List Lo) : Bool := l.any fun x => decide (x.id = y)
theorem hasId_take (y : Int) (l : List Lo) (k : Nat) (hk : k < l.length) : hasId y (l.take (k + 1)) = (hasId y (l.take k) || decide (l[k].id = y)) := by
  unfold hasId
  rw [List.take_succ_eq_append_getElem hk, List.any_append]
  simp
theorem same_calls (x : Lo) (r : Nat) (y : Int) (w : World) (h : w.cell? ⟨r, 0, none⟩ = some (.int .i64 y)) :
    Calls Try.prog 34 #[lag x, .pointer (some ⟨r, 0, none⟩)] w fun e w' => e = .returned (.bool (decide (x.id = y))) ∧ From w w' := by
  obtain ⟨x0, x1, x2, x3⟩ := x
  have hc := cell_alloc h (.cells #[.int .i64 x0, .int .i64 x1, .int .i64 x2, .bool x3] 41)
  by_cases he : x0 = y
  · subst he
    go_enter Try.func34, Try.ntmps34
    go_wp2
    go_ret
    exact ⟨ret_bool (by simp), (From.refl _).alloc _⟩
  · have d : (x0 == y) = false := by simpa using he
    go_enter Try.func34, Try.ntmps34
    go_wp2
    go_ret
    exact ⟨ret_bool (by simp [he]), (From.refl _).alloc _⟩
theorem index_calls (A0 : Option Addr) (c0 : Nat) (l : List Lo) (r : Nat) (y : Int) (w : World) (h : Loads w (.slice A0 l.length c0) l) (hm : l.length ≤ 1000000) (hr : w.cell? ⟨r, 0, none⟩ = some (.int .i64 y)) (b : Bool) (hb : hasId y l = b) :
    Calls Try.prog 44 #[.slice A0 l.length c0, .func (.func 34) #[] #[.pointer (some ⟨r, 0, none⟩)]] w fun e w' => (∃ n : Int, e = .returned (.int .i64 n) ∧ decide (0 ≤ n) = b ∧ -1 ≤ n) ∧ From w w' := by
  have H := bx h
  have HR := bx hr
  have HB := bx hb
  clear h hr hb
  go_enter Try.func44, Try.ntmps44
  go_wp2
  go_loopw [5, 8] (fun _ v8 wr => ∃ k : Nat, k ≤ l.length ∧ v8 = .int .i64 k ∧ hasId y (l.take k) = false ∧ From w wr) (fun _ v8 _ => l.length - (intOf v8).toNat)
  case atStart => exact ⟨0, by omega, rfl, by simp [hasId], From.refl _⟩
  case round =>
    obtain ⟨k, hk, rfl, hno, hf⟩ := hrel
    by_cases hlt : k < l.length
    · obtain ⟨b', off, rfl, hb, c0, c1, c2, c3⟩ := loads_at (H.out.from hf) hlt
      have he := hasId_take y l k hlt
      rw [hno, Bool.false_or] at he
      have d1 : decide ((k : Int) < (l.length : Int)) = true := decide_eq_true (by omega)
      obtain ⟨Y, hY⟩ : ∃ Y, l[k] = Y := ⟨_, rfl⟩
      rw [hY] at c0 c1 c2 c3 he
      have HS := bx (same_calls Y r y wr (hf.cell HR.out))
      have hin : Y ∈ l := by rw [← hY]; exact List.getElem_mem hlt
      have HIn := bx hin
      clear hY hno hin
      obtain ⟨y0, y1, y2, y3⟩ := Y
      simp only at c0 c1 c2 c3 he
      have HE := bx he
      clear he
      go_wp2_with fail
      refine HS.out.mono ?_
      rintro e w1 ⟨rfl, f1⟩
      simp only
      by_cases hq : y0 = y
      · have d2 : decide (y0 = y) = true := decide_eq_true hq
        rw [d2]
        have hall : hasId y l = true := List.any_eq_true.2 ⟨_, HIn.out, d2⟩
        have HA := bx hall
        clear hall d2 hq
        go_wp2
        go_ret
        exact ⟨⟨_, rfl, by rw [← HB.out, HA.out]; simp, by omega⟩, hf.trans f1⟩
      · have d2 : decide (y0 = y) = false := decide_eq_false hq
        rw [d2]
        rw [d2] at HE
        clear d2
        go_wp2
        go_roundw
        case rel => exact ⟨k + 1, by omega, by go_num, HE.out, hf.trans f1⟩
        case measure => simp [intOf]; omega
    · obtain rfl : k = l.length := by omega
      rw [List.take_length, HB.out] at hno
      have HNo := bx hno
      clear hno
      go_wp2
      go_ret
      exact ⟨⟨-1, rfl, by rw [HNo.out]; rfl, by omega⟩, hf⟩
theorem contains_calls (A0 : Option Addr) (c0 : Nat) (l : List Lo) (r : Nat) (y : Int) (w : World) (h : Loads w (.slice A0 l.length c0) l) (hm : l.length ≤ 1000000) (hr : w.cell? ⟨r, 0, none⟩ = some (.int .i64 y)) (b : Bool) (hb : hasId y l = b) :
    Calls Try.prog 33 #[.slice A0 l.length c0, .func (.func 34) #[] #[.pointer (some ⟨r, 0, none⟩)]] w fun e w' => e = .returned (.bool b) ∧ From w w' := by
  have HI := bx (index_calls A0 c0 l r y w h hm hr b hb)
  clear h hr hb
  go_enter Try.func33, Try.ntmps33
  go_wp2_with fail
  refine HI.out.mono ?_
  rintro e w1 ⟨⟨n, rfl, hn, hn1⟩, f1⟩
  go_wp2
  go_ret
  exact ⟨rfl, f1⟩
/-- what Check answers -/
def chkF : List Lo → List Lo → Int
  | _, [] => 0
  | sn, x :: r => if x.pw < 0 ∨ 2147483647 < x.pw then 5 else if hasId x.id sn then 4 else chkF (sn ++ [x]) r
def badB (C ch re : Int) : Prop := re < 0 ∨ C < re ∨ 2147483647 < C ∨ ch < 0 ∨ C < ch
instance badB_dec (C ch re : Int) : Decidable (badB C ch re) := by unfold badB; infer_instance
def chkP (C ch re : Int) (l : List Lo) : Int := if badB C ch re then 5 else if 64 < l.length then 2 else chkF [] l
theorem chkF_drop (l : List Lo) (k : Nat) (hk : k < l.length) : chkF (l.take k) (l.drop k) = if l[k].pw < 0 ∨ 2147483647 < l[k].pw then 5 else if hasId l[k].id (l.take k) then 4 else chkF (l.take (k + 1)) (l.drop (k + 1)) := by
  rw [List.drop_eq_getElem_cons hk, List.take_succ_eq_append_getElem hk]; rfl
theorem loads_take {w : World} {B n c : Nat} {A : Option Addr} {l : List Lo} (h : Sl w B (.slice A n c) l.length (l.flatMap lcs)) (k : Nat) (hk : k < l.length) : Sl w B (.slice A k c) (l.take k).length ((l.take k).flatMap lcs) := by
  rcases h.out with ⟨_, h0, _⟩ | ⟨a, c', e, h'⟩
  · omega
  · injection e with e1 e2 e3
    subst e1 e3
    refine ⟨.inr ⟨a, c, by rw [List.length_take, Nat.min_eq_left (by omega)], fun j u hj => h' j u ?_⟩⟩
    have e : l.flatMap lcs = (l.take k).flatMap lcs ++ (l.drop k).flatMap lcs := by rw [← List.flatMap_append, List.take_append_drop]
    rw [e, List.getElem?_append_left (List.getElem?_eq_some_iff.1 hj).1]
    exact hj
theorem lo_new (w : World) (a b c : Int) (d : Bool) : (w.alloc (.cells #[.int .i64 a, .int .i64 b, .int .i64 c, .bool d] 41)).cell? ⟨w.heap.size, 0, none⟩ = some (.int .i64 a) ∧ (w.alloc (.cells #[.int .i64 a, .int .i64 b, .int .i64 c, .bool d] 41)).cell? ⟨w.heap.size, 1, none⟩ = some (.int .i64 b) := by
  refine ⟨?_, ?_⟩ <;> (rw [World.cell?_alloc_new]; rfl)
set_option maxHeartbeats 2000000 in
theorem check_calls (C ch re : Int) (A0 : Option Addr) (c0 : Nat) (l : List Lo) (w : World) (h : Loads w (.slice A0 l.length c0) l) (hm : l.length ≤ 9223372036854775807) (hcap : l.length ≤ c0) (x : Int) (hx : chkP C ch re l = x) :
    Calls Try.prog 14 #[.agg (bcs C ch re), .slice A0 l.length c0] w fun e w' => e = .returned (.int .i64 x) ∧ From w w' := by
  obtain ⟨W1, hW1⟩ : ∃ V, w.alloc (.cells (bcs C ch re) 23) = V := ⟨_, rfl⟩
  have k1 : From w W1 := by rw [← hW1]; exact (From.refl _).alloc _
  obtain ⟨a0, a1, a2, _, _, _⟩ := bat_soft (show W1.heap[w.heap.size]? = some (.cells (bcs C ch re) 23 (0, 0)) by rw [← hW1]; exact heap_alloc_new _ _)
  have H := bx (h.from k1)
  have HK := bx k1
  clear h k1
  unfold chkP at hx
  by_cases t1 : re < 0
  · rw [if_pos (by unfold badB; omega)] at hx
    subst hx
    have dt1 : decide (re < 0) = true := decide_eq_true t1
    go_enter Try.func14, Try.ntmps14
    go_wp2
    go_ret
    exact ⟨rfl, HK.out⟩
  have dt1 : decide (re < 0) = false := decide_eq_false t1
  by_cases t2 : C < re
  · rw [if_pos (by unfold badB; omega)] at hx
    subst hx
    have dt2 : decide (C < re) = true := decide_eq_true t2
    go_enter Try.func14, Try.ntmps14
    go_wp2
    go_ret
    exact ⟨rfl, HK.out⟩
  have dt2 : decide (C < re) = false := decide_eq_false t2
  by_cases t3 : 2147483647 < C
  · rw [if_pos (by unfold badB; omega)] at hx
    subst hx
    have dt3 : decide (2147483647 < C) = true := decide_eq_true t3
    go_enter Try.func14, Try.ntmps14
    go_wp2
    go_ret
    exact ⟨rfl, HK.out⟩
  have dt3 : decide (2147483647 < C) = false := decide_eq_false t3
  by_cases t4 : ch < 0
  · rw [if_pos (by unfold badB; omega)] at hx
    subst hx
    have dt4 : decide (ch < 0) = true := decide_eq_true t4
    go_enter Try.func14, Try.ntmps14
    go_wp2
    go_ret
    exact ⟨rfl, HK.out⟩
  have dt4 : decide (ch < 0) = false := decide_eq_false t4
  by_cases t5 : C < ch
  · rw [if_pos (by unfold badB; omega)] at hx
    subst hx
    have dt5 : decide (C < ch) = true := decide_eq_true t5
    go_enter Try.func14, Try.ntmps14
    go_wp2
    go_ret
    exact ⟨rfl, HK.out⟩
  have dt5 : decide (C < ch) = false := decide_eq_false t5
  rw [if_neg (by unfold badB; omega)] at hx
  by_cases h64 : 64 < l.length
  · rw [if_pos h64] at hx
    subst hx
    have d6 : decide ((64 : Int) < (l.length : Int)) = true := decide_eq_true (by omega)
    go_enter Try.func14, Try.ntmps14
    go_wp2
    go_ret
    exact ⟨rfl, HK.out⟩
  rw [if_neg h64] at hx
  have d6 : decide ((64 : Int) < (l.length : Int)) = false := decide_eq_false (by omega)
  have HX := bx hx
  clear hx
  go_enter Try.func14, Try.ntmps14
  go_wp2
  clear a0 a1 a2 t1 t2 t3 t4 t5 dt1 dt2 dt3 dt4 dt5 d6
  go_loopw [5, 6, 41] (fun _ _ v41 wr => ∃ k : Nat, k ≤ l.length ∧ v41 = .int .i64 k ∧ chkF (l.take k) (l.drop k) = x ∧ From W1 wr) (fun _ _ v41 _ => l.length - (intOf v41).toNat)
  case atStart => exact ⟨0, by omega, rfl, HX.out, From.refl _⟩
  case round =>
    obtain ⟨k, hk, rfl, hc, hf⟩ := hrel
    by_cases hlt : k < l.length
    · obtain ⟨b', off, rfl, hb, c0', c1', c2', c3'⟩ := loads_at (H.out.from hf) hlt
      have hfl := From.refl wr
      rw [chkF_drop l k hlt] at hc
      have d1 : decide ((k : Int) < (l.length : Int)) = true := decide_eq_true (by omega)
      have htk : (l.take k).length = k := by rw [List.length_take]; omega
      have hpre := loads_take (H.out.from hf) k hlt
      obtain ⟨Y, hY⟩ : ∃ Y, l[k] = Y := ⟨_, rfl⟩
      rw [hY] at c0' c1' c2' c3' hc
      obtain ⟨y0, y1, y2, y3⟩ := Y
      simp only at c0' c1' c2' c3' hc
      clear hY
      obtain ⟨V, hV⟩ : ∃ V, wr.alloc (.cells #[.int .i64 y0, .int .i64 y1, .int .i64 y2, .bool y3] 41) = V := ⟨_, rfl⟩
      have fV : From wr V := by rw [← hV]; exact hfl.alloc _
      obtain ⟨e0, e1⟩ := lo_new wr y0 y1 y2 y3
      rw [hV] at e0 e1
      obtain ⟨b, hbb⟩ : ∃ b, hasId y0 (l.take k) = b := ⟨_, rfl⟩
      have hcf := contains_calls (some ⟨b', off, none⟩) c0 (l.take k) wr.heap.size y0 V (by rw [htk]; exact hpre.from fV) (by rw [htk]; omega) e0 b hbb
      rw [htk] at hcf
      rw [hbb] at hc
      have HCF := bx hcf
      have HFV := bx (hf.trans fV)
      have HC := bx hc
      clear hcf fV hfl hpre hbb htk hc hf
      by_cases u1 : y1 < 0
      · have hc := HC.out
        rw [if_pos (.inl u1)] at hc
        subst hc
        have d2 : decide (y1 < 0) = true := decide_eq_true u1
        go_wp2
        go_ret
        exact ⟨rfl, HK.out.trans HFV.out⟩
      have d2 : decide (y1 < 0) = false := decide_eq_false u1
      by_cases u2 : 2147483647 < y1
      · have hc := HC.out
        rw [if_pos (.inr u2)] at hc
        subst hc
        have d3 : decide (2147483647 < y1) = true := decide_eq_true u2
        go_wp2
        go_ret
        exact ⟨rfl, HK.out.trans HFV.out⟩
      have d3 : decide (2147483647 < y1) = false := decide_eq_false u2
      have hc := HC.out
      rw [if_neg (by omega)] at hc
      have HC2 := bx hc
      clear hc HC
      go_wp2_with fail
      refine HCF.out.mono ?_
      rintro e w3 ⟨rfl, f3⟩
      cases b
      · have HC3 := bx (show chkF (l.take (k + 1)) (l.drop (k + 1)) = x from HC2.out)
        go_wp2
        go_roundw
        case rel => exact ⟨k + 1, by omega, by go_num, HC3.out, HFV.out.trans f3⟩
        case measure => simp [intOf]; omega
      · have hc : (4 : Int) = x := HC2.out
        subst hc
        go_wp2
        go_ret
        exact ⟨rfl, HK.out.trans (HFV.out.trans f3)⟩
    · obtain rfl : k = l.length := by omega
      rw [List.drop_length] at hc
      have hc : (0 : Int) = x := hc
      subst hc
      go_wp2
      go_ret
      exact ⟨rfl, HK.out.trans hf⟩
end Go.Proofs.Ytamfifndddldcaa
