/-
  Walk of layer 10's specification: Order.
-/
import Derived.Test.YtamfifndddldcaaW20
namespace Go.Proofs.Ytamfifndddldcaa
open Go.RowKit Go.Shelf

/-- a store into a row of one's own -/
theorem own_put {w : World} {base size n g c : Nat} {e : TypeId} {xs : List Value} (h : w.ownsRow base e size (.slice (some ⟨g, 0, none⟩) n c) n xs) (j : Nat) (_ : j < xs.length) (u : Value) :
    (w.setCell ⟨g, j, none⟩ u).ownsRow base e size (.slice (some ⟨g, 0, none⟩) n c) n (xs.set j u) := by
  obtain ⟨hl, h⟩ := h
  refine ⟨by rw [List.length_set]; exact hl, ?_⟩
  rcases h with ⟨h, _⟩ | ⟨g', cap, cur, hv, hb, hh, hn, hc, hs, ht⟩
  · cases h
  · injection hv with e1 e2 e3
    injection e1 with e1
    injection e1 with e1
    subst e1 e3
    refine .inr ⟨g, c, cur.setIfInBounds j u, rfl, hb, heap_set_at hh j u, hn, hc, by simpa using hs, ?_⟩
    rw [← ht, Array.toList_setIfInBounds, List.take_set]
theorem own_cell {w : World} {base size n g c : Nat} {e : TypeId} {xs : List Value} (h : w.ownsRow base e size (.slice (some ⟨g, 0, none⟩) n c) n xs) {j : Nat} {u : Value} (hj : xs[j]? = some u) : w.cell? ⟨g, j, none⟩ = some u ∧ w.frozen? ⟨g, j, none⟩ = false := by
  have h1 := h.cells (g := g) rfl j u hj
  rw [Addr.add_mid, Nat.zero_add] at h1
  refine ⟨h1, ?_⟩
  rcases h.2 with ⟨hv, _⟩ | ⟨g', cap', cur, hv, _, hgb, _⟩
  · cases hv
  · injection hv with e _ _
    injection e with e
    injection e with e _ _
    subst e
    simp [World.frozen?, hgb]
theorem own_block {w : World} {base size n c : Nat} {e : TypeId} {A : Option Addr} {xs : List Value} (h : w.ownsRow base e size (.slice A n c) n xs) (hn : 0 < n) : ∃ g, A = some ⟨g, 0, none⟩ ∧ base ≤ g ∧ g < w.heap.size := by
  rcases h.2 with ⟨hv, h0⟩ | ⟨g, cap, cur, hv, hb, hh, _⟩
  · omega
  · injection hv with e1 _ _
    exact ⟨g, e1, hb, (Array.getElem?_eq_some_iff.1 hh).1⟩
/-- the cells of element k written anew -/
theorem flat_set (l : List Lo) (x : Lo) : ∀ k, k < l.length → ((((l.flatMap lcs).set (k * 4) (.int .i64 x.id)).set (k * 4 + 1) (.int .i64 x.pw)).set (k * 4 + 2) (.int .i64 x.pr)).set (k * 4 + 3) (.bool x.es) = (l.set k x).flatMap lcs := by
  induction l with
  | nil => intro k h; simp at h
  | cons y l ih =>
    intro k h
    cases k with
    | zero => rfl
    | succ k =>
      have h' := ih k (by simpa using h)
      rw [List.set_cons_succ, List.flatMap_cons, List.flatMap_cons, ← h']
      obtain ⟨y0, y1, y2, y3⟩ := y
      rw [show (k + 1) * 4 = k * 4 + 4 by omega, show k * 4 + 4 + 1 = (k * 4 + 1) + 4 by omega, show k * 4 + 4 + 2 = (k * 4 + 2) + 4 by omega, show k * 4 + 4 + 3 = (k * 4 + 3) + 4 by omega]
      rfl
theorem own_put4 {w : World} {base g n c : Nat} {M : List Lo} (h : w.ownsRow base 41 4 (.slice (some ⟨g, 0, none⟩) n c) n (M.flatMap lcs)) (k : Nat) (hk : k < M.length) (x : Lo) :
    ((((w.setCell ⟨g, k * 4, none⟩ (.int .i64 x.id)).setCell ⟨g, k * 4 + 1, none⟩ (.int .i64 x.pw)).setCell ⟨g, k * 4 + 2, none⟩ (.int .i64 x.pr)).setCell ⟨g, k * 4 + 3, none⟩ (.bool x.es)).ownsRow base 41 4 (.slice (some ⟨g, 0, none⟩) n c) n ((M.set k x).flatMap lcs) := by
  have hl := flat_len lcs_len M
  rw [← flat_set M x k hk]
  exact own_put (own_put (own_put (own_put h _ (by omega) _) _ (by rw [List.length_set]; omega) _) _ (by rw [List.length_set, List.length_set]; omega) _) _ (by rw [List.length_set, List.length_set, List.length_set]; omega) _
/-- x stands at place k of the row P -/
def insAt (P : List Lo) (k : Nat) (x : Lo) : List Lo := P.take k ++ x :: P.drop k
theorem insAt_len (P : List Lo) (k : Nat) (x : Lo) (h : k ≤ P.length) : (insAt P k x).length = P.length + 1 := by
  unfold insAt
  rw [List.length_append, List.length_cons, List.length_take, List.length_drop]
  omega
theorem insAt_end (P : List Lo) (x : Lo) : insAt P P.length x = P ++ [x] := by
  unfold insAt
  rw [List.take_length, List.drop_length]
theorem insAt_at? (P : List Lo) (k : Nat) (x : Lo) (h : k ≤ P.length) : (insAt P k x)[k]? = some x := by
  unfold insAt
  rw [List.getElem?_append_right (by rw [List.length_take]; omega), List.length_take, Nat.min_eq_left h, Nat.sub_self]
  rfl
theorem insAt_pred? (P : List Lo) (k : Nat) (x : Lo) (h : k < P.length) : (insAt P (k + 1) x)[k]? = some P[k] := by
  unfold insAt
  rw [List.getElem?_append_left (by rw [List.length_take]; omega), List.getElem?_take_of_lt (by omega), List.getElem?_eq_getElem h]
theorem insAt_swap (P : List Lo) (k : Nat) (x : Lo) (h : k < P.length) : ((insAt P (k + 1) x).set (k + 1) P[k]).set k x = insAt P k x := by
  unfold insAt
  rw [List.set_append_right _ _ (by rw [List.length_take]; omega), List.set_append_left _ _ (by rw [List.length_take]; omega)]
  have e1 : k + 1 - (P.take (k + 1)).length = 0 := by rw [List.length_take]; omega
  rw [e1, List.set_cons_zero, List.take_succ_eq_append_getElem h, List.set_append_right _ _ (by rw [List.length_take]; omega)]
  have e2 : k - (P.take k).length = 0 := by rw [List.length_take]; omega
  rw [e2, List.set_cons_zero, List.append_assoc, List.singleton_append]
  conv => rhs; rw [List.drop_eq_getElem_cons h]
/-- what is left to do at place k -/
theorem ins_next (P : List Lo) (k : Nat) (x : Lo) (h : k < P.length) (hb : bef x P[k] = true) : (insRev x (P.take (k + 1)).reverse).reverse = (insRev x (P.take k).reverse).reverse ++ [P[k]] := by
  rw [List.take_succ_eq_append_getElem h, List.reverse_append]
  show (if bef x P[k] then P[k] :: insRev x (P.take k).reverse else x :: P[k] :: (P.take k).reverse).reverse = _
  rw [if_pos hb, List.reverse_cons]
theorem ins_stop (P : List Lo) (k : Nat) (x : Lo) (h : k < P.length) (hb : bef x P[k] = false) : (insRev x (P.take (k + 1)).reverse).reverse = P.take (k + 1) ++ [x] := by
  rw [List.take_succ_eq_append_getElem h, List.reverse_append]
  show (if bef x P[k] then P[k] :: insRev x (P.take k).reverse else x :: P[k] :: (P.take k).reverse).reverse = _
  rw [if_neg (by rw [hb]; simp)]
  simp
theorem ordRev_take (l : List Lo) (i : Nat) (h : i < l.length) : ordRev (l.take (i + 1)) = insRev l[i] (ordRev (l.take i)) := by
  unfold ordRev
  rw [List.take_succ_eq_append_getElem h, List.foldl_append]
  rfl
set_option maxHeartbeats 8000000 in
set_option maxRecDepth 10000 in
theorem refOrder_calls (A0 : Option Addr) (c0 : Nat) (l : List Lo) (w : World) (h : Loads w (.slice A0 l.length c0) l) (hm : l.length ≤ 1000000) :
    Calls Try.prog 37 #[.slice A0 l.length c0] w (LoPost w (ordL l)) := by
  have H := bx h
  clear h
  go_enter Try.func37, Try.ntmps37
  go_wp2
  go_loopw [3, 4, 5, 6] (fun v3 v4 _ _ wr => ∃ (i : Nat) (A2 : Option Addr) (c2 : Nat), i ≤ l.length ∧ v4 = .int .i64 i ∧ v3 = .slice A2 i c2 ∧ wr.ownsRow w.heap.size 41 4 (.slice A2 i c2) i ((ordRev (l.take i)).reverse.flatMap lcs) ∧ From w wr) (fun _ v4 _ _ _ => l.length - (intOf v4).toNat)
  case atStart => exact ⟨0, none, 0, by omega, rfl, rfl, own_nil _ _ _ _, From.refl _⟩
  case round =>
    obtain ⟨i, A2, c2, hi, rfl, rfl, hown, hf⟩ := hrel
    by_cases hlt : i < l.length
    case neg =>
      obtain rfl : i = l.length := by omega
      rw [List.take_length] at hown
      have HO := bx hown
      clear hown
      have d1 : decide (((l.length : Nat) : Int) < (l.length : Int)) = false := decide_eq_false (by omega)
      have hle := ordL_len l
      go_wp2
      go_ret
      exact ⟨A2, c2, ret_slice hle.symm, by rw [hle]; exact HO.out, hf⟩
    obtain ⟨b, off, rfl, hb, q0, q1, q2, q3⟩ := loads_at (H.out.from hf) hlt
    have d1 : decide ((i : Int) < (l.length : Int)) = true := decide_eq_true (by omega)
    have hot := ordRev_take l i hlt
    obtain ⟨Y, hY⟩ : ∃ Y, l[i] = Y := ⟨_, rfl⟩
    rw [hY] at q0 q1 q2 q3 hot
    have hPl : (ordRev (l.take i)).reverse.length = i := by
      have h1 := (ordL_perm (l.take i)).length_eq
      unfold ordL at h1
      rw [h1, List.length_take]
      omega
    obtain ⟨P, hP⟩ : ∃ P, (ordRev (l.take i)).reverse = P := ⟨_, rfl⟩
    have hPr : ordRev (l.take i) = P.reverse := by rw [← hP, List.reverse_reverse]
    rw [hP] at hown hPl
    rw [hPr] at hot
    have HOT := bx hot
    have HO := bx hown
    have HF := bx hf
    have HPl := bx hPl
    obtain ⟨y0, y1, y2, y3⟩ := Y
    simp only at q0 q1 q2 q3
    clear hown hf hot hP hPr hY hPl
    have hI := bx (show (i + 1) * 32 ≤ 140737488355328 by omega)
    have hI2 := bx (show i + 1 ≤ maxLen by unfold maxLen; omega)
    go_wp2_with (at_builtin; refine app_sl rfl _ _ 24 rfl Try.elLo rfl (HO.out.alloc _) 1 (lcs ⟨y0, y1, y2, y3⟩) rfl (sl_new wr (lcs ⟨y0, y1, y2, y3⟩) 41 1 1) rfl (lcs_one _) hI.out hI2.out (by have := Below.size HF.out; simp; omega) ?_; intro A3 c3 w3 o3 g3 _)
    have hf3 := From.app (HF.out.alloc (.cells #[.int .i64 y0, .int .i64 y1, .int .i64 y2, .bool y3] 41)) (HO.out.alloc _) (Nat.le_refl _) g3
    obtain ⟨g, rfl, hg1, hg2⟩ := own_block o3 (by omega)
    have hPe := insAt_end P ⟨y0, y1, y2, y3⟩
    rw [HPl.out] at hPe
    have hO3 := bx (show w3.ownsRow w.heap.size 41 4 (.slice (some ⟨g, 0, none⟩) (i + 1) c3) (i + 1) ((insAt P i ⟨y0, y1, y2, y3⟩).flatMap lcs) by rw [hPe, List.flatMap_append]; simpa using o3)
    have hR3 := bx (show (insRev ⟨y0, y1, y2, y3⟩ (P.take i).reverse).reverse ++ P.drop i = (ordRev (l.take (i + 1))).reverse by rw [HOT.out, ← HPl.out, List.take_length, List.drop_length, List.append_nil])
    have HF3 := bx hf3
    clear hPe o3 g3 hf3 q0 q1 q2 q3 HO HOT
    go_loopw [5, 6] (fun v5 _ wr => ∃ k : Nat, k ≤ i ∧ v5 = .int .i64 k ∧ wr.ownsRow w.heap.size 41 4 (.slice (some ⟨g, 0, none⟩) (i + 1) c3) (i + 1) ((insAt P k ⟨y0, y1, y2, y3⟩).flatMap lcs) ∧ From w wr ∧ (insRev ⟨y0, y1, y2, y3⟩ (P.take k).reverse).reverse ++ P.drop k = (ordRev (l.take (i + 1))).reverse) (fun v5 _ _ => (intOf v5).toNat)
    case atStart => exact ⟨i, Nat.le_refl _, rfl, hO3.out, HF3.out, hR3.out⟩
    case round =>
      clear hO3 HF3 hR3 HF hg2
      obtain ⟨k, hk, rfl, ho, hq, hr⟩ := hrel
      cases k with
      | zero =>
        have hfin : insAt P 0 ⟨y0, y1, y2, y3⟩ = (ordRev (l.take (i + 1))).reverse := by rw [← hr]; rfl
        rw [hfin] at ho
        have HO := bx ho
        clear ho hr hfin
        go_wp2_with fail
        go_quiet (fail)
        go_wp2
        go_roundw
        case rel => exact ⟨i + 1, some ⟨g, 0, none⟩, c3, by omega, by go_num, rfl, own_drewN HO.out _, hq.drewN _⟩
        case measure => simp [intOf]; omega
      | succ k =>
        have hkP : k < P.length := by have := HPl.out; omega
        have hk1 : k + 1 ≤ P.length := hkP
        have e1 := insAt_at? P (k + 1) ⟨y0, y1, y2, y3⟩ hk1
        have e0 := insAt_pred? P k ⟨y0, y1, y2, y3⟩ hkP
        obtain ⟨M, hM⟩ : ∃ M, insAt P (k + 1) ⟨y0, y1, y2, y3⟩ = M := ⟨_, rfl⟩
        rw [hM] at ho e1 e0
        have hMl : M.length = i + 1 := by rw [← hM, insAt_len _ _ _ hk1, HPl.out]
        have c1 : ∀ (W : World), From wr W → ∀ j u, j < 4 → (lcs ⟨y0, y1, y2, y3⟩)[j]? = some u → W.cell? ⟨g, (k + 1) * 4 + j, none⟩ = some u ∧ W.frozen? ⟨g, (k + 1) * 4 + j, none⟩ = false := fun W kk j u hj hu => by
          refine own_cell (own_call ho kk) ?_
          have h1 := (List.getElem?_eq_some_iff.1 e1).1
          rw [flat_at lcs_len M (k + 1) h1 j hj]
          rw [List.getElem?_eq_getElem h1] at e1
          injection e1 with e1
          rw [e1]; exact hu
        obtain ⟨Z, hZ⟩ : ∃ Z, P[k] = Z := ⟨_, rfl⟩
        rw [hZ] at e0
        have c0 : ∀ (W : World), From wr W → ∀ j u, j < 4 → (lcs Z)[j]? = some u → W.cell? ⟨g, k * 4 + j, none⟩ = some u ∧ W.frozen? ⟨g, k * 4 + j, none⟩ = false := fun W kk j u hj hu => by
          refine own_cell (own_call ho kk) ?_
          have h1 := (List.getElem?_eq_some_iff.1 e0).1
          rw [flat_at lcs_len M k h1 j hj]
          rw [List.getElem?_eq_getElem h1] at e0
          injection e0 with e0
          rw [e0]; exact hu
        obtain ⟨bf, hbf⟩ : ∃ b, bef ⟨y0, y1, y2, y3⟩ Z = b := ⟨_, rfl⟩
        have HNx := bx (ins_next P k ⟨y0, y1, y2, y3⟩ hkP)
        have HSt := bx (ins_stop P k ⟨y0, y1, y2, y3⟩ hkP)
        have HSw := bx (insAt_swap P k ⟨y0, y1, y2, y3⟩ hkP)
        have hdrop := List.drop_eq_getElem_cons hkP
        rw [hZ] at HNx HSt HSw hdrop
        rw [hbf] at HNx HSt
        obtain ⟨z0, z1, z2, z3⟩ := Z
        obtain ⟨u0, f0⟩ := c1 wr (From.refl _) 0 _ (by omega) rfl
        obtain ⟨u1, f1⟩ := c1 wr (From.refl _) 1 _ (by omega) rfl
        obtain ⟨u2, f2⟩ := c1 wr (From.refl _) 2 _ (by omega) rfl
        obtain ⟨u3, f3⟩ := c1 wr (From.refl _) 3 _ (by omega) rfl
        obtain ⟨v0, h0⟩ := c0 wr (From.refl _) 0 _ (by omega) rfl
        obtain ⟨v1, h1⟩ := c0 wr (From.refl _) 1 _ (by omega) rfl
        obtain ⟨v2, h2⟩ := c0 wr (From.refl _) 2 _ (by omega) rfl
        obtain ⟨v3, h3⟩ := c0 wr (From.refl _) 3 _ (by omega) rfl
        rw [Nat.add_zero] at u0 f0 v0 h0
        have HB := bx (fun (W : World) => (show Calls Try.prog 49 #[.agg #[.int .i64 y0, .int .i64 y1, .int .i64 y2, .bool y3], .agg #[.int .i64 z0, .int .i64 z1, .int .i64 z2, .bool z3]] W fun e w' => e = .returned (.bool bf) ∧ From W w' from by have := before_calls ⟨y0, y1, y2, y3⟩ ⟨z0, z1, z2, z3⟩ W; rw [hbf] at this; exact this))
        have HC1 := bx c1
        have HC0 := bx c0
        have HO := bx ho
        have HM := bx hM
        have HML := bx hMl
        have HR := bx hr
        have HD := bx hdrop
        have HQ := bx hq
        clear ho hM hMl hr hdrop hq c0 c1 e0 e1 hZ hbf
        have HKK := bx (fun (W : World) (kk : From wr W) => (show From wr W ∧ W.cell? ⟨g, (k + 1) * 4, none⟩ = some (.int .i64 y0) ∧ W.cell? ⟨g, (k + 1) * 4 + 1, none⟩ = some (.int .i64 y1) ∧ W.cell? ⟨g, (k + 1) * 4 + 2, none⟩ = some (.int .i64 y2) ∧ W.cell? ⟨g, (k + 1) * 4 + 3, none⟩ = some (.bool y3) ∧ W.cell? ⟨g, k * 4, none⟩ = some (.int .i64 z0) ∧ W.cell? ⟨g, k * 4 + 1, none⟩ = some (.int .i64 z1) ∧ W.cell? ⟨g, k * 4 + 2, none⟩ = some (.int .i64 z2) ∧ W.cell? ⟨g, k * 4 + 3, none⟩ = some (.bool z3) from ⟨kk, kk.cell u0, kk.cell u1, kk.cell u2, kk.cell u3, kk.cell v0, kk.cell v1, kk.cell v2, kk.cell v3⟩))
        have hFF : From wr wr := From.refl _
        have hb0 : (0 : Int) ≤ (k : Int) := by omega
        have hb1 : (0 : Int) ≤ (k : Int) + 1 := by omega
        have hb2 : (k : Int) + 1 < (i : Int) + 1 := by omega
        have hb3 : (k : Int) < (i : Int) + 1 := by omega
        have hw1 : IntKind.i64.wrap ((k : Int) + 1 - 1) = (k : Int) := by rw [show (k : Int) + 1 - 1 = k by omega]; exact IntWalk.i64_in _ (by omega)
        have hw2 : IntKind.i64.wrap (k : Int) = (k : Int) := IntWalk.i64_in _ (by omega)
        go_wp2_with fail
        go_region_held3 (fun W => From wr W ∧ W.cell? ⟨g, (k + 1) * 4, none⟩ = some (.int .i64 y0) ∧ W.cell? ⟨g, (k + 1) * 4 + 1, none⟩ = some (.int .i64 y1) ∧ W.cell? ⟨g, (k + 1) * 4 + 2, none⟩ = some (.int .i64 y2) ∧ W.cell? ⟨g, (k + 1) * 4 + 3, none⟩ = some (.bool y3) ∧ W.cell? ⟨g, k * 4, none⟩ = some (.int .i64 z0) ∧ W.cell? ⟨g, k * 4 + 1, none⟩ = some (.int .i64 z1) ∧ W.cell? ⟨g, k * 4 + 2, none⟩ = some (.int .i64 z2) ∧ W.cell? ⟨g, k * 4 + 3, none⟩ = some (.bool z3))
          (first | (go_split_ands; with_reducible refine HKK.out _ ?_; repeat' (first | with_reducible assumption | with_reducible refine From.drew ?_)))
          (first | (go_at_call 49; (with_reducible refine (HB.out _).mono ?_); rintro e w6 ⟨rfl, k6⟩; have hkeep := From.trans (show From wr _ by go_split_ands; assumption) k6))
        have hk6 : From wr w6 := by first | exact hkeep | exact hkeep.drew
        clear hkeep u0 u1 u2 u3 v0 v1 v2 v3 f0 f1 f2 f3 h0 h1 h2 h3 HKK hFF k6
        have HO6 := bx (own_call HO.out hk6)
        have HQ6 := bx (HQ.out.trans hk6)
        cases bf with
        | false =>
          have hfin : M = (ordRev (l.take (i + 1))).reverse := by
            rw [← HR.out, HSt.out rfl, ← HM.out]
            unfold insAt
            rw [List.append_assoc]
            rfl
          have HO7 := bx (hfin ▸ HO6.out)
          clear hfin
          go_wp2
          go_roundw
          case rel => exact ⟨i + 1, some ⟨g, 0, none⟩, c3, by omega, by go_num, rfl, by first | exact HO7.out | exact own_drewN HO7.out 1, by first | exact HQ6.out | exact HQ6.out.drew⟩
          case measure => simp [intOf]; omega
        | true =>
          obtain ⟨u0, f0⟩ := HC1.out w6 hk6 0 _ (by omega) rfl
          obtain ⟨u1, f1⟩ := HC1.out w6 hk6 1 _ (by omega) rfl
          obtain ⟨u2, f2⟩ := HC1.out w6 hk6 2 _ (by omega) rfl
          obtain ⟨u3, f3⟩ := HC1.out w6 hk6 3 _ (by omega) rfl
          obtain ⟨v0, h0⟩ := HC0.out w6 hk6 0 _ (by omega) rfl
          obtain ⟨v1, h1⟩ := HC0.out w6 hk6 1 _ (by omega) rfl
          obtain ⟨v2, h2⟩ := HC0.out w6 hk6 2 _ (by omega) rfl
          obtain ⟨v3, h3⟩ := HC0.out w6 hk6 3 _ (by omega) rfl
          rw [Nat.add_zero] at u0 f0 v0 h0
          have hR2 := bx (show (insRev ⟨y0, y1, y2, y3⟩ (P.take k).reverse).reverse ++ P.drop k = (ordRev (l.take (i + 1))).reverse by rw [HD.out, ← HR.out, HNx.out rfl, List.append_assoc]; rfl)
          have hO8 := bx (own_put4 (own_put4 HO6.out (k + 1) (by rw [HML.out]; omega) ⟨z0, z1, z2, z3⟩) k (by rw [List.length_set, HML.out]; omega) ⟨y0, y1, y2, y3⟩)
          have hgw : g < w6.heap.size := (own_lt HO6.out (r := g) (by simp [Value.ownBlock])).2
          have hl8 : (M.set (k + 1) ⟨z0, z1, z2, z3⟩).set k ⟨y0, y1, y2, y3⟩ = insAt P k ⟨y0, y1, y2, y3⟩ := by rw [← HM.out]; exact HSw.out
          have hO9 := hO8.out
          rw [hl8] at hO9
          have HO9 := bx hO9
          clear hk6 hl8 hO9
          go_wp2
          go_roundw
          case rel =>
            refine ⟨k, by omega, rfl, HO9.out.alloc _, ?_, hR2.out⟩
            exact ((((((((HQ6.out.setCell hg1 _ _).setCell hg1 _ _).setCell hg1 _ _).setCell hg1 _ _).setCell hg1 _ _).setCell hg1 _ _).setCell hg1 _ _).setCell hg1 _ _).alloc _
          case measure => simp [intOf]
end Go.Proofs.Ytamfifndddldcaa
