/-
  Walks of slices' stable sort: swapRange, rotate.
-/
import Derived.Test.YtpdbdpmlppbnnaaN10
import Derived.Deep.CutRange
namespace Go.Proofs.Ytpdbdpmlppbnnaa
open Go.RowKit Go.Shelf

def swp2 (d : List Nat) (i j : Nat) : List Nat := (d.set i (d.getD j 0)).set j (d.getD i 0)
theorem getD_two (A M B : List Nat) (u v : Nat) {j : Nat} (hj : j = A.length + 1 + M.length) : (A ++ u :: (M ++ v :: B)).getD j 0 = v := by
  rw [show A ++ u :: (M ++ v :: B) = (A ++ u :: M) ++ v :: B by simp]
  exact getD_mid _ _ _ (by simp; omega)
theorem swp2_at (A M B : List Nat) (u v : Nat) {i j : Nat} (hi : i = A.length) (hj : j = A.length + 1 + M.length) : swp2 (A ++ u :: (M ++ v :: B)) i j = A ++ v :: (M ++ u :: B) := by
  rw [swp2, getD_two A M B u v hj, getD_mid _ _ _ hi, set_mid _ _ _ _ hi, show A ++ v :: (M ++ v :: B) = (A ++ v :: M) ++ v :: B by simp, set_mid _ _ _ _ (by simp; omega)]
  simp
theorem SR.drew {lo g c n pb : Nat} {w : World} {P : List Int} {d : List Nat} (h : SR lo w g c n pb P d) : SR lo w.drew g c n pb P d := h.drewN 1
theorem SR.swap2 {lo g c n pb : Nat} {w : World} {P : List Int} {d : List Nat} (h : SR lo w g c n pb P d) (A M B : List Nat) (u v : Nat) (i j : Nat) (hd : d = A ++ u :: (M ++ v :: B)) (hi : i = A.length) (hj : j = A.length + 1 + M.length) :
    SR lo ((w.setCell ⟨g, i, none⟩ (.int .i64 v)).setCell ⟨g, j, none⟩ (.int .i64 u)) g c n pb P (A ++ v :: (M ++ u :: B)) := by
  subst hd
  refine h.grow (grown_set (grown_set (grown_refl _ _) _ _) _ _) ?_ (by rw [← h.len]; simp) (fun x hx => h.lt x (by
    simp only [List.mem_append, List.mem_cons] at hx ⊢
    rcases hx with hx | hx | hx | hx | hx <;> simp [hx]))
  have := own_put (own_put h.own i (.int .i64 v)) j (.int .i64 u)
  rwa [show ((ic (nl (A ++ u :: (M ++ v :: B)))).set i (.int .i64 (v : Nat))).set j (.int .i64 (u : Nat)) = ic (nl (A ++ v :: (M ++ u :: B))) by
    rw [← swp2_at A M B u v hi hj, swp2, getD_two A M B u v hj, getD_mid _ _ _ hi]
    simp [ic, nl]] at this
/-- swapRange's state: the target is T -/
structure SwR (lo : Nat) (w : World) (g c n pb : Nat) (P : List Int) (a b k i : Nat) (T B : List Nat) (A U M V : List Nat) : Prop where
  sr : SR lo w g c n pb P (A ++ (U ++ (M ++ (V ++ B))))
  tgt : A ++ (V ++ (M ++ (U ++ B))) = T
  la : A.length = a + i
  lu : U.length + i = k
  lv : V.length + i = k
  lm : A.length + U.length + M.length = b + i
set_option maxHeartbeats 2000000 in
theorem swapR_calls (lo g c n pb a b k : Nat) (P : List Int) (A U M V B : List Nat) (F : Value) (w : World) (h : SR lo w g c n pb P (A ++ (U ++ (M ++ (V ++ B))))) (hA : A.length = a) (hU : U.length = k) (hV : V.length = k) (hM : a + k + M.length = b) (hn : n ≤ 1152921504606846976) :
    Calls Try.prog 120 #[.slice (some ⟨g, 0, none⟩) n c, .int .i64 a, .int .i64 b, .int .i64 k, F] w fun e w' =>
      e = .returned (.tuple #[]) ∧ SR lo w' g c n pb P (A ++ (V ++ (M ++ (U ++ B)))) ∧ w.grownBy w' (some g) := by
  have hnl := h.len
  simp only [List.length_append] at hnl
  obtain ⟨T, hT⟩ : ∃ T, A ++ (V ++ (M ++ (U ++ B))) = T := ⟨_, rfl⟩
  have HS := bx (show SwR lo w g c n pb P a b k 0 T B A U M V from ⟨h, hT, hA, hU, hV, by omega⟩)
  rw [hT]
  have hbn : b + k ≤ n := by omega
  have hak : a + k ≤ b := by omega
  clear h hA hU hV hM hT hnl
  go_enter Try.func120, Try.ntmps120
  go_wp2_with fail
  go_loopw [10] (fun vi wr => ∃ (i : Nat) (A U M V : List Nat), vi = .int .i64 i ∧ i ≤ k ∧ SwR lo wr g c n pb P a b k i T B A U M V ∧ w.grownBy wr (some g)) (fun vi _ => k - (intOf vi).toNat)
  case atStart => exact ⟨0, A, U, M, V, rfl, Nat.zero_le _, HS.out, grown_refl _ _⟩
  case round =>
    obtain ⟨i, A', U', M', V', rfl, hik, hS, hG⟩ := hrel
    have HG := bx hG
    have HS' := bx hS
    clear hS hG
    by_cases hlt : i < k
    · obtain ⟨u, U2, hu⟩ : ∃ u U2, U' = u :: U2 := by
        cases hq : U' with
        | nil => have := HS'.out.lu; rw [hq] at this; simp at this; omega
        | cons u t => exact ⟨u, t, rfl⟩
      obtain ⟨v, V2, hv⟩ : ∃ v V2, V' = v :: V2 := by
        cases hq : V' with
        | nil => have := HS'.out.lv; rw [hq] at this; simp at this; omega
        | cons u t => exact ⟨u, t, rfl⟩
      subst hu hv
      have la := HS'.out.la
      have lm := HS'.out.lm
      simp only [List.length_cons] at lm
      have hd : A' ++ (u :: U2 ++ (M' ++ (v :: V2 ++ B))) = A' ++ u :: ((U2 ++ M') ++ v :: (V2 ++ B)) := by simp
      have hsr := HS'.out.sr
      rw [hd] at hsr
      obtain ⟨c1, f1⟩ := hsr.cell (j := a + i) (by omega)
      obtain ⟨c2, f2⟩ := hsr.cell (j := b + i) (by omega)
      rw [getD_mid _ _ _ (by omega)] at c1
      rw [getD_two _ _ _ _ _ (by simp; omega)] at c2
      have HSW := bx (hsr.drew.swap2 A' (U2 ++ M') (V2 ++ B) u v (a + i) (b + i) rfl (by omega) (by simp; omega))
      have HNX := bx (show ∀ wx, SR lo wx g c n pb P (A' ++ v :: ((U2 ++ M') ++ u :: (V2 ++ B))) → SwR lo wx g c n pb P a b k (i + 1) T B (A' ++ [v]) U2 (M' ++ [u]) V2 from fun wx hx => ⟨by simpa using hx, by
        have := HS'.out.tgt
        rw [← this]
        simp, by simp; omega, by have := HS'.out.lu; simp at this; omega, by have := HS'.out.lv; simp at this; omega, by simp; omega⟩)
      have e1 : IntKind.i64.wrap ((a : Int) + (i : Int)) = ((a + i : Nat) : Int) := by rw [IntWalk.i64_in _ (by omega)]; omega
      have e2 : IntKind.i64.wrap ((b : Int) + (i : Int)) = ((b + i : Nat) : Int) := by rw [IntWalk.i64_in _ (by omega)]; omega
      have z1 : (0 : Int) ≤ (a : Int) + (i : Int) := by omega
      have z2 : (a : Int) + (i : Int) < (n : Int) := by omega
      have z3 : (0 : Int) ≤ (b : Int) + (i : Int) := by omega
      have z4 : (b : Int) + (i : Int) < (n : Int) := by omega
      clear hsr hd la lm
      go_upto_region 3 with fail
      go_region
      go_wp2_with fail
      go_roundw
      case rel => exact ⟨i + 1, _, _, _, _, by go_num, by omega, HNX.out _ HSW.out, grown_set (grown_set (grown_drewN HG.out 1) _ _) _ _⟩
      case measure => simp [intOf]; omega
    · obtain rfl : i = k := by omega
      go_wp2_with fail
      go_end0
      have hu := HS'.out.lu
      have hv := HS'.out.lv
      have hU0 : U' = [] := List.length_eq_zero_iff.1 (by omega)
      have hV0 : V' = [] := List.length_eq_zero_iff.1 (by omega)
      subst hU0 hV0
      have := HS'.out.sr
      rw [show A' ++ ([] ++ (M' ++ ([] ++ B))) = T from HS'.out.tgt] at this
      exact ⟨rfl, this, HG.out⟩
/-- rotate's state: the blocks U, V before and behind m; the target is T -/
structure RoR (lo : Nat) (w : World) (g c n pb : Nat) (P : List Int) (m i j : Nat) (T A U V B : List Nat) : Prop where
  sr : SR lo w g c n pb P (A ++ (U ++ (V ++ B)))
  tgt : A ++ (V ++ (U ++ B)) = T
  la : A.length + i = m
  lu : U.length = i
  lv : V.length = j
  i0 : 0 < i
  j0 : 0 < j
set_option maxHeartbeats 2000000 in
theorem rotate_calls (lo g c n pb a m b : Nat) (P : List Int) (A U V B : List Nat) (F : Value) (w : World) (h : SR lo w g c n pb P (A ++ (U ++ (V ++ B)))) (hA : A.length = a) (hU : a + U.length = m) (hV : m + V.length = b) (hU0 : 0 < U.length) (hV0 : 0 < V.length) (hn : n ≤ 1152921504606846976) :
    Calls Try.prog 110 #[.slice (some ⟨g, 0, none⟩) n c, .int .i64 a, .int .i64 m, .int .i64 b, F] w fun e w' =>
      e = .returned (.tuple #[]) ∧ SR lo w' g c n pb P (A ++ (V ++ (U ++ B))) ∧ w.grownBy w' (some g) := by
  have hnl := h.len
  simp only [List.length_append] at hnl
  obtain ⟨T, hT⟩ : ∃ T, A ++ (V ++ (U ++ B)) = T := ⟨_, rfl⟩
  have HS := bx (show RoR lo w g c n pb P m U.length V.length T A U V B from ⟨h, hT, by omega, rfl, rfl, hU0, hV0⟩)
  have HSW := bx (fun (a b k : Nat) (A U M V B : List Nat) (w : World) (h : SR lo w g c n pb P (A ++ (U ++ (M ++ (V ++ B))))) (h1 : A.length = a) (h2 : U.length = k) (h3 : V.length = k) (h4 : a + k + M.length = b) => swapR_calls lo g c n pb a b k P A U M V B F w h h1 h2 h3 h4 hn)
  rw [hT]
  obtain ⟨I, hI⟩ : ∃ I, U.length = I := ⟨_, rfl⟩
  obtain ⟨J, hJ⟩ : ∃ J, V.length = J := ⟨_, rfl⟩
  rw [hI, hJ] at HS
  have e1 : IntKind.i64.wrap ((m : Int) - (a : Int)) = (I : Int) := by rw [IntWalk.i64_in _ (by omega)]; omega
  have e2 : IntKind.i64.wrap ((b : Int) - (m : Int)) = (J : Int) := by rw [IntWalk.i64_in _ (by omega)]; omega
  have e1' : (m : Int) - (a : Int) = (I : Int) := by omega
  have e2' : (b : Int) - (m : Int) = (J : Int) := by omega
  have hmn : m ≤ n := by omega
  have hIn : I ≤ n := by omega
  have hJn : J ≤ n := by omega
  clear h hA hU hV hT hnl hU0 hV0 hI hJ
  go_enter Try.func110, Try.ntmps110
  go_wp2_with fail
  clear e1 e2 e1' e2'
  go_loopw [10, 11] (fun vi vj wr => ∃ (i j : Nat) (A U V B : List Nat), vi = .int .i64 i ∧ vj = .int .i64 j ∧ i ≤ n ∧ j ≤ n ∧ RoR lo wr g c n pb P m i j T A U V B ∧ w.grownBy wr (some g)) (fun vi vj _ => (intOf vi).toNat + (intOf vj).toNat)
  case atStart => exact ⟨I, J, A, U, V, B, rfl, rfl, hIn, hJn, HS.out, grown_refl _ _⟩
  case round =>
    obtain ⟨i, j, A', U', V', B', rfl, rfl, hin, hjn, hS, hG⟩ := hrel
    have HG := bx hG
    have HS' := bx hS
    have i0 := hS.i0
    have j0 := hS.j0
    have hla := hS.la
    have z0 : IntKind.i64.wrap ((m : Int) - (i : Int)) = ((m - i : Nat) : Int) := by rw [IntWalk.i64_in _ (by omega)]; omega
    have z1 : (m : Int) - (i : Int) = ((m - i : Nat) : Int) := by omega
    clear hS hG
    by_cases hij : i = j
    · subst hij
      have HC := bx (HSW.out (m - i) m i A' U' [] V' B' wr HS'.out.sr (by omega) HS'.out.lu HS'.out.lv (by simp; omega))
      clear hla
      go_wp2_with fail
      refine HC.out.mono ?_
      rintro e w1 ⟨rfl, h1, h2⟩
      go_wp2_with fail
      go_end0
      refine ⟨rfl, ?_, HG.out.trans h2⟩
      rw [← HS'.out.tgt]
      exact h1
    · have d1 : ((i : Int) != (j : Int)) = true := by simp; omega
      by_cases hgt : j < i
      · have d2 : decide ((i : Int) > (j : Int)) = true := decide_eq_true (by omega)
        obtain ⟨U1, U2, hU, hl1⟩ : ∃ U1 U2, U' = U1 ++ U2 ∧ U1.length = j := ⟨U'.take j, U'.drop j, (List.take_append_drop _ _).symm, by rw [List.length_take, HS'.out.lu]; omega⟩
        subst hU
        have hl2 := HS'.out.lu
        rw [List.length_append] at hl2
        have HC := bx (HSW.out (m - i) m j A' U1 U2 V' B' wr (by have := HS'.out.sr; rwa [List.append_assoc] at this) (by omega) hl1 HS'.out.lv (by omega))
        have HNX := bx (fun (wx : World) (h : SR lo wx g c n pb P (A' ++ (V' ++ (U2 ++ (U1 ++ B'))))) => (show RoR lo wx g c n pb P m (i - j) j T (A' ++ V') U2 U1 B' from ⟨by rw [List.append_assoc]; exact h, by rw [← HS'.out.tgt]; simp, by rw [List.length_append, HS'.out.lv]; omega, by omega, hl1, by omega, j0⟩))
        clear hla hl1 hl2
        go_wp2_with fail
        refine HC.out.mono ?_
        rintro e w1 ⟨rfl, h1, h2⟩
        have H1 := bx h1
        have H2 := bx h2
        clear h1 h2
        go_wp2_with fail
        go_roundw
        case rel => exact ⟨i - j, j, _, _, _, _, by congr 1; omega, rfl, by omega, hjn, HNX.out _ H1.out, HG.out.trans H2.out⟩
        case measure => simp [intOf]; omega
      · have d2 : decide ((i : Int) > (j : Int)) = false := decide_eq_false (by omega)
        obtain ⟨V1, V2, hV, hl1⟩ : ∃ V1 V2, V' = V1 ++ V2 ∧ V2.length = i := ⟨V'.take (j - i), V'.drop (j - i), (List.take_append_drop _ _).symm, by rw [List.length_drop, HS'.out.lv]; omega⟩
        subst hV
        have hl2 := HS'.out.lv
        rw [List.length_append] at hl2
        have HC := bx (HSW.out (m - i) (m + j - i) i A' U' V1 V2 B' wr (by have := HS'.out.sr; simpa using this) (by omega) HS'.out.lu hl1 (by omega))
        have HNX := bx (fun (wx : World) (h : SR lo wx g c n pb P (A' ++ (V2 ++ (V1 ++ (U' ++ B'))))) => (show RoR lo wx g c n pb P m i (j - i) T A' V2 V1 (U' ++ B') from ⟨h, by rw [← HS'.out.tgt]; simp, hla, hl1, by omega, i0, by omega⟩))
        have z2 : IntKind.i64.wrap ((m : Int) + (j : Int)) = (m : Int) + (j : Int) := IntWalk.i64_in _ (by omega)
        have z3 : IntKind.i64.wrap ((m : Int) + (j : Int) - (i : Int)) = ((m + j - i : Nat) : Int) := by rw [IntWalk.i64_in _ (by omega)]; omega
        have z4 : (m : Int) + (j : Int) - (i : Int) = ((m + j - i : Nat) : Int) := by omega
        clear hla hl1 hl2
        go_wp2_with fail
        refine HC.out.mono ?_
        rintro e w1 ⟨rfl, h1, h2⟩
        have H1 := bx h1
        have H2 := bx h2
        clear h1 h2
        go_wp2_with fail
        go_roundw
        case rel => exact ⟨i, j - i, _, _, _, _, rfl, by congr 1; omega, hin, by omega, HNX.out _ H1.out, HG.out.trans H2.out⟩
        case measure => simp [intOf]; omega
end Go.Proofs.Ytpdbdpmlppbnnaa
