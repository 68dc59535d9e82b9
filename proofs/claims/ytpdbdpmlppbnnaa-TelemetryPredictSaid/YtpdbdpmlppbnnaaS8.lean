/-
  Walks of slices' stable sort: symMerge of a row and one element.
-/
import Derived.Test.YtpdbdpmlppbnnaaS7
namespace Go.Proofs.Ytpdbdpmlppbnnaa
open Go.RowKit Go.Shelf

set_option maxHeartbeats 4000000 in
set_option maxRecDepth 10000 in
theorem symM_right (lo g c n pb a m b : Nat) (P : List Int) (X L Y : List Nat) (y : Nat) (w : World) (h : SR lo w g c n pb P (X ++ (L ++ y :: Y))) (hX : X.length = a) (hm : a + L.length = m) (hb : m + 1 = b) (hL : L.length ≠ 1) (hs : Srt P L) (hx : ∀ x ∈ L, x < y) (hn : n ≤ 1152921504606846976) :
    Calls Try.prog 102 #[.slice (some ⟨g, 0, none⟩) n c, .int .i64 a, .int .i64 m, .int .i64 b, .func (.func 49) #[] #[.pointer (some ⟨pb, 0, none⟩)]] w fun e w' =>
      e = .returned (.tuple #[]) ∧ (∃ M, Srt P M ∧ M.Perm (L ++ [y]) ∧ SR lo w' g c n pb P (X ++ (M ++ Y))) ∧ w.grownBy w' (some g) := by
  have hnl := h.len
  simp only [List.length_append, List.length_cons] at hnl
  have HH := bx h
  have HX := bx hX
  have HS := bx hs
  have HXR := bx hx
  have HM := bx (show X.length + L.length = m by omega)
  have hma : ((m : Int) - (a : Int) == 1) = false := beq_eq_false_iff_ne.2 (by omega)
  have hwa : IntKind.i64.wrap ((m : Int) - (a : Int)) = (m : Int) - (a : Int) := IntWalk.i64_in _ (by omega)
  have d0 : IntKind.i64.wrap ((b : Int) - (m : Int)) = 1 := by rw [IntWalk.i64_in _ (by omega)]; omega
  have d1 : (b : Int) - (m : Int) = 1 := by omega
  have hmn : m < n := by omega
  have ham : a ≤ m := by omega
  clear h hX hs hx hnl hL
  go_enter Try.func102, Try.ntmps102
  go_wp2_with fail
  clear hma hwa d0 d1 hm hb
  go_loopw [14, 15] (fun vi vj wr => ∃ i j q : Nat, vi = .int .i64 i ∧ vj = .int .i64 j ∧ a ≤ i ∧ i ≤ j ∧ j ≤ m ∧ BsR P y L (i - a) (j - a) ∧ wr = w.drewN q) (fun vi vj _ => (intOf vj).toNat - (intOf vi).toNat)
  case atStart => exact ⟨a, m, 0, rfl, rfl, Nat.le_refl _, ham, Nat.le_refl _, ⟨by omega, by have := HM.out; have := HX.out; omega, by simp, by rw [List.drop_eq_nil_of_le (by have := HM.out; have := HX.out; omega)]; simp⟩, rfl⟩
  case round =>
    obtain ⟨i, j, q, rfl, rfl, hmi, hij, hjb, hB, hw⟩ := hrel
    have HB := bx hB
    have HW := bx hw
    have HSR := bx (show SR lo wr g c n pb P (X ++ (L ++ y :: Y)) by rw [hw]; exact HH.out.drewN q)
    clear hB hw
    by_cases hlt : i < j
    · have z1 : decide ((i : Int) < (j : Int)) = true := decide_eq_true (by omega)
      obtain ⟨h, hh⟩ : ∃ h, (i + j) / 2 = h := ⟨_, rfl⟩
      have eh : ((i : Int) + (j : Int)) / 2 = (h : Int) := by omega
      have hih : i ≤ h := by omega
      have hhj : h < j := by omega
      obtain ⟨c1, f1⟩ := HSR.out.cell (j := h) (by omega)
      obtain ⟨c2, f2⟩ := HSR.out.cell (j := m) hmn
      rw [getD_at X L (y :: Y) (by have := HX.out; have := HM.out; omega)] at c1
      rw [show X ++ (L ++ y :: Y) = (X ++ L) ++ y :: Y by simp, getD_mid (X ++ L) _ y (by rw [List.length_append]; exact HM.out.symm)] at c2
      have hym : L.getD (h - X.length) 0 ∈ L := getD_memL (by have := HX.out; have := HM.out; omega)
      have HUP := bx (fun hl => HB.out.up (h := h - a) (by omega) hl)
      have HDN := bx (fun hl => HB.out.down (h := h - a) (by omega) hl)
      rw [HX.out] at c1 hym
      obtain ⟨x, hy⟩ : ∃ x, L.getD (h - a) 0 = x := ⟨_, rfl⟩
      rw [hy] at c1 hym HUP HDN
      have hxy := HXR.out x hym
      obtain ⟨z, hz1, hz2⟩ := cmp_at HSR.out y x (by simp) (by simp [hym])
      have HZ1 := bx hz1
      have HZ2 := bx hz2
      have z2 : (h : Int) < (n : Int) := by omega
      have z3 : (0 : Int) ≤ (h : Int) := by omega
      have z4 : (m : Int) < (n : Int) := by omega
      have z5 : (0 : Int) ≤ (m : Int) := by omega
      clear hh hym hy hz1 hz2
      go_wp2_with fail
      go_quiet (first | (go_at_call 49; exact Calls.quiet_of (HZ2.out _ (HSR.out.drewN _).prio)))
      go_wp2_with fail
      · have hzz : ¬ z < 0 := by
          have h : (!decide (z < 0)) = true := by assumption
          simpa using h
        have hl : ltN P y x = false := by
          cases h : ltN P y x
          · rfl
          · exact absurd (HZ1.out.2 h) hzz
        have hb := HUP.out ((lx_low hxy).2 hl)
        rw [show h - a + 1 = h + 1 - a by omega] at hb
        have HB2 := bx hb
        clear hb hl hxy
        go_roundw
        case rel => exact ⟨h + 1, j, _, by go_num, rfl, by omega, by omega, hjb, HB2.out, by rw [HW.out]; exact World.drewN_drewN _ _ _⟩
        case measure => simp [intOf]; omega
      · have hzz : z < 0 := by
          have h : (!decide (z < 0)) = false := by assumption
          simpa using h
        have HB2 := bx (HDN.out ((lx_high hxy).2 (HZ1.out.1 hzz)))
        clear hxy
        go_roundw
        case rel => exact ⟨i, h, _, rfl, rfl, hmi, hih, by omega, HB2.out, by rw [HW.out]; exact World.drewN_drewN _ _ _⟩
        case measure => simp [intOf]; omega
    · obtain rfl : i = j := by omega
      have z1 : decide ((i : Int) < (i : Int)) = false := decide_eq_false (by omega)
      have HGW := bx (show w.grownBy wr (some g) by rw [HW.out]; exact grown_drewN (grown_refl _ _) _)
      go_wp2_with fail
      go_loopw [17] (fun vk wx => ∃ (k : Nat) (A B : List Nat), vk = .int .i64 k ∧ i ≤ k ∧ k ≤ m ∧ A.length = k ∧ A ++ B = X ++ (L ++ Y) ∧ SR lo wx g c n pb P (A ++ y :: B) ∧ w.grownBy wx (some g)) (fun vk _ => (intOf vk).toNat)
      case atStart => exact ⟨m, X ++ L, Y, rfl, hjb, Nat.le_refl _, by rw [List.length_append]; exact HM.out, by simp, by have := HSR.out; rwa [show X ++ (L ++ y :: Y) = (X ++ L) ++ y :: Y by simp] at this, HGW.out⟩
      case round =>
        obtain ⟨k, A, B, rfl, hki, hkm, hA, hAB, hS, hG⟩ := hrel
        have HA := bx hA
        have HAB := bx hAB
        have HS2 := bx hS
        have HG2 := bx hG
        clear hA hAB hS hG
        by_cases hlk : i < k
        · have z7 : decide ((k : Int) > (i : Int)) = true := decide_eq_true (by omega)
          obtain ⟨A2, x, hB2⟩ : ∃ A2 x, A = A2 ++ [x] := by
            have hne : A ≠ [] := by intro e; have := HA.out; rw [e] at this; simp at this; omega
            exact ⟨A.dropLast, A.getLast hne, (List.dropLast_concat_getLast hne).symm⟩
          subst hB2
          have hA2 : A2.length + 1 = k := by have := HA.out; simpa using this
          have hsr : SR lo wr g c n pb P (A2 ++ x :: y :: B) := by have := HS2.out; rwa [show (A2 ++ [x]) ++ y :: B = A2 ++ x :: y :: B by simp] at this
          have ewk : IntKind.i64.wrap ((k : Int) - 1) = ((k - 1 : Nat) : Int) := by rw [IntWalk.i64_in _ (by omega)]; omega
          have ewk2 : (k : Int) - 1 = ((k - 1 : Nat) : Int) := by omega
          obtain ⟨c1, f1⟩ := hsr.cell (j := k) (by omega)
          obtain ⟨c2, f2⟩ := hsr.cell (j := k - 1) (by omega)
          have g1 : (A2 ++ x :: y :: B).getD k 0 = y := getD_two A2 [] B x y (by simp; omega)
          have g2 : (A2 ++ x :: y :: B).getD (k - 1) 0 = x := getD_mid _ _ _ (by omega)
          have hsw := hsr.drew.swap k (by have := hsr.lt x (by simp); omega)
          rw [g1, g2, swpL_mid _ _ _ _ (by omega)] at hsw
          rw [g1] at c1
          rw [g2] at c2
          have HSW := bx hsw
          have z8 : (0 : Int) ≤ (k : Int) := by omega
          have z9 : (k : Int) < (n : Int) := by omega
          have z10 : ((k - 1 : Nat) : Int) < (n : Int) := by omega
          have z11 : (0 : Int) ≤ ((k - 1 : Nat) : Int) := by omega
          have HA2 := bx hA2
          clear hsr hsw g1 g2 hA2
          go_wp2_with fail
          go_region
          go_wp2_with fail
          go_roundw
          case rel => exact ⟨k - 1, A2, x :: B, by congr 1, by omega, by omega, by have := HA2.out; omega, by have := HAB.out; simpa using this, HSW.out, grown_set (grown_set (grown_drewN HG2.out 1) _ _) _ _⟩
          case measure => simp [intOf]; omega
        · have z7 : decide ((k : Int) > (i : Int)) = false := decide_eq_false (by omega)
          obtain rfl : k = i := by omega
          go_wp2_with fail
          refine bodyPost_ret (v := .tuple #[]) (by simp [results, Try.results102, go_sem]) rfl ?_
          have h1 := HAB.out
          have h2 := HA.out
          have h3 := HX.out
          have h4 := HM.out
          rw [show X ++ (L ++ Y) = (X ++ L.take (k - a)) ++ (L.drop (k - a) ++ Y) by rw [List.append_assoc, ← List.append_assoc (L.take _), List.take_append_drop]] at h1
          obtain ⟨e1, e2⟩ := List.append_inj h1 (by rw [List.length_append, List.length_take]; omega)
          subst e1 e2
          refine ⟨rfl, ⟨L.take (k - a) ++ y :: L.drop (k - a), HB.out.srt HS.out, ?_, ?_⟩, HG2.out⟩
          · have := List.perm_middle (a := y) (l₁ := L.take (k - a)) (l₂ := L.drop (k - a))
            rw [List.take_append_drop] at this
            exact this.trans (List.perm_append_singleton _ _).symm
          · have := HS2.out
            rwa [show (X ++ L.take (k - a)) ++ y :: (L.drop (k - a) ++ Y) = X ++ ((L.take (k - a) ++ y :: L.drop (k - a)) ++ Y) by simp] at this
end Go.Proofs.Ytpdbdpmlppbnnaa
