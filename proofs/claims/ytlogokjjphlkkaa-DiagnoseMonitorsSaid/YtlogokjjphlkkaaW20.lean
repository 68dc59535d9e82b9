/-
  Walks of layer 29: the reference's Step.
-/
import Derived.Test.YtlogokjjphlkkaaW19
import Derived.Deep.CutRange
import Derived.Deep.CutRange
namespace Go.Proofs.Ytlogokjjphlkkaa
open Go.RowKit Go.Shelf

set_option maxRecDepth 100000 in
set_option maxHeartbeats 4000000 in
theorem step29_calls (m : Mon) (A : Option Addr) (c : Nat) (v : Int) (w : World) (h : Bools w (.slice A m.past.length c) m.past) (hm : Small m) (n : Mon) (hn : stepM m v = n) (up dn : Bool) (hu : upM m v = up) (hd : dnM m v = dn) :
    Calls Try.prog 59 #[.agg (mcs m (.slice A m.past.length c)), .int .i64 v] w (StepPost w n up dn) := by
  have hf : n.past = pushP m.past m.of (outB m v) ∧ n.raised = (if up || dn then up else m.raised) ∧ Like m n := by rw [← hn, ← hu, ← hd]; exact ⟨rfl, rfl, (Like.refl m).step v⟩
  obtain ⟨q, hq⟩ : ∃ q, pushP m.past m.of (outB m v) = q := ⟨_, rfl⟩
  have hup : up = (!m.raised && decide (m.need ≤ (trues q : Int))) := by rw [← hu, ← hq]; rfl
  have hdn : dn = (m.raised && decide (trues q = 0)) := by rw [← hd, ← hq]; rfl
  obtain ⟨b, hb⟩ : ∃ b, outB m v = b := ⟨_, rfl⟩
  rw [hq] at hf
  rw [hb] at hq
  obtain ⟨f1, f2, f3, f4, f5, f6, f7, f8⟩ := hf
  obtain ⟨hm1, hm2⟩ := hm
  obtain ⟨W1, hW1⟩ : ∃ V, w.alloc (.cells (mcs m (.slice A m.past.length c)) 71) = V := ⟨_, rfl⟩
  obtain ⟨W2, hW2⟩ : ∃ V, W1.alloc (.cells (mcs ⟨0, 0, 0, 0, 0, 0, [], false⟩ (.slice none 0 0)) 71) = V := ⟨_, rfl⟩
  have k1 : From w W1 := by rw [← hW1]; exact From.alloc (From.refl _) _
  have k2 : From W1 W2 := by rw [← hW2]; exact From.alloc (From.refl _) _
  have s1 : W1.heap.size = w.heap.size + 1 := by rw [← hW1]; simp
  have s2 : W2.heap.size = w.heap.size + 2 := by rw [← hW2]; simp [s1]
  have M1 : MonC W2 w.heap.size m (.slice A m.past.length c) := MonC.from (by rw [← hW1]; exact MonC.new w m _) k2
  have M2 : MonC W2 (w.heap.size + 1) ⟨0, 0, 0, 0, 0, 0, [], false⟩ (.slice none 0 0) := by rw [← hW2, ← s1]; exact MonC.new W1 _ _
  have HH := bx (h.from (k1.trans k2))
  obtain ⟨a0, a1, a2, a3, a4, a5, a6, a7⟩ := M1.facts
  have N1 := bx M1
  have N2 := bx M2
  have HQ := bx hq
  have HB := bx hb
  clear M1 M2 h hu hd hn hq hb
  obtain ⟨mp, ml, mh, mn, mo, me, mps, mr⟩ := m
  obtain ⟨np, nl, nh, nn, no, ne, nps, nr⟩ := n
  simp only at f1 f2 f3 f4 f5 f6 f7 f8
  subst f1 f3 f4 f5 f6 f7 f8
  simp only at *
  have F2 := bx f2
  have HUP := bx hup
  have HDN := bx hdn
  clear f2 hup hdn
  go_enter Try.func59, Try.ntmps59
  have hW1' := hW1
  have hW2' := hW2
  have hq : (decide (v < nl) = true ∧ b = true) ∨ (decide (v < nl) = false ∧ decide (nh < v) = b) := by
    have hb := HB.out
    simp only [outB] at hb
    by_cases h1 : v < nl
    · exact .inl ⟨by simp [h1], by rw [← hb]; simp [h1]⟩
    · exact .inr ⟨by simp [h1], by rw [← hb]; simp [h1]⟩
  go_upto_region 3 with (at_builtin; (refine app_sl rfl _ _ 32 rfl Try.elBool rfl (own_nil W2 W2.heap.size _ _) mps.length (bc mps) rfl HH.out (by simp [bc]) (bc_one _) (by omega) (by unfold maxLen; omega) (by omega) ?_; intro A3 c3 w3 o3 g3 _; have k3 : From W2 w3 := From.app (From.refl _) (own_nil W2 W2.heap.size 4 1) (Nat.le_refl _) g3; have hs3 := Below.size k3; rw [Nat.zero_add, List.nil_append] at o3; simp only [Nat.zero_add]))
  obtain ⟨a0, a1, a2, a3, a4, a5, a6, a7⟩ := (N1.out.from k3).facts
  simp only at a0 a1 a2 a3 a4 a5 a6 a7
  go_cut [7] from 14 to 26 (fun s7 wx => ∃ A4 c4, s7 = .slice A4 (mps.length + 1) c4 ∧ From W2 wx ∧ wx.ownsRow W2.heap.size 4 1 (.slice A4 (mps.length + 1) c4) (mps.length + 1) (bc mps ++ [.bool b]))
  case first =>
    rcases hq with ⟨d1, rfl⟩ | ⟨d1, rfl⟩
    · go_wp2_with (at_builtin; (refine app_sl rfl _ _ 32 rfl Try.elBool rfl (o3.alloc _) 1 [.bool _] rfl (sl_new w3 [.bool _] 4 1 1) rfl (by simp [Value.oneCell']) (by omega) (by unfold maxLen; omega) (by simp; omega) ?_; intro A4 c4 w4 o4 g4 _; have k4 : From W2 w4 := From.app (k3.alloc _) (o3.alloc _) (Nat.le_refl _) g4))
      go_meet
      case rel => exact ⟨A4, c4, rfl, k4, o4⟩
    · go_wp2_with (at_builtin; (refine app_sl rfl _ _ 32 rfl Try.elBool rfl (o3.alloc _) 1 [.bool _] rfl (sl_new w3 [.bool _] 4 1 1) rfl (by simp [Value.oneCell']) (by omega) (by unfold maxLen; omega) (by simp; omega) ?_; intro A4 c4 w4 o4 g4 _; have k4 : From W2 w4 := From.app (k3.alloc _) (o3.alloc _) (Nat.le_refl _) g4))
      go_meet
      case rel => exact ⟨A4, c4, rfl, k4, o4⟩
  case rest =>
  clear a0 a1 a2 a3 a4 a5 a6 a7 o3 g3 k3 hs3 hq HH hW1 hW2 hW1' hW2'
  obtain ⟨A4, c4, rfl, k4, o4⟩ := hcut
  obtain ⟨w4, hw4⟩ : ∃ z, z = wc := ⟨_, rfl⟩
  subst hw4
  replace N1 := bx (N1.out.from k4)
  replace N2 := bx (N2.out.from k4)
  have HF := bx ((k1.trans k2).trans k4)
  obtain ⟨a0, a1, a2, a3, a4, a5, a6, a7⟩ := N1.out.facts
  simp only at a0 a1 a2 a3 a4 a5 a6 a7
  go_upto_if 31 with fail
  go_cut [7] from 27 to 38 (fun s7 wx => wx = w4 ∧ ∃ A5 e5, s7 = .slice A5 nps.length e5 ∧ SlN (w.heap.size + 2) w4 (.slice A5 nps.length e5) nps.length (bc nps))
  case first =>
    have hc4 := own_cap o4
    by_cases hof : no < (mps.length : Int) + 1
    · obtain rfl : no = (mps.length : Int) := by omega
      have d3 : decide ((mps.length : Int) < (mps.length : Int) + 1) = true := decide_eq_true (by omega)
      have hql : nps.length = mps.length := by have hq := HQ.out; rw [pushP, if_pos (by omega)] at hq; rw [← hq]; simp
      have HQL := bx hql
      have H1 : c4 = 1 → SlN (w.heap.size + 2) w4 (.slice A4 nps.length 0) nps.length (bc nps) := by
        intro h1
        have hp0 : mps = [] := List.eq_nil_of_length_eq_zero (by omega)
        subst hp0
        have hq := HQ.out
        rw [pushP, if_pos (by simp)] at hq
        subst hq
        exact sln_zero o4
      have H2 : SlN (w.heap.size + 2) w4 (.slice (Option.map (fun x : Addr => (⟨x.block, x.off + 1, none⟩ : Addr)) A4) nps.length (c4 - 1)) nps.length (bc nps) := by
        have hq := HQ.out
        rw [pushP, if_pos (by omega)] at hq
        have := (SlN.drop (sln_of_own o4) 1).low (show w.heap.size + 2 ≤ _ by omega)
        rw [show mps.length + 1 - 1 = mps.length by omega] at this
        rw [hql, ← hq]
        simpa [bc] using this
      have HH1 := bx H1
      have HH2 := bx H2
      clear H1 H2 hql
      by_cases h4 : c4 = 1
      · subst h4
        go_wp2_with fail
        go_meet
        case rel => exact ⟨rfl, A4, 0, by rw [HQL.out]; first | rfl | (rw [show mps.length = 0 by omega]), HH1.out (by first | rfl | trivial)⟩
      · go_wp2_with fail
        go_meet
        case rel => exact ⟨rfl, _, _, by rw [HQL.out], HH2.out⟩
    · have d3 : decide (no < (mps.length : Int) + 1) = false := decide_eq_false hof
      have hql : nps.length = mps.length + 1 := by have hq := HQ.out; rw [pushP, if_neg (by omega)] at hq; rw [← hq]; simp
      have HQL := bx hql
      have HH2 := bx (show SlN (w.heap.size + 2) w4 (.slice A4 nps.length c4) nps.length (bc nps) by
        have hq := HQ.out
        rw [pushP, if_neg (by omega)] at hq
        rw [hql, ← hq]
        simpa [bc] using (sln_of_own o4).low (show w.heap.size + 2 ≤ _ by omega))
      clear hql
      go_wp2_with fail
      go_meet
      case rel => exact ⟨rfl, A4, c4, by rw [HQL.out], HH2.out⟩
  case rest =>
  obtain ⟨hw4, A5, e5, rfl, hQN⟩ := hcut
  obtain rfl := hw4.symm
  have HQN := bx hQN
  have hql : nps.length ≤ 17 := by
    have hq := HQ.out
    rw [← hq, pushP]
    split
    · simp; omega
    · simp; omega
  have HCT := bx (fun (W : World) (k : From w4 W) => count29_calls A5 e5 nps W (HQN.out.from k).sl (by omega) (trues nps) rfl)
  have htq : trues nps ≤ 1000 := Nat.le_trans (trues_le _) (by omega)
  clear hQN o4
  generalize trues nps = tq at *
  cases mr
  · by_cases hx : nn ≤ (tq : Int)
    · have d5 : decide (nn ≤ (tq : Int)) = true := by simpa using hx
      obtain rfl : up = true := by rw [HUP.out]; simp [hx]
      obtain rfl : dn = false := by rw [HDN.out]; rfl
      obtain rfl : nr = true := F2.out

      go_wp2_with fail
      go_quiet ((go_at_call 107; exact Calls.quiet_of_same (HCT.out _ (From.drewN (From.refl _) _))))
      have k5 : From w4 (w4.drewN nq) := From.drewN (From.refl _) nq
      generalize w4.drewN nq = w5 at *

      have M1 := N1.out.from k5
      have M2 := N2.out.from k5
      obtain ⟨a0, a1, a2, a3, a4, a5, a6, a7⟩ := M1.facts
      have a8 := M1.soft 6
      have a9 := M1.soft 7
      obtain ⟨b0, b1, b2, b3, b4, b5, b6, b7⟩ := M2.facts
      have c0 := M2.soft 0
      have c1 := M2.soft 1
      have c2 := M2.soft 2
      have c3 := M2.soft 3
      have c4 := M2.soft 4
      have c5 := M2.soft 5
      have c6 := M2.soft 6
      have c7 := M2.soft 7
      simp only at a0 a1 a2 a3 a4 a5 a6 a7 b0 b1 b2 b3 b4 b5 b6 b7
      clear M1 M2

      go_wp2_with fail
      refine bodyPost_ret (v := .tuple #[.agg (mcs ⟨np, nl, nh, nn, no, ne, nps, true⟩ (.slice A5 nps.length e5)), .bool true, .bool false]) (by simp [results, Try.results59, go_sem, b0, b1, b2, b3, b4, b5, b6, b7]) rfl ⟨A5, e5, rfl, ?_, ?_⟩
      · exact SlN.low ((((HQN.out.from (by with_reducible assumption)).setCell (by omega) _ _).setCell (by omega) _ _).set8 (by omega) ⟨np, nl, nh, nn, no, ne, nps, true⟩ _) (by omega)
      · exact From.set8 (((HF.out.trans (by with_reducible assumption)).setCell (Nat.le_refl _) _ _).setCell (Nat.le_refl _) _ _) (by omega) ⟨np, nl, nh, nn, no, ne, nps, true⟩ _
    · have d5 : decide (nn ≤ (tq : Int)) = false := by simpa using hx
      obtain rfl : up = false := by rw [HUP.out]; simp [hx]
      obtain rfl : dn = false := by rw [HDN.out]; rfl
      obtain rfl : nr = false := F2.out

      go_wp2_with fail
      go_quiet ((go_at_call 107; exact Calls.quiet_of_same (HCT.out _ (From.drewN (From.refl _) _))))
      have k5 : From w4 (w4.drewN nq) := From.drewN (From.refl _) nq
      generalize w4.drewN nq = w5 at *

      have M1 := N1.out.from k5
      have M2 := N2.out.from k5
      obtain ⟨a0, a1, a2, a3, a4, a5, a6, a7⟩ := M1.facts
      have a8 := M1.soft 6
      have a9 := M1.soft 7
      obtain ⟨b0, b1, b2, b3, b4, b5, b6, b7⟩ := M2.facts
      have c0 := M2.soft 0
      have c1 := M2.soft 1
      have c2 := M2.soft 2
      have c3 := M2.soft 3
      have c4 := M2.soft 4
      have c5 := M2.soft 5
      have c6 := M2.soft 6
      have c7 := M2.soft 7
      simp only at a0 a1 a2 a3 a4 a5 a6 a7 b0 b1 b2 b3 b4 b5 b6 b7
      clear M1 M2

      go_wp2_with fail
      refine bodyPost_ret (v := .tuple #[.agg (mcs ⟨np, nl, nh, nn, no, ne, nps, false⟩ (.slice A5 nps.length e5)), .bool false, .bool false]) (by simp [results, Try.results59, go_sem, b0, b1, b2, b3, b4, b5, b6, b7]) rfl ⟨A5, e5, rfl, ?_, ?_⟩
      · exact SlN.low ((((HQN.out.from (by with_reducible assumption)).setCell (by omega) _ _).setCell (by omega) _ _).set8 (by omega) ⟨np, nl, nh, nn, no, ne, nps, false⟩ _) (by omega)
      · exact From.set8 (((HF.out.trans (by with_reducible assumption)).setCell (Nat.le_refl _) _ _).setCell (Nat.le_refl _) _ _) (by omega) ⟨np, nl, nh, nn, no, ne, nps, false⟩ _
  · by_cases hx : tq = 0
    · have d5 : decide ((tq : Int) = 0) = true := by simpa using hx
      obtain rfl : up = false := by rw [HUP.out]; rfl
      obtain rfl : dn = true := by rw [HDN.out]; simp [hx]
      obtain rfl : nr = false := F2.out

      go_wp2_with fail
      go_quiet ((go_at_call 107; exact Calls.quiet_of_same (HCT.out _ (From.drewN (From.refl _) _))))
      have k5 : From w4 (w4.drewN nq) := From.drewN (From.refl _) nq
      generalize w4.drewN nq = w5 at *

      have M1 := N1.out.from k5
      have M2 := N2.out.from k5
      obtain ⟨a0, a1, a2, a3, a4, a5, a6, a7⟩ := M1.facts
      have a8 := M1.soft 6
      have a9 := M1.soft 7
      obtain ⟨b0, b1, b2, b3, b4, b5, b6, b7⟩ := M2.facts
      have c0 := M2.soft 0
      have c1 := M2.soft 1
      have c2 := M2.soft 2
      have c3 := M2.soft 3
      have c4 := M2.soft 4
      have c5 := M2.soft 5
      have c6 := M2.soft 6
      have c7 := M2.soft 7
      simp only at a0 a1 a2 a3 a4 a5 a6 a7 b0 b1 b2 b3 b4 b5 b6 b7
      clear M1 M2

      go_wp2_with fail
      refine (HCT.out _ k5).mono ?_
      rintro e wA ⟨rfl, rfl⟩

      go_wp2_with fail
      refine bodyPost_ret (v := .tuple #[.agg (mcs ⟨np, nl, nh, nn, no, ne, nps, false⟩ (.slice A5 nps.length e5)), .bool false, .bool true]) (by simp [results, Try.results59, go_sem, b0, b1, b2, b3, b4, b5, b6, b7]) rfl ⟨A5, e5, rfl, ?_, ?_⟩
      · exact SlN.low ((((HQN.out.from (by with_reducible assumption)).setCell (by omega) _ _).setCell (by omega) _ _).set8 (by omega) ⟨np, nl, nh, nn, no, ne, nps, false⟩ _) (by omega)
      · exact From.set8 (((HF.out.trans (by with_reducible assumption)).setCell (Nat.le_refl _) _ _).setCell (Nat.le_refl _) _ _) (by omega) ⟨np, nl, nh, nn, no, ne, nps, false⟩ _
    · have d5 : ((tq : Int) == 0) = false := by simp [hx]
      obtain rfl : up = false := by rw [HUP.out]; rfl
      obtain rfl : dn = false := by rw [HDN.out]; simp [hx]
      obtain rfl : nr = true := F2.out

      go_wp2_with fail
      go_quiet ((go_at_call 107; exact Calls.quiet_of_same (HCT.out _ (From.drewN (From.refl _) _))))
      have k5 : From w4 (w4.drewN nq) := From.drewN (From.refl _) nq
      generalize w4.drewN nq = w5 at *

      have M1 := N1.out.from k5
      have M2 := N2.out.from k5
      obtain ⟨a0, a1, a2, a3, a4, a5, a6, a7⟩ := M1.facts
      have a8 := M1.soft 6
      have a9 := M1.soft 7
      obtain ⟨b0, b1, b2, b3, b4, b5, b6, b7⟩ := M2.facts
      have c0 := M2.soft 0
      have c1 := M2.soft 1
      have c2 := M2.soft 2
      have c3 := M2.soft 3
      have c4 := M2.soft 4
      have c5 := M2.soft 5
      have c6 := M2.soft 6
      have c7 := M2.soft 7
      simp only at a0 a1 a2 a3 a4 a5 a6 a7 b0 b1 b2 b3 b4 b5 b6 b7
      clear M1 M2

      go_wp2_with fail
      refine (HCT.out _ k5).mono ?_
      rintro e wA ⟨rfl, rfl⟩

      go_wp2_with fail
      refine bodyPost_ret (v := .tuple #[.agg (mcs ⟨np, nl, nh, nn, no, ne, nps, true⟩ (.slice A5 nps.length e5)), .bool false, .bool false]) (by simp [results, Try.results59, go_sem, b0, b1, b2, b3, b4, b5, b6, b7]) rfl ⟨A5, e5, rfl, ?_, ?_⟩
      · exact SlN.low ((((HQN.out.from (by with_reducible assumption)).setCell (by omega) _ _).setCell (by omega) _ _).set8 (by omega) ⟨np, nl, nh, nn, no, ne, nps, true⟩ _) (by omega)
      · exact From.set8 (((HF.out.trans (by with_reducible assumption)).setCell (Nat.le_refl _) _ _).setCell (Nat.le_refl _) _ _) (by omega) ⟨np, nl, nh, nn, no, ne, nps, true⟩ _
end Go.Proofs.Ytlogokjjphlkkaa
