/-
  For all lists of numbers, the law MonitorForgets returns true, and its arguments read as before. No condition.
-/
import Derived.Test.YtlogokjjphlkkaaW18
import Derived.Test.YtlogokjjphlkkaaR3
namespace Go.Proofs.Ytlogokjjphlkkaa
open Go.ChangeShapes Go.WideShapes Go.ChangeAt Go.RowKit Go.Deep Go.Shelf

theorem lastN_two (a x : List Bool) (n : Nat) (h : n ≤ x.length) : lastN (a ++ x) n = lastN x n := by
  unfold lastN
  rw [List.length_append, show a.length + x.length - n = a.length + (x.length - n) by omega, ← List.drop_drop, List.drop_left]
theorem mon_eq {m n : Mon} (h : Like m n) (hp : n.past = m.past) (hr : n.raised = m.raised) : n = m := by
  obtain ⟨h1, h2, h3, h4, h5, h6⟩ := h
  cases m
  cases n
  simp_all
theorem forget_eq {m0 : Mon} (hg : GoodM m0) (hp : m0.past = []) (A B X : List Int) (hX : m0.of ≤ (X.length : Int)) (hr : (runM (runM m0 A) X).raised = (runM (runM m0 B) X).raised) : runM (runM m0 A) X = runM (runM m0 B) X := by
  have ho := hg.of
  have past : ∀ C, (runM (runM m0 C) X).past = lastN (X.map (outB m0)) m0.of.toNat := fun C => by
    rw [← runM_two, run_past m0 hp m0.of.toNat (by omega) (by omega), List.map_append, lastN_two _ _ _ (by rw [List.length_map]; omega)]
  refine mon_eq (m := runM (runM m0 B) X) (n := runM (runM m0 A) X) ?_ ((past A).trans (past B).symm) hr
  have h1 := like_run m0 (A ++ X)
  have h2 := like_run m0 (B ++ X)
  rw [runM_two] at h1 h2
  obtain ⟨a1, a2, a3, a4, a5, a6⟩ := h1
  obtain ⟨b1, b2, b3, b4, b5, b6⟩ := h2
  exact ⟨a1.trans b1.symm, a2.trans b2.symm, a3.trans b3.symm, a4.trans b4.symm, a5.trans b5.symm, a6.trans b6.symm⟩
set_option maxRecDepth 100000 in
set_option maxHeartbeats 8000000 in
theorem fgt_walk (A0 : Option Addr) (c0 : Nat) (l : List Int) (AA : Option Addr) (cA : Nat) (la : List Int) (AB : Option Addr) (cB : Nat) (lb : List Int) (AV : Option Addr) (cV : Nat) (lv : List Int) (w : World)
    (h : Ints w (.slice A0 l.length c0) l) (_ : l.length ≤ 9223372036854775807) (hx : ∀ x ∈ l, -9223372036854775808 ≤ x ∧ x ≤ 9223372036854775807) (_ : l.length ≤ c0)
    (ha : Ints w (.slice AA la.length cA) la) (_ : la.length ≤ 9223372036854775807) (_ : ∀ x ∈ la, -9223372036854775808 ≤ x ∧ x ≤ 9223372036854775807) (hac : la.length ≤ cA)
    (hb : Ints w (.slice AB lb.length cB) lb) (_ : lb.length ≤ 9223372036854775807) (_ : ∀ x ∈ lb, -9223372036854775808 ≤ x ∧ x ≤ 9223372036854775807) (hbc : lb.length ≤ cB)
    (hv : Ints w (.slice AV lv.length cV) lv) (_ : lv.length ≤ 9223372036854775807) (_ : ∀ x ∈ lv, -9223372036854775808 ≤ x ∧ x ≤ 9223372036854775807) (hvc : lv.length ≤ cV) :
    Calls Try.prog 16 #[.slice A0 l.length c0, .slice AA la.length cA, .slice AB lb.length cB, .slice AV lv.length cV] w fun e w' => e = .returned (.bool true) ∧ Below w.heap.size w w' := by
  obtain ⟨m0, hm0⟩ : ∃ m, makeM l = m := ⟨_, rfl⟩
  have hg : GoodM m0 := by rw [← hm0]; exact makeM_good l
  have hp : m0.past = [] := by rw [← hm0]; rfl
  have HMK := bx (makeM_calls A0 c0 l w h hx m0 hm0)
  have hsm0 : Small m0 := by unfold Small; rw [hp]; have := hg.of; simp; omega
  obtain ⟨xa, hxa⟩ : ∃ z, la.take 100 = z := ⟨_, rfl⟩
  obtain ⟨xb, hxb⟩ : ∃ z, lb.take 100 = z := ⟨_, rfl⟩
  obtain ⟨xv, hxv⟩ : ∃ z, lv.take 100 = z := ⟨_, rfl⟩
  have hla : xa.length ≤ 100 := by rw [← hxa, List.length_take]; omega
  have hlb : xb.length ≤ 100 := by rw [← hxb, List.length_take]; omega
  have hlv : xv.length ≤ 100 := by rw [← hxv, List.length_take]; omega
  have HA := bx (show Sl w w.heap.size (.slice AA xa.length cA) xa.length (ic xa) by rw [← hxa]; exact ints_take ha 100)
  have HB := bx (show Sl w w.heap.size (.slice AB xb.length cB) xb.length (ic xb) by rw [← hxb]; exact ints_take hb 100)
  have HV := bx (show Sl w w.heap.size (.slice AV xv.length cV) xv.length (ic xv) by rw [← hxv]; exact ints_take hv 100)
  have HFA := bx (fun (W : World) => few_calls AA cA la W hac xa.length (by rw [hxa]))
  have HFB := bx (fun (W : World) => few_calls AB cB lb W hbc xb.length (by rw [hxb]))
  have HFV := bx (fun (W : World) => few_calls AV cV lv W hvc xv.length (by rw [hxv]))
  obtain ⟨mA, hmA⟩ : ∃ z, runM m0 xa = z := ⟨_, rfl⟩
  obtain ⟨mB, hmB⟩ : ∃ z, runM m0 xb = z := ⟨_, rfl⟩
  obtain ⟨mE, hmE⟩ : ∃ z, runM mA xv = z := ⟨_, rfl⟩
  obtain ⟨nE, hnE⟩ : ∃ z, runM mB xv = z := ⟨_, rfl⟩
  have hsA : Small mA := by rw [← hmA]; exact small_run hsm0 _
  have hsB : Small mB := by rw [← hmB]; exact small_run hsm0 _
  have hsE : Small mE := by rw [← hmE]; exact small_run hsA _
  have HEQ := bx (fun (h1 : m0.of ≤ (xv.length : Int)) (h2 : mE.raised = nE.raised) => show mE = nE by
    have := forget_eq hg hp xa xb xv h1 (by rw [hmA, hmB, hmE, hnE]; exact h2)
    rwa [hmA, hmB, hmE, hnE] at this)
  have hpl : m0.past.length = 0 := by rw [hp]; rfl
  have HS1A := bx (fun (W : World) (Q : Nat → Prop) (hQ : ∀ b, W.heap.size ≤ b → Q b) (kk : From w W) => (show Calls Try.prog 64 #[.agg (mcs m0 (.slice none 0 0)), .slice AA xa.length cA] W (SeePost W Q mA) by
    have := see_calls Q m0 none 0 AA cA xa W hQ (by rw [hp]; exact ⟨.inl ⟨rfl, rfl, rfl⟩⟩) hsm0 (HA.out.from kk) hla mA hmA
    rwa [hpl] at this))
  have HS1B := bx (fun (W : World) (Q : Nat → Prop) (hQ : ∀ b, W.heap.size ≤ b → Q b) (kk : From w W) => (show Calls Try.prog 64 #[.agg (mcs m0 (.slice none 0 0)), .slice AB xb.length cB] W (SeePost W Q mB) by
    have := see_calls Q m0 none 0 AB cB xb W hQ (by rw [hp]; exact ⟨.inl ⟨rfl, rfl, rfl⟩⟩) hsm0 (HB.out.from kk) hlb mB hmB
    rwa [hpl] at this))
  have HS2A := bx (fun (W : World) (Q : Nat → Prop) (hQ : ∀ b, W.heap.size ≤ b → Q b) (A3 : Option Addr) (c3 : Nat) (hq : SlP Q W (.slice A3 mA.past.length c3) mA.past.length (bc mA.past)) (kk : From w W) => see_calls Q mA A3 c3 AV cV xv W hQ hq hsA (HV.out.from kk) hlv mE hmE)
  have HS2B := bx (fun (W : World) (Q : Nat → Prop) (hQ : ∀ b, W.heap.size ≤ b → Q b) (A3 : Option Addr) (c3 : Nat) (hq : SlP Q W (.slice A3 mB.past.length c3) mB.past.length (bc mB.past)) (kk : From w W) => see_calls Q mB A3 c3 AV cV xv W hQ hq hsB (HV.out.from kk) hlv nE hnE)
  have HSE := bx hsE
  have HPL := bx hpl
  clear hg hp hm0 h hx ha hb hv hxa hxb hxv hmA hmB hmE hnE hsm0 hsA hsB hsE hpl
  go_enter Try.func16, Try.ntmps16
  go_wp2_with fail
  refine HMK.out.mono ?_
  rintro e w1 ⟨rfl, k1⟩
  go_wp2_with fail
  refine (HFV.out _).mono ?_
  rintro e w2 ⟨rfl, rfl⟩
  obtain ⟨W0, hW0⟩ : ∃ V, w1.alloc (.cells (mcs m0 (.slice none 0 0)) 71) = V := ⟨_, rfl⟩
  have kW : From w W0 := by rw [← hW0]; exact From.alloc k1 _
  have HM0 := bx (show MonC W0 w1.heap.size m0 (.slice none 0 0) by rw [← hW0]; exact MonC.new w1 m0 _)
  rw [show w1.alloc (.cells #[.int .i64 m0.par, .int .i64 m0.low, .int .i64 m0.high, .int .i64 m0.need, .int .i64 m0.of, .int .i64 m0.ev, .slice none 0 0, .bool m0.raised] 71) = W0 from hW0]
  obtain ⟨a0, a1, a2, a3, a4, a5, a6, a7⟩ := HM0.out.facts
  clear hW0
  by_cases hof : (xv.length : Int) < m0.of
  · go_wp2_with fail
    refine (livesM_calls _).mono ?_
    rintro e w9 ⟨rfl, k9⟩
    go_wp2
    go_ret
    exact ⟨rfl, kW.trans k9⟩
  · replace HS1A := bx (fun (W : World) (Q : Nat → Prop) (hQ : ∀ b, W.heap.size ≤ b → Q b) (kk : From W0 W) => HS1A.out W Q hQ (kW.trans kk))
    replace HS2A := bx (fun (W : World) (Q : Nat → Prop) (hQ : ∀ b, W.heap.size ≤ b → Q b) (A3 : Option Addr) (c3 : Nat) (hq : SlP Q W (.slice A3 mA.past.length c3) mA.past.length (bc mA.past)) (kk : From W0 W) => HS2A.out W Q hQ A3 c3 hq (kW.trans kk))
    have HK := bx (fun (W : World) (kk : From W0 W) => (show From W0 W ∧ W.cell? ⟨w1.heap.size, 0, none⟩ = some (.int .i64 m0.par) ∧ W.cell? ⟨w1.heap.size, 1, none⟩ = some (.int .i64 m0.low) ∧ W.cell? ⟨w1.heap.size, 2, none⟩ = some (.int .i64 m0.high) ∧ W.cell? ⟨w1.heap.size, 3, none⟩ = some (.int .i64 m0.need) ∧ W.cell? ⟨w1.heap.size, 4, none⟩ = some (.int .i64 m0.of) ∧ W.cell? ⟨w1.heap.size, 5, none⟩ = some (.int .i64 m0.ev) ∧ W.cell? ⟨w1.heap.size, 6, none⟩ = some (.slice none 0 0) ∧ W.cell? ⟨w1.heap.size, 7, none⟩ = some (.bool m0.raised) from ⟨kk, kk.cell a0, kk.cell a1, kk.cell a2, kk.cell a3, kk.cell a4, kk.cell a5, kk.cell a6, kk.cell a7⟩))
    have hFF : From W0 W0 := From.refl _
    go_wp2_with fail
    refine region_cut (fun q0 a' w' => ∃ (x23 x24 x25 x26 x27 x28 : Value) (b : Nat) (A3 : Option Addr) (c3 : Nat), a' = puts q0 [(23, x23), (24, x24), (25, x25), (26, x26), (27, x27), (28, x28), (11, .pointer (some ⟨b, 0, none⟩))] ∧ From W0 w' ∧ MonC w' b mE (.slice A3 mE.past.length c3) ∧ Bools w' (.slice A3 mE.past.length c3) mE.past) (fun K' HKK => ?_) ?_
    · go_region_held3 (fun W => From W0 W ∧ W.cell? ⟨w1.heap.size, 0, none⟩ = some (.int .i64 m0.par) ∧ W.cell? ⟨w1.heap.size, 1, none⟩ = some (.int .i64 m0.low) ∧ W.cell? ⟨w1.heap.size, 2, none⟩ = some (.int .i64 m0.high) ∧ W.cell? ⟨w1.heap.size, 3, none⟩ = some (.int .i64 m0.need) ∧ W.cell? ⟨w1.heap.size, 4, none⟩ = some (.int .i64 m0.of) ∧ W.cell? ⟨w1.heap.size, 5, none⟩ = some (.int .i64 m0.ev) ∧ W.cell? ⟨w1.heap.size, 6, none⟩ = some (.slice none 0 0) ∧ W.cell? ⟨w1.heap.size, 7, none⟩ = some (.bool m0.raised))
        (first | (go_split_ands; with_reducible refine HK.out _ ?_; repeat' (first | with_reducible assumption | with_reducible exact Nat.le_refl _ | with_reducible refine From.drew ?_ | with_reducible refine From.alloc ?_ _ | with_reducible refine From.setCell ?_ ?_ _ _)))
        (first
          | (go_at_call 61; (with_reducible refine (HFA.out _).mono ?_); rintro e wF ⟨rfl, rfl⟩)
          | (go_at_call 64; (with_reducible refine (HS1A.out _ (fun b => b ≠ W0.heap.size) (by intro b hb; (try simp at hb); omega) (by go_split_ands; assumption)).mono ?_); rintro e w3 ⟨A3, c3, rfl, q3, k3⟩; have hkeep := From.trans (show From W0 _ by go_split_ands; assumption) k3; have hle3 := Below.size hkeep; have hlt3 : W0.heap.size < w3.heap.size := (by have hsz3 := Below.size k3; (try simp at hsz3); omega); have HRD : MonC w3 W0.heap.size ⟨0, 0, 0, 0, 0, 0, [], false⟩ (.slice none 0 0) := MonC.from (MonC.from (MonC.new W0 ⟨0, 0, 0, 0, 0, 0, [], false⟩ (.slice none 0 0)) (by repeat' (first | with_reducible exact From.refl _ | with_reducible refine From.drew ?_ | with_reducible refine From.alloc ?_ _))) k3; have t0 := HRD.soft 0; have t1 := HRD.soft 1; have t2 := HRD.soft 2; have t3 := HRD.soft 3; have t4 := HRD.soft 4; have t5 := HRD.soft 5; have t6 := HRD.soft 6; have t7 := HRD.soft 7; obtain ⟨s0, s1, s2, s3, s4, s5, s6, s7⟩ := HRD.facts)
          | (go_at_call 64; (with_reducible refine (HS1A.out _ (fun _ => True) (fun _ _ => trivial) (by go_split_ands; assumption)).mono ?_); rintro e w3 ⟨A3, c3, rfl, q3, k3⟩; have hkeep := From.trans (show From W0 _ by go_split_ands; assumption) k3; have hle3 := Below.size hkeep)
          | (go_at_call 64; (with_reducible refine (HS2A.out _ (fun b => b ≠ W0.heap.size) (by intro b hb; (try simp at hb); omega) _ _ (q3.from (by repeat' (first | with_reducible exact From.refl _ | with_reducible refine From.drew ?_ | with_reducible refine From.alloc ?_ _))) (by go_split_ands; assumption)).mono ?_); rintro e w4 ⟨A4, c4, rfl, q4, k4⟩; have hkeep4 := From.trans (show From W0 _ by go_split_ands; assumption) k4; have HRD4 : MonC w4 W0.heap.size ⟨0, 0, 0, 0, 0, 0, [], false⟩ (.slice none 0 0) := HRD.from (From.trans (show From w3 _ by repeat' (first | with_reducible exact From.refl _ | with_reducible refine From.drew ?_ | with_reducible refine From.alloc ?_ _)) k4); have v0 := HRD4.soft 0; have v1 := HRD4.soft 1; have v2 := HRD4.soft 2; have v3 := HRD4.soft 3; have v4 := HRD4.soft 4; have v5 := HRD4.soft 5; have v6 := HRD4.soft 6; have v7 := HRD4.soft 7; obtain ⟨r0, r1, r2, r3, r4, r5, r6, r7⟩ := HRD4.facts)
          | (go_at_call 64; (with_reducible refine (HS2A.out _ (fun b => b ≠ w3.heap.size) (by intro b hb; (try simp at hb); omega) _ _ ((q3.imp (fun b hb _ => by omega)).from (by repeat' (first | with_reducible exact From.refl _ | with_reducible refine From.drew ?_ | with_reducible refine From.alloc ?_ _))) (by go_split_ands; assumption)).mono ?_); rintro e w4 ⟨A4, c4, rfl, q4, k4⟩; have hkeep4 := From.trans (show From W0 _ by go_split_ands; assumption) k4; have HRD5 : MonC w4 w3.heap.size ⟨0, 0, 0, 0, 0, 0, [], false⟩ (.slice none 0 0) := MonC.from (MonC.from (MonC.new w3 ⟨0, 0, 0, 0, 0, 0, [], false⟩ (.slice none 0 0)) (by repeat' (first | with_reducible exact From.refl _ | with_reducible refine From.drew ?_ | with_reducible refine From.alloc ?_ _))) k4; have v0 := HRD5.soft 0; have v1 := HRD5.soft 1; have v2 := HRD5.soft 2; have v3 := HRD5.soft 3; have v4 := HRD5.soft 4; have v5 := HRD5.soft 5; have v6 := HRD5.soft 6; have v7 := HRD5.soft 7; obtain ⟨r0, r1, r2, r3, r4, r5, r6, r7⟩ := HRD5.facts)
          | (go_at_call 64; (with_reducible refine (HS2A.out _ (fun _ => True) (fun _ _ => trivial) _ _ ((q3.imp (fun _ _ _ => trivial)).from (by repeat' (first | with_reducible exact From.refl _ | with_reducible refine From.drew ?_ | with_reducible refine From.alloc ?_ _))) (by go_split_ands; assumption)).mono ?_); rintro e w4 ⟨A4, c4, rfl, q4, k4⟩; have hkeep4 := From.trans (show From W0 _ by go_split_ands; assumption) k4))
      all_goals first
        | (refine HKK.out _ _ ⟨_, _, _, _, _, _, w4.heap.size, A4, c4, (by simp only [puts, Act.put, List.setIfInBounds_toArray, List.set_cons_zero, List.set_cons_succ]; rfl), ?_, ?_, ?_⟩
           · with_reducible exact From.alloc hkeep4 _
           · with_reducible exact MonC.new w4 mE _
           · exact (q4.sl).from (From.alloc (From.refl _) _))
        | (refine HKK.out _ _ ⟨_, _, _, _, _, _, W0.heap.size, A4, c4, (by simp only [puts, Act.put, List.setIfInBounds_toArray, List.set_cons_zero, List.set_cons_succ]; rfl), ?_, ?_, ?_⟩
           · with_reducible exact From.set8 hkeep4 (Nat.le_refl _) mE _
           · with_reducible exact HRD4.set8 (m := mE)
           · have hq := (q4.set8 (fun h => h rfl) mE (.slice A4 mE.past.length c4)).sl
             with_reducible exact hq)
        | (refine HKK.out _ _ ⟨_, _, _, _, _, _, w3.heap.size, A4, c4, (by simp only [puts, Act.put, List.setIfInBounds_toArray, List.set_cons_zero, List.set_cons_succ]; rfl), ?_, ?_, ?_⟩
           · with_reducible exact From.set8 hkeep4 hle3 mE _
           · with_reducible exact HRD5.set8 (m := mE)
           · have hq := (q4.set8 (fun h => h rfl) mE (.slice A4 mE.past.length c4)).sl
             with_reducible exact hq)
    rintro a' w' ⟨x23, x24, x25, x26, x27, x28, xb, xA, xc, rfl, xk, xM, xS⟩
    rename_i K0 hK0
    apply hK0
    clear hK0
    simp only [puts, Act.put, List.setIfInBounds_toArray, List.set_cons_zero, List.set_cons_succ]

    rename World => W5
    have HX := bx xM
    have HXS := bx xS
    have hM05 := HM0.out.from xk
    clear a0 a1 a2 a3 a4 a5 a6 a7 xM xS
    obtain ⟨a0, a1, a2, a3, a4, a5, a6, a7⟩ := hM05.facts
    have kW5 := kW.trans xk
    replace HS1B := bx (fun (W : World) (Q : Nat → Prop) (hQ : ∀ b, W.heap.size ≤ b → Q b) (kk : From W5 W) => HS1B.out W Q hQ (kW5.trans kk))
    replace HS2B := bx (fun (W : World) (Q : Nat → Prop) (hQ : ∀ b, W.heap.size ≤ b → Q b) (A3 : Option Addr) (c3 : Nat) (hq : SlP Q W (.slice A3 mB.past.length c3) mB.past.length (bc mB.past)) (kk : From W5 W) => HS2B.out W Q hQ A3 c3 hq (kW5.trans kk))
    clear hM05

    have HK := bx (fun (W : World) (kk : From W5 W) => (show From W5 W ∧ W.cell? ⟨w1.heap.size, 0, none⟩ = some (.int .i64 m0.par) ∧ W.cell? ⟨w1.heap.size, 1, none⟩ = some (.int .i64 m0.low) ∧ W.cell? ⟨w1.heap.size, 2, none⟩ = some (.int .i64 m0.high) ∧ W.cell? ⟨w1.heap.size, 3, none⟩ = some (.int .i64 m0.need) ∧ W.cell? ⟨w1.heap.size, 4, none⟩ = some (.int .i64 m0.of) ∧ W.cell? ⟨w1.heap.size, 5, none⟩ = some (.int .i64 m0.ev) ∧ W.cell? ⟨w1.heap.size, 6, none⟩ = some (.slice none 0 0) ∧ W.cell? ⟨w1.heap.size, 7, none⟩ = some (.bool m0.raised) from ⟨kk, kk.cell a0, kk.cell a1, kk.cell a2, kk.cell a3, kk.cell a4, kk.cell a5, kk.cell a6, kk.cell a7⟩))
    have hFF : From W5 W5 := From.refl _
    go_wp2_with fail
    refine region_cut (fun q0 a' w' => ∃ (x29 x30 x31 x32 x33 x34 : Value) (b : Nat) (A3 : Option Addr) (c3 : Nat), a' = puts q0 [(29, x29), (30, x30), (31, x31), (32, x32), (33, x33), (34, x34), (12, .pointer (some ⟨b, 0, none⟩))] ∧ From W5 w' ∧ MonC w' b nE (.slice A3 nE.past.length c3) ∧ Bools w' (.slice A3 nE.past.length c3) nE.past) (fun K' HKK => ?_) ?_
    · go_region_held3 (fun W => From W5 W ∧ W.cell? ⟨w1.heap.size, 0, none⟩ = some (.int .i64 m0.par) ∧ W.cell? ⟨w1.heap.size, 1, none⟩ = some (.int .i64 m0.low) ∧ W.cell? ⟨w1.heap.size, 2, none⟩ = some (.int .i64 m0.high) ∧ W.cell? ⟨w1.heap.size, 3, none⟩ = some (.int .i64 m0.need) ∧ W.cell? ⟨w1.heap.size, 4, none⟩ = some (.int .i64 m0.of) ∧ W.cell? ⟨w1.heap.size, 5, none⟩ = some (.int .i64 m0.ev) ∧ W.cell? ⟨w1.heap.size, 6, none⟩ = some (.slice none 0 0) ∧ W.cell? ⟨w1.heap.size, 7, none⟩ = some (.bool m0.raised))
        (first | (go_split_ands; with_reducible refine HK.out _ ?_; repeat' (first | with_reducible assumption | with_reducible exact Nat.le_refl _ | with_reducible refine From.drew ?_ | with_reducible refine From.alloc ?_ _ | with_reducible refine From.setCell ?_ ?_ _ _)))
        (first
          | (go_at_call 61; (with_reducible refine (HFB.out _).mono ?_); rintro e wF ⟨rfl, rfl⟩)
          | (go_at_call 64; (with_reducible refine (HS1B.out _ (fun b => b ≠ W5.heap.size) (by intro b hb; (try simp at hb); omega) (by go_split_ands; assumption)).mono ?_); rintro e w3 ⟨A3, c3, rfl, q3, k3⟩; have hkeep := From.trans (show From W5 _ by go_split_ands; assumption) k3; have hle3 := Below.size hkeep; have hlt3 : W5.heap.size < w3.heap.size := (by have hsz3 := Below.size k3; (try simp at hsz3); omega); have HRD : MonC w3 W5.heap.size ⟨0, 0, 0, 0, 0, 0, [], false⟩ (.slice none 0 0) := MonC.from (MonC.from (MonC.new W5 ⟨0, 0, 0, 0, 0, 0, [], false⟩ (.slice none 0 0)) (by repeat' (first | with_reducible exact From.refl _ | with_reducible refine From.drew ?_ | with_reducible refine From.alloc ?_ _))) k3; have t0 := HRD.soft 0; have t1 := HRD.soft 1; have t2 := HRD.soft 2; have t3 := HRD.soft 3; have t4 := HRD.soft 4; have t5 := HRD.soft 5; have t6 := HRD.soft 6; have t7 := HRD.soft 7; obtain ⟨s0, s1, s2, s3, s4, s5, s6, s7⟩ := HRD.facts)
          | (go_at_call 64; (with_reducible refine (HS1B.out _ (fun _ => True) (fun _ _ => trivial) (by go_split_ands; assumption)).mono ?_); rintro e w3 ⟨A3, c3, rfl, q3, k3⟩; have hkeep := From.trans (show From W5 _ by go_split_ands; assumption) k3; have hle3 := Below.size hkeep)
          | (go_at_call 64; (with_reducible refine (HS2B.out _ (fun b => b ≠ W5.heap.size) (by intro b hb; (try simp at hb); omega) _ _ (q3.from (by repeat' (first | with_reducible exact From.refl _ | with_reducible refine From.drew ?_ | with_reducible refine From.alloc ?_ _))) (by go_split_ands; assumption)).mono ?_); rintro e w4 ⟨A4, c4, rfl, q4, k4⟩; have hkeep4 := From.trans (show From W5 _ by go_split_ands; assumption) k4; have HRD4 : MonC w4 W5.heap.size ⟨0, 0, 0, 0, 0, 0, [], false⟩ (.slice none 0 0) := HRD.from (From.trans (show From w3 _ by repeat' (first | with_reducible exact From.refl _ | with_reducible refine From.drew ?_ | with_reducible refine From.alloc ?_ _)) k4); have v0 := HRD4.soft 0; have v1 := HRD4.soft 1; have v2 := HRD4.soft 2; have v3 := HRD4.soft 3; have v4 := HRD4.soft 4; have v5 := HRD4.soft 5; have v6 := HRD4.soft 6; have v7 := HRD4.soft 7; obtain ⟨r0, r1, r2, r3, r4, r5, r6, r7⟩ := HRD4.facts)
          | (go_at_call 64; (with_reducible refine (HS2B.out _ (fun b => b ≠ w3.heap.size) (by intro b hb; (try simp at hb); omega) _ _ ((q3.imp (fun b hb _ => by omega)).from (by repeat' (first | with_reducible exact From.refl _ | with_reducible refine From.drew ?_ | with_reducible refine From.alloc ?_ _))) (by go_split_ands; assumption)).mono ?_); rintro e w4 ⟨A4, c4, rfl, q4, k4⟩; have hkeep4 := From.trans (show From W5 _ by go_split_ands; assumption) k4; have HRD5 : MonC w4 w3.heap.size ⟨0, 0, 0, 0, 0, 0, [], false⟩ (.slice none 0 0) := MonC.from (MonC.from (MonC.new w3 ⟨0, 0, 0, 0, 0, 0, [], false⟩ (.slice none 0 0)) (by repeat' (first | with_reducible exact From.refl _ | with_reducible refine From.drew ?_ | with_reducible refine From.alloc ?_ _))) k4; have v0 := HRD5.soft 0; have v1 := HRD5.soft 1; have v2 := HRD5.soft 2; have v3 := HRD5.soft 3; have v4 := HRD5.soft 4; have v5 := HRD5.soft 5; have v6 := HRD5.soft 6; have v7 := HRD5.soft 7; obtain ⟨r0, r1, r2, r3, r4, r5, r6, r7⟩ := HRD5.facts)
          | (go_at_call 64; (with_reducible refine (HS2B.out _ (fun _ => True) (fun _ _ => trivial) _ _ ((q3.imp (fun _ _ _ => trivial)).from (by repeat' (first | with_reducible exact From.refl _ | with_reducible refine From.drew ?_ | with_reducible refine From.alloc ?_ _))) (by go_split_ands; assumption)).mono ?_); rintro e w4 ⟨A4, c4, rfl, q4, k4⟩; have hkeep4 := From.trans (show From W5 _ by go_split_ands; assumption) k4))
      all_goals first
        | (refine HKK.out _ _ ⟨_, _, _, _, _, _, w4.heap.size, A4, c4, (by simp only [puts, Act.put, List.setIfInBounds_toArray, List.set_cons_zero, List.set_cons_succ]; rfl), ?_, ?_, ?_⟩
           · with_reducible exact From.alloc hkeep4 _
           · with_reducible exact MonC.new w4 nE _
           · exact (q4.sl).from (From.alloc (From.refl _) _))
        | (refine HKK.out _ _ ⟨_, _, _, _, _, _, W5.heap.size, A4, c4, (by simp only [puts, Act.put, List.setIfInBounds_toArray, List.set_cons_zero, List.set_cons_succ]; rfl), ?_, ?_, ?_⟩
           · with_reducible exact From.set8 hkeep4 (Nat.le_refl _) nE _
           · with_reducible exact HRD4.set8 (m := nE)
           · have hq := (q4.set8 (fun h => h rfl) nE (.slice A4 nE.past.length c4)).sl
             with_reducible exact hq)
        | (refine HKK.out _ _ ⟨_, _, _, _, _, _, w3.heap.size, A4, c4, (by simp only [puts, Act.put, List.setIfInBounds_toArray, List.set_cons_zero, List.set_cons_succ]; rfl), ?_, ?_, ?_⟩
           · with_reducible exact From.set8 hkeep4 hle3 nE _
           · with_reducible exact HRD5.set8 (m := nE)
           · have hq := (q4.set8 (fun h => h rfl) nE (.slice A4 nE.past.length c4)).sl
             with_reducible exact hq)
    rintro a' w' ⟨x29, x30, x31, x32, x33, x34, yb, yA, yc, rfl, yk, yM, yS⟩
    rename_i K0 hK0
    apply hK0
    clear hK0
    simp only [puts, Act.put, List.setIfInBounds_toArray, List.set_cons_zero, List.set_cons_succ]

    rename World => W6
    have hXM := HX.out.from yk
    have HXS6 := bx (HXS.out.from yk)
    have HYS6 := bx yS
    have kW6 := kW5.trans yk
    obtain ⟨g0, g1, g2, g3, g4, g5, g6, g7⟩ := hXM.facts
    obtain ⟨i0, i1, i2, i3, i4, i5, i6, i7⟩ := yM.facts
    clear hXM yM yS a0 a1 a2 a3 a4 a5 a6 a7
    by_cases hrr : mE.raised = nE.raised
    · have heq := HEQ.out (by omega) hrr
      subst heq
      have e1 : (mE.raised != mE.raised) = false := by simp
      have hp16 : mE.past.length ≤ 16 := by have := HSE.out; unfold Small at this; omega
      have HS7 := bx (fun (W : World) (A3 : Option Addr) (c3 : Nat) (hq : Bools W (.slice A3 mE.past.length c3) mE.past) (kk : From W6 W) => see_calls (fun _ => True) mE A3 c3 AA cA xa W (fun _ _ => trivial) (Sl.slp hq fun _ _ => trivial) HSE.out (HA.out.from (kW6.trans kk)) hla (runM mE xa) rfl)
      obtain ⟨mF, hmF⟩ : ∃ z, runM mE xa = z := ⟨_, rfl⟩
      rw [hmF] at HS7
      have hsF : Small mF := by rw [← hmF]; exact small_run HSE.out _
      have hf16 : mF.past.length ≤ 16 := by unfold Small at hsF; omega
      clear hmF hsF
      have HK := bx (fun (W : World) (kk : From W6 W) => (show From W6 W ∧ W.cell? ⟨xb, 0, none⟩ = some (.int .i64 mE.par) ∧ W.cell? ⟨xb, 1, none⟩ = some (.int .i64 mE.low) ∧ W.cell? ⟨xb, 2, none⟩ = some (.int .i64 mE.high) ∧ W.cell? ⟨xb, 3, none⟩ = some (.int .i64 mE.need) ∧ W.cell? ⟨xb, 4, none⟩ = some (.int .i64 mE.of) ∧ W.cell? ⟨xb, 5, none⟩ = some (.int .i64 mE.ev) ∧ W.cell? ⟨xb, 6, none⟩ = some (.slice xA mE.past.length xc) ∧ W.cell? ⟨xb, 7, none⟩ = some (.bool mE.raised) ∧ W.cell? ⟨yb, 0, none⟩ = some (.int .i64 mE.par) ∧ W.cell? ⟨yb, 1, none⟩ = some (.int .i64 mE.low) ∧ W.cell? ⟨yb, 2, none⟩ = some (.int .i64 mE.high) ∧ W.cell? ⟨yb, 3, none⟩ = some (.int .i64 mE.need) ∧ W.cell? ⟨yb, 4, none⟩ = some (.int .i64 mE.of) ∧ W.cell? ⟨yb, 5, none⟩ = some (.int .i64 mE.ev) ∧ W.cell? ⟨yb, 6, none⟩ = some (.slice yA mE.past.length yc) ∧ W.cell? ⟨yb, 7, none⟩ = some (.bool mE.raised) from ⟨kk, kk.cell g0, kk.cell g1, kk.cell g2, kk.cell g3, kk.cell g4, kk.cell g5, kk.cell g6, kk.cell g7, kk.cell i0, kk.cell i1, kk.cell i2, kk.cell i3, kk.cell i4, kk.cell i5, kk.cell i6, kk.cell i7⟩))
      have hFF : From W6 W6 := From.refl _
      go_wp2_with fail
      go_region_held3 (fun W => From W6 W ∧ W.cell? ⟨xb, 0, none⟩ = some (.int .i64 mE.par) ∧ W.cell? ⟨xb, 1, none⟩ = some (.int .i64 mE.low) ∧ W.cell? ⟨xb, 2, none⟩ = some (.int .i64 mE.high) ∧ W.cell? ⟨xb, 3, none⟩ = some (.int .i64 mE.need) ∧ W.cell? ⟨xb, 4, none⟩ = some (.int .i64 mE.of) ∧ W.cell? ⟨xb, 5, none⟩ = some (.int .i64 mE.ev) ∧ W.cell? ⟨xb, 6, none⟩ = some (.slice xA mE.past.length xc) ∧ W.cell? ⟨xb, 7, none⟩ = some (.bool mE.raised) ∧ W.cell? ⟨yb, 0, none⟩ = some (.int .i64 mE.par) ∧ W.cell? ⟨yb, 1, none⟩ = some (.int .i64 mE.low) ∧ W.cell? ⟨yb, 2, none⟩ = some (.int .i64 mE.high) ∧ W.cell? ⟨yb, 3, none⟩ = some (.int .i64 mE.need) ∧ W.cell? ⟨yb, 4, none⟩ = some (.int .i64 mE.of) ∧ W.cell? ⟨yb, 5, none⟩ = some (.int .i64 mE.ev) ∧ W.cell? ⟨yb, 6, none⟩ = some (.slice yA mE.past.length yc) ∧ W.cell? ⟨yb, 7, none⟩ = some (.bool mE.raised))
        (first | (go_split_ands; with_reducible refine HK.out _ ?_; repeat' (first | with_reducible assumption | with_reducible exact Nat.le_refl _ | with_reducible refine From.drew ?_ | with_reducible refine From.alloc ?_ _ | with_reducible refine From.setCell ?_ ?_ _ _)))
        (first
          | (go_at_call 61; (with_reducible refine (HFA.out _).mono ?_); rintro e wF ⟨rfl, rfl⟩)
          | (go_at_call 57; (with_reducible refine (livesM_calls _).mono ?_); rintro e w9 ⟨rfl, k9⟩; have hkeep9 := From.trans (show From W6 _ by go_split_ands; assumption) k9)
          | (go_at_call 60; (with_reducible refine (same29_calls mE xA yA xc yc _ (HXS6.out.from (by go_split_ands; assumption)) (HYS6.out.from (by go_split_ands; assumption)) (by omega)).mono ?_); rintro e wS ⟨rfl, kS⟩; have hkeepS := From.trans (show From W6 _ by go_split_ands; assumption) kS)
          | (go_at_call 64; (with_reducible refine (HS7.out _ xA xc (HXS6.out.from (by go_split_ands; assumption)) (by go_split_ands; assumption)).mono ?_); rintro e w7 ⟨A7, c7, rfl, q7, k7⟩; have hkeep7 := From.trans (show From W6 _ by go_split_ands; assumption) k7)
          | (go_at_call 64; (with_reducible refine (HS7.out _ yA yc (HYS6.out.from (by go_split_ands; assumption)) (by go_split_ands; assumption)).mono ?_); rintro e w8 ⟨A8, c8, rfl, q8, k8⟩; have hkeep8 := From.trans (show From W6 _ by go_split_ands; assumption) k8)
          | (go_at_call 60; (with_reducible refine (same29_calls mF A7 A8 c7 c8 _ (q7.sl.from (by repeat' (first | with_reducible assumption | with_reducible exact From.refl _ | with_reducible refine From.drew ?_ | with_reducible refine From.alloc ?_ _))) (q8.sl.from (by repeat' (first | with_reducible assumption | with_reducible exact From.refl _ | with_reducible refine From.drew ?_ | with_reducible refine From.alloc ?_ _))) (by omega)).mono ?_); rintro e wT ⟨rfl, kT⟩; have hkeepT := From.trans (show From W6 _ by go_split_ands; assumption) kT))
      all_goals
        go_wp2
        go_ret
        exact ⟨rfl, kW6.trans (by first | exact hkeep9 | exact hkeep9.drew)⟩
    · cases hra : mE.raised
      · cases hrb : nE.raised
        · exact absurd (hra.trans hrb.symm) hrr
        · rw [hra] at g7
          rw [hrb] at i7
          go_wp2_with fail
          refine (livesM_calls _).mono ?_
          rintro e w9 ⟨rfl, k9⟩
          go_wp2
          go_ret
          exact ⟨rfl, kW6.trans k9⟩
      · cases hrb : nE.raised
        · rw [hra] at g7
          rw [hrb] at i7
          go_wp2_with fail
          refine (livesM_calls _).mono ?_
          rintro e w9 ⟨rfl, k9⟩
          go_wp2
          go_ret
          exact ⟨rfl, kW6.trans k9⟩
        · exact absurd (hra.trans hrb.symm) hrr
set_option maxRecDepth 100000 in
theorem fgt_lifted (os : Os) (started : os.Started) (H : Type) (enc : TypeId × Value → H) :
    ReturnsInHanded {} Try.checked os 16 .any (Rows.monitorForgetsSpec.pre6 enc Try.prog Try.f16 Rows.monitorForgetsRow.domain false) (Rows.monitorForgetsSpec.post enc Try.prog Try.f16 false true false false) := by
  refine returnsInHanded_of_change (C := Try.checked) own started (by kernel_rfl) Try.func16
    (ChangeSpec.witness6 (enc := enc) (C := Try.checked) false ⟨#[], #[.slice none 0 0, .slice none 0 0, .slice none 0 0, .slice none 0 0], []⟩ 8 (by kernel_rfl) (by kernel_rfl) (by kernel_rfl) (by kernel_rfl)) ?_
  intro W base args ds gs before hval0 hW hcnd _
  have hval : ∀ (j : Nat) t v, Try.f16.params[j]? = some t → args[j]? = some v → Value.okWide Try.prog W .any base t v := hval0
  have hW' := hW
  obtain ⟨p, q, hA0, hV, rfl, hfz, hnd⟩ := hW
  have hA : DataW.TrodAll enc Try.prog W 0 (fun _ => true) true Try.f16.params.toList args.toList ds p := hA0
  rw [Try.params16] at hA hval
  obtain ⟨v0, vs0, d0, ds0, p0, q0, hargs, rfl, rfl, h0, r0⟩ := trodAll_cons hA
  obtain ⟨v1, vs1, d1, ds1, p1, q1, rfl, rfl, rfl, h1, r1⟩ := trodAll_cons r0
  obtain ⟨v2, vs2, d2, ds2, p2, q2, rfl, rfl, rfl, h2, r2⟩ := trodAll_cons r1
  obtain ⟨v3, vs3, d3, ds3, p3, q3, rfl, rfl, rfl, h3, r3⟩ := trodAll_cons r2
  obtain ⟨rfl, rfl, rfl⟩ := trodAll_nil r3
  obtain rfl : args = #[v0, v1, v2, v3] := by cases args; simp_all
  obtain ⟨rfl, rfl⟩ := trodVars_none hV
  obtain ⟨A0, c0, l0, rfl, hB0, hm0, hx0, hc0⟩ := open_intsc (hval 0 22 v0 rfl rfl) h0
  obtain ⟨A1, c1, l1, rfl, hB1, hm1, hx1, hc1⟩ := open_intsc (hval 1 22 v1 rfl rfl) h1
  obtain ⟨A2, c2, l2, rfl, hB2, hm2, hx2, hc2⟩ := open_intsc (hval 2 22 v2 rfl rfl) h2
  obtain ⟨A3, c3, l3, rfl, hB3, hm3, hx3, hc3⟩ := open_intsc (hval 3 22 v3 rfl rfl) h3
  refine (fgt_walk A0 c0 l0 A1 c1 l1 A2 c2 l2 A3 c3 l3 W hB0 hm0 hx0 hc0 hB1 hm1 hx1 hc1 hB2 hm2 hx2 hc2 hB3 hm3 hx3 hc3).mono fun e W' ⟨he, hb⟩ => ?_
  subst he
  exact ⟨_, rfl, law_post Try.laid (by kernel_rfl) rfl rfl Try.underlying4 rfl hW' hb⟩
theorem fgt_facts : joinedFacts Try.prog 16 Try.f16 Rows.monitorForgetsSpec Rows.monitorForgetsRow = true := by
  unfold joinedFacts
  rw [fact_enter, fact_lift, fact_make, fact_keys, fact_heard, fact_maps, Try.laid]
  kernel_rfl
theorem fgt_holds : Rows.MonitorForgetsSaid :=
  OpenClaim.holds_of_wide 16 Try.f16 rfl rfl rfl rfl rfl rfl rfl ⟨rfl, rfl, rfl, rfl, rfl⟩ rfl rfl rfl rfl rfl (by kernel_rfl) Try.func16 fgt_facts
    (of_decide_eq_true (by kernel_rfl)) (by unfold Func.isWrapper; first | (rw [if_pos (by decide +kernel)]; kernel_rfl) | (rw [if_neg (by decide +kernel)]; exact ⟨rfl, rfl⟩))
    (fun os started H enc _ => fgt_lifted os started H enc)
#print axioms fgt_holds
end Go.Proofs.Ytlogokjjphlkkaa
