/-
  For all monitors, numbers of parameters and lists of numbers, the law MonitorChecks returns true, and its arguments read as before. No condition.
-/
import Derived.Test.YtlogokjjphlkkaaW14
import Derived.Test.YtlogokjjphlkkaaR3
namespace Go.Proofs.Ytlogokjjphlkkaa
open Go.ChangeShapes Go.WideShapes Go.ChangeAt Go.RowKit Go.Deep Go.Shelf

theorem check_make (l : List Int) : checkM (makeM l) 6 = 0 := by
  have h := makeM_good l
  unfold checkM
  rw [if_neg (by have := h.par; have := h.low; have := h.high; have := h.need; have := h.of; have := h.ev; omega), if_neg (by have := h.of; show ¬ (makeM l).of < ((0 : Nat) : Int); omega)]
set_option maxRecDepth 100000 in
set_option maxHeartbeats 4000000 in
theorem chk_walk (m : Mon) (A : Option Addr) (c : Nat) (pr : Int) (A0 : Option Addr) (c0 : Nat) (l : List Int) (w : World)
    (_ : m.past.length ≤ 9223372036854775807) (_ : -9223372036854775808 ≤ pr) (_ : pr ≤ 9223372036854775807)
    (h : Ints w (.slice A0 l.length c0) l) (_ : l.length ≤ 9223372036854775807) (hx : ∀ x ∈ l, -9223372036854775808 ≤ x ∧ x ≤ 9223372036854775807) :
    Calls Try.prog 10 #[.agg (mcs m (.slice A m.past.length c)), .int .i64 pr, .slice A0 l.length c0] w fun e w' => e = .returned (.bool true) ∧ Below w.heap.size w w' := by
  obtain ⟨W1, hW1⟩ : ∃ V, w.alloc (.cells (mcs m (.slice A m.past.length c)) 71) = V := ⟨_, rfl⟩
  have k1 : From w W1 := by rw [← hW1]; exact From.alloc (From.refl _) _
  have M1 : MonC W1 w.heap.size m (.slice A m.past.length c) := by rw [← hW1]; exact MonC.new w m _
  obtain ⟨m0, hm0⟩ : ∃ z, makeM l = z := ⟨_, rfl⟩
  have HMK := bx (fun (W : World) (k : From W1 W) => makeM_calls A0 c0 l W (h.from (k1.trans k)) hx m0 hm0)
  obtain ⟨x, hx0⟩ : ∃ x, checkM m pr = x := ⟨_, rfl⟩
  have HC1 := bx (fun (W : World) => check_calls m A c pr W x hx0)
  have HC2 := bx (fun (W : World) => refCheck_calls m A c pr W x hx0)
  have hm0p : m0.past.length = 0 := by rw [← hm0]; rfl
  have HC3 := bx (fun (W : World) => (show Calls Try.prog 54 #[.agg (mcs m0 (.slice none 0 0)), .int .i64 6] W fun e w' => e = .returned (.int .i64 0) ∧ From W w' by
    have := check_calls m0 none 0 6 W 0 (by rw [← hm0]; exact check_make l)
    rwa [hm0p] at this))
  clear h hx hm0 hx0 hm0p
  have e1 : (x == x) = true := by simp
  obtain ⟨a0, a1, a2, a3, a4, a5, a6, a7⟩ := M1.facts
  clear M1
  obtain ⟨mp, ml, mh, mn, mo, me, mps, mr⟩ := m
  simp only at a0 a1 a2 a3 a4 a5 a6 a7
  have HK := bx (fun (W : World) (kk : From W1 W) => (show From W1 W ∧ W.cell? ⟨w.heap.size, 0, none⟩ = some (.int .i64 mp) ∧ W.cell? ⟨w.heap.size, 1, none⟩ = some (.int .i64 ml) ∧ W.cell? ⟨w.heap.size, 2, none⟩ = some (.int .i64 mh) ∧ W.cell? ⟨w.heap.size, 3, none⟩ = some (.int .i64 mn) ∧ W.cell? ⟨w.heap.size, 4, none⟩ = some (.int .i64 mo) ∧ W.cell? ⟨w.heap.size, 5, none⟩ = some (.int .i64 me) ∧ W.cell? ⟨w.heap.size, 6, none⟩ = some (.slice A mps.length c) ∧ W.cell? ⟨w.heap.size, 7, none⟩ = some (.bool mr) from ⟨kk, kk.cell a0, kk.cell a1, kk.cell a2, kk.cell a3, kk.cell a4, kk.cell a5, kk.cell a6, kk.cell a7⟩))
  have hFF : From W1 W1 := From.refl _
  go_enter Try.func10, Try.ntmps10
  go_wp2_with fail
  clear hW1
  go_region_held3 (fun W => From W1 W ∧ W.cell? ⟨w.heap.size, 0, none⟩ = some (.int .i64 mp) ∧ W.cell? ⟨w.heap.size, 1, none⟩ = some (.int .i64 ml) ∧ W.cell? ⟨w.heap.size, 2, none⟩ = some (.int .i64 mh) ∧ W.cell? ⟨w.heap.size, 3, none⟩ = some (.int .i64 mn) ∧ W.cell? ⟨w.heap.size, 4, none⟩ = some (.int .i64 mo) ∧ W.cell? ⟨w.heap.size, 5, none⟩ = some (.int .i64 me) ∧ W.cell? ⟨w.heap.size, 6, none⟩ = some (.slice A mps.length c) ∧ W.cell? ⟨w.heap.size, 7, none⟩ = some (.bool mr))
    (first | (go_split_ands; with_reducible refine HK.out _ ?_; repeat' (first | with_reducible assumption | with_reducible exact Nat.le_refl _ | with_reducible refine From.drew ?_ | with_reducible refine From.alloc ?_ _ | with_reducible refine From.setCell ?_ ?_ _ _)))
    (first | (go_at_call 54; (with_reducible refine (HC1.out _).mono ?_); rintro e w3 ⟨rfl, k3⟩; have hkeep := From.trans (show From W1 _ by go_split_ands; assumption) k3) | (go_at_call 54; (with_reducible refine (HC3.out _).mono ?_); rintro e w3 ⟨rfl, k3⟩; have hkeep := From.trans (show From W1 _ by go_split_ands; assumption) k3) | (go_at_call 55; (with_reducible refine (HC2.out _).mono ?_); rintro e w4 ⟨rfl, k4⟩; have hkeep := From.trans (show From W1 _ by go_split_ands; assumption) k4) | (go_at_call 56; (with_reducible refine (HMK.out _ (by go_split_ands; assumption)).mono ?_); rintro e w5 ⟨rfl, k5⟩; have hkeep := From.trans (show From W1 _ by go_split_ands; assumption) k5) | (go_at_call 57; (with_reducible refine (livesM_calls _).mono ?_); rintro e w6 ⟨rfl, k6⟩; have hkeep := From.trans (show From W1 _ by go_split_ands; assumption) k6))
  all_goals
    go_wp2
    go_ret
    exact ⟨rfl, k1.trans (by first | exact hkeep | exact hkeep.drew)⟩
set_option maxRecDepth 100000 in
theorem chk_lifted (os : Os) (started : os.Started) (H : Type) (enc : TypeId × Value → H) :
    ReturnsInHanded {} Try.checked os 10 .any (Rows.monitorChecksSpec.pre6 enc Try.prog Try.f10 Rows.monitorChecksRow.domain false) (Rows.monitorChecksSpec.post enc Try.prog Try.f10 false true false false) := by
  refine returnsInHanded_of_change (C := Try.checked) own started (by kernel_rfl) Try.func10
    (ChangeSpec.witness6 (enc := enc) (C := Try.checked) false ⟨#[], #[.agg #[.int .i64 0, .int .i64 0, .int .i64 0, .int .i64 0, .int .i64 0, .int .i64 0, .slice none 0 0, .bool false], .int .i64 0, .slice none 0 0], []⟩ 8 (by kernel_rfl) (by kernel_rfl) (by kernel_rfl) (by kernel_rfl)) ?_
  intro W base args ds gs before hval0 hW hcnd _
  have hval : ∀ (j : Nat) t v, Try.f10.params[j]? = some t → args[j]? = some v → Value.okWide Try.prog W .any base t v := hval0
  have hW' := hW
  obtain ⟨p, q, hA0, hV, rfl, hfz, hnd⟩ := hW
  have hA : DataW.TrodAll enc Try.prog W 0 (fun _ => true) true Try.f10.params.toList args.toList ds p := hA0
  rw [Try.params10] at hA hval
  obtain ⟨v0, vs0, d0, ds0, p0, q0, hargs, rfl, rfl, h0, r0⟩ := trodAll_cons hA
  obtain ⟨v1, vs1, d1, ds1, p1, q1, rfl, rfl, rfl, h1, r1⟩ := trodAll_cons r0
  obtain ⟨v2, vs2, d2, ds2, p2, q2, rfl, rfl, rfl, h2, r2⟩ := trodAll_cons r1
  obtain ⟨rfl, rfl, rfl⟩ := trodAll_nil r2
  obtain rfl : args = #[v0, v1, v2] := by cases args; simp_all
  obtain ⟨rfl, rfl⟩ := trodVars_none hV
  obtain ⟨m0, A0, c0, rfl, hm0⟩ := open_mon (hval 0 71 v0 rfl rfl) h0
  obtain ⟨a1, rfl, _, _, w1⟩ := open_int Try.underlying3 (hval 1 3 v1 rfl rfl) h1
  simp only [Lit.wf, Bool.and_eq_true, decide_eq_true_eq] at w1
  obtain ⟨A2, c2, l2, rfl, hB2, hm2, hx2⟩ := open_intsr (hval 2 22 v2 rfl rfl) h2
  refine (chk_walk m0 A0 c0 a1 A2 c2 l2 W hm0 w1.1 w1.2 hB2 hm2 hx2).mono fun e W' ⟨he, hb⟩ => ?_
  subst he
  exact ⟨_, rfl, law_post Try.laid (by kernel_rfl) rfl rfl Try.underlying4 rfl hW' hb⟩
theorem chk_facts : joinedFacts Try.prog 10 Try.f10 Rows.monitorChecksSpec Rows.monitorChecksRow = true := by
  unfold joinedFacts
  rw [fact_enter, fact_lift, fact_make, fact_keys, fact_heard, fact_maps, Try.laid]
  kernel_rfl
theorem chk_holds : Rows.MonitorChecksSaid :=
  OpenClaim.holds_of_wide 10 Try.f10 rfl rfl rfl rfl rfl rfl rfl ⟨rfl, rfl, rfl, rfl, rfl⟩ rfl rfl rfl rfl rfl (by kernel_rfl) Try.func10 chk_facts
    (of_decide_eq_true (by kernel_rfl)) (by unfold Func.isWrapper; first | (rw [if_pos (by decide +kernel)]; kernel_rfl) | (rw [if_neg (by decide +kernel)]; exact ⟨rfl, rfl⟩))
    (fun os started H enc _ => chk_lifted os started H enc)
#print axioms chk_holds
end Go.Proofs.Ytlogokjjphlkkaa
