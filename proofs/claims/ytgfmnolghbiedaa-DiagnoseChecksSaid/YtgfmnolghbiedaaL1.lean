/-
  For every graph of at most 20 units with at most 40 symptoms each, and lists of at most 40 numbers, the law DiagnoseChecks returns true, and its arguments read as before. No condition.
-/
import Derived.Test.YtgfmnolghbiedaaR1
import Derived.Test.YtgfmnolghbiedaaK29
namespace Go.Proofs.Ytgfmnolghbiedaa
open Go.ChangeShapes Go.WideShapes Go.ChangeAt Go.RowKit Go.Deep

theorem checkG_vals {n : Int} {sh : List (List Int)} {x : Int} (h : checkG n sh = x) (h0 : ¬ x = 0) : x = 2 ∨ x = 5 ∨ x = 23 := by
  unfold checkG at h
  repeat' split at h
  all_goals omega
set_option maxRecDepth 100000 in
set_option maxHeartbeats 4000000 in
theorem checks_walk (n : Int) (AG : Option Addr) (cG : Nat) (sh : List (List Int)) (AU : Option Addr) (cU : Nat) (us : List Int) (AS : Option Addr) (cS : Nat) (seen : List Int) (AC : Option Addr) (cC : Nat) (clear : List Int) (w : World)
    (hl : Lists w w.heap.size AG sh) (hn : sh.length ≤ 9223372036854775807) (h0 : Ints w w.heap.size AU us) (hm0 : us.length ≤ 9223372036854775807) (h1 : Ints w w.heap.size AS seen) (hm1 : seen.length ≤ 9223372036854775807) (h2 : Ints w w.heap.size AC clear) (hm2 : clear.length ≤ 9223372036854775807) :
    Calls Try.prog 3 #[.agg #[.int .i64 n, .slice AG sh.length cG], .slice AU us.length cU, .slice AS seen.length cS, .slice AC clear.length cC] w fun e w' => e = .returned (.bool true) ∧ Below w.heap.size w w' := by
  obtain ⟨W1, hW1⟩ : ∃ W1, w.alloc (.cells #[.int .i64 n, .slice AG sh.length cG] 24) = W1 := ⟨_, rfl⟩
  have hF1 : From w W1 := by rw [← hW1]; exact (Below.refl _ _).alloc (Nat.le_refl _) _
  have HG := bx (show GAt W1 w.heap.size n AG cG sh by rw [← hW1]; exact gat_new w n AG cG sh _)
  obtain ⟨g0, g1⟩ := HG.out
  by_cases hlen : 20 < sh.length
  · go_enter Try.func3, Try.ntmps3
    go_wp2_with fail
    refine (lives_calls _).mono ?_
    rintro e w9 ⟨rfl, hx⟩
    go_wp2
    go_ret
    exact ⟨rfl, hF1.trans hx⟩
  by_cases hs : us.length ≤ 40 ∧ seen.length ≤ 40 ∧ clear.length ≤ 40
  case neg =>
    have HS := bx (short_calls AU AS AC us.length cU seen.length cS clear.length cC W1 hm0 hm1 hm2 false (decide_eq_false hs))
    clear hs
    go_enter Try.func3, Try.ntmps3
    go_wp2_with fail
    refine HS.out.mono ?_
    rintro e w' ⟨rfl, rfl⟩
    go_wp2_with fail
    refine (lives_calls _).mono ?_
    rintro e w9 ⟨rfl, hx⟩
    go_wp2
    go_ret
    exact ⟨rfl, hF1.trans hx⟩
  have HS := bx (short_calls AU AS AC us.length cU seen.length cS clear.length cC W1 hm0 hm1 hm2 true (decide_eq_true hs))
  obtain ⟨x, hx⟩ : ∃ x, checkG n sh = x := ⟨_, rfl⟩
  have HX := bx hx
  have hL := hF1.lists hl
  have HGL := bx (hF1.lists hl)
  have HGU := bx (hF1.ints h0)
  have HGS := bx (hF1.ints h1)
  have HGC := bx (hF1.ints h2)
  clear hs hx
  go_enter Try.func3, Try.ntmps3
  go_wp2_with fail
  refine HS.out.mono ?_
  rintro e w' ⟨rfl, rfl⟩
  go_wp2
  clear hW1 hl h0 h1 h2
  go_loopw [9] (fun i wr => ∃ k : Nat, k ≤ sh.length ∧ i = .int .i64 k ∧ wr = W1) (fun i _ => sh.length - (intOf i).toNat)
  case atStart => exact ⟨0, Nat.zero_le _, rfl, rfl⟩
  case round =>
    obtain ⟨k, hk, rfl, hwr⟩ := hrel
    obtain rfl : W1 = wr := hwr.symm
    by_cases hlt : k < sh.length
    · obtain ⟨b, off, A', c', rfl, hb, q1, q2, q3⟩ := hL.at_ k hlt
      clear q2
      generalize sh[k].length = m at *
      have z1 : (k : Int) < (sh.length : Int) := by omega
      have z2 : (0 : Int) ≤ (k : Int) := by omega
      by_cases hm : 40 < m
      · go_wp2_with fail
        refine (lives_calls _).mono ?_
        rintro e w9 ⟨rfl, hx⟩
        go_wp2
        go_ret
        exact ⟨rfl, hF1.trans hx⟩
      · go_wp2
        go_roundw
        case rel => exact ⟨k + 1, by omega, by go_num, trivial⟩
        case measure => simp [intOf]; omega
    · obtain rfl : k = sh.length := by omega
      clear hL
      go_wp2_with fail
      refine (refCheck_calls n AG cG sh W1 HGL.out hn x HX.out).mono ?_
      rintro e W2 ⟨rfl, hx2⟩
      have k2 : From W1 W2 := hx2
      have HG2 := bx (HG.out.from k2)
      have hFF : From W2 W2 := Below.refl _ _
      have exx : (x == x) = true := by simp
      clear g0 g1
      obtain ⟨g0, g1⟩ := HG2.out
      by_cases hx0 : x = 0
      · subst hx0
        obtain ⟨y, hy⟩ : ∃ y, expl sh us seen clear = y := ⟨_, rfl⟩
        have HY := bx hy
        clear hy
        cases y
        · go_wp2_with fail
          go_region_held3 (fun w' => From W2 w' ∧ w'.cell? ⟨w.heap.size, 0, none⟩ = some (.int .i64 n) ∧ w'.cell? ⟨w.heap.size, 1, none⟩ = some (.slice AG sh.length cG))
            (first | exact HG2.out.keep (From.drew (by assumption)) | ((go_split_ands; exact HG2.out.keep (From.trans (by assumption) hx))))
            (first | (go_at_call 13; refine (check_calls n AG cG sh _ ((k2.trans (by go_split_ands; assumption)).lists HGL.out) hn 0 HX.out).mono ?_; rintro e w4 ⟨rfl, hx⟩) | (go_at_call 14; go_split_ands; refine (explains_calls n AG cG sh AU cU us AS cS seen AC cC clear _ ((k2.trans (by assumption)).lists HGL.out) hn ((k2.trans (by assumption)).ints HGU.out) hm0 ((k2.trans (by assumption)).ints HGS.out) hm1 ((k2.trans (by assumption)).ints HGC.out) hm2 false HY.out).mono ?_; rintro e w5 ⟨rfl, hx⟩) | (go_at_call 15; go_split_ands; refine (refExplains_calls n AG cG sh AU cU us AS cS seen AC cC clear _ ((k2.trans (by assumption)).lists HGL.out) hn ((k2.trans (by assumption)).ints HGU.out) hm0 ((k2.trans (by assumption)).ints HGS.out) hm1 ((k2.trans (by assumption)).ints HGC.out) hm2 false HY.out).mono ?_; rintro e w6 ⟨rfl, hx⟩) | (go_at_call 11; refine (lives_calls _).mono ?_; rintro e w8 ⟨rfl, hx⟩))
          go_wp2
          go_ret
          go_split_ands
          exact ⟨rfl, hF1.trans (k2.trans (by assumption))⟩
        · go_wp2_with fail
          go_region_held3 (fun w' => From W2 w' ∧ w'.cell? ⟨w.heap.size, 0, none⟩ = some (.int .i64 n) ∧ w'.cell? ⟨w.heap.size, 1, none⟩ = some (.slice AG sh.length cG))
            (first | exact HG2.out.keep (From.drew (by assumption)) | ((go_split_ands; exact HG2.out.keep (From.trans (by assumption) hx))))
            (first | (go_at_call 13; refine (check_calls n AG cG sh _ ((k2.trans (by go_split_ands; assumption)).lists HGL.out) hn 0 HX.out).mono ?_; rintro e w4 ⟨rfl, hx⟩) | (go_at_call 14; go_split_ands; refine (explains_calls n AG cG sh AU cU us AS cS seen AC cC clear _ ((k2.trans (by assumption)).lists HGL.out) hn ((k2.trans (by assumption)).ints HGU.out) hm0 ((k2.trans (by assumption)).ints HGS.out) hm1 ((k2.trans (by assumption)).ints HGC.out) hm2 true HY.out).mono ?_; rintro e w5 ⟨rfl, hx⟩) | (go_at_call 15; go_split_ands; refine (refExplains_calls n AG cG sh AU cU us AS cS seen AC cC clear _ ((k2.trans (by assumption)).lists HGL.out) hn ((k2.trans (by assumption)).ints HGU.out) hm0 ((k2.trans (by assumption)).ints HGS.out) hm1 ((k2.trans (by assumption)).ints HGC.out) hm2 true HY.out).mono ?_; rintro e w6 ⟨rfl, hx⟩) | (go_at_call 11; refine (lives_calls _).mono ?_; rintro e w8 ⟨rfl, hx⟩))
          go_wp2
          go_ret
          go_split_ands
          exact ⟨rfl, hF1.trans (k2.trans (by assumption))⟩
      · rcases checkG_vals HX.out hx0 with rfl | rfl | rfl
        · clear hx0
          go_wp2_with fail
          refine wp_region_held_drew (S := (fun w' => From W2 w' ∧ w'.cell? ⟨w.heap.size, 0, none⟩ = some (.int .i64 n) ∧ w'.cell? ⟨w.heap.size, 1, none⟩ = some (.slice AG sh.length cG))) (by kernel_rfl) (HG2.out.keep (From.drew hFF)) (fun hHeld => ?_)
          refine take_do (v := ?_) 0 40 rfl rfl (by kernel_rfl) (by kernel_rfl) (by kernel_rfl) (fun _ _ _ h => h) (by rfl) ?_ hHeld ?_
          rotate_left
          · ((intro w hSw; (try dsimp only at hSw); go_simp); all_goals (with_reducible rfl))
          simp only [List.setIfInBounds_toArray, List.set_cons_zero, List.set_cons_succ]
          refine take_do (v := ?_) 2 42 rfl rfl (by kernel_rfl) (by kernel_rfl) (by kernel_rfl) (fun _ _ _ h => h) (by rfl) ?_ hHeld ?_
          rotate_left
          · ((intro w hSw; (try dsimp only at hSw); go_simp); all_goals (with_reducible rfl))
          simp only [List.setIfInBounds_toArray, List.set_cons_zero, List.set_cons_succ]
          refine take_call 1 rfl (by kernel_rfl) (by rfl) (fun K hK => ?_)
          go_simp
          (go_at_call 13; refine (check_calls n AG cG sh _ ((k2.trans hHeld.1).lists HGL.out) hn 2 HX.out).mono ?_; rintro e w4 ⟨rfl, hx⟩)
          try go_wp2_with fail
          refine hK.out _ _ (HG2.out.keep (hHeld.1.trans hx)) (fun hHeld => ?_)
          clear hK K
          try simp only [Act.put, List.setIfInBounds_toArray, List.set_cons_zero, List.set_cons_succ]
          refine take_do (v := ?_) 3 43 rfl rfl (by kernel_rfl) (by kernel_rfl) (by kernel_rfl) (fun _ _ _ h => h) (by rfl) ?_ hHeld ?_
          rotate_left
          · ((intro w hSw; (try dsimp only at hSw); go_simp); all_goals (with_reducible rfl))
          simp only [List.setIfInBounds_toArray, List.set_cons_zero, List.set_cons_succ]
          refine take_do (v := ?_) 4 44 rfl rfl (by kernel_rfl) (by kernel_rfl) (by kernel_rfl) (fun _ _ _ h => h) (by rfl) ?_ hHeld ?_
          rotate_left
          · ((intro w hSw; (try dsimp only at hSw); go_simp); all_goals (with_reducible rfl))
          simp only [List.setIfInBounds_toArray, List.set_cons_zero, List.set_cons_succ]
          refine take_do (v := ?_) 5 45 rfl rfl (by kernel_rfl) (by kernel_rfl) (by kernel_rfl) (fun _ _ _ h => h) (by rfl) ?_ hHeld ?_
          rotate_left
          · ((intro w hSw; (try dsimp only at hSw); go_simp); all_goals (with_reducible rfl))
          simp only [List.setIfInBounds_toArray, List.set_cons_zero, List.set_cons_succ]
          refine take_do (v := ?_) 6 46 rfl rfl (by kernel_rfl) (by kernel_rfl) (by kernel_rfl) (fun _ _ _ h => h) (by rfl) ?_ hHeld ?_
          rotate_left
          · ((intro w hSw; (try dsimp only at hSw); go_simp); all_goals (with_reducible rfl))
          simp only [List.setIfInBounds_toArray, List.set_cons_zero, List.set_cons_succ]
          refine take_do (v := ?_) 7 47 rfl rfl (by kernel_rfl) (by kernel_rfl) (by kernel_rfl) (fun _ _ _ h => h) (by rfl) ?_ hHeld ?_
          rotate_left
          · ((intro w hSw; (try dsimp only at hSw); go_simp); all_goals (with_reducible rfl))
          simp only [List.setIfInBounds_toArray, List.set_cons_zero, List.set_cons_succ]
          refine take_skip 8 48 rfl rfl (by kernel_rfl) (by kernel_rfl) (by kernel_rfl) (fun _ _ _ h => h) (by rfl) hHeld ?_
          simp only [List.setIfInBounds_toArray, List.set_cons_zero, List.set_cons_succ]
          refine take_skip 9 49 rfl rfl (by kernel_rfl) (by kernel_rfl) (by kernel_rfl) (fun _ _ _ h => h) (by rfl) hHeld ?_
          simp only [List.setIfInBounds_toArray, List.set_cons_zero, List.set_cons_succ]
          refine take_skip 10 50 rfl rfl (by kernel_rfl) (by kernel_rfl) (by kernel_rfl) (fun _ _ _ h => h) (by rfl) hHeld ?_
          simp only [List.setIfInBounds_toArray, List.set_cons_zero, List.set_cons_succ]
          refine take_skip 11 51 rfl rfl (by kernel_rfl) (by kernel_rfl) (by kernel_rfl) (fun _ _ _ h => h) (by rfl) hHeld ?_
          simp only [List.setIfInBounds_toArray, List.set_cons_zero, List.set_cons_succ]
          refine take_skip 12 52 rfl rfl (by kernel_rfl) (by kernel_rfl) (by kernel_rfl) (fun _ _ _ h => h) (by rfl) hHeld ?_
          simp only [List.setIfInBounds_toArray, List.set_cons_zero, List.set_cons_succ]
          refine take_skip 13 53 rfl rfl (by kernel_rfl) (by kernel_rfl) (by kernel_rfl) (fun _ _ _ h => h) (by rfl) hHeld ?_
          simp only [List.setIfInBounds_toArray, List.set_cons_zero, List.set_cons_succ]
          refine take_skip 14 54 rfl rfl (by kernel_rfl) (by kernel_rfl) (by kernel_rfl) (fun _ _ _ h => h) (by rfl) hHeld ?_
          simp only [List.setIfInBounds_toArray, List.set_cons_zero, List.set_cons_succ]
          refine take_skip 15 55 rfl rfl (by kernel_rfl) (by kernel_rfl) (by kernel_rfl) (fun _ _ _ h => h) (by rfl) hHeld ?_
          simp only [List.setIfInBounds_toArray, List.set_cons_zero, List.set_cons_succ]
          refine take_skip 16 56 rfl rfl (by kernel_rfl) (by kernel_rfl) (by kernel_rfl) (fun _ _ _ h => h) (by rfl) hHeld ?_
          simp only [List.setIfInBounds_toArray, List.set_cons_zero, List.set_cons_succ]
          refine take_skip 17 57 rfl rfl (by kernel_rfl) (by kernel_rfl) (by kernel_rfl) (fun _ _ _ h => h) (by rfl) hHeld ?_
          simp only [List.setIfInBounds_toArray, List.set_cons_zero, List.set_cons_succ]
          refine take_skip 18 58 rfl rfl (by kernel_rfl) (by kernel_rfl) (by kernel_rfl) (fun _ _ _ h => h) (by rfl) hHeld ?_
          simp only [List.setIfInBounds_toArray, List.set_cons_zero, List.set_cons_succ]
          refine take_do (v := ?_) 19 59 rfl rfl (by kernel_rfl) (by kernel_rfl) (by kernel_rfl) (fun _ _ _ h => h) (by rfl) ?_ hHeld ?_
          rotate_left
          · ((intro w hSw; (try dsimp only at hSw); go_simp); all_goals (with_reducible rfl))
          simp only [List.setIfInBounds_toArray, List.set_cons_zero, List.set_cons_succ]
          refine take_do (v := ?_) 20 60 rfl rfl (by kernel_rfl) (by kernel_rfl) (by kernel_rfl) (fun _ _ _ h => h) (by rfl) ?_ hHeld ?_
          rotate_left
          · ((intro w hSw; (try dsimp only at hSw); go_simp); all_goals (with_reducible rfl))
          simp only [List.setIfInBounds_toArray, List.set_cons_zero, List.set_cons_succ]
          refine take_do (v := ?_) 21 61 rfl rfl (by kernel_rfl) (by kernel_rfl) (by kernel_rfl) (fun _ _ _ h => h) (by rfl) ?_ hHeld ?_
          rotate_left
          · ((intro w hSw; (try dsimp only at hSw); go_simp); all_goals (with_reducible rfl))
          simp only [List.setIfInBounds_toArray, List.set_cons_zero, List.set_cons_succ]
          refine take_call 22 rfl (by kernel_rfl) (by rfl) (fun K hK => ?_)
          go_simp
          (go_at_call 11; refine (lives_calls _).mono ?_; rintro e w8 ⟨rfl, hx⟩)
          try go_wp2_with fail
          refine hK.out _ _ (HG2.out.keep (hHeld.1.trans hx)) (fun hHeld => ?_)
          clear hK K
          try simp only [Act.put, List.setIfInBounds_toArray, List.set_cons_zero, List.set_cons_succ]
          refine take_do (v := ?_) 23 63 rfl rfl (by kernel_rfl) (by kernel_rfl) (by kernel_rfl) (fun _ _ _ h => h) (by rfl) ?_ hHeld ?_
          rotate_left
          · ((intro w hSw; (try dsimp only at hSw); go_simp); all_goals (with_reducible rfl))
          simp only [List.setIfInBounds_toArray, List.set_cons_zero, List.set_cons_succ]
          refine take_do (v := ?_) 24 8 rfl rfl (by kernel_rfl) (by kernel_rfl) (by kernel_rfl) (fun _ _ _ h => h) (by rfl) ?_ hHeld ?_
          rotate_left
          · ((intro w hSw; (try dsimp only at hSw); go_simp); all_goals (with_reducible rfl))
          simp only [List.setIfInBounds_toArray, List.set_cons_zero, List.set_cons_succ]
          refine wpAnyH_done (by kernel_rfl) ?_ _
          go_wp2
          go_ret
          exact ⟨rfl, hF1.trans (k2.trans hHeld.1)⟩
        · clear hx0
          go_wp2_with fail
          refine wp_region_held_drew (S := (fun w' => From W2 w' ∧ w'.cell? ⟨w.heap.size, 0, none⟩ = some (.int .i64 n) ∧ w'.cell? ⟨w.heap.size, 1, none⟩ = some (.slice AG sh.length cG))) (by kernel_rfl) (HG2.out.keep (From.drew hFF)) (fun hHeld => ?_)
          refine take_do (v := ?_) 0 40 rfl rfl (by kernel_rfl) (by kernel_rfl) (by kernel_rfl) (fun _ _ _ h => h) (by rfl) ?_ hHeld ?_
          rotate_left
          · ((intro w hSw; (try dsimp only at hSw); go_simp); all_goals (with_reducible rfl))
          simp only [List.setIfInBounds_toArray, List.set_cons_zero, List.set_cons_succ]
          refine take_do (v := ?_) 2 42 rfl rfl (by kernel_rfl) (by kernel_rfl) (by kernel_rfl) (fun _ _ _ h => h) (by rfl) ?_ hHeld ?_
          rotate_left
          · ((intro w hSw; (try dsimp only at hSw); go_simp); all_goals (with_reducible rfl))
          simp only [List.setIfInBounds_toArray, List.set_cons_zero, List.set_cons_succ]
          refine take_call 1 rfl (by kernel_rfl) (by rfl) (fun K hK => ?_)
          go_simp
          (go_at_call 13; refine (check_calls n AG cG sh _ ((k2.trans hHeld.1).lists HGL.out) hn 5 HX.out).mono ?_; rintro e w4 ⟨rfl, hx⟩)
          try go_wp2_with fail
          refine hK.out _ _ (HG2.out.keep (hHeld.1.trans hx)) (fun hHeld => ?_)
          clear hK K
          try simp only [Act.put, List.setIfInBounds_toArray, List.set_cons_zero, List.set_cons_succ]
          refine take_do (v := ?_) 3 43 rfl rfl (by kernel_rfl) (by kernel_rfl) (by kernel_rfl) (fun _ _ _ h => h) (by rfl) ?_ hHeld ?_
          rotate_left
          · ((intro w hSw; (try dsimp only at hSw); go_simp); all_goals (with_reducible rfl))
          simp only [List.setIfInBounds_toArray, List.set_cons_zero, List.set_cons_succ]
          refine take_do (v := ?_) 4 44 rfl rfl (by kernel_rfl) (by kernel_rfl) (by kernel_rfl) (fun _ _ _ h => h) (by rfl) ?_ hHeld ?_
          rotate_left
          · ((intro w hSw; (try dsimp only at hSw); go_simp); all_goals (with_reducible rfl))
          simp only [List.setIfInBounds_toArray, List.set_cons_zero, List.set_cons_succ]
          refine take_do (v := ?_) 5 45 rfl rfl (by kernel_rfl) (by kernel_rfl) (by kernel_rfl) (fun _ _ _ h => h) (by rfl) ?_ hHeld ?_
          rotate_left
          · ((intro w hSw; (try dsimp only at hSw); go_simp); all_goals (with_reducible rfl))
          simp only [List.setIfInBounds_toArray, List.set_cons_zero, List.set_cons_succ]
          refine take_do (v := ?_) 6 46 rfl rfl (by kernel_rfl) (by kernel_rfl) (by kernel_rfl) (fun _ _ _ h => h) (by rfl) ?_ hHeld ?_
          rotate_left
          · ((intro w hSw; (try dsimp only at hSw); go_simp); all_goals (with_reducible rfl))
          simp only [List.setIfInBounds_toArray, List.set_cons_zero, List.set_cons_succ]
          refine take_do (v := ?_) 7 47 rfl rfl (by kernel_rfl) (by kernel_rfl) (by kernel_rfl) (fun _ _ _ h => h) (by rfl) ?_ hHeld ?_
          rotate_left
          · ((intro w hSw; (try dsimp only at hSw); go_simp); all_goals (with_reducible rfl))
          simp only [List.setIfInBounds_toArray, List.set_cons_zero, List.set_cons_succ]
          refine take_skip 8 48 rfl rfl (by kernel_rfl) (by kernel_rfl) (by kernel_rfl) (fun _ _ _ h => h) (by rfl) hHeld ?_
          simp only [List.setIfInBounds_toArray, List.set_cons_zero, List.set_cons_succ]
          refine take_skip 9 49 rfl rfl (by kernel_rfl) (by kernel_rfl) (by kernel_rfl) (fun _ _ _ h => h) (by rfl) hHeld ?_
          simp only [List.setIfInBounds_toArray, List.set_cons_zero, List.set_cons_succ]
          refine take_skip 10 50 rfl rfl (by kernel_rfl) (by kernel_rfl) (by kernel_rfl) (fun _ _ _ h => h) (by rfl) hHeld ?_
          simp only [List.setIfInBounds_toArray, List.set_cons_zero, List.set_cons_succ]
          refine take_skip 11 51 rfl rfl (by kernel_rfl) (by kernel_rfl) (by kernel_rfl) (fun _ _ _ h => h) (by rfl) hHeld ?_
          simp only [List.setIfInBounds_toArray, List.set_cons_zero, List.set_cons_succ]
          refine take_skip 12 52 rfl rfl (by kernel_rfl) (by kernel_rfl) (by kernel_rfl) (fun _ _ _ h => h) (by rfl) hHeld ?_
          simp only [List.setIfInBounds_toArray, List.set_cons_zero, List.set_cons_succ]
          refine take_skip 13 53 rfl rfl (by kernel_rfl) (by kernel_rfl) (by kernel_rfl) (fun _ _ _ h => h) (by rfl) hHeld ?_
          simp only [List.setIfInBounds_toArray, List.set_cons_zero, List.set_cons_succ]
          refine take_skip 14 54 rfl rfl (by kernel_rfl) (by kernel_rfl) (by kernel_rfl) (fun _ _ _ h => h) (by rfl) hHeld ?_
          simp only [List.setIfInBounds_toArray, List.set_cons_zero, List.set_cons_succ]
          refine take_skip 15 55 rfl rfl (by kernel_rfl) (by kernel_rfl) (by kernel_rfl) (fun _ _ _ h => h) (by rfl) hHeld ?_
          simp only [List.setIfInBounds_toArray, List.set_cons_zero, List.set_cons_succ]
          refine take_skip 16 56 rfl rfl (by kernel_rfl) (by kernel_rfl) (by kernel_rfl) (fun _ _ _ h => h) (by rfl) hHeld ?_
          simp only [List.setIfInBounds_toArray, List.set_cons_zero, List.set_cons_succ]
          refine take_skip 17 57 rfl rfl (by kernel_rfl) (by kernel_rfl) (by kernel_rfl) (fun _ _ _ h => h) (by rfl) hHeld ?_
          simp only [List.setIfInBounds_toArray, List.set_cons_zero, List.set_cons_succ]
          refine take_skip 18 58 rfl rfl (by kernel_rfl) (by kernel_rfl) (by kernel_rfl) (fun _ _ _ h => h) (by rfl) hHeld ?_
          simp only [List.setIfInBounds_toArray, List.set_cons_zero, List.set_cons_succ]
          refine take_do (v := ?_) 19 59 rfl rfl (by kernel_rfl) (by kernel_rfl) (by kernel_rfl) (fun _ _ _ h => h) (by rfl) ?_ hHeld ?_
          rotate_left
          · ((intro w hSw; (try dsimp only at hSw); go_simp); all_goals (with_reducible rfl))
          simp only [List.setIfInBounds_toArray, List.set_cons_zero, List.set_cons_succ]
          refine take_do (v := ?_) 20 60 rfl rfl (by kernel_rfl) (by kernel_rfl) (by kernel_rfl) (fun _ _ _ h => h) (by rfl) ?_ hHeld ?_
          rotate_left
          · ((intro w hSw; (try dsimp only at hSw); go_simp); all_goals (with_reducible rfl))
          simp only [List.setIfInBounds_toArray, List.set_cons_zero, List.set_cons_succ]
          refine take_do (v := ?_) 21 61 rfl rfl (by kernel_rfl) (by kernel_rfl) (by kernel_rfl) (fun _ _ _ h => h) (by rfl) ?_ hHeld ?_
          rotate_left
          · ((intro w hSw; (try dsimp only at hSw); go_simp); all_goals (with_reducible rfl))
          simp only [List.setIfInBounds_toArray, List.set_cons_zero, List.set_cons_succ]
          refine take_call 22 rfl (by kernel_rfl) (by rfl) (fun K hK => ?_)
          go_simp
          (go_at_call 11; refine (lives_calls _).mono ?_; rintro e w8 ⟨rfl, hx⟩)
          try go_wp2_with fail
          refine hK.out _ _ (HG2.out.keep (hHeld.1.trans hx)) (fun hHeld => ?_)
          clear hK K
          try simp only [Act.put, List.setIfInBounds_toArray, List.set_cons_zero, List.set_cons_succ]
          refine take_do (v := ?_) 23 63 rfl rfl (by kernel_rfl) (by kernel_rfl) (by kernel_rfl) (fun _ _ _ h => h) (by rfl) ?_ hHeld ?_
          rotate_left
          · ((intro w hSw; (try dsimp only at hSw); go_simp); all_goals (with_reducible rfl))
          simp only [List.setIfInBounds_toArray, List.set_cons_zero, List.set_cons_succ]
          refine take_do (v := ?_) 24 8 rfl rfl (by kernel_rfl) (by kernel_rfl) (by kernel_rfl) (fun _ _ _ h => h) (by rfl) ?_ hHeld ?_
          rotate_left
          · ((intro w hSw; (try dsimp only at hSw); go_simp); all_goals (with_reducible rfl))
          simp only [List.setIfInBounds_toArray, List.set_cons_zero, List.set_cons_succ]
          refine wpAnyH_done (by kernel_rfl) ?_ _
          go_wp2
          go_ret
          exact ⟨rfl, hF1.trans (k2.trans hHeld.1)⟩
        · clear hx0
          go_wp2_with fail
          refine wp_region_held_drew (S := (fun w' => From W2 w' ∧ w'.cell? ⟨w.heap.size, 0, none⟩ = some (.int .i64 n) ∧ w'.cell? ⟨w.heap.size, 1, none⟩ = some (.slice AG sh.length cG))) (by kernel_rfl) (HG2.out.keep (From.drew hFF)) (fun hHeld => ?_)
          refine take_do (v := ?_) 0 40 rfl rfl (by kernel_rfl) (by kernel_rfl) (by kernel_rfl) (fun _ _ _ h => h) (by rfl) ?_ hHeld ?_
          rotate_left
          · ((intro w hSw; (try dsimp only at hSw); go_simp); all_goals (with_reducible rfl))
          simp only [List.setIfInBounds_toArray, List.set_cons_zero, List.set_cons_succ]
          refine take_do (v := ?_) 2 42 rfl rfl (by kernel_rfl) (by kernel_rfl) (by kernel_rfl) (fun _ _ _ h => h) (by rfl) ?_ hHeld ?_
          rotate_left
          · ((intro w hSw; (try dsimp only at hSw); go_simp); all_goals (with_reducible rfl))
          simp only [List.setIfInBounds_toArray, List.set_cons_zero, List.set_cons_succ]
          refine take_call 1 rfl (by kernel_rfl) (by rfl) (fun K hK => ?_)
          go_simp
          (go_at_call 13; refine (check_calls n AG cG sh _ ((k2.trans hHeld.1).lists HGL.out) hn 23 HX.out).mono ?_; rintro e w4 ⟨rfl, hx⟩)
          try go_wp2_with fail
          refine hK.out _ _ (HG2.out.keep (hHeld.1.trans hx)) (fun hHeld => ?_)
          clear hK K
          try simp only [Act.put, List.setIfInBounds_toArray, List.set_cons_zero, List.set_cons_succ]
          refine take_do (v := ?_) 3 43 rfl rfl (by kernel_rfl) (by kernel_rfl) (by kernel_rfl) (fun _ _ _ h => h) (by rfl) ?_ hHeld ?_
          rotate_left
          · ((intro w hSw; (try dsimp only at hSw); go_simp); all_goals (with_reducible rfl))
          simp only [List.setIfInBounds_toArray, List.set_cons_zero, List.set_cons_succ]
          refine take_do (v := ?_) 4 44 rfl rfl (by kernel_rfl) (by kernel_rfl) (by kernel_rfl) (fun _ _ _ h => h) (by rfl) ?_ hHeld ?_
          rotate_left
          · ((intro w hSw; (try dsimp only at hSw); go_simp); all_goals (with_reducible rfl))
          simp only [List.setIfInBounds_toArray, List.set_cons_zero, List.set_cons_succ]
          refine take_do (v := ?_) 5 45 rfl rfl (by kernel_rfl) (by kernel_rfl) (by kernel_rfl) (fun _ _ _ h => h) (by rfl) ?_ hHeld ?_
          rotate_left
          · ((intro w hSw; (try dsimp only at hSw); go_simp); all_goals (with_reducible rfl))
          simp only [List.setIfInBounds_toArray, List.set_cons_zero, List.set_cons_succ]
          refine take_do (v := ?_) 6 46 rfl rfl (by kernel_rfl) (by kernel_rfl) (by kernel_rfl) (fun _ _ _ h => h) (by rfl) ?_ hHeld ?_
          rotate_left
          · ((intro w hSw; (try dsimp only at hSw); go_simp); all_goals (with_reducible rfl))
          simp only [List.setIfInBounds_toArray, List.set_cons_zero, List.set_cons_succ]
          refine take_do (v := ?_) 7 47 rfl rfl (by kernel_rfl) (by kernel_rfl) (by kernel_rfl) (fun _ _ _ h => h) (by rfl) ?_ hHeld ?_
          rotate_left
          · ((intro w hSw; (try dsimp only at hSw); go_simp); all_goals (with_reducible rfl))
          simp only [List.setIfInBounds_toArray, List.set_cons_zero, List.set_cons_succ]
          refine take_skip 8 48 rfl rfl (by kernel_rfl) (by kernel_rfl) (by kernel_rfl) (fun _ _ _ h => h) (by rfl) hHeld ?_
          simp only [List.setIfInBounds_toArray, List.set_cons_zero, List.set_cons_succ]
          refine take_skip 9 49 rfl rfl (by kernel_rfl) (by kernel_rfl) (by kernel_rfl) (fun _ _ _ h => h) (by rfl) hHeld ?_
          simp only [List.setIfInBounds_toArray, List.set_cons_zero, List.set_cons_succ]
          refine take_skip 10 50 rfl rfl (by kernel_rfl) (by kernel_rfl) (by kernel_rfl) (fun _ _ _ h => h) (by rfl) hHeld ?_
          simp only [List.setIfInBounds_toArray, List.set_cons_zero, List.set_cons_succ]
          refine take_skip 11 51 rfl rfl (by kernel_rfl) (by kernel_rfl) (by kernel_rfl) (fun _ _ _ h => h) (by rfl) hHeld ?_
          simp only [List.setIfInBounds_toArray, List.set_cons_zero, List.set_cons_succ]
          refine take_skip 12 52 rfl rfl (by kernel_rfl) (by kernel_rfl) (by kernel_rfl) (fun _ _ _ h => h) (by rfl) hHeld ?_
          simp only [List.setIfInBounds_toArray, List.set_cons_zero, List.set_cons_succ]
          refine take_skip 13 53 rfl rfl (by kernel_rfl) (by kernel_rfl) (by kernel_rfl) (fun _ _ _ h => h) (by rfl) hHeld ?_
          simp only [List.setIfInBounds_toArray, List.set_cons_zero, List.set_cons_succ]
          refine take_skip 14 54 rfl rfl (by kernel_rfl) (by kernel_rfl) (by kernel_rfl) (fun _ _ _ h => h) (by rfl) hHeld ?_
          simp only [List.setIfInBounds_toArray, List.set_cons_zero, List.set_cons_succ]
          refine take_skip 15 55 rfl rfl (by kernel_rfl) (by kernel_rfl) (by kernel_rfl) (fun _ _ _ h => h) (by rfl) hHeld ?_
          simp only [List.setIfInBounds_toArray, List.set_cons_zero, List.set_cons_succ]
          refine take_skip 16 56 rfl rfl (by kernel_rfl) (by kernel_rfl) (by kernel_rfl) (fun _ _ _ h => h) (by rfl) hHeld ?_
          simp only [List.setIfInBounds_toArray, List.set_cons_zero, List.set_cons_succ]
          refine take_skip 17 57 rfl rfl (by kernel_rfl) (by kernel_rfl) (by kernel_rfl) (fun _ _ _ h => h) (by rfl) hHeld ?_
          simp only [List.setIfInBounds_toArray, List.set_cons_zero, List.set_cons_succ]
          refine take_skip 18 58 rfl rfl (by kernel_rfl) (by kernel_rfl) (by kernel_rfl) (fun _ _ _ h => h) (by rfl) hHeld ?_
          simp only [List.setIfInBounds_toArray, List.set_cons_zero, List.set_cons_succ]
          refine take_do (v := ?_) 19 59 rfl rfl (by kernel_rfl) (by kernel_rfl) (by kernel_rfl) (fun _ _ _ h => h) (by rfl) ?_ hHeld ?_
          rotate_left
          · ((intro w hSw; (try dsimp only at hSw); go_simp); all_goals (with_reducible rfl))
          simp only [List.setIfInBounds_toArray, List.set_cons_zero, List.set_cons_succ]
          refine take_do (v := ?_) 20 60 rfl rfl (by kernel_rfl) (by kernel_rfl) (by kernel_rfl) (fun _ _ _ h => h) (by rfl) ?_ hHeld ?_
          rotate_left
          · ((intro w hSw; (try dsimp only at hSw); go_simp); all_goals (with_reducible rfl))
          simp only [List.setIfInBounds_toArray, List.set_cons_zero, List.set_cons_succ]
          refine take_do (v := ?_) 21 61 rfl rfl (by kernel_rfl) (by kernel_rfl) (by kernel_rfl) (fun _ _ _ h => h) (by rfl) ?_ hHeld ?_
          rotate_left
          · ((intro w hSw; (try dsimp only at hSw); go_simp); all_goals (with_reducible rfl))
          simp only [List.setIfInBounds_toArray, List.set_cons_zero, List.set_cons_succ]
          refine take_call 22 rfl (by kernel_rfl) (by rfl) (fun K hK => ?_)
          go_simp
          (go_at_call 11; refine (lives_calls _).mono ?_; rintro e w8 ⟨rfl, hx⟩)
          try go_wp2_with fail
          refine hK.out _ _ (HG2.out.keep (hHeld.1.trans hx)) (fun hHeld => ?_)
          clear hK K
          try simp only [Act.put, List.setIfInBounds_toArray, List.set_cons_zero, List.set_cons_succ]
          refine take_do (v := ?_) 23 63 rfl rfl (by kernel_rfl) (by kernel_rfl) (by kernel_rfl) (fun _ _ _ h => h) (by rfl) ?_ hHeld ?_
          rotate_left
          · ((intro w hSw; (try dsimp only at hSw); go_simp); all_goals (with_reducible rfl))
          simp only [List.setIfInBounds_toArray, List.set_cons_zero, List.set_cons_succ]
          refine take_do (v := ?_) 24 8 rfl rfl (by kernel_rfl) (by kernel_rfl) (by kernel_rfl) (fun _ _ _ h => h) (by rfl) ?_ hHeld ?_
          rotate_left
          · ((intro w hSw; (try dsimp only at hSw); go_simp); all_goals (with_reducible rfl))
          simp only [List.setIfInBounds_toArray, List.set_cons_zero, List.set_cons_succ]
          refine wpAnyH_done (by kernel_rfl) ?_ _
          go_wp2
          go_ret
          exact ⟨rfl, hF1.trans (k2.trans hHeld.1)⟩
set_option maxRecDepth 100000 in
theorem checks_lifted (os : Os) (started : os.Started) (H : Type) (enc : TypeId × Value → H) :
    ReturnsInHanded {} Try.checked os 3 .any (Rows.diagnoseChecksSpec.pre6 enc Try.prog Try.f3 Rows.diagnoseChecksRow.domain false) (Rows.diagnoseChecksSpec.post enc Try.prog Try.f3 false true false false) := by
  refine returnsInHanded_of_change (C := Try.checked) own started (by kernel_rfl) Try.func3
    (ChangeSpec.witness6 (enc := enc) (C := Try.checked) false ⟨#[], #[.agg #[.int .i64 0, .slice none 0 0], .slice none 0 0, .slice none 0 0, .slice none 0 0], []⟩ 8 (by kernel_rfl) (by kernel_rfl) (by kernel_rfl) (by kernel_rfl)) ?_
  intro W base args ds gs before hval0 hW hcnd _
  have hval : ∀ (j : Nat) t v, Try.f3.params[j]? = some t → args[j]? = some v → Value.okWide Try.prog W .any base t v := hval0
  have hW' := hW
  obtain ⟨p, q, hA0, hV, rfl, hfz, hnd⟩ := hW
  have hA : DataW.TrodAll enc Try.prog W 0 (fun _ => true) true Try.f3.params.toList args.toList ds p := hA0
  rw [Try.params3] at hA hval
  obtain ⟨v0, vs0, d0, ds0, p0, q0, hargs, rfl, rfl, h0, r0⟩ := trodAll_cons hA
  obtain ⟨v1, vs1, d1, ds1, p1, q1, rfl, rfl, rfl, h1, r1⟩ := trodAll_cons r0
  obtain ⟨v2, vs2, d2, ds2, p2, q2, rfl, rfl, rfl, h2, r2⟩ := trodAll_cons r1
  obtain ⟨v3, vs3, d3, ds3, p3, q3, rfl, rfl, rfl, h3, r3⟩ := trodAll_cons r2
  obtain ⟨rfl, rfl, rfl⟩ := trodAll_nil r3
  obtain rfl : args = #[v0, v1, v2, v3] := by cases args; simp_all
  obtain ⟨rfl, rfl⟩ := trodVars_none hV
  obtain ⟨n0, A0, c0, l0, rfl, hB0, hm0⟩ := open_graphv (hval 0 24 v0 rfl rfl) h0
  obtain ⟨A1, c1, l1, rfl, hB1, hm1⟩ := open_intsv (hval 1 25 v1 rfl rfl) h1
  obtain ⟨A2, c2, l2, rfl, hB2, hm2⟩ := open_intsv (hval 2 25 v2 rfl rfl) h2
  obtain ⟨A3, c3, l3, rfl, hB3, hm3⟩ := open_intsv (hval 3 25 v3 rfl rfl) h3
  refine (checks_walk n0 A0 c0 l0 A1 c1 l1 A2 c2 l2 A3 c3 l3 W hB0 hm0 hB1 hm1 hB2 hm2 hB3 hm3).mono fun e W' ⟨he, hb⟩ => ?_
  subst he
  exact ⟨_, rfl, law_post Try.laid (by kernel_rfl) rfl rfl Try.underlying4 rfl hW' hb⟩
theorem checks_holds : Rows.DiagnoseChecksSaid :=
  OpenClaim.holds_of_wide 3 Try.f3 rfl rfl rfl rfl rfl rfl rfl ⟨rfl, rfl, rfl, rfl, rfl⟩ rfl rfl rfl rfl rfl (by kernel_rfl) Try.func3 (by kernel_rfl)
    (of_decide_eq_true (by kernel_rfl)) (by unfold Func.isWrapper; first | (rw [if_pos (by decide +kernel)]; kernel_rfl) | (rw [if_neg (by decide +kernel)]; exact ⟨rfl, rfl⟩))
    (fun os started H enc _ => checks_lifted os started H enc)
#print axioms checks_holds
end Go.Proofs.Ytgfmnolghbiedaa
