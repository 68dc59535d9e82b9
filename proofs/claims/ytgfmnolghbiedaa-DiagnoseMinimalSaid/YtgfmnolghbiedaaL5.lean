/-
  For every graph made of at most 12 units and all symptoms chosen by bits, the law DiagnoseMinimal returns true, and its arguments read as before. No condition.
-/
import Derived.Test.YtgfmnolghbiedaaR1
import Derived.Test.YtgfmnolghbiedaaK31
import Derived.Test.YtgfmnolghbiedaaK29
namespace Go.Proofs.Ytgfmnolghbiedaa
open Go.ChangeShapes Go.WideShapes Go.ChangeAt Go.RowKit Go.Deep

theorem from_cellsM {W w' : World} (h : From W w') {a : Addr} {v : Value} (hc : W.cell? a = some v) : w'.cell? a = some v := (h.cell (World.block_lt_of_cell? W _ hc)).trans hc
theorem slc_at {Y : World} {base c : Nat} {A : Option Addr} {ys : List Slc} (h : Y.ownsRow base 25 1 (.slice A ys.length c) ys.length (ys.map Slc.v)) (h0 : 0 < ys.length) :
    ∃ g, A = some ⟨g, 0, none⟩ ∧ g < Y.heap.size ∧ ∀ k (hk : k < ys.length), Y.cell? ⟨g, k, none⟩ = some (.slice ys[k].A ys[k].s.length ys[k].c) := by
  obtain ⟨g, cap, hv, _, hlt⟩ := h.form (by omega)
  have hA : A = some ⟨g, 0, none⟩ := by injection hv
  subst hA
  refine ⟨g, rfl, hlt, fun k hk => ?_⟩
  have c1 := h.cells (g := g) rfl k ys[k].v (by simp [hk])
  rw [show (Value.slice ys[k].A ys[k].s.length ys[k].c) = ys[k].v from rfl, ← c1]
  unfold Addr.add
  split
  · rename_i h0; rw [h0]
  · show Y.cell? ⟨g, k, none⟩ = Y.cell? ⟨g, 0 + k, none⟩; rw [Nat.zero_add]
set_option maxRecDepth 100000 in
set_option maxHeartbeats 4000000 in
theorem mini_walk (q : Int) (A : Option Addr) (c : Nat) (l : List Int) (x2 x3 y : Int) (w : World)
    (hq0 : 0 ≤ q) (hq1 : q ≤ 255) (h : Byts w w.heap.size A l) (hm : l.length ≤ 9223372036854775807) (a20 : 0 ≤ x2) (a21 : x2 ≤ 255) (a30 : 0 ≤ x3) (a31 : x3 ≤ 255) (hy0 : 0 ≤ y) (hy1 : y ≤ 65535) :
    Calls Try.prog 6 #[.int .u8 q, .slice A l.length c, .int .u8 x2, .int .u8 x3, .int .u16 y] w fun e w' => e = .returned (.bool true) ∧ Below w.heap.size w w' := by
  have HM := bx (madeG_calls q A c l 12 w h hm hq0 hq1 (by omega))
  have hn8 : (q % 9).toNat ≤ 8 := by omega
  obtain ⟨n, hn⟩ : ∃ n, (q % 9).toNat = n := ⟨_, rfl⟩
  rw [hn] at HM hn8
  have hshl := madeL_take_len l n 12
  obtain ⟨sh, hsh⟩ : ∃ sh, madeL (l.take 12) n = sh := ⟨_, rfl⟩
  rw [hsh] at HM hshl
  have hl2 := bitsN_le x2 n
  have hl3 := bitsN_le x3 n
  have hul := bitsN_le y sh.length
  have hus' := bitsN_sub y sh.length
  obtain ⟨us, hus⟩ : ∃ us, bitsN y sh.length = us := ⟨_, rfl⟩
  rw [hus] at hul hus'
  obtain ⟨s, hs⟩ : ∃ s, bitsN x2 n = s := ⟨_, rfl⟩
  obtain ⟨d, hd⟩ : ∃ d, bitsN x3 n = d := ⟨_, rfl⟩
  have HB2 := bx (fun W => bits_row x2 n W a20 (by omega) (by omega) s hs)
  have HB3 := bx (fun W => bits_row x3 n W a30 (by omega) (by omega) d hd)
  have HBU := bx (fun W => bits_row y sh.length W hy0 hy1 (by omega) us hus)
  rw [hs] at hl2
  rw [hd] at hl3
  have hal := allOf_le sh s d (by omega)
  obtain ⟨a, ha⟩ : ∃ a, (leastOf sh s d).getD [] = a := ⟨_, rfl⟩
  obtain ⟨b, hb⟩ : ∃ b, (leastOf sh s d).isSome = b := ⟨_, rfl⟩
  have HA := bx ha
  have HBB := bx hb
  have HLC := bx (least_cases sh s d)
  have HUS := bx hus'
  have e2 : IntKind.i64.wrap x2 = x2 := IntWalk.i64_in _ (by omega)
  have e3 : IntKind.i64.wrap x3 = x3 := IntWalk.i64_in _ (by omega)
  have e4 : IntKind.i64.wrap y = y := IntWalk.i64_in _ (by omega)
  clear hn hsh hs hd ha hb hus hus'
  go_enter Try.func6, Try.ntmps6
  go_wp2_with fail
  refine (show Calls Try.prog 16 #[.int .u8 q, .slice A l.length c, .int .i64 12] _ _ from HM.out).mono ?_
  rintro e X ⟨AG, cG, rfl, hL, hbX⟩
  have hF : From w X := hbX
  go_wp2_with fail
  obtain ⟨W0, hW0⟩ : ∃ W0, X.alloc (.cells #[.int .i64 n, .slice AG sh.length cG] 24) = W0 := ⟨_, rfl⟩
  have hX0 : From X W0 := by rw [← hW0]; exact (Below.refl _ _).alloc (Nat.le_refl _) _
  have HG := bx (show GAt W0 X.heap.size n AG cG sh by rw [← hW0]; exact gat_new X n AG cG sh _)
  have hF0 := hF.trans hX0
  rw [hW0]
  have hGL := bx (hX0.lists hL)
  clear hW0 hX0 hL hF hbX h
  have hFF : From W0 W0 := Below.refl _ _
  obtain ⟨g0, g1⟩ := HG.out
  go_region_held3 (fun w' => From W0 w' ∧ w'.cell? ⟨X.heap.size, 0, none⟩ = some (.int .i64 n) ∧ w'.cell? ⟨X.heap.size, 1, none⟩ = some (.slice AG sh.length cG))
    (first | exact HG.out.keep (From.drew (by assumption)) | ((go_split_ands; exact HG.out.keep (From.trans (by assumption) hx))))
    (first | (go_at_call 25; (with_reducible refine (HB2.out _).mono ?_); rintro e w4 ⟨A4, c4, rfl, hI4, hx⟩) | (go_at_call 25; (with_reducible refine (HB3.out _).mono ?_); rintro e w5 ⟨A5, c5, rfl, hI5, hx⟩))
  go_split_ands
  have k5 : From W0 w5 := by assumption
  have HIS5 := bx (From.ints hx (ints_of_own hI4))
  have HID5 := bx (ints_of_own hI5)
  have HG5 := bx (HG.out.from k5)
  have HL5 := bx (k5.lists hGL.out)
  have hF5 := hF0.trans k5
  clear hI4 hI5 hx g0 g1
  obtain ⟨g0, g1⟩ := HG5.out
  go_wp2_with fail
  refine (all_calls n AG cG sh A4 c4 s A5 c5 d w5 HL5.out (by omega) HIS5.out (by omega) HID5.out (by omega)).mono ?_
  rintro e w6 ⟨ys, AA, cA, hT, rfl, hoA, hoY, hx6⟩
  have k6 : From w5 w6 := hx6
  have hyl : ys.length ≤ 1048576 := by
    have : ys.length = (allOf sh s d).length := by rw [← hT, List.length_map]
    omega
  have HT := bx hT
  have HOA := bx hoA
  have HOY := bx hoY
  clear g0 g1 hx6 hT hoA hoY hal
  obtain ⟨g0, g1⟩ := HG5.out.from k6
  go_wp2_with fail
  refine (least_row n AG cG sh A4 c4 s A5 c5 d w6 (k6.lists HL5.out) (by omega) (k6.ints HIS5.out) (by omega) (k6.ints HID5.out) (by omega) a HA.out b HBB.out).mono ?_
  rintro e w7 ⟨A7, c7, rfl, ho7, k7⟩
  have HO7 := bx ho7
  have k57 := k6.trans k7
  clear g0 g1 ho7
  obtain ⟨g0, g1⟩ := HG5.out.from k57
  go_wp2_with fail
  refine (HBU.out w7).mono ?_
  rintro e w8 ⟨A8, c8, rfl, ho8, hx8⟩
  have k8 : From w7 w8 := hx8
  have k58 := k57.trans k8
  have k68 := k7.trans k8
  have HU8 := bx (ints_of_own ho8)
  have HI7 := bx (k8.ints (ints_of_own HO7.out))
  have HG8 := bx (HG5.out.from k58)
  have HL8 := bx (k58.lists HL5.out)
  have HS8 := bx (k58.ints HIS5.out)
  have HD8 := bx (k58.ints HID5.out)
  have HY8 := bx (fun y hy => own_from (HOY.out y hy) k68)
  have HA8 := bx (own_from HOA.out k68)
  have hF8 := hF5.trans k58
  clear g0 g1 hx8 ho8
  obtain ⟨g0, g1⟩ := HG8.out
  rcases HLC.out with ⟨r1, r2, r3⟩ | ⟨a', r, r1, r2, r3, r4⟩
  · have hb0 : b = false := by rw [← HBB.out, r1]; rfl
    subst hb0
    have hy0 : ys.length = 0 := by rw [← List.length_map (f := (·.s)), HT.out, r2]; rfl
    have HE := bx (explains_calls n AG cG sh A8 c8 us A4 c4 s A5 c5 d w8 HL8.out (by omega) HU8.out (by omega) HS8.out (by omega) HD8.out (by omega) false (r3 us HUS.out))
    clear r1 r2 r3
    rw [hy0]
    go_wp2_with fail
    refine HE.out.mono ?_
    rintro e w9 ⟨rfl, hx9⟩
    go_wp2_with fail
    refine (lives_calls _).mono ?_
    rintro e w10 ⟨rfl, hx10⟩
    go_wp2
    go_ret
    exact ⟨rfl, hF8.trans (From.trans hx9 hx10)⟩
  · have hb0 : b = true := by rw [← HBB.out, r1]; rfl
    subst hb0
    obtain rfl : a' = a := by have := HA.out; rw [r1] at this; exact this
    have hy0 : ys.length = r.length + 1 := by rw [← List.length_map (f := (·.s)), HT.out, r2]; rfl
    have HR4 := bx r4
    have hTT : ys.map (·.s) = a' :: r := by rw [HT.out, r2]
    obtain ⟨gA, rfl, hgA, hcA⟩ := slc_at HA8.out (by omega)
    have hy00 : 0 < ys.length := by omega
    have hys0 : ys[0].s = a' := by
      have := List.getElem_map (f := (fun y : Slc => y.s)) (l := ys) (i := 0) (h := by simpa using hy00)
      rw [← this]; simp [hTT]
    have HTT := bx (fun y (hy : y ∈ ys) => HR4.out y.s (by rw [← hTT]; exact List.mem_map_of_mem hy))
    have hc0 := hcA 0 hy00
    rw [hys0] at hc0
    have hi0 := ints_of_own (HY8.out ys[0] (List.getElem_mem hy00))
    rw [hys0] at hi0
    obtain ⟨A0, hA0⟩ : ∃ A0, ys[0].A = A0 := ⟨_, rfl⟩
    obtain ⟨c0, hc0'⟩ : ∃ c0, ys[0].c = c0 := ⟨_, rfl⟩
    rw [hA0] at hc0 hi0
    rw [hc0'] at hc0
    have HI0 := bx hi0
    have HCA := bx hcA
    have hy1' : ¬ (ys.length : Int) = 0 := by omega
    have hy2' : (0 : Int) < (ys.length : Int) := by omega
    have hal : a'.length ≤ 12 := by omega
    clear r1 r2 r4 hTT hA0 hc0' hys0 hi0 hcA
    go_wp2_with fail
    refine (sameI_val A0 A7 c0 c7 a' a' w8 HI0.out HI7.out (by omega) true (by simp)).mono ?_
    rintro e w9 ⟨rfl, hx9⟩
    have k9 : From w8 w9 := hx9
    have HG9 := bx (HG8.out.from k9)
    clear g0 g1
    go_wp2
    go_loopw [18, 19] (fun i _ wr => ∃ k : Nat, k ≤ ys.length ∧ i = .int .i64 k ∧ From w9 wr) (fun i _ _ => ys.length - (intOf i).toNat)
    case atStart => exact ⟨0, Nat.zero_le _, rfl, Below.refl _ _⟩
    case round =>
      obtain ⟨k, hk, rfl, hbw⟩ := hrel
      have hbw8 := k9.trans hbw
      obtain ⟨wq, rfl⟩ : ∃ W : World, W = wr := ⟨_, rfl⟩
      by_cases hlt : k < ys.length
      · have q1 := from_cellsM hbw8 (HCA.out k hlt)
        have hyo := own_from (HY8.out ys[k] (List.getElem_mem hlt)) hbw8
        have HSM := bx (HTT.out ys[k] (List.getElem_mem hlt))
        have hle := HSM.out.len
        obtain ⟨t, ht⟩ : ∃ t, ys[k].s = t := ⟨_, rfl⟩
        have hyo' : wq.ownsRow w5.heap.size 3 1 (.slice ys[k].A ys[k].s.length ys[k].c) ys[k].s.length (ic ys[k].s) := hyo
        rw [ht] at q1 HSM hle hyo'
        generalize ys[k].A = Ay at *
        generalize ys[k].c = cy at *
        rw [hle] at q1
        have HO := bx hyo'
        have z1 : (k : Int) < (ys.length : Int) := by omega
        have z2 : (0 : Int) ≤ (k : Int) := by omega
        have HEX := bx (fun (W : World) (kW : From wq W) => (show Calls Try.prog 14 #[.agg #[.int .i64 n, .slice AG sh.length cG], .slice Ay a'.length cy, .slice A4 s.length c4, .slice A5 d.length c5] W fun e w' => e = .returned (.bool true) ∧ Below W.heap.size W w' by
          have := explains_calls n AG cG sh Ay cy t A4 c4 s A5 c5 d W ((hbw8.trans kW).lists HL8.out) (by omega) (ints_of_own (own_from HO.out kW)) (by omega) ((hbw8.trans kW).ints HS8.out) (by omega) ((hbw8.trans kW).ints HD8.out) (by omega) true HSM.out.ex
          rw [hle] at this
          exact this))
        have HGq := bx (HG9.out.from hbw)
        have HK := bx (fun (W : World) (kW : From wq W) => (show From wq W ∧ W.cell? ⟨X.heap.size, 0, none⟩ = some (.int .i64 n) ∧ W.cell? ⟨X.heap.size, 1, none⟩ = some (.slice AG sh.length cG) ∧ W.cell? ⟨gA, k, none⟩ = some (.slice Ay a'.length cy) from ⟨kW, (HGq.out.from kW).c0, (HGq.out.from kW).c1, from_cellsM kW q1⟩))
        have hFq : From wq wq := Below.refl _ _
        obtain ⟨g0, g1⟩ := HGq.out
        clear hyo hyo' ht
        go_wp2_with fail
        go_region_held3 (fun w' => From wq w' ∧ w'.cell? ⟨X.heap.size, 0, none⟩ = some (.int .i64 n) ∧ w'.cell? ⟨X.heap.size, 1, none⟩ = some (.slice AG sh.length cG) ∧ w'.cell? ⟨gA, k, none⟩ = some (.slice Ay a'.length cy))
          (first | exact HK.out _ (From.drew (by assumption)) | ((go_split_ands; exact HK.out _ (From.trans (by assumption) hx))))
          (first | (go_at_call 14; go_split_ands; (with_reducible refine (HEX.out _ (by assumption)).mono ?_); rintro e wb ⟨rfl, hx⟩))
        go_split_ands
        have kb : From wq wb := by assumption
        clear g0 g1
        go_wp2
        go_loopw [19] (fun i wr' => ∃ m : Nat, m ≤ a'.length ∧ i = .int .i64 m ∧ From wb wr') (fun i _ => a'.length - (intOf i).toNat)
        case atStart => exact ⟨0, Nat.zero_le _, rfl, Below.refl _ _⟩
        case round =>
          obtain ⟨m, hm3, rfl, hbw3⟩ := hrel
          have kz := kb.trans hbw3
          obtain ⟨wz, rfl⟩ : ∃ W : World, W = wr := ⟨_, rfl⟩
          obtain ⟨_, g0, g1, p1⟩ := HK.out wz kz
          by_cases hlt3 : m < a'.length
          · have hex := HSM.out.without (i := m) (by omega)
            obtain ⟨yv, hyv⟩ : ∃ yv, t.take m ++ t.drop (m + 1) = yv := ⟨_, rfl⟩
            have hyl2 : yv.length ≤ 12 := by rw [← hyv, List.length_append, List.length_take, List.length_drop]; omega
            rw [hyv] at hex
            obtain ⟨h, cap, hv, _, _⟩ := (own_from HO.out kz).form (by omega)
            obtain ⟨rfl, rfl⟩ : Ay = some ⟨h, 0, none⟩ ∧ cy = cap := by injection hv with h1 h2 h3; exact ⟨h1, h3⟩
            have hoat := (own_at (own_from HO.out kz)).1
            have HW := bx (fun (W : World) (kW : From wz W) (j : Int) (hj : j = (m : Int)) => (show Calls Try.prog 26 #[.slice (some ⟨h, 0, none⟩) a'.length cy, .int .i64 j] W (RowPost W yv) by
              subst hj
              have := without_calls (some ⟨h, 0, none⟩) cy t m _ W (own_from HO.out (kz.trans kW)) (by omega) (by omega)
              rw [hyv, hle] at this
              exact this))
            have HE2 := bx (fun (W : World) (Aa : Option Addr) (ca : Nat) (kW : From wz W) (Bk : Nat) (ia : W.ownsRow Bk 3 1 (.slice Aa yv.length ca) yv.length (ic yv)) => explains_calls n AG cG sh Aa ca yv A4 c4 s A5 c5 d W (((hbw8.trans kz).trans kW).lists HL8.out) (by omega) (ints_of_own ia) (by omega) (((hbw8.trans kz).trans kW).ints HS8.out) (by omega) (((hbw8.trans kz).trans kW).ints HD8.out) (by omega) false hex)
            have HK4 := bx (fun (W : World) (kW : From wz W) => (show From wz W ∧ W.cell? ⟨X.heap.size, 0, none⟩ = some (.int .i64 n) ∧ W.cell? ⟨X.heap.size, 1, none⟩ = some (.slice AG sh.length cG) ∧ W.cell? ⟨gA, k, none⟩ = some (.slice (some ⟨h, 0, none⟩) a'.length cy) from ⟨kW, (HK.out W (kz.trans kW)).2⟩))
            have hFz : From wz wz := Below.refl _ _
            have y1 : (m : Int) < (a'.length : Int) := by omega
            have y2 : (0 : Int) ≤ (m : Int) := by omega
            have HM3 := bx hbw3
            clear hyv hv hex
            cases m with
            | zero =>
              clear hoat
              go_wp2_with fail
              refine wp_region_held_drew (S := (fun w' => From wz w' ∧ w'.cell? ⟨X.heap.size, 0, none⟩ = some (.int .i64 n) ∧ w'.cell? ⟨X.heap.size, 1, none⟩ = some (.slice AG sh.length cG) ∧ w'.cell? ⟨gA, k, none⟩ = some (.slice (some ⟨h, 0, none⟩) a'.length cy))) (by kernel_rfl) (HK4.out _ (From.drew hFz)) (fun hHeld => ?_)
              refine take_do (v := ?_) 0 111 rfl rfl (by kernel_rfl) (by kernel_rfl) (by kernel_rfl) (fun _ _ _ h => h) (by rfl) ?_ hHeld ?_
              rotate_left
              · ((intro w hSw; (try dsimp only at hSw); go_simp); all_goals (with_reducible rfl))
              simp only [List.setIfInBounds_toArray, List.set_cons_zero, List.set_cons_succ]
              refine take_do (v := ?_) 1 112 rfl rfl (by kernel_rfl) (by kernel_rfl) (by kernel_rfl) (fun _ _ _ h => h) (by rfl) ?_ hHeld ?_
              rotate_left
              · ((intro w hSw; (try dsimp only at hSw); go_simp); all_goals (with_reducible rfl))
              simp only [List.setIfInBounds_toArray, List.set_cons_zero, List.set_cons_succ]
              refine take_do (v := ?_) 2 113 rfl rfl (by kernel_rfl) (by kernel_rfl) (by kernel_rfl) (fun _ _ _ h => h) (by rfl) ?_ hHeld ?_
              rotate_left
              · ((intro w hSw; (try dsimp only at hSw); go_simp); all_goals (with_reducible rfl))
              simp only [List.setIfInBounds_toArray, List.set_cons_zero, List.set_cons_succ]
              refine take_do (v := ?_) 3 114 rfl rfl (by kernel_rfl) (by kernel_rfl) (by kernel_rfl) (fun _ _ _ h => h) (by rfl) ?_ hHeld ?_
              rotate_left
              · ((intro w hSw; (try dsimp only at hSw); go_simp); all_goals (with_reducible rfl))
              simp only [List.setIfInBounds_toArray, List.set_cons_zero, List.set_cons_succ]
              refine take_do (v := ?_) 4 115 rfl rfl (by kernel_rfl) (by kernel_rfl) (by kernel_rfl) (fun _ _ _ h => h) (by rfl) ?_ hHeld ?_
              rotate_left
              · ((intro w hSw; (try dsimp only at hSw); go_simp); all_goals (with_reducible rfl))
              simp only [List.setIfInBounds_toArray, List.set_cons_zero, List.set_cons_succ]
              refine take_do (v := ?_) 5 116 rfl rfl (by kernel_rfl) (by kernel_rfl) (by kernel_rfl) (fun _ _ _ h => h) (by rfl) ?_ hHeld ?_
              rotate_left
              · ((intro w hSw; (try dsimp only at hSw); go_simp); all_goals (with_reducible rfl))
              simp only [List.setIfInBounds_toArray, List.set_cons_zero, List.set_cons_succ]
              refine take_do (v := ?_) 7 118 rfl rfl (by kernel_rfl) (by kernel_rfl) (by kernel_rfl) (fun _ _ _ h => h) (by rfl) ?_ hHeld ?_
              rotate_left
              · ((intro w hSw; (try dsimp only at hSw); go_simp); all_goals (with_reducible rfl))
              simp only [List.setIfInBounds_toArray, List.set_cons_zero, List.set_cons_succ]
              refine take_do (v := ?_) 8 119 rfl rfl (by kernel_rfl) (by kernel_rfl) (by kernel_rfl) (fun _ _ _ h => h) (by rfl) ?_ hHeld ?_
              rotate_left
              · ((intro w hSw; (try dsimp only at hSw); go_simp); all_goals (with_reducible rfl))
              simp only [List.setIfInBounds_toArray, List.set_cons_zero, List.set_cons_succ]
              refine take_call 6 rfl (by kernel_rfl) (by rfl) (fun K hK => ?_)
              go_simp
              (go_at_call 26; (with_reducible refine (HW.out _ hHeld.1 0 (by simp)).mono ?_); rintro e wc ⟨Aw, cw, rfl, ow, hx⟩)
              try go_wp2_with fail
              refine hK.out _ _ (HK4.out _ (hHeld.1.trans hx)) (fun hHeld => ?_)
              clear hK K
              try simp only [Act.put, List.setIfInBounds_toArray, List.set_cons_zero, List.set_cons_succ]
              refine take_call 9 rfl (by kernel_rfl) (by rfl) (fun K hK => ?_)
              go_simp
              (go_at_call 14; (with_reducible refine (HE2.out _ Aw cw hHeld.1 _ ow).mono ?_); rintro e wd ⟨rfl, hx⟩)
              try go_wp2_with fail
              refine hK.out _ _ (HK4.out _ (hHeld.1.trans hx)) (fun hHeld => ?_)
              clear hK K
              try simp only [Act.put, List.setIfInBounds_toArray, List.set_cons_zero, List.set_cons_succ]
              refine take_do (v := ?_) 10 121 rfl rfl (by kernel_rfl) (by kernel_rfl) (by kernel_rfl) (fun _ _ _ h => h) (by rfl) ?_ hHeld ?_
              rotate_left
              · ((intro w hSw; (try dsimp only at hSw); go_simp); all_goals (with_reducible rfl))
              simp only [List.setIfInBounds_toArray, List.set_cons_zero, List.set_cons_succ]
              refine take_do (v := ?_) 11 122 rfl rfl (by kernel_rfl) (by kernel_rfl) (by kernel_rfl) (fun _ _ _ h => h) (by rfl) ?_ hHeld ?_
              rotate_left
              · ((intro w hSw; (try dsimp only at hSw); go_simp); all_goals (with_reducible rfl))
              simp only [List.setIfInBounds_toArray, List.set_cons_zero, List.set_cons_succ]
              refine take_do (v := ?_) 12 123 rfl rfl (by kernel_rfl) (by kernel_rfl) (by kernel_rfl) (fun _ _ _ h => h) (by rfl) ?_ hHeld ?_
              rotate_left
              · ((intro w hSw; (try dsimp only at hSw); go_simp); all_goals (with_reducible rfl))
              simp only [List.setIfInBounds_toArray, List.set_cons_zero, List.set_cons_succ]
              refine take_do (v := ?_) 13 124 rfl rfl (by kernel_rfl) (by kernel_rfl) (by kernel_rfl) (fun _ _ _ h => h) (by rfl) ?_ hHeld ?_
              rotate_left
              · ((intro w hSw; (try dsimp only at hSw); go_simp); all_goals (with_reducible rfl))
              simp only [List.setIfInBounds_toArray, List.set_cons_zero, List.set_cons_succ]
              refine take_skip 14 125 rfl rfl (by kernel_rfl) (by kernel_rfl) (by kernel_rfl) (fun _ _ _ h => h) (by rfl) hHeld ?_
              simp only [List.setIfInBounds_toArray, List.set_cons_zero, List.set_cons_succ]
              refine take_skip 15 126 rfl rfl (by kernel_rfl) (by kernel_rfl) (by kernel_rfl) (fun _ _ _ h => h) (by rfl) hHeld ?_
              simp only [List.setIfInBounds_toArray, List.set_cons_zero, List.set_cons_succ]
              refine take_skip 16 127 rfl rfl (by kernel_rfl) (by kernel_rfl) (by kernel_rfl) (fun _ _ _ h => h) (by rfl) hHeld ?_
              simp only [List.setIfInBounds_toArray, List.set_cons_zero, List.set_cons_succ]
              refine take_skip 17 128 rfl rfl (by kernel_rfl) (by kernel_rfl) (by kernel_rfl) (fun _ _ _ h => h) (by rfl) hHeld ?_
              simp only [List.setIfInBounds_toArray, List.set_cons_zero, List.set_cons_succ]
              refine take_skip 18 129 rfl rfl (by kernel_rfl) (by kernel_rfl) (by kernel_rfl) (fun _ _ _ h => h) (by rfl) hHeld ?_
              simp only [List.setIfInBounds_toArray, List.set_cons_zero, List.set_cons_succ]
              refine take_skip 19 130 rfl rfl (by kernel_rfl) (by kernel_rfl) (by kernel_rfl) (fun _ _ _ h => h) (by rfl) hHeld ?_
              simp only [List.setIfInBounds_toArray, List.set_cons_zero, List.set_cons_succ]
              refine take_skip 20 131 rfl rfl (by kernel_rfl) (by kernel_rfl) (by kernel_rfl) (fun _ _ _ h => h) (by rfl) hHeld ?_
              simp only [List.setIfInBounds_toArray, List.set_cons_zero, List.set_cons_succ]
              refine take_skip 21 132 rfl rfl (by kernel_rfl) (by kernel_rfl) (by kernel_rfl) (fun _ _ _ h => h) (by rfl) hHeld ?_
              simp only [List.setIfInBounds_toArray, List.set_cons_zero, List.set_cons_succ]
              refine take_skip 22 133 rfl rfl (by kernel_rfl) (by kernel_rfl) (by kernel_rfl) (fun _ _ _ h => h) (by rfl) hHeld ?_
              simp only [List.setIfInBounds_toArray, List.set_cons_zero, List.set_cons_succ]
              refine take_skip 23 134 rfl rfl (by kernel_rfl) (by kernel_rfl) (by kernel_rfl) (fun _ _ _ h => h) (by rfl) hHeld ?_
              simp only [List.setIfInBounds_toArray, List.set_cons_zero, List.set_cons_succ]
              refine take_skip 24 135 rfl rfl (by kernel_rfl) (by kernel_rfl) (by kernel_rfl) (fun _ _ _ h => h) (by rfl) hHeld ?_
              simp only [List.setIfInBounds_toArray, List.set_cons_zero, List.set_cons_succ]
              refine take_skip 25 136 rfl rfl (by kernel_rfl) (by kernel_rfl) (by kernel_rfl) (fun _ _ _ h => h) (by rfl) hHeld ?_
              simp only [List.setIfInBounds_toArray, List.set_cons_zero, List.set_cons_succ]
              refine take_skip 26 137 rfl rfl (by kernel_rfl) (by kernel_rfl) (by kernel_rfl) (fun _ _ _ h => h) (by rfl) hHeld ?_
              simp only [List.setIfInBounds_toArray, List.set_cons_zero, List.set_cons_succ]
              refine take_skip 27 138 rfl rfl (by kernel_rfl) (by kernel_rfl) (by kernel_rfl) (fun _ _ _ h => h) (by rfl) hHeld ?_
              simp only [List.setIfInBounds_toArray, List.set_cons_zero, List.set_cons_succ]
              refine take_skip 28 139 rfl rfl (by kernel_rfl) (by kernel_rfl) (by kernel_rfl) (fun _ _ _ h => h) (by rfl) hHeld ?_
              simp only [List.setIfInBounds_toArray, List.set_cons_zero, List.set_cons_succ]
              refine take_skip 29 140 rfl rfl (by kernel_rfl) (by kernel_rfl) (by kernel_rfl) (fun _ _ _ h => h) (by rfl) hHeld ?_
              simp only [List.setIfInBounds_toArray, List.set_cons_zero, List.set_cons_succ]
              refine take_do (v := ?_) 30 141 rfl rfl (by kernel_rfl) (by kernel_rfl) (by kernel_rfl) (fun _ _ _ h => h) (by rfl) ?_ hHeld ?_
              rotate_left
              · ((intro w hSw; (try dsimp only at hSw); go_simp); all_goals (with_reducible rfl))
              simp only [List.setIfInBounds_toArray, List.set_cons_zero, List.set_cons_succ]
              refine take_do (v := ?_) 31 142 rfl rfl (by kernel_rfl) (by kernel_rfl) (by kernel_rfl) (fun _ _ _ h => h) (by rfl) ?_ hHeld ?_
              rotate_left
              · ((intro w hSw; (try dsimp only at hSw); go_simp); all_goals (with_reducible rfl))
              simp only [List.setIfInBounds_toArray, List.set_cons_zero, List.set_cons_succ]
              refine wpAnyH_done (by kernel_rfl) ?_ _
              have kd := hHeld.1
              go_wp2
              go_roundw
              case rel => exact ⟨1, by omega, by go_num, From.trans HM3.out kd⟩
              case measure => simp [intOf]; omega
            | succ m =>
              have hp := List.pairwise_iff_getElem.1 HSM.out.pair m (m + 1) (by omega) (by omega) (by omega)
              have o1 := (hoat m (by omega)).2
              have o2 := (hoat (m + 1) (by omega)).2
              generalize t[m] = u at *
              generalize t[m + 1] = v at *
              have y3 : ¬ v ≤ u := by omega
              have y4 : (0 : Int) < (m : Int) + 1 := by omega
              have y5 : (m : Int) < (a'.length : Int) := by omega
              have y6 : (0 : Int) ≤ (m : Int) := by omega
              have y7 : (m : Int) + 1 < (a'.length : Int) := by omega
              have y8 : (0 : Int) ≤ (m : Int) + 1 := by omega
              have y9 : IntKind.i64.wrap ((m : Int) + 1 - 1) = (m : Int) := by rw [Int.add_sub_cancel]; exact IntWalk.i64_in _ (by omega)
              have y10 : IntKind.i64.wrap (m : Int) = (m : Int) := IntWalk.i64_in _ (by omega)
              have y11 : ((m : Int) + 1).toNat = m + 1 := by omega
              have HK6 := bx (fun (W : World) (kW : From wz W) => (show From wz W ∧ W.cell? ⟨X.heap.size, 0, none⟩ = some (.int .i64 n) ∧ W.cell? ⟨X.heap.size, 1, none⟩ = some (.slice AG sh.length cG) ∧ W.cell? ⟨gA, k, none⟩ = some (.slice (some ⟨h, 0, none⟩) a'.length cy) ∧ W.cell? ⟨h, m, none⟩ = some (.int .i64 u) ∧ W.cell? ⟨h, m + 1, none⟩ = some (.int .i64 v) from ⟨kW, (HK.out W (kz.trans kW)).2.1, (HK.out W (kz.trans kW)).2.2.1, (HK.out W (kz.trans kW)).2.2.2, from_cellsM kW o1, from_cellsM kW o2⟩))
              clear hoat o1 o2 hp
              go_wp2_with fail
              go_region_held3 (fun w' => From wz w' ∧ w'.cell? ⟨X.heap.size, 0, none⟩ = some (.int .i64 n) ∧ w'.cell? ⟨X.heap.size, 1, none⟩ = some (.slice AG sh.length cG) ∧ w'.cell? ⟨gA, k, none⟩ = some (.slice (some ⟨h, 0, none⟩) a'.length cy) ∧ w'.cell? ⟨h, m, none⟩ = some (.int .i64 u) ∧ w'.cell? ⟨h, m + 1, none⟩ = some (.int .i64 v))
                (first | exact HK6.out _ (From.drew (by assumption)) | ((go_split_ands; exact HK6.out _ (From.trans (by assumption) hx))))
                (first | (go_at_call 26; go_split_ands; (with_reducible refine (HW.out _ (by assumption) ((m : Int) + 1) (by omega)).mono ?_); rintro e wc ⟨Aw, cw, rfl, ow, hx⟩) | (go_at_call 14; go_split_ands; (with_reducible refine (HE2.out _ Aw cw (by assumption) _ ow).mono ?_); rintro e wd ⟨rfl, hx⟩))
              go_split_ands
              have kd : From wz wd := by assumption
              go_wp2
              go_roundw
              case rel => exact ⟨m + 1 + 1, by omega, by go_num, From.trans HM3.out kd⟩
              case measure => simp [intOf]; omega
          · obtain rfl : m = a'.length := by omega
            go_wp2
            go_roundw
            case rel => exact ⟨_, .int .i64 ((k : Int) + 1), _, _, _, _, _, _, _, _, _, _, _, _, _, _, _, _, _, _, _, _, _, _, _, _, _, _, _, _, _, _, _, _, _, _, _, _, _, _, _, _, _, _, _, _, _, _, _, _, _, _, _, _, _, _, _, _, _, _, _, _, _, _, _, _, _, _, _, ⟨k + 1, by omega, by go_num, hbw.trans kz⟩, rfl⟩
            case measure => simp [intOf]; omega
      · obtain rfl : k = ys.length := by omega
        have HFW := bx (HR4.out a' (by simp)).fewer
        obtain ⟨g0, g1⟩ := HG9.out.from hbw
        have hF9 := hF8.trans hbw8
        by_cases hlen : a'.length ≤ us.length
        · have t1 : (a'.length : Int) ≤ (us.length : Int) := by omega
          go_wp2_with fail
          refine (lives_calls _).mono ?_
          rintro e w10 ⟨rfl, hx10⟩
          go_wp2
          go_ret
          exact ⟨rfl, hF9.trans hx10⟩
        · have t1 : ¬ (a'.length : Int) ≤ (us.length : Int) := by omega
          go_wp2_with fail
          refine (explains_calls n AG cG sh A8 c8 us A4 c4 s A5 c5 d _ (hbw8.lists HL8.out) (by omega) (hbw8.ints HU8.out) (by omega) (hbw8.ints HS8.out) (by omega) (hbw8.ints HD8.out) (by omega) false (HFW.out us HUS.out (by omega))).mono ?_
          rintro e w10 ⟨rfl, hx10⟩
          go_wp2_with fail
          refine (lives_calls _).mono ?_
          rintro e w11 ⟨rfl, hx11⟩
          go_wp2
          go_ret
          exact ⟨rfl, hF9.trans (From.trans hx10 hx11)⟩
set_option maxRecDepth 100000 in
theorem mini_lifted (os : Os) (started : os.Started) (H : Type) (enc : TypeId × Value → H) :
    ReturnsInHanded {} Try.checked os 6 .any (Rows.diagnoseMinimalSpec.pre6 enc Try.prog Try.f6 Rows.diagnoseMinimalRow.domain false) (Rows.diagnoseMinimalSpec.post enc Try.prog Try.f6 false true false false) := by
  refine returnsInHanded_of_change (C := Try.checked) own started (by kernel_rfl) Try.func6
    (ChangeSpec.witness6 (enc := enc) (C := Try.checked) false ⟨#[], #[.int .u8 0, .slice none 0 0, .int .u8 0, .int .u8 0, .int .u16 0], []⟩ 8 (by kernel_rfl) (by kernel_rfl) (by kernel_rfl) (by kernel_rfl)) ?_
  intro W base args ds gs before hval0 hW hcnd _
  have hval : ∀ (j : Nat) t v, Try.f6.params[j]? = some t → args[j]? = some v → Value.okWide Try.prog W .any base t v := hval0
  have hW' := hW
  obtain ⟨p, q, hA0, hV, rfl, hfz, hnd⟩ := hW
  have hA : DataW.TrodAll enc Try.prog W 0 (fun _ => true) true Try.f6.params.toList args.toList ds p := hA0
  rw [Try.params6] at hA hval
  obtain ⟨v0, vs0, d0, ds0, p0, q0, hargs, rfl, rfl, h0, r0⟩ := trodAll_cons hA
  obtain ⟨v1, vs1, d1, ds1, p1, q1, rfl, rfl, rfl, h1, r1⟩ := trodAll_cons r0
  obtain ⟨v2, vs2, d2, ds2, p2, q2, rfl, rfl, rfl, h2, r2⟩ := trodAll_cons r1
  obtain ⟨v3, vs3, d3, ds3, p3, q3, rfl, rfl, rfl, h3, r3⟩ := trodAll_cons r2
  obtain ⟨v4, vs4, d4, ds4, p4, q4, rfl, rfl, rfl, h4, r4⟩ := trodAll_cons r3
  obtain ⟨rfl, rfl, rfl⟩ := trodAll_nil r4
  obtain rfl : args = #[v0, v1, v2, v3, v4] := by cases args; simp_all
  obtain ⟨rfl, rfl⟩ := trodVars_none hV
  obtain ⟨a0, rfl, _, _, w0⟩ := open_int Try.underlying5 (hval 0 5 v0 rfl rfl) h0
  simp only [Lit.wf, Bool.and_eq_true, decide_eq_true_eq] at w0
  obtain ⟨A1, c1, l1, rfl, hB1, hm1⟩ := open_bytsv (hval 1 31 v1 rfl rfl) h1
  obtain ⟨a2, rfl, _, _, w2⟩ := open_int Try.underlying5 (hval 2 5 v2 rfl rfl) h2
  simp only [Lit.wf, Bool.and_eq_true, decide_eq_true_eq] at w2
  obtain ⟨a3, rfl, _, _, w3⟩ := open_int Try.underlying5 (hval 3 5 v3 rfl rfl) h3
  simp only [Lit.wf, Bool.and_eq_true, decide_eq_true_eq] at w3
  obtain ⟨a4, rfl, _, _, w4⟩ := open_int Try.underlying40 (hval 4 40 v4 rfl rfl) h4
  simp only [Lit.wf, Bool.and_eq_true, decide_eq_true_eq] at w4
  refine (mini_walk a0 A1 c1 l1 a2 a3 a4 W w0.1 w0.2 hB1 hm1 w2.1 w2.2 w3.1 w3.2 w4.1 w4.2).mono fun e W' ⟨he, hb⟩ => ?_
  subst he
  exact ⟨_, rfl, law_post Try.laid (by kernel_rfl) rfl rfl Try.underlying4 rfl hW' hb⟩
theorem mini_holds : Rows.DiagnoseMinimalSaid :=
  OpenClaim.holds_of_wide 6 Try.f6 rfl rfl rfl rfl rfl rfl rfl ⟨rfl, rfl, rfl, rfl, rfl⟩ rfl rfl rfl rfl rfl (by kernel_rfl) Try.func6 (by kernel_rfl)
    (of_decide_eq_true (by kernel_rfl)) (by unfold Func.isWrapper; first | (rw [if_pos (by decide +kernel)]; kernel_rfl) | (rw [if_neg (by decide +kernel)]; exact ⟨rfl, rfl⟩))
    (fun os started H enc _ => mini_lifted os started H enc)
#print axioms mini_holds
end Go.Proofs.Ytgfmnolghbiedaa
