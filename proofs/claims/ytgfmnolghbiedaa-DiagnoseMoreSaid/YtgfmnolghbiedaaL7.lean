/-
  For every graph made of at most 10 units and all symptoms chosen by bits, the law DiagnoseMore returns true, and its arguments read as before. No condition.
-/
import Derived.Test.YtgfmnolghbiedaaR1
import Derived.Test.YtgfmnolghbiedaaK32
namespace Go.Proofs.Ytgfmnolghbiedaa
open Go.ChangeShapes Go.WideShapes Go.ChangeAt Go.RowKit Go.Deep

set_option maxRecDepth 100000 in
set_option maxHeartbeats 4000000 in
theorem more_walk (q : Int) (A : Option Addr) (c : Nat) (l : List Int) (x2 x3 x4 x5 : Int) (w : World)
    (hq0 : 0 ≤ q) (hq1 : q ≤ 255) (h : Byts w w.heap.size A l) (hm : l.length ≤ 9223372036854775807) (a20 : 0 ≤ x2) (a21 : x2 ≤ 255) (a30 : 0 ≤ x3) (a31 : x3 ≤ 255) (a40 : 0 ≤ x4) (a41 : x4 ≤ 255) (a50 : 0 ≤ x5) (a51 : x5 ≤ 255) :
    Calls Try.prog 8 #[.int .u8 q, .slice A l.length c, .int .u8 x2, .int .u8 x3, .int .u8 x4, .int .u8 x5] w fun e w' => e = .returned (.bool true) ∧ Below w.heap.size w w' := by
  obtain ⟨i0, hi, hz0, hz1, hz2⟩ := info_parts Try.infoInt
  have HM := bx (madeG_calls q A c l 10 w h hm hq0 hq1 (by omega))
  have hn8 : (q % 9).toNat ≤ 8 := by omega
  obtain ⟨n, hn⟩ : ∃ n, (q % 9).toNat = n := ⟨_, rfl⟩
  rw [hn] at HM hn8
  have hshl := madeL_take_len l n 10
  obtain ⟨sh, hsh⟩ : ∃ sh, madeL (l.take 10) n = sh := ⟨_, rfl⟩
  rw [hsh] at HM hshl
  have hl2 := bitsN_le x2 n
  have hl3 := bitsN_le x3 n
  have hl4 := bitsN_le x4 n
  have hl5 := bitsN_le x5 n
  obtain ⟨s, hs⟩ : ∃ s, bitsN x2 n = s := ⟨_, rfl⟩
  obtain ⟨d, hd⟩ : ∃ d, bitsN x3 n = d := ⟨_, rfl⟩
  obtain ⟨m, hm4⟩ : ∃ m, bitsN x4 n = m := ⟨_, rfl⟩
  obtain ⟨o, ho⟩ : ∃ o, bitsN x5 n = o := ⟨_, rfl⟩
  rw [hs] at hl2
  rw [hd] at hl3
  rw [hm4] at hl4
  rw [ho] at hl5
  have HS := bx hs
  have HD := bx hd
  have HM4 := bx hm4
  have HO := bx ho
  have HB2 := bx (fun W => bits_row x2 n W a20 (by omega) (by omega) s hs)
  have HB3 := bx (fun W => bits_row x3 n W a30 (by omega) (by omega) d hd)
  have HB4 := bx (fun W => bits_row x4 n W a40 (by omega) (by omega) m hm4)
  have HB5 := bx (fun W => bits_row x5 n W a50 (by omega) (by omega) o ho)
  clear hn hsh hs hd hm4 ho
  have e2 : IntKind.i64.wrap x2 = x2 := IntWalk.i64_in _ (by omega)
  have e3 : IntKind.i64.wrap x3 = x3 := IntWalk.i64_in _ (by omega)
  have e4 : IntKind.i64.wrap x4 = x4 := IntWalk.i64_in _ (by omega)
  have e5 : IntKind.i64.wrap x5 = x5 := IntWalk.i64_in _ (by omega)
  go_enter Try.func8, Try.ntmps8
  go_wp2_with fail
  refine (show Calls Try.prog 16 #[.int .u8 q, .slice A l.length c, .int .i64 10] _ _ from HM.out).mono ?_
  rintro e X ⟨AG, cG, rfl, hL, hbX⟩
  have hF : From w X := hbX
  go_wp2_with fail
  obtain ⟨W0, hW0⟩ : ∃ W0, X.alloc (.cells #[.int .i64 n, .slice AG sh.length cG] 24) = W0 := ⟨_, rfl⟩
  have hX0 : From X W0 := by rw [← hW0]; exact (Below.refl _ _).alloc (Nat.le_refl _) _
  have HG := bx (show GAt W0 X.heap.size n AG cG sh by rw [← hW0]; exact gat_new X n AG cG sh _)
  have hF0 := hF.trans hX0
  rw [hW0]
  have hGL := bx (hX0.lists hL)
  clear hW0 hX0 hL hF hbX h
  have hFF : From W0 W0 := Below.refl _ _
  obtain ⟨g0, g1⟩ := HG.out
  go_region_held3 (fun w' => From W0 w' ∧ w'.cell? ⟨X.heap.size, 0, none⟩ = some (.int .i64 n) ∧ w'.cell? ⟨X.heap.size, 1, none⟩ = some (.slice AG sh.length cG))
    (first | exact HG.out.keep (From.drew (by assumption)) | ((go_split_ands; exact HG.out.keep (From.trans (by assumption) hx))))
    (first | (go_at_call 25; (with_reducible refine (HB2.out _).mono ?_); rintro e w4 ⟨A4, c4, rfl, hI4, hx⟩) | (go_at_call 25; (with_reducible refine (HB3.out _).mono ?_); rintro e w5 ⟨A5, c5, rfl, hI5, hx⟩))
  go_split_ands
  have k5 : From W0 w5 := by assumption
  have HS5 := bx (src_from (src_of_own hI4) hx)
  have HIS5 := bx (From.ints hx (ints_of_own hI4))
  have HD5 := bx (src_of_own hI5)
  have HID5 := bx (ints_of_own hI5)
  have HG5 := bx (HG.out.from k5)
  have HL5 := bx (k5.lists hGL.out)
  have hF5 := hF0.trans k5
  clear hI4 hI5 hx g0 g1

  go_wp2_with fail
  refine region_cut (fun a0 a' w' => ∃ u38 u39 u40 u41 u42 u43 u44 u45 u46 u47 u48 u49 u50 u51 u52 u53 u54 u55 : Value, ∃ (A6 : Option Addr) (c6 : Nat) (A7 : Option Addr) (c7 : Nat), a' = puts a0 [(38, u38), (39, u39), (40, u40), (41, u41), (42, u42), (43, u43), (44, u44), (45, u45), (46, u46), (47, u47), (48, u48), (49, u49), (50, u50), (51, u51), (52, u52), (53, u53), (54, u54), (55, u55), (16, .slice A6 (s.length + m.length) c6), (17, .slice A7 (d.length + o.length) c7)] ∧ From w5 w' ∧ Src w' w'.heap.size (.slice A6 (s ++ m).length c6) (s ++ m) ∧ Src w' w'.heap.size (.slice A7 (d ++ o).length c7) (d ++ o)) (fun K' HK => ?_) ?_
  · have hFF5 : From w5 w5 := Below.refl _ _
    obtain ⟨g0, g1⟩ := HG5.out
    go_region_held3 (fun w' => From w5 w' ∧ w'.cell? ⟨X.heap.size, 0, none⟩ = some (.int .i64 n) ∧ w'.cell? ⟨X.heap.size, 1, none⟩ = some (.slice AG sh.length cG))
      (first | exact HG5.out.keep (From.drew (by assumption)) | exact HG5.out.keep hy | ((go_split_ands; exact HG5.out.keep (From.trans (by assumption) hx))) | ((go_split_ands; exact HG5.out.keep (From.alloc (by assumption) _))))
      (first | (refine step_append_z (by rfl) (.tmp 38) (.tmp 39) 25 (by rfl) _ 3 i0 (.int .i64 0) 8 Try.underlying25 hi hz0 hz1 hz2 (by decide) _ [] (by rfl) zrow_new _ _ s (by rfl) (src_from HS5.out (by go_split_ands; assumption)) (by simp only [List.length_nil]; unfold maxLen; omega) (by simp only [List.length_nil]; omega) (Nat.le_refl _) w5 (by go_split_ands; assumption) (Below.size (by go_split_ands; assumption)) ?_; intro A40 c40 w40 z40 hx hy b40 t40) | (refine step_append_z (by rfl) (.tmp 40) (.tmp 45) 25 (by rfl) _ 3 i0 (.int .i64 0) 8 Try.underlying25 hi hz0 hz1 hz2 (by decide) _ ([] ++ s) (by rfl) (z45.from (by first | exact Below.refl _ _ | exact From.alloc (Below.refl _ _) _ | exact From.drew (Below.refl _ _))) _ _ m (by rfl) (src_from (src_of_own hI45) (by first | exact Below.refl _ _ | exact From.alloc (Below.refl _ _) _ | exact From.drew (Below.refl _ _))) (by simp only [List.length_append, List.length_nil]; unfold maxLen; omega) (by simp only [List.length_append, List.length_nil]; omega) (Nat.le_trans t45 (Below.size (show From w45 _ from (by first | exact Below.refl _ _ | exact From.alloc (Below.refl _ _) _ | exact From.drew (Below.refl _ _))))) w5 (by go_split_ands; assumption) b40 ?_; intro A46 c46 w46 z46 hx hy b46 t46; have T46 := z46.src) | (refine step_append_z (by rfl) (.tmp 47) (.tmp 48) 25 (by rfl) _ 3 i0 (.int .i64 0) 8 Try.underlying25 hi hz0 hz1 hz2 (by decide) _ [] (by rfl) zrow_new _ _ d (by rfl) (src_from HD5.out (by go_split_ands; assumption)) (by simp only [List.length_nil]; unfold maxLen; omega) (by simp only [List.length_nil]; omega) (Nat.le_refl _) w5 (by go_split_ands; assumption) (Below.size (by go_split_ands; assumption)) ?_; intro A49 c49 w49 z49 hx hy b49 t49; have T49 := (src_from T46 (by first | exact Below.refl _ _ | exact From.alloc (Below.refl _ _) _ | exact From.drew (Below.refl _ _))).below hx) | (refine step_append_z (by rfl) (.tmp 49) (.tmp 54) 25 (by rfl) _ 3 i0 (.int .i64 0) 8 Try.underlying25 hi hz0 hz1 hz2 (by decide) _ ([] ++ d) (by rfl) (z54.from (by first | exact Below.refl _ _ | exact From.alloc (Below.refl _ _) _ | exact From.drew (Below.refl _ _))) _ _ o (by rfl) (src_from (src_of_own hI54) (by first | exact Below.refl _ _ | exact From.alloc (Below.refl _ _) _ | exact From.drew (Below.refl _ _))) (by simp only [List.length_append, List.length_nil]; unfold maxLen; omega) (by simp only [List.length_append, List.length_nil]; omega) (Nat.le_trans t54 (Below.size (show From w54 _ from (by first | exact Below.refl _ _ | exact From.alloc (Below.refl _ _) _ | exact From.drew (Below.refl _ _))))) w5 (by go_split_ands; assumption) b49 ?_; intro A55 c55 w55 z55 hx hy b55 t55; have T55 := (T54.below hx).more t55) | (go_at_call 25; (with_reducible refine (HB4.out _).mono ?_); rintro e w45 ⟨A45, c45, rfl, hI45, hx⟩; have z45 := z40.from (From.trans (by first | exact Below.refl _ _ | exact From.alloc (Below.refl _ _) _ | exact From.drew (Below.refl _ _)) hx); have t45 := Nat.le_trans t40 (Below.size (From.trans (by first | exact Below.refl _ _ | exact From.alloc (Below.refl _ _) _ | exact From.drew (Below.refl _ _)) hx))) | (go_at_call 25; (with_reducible refine (HB5.out _).mono ?_); rintro e w54 ⟨A54, c54, rfl, hI54, hx⟩; have z54 := z49.from hx; have t54 := Nat.le_trans t49 (Below.size hx); have T54 := T49.below (Below.mono hx t49)))
    all_goals exact HK.out _ _ ⟨_, _, _, _, _, _, _, _, _, _, _, _, _, _, _, _, _, _, _, _, _, _, (by simp only [puts, Act.put, List.setIfInBounds_toArray, List.set_cons_zero, List.set_cons_succ]; rfl), hy, T55, z55.src⟩
  · rintro a' w6 ⟨u38, u39, u40, u41, u42, u43, u44, u45, u46, u47, u48, u49, u50, u51, u52, u53, u54, u55, A6, c6, A7, c7, rfl, k6, T6, T7⟩
    rename_i K0 hK0
    apply hK0
    simp only [puts, Act.put, List.setIfInBounds_toArray, List.set_cons_zero, List.set_cons_succ]
    have HIT := bx (src_ints T6)
    have HID := bx (src_ints T7)
    have et : (s ++ m).length = s.length + m.length := List.length_append
    have ed : (d ++ o).length = d.length + o.length := List.length_append
    have HG6 := bx (HG5.out.from k6)
    have HL6 := bx (k6.lists HL5.out)
    have HS6 := bx (k6.ints HIS5.out)
    have HC6 := bx (k6.ints HID5.out)
    have hF6 := hF5.trans k6
    have htl : (s ++ m).length ≤ 16 := by rw [List.length_append]; omega
    have hdl : (d ++ o).length ≤ 16 := by rw [List.length_append]; omega
    obtain ⟨t, ht⟩ : ∃ t, s ++ m = t := ⟨_, rfl⟩
    obtain ⟨dd, hdd⟩ : ∃ dd, d ++ o = dd := ⟨_, rfl⟩
    obtain ⟨a, ha⟩ : ∃ a, (leastOf sh s d).getD [] = a := ⟨_, rfl⟩
    obtain ⟨b, hb⟩ : ∃ b, (leastOf sh s d).isSome = b := ⟨_, rfl⟩
    obtain ⟨a2, ha2⟩ : ∃ a, (leastOf sh t dd).getD [] = a := ⟨_, rfl⟩
    obtain ⟨b2, hb2⟩ : ∃ b, (leastOf sh t dd).isSome = b := ⟨_, rfl⟩
    obtain ⟨a3, ha3⟩ : ∃ a, (leastOf sh m d).getD [] = a := ⟨_, rfl⟩
    obtain ⟨b3, hb3⟩ : ∃ b, (leastOf sh m d).isSome = b := ⟨_, rfl⟩
    have hal := least_getD_len ha
    have hal2 := least_getD_len ha2
    have hal3 := least_getD_len ha3
    have M1 := more_one (s := s) (c := d) (m := m) (o := o) (a2 := a2) (b2 := b2) (by rw [ht, hdd]; exact hb2) (by rw [ht, hdd]; exact ha2) hb ha
    have M2 := more_two (m := m) hb ha hb3 ha3
    rw [ht] at M2 htl HIT et
    rw [hdd] at hdl HID ed
    rw [← et, ← ed]
    obtain ⟨aa, haa⟩ : ∃ aa, a ++ a3 = aa := ⟨_, rfl⟩
    have hla : a.length + a3.length = aa.length := by rw [← haa, List.length_append]
    rw [haa] at M2
    have HAA := bx haa
    have HLA := bx hla
    clear haa
    have HA := bx ha
    have HB := bx hb
    have HA2 := bx ha2
    have HB2' := bx hb2
    have HA3 := bx ha3
    have HB3' := bx hb3
    have HM1 := bx M1
    have HM2 := bx M2
    clear et ed ht hdd ha hb ha2 hb2 ha3 hb3 M1 M2 T6 T7
    obtain ⟨g0, g1⟩ := HG6.out
    go_wp2_with fail
    refine (least_row n AG cG sh A4 c4 s A5 c5 d w6 HL6.out (by omega) HS6.out (by omega) HC6.out (by omega) a HA.out b HB.out).mono ?_
    rintro e w7 ⟨A8, c8, rfl, ho7, k7⟩
    have HO7 := bx ho7
    clear g0 g1 ho7
    obtain ⟨g0, g1⟩ := HG6.out.from k7
    go_wp2_with fail
    refine (least_row n AG cG sh A6 c6 t A7 c7 dd w7 (k7.lists HL6.out) (by omega) (k7.ints HIT.out) (by omega) (k7.ints HID.out) (by omega) a2 HA2.out b2 HB2'.out).mono ?_
    rintro e w8 ⟨A9, c9, rfl, ho8, k8⟩
    have HO8 := bx ho8
    have k68 := k7.trans k8
    have HG8 := bx (HG6.out.from k68)
    clear g0 g1 ho8
    have HL8 := bx (k68.lists HL6.out)
    have HS8 := bx (k68.ints HS6.out)
    have HC8 := bx (k68.ints HC6.out)
    have HIT8 := bx (k68.ints HIT.out)
    have HO78 := bx (own_from HO7.out k8)
    have hF8 := hF6.trans k68
    have HE9 := bx (fun (h : b2 = true) => explains_calls n AG cG sh A9 c9 a2 A4 c4 s A5 c5 d w8 HL8.out (by omega) (ints_of_own HO8.out) (by omega) HS8.out (by omega) HC8.out (by omega) true (HM1.out h).2.2)
    have hK : ∃ w9 : World, w9 = w8 := ⟨_, rfl⟩
    cases b2
    · obtain ⟨w9, hw9⟩ := hK
      have k9 : From w8 w9 := by rw [hw9]; exact Below.refl _ _
      obtain ⟨g0, g1⟩ := HG8.out.from k9
      rw [← hw9]
      clear hw9
      have HG9 := bx (HG8.out.from k9)
      have HL9 := bx (k9.lists HL8.out)
      have HC9 := bx (k9.ints HC8.out)
      have HIT9 := bx (k9.ints HIT8.out)
      have HOA9 := bx (own_from HO78.out k9)
      have hF9 := hF8.trans k9
      have hFF9 : From w9 w9 := Below.refl _ _
      clear k9
      go_wp2_with fail
      go_region_held3 (fun w' => From w9 w' ∧ w'.cell? ⟨X.heap.size, 0, none⟩ = some (.int .i64 n) ∧ w'.cell? ⟨X.heap.size, 1, none⟩ = some (.slice AG sh.length cG))
        (first | exact HG9.out.keep (From.drew (by assumption)) | ((go_split_ands; exact HG9.out.keep (From.trans (by assumption) hx))))
        (first | (go_at_call 25; (with_reducible refine (HB4.out _).mono ?_); rintro e w10 ⟨A10, c10, rfl, hI10, hx⟩) | (go_at_call 17; go_split_ands; (with_reducible refine (least_row n AG cG sh A10 c10 m A5 c5 d _ (From.lists (by assumption) HL9.out) (by omega) (ints_of_own hI10) (by omega) (From.ints (by assumption) HC9.out) (by omega) a3 HA3.out b3 HB3'.out).mono ?_); rintro e w11 ⟨A11, c11, rfl, ho11, hx⟩))
      all_goals
        go_split_ands
        have k11 : From w9 w11 := by assumption
        have HR11 := bx (src_of_own ho11)
        have HRA := bx (src_of_own (own_from HOA9.out k11))
        have HG11 := bx (HG9.out.from k11)
        have HL11 := bx (k11.lists HL9.out)
        have HC11 := bx (k11.ints HC9.out)
        have HIT11 := bx (k11.ints HIT9.out)
        have hF11 := hF9.trans k11
        clear ho11 hx g0 g1
        have hE : (w11.alloc (.cells #[] 3)).ownsRow w11.heap.size 3 1 (.slice (some ⟨w11.heap.size, 0, none⟩) 0 0) 0 (ic []) := owns_empty_at w11 rfl rfl (Nat.le_refl _)
        have hbE : From w11 (w11.alloc (.cells #[] 3)) := From.alloc (Below.refl _ _) _
        have hSA : Src (w11.alloc (.cells #[] 3)) w11.heap.size (.slice A8 a.length c8) a := HRA.out.below hbE
        go_wp2_with (first | (at_builtin; refine append_src rfl (.tmp 101) (.tmp 102) 25 rfl w11.heap.size 3 i0 (.int .i64 0) 8 Try.underlying25 hi hz0 hz1 hz2 rfl _ 0 [] rfl hE w11.heap.size _ a rfl hSA (by unfold maxLen; omega) (by omega) (by simp) ?_; intro v12 w12 o12 g12; have hb12 : From w11 w12 := Below.grown hbE g12 (by simp) (fun g hg => (hE.lt g hg).1)) | (at_builtin; refine append_src rfl (.tmp 103) (.tmp 104) 25 rfl w11.heap.size 3 i0 (.int .i64 0) 8 Try.underlying25 hi hz0 hz1 hz2 rfl _ (0 + a.length) ([] ++ a) rfl o12 w11.heap.size _ a3 rfl (HR11.out.below hb12) (by unfold maxLen; omega) (by omega) (Below.size hb12) ?_; intro v13 w13 o13 g13; have hb13 : From w11 w13 := Below.grown hb12 g13 (Below.size hb12) (fun g hg => (o12.lt g hg).1); rw [List.nil_append, HAA.out, Nat.zero_add, HLA.out] at o13; obtain ⟨A13, c13, rfl⟩ := slice_form o13; obtain ⟨q0, q1⟩ := HG11.out.from hb13))
        all_goals first
          | (refine (lives_calls _).mono ?_; rintro e w20 ⟨rfl, hx20⟩; go_wp2; go_ret; exact ⟨rfl, hF11.trans (hb13.trans hx20)⟩)
          | (refine (explains_calls n AG cG sh A13 c13 aa A6 c6 t A5 c5 d w13 (hb13.lists HL11.out) (by omega) (ints_of_own o13) (by omega) (hb13.ints HIT11.out) (by omega) (hb13.ints HC11.out) (by omega) true (by first | exact HM2.out (by assumption) (by assumption) | exact HM2.out rfl (by assumption) | exact HM2.out (by assumption) | exact HM2.out trivial (by assumption) | exact HM2.out rfl rfl | exact HM2.out trivial trivial | exact HM2.out | simpa using HM2.out)).mono ?_; rintro e w15 ⟨rfl, hx15⟩; go_wp2_with fail; refine (lives_calls _).mono ?_; rintro e w20 ⟨rfl, hx20⟩; go_wp2; go_ret; exact ⟨rfl, hF11.trans (hb13.trans (From.trans hx15 hx20))⟩)
    · obtain ⟨rfl, hle, _⟩ := HM1.out rfl
      have hle' : ¬ (a2.length : Int) < (a.length : Int) := by omega
      clear hK
      obtain ⟨g0, g1⟩ := HG8.out
      go_wp2_with fail
      refine (HE9.out trivial).mono ?_
      rintro e w9 ⟨rfl, hx9⟩
      have k9 : From w8 w9 := hx9
      clear g0 g1
      obtain ⟨g0, g1⟩ := HG8.out.from k9
      have HG9 := bx (HG8.out.from k9)
      have HL9 := bx (k9.lists HL8.out)
      have HC9 := bx (k9.ints HC8.out)
      have HIT9 := bx (k9.ints HIT8.out)
      have HOA9 := bx (own_from HO78.out k9)
      have hF9 := hF8.trans k9
      have hFF9 : From w9 w9 := Below.refl _ _
      clear k9
      go_wp2_with fail
      go_region_held3 (fun w' => From w9 w' ∧ w'.cell? ⟨X.heap.size, 0, none⟩ = some (.int .i64 n) ∧ w'.cell? ⟨X.heap.size, 1, none⟩ = some (.slice AG sh.length cG))
        (first | exact HG9.out.keep (From.drew (by assumption)) | ((go_split_ands; exact HG9.out.keep (From.trans (by assumption) hx))))
        (first | (go_at_call 25; (with_reducible refine (HB4.out _).mono ?_); rintro e w10 ⟨A10, c10, rfl, hI10, hx⟩) | (go_at_call 17; go_split_ands; (with_reducible refine (least_row n AG cG sh A10 c10 m A5 c5 d _ (From.lists (by assumption) HL9.out) (by omega) (ints_of_own hI10) (by omega) (From.ints (by assumption) HC9.out) (by omega) a3 HA3.out b3 HB3'.out).mono ?_); rintro e w11 ⟨A11, c11, rfl, ho11, hx⟩))
      all_goals
        go_split_ands
        have k11 : From w9 w11 := by assumption
        have HR11 := bx (src_of_own ho11)
        have HRA := bx (src_of_own (own_from HOA9.out k11))
        have HG11 := bx (HG9.out.from k11)
        have HL11 := bx (k11.lists HL9.out)
        have HC11 := bx (k11.ints HC9.out)
        have HIT11 := bx (k11.ints HIT9.out)
        have hF11 := hF9.trans k11
        clear ho11 hx g0 g1
        have hE : (w11.alloc (.cells #[] 3)).ownsRow w11.heap.size 3 1 (.slice (some ⟨w11.heap.size, 0, none⟩) 0 0) 0 (ic []) := owns_empty_at w11 rfl rfl (Nat.le_refl _)
        have hbE : From w11 (w11.alloc (.cells #[] 3)) := From.alloc (Below.refl _ _) _
        have hSA : Src (w11.alloc (.cells #[] 3)) w11.heap.size (.slice A8 a.length c8) a := HRA.out.below hbE
        go_wp2_with (first | (at_builtin; refine append_src rfl (.tmp 101) (.tmp 102) 25 rfl w11.heap.size 3 i0 (.int .i64 0) 8 Try.underlying25 hi hz0 hz1 hz2 rfl _ 0 [] rfl hE w11.heap.size _ a rfl hSA (by unfold maxLen; omega) (by omega) (by simp) ?_; intro v12 w12 o12 g12; have hb12 : From w11 w12 := Below.grown hbE g12 (by simp) (fun g hg => (hE.lt g hg).1)) | (at_builtin; refine append_src rfl (.tmp 103) (.tmp 104) 25 rfl w11.heap.size 3 i0 (.int .i64 0) 8 Try.underlying25 hi hz0 hz1 hz2 rfl _ (0 + a.length) ([] ++ a) rfl o12 w11.heap.size _ a3 rfl (HR11.out.below hb12) (by unfold maxLen; omega) (by omega) (Below.size hb12) ?_; intro v13 w13 o13 g13; have hb13 : From w11 w13 := Below.grown hb12 g13 (Below.size hb12) (fun g hg => (o12.lt g hg).1); rw [List.nil_append, HAA.out, Nat.zero_add, HLA.out] at o13; obtain ⟨A13, c13, rfl⟩ := slice_form o13; obtain ⟨q0, q1⟩ := HG11.out.from hb13))
        all_goals first
          | (refine (lives_calls _).mono ?_; rintro e w20 ⟨rfl, hx20⟩; go_wp2; go_ret; exact ⟨rfl, hF11.trans (hb13.trans hx20)⟩)
          | (refine (explains_calls n AG cG sh A13 c13 aa A6 c6 t A5 c5 d w13 (hb13.lists HL11.out) (by omega) (ints_of_own o13) (by omega) (hb13.ints HIT11.out) (by omega) (hb13.ints HC11.out) (by omega) true (by first | exact HM2.out (by assumption) (by assumption) | exact HM2.out rfl (by assumption) | exact HM2.out (by assumption) | exact HM2.out trivial (by assumption) | exact HM2.out rfl rfl | exact HM2.out trivial trivial | exact HM2.out | simpa using HM2.out)).mono ?_; rintro e w15 ⟨rfl, hx15⟩; go_wp2_with fail; refine (lives_calls _).mono ?_; rintro e w20 ⟨rfl, hx20⟩; go_wp2; go_ret; exact ⟨rfl, hF11.trans (hb13.trans (From.trans hx15 hx20))⟩)
set_option maxRecDepth 100000 in
theorem more_lifted (os : Os) (started : os.Started) (H : Type) (enc : TypeId × Value → H) :
    ReturnsInHanded {} Try.checked os 8 .any (Rows.diagnoseMoreSpec.pre6 enc Try.prog Try.f8 Rows.diagnoseMoreRow.domain false) (Rows.diagnoseMoreSpec.post enc Try.prog Try.f8 false true false false) := by
  refine returnsInHanded_of_change (C := Try.checked) own started (by kernel_rfl) Try.func8
    (ChangeSpec.witness6 (enc := enc) (C := Try.checked) false ⟨#[], #[.int .u8 0, .slice none 0 0, .int .u8 0, .int .u8 0, .int .u8 0, .int .u8 0], []⟩ 8 (by kernel_rfl) (by kernel_rfl) (by kernel_rfl) (by kernel_rfl)) ?_
  intro W base args ds gs before hval0 hW hcnd _
  have hval : ∀ (j : Nat) t v, Try.f8.params[j]? = some t → args[j]? = some v → Value.okWide Try.prog W .any base t v := hval0
  have hW' := hW
  obtain ⟨p, q, hA0, hV, rfl, hfz, hnd⟩ := hW
  have hA : DataW.TrodAll enc Try.prog W 0 (fun _ => true) true Try.f8.params.toList args.toList ds p := hA0
  rw [Try.params8] at hA hval
  obtain ⟨v0, vs0, d0, ds0, p0, q0, hargs, rfl, rfl, h0, r0⟩ := trodAll_cons hA
  obtain ⟨v1, vs1, d1, ds1, p1, q1, rfl, rfl, rfl, h1, r1⟩ := trodAll_cons r0
  obtain ⟨v2, vs2, d2, ds2, p2, q2, rfl, rfl, rfl, h2, r2⟩ := trodAll_cons r1
  obtain ⟨v3, vs3, d3, ds3, p3, q3, rfl, rfl, rfl, h3, r3⟩ := trodAll_cons r2
  obtain ⟨v4, vs4, d4, ds4, p4, q4, rfl, rfl, rfl, h4, r4⟩ := trodAll_cons r3
  obtain ⟨v5, vs5, d5, ds5, p5, q5, rfl, rfl, rfl, h5, r5⟩ := trodAll_cons r4
  obtain ⟨rfl, rfl, rfl⟩ := trodAll_nil r5
  obtain rfl : args = #[v0, v1, v2, v3, v4, v5] := by cases args; simp_all
  obtain ⟨rfl, rfl⟩ := trodVars_none hV
  obtain ⟨a0, rfl, _, _, w0⟩ := open_int Try.underlying5 (hval 0 5 v0 rfl rfl) h0
  simp only [Lit.wf, Bool.and_eq_true, decide_eq_true_eq] at w0
  obtain ⟨A1, c1, l1, rfl, hB1, hm1⟩ := open_bytsv (hval 1 31 v1 rfl rfl) h1
  obtain ⟨a2, rfl, _, _, w2⟩ := open_int Try.underlying5 (hval 2 5 v2 rfl rfl) h2
  simp only [Lit.wf, Bool.and_eq_true, decide_eq_true_eq] at w2
  obtain ⟨a3, rfl, _, _, w3⟩ := open_int Try.underlying5 (hval 3 5 v3 rfl rfl) h3
  simp only [Lit.wf, Bool.and_eq_true, decide_eq_true_eq] at w3
  obtain ⟨a4, rfl, _, _, w4⟩ := open_int Try.underlying5 (hval 4 5 v4 rfl rfl) h4
  simp only [Lit.wf, Bool.and_eq_true, decide_eq_true_eq] at w4
  obtain ⟨a5, rfl, _, _, w5⟩ := open_int Try.underlying5 (hval 5 5 v5 rfl rfl) h5
  simp only [Lit.wf, Bool.and_eq_true, decide_eq_true_eq] at w5
  refine (more_walk a0 A1 c1 l1 a2 a3 a4 a5 W w0.1 w0.2 hB1 hm1 w2.1 w2.2 w3.1 w3.2 w4.1 w4.2 w5.1 w5.2).mono fun e W' ⟨he, hb⟩ => ?_
  subst he
  exact ⟨_, rfl, law_post Try.laid (by kernel_rfl) rfl rfl Try.underlying4 rfl hW' hb⟩
theorem more_holds : Rows.DiagnoseMoreSaid :=
  OpenClaim.holds_of_wide 8 Try.f8 rfl rfl rfl rfl rfl rfl rfl ⟨rfl, rfl, rfl, rfl, rfl⟩ rfl rfl rfl rfl rfl (by kernel_rfl) Try.func8 (by kernel_rfl)
    (of_decide_eq_true (by kernel_rfl)) (by unfold Func.isWrapper; first | (rw [if_pos (by decide +kernel)]; kernel_rfl) | (rw [if_neg (by decide +kernel)]; exact ⟨rfl, rfl⟩))
    (fun os started H enc _ => more_lifted os started H enc)
#print axioms more_holds
end Go.Proofs.Ytgfmnolghbiedaa
