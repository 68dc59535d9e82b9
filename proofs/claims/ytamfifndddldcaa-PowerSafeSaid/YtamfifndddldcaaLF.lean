/-
  For every table, craft and loads made valid, the law PowerSafe returns true, and its arguments read as before. No condition.
-/
import Derived.Test.YtamfifndddldcaaM7
import Derived.Test.YtamfifndddldcaaR4
namespace Go.Proofs.Ytamfifndddldcaa
open Go.ChangeShapes Go.WideShapes Go.ChangeAt Go.RowKit Go.Deep Go.Shelf

set_option maxHeartbeats 64000000 in
set_option maxRecDepth 10000 in
theorem saf_walk (A0 : Option Addr) (c0 : Nat) (l0 : List Int) (A1 : Option Addr) (c1 : Nat) (l1 : List Lo) (su a3 ex : Int) (w : World) (h0 : Halfs w (.slice A0 l0.length c0) l0) (hm0 : l0.length ≤ 9223372036854775807) (hx0 : ∀ n ∈ l0, 0 ≤ n ∧ n ≤ 65535)
    (h1 : Loads w (.slice A1 l1.length c1) l1) (hm1 : l1.length ≤ 9223372036854775807) (_ : l1.length ≤ c1) (_ : ∀ x ∈ l1, I64 x.id ∧ I64 x.pw ∧ I64 x.pr)
    (p2 : 0 ≤ su) (q2 : su ≤ 65535) (p3 : 0 ≤ a3) (q3 : a3 ≤ 255) (p4 : 0 ≤ ex) (q4 : ex ≤ 65535) :
    Calls Try.prog 11 #[.slice A0 l0.length c0, .slice A1 l1.length c1, .int .u16 su, .int .u8 a3, .int .u16 ex] w fun e w' => e = .returned (.bool true) ∧ From w w' := by
  have HT := bx (table_calls A0 c0 l0 w h0 hm0 hx0)
  have HTab := bx (tableL_tab l0 (fun n hn => (hx0 n hn).1))
  have HTab0 := bx (tableL_tab0 l0 (fun n hn => (hx0 n hn).1))
  have H1 := bx h1
  have hml := madeL_len l1
  have hok := madeL_ok l1
  have hem := essL_made l1
  have hmc := fun (W : World) (k : From w W) => madeL_calls A1 c1 l1 W (H1.out.from k) hm1
  clear h0 hm0 hx0 h1 hm1
  generalize tableL l0 = t at *
  generalize madeL l1 = m at *
  have HMC := bx hmc
  clear hmc
  obtain ⟨es, hes⟩ : ∃ z, essL m = z := ⟨_, rfl⟩
  rw [hes] at hem
  have hend := endT_bd t HTab.out.bd
  obtain ⟨en, hen⟩ : ∃ z, endT t = z := ⟨_, rfl⟩
  rw [hen] at hend
  have hnb := needT_bd3 t HTab0.out 0 a3 es su p3 hem p2
  have hmb := mostT_bd3 t HTab0.out 0 a3 es su p3 hem p2
  obtain ⟨nd, hnd⟩ : ∃ z, needT t 0 a3 es su = z := ⟨_, rfl⟩
  obtain ⟨mo, hmo⟩ : ∃ z, mostT t 0 a3 es su = z := ⟨_, rfl⟩
  rw [hnd] at hnb
  rw [hmo] at hmb
  have HES := bx hes
  have HEN := bx hen
  have HND := bx hnd
  have HMO := bx hmo
  have HOK := bx hok
  have hpw : ∀ x ∈ m, 0 ≤ x.pw ∧ x.pw ≤ 4000000000 := fun x hx => by have := hok.pw x hx; omega
  have HPW := bx hpw
  clear hes hen hnd hmo hok hpw
  go_enter Try.func11, Try.ntmps11
  go_wp2_with fail
  refine HT.out.mono ?_
  rintro e w1 ⟨A, cc, rfl, o1, k1⟩
  go_wp2_with fail
  refine (HMC.out w1 k1).mono ?_
  rintro e w2 ⟨A2, c2, rfl, o2, k2⟩
  have HL := bx (loads_of_own o2)
  have HW := bx ((wins_of_own o1).from k2)
  have HF2 := bx (k1.trans k2)
  clear o1 o2 k1 k2
  go_wp2_with fail
  refine (essential_calls A2 c2 m w2 HL.out (by omega) HPW.out es HES.out).mono ?_
  rintro e w3 ⟨rfl, k3⟩
  go_wp2_with fail
  refine (refEnd_calls A cc t w3 (HW.out.from k3) (by have := HTab.out.len; omega) en HEN.out).mono ?_
  rintro e w3' ⟨rfl, hw3⟩
  subst hw3
  have hws : IntKind.i64.wrap su = su := IntWalk.i64_in _ (by omega)
  have hwx : IntKind.i64.wrap ex = ex := IntWalk.i64_in _ (by omega)
  go_wp2_with fail
  refine (greatest_calls A cc t 0 a3 es su w3' (HW.out.from k3) HTab.out (by omega) (by omega) (by omega) mo HMO.out).mono ?_
  rintro e w4 ⟨rfl, k4⟩
  go_wp2_with fail
  refine (need_calls A cc t 0 a3 es su w4 (HW.out.from (k3.trans k4)) HTab.out (by omega) (by omega) (by omega) nd HND.out).mono ?_
  rintro e w5 ⟨rfl, k5⟩
  have HW5 := bx (HW.out.from (k3.trans (k4.trans k5)))
  have HL5 := bx (HL.out.from (k3.trans (k4.trans k5)))
  have HF5 := bx (HF2.out.trans (k3.trans (k4.trans k5)))
  obtain ⟨C, hC⟩ : ∃ z, max nd (mo + es) + ex = z := ⟨_, rfl⟩
  have hCb : nd ≤ C ∧ mo + es ≤ C ∧ C ≤ 20000000 := by omega
  have HS0 := bx (show SafeAt t es su mo C a3 nd from ⟨by rw [HND.out]; exact Int.le_refl _, hCb.1⟩)
  clear k3 k4 k5 HL HW HF2 HMC HT
  go_wp2_with fail

  obtain ⟨V, hV⟩ : ∃ V, w5.alloc (.cells (bcs C nd mo) 23) = V := ⟨_, rfl⟩
  rw [hV]
  have HV := bx (show From w5 V ∧ BatC V w5.heap.size C nd mo by rw [← hV]; exact ⟨(From.refl _).alloc _, ⟨heap_alloc_new _ _⟩⟩)
  clear hV hC
  go_loopw [19, 20, 21] (fun v19 _ _ wr => ∃ (kx cv : Int), a3 ≤ kx ∧ kx ≤ a3 + 200 ∧ v19 = .int .i64 kx ∧ SafeAt t es su mo C kx cv ∧ From w5 wr ∧ BatC wr w5.heap.size C cv mo) (fun v19 _ _ _ => (a3 + 200 - intOf v19).toNat)
  case atStart => exact ⟨a3, nd, Int.le_refl _, by omega, rfl, HS0.out, HV.out.1, HV.out.2⟩
  case round =>
    clear HS0 HV
    obtain ⟨kx, cv, hk1, hk2, rfl, hst, hf, hbc⟩ := hrel
    have hke : 0 ≤ kx := by omega
    by_cases hlt : kx < en
    case neg =>
      have d1 : decide (kx < en) = false := decide_eq_false hlt
      go_wp2_with fail
      refine (lives_calls _).mono ?_
      rintro e w6 ⟨rfl, f6⟩
      go_wp2
      go_ret
      exact ⟨rfl, HF5.out.trans (hf.trans f6)⟩
    have d1 : decide (kx < en) = true := decide_eq_true hlt
    by_cases h200 : kx < a3 + 200
    case neg =>
      have d2 : decide (kx < a3 + 200) = false := decide_eq_false h200
      go_wp2_with fail
      refine (lives_calls _).mono ?_
      rintro e w6 ⟨rfl, f6⟩
      go_wp2
      go_ret
      exact ⟨rfl, HF5.out.trans (hf.trans f6)⟩
    have d2 : decide (kx < a3 + 200) = true := decide_eq_true h200
    case pos =>
      obtain ⟨z, hz⟩ : ∃ z, gainA t 0 su kx = z := ⟨_, rfl⟩
      have hge := gain_eq t HTab0.out 0 su kx
      have hzb : 0 ≤ z ∧ z ≤ 65535 := by rw [← hz, hge]; unfold gainT; split <;> omega
      obtain ⟨s, hs⟩ : ∃ s, stepB C cv mo z m = s := ⟨_, rfl⟩
      obtain ⟨gd, hgd⟩ : ∃ gd, gainB C cv z = gd := ⟨_, rfl⟩
      have hcv : 0 ≤ cv := by have h1 := hst.need; have h2 := needT_bd3 t HTab0.out 0 kx es su hke hem p2; omega
      have hcv2 := hst.le
      have hnx := SafeAt.next (l := m) (fr := a3) (by rw [HMO.out]; exact hst) hk1 (by rw [HEN.out]; exact hlt) HOK.out.ids (fun x hx => (HOK.out.pw x hx).1) HES.out (by rw [HMO.out]; exact hCb.2.1) z (by rw [← hz, hge]) s (by rw [HMO.out]; exact hs)
      rw [HMO.out] at hnx
      obtain ⟨nn, hnn⟩ : ∃ z, needT t 0 (kx + 1) es su = z := ⟨_, rfl⟩
      rw [hnn] at hnx
      obtain ⟨sc, su', ss, sb⟩ := s
      simp only at hnx
      obtain ⟨rfl, n2, n3⟩ := hnx
      have HNX := bx n3
      have HNN := bx hnn
      have HG := bx (fun (W : World) (kk : From wr W) => gain_calls A cc t 0 kx su W (HW5.out.from (hf.trans kk)) (by have := HTab.out.len; omega) HTab.out.bd z hz)
      have HST := bx (fun (W : World) (kk : From wr W) => (show Calls Try.prog 18 #[.agg #[.int .i64 C, .int .i64 cv, .int .i64 mo], .int .i64 z, .slice A2 m.length c2] W (fun e w' => ∃ A c, e = .returned (.tuple #[.agg #[.int .i64 C, .int .i64 sc, .int .i64 mo], .agg #[.int .i64 gd, .int .i64 su', .int .i64 (z - gd), .slice A ss.length c, .bool false]]) ∧ SlN W.heap.size w' (.slice A ss.length c) ss.length (ic ss) ∧ From W w') from step_calls C cv mo z A2 c2 m W (HL5.out.from (hf.trans kk)) (by omega) HOK.out.ids (by omega) (by omega) (by omega) (by omega) HPW.out gd hgd ⟨sc, su', ss, false⟩ hs))
      have HRV := bx (fun (W : World) (kk : From wr W) => need_calls A cc t 0 (kx + 1) es su W (HW5.out.from (hf.trans kk)) HTab.out (by omega) (by omega) (by omega) nn HNN.out)
      obtain ⟨a0, a1, a2, _, _, _⟩ := hbc.facts
      have HK := bx (fun (W : World) (kk : From wr W) => (show From wr W ∧ W.cell? ⟨w5.heap.size, 0, none⟩ = some (.int .i64 C) ∧ W.cell? ⟨w5.heap.size, 1, none⟩ = some (.int .i64 cv) ∧ W.cell? ⟨w5.heap.size, 2, none⟩ = some (.int .i64 mo) from ⟨kk, kk.cell a0, kk.cell a1, kk.cell a2⟩))
      have hFF : From wr wr := From.refl _
      have HBC := bx hbc
      have hwz := Below.size hf
      have hbl := (Array.getElem?_eq_some_iff.1 hbc.out).1
      have HFv := bx hf
      clear hst hge hz hs hgd hbc hf n3 hnn
      go_wp2_with fail
      refine region_cut (fun q0 a' w' => ∃ (x68 x69 x70 x71 x72 x73 x74 x75 x67 x76 x77 : Value) (bb bs : Nat) (u1 : Int) (A5 : Option Addr) (c5 : Nat), a' = puts q0 [(68, x68), (69, x69), (70, x70), (71, x71), (72, x72), (73, x73), (74, x74), (75, x75), (67, x67), (76, x76), (77, x77), (20, .pointer (some ⟨bb, 0, none⟩)), (21, .pointer (some ⟨bs, 0, none⟩))] ∧ From wr w' ∧ wr.heap.size ≤ bb ∧ wr.heap.size ≤ bs ∧ BatC w' bb C sc mo ∧ SupC w' bs gd u1 (z - gd) (.slice A5 ss.length c5) false) (fun K' HKK => ?_) ?_
      · go_region_held3 (fun W => From wr W ∧ W.cell? ⟨w5.heap.size, 0, none⟩ = some (.int .i64 C) ∧ W.cell? ⟨w5.heap.size, 1, none⟩ = some (.int .i64 cv) ∧ W.cell? ⟨w5.heap.size, 2, none⟩ = some (.int .i64 mo))
          (first | (go_split_ands; with_reducible refine HK.out _ ?_; repeat' (first | with_reducible assumption | with_reducible exact Nat.le_refl _ | with_reducible refine From.drew ?_ | with_reducible refine From.alloc ?_ _ | with_reducible refine From.setCell ?_ ?_ _ _ | omega)))
          (first | (go_at_call 31; (with_reducible refine (HG.out _ (show From wr _ by go_split_ands; assumption)).mono ?_); rintro e w3 ⟨rfl, k3⟩; have hkeep := From.trans (show From wr _ by go_split_ands; assumption) k3; have hz3 := Below.size k3; (try simp only [World.size_drew] at hz3); (try simp only [World.size_alloc] at hz3); (try simp only [World.size_drew] at hz3); (first | (have hl3 : wr.heap.size < w3.heap.size := (by omega)) | skip); (first | (have hl3' : wr.heap.size + 1 < w3.heap.size := (by omega)) | skip); (first | (have hbw30 : BatC w3 (wr.heap.size) 0 0 0 := ⟨(by first | with_reducible exact From.heap k3 (heap_alloc_new _ _) | with_reducible exact From.heap k3 (From.heap (From.drew (From.refl _)) (heap_alloc_new _ _)) | with_reducible exact From.heap k3 (heap_alloc_0 _ _ _) | with_reducible exact From.heap k3 (From.heap (From.drew (From.refl _)) (heap_alloc_0 _ _ _)) | with_reducible exact From.heap k3 (heap_alloc_1 _ _ _) | with_reducible exact From.heap k3 (heap_drew_n _ _) | with_reducible exact From.heap k3 (heap_drew_1 _ _ _) | with_reducible exact From.heap k3 (heap_drew_0 _ _ _) | with_reducible exact From.heap k3 (From.heap (From.drew (From.refl _)) (heap_alloc_1 _ _ _)))⟩; obtain ⟨hbw30_0, hbw30_1, hbw30_2, hbw30_3, hbw30_4, hbw30_5⟩ := hbw30.facts) | skip); (first | (have hsw30 : SupC w3 (wr.heap.size) 0 0 0 (.slice none 0 0) false := ⟨(by first | with_reducible exact From.heap k3 (heap_alloc_new _ _) | with_reducible exact From.heap k3 (From.heap (From.drew (From.refl _)) (heap_alloc_new _ _)) | with_reducible exact From.heap k3 (heap_alloc_0 _ _ _) | with_reducible exact From.heap k3 (From.heap (From.drew (From.refl _)) (heap_alloc_0 _ _ _)) | with_reducible exact From.heap k3 (heap_alloc_1 _ _ _) | with_reducible exact From.heap k3 (heap_drew_n _ _) | with_reducible exact From.heap k3 (heap_drew_1 _ _ _) | with_reducible exact From.heap k3 (heap_drew_0 _ _ _) | with_reducible exact From.heap k3 (From.heap (From.drew (From.refl _)) (heap_alloc_1 _ _ _)))⟩; obtain ⟨hsw30_0, hsw30_1, hsw30_2, hsw30_3, hsw30_4, hsw30_5, hsw30_6, hsw30_7, hsw30_8, hsw30_9⟩ := hsw30.facts) | skip); (first | (have hbw31 : BatC w3 (wr.heap.size + 1) 0 0 0 := ⟨(by first | with_reducible exact From.heap k3 (heap_alloc_new _ _) | with_reducible exact From.heap k3 (From.heap (From.drew (From.refl _)) (heap_alloc_new _ _)) | with_reducible exact From.heap k3 (heap_alloc_0 _ _ _) | with_reducible exact From.heap k3 (From.heap (From.drew (From.refl _)) (heap_alloc_0 _ _ _)) | with_reducible exact From.heap k3 (heap_alloc_1 _ _ _) | with_reducible exact From.heap k3 (heap_drew_n _ _) | with_reducible exact From.heap k3 (heap_drew_1 _ _ _) | with_reducible exact From.heap k3 (heap_drew_0 _ _ _) | with_reducible exact From.heap k3 (From.heap (From.drew (From.refl _)) (heap_alloc_1 _ _ _)))⟩; obtain ⟨hbw31_0, hbw31_1, hbw31_2, hbw31_3, hbw31_4, hbw31_5⟩ := hbw31.facts) | skip); (first | (have hsw31 : SupC w3 (wr.heap.size + 1) 0 0 0 (.slice none 0 0) false := ⟨(by first | with_reducible exact From.heap k3 (heap_alloc_new _ _) | with_reducible exact From.heap k3 (From.heap (From.drew (From.refl _)) (heap_alloc_new _ _)) | with_reducible exact From.heap k3 (heap_alloc_0 _ _ _) | with_reducible exact From.heap k3 (From.heap (From.drew (From.refl _)) (heap_alloc_0 _ _ _)) | with_reducible exact From.heap k3 (heap_alloc_1 _ _ _) | with_reducible exact From.heap k3 (heap_drew_n _ _) | with_reducible exact From.heap k3 (heap_drew_1 _ _ _) | with_reducible exact From.heap k3 (heap_drew_0 _ _ _) | with_reducible exact From.heap k3 (From.heap (From.drew (From.refl _)) (heap_alloc_1 _ _ _)))⟩; obtain ⟨hsw31_0, hsw31_1, hsw31_2, hsw31_3, hsw31_4, hsw31_5, hsw31_6, hsw31_7, hsw31_8, hsw31_9⟩ := hsw31.facts) | skip)) | (go_at_call 18; (with_reducible refine (HST.out _ (show From wr _ by go_split_ands; assumption)).mono ?_); rintro e w4 ⟨A5, c5, rfl, o5, k4⟩; have hkeep4 := From.trans (show From wr _ by go_split_ands; assumption) k4; have hz4 := Below.size k4; (try simp only [World.size_drew] at hz4); (try simp only [World.size_alloc] at hz4); (try simp only [World.size_drew] at hz4); (first | (have hl4 : w3.heap.size < w4.heap.size := (by omega)) | skip); (first | (have hl4' : w3.heap.size + 1 < w4.heap.size := (by omega)) | skip); (first | (have hl5 : wr.heap.size < w4.heap.size := (by omega)) | skip); (first | (have hl5' : wr.heap.size + 1 < w4.heap.size := (by omega)) | skip); (first | (have hbw40 : BatC w4 (wr.heap.size) 0 0 0 := ⟨(by first | with_reducible exact From.heap k4 hbw30.out | with_reducible exact From.heap k4 (From.heap ((From.refl _).alloc _) hbw30.out) | with_reducible exact From.heap k4 (From.heap ((From.refl _).drew) hbw30.out) | with_reducible exact From.heap k4 (From.heap (((From.refl _).alloc _).drew) hbw30.out))⟩; obtain ⟨hbw40_0, hbw40_1, hbw40_2, hbw40_3, hbw40_4, hbw40_5⟩ := hbw40.facts) | skip); (first | (have hsw40 : SupC w4 (wr.heap.size) 0 0 0 (.slice none 0 0) false := ⟨(by first | with_reducible exact From.heap k4 hsw30.out | with_reducible exact From.heap k4 (From.heap ((From.refl _).alloc _) hsw30.out) | with_reducible exact From.heap k4 (From.heap ((From.refl _).drew) hsw30.out) | with_reducible exact From.heap k4 (From.heap (((From.refl _).alloc _).drew) hsw30.out))⟩; obtain ⟨hsw40_0, hsw40_1, hsw40_2, hsw40_3, hsw40_4, hsw40_5, hsw40_6, hsw40_7, hsw40_8, hsw40_9⟩ := hsw40.facts) | skip); (first | (have hbw41 : BatC w4 (wr.heap.size + 1) 0 0 0 := ⟨(by first | with_reducible exact From.heap k4 hbw31.out | with_reducible exact From.heap k4 (From.heap ((From.refl _).alloc _) hbw31.out) | with_reducible exact From.heap k4 (From.heap ((From.refl _).drew) hbw31.out) | with_reducible exact From.heap k4 (From.heap (((From.refl _).alloc _).drew) hbw31.out))⟩; obtain ⟨hbw41_0, hbw41_1, hbw41_2, hbw41_3, hbw41_4, hbw41_5⟩ := hbw41.facts) | skip); (first | (have hsw41 : SupC w4 (wr.heap.size + 1) 0 0 0 (.slice none 0 0) false := ⟨(by first | with_reducible exact From.heap k4 hsw31.out | with_reducible exact From.heap k4 (From.heap ((From.refl _).alloc _) hsw31.out) | with_reducible exact From.heap k4 (From.heap ((From.refl _).drew) hsw31.out) | with_reducible exact From.heap k4 (From.heap (((From.refl _).alloc _).drew) hsw31.out))⟩; obtain ⟨hsw41_0, hsw41_1, hsw41_2, hsw41_3, hsw41_4, hsw41_5, hsw41_6, hsw41_7, hsw41_8, hsw41_9⟩ := hsw41.facts) | skip); (first | (have hbw42 : BatC w4 (w3.heap.size) 0 0 0 := ⟨(by first | with_reducible exact From.heap k4 (heap_alloc_new _ _) | with_reducible exact From.heap k4 (From.heap (From.drew (From.refl _)) (heap_alloc_new _ _)) | with_reducible exact From.heap k4 (heap_alloc_0 _ _ _) | with_reducible exact From.heap k4 (From.heap (From.drew (From.refl _)) (heap_alloc_0 _ _ _)) | with_reducible exact From.heap k4 (heap_alloc_1 _ _ _) | with_reducible exact From.heap k4 (heap_drew_n _ _) | with_reducible exact From.heap k4 (heap_drew_1 _ _ _) | with_reducible exact From.heap k4 (heap_drew_0 _ _ _) | with_reducible exact From.heap k4 (From.heap (From.drew (From.refl _)) (heap_alloc_1 _ _ _)))⟩; obtain ⟨hbw42_0, hbw42_1, hbw42_2, hbw42_3, hbw42_4, hbw42_5⟩ := hbw42.facts) | skip); (first | (have hsw42 : SupC w4 (w3.heap.size) 0 0 0 (.slice none 0 0) false := ⟨(by first | with_reducible exact From.heap k4 (heap_alloc_new _ _) | with_reducible exact From.heap k4 (From.heap (From.drew (From.refl _)) (heap_alloc_new _ _)) | with_reducible exact From.heap k4 (heap_alloc_0 _ _ _) | with_reducible exact From.heap k4 (From.heap (From.drew (From.refl _)) (heap_alloc_0 _ _ _)) | with_reducible exact From.heap k4 (heap_alloc_1 _ _ _) | with_reducible exact From.heap k4 (heap_drew_n _ _) | with_reducible exact From.heap k4 (heap_drew_1 _ _ _) | with_reducible exact From.heap k4 (heap_drew_0 _ _ _) | with_reducible exact From.heap k4 (From.heap (From.drew (From.refl _)) (heap_alloc_1 _ _ _)))⟩; obtain ⟨hsw42_0, hsw42_1, hsw42_2, hsw42_3, hsw42_4, hsw42_5, hsw42_6, hsw42_7, hsw42_8, hsw42_9⟩ := hsw42.facts) | skip); (first | (have hbw43 : BatC w4 (w3.heap.size + 1) 0 0 0 := ⟨(by first | with_reducible exact From.heap k4 (heap_alloc_new _ _) | with_reducible exact From.heap k4 (From.heap (From.drew (From.refl _)) (heap_alloc_new _ _)) | with_reducible exact From.heap k4 (heap_alloc_0 _ _ _) | with_reducible exact From.heap k4 (From.heap (From.drew (From.refl _)) (heap_alloc_0 _ _ _)) | with_reducible exact From.heap k4 (heap_alloc_1 _ _ _) | with_reducible exact From.heap k4 (heap_drew_n _ _) | with_reducible exact From.heap k4 (heap_drew_1 _ _ _) | with_reducible exact From.heap k4 (heap_drew_0 _ _ _) | with_reducible exact From.heap k4 (From.heap (From.drew (From.refl _)) (heap_alloc_1 _ _ _)))⟩; obtain ⟨hbw43_0, hbw43_1, hbw43_2, hbw43_3, hbw43_4, hbw43_5⟩ := hbw43.facts) | skip); (first | (have hsw43 : SupC w4 (w3.heap.size + 1) 0 0 0 (.slice none 0 0) false := ⟨(by first | with_reducible exact From.heap k4 (heap_alloc_new _ _) | with_reducible exact From.heap k4 (From.heap (From.drew (From.refl _)) (heap_alloc_new _ _)) | with_reducible exact From.heap k4 (heap_alloc_0 _ _ _) | with_reducible exact From.heap k4 (From.heap (From.drew (From.refl _)) (heap_alloc_0 _ _ _)) | with_reducible exact From.heap k4 (heap_alloc_1 _ _ _) | with_reducible exact From.heap k4 (heap_drew_n _ _) | with_reducible exact From.heap k4 (heap_drew_1 _ _ _) | with_reducible exact From.heap k4 (heap_drew_0 _ _ _) | with_reducible exact From.heap k4 (From.heap (From.drew (From.refl _)) (heap_alloc_1 _ _ _)))⟩; obtain ⟨hsw43_0, hsw43_1, hsw43_2, hsw43_3, hsw43_4, hsw43_5, hsw43_6, hsw43_7, hsw43_8, hsw43_9⟩ := hsw43.facts) | skip)))
        · refine HKK.out _ _ ⟨_, _, _, _, _, _, _, _, _, _, _, _, _, su', A5, c5, (by simp only [puts, Act.put, List.setIfInBounds_toArray, List.set_cons_zero, List.set_cons_succ]; rfl), ?_, ?_, ?_, ?_, ?_⟩
          · repeat' (first | with_reducible assumption | with_reducible refine From.alloc ?_ _ | with_reducible refine From.setCell ?_ ?_ _ _ | omega)
          · first | with_reducible exact Nat.le_refl _ | omega
          · first | with_reducible exact Nat.le_refl _ | omega
          · with_reducible exact ⟨heap_alloc_0 _ _ _⟩
          · with_reducible exact ⟨heap_alloc_1 _ _ _⟩
        · refine HKK.out _ _ ⟨_, _, _, _, _, _, _, _, _, _, _, _, _, su', A5, c5, (by simp only [puts, Act.put, List.setIfInBounds_toArray, List.set_cons_zero, List.set_cons_succ]; rfl), ?_, ?_, ?_, ?_, ?_⟩
          · repeat' (first | with_reducible assumption | with_reducible refine From.alloc ?_ _ | with_reducible refine From.setCell ?_ ?_ _ _ | omega)
          · first | with_reducible exact Nat.le_refl _ | omega
          · first | with_reducible exact Nat.le_refl _ | omega
          · with_reducible exact ⟨heap_alloc_1 _ _ _⟩
          · with_reducible exact ⟨heap_alloc_0 _ _ _⟩
        · refine HKK.out _ _ ⟨_, _, _, _, _, _, _, _, _, _, _, _, _, su', A5, c5, (by simp only [puts, Act.put, List.setIfInBounds_toArray, List.set_cons_zero, List.set_cons_succ]; rfl), ?_, ?_, ?_, ?_, ?_⟩
          · repeat' (first | with_reducible assumption | with_reducible refine From.alloc ?_ _ | with_reducible refine From.setCell ?_ ?_ _ _ | omega)
          · first | with_reducible exact Nat.le_refl _ | omega
          · first | with_reducible exact Nat.le_refl _ | omega
          · with_reducible exact BatC.from (bat_put3 hbw42 _ _ _) ((From.refl _).alloc _)
          · with_reducible exact ⟨heap_alloc_at _ _ _ (by simp)⟩
        · refine HKK.out _ _ ⟨_, _, _, _, _, _, _, _, _, _, _, _, _, su', A5, c5, (by simp only [puts, Act.put, List.setIfInBounds_toArray, List.set_cons_zero, List.set_cons_succ]; rfl), ?_, ?_, ?_, ?_, ?_⟩
          · repeat' (first | with_reducible assumption | with_reducible refine From.alloc ?_ _ | with_reducible refine From.setCell ?_ ?_ _ _ | omega)
          · first | with_reducible exact Nat.le_refl _ | omega
          · first | with_reducible exact Nat.le_refl _ | omega
          · with_reducible exact bat_off5 (bat_put3 hbw42 _ _ _) (by omega) _ _ _ _ _
          · with_reducible exact sup_put5 (sup_off3 hsw43 (by omega) _ _ _) _ _ _ _ _
        · refine HKK.out _ _ ⟨_, _, _, _, _, _, _, _, _, _, _, _, _, su', A5, c5, (by simp only [puts, Act.put, List.setIfInBounds_toArray, List.set_cons_zero, List.set_cons_succ]; rfl), ?_, ?_, ?_, ?_, ?_⟩
          · repeat' (first | with_reducible assumption | with_reducible refine From.alloc ?_ _ | with_reducible refine From.setCell ?_ ?_ _ _ | omega)
          · first | with_reducible exact Nat.le_refl _ | omega
          · first | with_reducible exact Nat.le_refl _ | omega
          · with_reducible exact ⟨heap_alloc_at _ _ _ (by simp)⟩
          · with_reducible exact SupC.from (sup_put5 hsw42 _ _ _ _ _) ((From.refl _).alloc _)
        · refine HKK.out _ _ ⟨_, _, _, _, _, _, _, _, _, _, _, _, _, su', A5, c5, (by simp only [puts, Act.put, List.setIfInBounds_toArray, List.set_cons_zero, List.set_cons_succ]; rfl), ?_, ?_, ?_, ?_, ?_⟩
          · repeat' (first | with_reducible assumption | with_reducible refine From.alloc ?_ _ | with_reducible refine From.setCell ?_ ?_ _ _ | omega)
          · first | with_reducible exact Nat.le_refl _ | omega
          · first | with_reducible exact Nat.le_refl _ | omega
          · with_reducible exact bat_off5 (bat_put3 hbw43 _ _ _) (by omega) _ _ _ _ _
          · with_reducible exact sup_put5 (sup_off3 hsw42 (by omega) _ _ _) _ _ _ _ _
        · refine HKK.out _ _ ⟨_, _, _, _, _, _, _, _, _, _, _, _, _, su', A5, c5, (by simp only [puts, Act.put, List.setIfInBounds_toArray, List.set_cons_zero, List.set_cons_succ]; rfl), ?_, ?_, ?_, ?_, ?_⟩
          · repeat' (first | with_reducible assumption | with_reducible refine From.alloc ?_ _ | with_reducible refine From.setCell ?_ ?_ _ _ | omega)
          · first | with_reducible exact Nat.le_refl _ | omega
          · first | with_reducible exact Nat.le_refl _ | omega
          · with_reducible exact BatC.from (bat_put3 hbw40 _ _ _) ((From.refl _).alloc _)
          · with_reducible exact ⟨heap_alloc_at _ _ _ (by simp)⟩
        · refine HKK.out _ _ ⟨_, _, _, _, _, _, _, _, _, _, _, _, _, su', A5, c5, (by simp only [puts, Act.put, List.setIfInBounds_toArray, List.set_cons_zero, List.set_cons_succ]; rfl), ?_, ?_, ?_, ?_, ?_⟩
          · repeat' (first | with_reducible assumption | with_reducible refine From.alloc ?_ _ | with_reducible refine From.setCell ?_ ?_ _ _ | omega)
          · first | with_reducible exact Nat.le_refl _ | omega
          · first | with_reducible exact Nat.le_refl _ | omega
          · with_reducible exact bat_off5 (bat_put3 hbw40 _ _ _) (by omega) _ _ _ _ _
          · with_reducible exact sup_put5 (sup_off3 hsw42 (by omega) _ _ _) _ _ _ _ _
        · refine HKK.out _ _ ⟨_, _, _, _, _, _, _, _, _, _, _, _, _, su', A5, c5, (by simp only [puts, Act.put, List.setIfInBounds_toArray, List.set_cons_zero, List.set_cons_succ]; rfl), ?_, ?_, ?_, ?_, ?_⟩
          · repeat' (first | with_reducible assumption | with_reducible refine From.alloc ?_ _ | with_reducible refine From.setCell ?_ ?_ _ _ | omega)
          · first | with_reducible exact Nat.le_refl _ | omega
          · first | with_reducible exact Nat.le_refl _ | omega
          · with_reducible exact bat_off5 (bat_put3 hbw40 _ _ _) (by omega) _ _ _ _ _
          · with_reducible exact sup_put5 (sup_off3 hsw41 (by omega) _ _ _) _ _ _ _ _
        · refine HKK.out _ _ ⟨_, _, _, _, _, _, _, _, _, _, _, _, _, su', A5, c5, (by simp only [puts, Act.put, List.setIfInBounds_toArray, List.set_cons_zero, List.set_cons_succ]; rfl), ?_, ?_, ?_, ?_, ?_⟩
          · repeat' (first | with_reducible assumption | with_reducible refine From.alloc ?_ _ | with_reducible refine From.setCell ?_ ?_ _ _ | omega)
          · first | with_reducible exact Nat.le_refl _ | omega
          · first | with_reducible exact Nat.le_refl _ | omega
          · with_reducible exact ⟨heap_alloc_at _ _ _ (by simp)⟩
          · with_reducible exact SupC.from (sup_put5 hsw40 _ _ _ _ _) ((From.refl _).alloc _)
        · refine HKK.out _ _ ⟨_, _, _, _, _, _, _, _, _, _, _, _, _, su', A5, c5, (by simp only [puts, Act.put, List.setIfInBounds_toArray, List.set_cons_zero, List.set_cons_succ]; rfl), ?_, ?_, ?_, ?_, ?_⟩
          · repeat' (first | with_reducible assumption | with_reducible refine From.alloc ?_ _ | with_reducible refine From.setCell ?_ ?_ _ _ | omega)
          · first | with_reducible exact Nat.le_refl _ | omega
          · first | with_reducible exact Nat.le_refl _ | omega
          · with_reducible exact bat_off5 (bat_put3 hbw42 _ _ _) (by omega) _ _ _ _ _
          · with_reducible exact sup_put5 (sup_off3 hsw40 (by omega) _ _ _) _ _ _ _ _
        · refine HKK.out _ _ ⟨_, _, _, _, _, _, _, _, _, _, _, _, _, su', A5, c5, (by simp only [puts, Act.put, List.setIfInBounds_toArray, List.set_cons_zero, List.set_cons_succ]; rfl), ?_, ?_, ?_, ?_, ?_⟩
          · repeat' (first | with_reducible assumption | with_reducible refine From.alloc ?_ _ | with_reducible refine From.setCell ?_ ?_ _ _ | omega)
          · first | with_reducible exact Nat.le_refl _ | omega
          · first | with_reducible exact Nat.le_refl _ | omega
          · with_reducible exact bat_off5 (bat_put3 hbw41 _ _ _) (by omega) _ _ _ _ _
          · with_reducible exact sup_put5 (sup_off3 hsw40 (by omega) _ _ _) _ _ _ _ _
      rintro a' w9 ⟨x68, x69, x70, x71, x72, x73, x74, x75, x67, x76, x77, bb, bs, u1, A5, c5, rfl, k9, hbb9, hbs9, hB9, hS9⟩
      rename_i K0 hK0
      apply hK0
      simp only [puts, Act.put, List.setIfInBounds_toArray, List.set_cons_zero, List.set_cons_succ]
      clear HG HST HK hFF a0 a1 a2
      have hB8 := BatC.from HBC.out k9
      obtain ⟨m0, m1, m2, m3, m4, m5⟩ := hB8.facts
      obtain ⟨e0, e1, e2, e3, e4, e5⟩ := hB9.facts
      obtain ⟨s0, s1, s2, s3, s4, s5, s6, s7, s8, s9⟩ := hS9.facts
      have B8 := bx hB8
      have B9 := bx hB9
      have K9 := bx k9
      have hbb9' := (Array.getElem?_eq_some_iff.1 hB9.out).1
      have HR := bx (fun (W : World) (kk : From w9 W) => need_calls A cc t 0 (kx + 1) es su W (HW5.out.from (HFv.out.trans (K9.out.trans kk))) HTab.out (by omega) (by omega) (by omega) nn HNN.out)
      have HKK := bx (fun (W : World) (kk : From w9 W) => (show From w9 W ∧ W.cell? ⟨bs, 4, none⟩ = some (.bool false) ∧ W.cell? ⟨bb, 1, none⟩ = some (.int .i64 sc) from ⟨kk, kk.cell s4, kk.cell e1⟩))
      have hFF : From w9 w9 := From.refl _
      have hwk : IntKind.i64.wrap (kx + 1) = kx + 1 := IntWalk.i64_in _ (by omega)
      clear hB8 hB9 hS9 k9 hK0 HRV
      go_wp2_with fail
      go_region_held3 (fun W => From w9 W ∧ W.cell? ⟨bs, 4, none⟩ = some (.bool false) ∧ W.cell? ⟨bb, 1, none⟩ = some (.int .i64 sc))
        (first | (go_split_ands; with_reducible refine HKK.out _ ?_; repeat' (first | with_reducible assumption | with_reducible refine From.drew ?_ | with_reducible refine From.alloc ?_ _)))
        (first | (go_at_call 24; (with_reducible refine (HR.out _ (show From w9 _ by go_split_ands; assumption)).mono ?_); rintro e w6 ⟨rfl, k6⟩; have hkeep := From.trans (show From w9 _ by go_split_ands; assumption) k6))
      all_goals
        have d3 : decide (sc < nn) = false := decide_eq_false (by omega)
        have hk6 : From w9 w6 := by first | exact hkeep | exact hkeep.drew
        have hB6 := B8.out.from hk6
        obtain ⟨b0, b1, b2, b3, b4, b5⟩ := hB6.facts
        obtain ⟨c0', c1', c2', _, _, _⟩ := (B9.out.from hk6).facts
        have K6 := bx hk6
        have B6 := bx hB6
        clear hB6 hk6 hkeep m0 m1 m2 m3 m4 m5 e0 e1 e2 e3 e4 e5 s0 s1 s2 s3 s4 s5 s6 s7 s8 s9
        go_wp2
        go_roundw
        case rel =>
          refine ⟨kx + 1, sc, by omega, by omega, by go_num, HNX.out, ?_, bat_put3 B6.out C sc mo⟩
          exact (((HFv.out.trans (K9.out.trans K6.out)).setCell (Nat.le_refl _) _ _).setCell (Nat.le_refl _) _ _).setCell (Nat.le_refl _) _ _
        case measure => simp [intOf]; omega
set_option maxRecDepth 100000 in
theorem saf_lifted (os : Os) (started : os.Started) (H : Type) (enc : TypeId × Value → H) :
    ReturnsInHanded {} Try.checked os 11 .any (Rows.powerSafeSpec.pre6 enc Try.prog Try.f11 Rows.powerSafeRow.domain false) (Rows.powerSafeSpec.post enc Try.prog Try.f11 false true false false) := by
  refine returnsInHanded_of_change (C := Try.checked) own started (by kernel_rfl) Try.func11
    (ChangeSpec.witness6 (enc := enc) (C := Try.checked) false ⟨#[], #[.slice none 0 0, .slice none 0 0, .int .u16 0, .int .u8 0, .int .u16 0], []⟩ 8 (by kernel_rfl) (by kernel_rfl) (by kernel_rfl) (by kernel_rfl)) ?_
  intro W base args ds gs before hval0 hW hcnd _
  have hval : ∀ (j : Nat) t v, Try.f11.params[j]? = some t → args[j]? = some v → Value.okWide Try.prog W .any base t v := hval0
  have hW' := hW
  obtain ⟨p, q, hA0, hV, rfl, hfz, hnd⟩ := hW
  have hA : DataW.TrodAll enc Try.prog W 0 (fun _ => true) true Try.f11.params.toList args.toList ds p := hA0
  rw [Try.params11] at hA hval
  obtain ⟨v0, vs0, d0, ds0, p0, q0, hargs, rfl, rfl, h0, r0⟩ := trodAll_cons hA
  obtain ⟨v1, vs1, d1, ds1, p1, q1, rfl, rfl, rfl, h1, r1⟩ := trodAll_cons r0
  obtain ⟨v2, vs2, d2, ds2, p2, q2, rfl, rfl, rfl, h2, r2⟩ := trodAll_cons r1
  obtain ⟨v3, vs3, d3, ds3, p3, q3, rfl, rfl, rfl, h3, r3⟩ := trodAll_cons r2
  obtain ⟨v4, vs4, d4, ds4, p4, q4, rfl, rfl, rfl, h4, r4⟩ := trodAll_cons r3
  obtain ⟨rfl, rfl, rfl⟩ := trodAll_nil r4
  obtain rfl : args = #[v0, v1, v2, v3, v4] := by cases args; simp_all
  obtain ⟨rfl, rfl⟩ := trodVars_none hV
  obtain ⟨A0, c0, l0, rfl, hB0, hm0, hx0⟩ := open_half (hval 0 44 v0 rfl rfl) h0
  obtain ⟨A1, c1, l1, rfl, hB1, hm1, hcap1, hx1⟩ := open_loads (hval 1 24 v1 rfl rfl) h1
  obtain ⟨a2, rfl, _, _, w2⟩ := open_int Try.underlying38 (hval 2 38 v2 rfl rfl) h2
  simp only [Lit.wf, Bool.and_eq_true, decide_eq_true_eq] at w2
  obtain ⟨a3, rfl, _, _, w3⟩ := open_int Try.underlying5 (hval 3 5 v3 rfl rfl) h3
  simp only [Lit.wf, Bool.and_eq_true, decide_eq_true_eq] at w3
  obtain ⟨a4, rfl, _, _, w4⟩ := open_int Try.underlying38 (hval 4 38 v4 rfl rfl) h4
  simp only [Lit.wf, Bool.and_eq_true, decide_eq_true_eq] at w4
  refine (saf_walk A0 c0 l0 A1 c1 l1 a2 a3 a4 W hB0 hm0 hx0 hB1 hm1 hcap1 hx1 w2.1 w2.2 w3.1 w3.2 w4.1 w4.2).mono fun e W' ⟨he, hb⟩ => ?_
  subst he
  exact ⟨_, rfl, law_post Try.laid (by kernel_rfl) rfl rfl Try.underlying4 rfl hW' hb⟩
theorem saf_facts : joinedFacts Try.prog 11 Try.f11 Rows.powerSafeSpec Rows.powerSafeRow = true := by
  unfold joinedFacts
  rw [fact_enter, fact_lift, fact_make, fact_keys, fact_heard, fact_maps, Try.laid]
  kernel_rfl
theorem saf_holds : Rows.PowerSafeSaid :=
  OpenClaim.holds_of_wide 11 Try.f11 rfl rfl rfl rfl rfl rfl rfl ⟨rfl, rfl, rfl, rfl, rfl⟩ rfl rfl rfl rfl rfl (by kernel_rfl) Try.func11 saf_facts
    (of_decide_eq_true (by kernel_rfl)) (by unfold Func.isWrapper; first | (rw [if_pos (by decide +kernel)]; kernel_rfl) | (rw [if_neg (by decide +kernel)]; exact ⟨rfl, rfl⟩))
    (fun os started H enc _ => saf_lifted os started H enc)
#print axioms saf_holds
end Go.Proofs.Ytamfifndddldcaa
