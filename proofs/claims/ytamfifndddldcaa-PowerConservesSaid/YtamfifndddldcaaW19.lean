/-
  Walk of layer 10's specification: Made.
-/
import Derived.Test.YtamfifndddldcaaW14
namespace Go.Proofs.Ytamfifndddldcaa
open Go.RowKit Go.Shelf

set_option maxHeartbeats 4000000 in
theorem madeL_calls (A0 : Option Addr) (c0 : Nat) (l : List Lo) (w : World) (h : Loads w (.slice A0 l.length c0) l) (hm : l.length ≤ 9223372036854775807) :
    Calls Try.prog 13 #[.slice A0 l.length c0] w (LoPost w (madeL l)) := by
  have H := bx h
  clear h
  go_enter Try.func13, Try.ntmps13
  go_wp2
  go_loopw [3, 4, 5, 6, 7] (fun v3 v4 _ _ _ wr => ∃ (i : Nat) (A2 : Option Addr) (c2 : Nat) (acc : List Lo), i ≤ l.length ∧ i ≤ 10 ∧ v4 = .int .i64 i ∧ v3 = .slice A2 acc.length c2 ∧ wr.ownsRow w.heap.size 41 4 (.slice A2 acc.length c2) acc.length (acc.flatMap lcs) ∧ From w wr ∧ acc.length ≤ i ∧ madeF acc ((l.drop i).take (10 - i)) = madeL l) (fun _ v4 _ _ _ _ => 10 - (intOf v4).toNat)
  case atStart => exact ⟨0, none, 0, [], by omega, by omega, rfl, rfl, own_nil _ _ _ _, From.refl _, by simp, by simp [madeL]⟩
  case round =>
    obtain ⟨i, A2, c2, acc, hi, hi10, rfl, rfl, hown, hf, hlen, hres⟩ := hrel
    by_cases hlt : i < l.length
    case neg =>
      obtain rfl : i = l.length := by omega
      rw [madeF_stop l _ (.inl (Nat.le_refl _))] at hres
      have HO := bx hown
      have HR := bx hres
      clear hres hown
      have d1 : decide (((l.length : Nat) : Int) < (l.length : Int)) = false := decide_eq_false (by omega)
      go_wp2
      go_ret
      rw [← HR.out]
      exact ⟨A2, c2, rfl, HO.out, hf⟩
    by_cases h10 : i < 10
    case neg =>
      obtain rfl : i = 10 := by omega
      rw [madeF_stop l _ (.inr (Nat.le_refl _))] at hres
      have HO := bx hown
      have HR := bx hres
      clear hres hown
      have d1 : decide (((10 : Nat) : Int) < (l.length : Int)) = true := decide_eq_true (by omega)
      go_wp2
      go_ret
      rw [← HR.out]
      exact ⟨A2, c2, rfl, HO.out, hf⟩
    obtain ⟨b, off, rfl, hb, q0, q1, q2, q3⟩ := loads_at (H.out.from hf) hlt
    rw [madeF_step l i hlt h10] at hres
    have d1 : decide ((i : Int) < (l.length : Int)) = true := decide_eq_true (by omega)
    have d2 : decide ((i : Int) < 10) = true := decide_eq_true (by omega)
    obtain ⟨Y, hY⟩ : ∃ Y, l[i] = Y := ⟨_, rfl⟩
    rw [hY] at q0 q1 q2 q3 hres
    obtain ⟨y0, y1, y2, y3⟩ := Y
    unfold mkLo at hres
    simp only at q0 q1 q2 q3 hres
    obtain ⟨u, hu⟩ : ∃ u, IntKind.u64.wrap y1 = u := ⟨_, rfl⟩
    have hu0 : 0 ≤ u := by rw [← hu]; exact u64_bd _
    rw [hu] at hres
    have hp := tmod_bd (m := 1000) hu0 (by omega)
    rw [show (1000 : Int) + 1 = 1001 from rfl] at hp
    obtain ⟨p, hpp⟩ : ∃ p, u.tmod 1001 = p := ⟨_, rfl⟩
    rw [hpp] at hp hres
    have hwp : IntKind.i64.wrap p = p := IntWalk.i64_in _ (by omega)
    have HO := bx hown
    have HR := bx hres
    have hfl : From wr wr := From.refl _
    clear hres hown hY
    go_wp2
    obtain ⟨V, hV⟩ : ∃ V, wr.alloc (.cells #[.int .i64 y0, .int .i64 p, .int .i64 y2, .bool y3] 41) = V := ⟨_, rfl⟩
    have hz : V.heap.size = wr.heap.size + 1 := by rw [← hV]; simp
    have fV : From wr V := by rw [← hV]; exact hfl.alloc _
    have hbx : V.heap[wr.heap.size]? = some (.cells #[.int .i64 y0, .int .i64 p, .int .i64 y2, .bool y3] 41 (0, 0)) := by rw [← hV]; exact heap_alloc_new _ _
    rw [hV]
    have HOV := bx (own_call HO.out fV)
    have HB := bx hbx
    have HF := bx (hf.trans fV)
    have hlow : w.heap.size ≤ wr.heap.size := Below.size hf
    clear hV fV hbx q0 q1 q2 q3 hfl hf hwp hpp hu HO
    generalize wr.heap.size = N at *
    clear wr
    go_loopw [6, 7] (fun v6 v7 wr => ∃ j : Nat, j ≤ acc.length ∧ v7 = .int .i64 j ∧ v6 = .bool (hasId y0 (acc.take j)) ∧ From V wr) (fun _ v7 _ => acc.length - (intOf v7).toNat)
    case atStart => exact ⟨0, by omega, rfl, by simp [hasId], From.refl _⟩
    case round =>
      obtain ⟨j, hj, rfl, rfl, hq⟩ := hrel
      by_cases hjk : j < acc.length
      · have d4 : decide ((j : Int) < (acc.length : Int)) = true := decide_eq_true (by omega)
        obtain ⟨b2, off2, rfl, _, c4, _, _, _⟩ := loads_at (loads_of_own (own_call HOV.out hq)) hjk
        have hc5 := hq.heap HB.out
        have c5 : wr.cell? ⟨N, 0, none⟩ = some (.int .i64 y0) := by rw [cell_of_row _ _ _ _ _ _ hc5]; rfl
        have he := hasId_take y0 acc j hjk
        obtain ⟨z, hz2⟩ : ∃ z, acc[j].id = z := ⟨_, rfl⟩
        rw [hz2] at c4 he
        obtain ⟨kn, hkn⟩ : ∃ kn, hasId y0 (acc.take j) = kn := ⟨_, rfl⟩
        rw [hkn] at he ⊢
        have HE := bx he
        have HQ := bx hq
        clear he hz2 hkn hq hc5
        cases kn with
        | true =>
          go_wp2_with fail
          go_quiet (fail)
          go_wp2
          go_roundw
          case rel => exact ⟨j + 1, by omega, by go_num, by rw [HE.out]; rfl, HQ.out.drewN _⟩
          case measure => simp [intOf]; omega
        | false =>
          by_cases hzy : z = y0
          · subst hzy
            go_wp2_with fail
            go_quiet (fail)
            go_wp2
            go_roundw
            case rel => exact ⟨j + 1, by omega, by go_num, by rw [HE.out]; simp, HQ.out.drewN _⟩
            case measure => simp [intOf]; omega
          · have d5 : (z == y0) = false := by simpa using hzy
            go_wp2_with fail
            go_quiet (fail)
            go_wp2
            go_roundw
            case rel => exact ⟨j + 1, by omega, by go_num, by rw [HE.out]; simp [hzy], HQ.out.drewN _⟩
            case measure => simp [intOf]; omega
      · obtain rfl : j = acc.length := by omega
        have d4 : decide (((acc.length : Nat) : Int) < (acc.length : Int)) = false := decide_eq_false (by omega)
        rw [List.take_length]
        obtain ⟨kn, hkn⟩ : ∃ kn, hasId y0 acc = kn := ⟨_, rfl⟩
        have hres := HR.out
        rw [hkn] at hres ⊢
        have hc5 := hq.heap HB.out
        have c5 : wr.cell? ⟨N, 0, none⟩ = some (.int .i64 y0) := by rw [cell_of_row _ _ _ _ _ _ hc5]; rfl
        have c6 : wr.cell? ⟨N, 1, none⟩ = some (.int .i64 p) := by rw [cell_of_row _ _ _ _ _ _ hc5]; rfl
        have c7 : wr.cell? ⟨N, 2, none⟩ = some (.int .i64 y2) := by rw [cell_of_row _ _ _ _ _ _ hc5]; rfl
        have c8 : wr.cell? ⟨N, 3, none⟩ = some (.bool y3) := by rw [cell_of_row _ _ _ _ _ _ hc5]; rfl
        have HQ := bx hq
        have HOQ := bx (own_call HOV.out hq)
        have hs2 := Below.size hq
        have HL := bx hlen
        clear hkn hc5 HR hq hlen
        cases kn with
        | true =>
          rw [if_pos rfl] at hres
          have HR := bx hres
          clear hres
          go_wp2
          go_roundw
          case rel => exact ⟨i + 1, A2, c2, acc, by omega, by omega, by go_num, rfl, HOQ.out, HF.out.trans HQ.out, by have := HL.out; omega, HR.out⟩
          case measure => simp [intOf]; omega
        | false =>
          rw [if_neg (by simp)] at hres
          have HR := bx hres
          clear hres
          go_wp2_with (at_builtin; refine app_sl rfl _ _ 24 rfl Try.elLo rfl (HOQ.out.alloc _) 1 (lcs ⟨y0, p, y2, y3⟩) rfl (sl_new wr (lcs ⟨y0, p, y2, y3⟩) 41 1 1) rfl (lcs_one _) (by have := HL.out; omega) (by have := HL.out; unfold maxLen; omega) (by simp; omega) ?_; intro A3 c3 w3 o3 g3 _)
          go_roundw
          case rel =>
            refine ⟨i + 1, A3, c3, acc ++ [⟨y0, p, y2, y3⟩], by omega, by omega, by go_num, by simp, ?_, ?_, by have := HL.out; simp; omega, HR.out⟩
            · simpa [List.length_append, List.flatMap_append] using o3
            · exact From.app ((HF.out.trans HQ.out).alloc _) (HOQ.out.alloc _) (Nat.le_refl _) g3
          case measure => simp [intOf]; omega
end Go.Proofs.Ytamfifndddldcaa
