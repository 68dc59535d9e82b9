/-
  Walks: perigeeref01.Sorted, perigeeref29.Raised.
-/
import Derived.Test.YtlogokjjphlkkaaW26
namespace Go.Proofs.Ytlogokjjphlkkaa
open Go.RowKit Go.Shelf

theorem sl_empty (w : World) (B : Nat) (a : Option Addr) (c : Nat) (h : a = none → c = 0) : Sl w B (.slice a 0 c) 0 [] := by
  cases a with
  | none => rw [h rfl]; exact Sl.nil _ _
  | some a => exact ⟨.inr ⟨_, _, rfl, fun j u hj => by simp at hj⟩⟩
set_option maxRecDepth 100000 in
set_option maxHeartbeats 4000000 in
theorem sorted_calls (A : Option Addr) (c : Nat) (xs : List Int) (w : World) (h : Ints w (.slice A xs.length c) xs) (hm : xs.length ≤ 1000) (r : List Int) (hr : sortedI xs = r) :
    Calls Try.prog 112 #[.slice A xs.length c] w (IntsPost w r) := by
  have H := bx h
  have HR := bx hr
  clear h hr
  go_enter Try.func112, Try.ntmps112
  go_wp2_with fail
  go_loopw [3, 4, 5, 6] (fun v i _ _ wr => ∃ k : Nat, k ≤ xs.length ∧ i = .int .i64 k ∧ wr.ownsRow w.heap.size 3 1 v k (ic (sortedI (xs.take k))) ∧ From w wr) (fun _ i _ _ _ => xs.length - (intOf i).toNat)
  case atStart => exact ⟨0, Nat.zero_le _, rfl, own_nil _ _ _ _, From.refl _⟩
  case round =>
    obtain ⟨k, hk, rfl, hown, hbw⟩ := hrel
    obtain ⟨wo, hwo⟩ : ∃ z, z = wr := ⟨_, rfl⟩
    subst hwo
    have HO := bx hown
    have HB := bx hbw
    by_cases hlt : k < xs.length
    · have z3 : decide ((k : Int) < (xs.length : Int)) = true := decide_eq_true (by omega)
      have y1 : (k : Int) < (xs.length : Int) := by omega
      have y2 : (0 : Int) ≤ (k : Int) := by omega
      have hS : sortedI (xs.take (k + 1)) = insI xs[k] (sortedI (xs.take k)) := by rw [List.take_succ_eq_append_getElem hlt, sortedI_snoc]
      have hal : (sortedI (xs.take k)).length = k := by rw [sortedI_len, List.length_take]; omega
      obtain ⟨b, off, rfl, hb, xcell⟩ := ints_at (H.out.from hbw) hlt
      have HS := bx hS
      clear hS hown hbw
      obtain ⟨acc, hacc⟩ : ∃ z, sortedI (xs.take k) = z := ⟨_, rfl⟩
      rw [hacc] at HO HS hal
      clear hacc
      obtain ⟨x, hx⟩ : ∃ z, xs[k] = z := ⟨_, rfl⟩
      rw [hx] at HS xcell
      clear hx
      have HXC := bx xcell
      obtain ⟨A1, c1, rfl⟩ := slice_form HO.out
      have hroom := (own_room HO.out rfl).1
      have HAC := bx (show Sl wo wo.heap.size (.slice A1 k c1) k (ic acc) from sl_of_own HO.out)
      have HNN := bx (own_room HO.out rfl).2
      have HAL := bx hal
      clear hal
      go_wp2_with fail
      go_loopw [5] (fun j wi => ∃ q : Nat, q ≤ k ∧ j = .int .i64 q ∧ (∀ i (hi : i < acc.length), i < q → acc[i] < x) ∧ ∃ nq, wi = wo.drewN nq) (fun j _ => k - (intOf j).toNat)
      case atStart => exact ⟨0, Nat.zero_le _, rfl, fun i _ h => absurd h (by omega), 0, rfl⟩
      case round =>
        obtain ⟨q, hq, rfl, hall, nq0, hwi⟩ := hrel
        have kd : From wo wr := by rw [hwi]; exact From.drewN (From.refl _) _
        have HALL := bx hall
        have HWI := bx hwi
        clear hall hwi
        have xc := kd.cell xcell
        by_cases hqk : q < k
        · have hql : q < acc.length := by rw [HAL.out]; exact hqk
          have z4 : decide ((q : Int) < (k : Int)) = true := decide_eq_true (by omega)
          have y4 : (q : Int) < (k : Int) := by omega
          have y5 : (0 : Int) ≤ (q : Int) := by omega
          obtain ⟨b1, off1, rfl, hb1, acell⟩ := ints_at (HAC.out.from kd) hql
          obtain ⟨y, hy⟩ : ∃ z, acc[q] = z := ⟨_, rfl⟩
          rw [hy] at acell
          have HY := bx hy
          clear hy
          by_cases hyx : y < x
          · have z6 : decide (y < x) = true := decide_eq_true hyx
            go_wp2_with fail
            go_quiet (fail)
            go_wp2
            go_roundw
            case rel => exact ⟨q + 1, by omega, by go_num, fun i hi hiq => by
              by_cases he : i = q
              · subst he; rw [HY.out]; exact hyx
              · exact HALL.out i hi (by omega), nq0 + nq, by rw [HWI.out, drewN_add]⟩
            case measure => simp [intOf]; omega
          · have z6 : decide (y < x) = false := decide_eq_false hyx
            have hN : insI x acc = acc.take q ++ x :: acc.drop q := insI_at x acc q (by omega) (fun i hi h => HALL.out i hi h) (fun _ => by rw [HY.out]; exact hyx)
            have HN := bx hN
            clear hN
            go_wp2_with fail
            go_quiet (fail)
            have k7 : From wo (wr.drewN nq) := From.drewN kd nq
            clear xc xcell acell
            generalize wr.drewN nq = W7 at *
            have hs7 := Below.size (HB.out.trans k7)
            have he : q + 1 + (k - q) = k + 1 := by omega
            have SA := bx (show Sl W7 W7.heap.size (.slice (some ⟨b1, off1, none⟩) q c1) q (ic (acc.take q)) by have := sl_take (HAC.out.from k7) q (by omega); rwa [show (ic acc).take q = ic (acc.take q) by simp [ic]] at this)
            have SB := bx (show Sl W7 W7.heap.size (.slice (some ⟨b1, off1 + q, none⟩) (k - q) (c1 - q)) (k - q) (ic (acc.drop q)) by (have := sl_drop (HAC.out.from k7) q; rwa [show (ic acc).drop q = ic (acc.drop q) by simp [ic]] at this))
            have hla : (ic (acc.take q)).length = q * 1 := by rw [ic_len, List.length_take, HAL.out]; omega
            have hlb : (ic (acc.drop q)).length = (k - q) * 1 := by rw [ic_len, List.length_drop, HAL.out]; omega
            go_upto_region 10 with (at_builtin; refine app_sl rfl _ _ 22 rfl Try.elInt rfl (own_nil W7 W7.heap.size _ _) q (ic (acc.take q)) rfl SA.out hla (ic_one _) (by omega) (by unfold maxLen; omega) (Nat.le_refl _) ?_; intro A6 c6 w8 o8 g8 _)
            have k8 : From W7 w8 := From.app (From.refl _) (own_nil W7 W7.heap.size 3 1) (Nat.le_refl _) g8
            have hs8 := Below.size k8
            rw [Nat.zero_add, List.nil_append] at o8
            try simp only [Nat.zero_add]
            have xc8 := (k7.trans k8).cell HXC.out
            go_upto_region 11 with (at_builtin; refine app_sl rfl _ _ 22 rfl Try.elInt rfl (o8.alloc _) 1 [.int .i64 x] rfl (sl_new w8 [.int .i64 x] 3 1 1) rfl (by simp [Value.oneCell']) (by omega) (by unfold maxLen; omega) (by simp; omega) ?_; intro A7 c7 w9 o9 g9 _)
            have k9 : From W7 w9 := From.app (k8.alloc _) (o8.alloc _) (Nat.le_refl _) g9
            have hs9 := Below.size k9
            clear xc8 o8 g8 g9
            go_wp2_with (at_builtin; refine app_sl rfl _ _ 22 rfl Try.elInt rfl o9 (k - q) (ic (acc.drop q)) rfl (SB.out.from k9) hlb (ic_one _) (by omega) (by unfold maxLen; omega) hs9 ?_; intro A8 c8 wA oA gA _)
            have kA : From W7 wA := From.app k9 o9 (Nat.le_refl _) gA
            have HFN := bx (show wA.ownsRow w.heap.size 3 1 (.slice A8 (k + 1) c8) (k + 1) (ic (sortedI (xs.take (k + 1)))) by
              rw [HS.out, HN.out]
              rw [he] at oA
              have := own_base oA hs7
              simpa [ic] using this)
            have HFF := bx ((HB.out.trans k7).trans kA)
            clear oA gA o9 k8 k9 kA
            go_wp2
            go_roundw
            case rel => exact ⟨k + 1, by omega, by go_num, HFN.out, HFF.out⟩
            case measure => simp [intOf]; omega
        · obtain rfl : q = k := by omega
          have z4 : decide ((q : Int) < (q : Int)) = false := decide_eq_false (by omega)
          have hN : insI x acc = acc.take q ++ x :: acc.drop q := insI_at x acc q (by rw [HAL.out]; omega) (fun i hi h => HALL.out i hi h) (fun h => absurd h (by rw [HAL.out]; omega))
          have HN := bx hN
          clear hN
          go_wp2_with fail
          go_quiet (fail)
          by_cases hck : q = c1
          · subst hck
            have k7 : From wo (wr.drewN nq) := From.drewN kd nq
            clear xc xcell 
            generalize wr.drewN nq = W7 at *
            have hs7 := Below.size (HB.out.trans k7)
            have he : q + 1 + 0 = q + 1 := rfl
            have SA := bx (show Sl W7 W7.heap.size (.slice A1 q q) q (ic (acc.take q)) by have := sl_take (HAC.out.from k7) q (by omega); rwa [show (ic acc).take q = ic (acc.take q) by simp [ic]] at this)
            have SB := bx (show Sl W7 W7.heap.size (.slice A1 0 0) 0 (ic (acc.drop q)) by rw [List.drop_eq_nil_of_le (by rw [HAL.out]; exact Nat.le_refl _)]; exact sl_empty _ _ _ _ (fun _ => rfl))
            have hla : (ic (acc.take q)).length = q * 1 := by rw [ic_len, List.length_take, HAL.out]; omega
            have hlb : (ic (acc.drop q)).length = 0 * 1 := by rw [ic_len, List.length_drop, HAL.out]; omega
            go_upto_region 10 with (at_builtin; refine app_sl rfl _ _ 22 rfl Try.elInt rfl (own_nil W7 W7.heap.size _ _) q (ic (acc.take q)) rfl SA.out hla (ic_one _) (by omega) (by unfold maxLen; omega) (Nat.le_refl _) ?_; intro A6 c6 w8 o8 g8 _)
            have k8 : From W7 w8 := From.app (From.refl _) (own_nil W7 W7.heap.size 3 1) (Nat.le_refl _) g8
            have hs8 := Below.size k8
            rw [Nat.zero_add, List.nil_append] at o8
            try simp only [Nat.zero_add]
            have xc8 := (k7.trans k8).cell HXC.out
            go_upto_region 11 with (at_builtin; refine app_sl rfl _ _ 22 rfl Try.elInt rfl (o8.alloc _) 1 [.int .i64 x] rfl (sl_new w8 [.int .i64 x] 3 1 1) rfl (by simp [Value.oneCell']) (by omega) (by unfold maxLen; omega) (by simp; omega) ?_; intro A7 c7 w9 o9 g9 _)
            have k9 : From W7 w9 := From.app (k8.alloc _) (o8.alloc _) (Nat.le_refl _) g9
            have hs9 := Below.size k9
            clear xc8 o8 g8 g9
            go_wp2_with (at_builtin; refine app_sl rfl _ _ 22 rfl Try.elInt rfl o9 0 (ic (acc.drop q)) rfl (SB.out.from k9) hlb (ic_one _) (by omega) (by unfold maxLen; omega) hs9 ?_; intro A8 c8 wA oA gA _)
            have kA : From W7 wA := From.app k9 o9 (Nat.le_refl _) gA
            have HFN := bx (show wA.ownsRow w.heap.size 3 1 (.slice A8 (q + 1) c8) (q + 1) (ic (sortedI (xs.take (q + 1)))) by
              rw [HS.out, HN.out]
              have := own_base oA hs7
              simpa [ic] using this)
            have HFF := bx ((HB.out.trans k7).trans kA)
            clear oA gA o9 k8 k9 kA
            go_wp2
            go_roundw
            case rel => exact ⟨q + 1, by omega, by go_num, HFN.out, HFF.out⟩
            case measure => simp [intOf]; omega
          · have k7 : From wo (wr.drewN nq) := From.drewN kd nq
            clear xc xcell 
            generalize wr.drewN nq = W7 at *
            have hs7 := Below.size (HB.out.trans k7)
            have he : q + 1 + 0 = q + 1 := rfl
            have SA := bx (show Sl W7 W7.heap.size (.slice A1 q c1) q (ic (acc.take q)) by have := sl_take (HAC.out.from k7) q (by omega); rwa [show (ic acc).take q = ic (acc.take q) by simp [ic]] at this)
            have SB := bx (show Sl W7 W7.heap.size (.slice (Option.map (fun a : Addr => a.add q) A1) 0 (c1 - q)) 0 (ic (acc.drop q)) by rw [List.drop_eq_nil_of_le (by rw [HAL.out]; exact Nat.le_refl _)]; exact sl_empty _ _ _ _ (fun h => by cases A1 with | none => have := HNN.out rfl; omega | some a => cases h))
            have hla : (ic (acc.take q)).length = q * 1 := by rw [ic_len, List.length_take, HAL.out]; omega
            have hlb : (ic (acc.drop q)).length = 0 * 1 := by rw [ic_len, List.length_drop, HAL.out]; omega
            go_upto_region 10 with (at_builtin; refine app_sl rfl _ _ 22 rfl Try.elInt rfl (own_nil W7 W7.heap.size _ _) q (ic (acc.take q)) rfl SA.out hla (ic_one _) (by omega) (by unfold maxLen; omega) (Nat.le_refl _) ?_; intro A6 c6 w8 o8 g8 _)
            have k8 : From W7 w8 := From.app (From.refl _) (own_nil W7 W7.heap.size 3 1) (Nat.le_refl _) g8
            have hs8 := Below.size k8
            rw [Nat.zero_add, List.nil_append] at o8
            try simp only [Nat.zero_add]
            have xc8 := (k7.trans k8).cell HXC.out
            go_upto_region 11 with (at_builtin; refine app_sl rfl _ _ 22 rfl Try.elInt rfl (o8.alloc _) 1 [.int .i64 x] rfl (sl_new w8 [.int .i64 x] 3 1 1) rfl (by simp [Value.oneCell']) (by omega) (by unfold maxLen; omega) (by simp; omega) ?_; intro A7 c7 w9 o9 g9 _)
            have k9 : From W7 w9 := From.app (k8.alloc _) (o8.alloc _) (Nat.le_refl _) g9
            have hs9 := Below.size k9
            clear xc8 o8 g8 g9
            go_wp2_with (at_builtin; refine app_sl rfl _ _ 22 rfl Try.elInt rfl o9 0 (ic (acc.drop q)) rfl (SB.out.from k9) hlb (ic_one _) (by omega) (by unfold maxLen; omega) hs9 ?_; intro A8 c8 wA oA gA _)
            have kA : From W7 wA := From.app k9 o9 (Nat.le_refl _) gA
            have HFN := bx (show wA.ownsRow w.heap.size 3 1 (.slice A8 (q + 1) c8) (q + 1) (ic (sortedI (xs.take (q + 1)))) by
              rw [HS.out, HN.out]
              have := own_base oA hs7
              simpa [ic] using this)
            have HFF := bx ((HB.out.trans k7).trans kA)
            clear oA gA o9 k8 k9 kA
            go_wp2
            go_roundw
            case rel => exact ⟨q + 1, by omega, by go_num, HFN.out, HFF.out⟩
            case measure => simp [intOf]; omega
    · have z3 : decide ((k : Int) < (xs.length : Int)) = false := decide_eq_false (by omega)
      obtain rfl : k = xs.length := by omega
      clear hown
      obtain ⟨A3, c3, rfl⟩ := slice_form HO.out
      rw [List.take_of_length_le (Nat.le_refl _), HR.out] at HO
      have hrl : r.length = xs.length := by rw [← HR.out, sortedI_len]
      have HRL := bx hrl
      clear hrl
      go_wp2
      go_ret
      exact ⟨A3, c3, by rw [HRL.out]; rfl, by have := sl_of_own HO.out; unfold Ints; rw [HRL.out]; exact this, HB.out⟩
set_option maxRecDepth 100000 in
set_option maxHeartbeats 4000000 in
theorem raised29_calls (A : Option Addr) (c : Nat) (ms : List Mon) (w : World) (h : Mons w (.slice A ms.length c) ms) (hm : ms.length ≤ 1000) (r : List Int) (hr : raisedM ms = r) :
    Calls Try.prog 70 #[.slice A ms.length c] w (IntsPost w r) := by
  have H := bx h
  rw [raised_two] at hr
  have HR := bx hr
  clear h hr
  go_enter Try.func70, Try.ntmps70
  go_wp2_with fail
  go_loopw [3, 4] (fun v i wr => ∃ k : Nat, k ≤ ms.length ∧ i = .int .i64 k ∧ wr.ownsRow w.heap.size 3 1 v (ddE (ms.take k)).length (ic (ddE (ms.take k))) ∧ From w wr) (fun _ i _ => ms.length - (intOf i).toNat)
  case atStart => exact ⟨0, Nat.zero_le _, rfl, own_nil _ _ _ _, From.refl _⟩
  case round =>
    obtain ⟨k, hk, rfl, hown, hbw⟩ := hrel
    have hl1 := ddE_len (ms.take k)
    rw [List.length_take] at hl1
    have HO := bx hown
    have HB := bx hbw
    clear hown
    by_cases hlt : k < ms.length
    · have y1 : (k : Int) < (ms.length : Int) := by omega
      have y2 : (0 : Int) ≤ (k : Int) := by omega
      obtain ⟨b, off, AP, cP, rfl, hb, hP, c0, c1, c2, c3, c4, c5, c6, c7⟩ := (H.out.from hbw).at_ hlt
      have hS := ddE_succ ms k hlt
      have HS := bx hS
      clear hS hP hbw
      obtain ⟨l, hl⟩ : ∃ l, ddE (ms.take k) = l := ⟨_, rfl⟩
      rw [hl] at HO HS hl1
      clear hl
      generalize ms[k] = m at *
      obtain ⟨mp, ml, mh, mn, mo, me, mps, mr⟩ := m
      simp only at c0 c1 c2 c3 c4 c5 c6 c7 HS
      obtain ⟨A3, c3', rfl⟩ := slice_form HO.out
      cases mr
      · have hn : ddE (ms.take (k + 1)) = l := by have := HS.out; simpa using this
        have HN := bx hn
        clear hn
        go_wp2_with fail
        go_roundw
        case rel => exact ⟨k + 1, by omega, by go_num, by rw [HN.out]; exact HO.out, HB.out⟩
        case measure => simp [intOf]; omega
      · obtain ⟨t, ht⟩ : ∃ t, l.contains me = t := ⟨_, rfl⟩
        have hHas := has_val A3 c3' l me wr (sl_of_own HO.out) (by omega) t ht
        have HH := bx hHas
        have hn : ddE (ms.take (k + 1)) = if !t then l ++ [me] else l := by have := HS.out; rw [ht] at this; simpa using this
        have HN := bx hn
        clear hn hHas ht
        go_wp2_with fail
        refine HH.out.mono ?_
        rintro e w2 ⟨rfl, hw2⟩
        subst hw2
        have HF := bx (Below.size HB.out)
        cases t
        · have hn : ddE (ms.take (k + 1)) = l ++ [me] := by have := HN.out; simpa using this
          have HN2 := bx hn
          clear hn
          go_wp2_with (at_builtin; refine app_sl rfl _ _ 22 rfl Try.elInt rfl (HO.out.alloc _) 1 [.int .i64 me] rfl (sl_new w2 [.int .i64 me] 3 1 1) rfl (by simp [Value.oneCell']) (by omega) (by unfold maxLen; omega) (by have := HF.out; simp; omega) ?_; intro A5 c5' w5 o5 g5 _)
          have hf5 : From w w5 := From.app (HB.out.alloc _) (HO.out.alloc _) (Nat.le_refl _) g5
          have HO5 := bx (show w5.ownsRow w.heap.size 3 1 (.slice A5 (l.length + 1) c5') (ddE (ms.take (k + 1))).length (ic (ddE (ms.take (k + 1)))) by rw [HN2.out, List.length_append, ic_append]; exact o5)
          clear o5 g5
          go_wp2
          go_roundw
          case rel => exact ⟨k + 1, by omega, by go_num, HO5.out, hf5⟩
          case measure => simp [intOf]; omega
        · have hn : ddE (ms.take (k + 1)) = l := by have := HN.out; simpa using this
          have HN2 := bx hn
          clear hn
          go_wp2_with fail
          go_roundw
          case rel => exact ⟨k + 1, by omega, by go_num, by rw [HN2.out]; exact HO.out, HB.out⟩
          case measure => simp [intOf]; omega
    · obtain rfl : k = ms.length := by omega
      rw [List.take_of_length_le (Nat.le_refl _)] at HO hl1
      clear hbw
      obtain ⟨A3, c3, rfl⟩ := slice_form HO.out
      have HSR := bx (sorted_calls A3 c3 (ddE ms) wr (sl_of_own HO.out) (by omega) r HR.out)
      go_wp2_with fail
      refine HSR.out.mono ?_
      rintro e w2 ⟨A4, c4, rfl, hI, k2⟩
      have HI := bx hI
      clear hI
      go_wp2
      go_ret
      exact ⟨A4, c4, rfl, HI.out, HB.out.trans k2⟩
end Go.Proofs.Ytlogokjjphlkkaa
