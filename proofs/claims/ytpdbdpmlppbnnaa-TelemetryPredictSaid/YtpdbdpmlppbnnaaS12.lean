/-
  Walks of layer 28's reference: Order.
-/
import Derived.Test.YtpdbdpmlppbnnaaS11
import Derived.Deep.CutRange
import Derived.Deep.CutBlock
namespace Go.Proofs.Ytpdbdpmlppbnnaa
open Go.RowKit Go.Shelf

set_option maxHeartbeats 4000000 in
set_option maxRecDepth 10000 in
theorem rOrder_calls (A : Option Addr) (c : Nat) (P : List Int) (w : World) (h : Ints w (.slice A P.length c) P) (hn : P.length ≤ 17592186044416) :
    Calls Try.prog 13 #[.slice A P.length c] w (OrdPost w P) := by
  obtain ⟨n, hN⟩ : ∃ n, P.length = n := ⟨_, rfl⟩
  have HN := bx hN
  have H := bx h
  rw [hN] at hn H ⊢
  clear hN h
  go_enter Try.func13, Try.ntmps13
  go_wp2_with fail
  go_loopw [3, 4, 5, 6] (fun o i _ _ wr => ∃ (k : Nat) (d : List Nat), k ≤ n ∧ i = .int .i64 k ∧ (k = 0 → o = .slice none 0 0) ∧ Good P 0 d ∧ d.length = k ∧ wr.ownsRow w.heap.size 3 1 o k (ic (nl d)) ∧ From w wr) (fun _ i _ _ _ => n - (intOf i).toNat)
  case atStart => exact ⟨0, [], Nat.zero_le _, rfl, fun _ => rfl, good_nil _ _, rfl, own_nil _ _ _ _, From.refl _⟩
  case round =>
    obtain ⟨i, d, hi, rfl, h0, hg, hd, ho, hf⟩ := hrel
    have HO := bx ho
    have HF := bx hf
    have HG := bx hg
    have HD := bx hd
    have H0 := bx h0
    clear ho hf hg hd h0
    by_cases hlt : i < n
    · have z1 : decide ((i : Int) < (n : Int)) = true := decide_eq_true (by omega)
      obtain ⟨AO, cO, hform⟩ := slice_form HO.out
      subst hform
      have hsz := Below.size HF.out
      obtain ⟨pb, po, hA, _, vi⟩ := ints_at (H.out.from HF.out) (k := i) (by have := HN.out; omega)
      subst hA
      rw [← getD_nat P i (by have := HN.out; omega)] at vi
      obtain ⟨pi, hpi⟩ : ∃ p, P.getD i 0 = p := ⟨_, rfl⟩
      have HPI := bx hpi
      rw [hpi] at vi
      have HVI := bx vi
      clear hpi vi
      go_upto_block 2 with fail
      go_cut [5] from 13 to 32 (fun va wx => ∃ k q : Nat, va = .int .i64 k ∧ k ≤ i ∧ (∀ x ∈ d.take k, P.getD i 0 ≤ P.getD x 0) ∧ (∀ x ∈ (d.drop k).head?, P.getD x 0 < P.getD i 0) ∧ wx = wr.drewN q)
      case first =>
        go_wp2_with fail
        go_loopw [5] (fun va wx => ∃ at_ q : Nat, va = .int .i64 at_ ∧ at_ ≤ i ∧ (∀ x ∈ d.take at_, P.getD i 0 ≤ P.getD x 0) ∧ wx = wr.drewN q) (fun va _ => i - (intOf va).toNat)
        case atStart => exact ⟨0, 0, rfl, Nat.zero_le _, by simp, rfl⟩
        case round =>
          obtain ⟨k, q, rfl, hki, hall, hw⟩ := hrel
          have HALL := bx hall
          have HW := bx hw
          clear hall hw
          by_cases hlk : k < i
          · have z2 : decide ((k : Int) < (i : Int)) = true := decide_eq_true (by omega)
            have hkd : k < d.length := by rw [HD.out]; exact hlk
            obtain ⟨g, off, hAO, _, c1⟩ := ints_at (show Sl _ _ (.slice AO i cO) i (ic (nl d)) from sl_of_own HO.out) (k := k) (by rw [nl_len]; exact hkd)
            subst hAO
            rw [show (nl d)[k]'(by rw [nl_len]; exact hkd) = ((d[k] : Nat) : Int) by simp [nl]] at c1
            have hxm := HG.out.mem (List.getElem_mem hkd)
            have HTK := bx (show d.take (k + 1) = d.take k ++ [d[k]] from List.take_succ_eq_append_getElem hkd)
            have HDR := bx (show d.drop k = d[k] :: d.drop (k + 1) from List.drop_eq_getElem_cons hkd)
            obtain ⟨x, hx⟩ : ∃ x, d[k] = x := ⟨_, rfl⟩
            rw [hx] at c1 hxm HTK HDR
            have hxn : x < n := by have := HD.out; omega
            obtain ⟨pb', po', hA', _, vx⟩ := ints_at (H.out.from HF.out) (k := x) (by have := HN.out; omega)
            injection hA' with hA'
            injection hA' with e1 e2 _
            subst e1 e2
            rw [← getD_nat P x (by have := HN.out; omega)] at vx
            obtain ⟨px, hpx⟩ : ∃ p, P.getD x 0 = p := ⟨_, rfl⟩
            have HPX := bx hpx
            rw [hpx] at vx
            have c1' : wr.cell? ⟨g, off + k, none⟩ = some (.int .i64 (x : Nat)) := by rw [HW.out]; exact c1
            have vx' : wr.cell? ⟨pb, po + x, none⟩ = some (.int .i64 px) := by rw [HW.out]; exact vx
            have vi' : wr.cell? ⟨pb, po + i, none⟩ = some (.int .i64 pi) := by rw [HW.out]; exact HVI.out
            have z3 : (0 : Int) ≤ (k : Int) := by omega
            have z4 : (k : Int) < (i : Int) := by omega
            have z5 : (0 : Int) ≤ (x : Int) := by omega
            have z6 : (x : Int) < (n : Int) := by omega
            have z7 : (0 : Int) ≤ (i : Int) := by omega
            have z8 : (i : Int) < (n : Int) := by omega
            clear hx hxm hpx c1 vx hkd
            go_wp2_with fail
            go_quiet (fail)
            go_wp2_with fail
            · go_roundw
              case rel => exact ⟨k + 1, _, by go_num, by omega, fun y hy => by
                rw [HTK.out] at hy
                rcases List.mem_append.1 hy with hy | hy
                · exact HALL.out y hy
                · rw [List.mem_singleton.1 hy, HPX.out, HPI.out]
                  omega, by rw [HW.out]; exact World.drewN_drewN _ _ _⟩
              case measure => simp [intOf]; omega
            · go_meet
              case rel => exact ⟨k, _, rfl, by omega, HALL.out, fun y hy => by
                rw [HDR.out] at hy
                injection hy with hy
                rw [← hy, HPX.out, HPI.out]
                omega, by rw [HW.out]; exact World.drewN_drewN _ _ _⟩
          · have z2 : decide ((k : Int) < (i : Int)) = false := decide_eq_false (by omega)
            go_wp2_with fail
            go_quiet (fail)
            go_wp2_with fail
            go_meet
            case rel => exact ⟨k, _, rfl, hki, HALL.out, by rw [List.drop_eq_nil_of_le (by rw [HD.out]; omega)]; simp, by rw [HW.out]; exact World.drewN_drewN _ _ _⟩
      case rest =>
        obtain ⟨k, q, rfl, hki, hall, hhd, hw⟩ := hcut
        have HP := bx (good_put (P := P) (k := i) (A := d.take k) (B := d.drop k) (by rw [List.take_append_drop]; exact HG.out) (by rw [List.take_append_drop]; exact HD.out) hall hhd)
        have HLN := bx (show (d.take k ++ i :: d.drop k).length = i + 1 by rw [List.length_append, List.length_cons, ← Nat.add_assoc, ← List.length_append, List.take_append_drop, HD.out])
        have HOC := bx (show wc.ownsRow w.heap.size 3 1 (.slice AO i cO) i (ic (nl d)) by rw [hw]; exact own_drewN HO.out q)
        have HFC := bx (show From w wc by rw [hw]; exact ⟨HF.out.os, HF.out.tape, HF.out.output, HF.out.size, HF.out.block⟩)
        have HKI := bx hki
        have e1 : IntKind.i64.wrap ((i : Int) + 1) = (i : Int) + 1 := IntWalk.i64_in _ (by omega)
        have hsz2 := Below.size HFC.out
        clear hall hhd hw hsz
        by_cases hi0 : i = 0
        · subst hi0
          have hk0 : k = 0 := by omega
          subst hk0
          have hon := H0.out rfl
          injection hon with ho1 _ ho2
          subst ho1 ho2
          have HDN := bx (show d = [] from List.length_eq_zero_iff.1 HD.out)
          go_wp2_with (first
            | (at_builtin; refine app_sl rfl _ _ 22 rfl Try.elInt rfl (own_nil wc wc.heap.size _ _) 0 [] rfl (Sl.nil _ wc.heap.size) (by simp) (by simp) (by omega) (by unfold maxLen; omega) (Nat.le_refl _) ?_; intro A1 c1 w1 o1 g1 _; have m1 := From.app (From.refl wc) (own_nil wc wc.heap.size 3 1) (Nat.le_refl _) g1)
            | (at_builtin; refine app_sl rfl _ _ 22 rfl Try.elInt rfl (o1.alloc _) 1 [.int .i64 0] rfl (sl_new w1 [.int .i64 0] 3 1 1) rfl (by simp [Value.oneCell']) (by omega) (by unfold maxLen; omega) (by have := Below.size m1; simp; omega) ?_; intro A2 c2 w2 o2 g2 _; have m2 := From.app (m1.alloc (.cells #[.int .i64 0] 3)) (o1.alloc (.cells #[.int .i64 0] 3)) (Nat.le_refl _) g2)
            | (at_builtin; refine app_sl rfl _ _ 22 rfl Try.elInt rfl o2 0 [] rfl (Sl.nil _ wc.heap.size) (by simp) (by simp) (by omega) (by unfold maxLen; omega) (Below.size m2) ?_; intro A3 c3 w3 o3 g3 _; have m3 := From.app m2 o2 (Nat.le_refl _) g3))
          go_roundw
          case rel =>
            have hp := HP.out
            rw [HDN.out] at hp
            refine ⟨0 + 1, [0], by omega, by go_num, fun h => by omega, hp, rfl, ?_, HFC.out.trans m3⟩
            exact own_base (by simpa [ic, nl] using o3) hsz2
          case measure => simp [intOf]; omega
        · obtain ⟨g, cO', hv, _⟩ := HOC.out.form (by omega)
          injection hv with hv1 _ hv2
          subst hv1 hv2
          have hic := own_cap HOC.out
          have HSL := bx (sl_of_own HOC.out)
          have HT := bx (show Sl wc wc.heap.size (.slice (some ⟨g, 0, none⟩) k cO) k (ic (nl (d.take k))) by rw [← nl_take]; exact sl_take HSL.out)
          have y1 : (k : Int) ≤ (cO : Int) := by omega
          have y2 : (0 : Int) ≤ (k : Int) := by omega
          have y3 : (k : Int) ≤ (i : Int) := by omega
          have y4 : ¬ cO = 0 := by omega
          have HML := bx (show (d.take k).length = k by rw [List.length_take, HD.out]; omega)
          by_cases hck : cO = k
          · have hik : k = i := by omega
            have HE0 : Bx (∀ W, Sl W W.heap.size (.slice (some ⟨g, 0, none⟩) 0 0) 0 []) := ⟨fun W => ⟨.inr ⟨_, _, rfl, fun j u hj => by simp at hj⟩⟩⟩
            subst hck
            subst hik
            go_wp2_with (first
              | (at_builtin; refine app_sl rfl _ _ 22 rfl Try.elInt rfl (own_nil wc wc.heap.size _ _) cO (ic (nl (d.take cO))) rfl HT.out (by rw [ic_len, nl_len, HML.out, Nat.mul_one]) (ic_one _) (by omega) (by unfold maxLen; omega) (Nat.le_refl _) ?_; intro A1 c1 w1 o1 g1 _; rw [Nat.zero_add, List.nil_append] at o1; have m1 := From.app (From.refl wc) (own_nil wc wc.heap.size 3 1) (Nat.le_refl _) g1)
              | (at_builtin; refine app_sl rfl _ _ 22 rfl Try.elInt rfl (o1.alloc _) 1 [.int .i64 cO] rfl (sl_new w1 [.int .i64 cO] 3 1 1) rfl (by simp [Value.oneCell']) (by omega) (by unfold maxLen; omega) (by have := Below.size m1; simp; omega) ?_; intro A2 c2 w2 o2 g2 _; have m2 := From.app (m1.alloc (.cells #[.int .i64 cO] 3)) (o1.alloc (.cells #[.int .i64 cO] 3)) (Nat.le_refl _) g2)
              | (at_builtin; refine app_sl rfl _ _ 22 rfl Try.elInt rfl o2 0 [] rfl (HE0.out w2) (by simp) (by simp) (by omega) (by unfold maxLen; omega) (Below.size m2) ?_; intro A3 c3 w3 o3 g3 _; have m3 := From.app m2 o2 (Nat.le_refl _) g3))
            go_roundw
            case rel =>
              refine ⟨cO + 1, _, by omega, by go_num, fun h => by omega, HP.out, HLN.out, ?_, HFC.out.trans m3⟩
              have e2 : ic (nl (d.take cO ++ cO :: d.drop cO)) = ic (nl (d.take cO)) ++ [.int .i64 cO] ++ [] := by rw [List.drop_of_length_le (by rw [HD.out]; omega)]; simp [ic, nl]
              rw [e2]
              exact own_base o3 hsz2
            case measure => simp [intOf]; omega
          · have HDD := bx (show Sl wc wc.heap.size (.slice (some ⟨g, k, none⟩) (i - k) (cO - k)) (i - k) (ic (nl (d.drop k))) by rw [← nl_drop]; exact sl_drop HSL.out hck)
            have HDL := bx (show (d.drop k).length = i - k by rw [List.length_drop, HD.out])
            go_wp2_with (first
              | (at_builtin; refine app_sl rfl _ _ 22 rfl Try.elInt rfl (own_nil wc wc.heap.size _ _) k (ic (nl (d.take k))) rfl HT.out (by rw [ic_len, nl_len, HML.out, Nat.mul_one]) (ic_one _) (by omega) (by unfold maxLen; omega) (Nat.le_refl _) ?_; intro A1 c1 w1 o1 g1 _; rw [Nat.zero_add, List.nil_append] at o1; have m1 := From.app (From.refl wc) (own_nil wc wc.heap.size 3 1) (Nat.le_refl _) g1)
              | (at_builtin; refine app_sl rfl _ _ 22 rfl Try.elInt rfl (o1.alloc _) 1 [.int .i64 i] rfl (sl_new w1 [.int .i64 i] 3 1 1) rfl (by simp [Value.oneCell']) (by omega) (by unfold maxLen; omega) (by have := Below.size m1; simp; omega) ?_; intro A2 c2 w2 o2 g2 _; have m2 := From.app (m1.alloc (.cells #[.int .i64 i] 3)) (o1.alloc (.cells #[.int .i64 i] 3)) (Nat.le_refl _) g2)
              | (at_builtin; refine app_sl rfl _ _ 22 rfl Try.elInt rfl o2 (i - k) (ic (nl (d.drop k))) rfl (HDD.out.from m2) (by rw [ic_len, nl_len, HDL.out, Nat.mul_one]) (ic_one _) (by omega) (by unfold maxLen; omega) (Below.size m2) ?_; intro A3 c3 w3 o3 g3 _; have m3 := From.app m2 o2 (Nat.le_refl _) g3))
            go_roundw
            case rel =>
              refine ⟨i + 1, _, by omega, by go_num, fun h => by omega, HP.out, HLN.out, ?_, HFC.out.trans m3⟩
              have e : k + 1 + (i - k) = i + 1 := by omega
              rw [e] at o3 ⊢
              have e2 : ic (nl (d.take k ++ i :: d.drop k)) = ic (nl (d.take k)) ++ [.int .i64 i] ++ ic (nl (d.drop k)) := by simp [ic, nl]
              rw [e2]
              exact own_base o3 hsz2
            case measure => simp [intOf]; omega
    · have z1 : decide ((i : Int) < (n : Int)) = false := decide_eq_false (by omega)
      obtain rfl : i = n := by omega
      obtain ⟨AO, cO, hform⟩ := slice_form HO.out
      subst hform
      go_wp2_with fail
      go_ret
      have hl : (nl d).length = i := by rw [nl_len]; exact HD.out
      exact ⟨d, HG.out, HD.out.trans HN.out.symm, AO, cO, by rw [hl]; rfl, by rw [hl]; exact HO.out, HF.out⟩
end Go.Proofs.Ytpdbdpmlppbnnaa
