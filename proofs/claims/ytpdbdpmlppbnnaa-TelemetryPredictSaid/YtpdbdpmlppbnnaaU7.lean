/-
  Walks of layer 2's reference: numbers read.
-/
import Derived.Test.YtpdbdpmlppbnnaaU6
namespace Go.Proofs.Ytpdbdpmlppbnnaa
open Go.RowKit Go.Shelf

theorem mul_lt9 (m k P : Nat) (hP : P = 2 ^ (7 * k)) (hm : m < 128) (hk : k ≤ 8 ∨ (k = 9 ∧ m ≤ 1)) : m * P < 18446744073709551616 := by
  subst hP; exact grp_lt m k hm hk
/-- the slice that is left -/
theorem byts_drop {w : World} {bb off N c : Nat} {l : List Int} (h : Byts w (.slice (some ⟨bb, off, none⟩) N c) l) (hN : N = l.length) (k : Nat) (hk : k ≤ N) (hc : N ≤ c) :
    Byts w (.slice (some (if c = k then ⟨bb, off, none⟩ else ⟨bb, off + k, none⟩)) (N - k) (c - k)) (l.drop k) := by
  subst hN
  have hl : (l.drop k).length = l.length - k := by rw [List.length_drop]
  by_cases hck : c = k
  · rw [if_pos hck]
    have e : l.drop k = [] := List.drop_of_length_le (by omega)
    rw [e]
    refine ⟨.inr ⟨_, _, by rw [show l.length - k = 0 by omega]; rfl, fun j u hj => by simp [yc] at hj⟩⟩
  · rw [if_neg hck]
    refine ⟨.inr ⟨_, _, by rw [hl], fun j u hj => ?_⟩⟩
    have hj' : (yc l)[k + j]? = some u := by rw [← List.getElem?_drop]; simpa [yc, List.map_drop] using hj
    obtain ⟨b, o, e1, e2, e3⟩ := h.at_ hj'
    injection e1 with e1
    injection e1 with e1 e4 _
    subst e1 e4
    exact ⟨bb, off + k, rfl, e2, by rw [Nat.add_assoc]; exact e3⟩
theorem byts_none {w : World} {bb off k : Nat} {l : List Int} (hk : l.length ≤ k + 1) :
    RfV w (.agg #[.slice (some ⟨bb, off, none⟩) 0 0, .int .i64 0]) (.good (l.drop (k + 1))) := by
  have e : l.drop (k + 1) = [] := List.drop_of_length_le (by omega)
  rw [e]
  exact ⟨_, 0, rfl, ⟨.inr ⟨_, _, rfl, fun j u hj => by simp [yc] at hj⟩⟩, (fun x hx => nomatch hx), by simp, Nat.le_refl _⟩
theorem byts_some {w : World} {bb off N c k : Nat} {l : List Int} (h : Byts w (.slice (some ⟨bb, off, none⟩) N c) l) (hN : l.length = N) (hk : k < N) (hc : N ≤ c) (hb : bytes l) (hl : N ≤ 140737488355328) (hck : ¬ c = k + 1) :
    RfV w (.agg #[.slice (some ⟨bb, off + (k + 1), none⟩) (N - (k + 1)) (c - (k + 1)), .int .i64 0]) (.good (l.drop (k + 1))) := by
  have h1 := byts_drop h hN.symm (k + 1) (by omega) hc
  rw [if_neg hck] at h1
  have hl2 : (l.drop (k + 1)).length = N - (k + 1) := by rw [List.length_drop, hN]
  refine ⟨_, _, by rw [hl2], by rw [hl2]; exact h1, fun x hx => hb x (List.mem_of_mem_drop hx), by omega, by omega⟩
set_option maxHeartbeats 2000000 in
theorem fReadUint_calls (v : Value) (s : St) (w0 w : World) (h : RfV w0 v s) (k00 : From w0 w) :
    Calls Try.prog 55 #[v] w (ReadPost w0 w (.int .u64 (rdS s).1) (rdS s).2) := by
  obtain ⟨A, n, c, rfl⟩ := h.form
  obtain ⟨W, hW⟩ : ∃ W, (w.alloc (.cells #[.slice A n c, .int .i64 s.err] 84)).alloc (.cells #[.slice none 0 0, .int .i64 0] 84) = W := ⟨_, rfl⟩
  have k0 : From w W := by rw [← hW]; exact (From.alloc (From.refl _) _).alloc _
  have b0 : W.heap[w.heap.size + 1]? = some (.cells #[.slice none 0 0, .int .i64 0] 84 (0, 0)) := by rw [← hW]; have := heap_alloc_new (w.alloc (.cells #[.slice A n c, .int .i64 s.err] 84)) (.cells #[.slice none 0 0, .int .i64 0] 84); rwa [World.size_alloc] at this
  have r0 : W.heap[w.heap.size]? = some (.cells #[.slice A n c, .int .i64 s.err] 84 (0, 0)) := by rw [← hW]; exact ((From.refl _).alloc _).heap (heap_alloc_new _ _)
  have HX : ∀ (A2 : Option Addr) (n2 c2 : Nat) (x : Int) (w2 : World) (u : Nat), From W w2 → Bx (((w2.setCell ⟨w.heap.size + 1, 0, none⟩ (.slice A2 n2 c2)).setCell ⟨w.heap.size + 1, 1, none⟩ (.int .i64 x)).heap[w.heap.size + 1]? = some (.cells #[.slice A2 n2 c2, .int .i64 x] 84 (0, 0))) := fun A2 n2 c2 x w2 _ k => ⟨box2_set (k.heap b0) _ _⟩
  have HB := bx b0
  have HR := bx r0
  have HK := bx k0
  have hsz : w.heap.size + 1 < W.heap.size := (Array.getElem?_eq_some_iff.1 b0).1
  have FAIL := bx (fun (x : Int) (hx : x ≠ 0) (W2 : World) => ffail_calls (.agg #[.slice A n c, .int .i64 s.err]) s x w0 W2 h hx)
  have HK0 := bx k00
  have HH := bx h
  obtain ⟨q0, q1, q2, q3, _⟩ := box2 r0
  obtain ⟨t0, t1, t2, t3, _⟩ := box2 b0
  clear b0 r0 k0 h k00
  cases s with
  | bad e =>
    have d1 : (e != 0) = true := by simpa using HH.out.1
    simp only [St.err] at *
    go_enter Try.func55, Try.ntmps55
    go_wp2_with fail
    go_wp2
    have b9 := (HX A n c e W 0 (From.refl _)).out
    refine bodyPost_ret (v := .tuple #[.agg #[.slice A n c, .int .i64 e], .int .u64 0]) (by simp [results, Try.results55, go_sem, cell_of_row _ _ _ _ _ _ b9]) rfl ⟨_, rfl, ⟨HH.out.1, _, _, _, rfl⟩, from_set (from_set HK.out (by omega) _ _) (by omega) _ _⟩
  | good l =>
    simp only [St.err] at *
    obtain ⟨A', c', e1, hbl, hbb, hll, hlc⟩ := HH.out
    injection e1 with e1
    simp at e1
    obtain ⟨rfl, rfl, rfl⟩ := e1
    have HBL := bx hbl
    have HBB := bx hbb
    clear hbl hbb
    obtain ⟨N, hN⟩ : ∃ N, l.length = N := ⟨_, rfl⟩
    have HN := bx hN
    rw [hN] at q0 hll hlc hW HBL FAIL HR ⊢
    clear hN HH
    obtain ⟨R, hR⟩ : ∃ R, rdU l = R := ⟨_, rfl⟩
    have HRR := bx hR
    have HG := bx (show rdGo (l.drop 0) 0 0 = R from hR)
    clear hR
    go_enter Try.func55, Try.ntmps55
    go_wp2_with fail
    clear hW
    go_loopw [4, 5, 6] (fun n pw k wr => ∃ (acc kk P : Nat), n = .int .u64 acc ∧ pw = .int .u64 P ∧ k = .int .i64 kk ∧ kk ≤ 9 ∧ acc < 2 ^ (7 * kk) ∧ P = 2 ^ (7 * kk) ∧ kk ≤ N ∧ rdGo (l.drop kk) kk acc = R ∧ wr = W) (fun _ _ k _ => 10 - (intOf k).toNat)
    case atStart => exact ⟨0, 0, 1, rfl, rfl, rfl, by omega, by decide, rfl, Nat.zero_le _, HG.out, rfl⟩
    case round =>
      obtain ⟨acc, k, P, rfl, rfl, rfl, hk, hacc, hP, hkN, hg, rfl⟩ := hrel
      have HACC := bx hacc
      have HP := bx hP
      clear hP
      have z0 : decide ((k : Int) < 10) = true := decide_eq_true (by omega)
      by_cases hp : k = N
      · have hR : R = .err 6 := by rw [← hg, List.drop_of_length_le (by have := HN.out; omega), rdGo]
        have e1 : rdS (.good l) = (0, .bad 6) := by simp only [rdS, HRR.out, hR]
        have HE1 := bx e1
        have z1 : decide ((k : Int) ≥ (N : Int)) = true := decide_eq_true (by omega)
        subst hp
        clear hg hacc hR e1
        go_wp2_with fail
        refine (FAIL.out 6 (by decide) _).mono ?_
        rintro r2 w2 ⟨v2, rfl, hv2, k2⟩
        obtain ⟨A2, n2, c2, hv2e⟩ := hv2.form
        change v2 = .agg #[.slice A2 n2 c2, .int .i64 6] at hv2e
        subst hv2e
        have b9 := (HX A2 n2 c2 6 w2 0 k2).out
        have HV2 := bx hv2
        obtain ⟨q0, q1, q2, q3, _⟩ := box2 (k2.heap HR.out)
        obtain ⟨t0, t1, t2, t3, _⟩ := box2 (k2.heap HB.out)
        clear hv2
        go_wp2
        refine bodyPost_ret (v := .tuple #[.agg #[.slice A2 n2 c2, .int .i64 6], .int .u64 0]) (by simp [results, Try.results55, go_sem, cell_of_row _ _ _ _ _ _ b9]) rfl ⟨_, by rw [HE1.out]; rfl, by rw [HE1.out]; exact ⟨by decide, _, _, _, rfl⟩, from_set (from_set (HK.out.trans k2) (by omega) _ _) (by omega) _ _⟩
      · have hlt : k < l.length := by have := HN.out; omega
        obtain ⟨bb, off, rfl, _, v1⟩ := byts_at (HBL.out.from (HK0.out.trans HK.out)) hlt
        have hx := HBB.out l[k] (List.getElem_mem hlt)
        have hg2 : rdGo (l[k] :: l.drop (k + 1)) k acc = R := by rw [← hg, List.drop_eq_getElem_cons hlt]
        generalize l[k] = y at *
        obtain ⟨y0, y1⟩ := hx
        have z1 : decide ((k : Int) ≥ (N : Int)) = false := decide_eq_false (by omega)
        have z2 : (k : Int) < (N : Int) := by omega
        have z3 : (0 : Int) ≤ (k : Int) := by omega
        clear hg hacc
        by_cases hbad : (k = 9 ∧ y ≠ 1) ∨ (0 < k ∧ y = 0)
        · have e1 : rdS (.good l) = (0, .bad 7) := by rw [rdGo_bad hbad] at hg2; simp only [rdS, HRR.out, ← hg2]
          have HE1 := bx e1
          have HBAD := bx hbad
          clear hbad hg2 e1
          by_cases hk9 : k = 9
          · have a1 : ((k : Int) == 9) = true := by simp [hk9]
            have HK9 := bx hk9
            clear hk9
            have hy : (y != 1) = true := by
              rcases HBAD.out with ⟨_, h⟩ | ⟨_, h⟩
              · simpa using h
              · simp [h]
            go_wp2_with fail
            refine (FAIL.out 7 (by decide) _).mono ?_
            rintro r2 w2 ⟨v2, rfl, hv2, k2⟩
            obtain ⟨A2, n2, c2, hv2e⟩ := hv2.form
            change v2 = .agg #[.slice A2 n2 c2, .int .i64 7] at hv2e
            subst hv2e
            have b9 := (HX A2 n2 c2 7 w2 0 k2).out
            have HV2 := bx hv2
            obtain ⟨q0, q1, q2, q3, _⟩ := box2 (k2.heap HR.out)
            obtain ⟨t0, t1, t2, t3, _⟩ := box2 (k2.heap HB.out)
            clear hv2
            go_wp2
            refine bodyPost_ret (v := .tuple #[.agg #[.slice A2 n2 c2, .int .i64 7], .int .u64 0]) (by simp [results, Try.results55, go_sem, cell_of_row _ _ _ _ _ _ b9]) rfl ⟨_, by rw [HE1.out]; rfl, by rw [HE1.out]; exact ⟨by decide, _, _, _, rfl⟩, from_set (from_set (HK.out.trans k2) (by omega) _ _) (by omega) _ _⟩
          · have a1 : ((k : Int) == 9) = false := by simp; omega
            have a2 : 0 < k ∧ y = 0 := by
              rcases HBAD.out with ⟨h, _⟩ | h
              · exact absurd h hk9
              · exact h
            obtain ⟨a3, rfl⟩ := a2
            have a4 : (0 : Int) < (k : Int) := by omega
            have a6 : decide ((0 : Int) < (k : Int)) = true := decide_eq_true a4
            clear hk9
            go_wp2_with fail
            refine (FAIL.out 7 (by decide) _).mono ?_
            rintro r2 w2 ⟨v2, rfl, hv2, k2⟩
            obtain ⟨A2, n2, c2, hv2e⟩ := hv2.form
            change v2 = .agg #[.slice A2 n2 c2, .int .i64 7] at hv2e
            subst hv2e
            have b9 := (HX A2 n2 c2 7 w2 0 k2).out
            have HV2 := bx hv2
            obtain ⟨q0, q1, q2, q3, _⟩ := box2 (k2.heap HR.out)
            obtain ⟨t0, t1, t2, t3, _⟩ := box2 (k2.heap HB.out)
            clear hv2
            go_wp2
            refine bodyPost_ret (v := .tuple #[.agg #[.slice A2 n2 c2, .int .i64 7], .int .u64 0]) (by simp [results, Try.results55, go_sem, cell_of_row _ _ _ _ _ _ b9]) rfl ⟨_, by rw [HE1.out]; rfl, by rw [HE1.out]; exact ⟨by decide, _, _, _, rfl⟩, from_set (from_set (HK.out.trans k2) (by omega) _ _) (by omega) _ _⟩
        · have b1 : ((k : Int) == 9 && y != 1) = false := by
            by_cases hk9 : k = 9
            · have : y = 1 := Classical.byContradiction fun h => hbad (.inl ⟨hk9, h⟩)
              simp [this]
            · have : ¬ (k : Int) = 9 := by omega
              simp [this]
          have b2 : 0 < k → y ≠ 0 := fun h h2 => hbad (.inr ⟨h, h2⟩)
          have hm : y.toNat % 128 < 128 := by omega
          have hgl := mul_lt9 (y.toNat % 128) k P HP.out hm (by
            by_cases hk9 : k = 9
            · have : y = 1 := Classical.byContradiction fun h => hbad (.inl ⟨hk9, h⟩)
              exact .inr ⟨hk9, by omega⟩
            · exact .inl (by omega))
          have e0 : y % 128 = ((y.toNat % 128 : Nat) : Int) := by omega
          have hcast : ((y.toNat % 128 : Nat) : Int) * (P : Int) = ((y.toNat % 128 * P : Nat) : Int) := by simp
          have e2 : IntKind.u64.wrap (((y.toNat % 128 : Nat) : Int) * (P : Int)) = ((y.toNat % 128 : Nat) : Int) * (P : Int) := by rw [hcast, IntKind.wrap_u64]; omega
          have hend := @rdGo_end y (l.drop (k + 1)) k acc hbad y0
          have hon := @rdGo_on y (l.drop (k + 1)) k acc hbad
          rw [← HP.out] at hend hon
          have hmp : y.toNat % 128 * P ≤ 127 * P := Nat.mul_le_mul_right _ (by omega)
          have hlt2 : acc + y.toNat % 128 * P < 2 ^ (7 * (k + 1)) := by
            have h1 := HACC.out
            have h2 : 2 ^ (7 * (k + 1)) = 128 * 2 ^ (7 * k) := by rw [Nat.mul_add, Nat.pow_add, Nat.mul_comm]
            rw [← HP.out] at h1 h2
            omega
          have hp8 : k < 9 → P * 128 < 18446744073709551616 := by
            intro h
            have h1 : 2 ^ (7 * k) ≤ 2 ^ 56 := Nat.pow_le_pow_right (by decide) (by omega)
            rw [← HP.out] at h1
            omega
          have hps : P * 128 = 2 ^ (7 * (k + 1)) := by rw [HP.out, Nat.mul_add, Nat.pow_add]
          have hv64 : acc + y.toNat % 128 * P < 18446744073709551616 := by
            by_cases hk9 : k = 9
            · have : y = 1 := Classical.byContradiction fun h => hbad (.inl ⟨hk9, h⟩)
              have h1 := HACC.out
              have h2 := HP.out
              subst hk9 this
              simp at h1 h2 ⊢
              omega
            · have h1 := HACC.out
              have h3 := hp8 (by omega)
              rw [← HP.out] at h1
              omega
          have e3 : IntKind.u64.wrap ((acc : Int) + ((y.toNat % 128 : Nat) : Int) * (P : Int)) = ((acc + y.toNat % 128 * P : Nat) : Int) := by rw [hcast, IntKind.wrap_u64]; omega
          have e4 : IntKind.u64.wrap ((y.toNat % 128 : Nat) : Int) = ((y.toNat % 128 : Nat) : Int) := by rw [IntKind.wrap_u64]; omega
          have hy128 : ¬ y < 128 → k < 9 := by
            intro h
            by_cases hk9 : k = 9
            · have : y = 1 := Classical.byContradiction fun h => hbad (.inl ⟨hk9, h⟩)
              omega
            · omega
          have HLT2 := bx hlt2
          have HG2 := bx hg2
          have HEND := bx hend
          have HON := bx hon
          have HP8 := bx hp8
          have HPS := bx hps
          have HY128 := bx hy128
          have HB1 := bx b1
          have HB2 := bx b2
          obtain ⟨V, hV⟩ : ∃ V, acc + y.toNat % 128 * P = V := ⟨_, rfl⟩
          have HV := bx hV
          rw [hV] at e3
          generalize y.toNat % 128 = m at *
          clear hend hon hg2 hlt2 hgl hbad hV hmp hp8 hps hv64 hcast hy128 b1 b2
          by_cases hk9 : k = 9
          · have hy : y < 128 := Classical.byContradiction fun h => by have := HY128.out h; omega
            have a1 : ((k : Int) == 9) = true := by simp [hk9]
            have a2 : (y != 1) = false := by have := HB1.out; rw [a1] at this; simpa using this
            have a3 : (0 : Int) < (k : Int) := by omega
            have a6 : decide ((0 : Int) < (k : Int)) = true := decide_eq_true a3
            have a4 : (y == 0) = false := by simpa using HB2.out (by omega)
            have a5 : decide (y < 128) = true := decide_eq_true hy
            clear hk9
            have e9 : rdS (.good l) = (V, .good (l.drop (k + 1))) := by rw [HV.out] at HEND; simp only [rdS, HRR.out, ← HG2.out, HEND.out hy]
            have HE9 := bx e9
            clear e9
            by_cases hck : c = k + 1
            · subst hck
              obtain rfl : N = k + 1 := by omega
              have HD := bx (show RfV w0 (.agg #[.slice (some ⟨bb, off, none⟩) 0 0, .int .i64 0]) (.good (l.drop (k + 1))) from byts_none (by have := HN.out; omega))
              go_wp2
              have b9 : (((wr.setCell ⟨w.heap.size, 0, none⟩ (.slice (some ⟨bb, off, none⟩) 0 0)).setCell ⟨w.heap.size + 1, 0, none⟩ (.slice (some ⟨bb, off, none⟩) 0 0)).setCell ⟨w.heap.size + 1, 1, none⟩ (.int .i64 0)).heap[w.heap.size + 1]? = some (.cells #[.slice (some ⟨bb, off, none⟩) 0 0, .int .i64 0] 84 (0, 0)) := box2_set (by rw [heap_set_off _ (by omega)]; exact HB.out) _ _
              have k9 := from_set (from_set (from_set HK.out (Nat.le_refl _) 0 (.slice (some ⟨bb, off, none⟩) 0 0)) (show w.heap.size ≤ w.heap.size + 1 by omega) 0 (.slice (some ⟨bb, off, none⟩) 0 0)) (show w.heap.size ≤ w.heap.size + 1 by omega) 1 (.int .i64 0)
              refine bodyPost_ret (v := .tuple #[.agg #[.slice (some ⟨bb, off, none⟩) 0 0, .int .i64 0], .int .u64 V]) (by simp [results, Try.results55, go_sem, cell_of_row _ _ _ _ _ _ b9]) rfl ⟨_, by rw [HE9.out], by rw [HE9.out]; exact HD.out, k9⟩
            · have HD := bx (byts_some (k := k) HBL.out HN.out (by omega) hlc HBB.out hll hck)
              go_wp2
              have b9 : (((wr.setCell ⟨w.heap.size, 0, none⟩ (.slice (some ⟨bb, off + (k + 1), none⟩) (N - (k + 1)) (c - (k + 1)))).setCell ⟨w.heap.size + 1, 0, none⟩ (.slice (some ⟨bb, off + (k + 1), none⟩) (N - (k + 1)) (c - (k + 1)))).setCell ⟨w.heap.size + 1, 1, none⟩ (.int .i64 0)).heap[w.heap.size + 1]? = some (.cells #[.slice (some ⟨bb, off + (k + 1), none⟩) (N - (k + 1)) (c - (k + 1)), .int .i64 0] 84 (0, 0)) := box2_set (by rw [heap_set_off _ (by omega)]; exact HB.out) _ _
              have k9 := from_set (from_set (from_set HK.out (Nat.le_refl _) 0 (.slice (some ⟨bb, off + (k + 1), none⟩) (N - (k + 1)) (c - (k + 1)))) (show w.heap.size ≤ w.heap.size + 1 by omega) 0 (.slice (some ⟨bb, off + (k + 1), none⟩) (N - (k + 1)) (c - (k + 1)))) (show w.heap.size ≤ w.heap.size + 1 by omega) 1 (.int .i64 0)
              refine bodyPost_ret (v := .tuple #[.agg #[.slice (some ⟨bb, off + (k + 1), none⟩) (N - (k + 1)) (c - (k + 1)), .int .i64 0], .int .u64 V]) (by simp [results, Try.results55, go_sem, cell_of_row _ _ _ _ _ _ b9]) rfl ⟨_, by rw [HE9.out], by rw [HE9.out]; exact HD.out, k9⟩
          · have a1 : ((k : Int) == 9) = false := by simp; omega
            clear hk9
            by_cases hk0 : k = 0
            · subst hk0
              rw [Nat.add_zero] at v1
              clear a1
              by_cases hy : y < 128
              · have a5 : decide (y < 128) = true := decide_eq_true hy
                have e9 : rdS (.good l) = (V, .good (l.drop (0 + 1))) := by rw [HV.out] at HEND; simp only [rdS, HRR.out, ← HG2.out, HEND.out hy]
                have HE9 := bx e9
                clear e9
                by_cases hck : c = 0 + 1
                · subst hck
                  obtain rfl : N = 0 + 1 := by omega
                  have HD := bx (show RfV w0 (.agg #[.slice (some ⟨bb, off, none⟩) 0 0, .int .i64 0]) (.good (l.drop (0 + 1))) from byts_none (by have := HN.out; omega))
                  go_wp2
                  have b9 : (((wr.setCell ⟨w.heap.size, 0, none⟩ (.slice (some ⟨bb, off, none⟩) 0 0)).setCell ⟨w.heap.size + 1, 0, none⟩ (.slice (some ⟨bb, off, none⟩) 0 0)).setCell ⟨w.heap.size + 1, 1, none⟩ (.int .i64 0)).heap[w.heap.size + 1]? = some (.cells #[.slice (some ⟨bb, off, none⟩) 0 0, .int .i64 0] 84 (0, 0)) := box2_set (by rw [heap_set_off _ (by omega)]; exact HB.out) _ _
                  have k9 := from_set (from_set (from_set HK.out (Nat.le_refl _) 0 (.slice (some ⟨bb, off, none⟩) 0 0)) (show w.heap.size ≤ w.heap.size + 1 by omega) 0 (.slice (some ⟨bb, off, none⟩) 0 0)) (show w.heap.size ≤ w.heap.size + 1 by omega) 1 (.int .i64 0)
                  refine bodyPost_ret (v := .tuple #[.agg #[.slice (some ⟨bb, off, none⟩) 0 0, .int .i64 0], .int .u64 V]) (by simp [results, Try.results55, go_sem, cell_of_row _ _ _ _ _ _ b9]) rfl ⟨_, by rw [HE9.out], by rw [HE9.out]; exact HD.out, k9⟩
                · have HD := bx (byts_some (k := 0) HBL.out HN.out (by omega) hlc HBB.out hll hck)
                  go_wp2
                  have b9 : (((wr.setCell ⟨w.heap.size, 0, none⟩ (.slice (some ⟨bb, off + (0 + 1), none⟩) (N - (0 + 1)) (c - (0 + 1)))).setCell ⟨w.heap.size + 1, 0, none⟩ (.slice (some ⟨bb, off + (0 + 1), none⟩) (N - (0 + 1)) (c - (0 + 1)))).setCell ⟨w.heap.size + 1, 1, none⟩ (.int .i64 0)).heap[w.heap.size + 1]? = some (.cells #[.slice (some ⟨bb, off + (0 + 1), none⟩) (N - (0 + 1)) (c - (0 + 1)), .int .i64 0] 84 (0, 0)) := box2_set (by rw [heap_set_off _ (by omega)]; exact HB.out) _ _
                  have k9 := from_set (from_set (from_set HK.out (Nat.le_refl _) 0 (.slice (some ⟨bb, off + (0 + 1), none⟩) (N - (0 + 1)) (c - (0 + 1)))) (show w.heap.size ≤ w.heap.size + 1 by omega) 0 (.slice (some ⟨bb, off + (0 + 1), none⟩) (N - (0 + 1)) (c - (0 + 1)))) (show w.heap.size ≤ w.heap.size + 1 by omega) 1 (.int .i64 0)
                  refine bodyPost_ret (v := .tuple #[.agg #[.slice (some ⟨bb, off + (0 + 1), none⟩) (N - (0 + 1)) (c - (0 + 1)), .int .i64 0], .int .u64 V]) (by simp [results, Try.results55, go_sem, cell_of_row _ _ _ _ _ _ b9]) rfl ⟨_, by rw [HE9.out], by rw [HE9.out]; exact HD.out, k9⟩
              · have a5 : decide (y < 128) = false := decide_eq_false hy
                have hk8 := HY128.out hy
                have e6 : IntKind.u64.wrap ((P : Int) * 128) = (P : Int) * 128 := by rw [IntKind.wrap_u64]; have := HP8.out hk8; omega
                go_wp2
                go_roundw
                case rel => exact ⟨V, 0 + 1, P * 128, rfl, by simp, by go_num, by omega, by rw [← HV.out]; exact HLT2.out, HPS.out, by omega, by rw [← HG2.out, HON.out hy, HV.out], trivial⟩
                case measure => simp [intOf]
            · have a3 : (0 : Int) < (k : Int) := by omega
              have a6 : decide ((0 : Int) < (k : Int)) = true := decide_eq_true a3
              have a4 : (y == 0) = false := by simpa using HB2.out (by omega)
              clear hk0
              by_cases hy : y < 128
              · have a5 : decide (y < 128) = true := decide_eq_true hy
                have e9 : rdS (.good l) = (V, .good (l.drop (k + 1))) := by rw [HV.out] at HEND; simp only [rdS, HRR.out, ← HG2.out, HEND.out hy]
                have HE9 := bx e9
                clear e9
                by_cases hck : c = k + 1
                · subst hck
                  obtain rfl : N = k + 1 := by omega
                  have HD := bx (show RfV w0 (.agg #[.slice (some ⟨bb, off, none⟩) 0 0, .int .i64 0]) (.good (l.drop (k + 1))) from byts_none (by have := HN.out; omega))
                  go_wp2
                  have b9 : (((wr.setCell ⟨w.heap.size, 0, none⟩ (.slice (some ⟨bb, off, none⟩) 0 0)).setCell ⟨w.heap.size + 1, 0, none⟩ (.slice (some ⟨bb, off, none⟩) 0 0)).setCell ⟨w.heap.size + 1, 1, none⟩ (.int .i64 0)).heap[w.heap.size + 1]? = some (.cells #[.slice (some ⟨bb, off, none⟩) 0 0, .int .i64 0] 84 (0, 0)) := box2_set (by rw [heap_set_off _ (by omega)]; exact HB.out) _ _
                  have k9 := from_set (from_set (from_set HK.out (Nat.le_refl _) 0 (.slice (some ⟨bb, off, none⟩) 0 0)) (show w.heap.size ≤ w.heap.size + 1 by omega) 0 (.slice (some ⟨bb, off, none⟩) 0 0)) (show w.heap.size ≤ w.heap.size + 1 by omega) 1 (.int .i64 0)
                  refine bodyPost_ret (v := .tuple #[.agg #[.slice (some ⟨bb, off, none⟩) 0 0, .int .i64 0], .int .u64 V]) (by simp [results, Try.results55, go_sem, cell_of_row _ _ _ _ _ _ b9]) rfl ⟨_, by rw [HE9.out], by rw [HE9.out]; exact HD.out, k9⟩
                · have HD := bx (byts_some (k := k) HBL.out HN.out (by omega) hlc HBB.out hll hck)
                  go_wp2
                  have b9 : (((wr.setCell ⟨w.heap.size, 0, none⟩ (.slice (some ⟨bb, off + (k + 1), none⟩) (N - (k + 1)) (c - (k + 1)))).setCell ⟨w.heap.size + 1, 0, none⟩ (.slice (some ⟨bb, off + (k + 1), none⟩) (N - (k + 1)) (c - (k + 1)))).setCell ⟨w.heap.size + 1, 1, none⟩ (.int .i64 0)).heap[w.heap.size + 1]? = some (.cells #[.slice (some ⟨bb, off + (k + 1), none⟩) (N - (k + 1)) (c - (k + 1)), .int .i64 0] 84 (0, 0)) := box2_set (by rw [heap_set_off _ (by omega)]; exact HB.out) _ _
                  have k9 := from_set (from_set (from_set HK.out (Nat.le_refl _) 0 (.slice (some ⟨bb, off + (k + 1), none⟩) (N - (k + 1)) (c - (k + 1)))) (show w.heap.size ≤ w.heap.size + 1 by omega) 0 (.slice (some ⟨bb, off + (k + 1), none⟩) (N - (k + 1)) (c - (k + 1)))) (show w.heap.size ≤ w.heap.size + 1 by omega) 1 (.int .i64 0)
                  refine bodyPost_ret (v := .tuple #[.agg #[.slice (some ⟨bb, off + (k + 1), none⟩) (N - (k + 1)) (c - (k + 1)), .int .i64 0], .int .u64 V]) (by simp [results, Try.results55, go_sem, cell_of_row _ _ _ _ _ _ b9]) rfl ⟨_, by rw [HE9.out], by rw [HE9.out]; exact HD.out, k9⟩
              · have a5 : decide (y < 128) = false := decide_eq_false hy
                have hk8 := HY128.out hy
                have e6 : IntKind.u64.wrap ((P : Int) * 128) = (P : Int) * 128 := by rw [IntKind.wrap_u64]; have := HP8.out hk8; omega
                go_wp2
                go_roundw
                case rel => exact ⟨V, k + 1, P * 128, rfl, by simp, by go_num, by omega, by rw [← HV.out]; exact HLT2.out, HPS.out, by omega, by rw [← HG2.out, HON.out hy, HV.out], trivial⟩
                case measure => simp [intOf]; omega
end Go.Proofs.Ytpdbdpmlppbnnaa
