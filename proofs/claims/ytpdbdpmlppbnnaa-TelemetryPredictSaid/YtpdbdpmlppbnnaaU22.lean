/-
  Walks of layer 28's reference: Predict.
-/
import Derived.Test.YtpdbdpmlppbnnaaU21
namespace Go.Proofs.Ytpdbdpmlppbnnaa
open Go.RowKit Go.Shelf

theorem take_ic (z : List Int) (k : Nat) (hk : k < z.length) (y : Int) (hy : z[k] = y) : ic (z.take (k + 1)) = ic (z.take k) ++ [.int .i64 y] := by
  rw [List.take_succ_eq_append_getElem hk, hy, ic_append]; rfl
set_option maxHeartbeats 1000000 in
theorem predR_calls (q seq : Int) (v : Value) (l : List Int) (w : World) (h : Ints w v l) (hl : l.length ≤ 1000000) (hx : ∀ x ∈ l, fitsV x) (hq : 0 ≤ q ∧ q ≤ seq ∧ seq ≤ 1000000) (z : List Int) (hz : predP l q seq = z) :
    Calls Try.prog 17 #[snv q v, .int .i64 seq] w (RowPost w z) := by
  obtain ⟨A, c, rfl⟩ := h.form
  have hzl : z.length = l.length := by rw [← hz, predP_len]
  obtain ⟨V, hV⟩ : ∃ V, w.alloc (.cells #[.int .i64 q, .slice A l.length c] 24) = V := ⟨_, rfl⟩
  have b0 := heap_alloc_new w (.cells #[.int .i64 q, .slice A l.length c] 24)
  rw [hV] at b0
  have kV : From w V := by rw [← hV]; exact (From.refl _).alloc _
  have HX := bx (fun (W : World) (k : From V W) => box2 (k.heap b0))
  have HI := bx (h.from kV)
  have HK := bx kV
  have HF0 := bx hx
  have HZL := bx hzl
  have HZ0 := bx (fun (h0 : 0 < l.length) => (show z[0]'(by omega) = min (l[0] + seq - q) 2147483647 by
    cases l with
    | nil => simp at h0
    | cons x r => simp only [predP] at hz; subst hz; rfl))
  have HZ1 := bx (fun (k : Nat) (hk : k + 1 < l.length) => (show z[k + 1]'(by omega) = l[k + 1] by
    cases l with
    | nil => simp at hk
    | cons x r => simp only [predP] at hz; subst hz; rfl))
  clear h b0 kV hx hz
  go_enter Try.func17, Try.ntmps17
  go_wp2_with fail
  clear hV
  go_loopw [5, 6] (fun o i wr => ∃ k : Nat, k ≤ l.length ∧ i = .int .i64 k ∧ wr.ownsRow V.heap.size 3 1 o k (ic (z.take k)) ∧ From V wr) (fun _ i _ => l.length - (intOf i).toNat)
  case atStart => exact ⟨0, Nat.zero_le _, rfl, own_nil _ _ _ _, From.refl _⟩
  case round =>
    obtain ⟨k, hk, rfl, ho, hf⟩ := hrel
    have HO := bx ho
    have HF := bx hf
    clear ho
    obtain ⟨x0, x1, _, _, _⟩ := HX.out wr hf
    by_cases hlt : k < l.length
    · obtain ⟨b, f, rfl, _, v4⟩ := ints_at (HI.out.from hf) hlt
      have z1 : decide ((k : Int) < (l.length : Int)) = true := decide_eq_true (by omega)
      have z2 : (k : Int) < (l.length : Int) := by omega
      have z3 : (0 : Int) ≤ (k : Int) := by omega
      have hfx := HF0.out l[k] (List.getElem_mem hlt)
      unfold fitsV at hfx
      cases k with
      | zero =>
        rw [Nat.add_zero] at v4
        obtain ⟨y, hy⟩ : ∃ y, min (l[0] + seq - q) 2147483647 = y := ⟨_, rfl⟩
        have HTK := bx (take_ic z 0 (by have := HZL.out; omega) y (by rw [HZ0.out hlt, hy]))
        generalize l[0] = x at *
        have e1 : IntKind.i64.wrap (x + seq) = x + seq := IntWalk.i64_in _ (by omega)
        have e2 : IntKind.i64.wrap (x + seq - q) = x + seq - q := IntWalk.i64_in _ (by omega)
        have hif : (if x + seq - q < 2147483647 then x + seq - q else 2147483647) = y := by rw [← hy]; split <;> omega
        clear hf hy
        go_wp2_with (at_builtin; refine app_sl rfl _ _ 22 rfl Try.elInt rfl (HO.out.alloc _) 1 [.int .i64 y] rfl (sl_new wr [.int .i64 y] 3 1 1) rfl (by simp [Value.oneCell']) (by omega) (by unfold maxLen; omega) (by have := Below.size HF.out; simp; omega) ?_; intro A3 c3 w3 o3 g3 _)
        go_roundw
        case rel => exact ⟨0 + 1, by omega, by go_num, by rw [HTK.out]; exact o3, From.app (HF.out.alloc _) (HO.out.alloc _) (Nat.le_refl _) g3⟩
        case measure => simp [intOf]; omega
      | succ k =>
        have HTK := bx (take_ic z (k + 1) (by have := HZL.out; omega) l[k + 1] (HZ1.out k hlt))
        generalize l[k + 1] = x at *
        have z4 : (((k + 1 : Nat) : Int) == 0) = false := beq_eq_false_iff_ne.2 (by omega)
        generalize k + 1 = m at *
        clear hf
        go_wp2_with (at_builtin; refine app_sl rfl _ _ 22 rfl Try.elInt rfl (HO.out.alloc _) 1 [.int .i64 x] rfl (sl_new wr [.int .i64 x] 3 1 1) rfl (by simp [Value.oneCell']) (by omega) (by unfold maxLen; omega) (by have := Below.size HF.out; simp; omega) ?_; intro A3 c3 w3 o3 g3 _)
        go_roundw
        case rel => exact ⟨m + 1, by omega, by go_num, by rw [HTK.out]; exact o3, From.app (HF.out.alloc _) (HO.out.alloc _) (Nat.le_refl _) g3⟩
        case measure => simp [intOf]; omega
    · obtain rfl : k = l.length := by omega
      have z1 : decide ((l.length : Int) < (l.length : Int)) = false := decide_eq_false (by omega)
      obtain ⟨AO, cO, rfl⟩ := slice_form HO.out
      have hzt : z.take l.length = z := List.take_of_length_le (by rw [HZL.out]; exact Nat.le_refl _)
      have HZT := bx hzt
      clear hf hzt
      go_wp2_with fail
      go_ret
      refine ⟨AO, cO, by rw [HZL.out]; rfl, ?_, HK.out.trans HF.out⟩
      have o9 := HO.out
      rw [HZT.out] at o9
      rw [HZL.out]
      exact own_base o9 (Below.size HK.out)
end Go.Proofs.Ytpdbdpmlppbnnaa
